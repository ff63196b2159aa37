/-
  Texts put behind each other by a program: Pq3, Chk, Left3, Left4, LeftN, Swap, Pile, Pile2, Pile3, Shed, Shed2, Shed3, Shed4, Remove, HeapOn, Dary, Dary2, Dary3, Dary4, Dary5, ShedP, Ring, Fib, Fib2, Fib3, Fib4, Fib5, Fib6, Fib7, Fib9, Fib8, Ring2, FibA, FibB, Pq4n, Pq5, MapH.
-/
import Derived.Test.YtjlnnljohemifaaGreatK1
import Derived.Test.YtjlnnljohemifaaGreatK9
import Derived.Test.YtjlnnljohemifaaGreatK17
import Derived.Test.YtjlnnljohemifaaGreatK19
import Derived.Test.YtjlnnljohemifaaGreatK20
set_option linter.unusedVariables false
set_option linter.unusedSimpArgs false
namespace Go.Proofs.YtjlnnljohemifaaGreat
open Go Go.Vc
section
variable {H H' H1 H2 : Hp} {s : Nat} {S S1 : Nat → Prop} {w w2 : Nw} {A A2 : Ar} {q q2 : Int}
theorem StM.tmp {b : Nat} {l : List Value} (h : StM H1 s S1 w A q) (hb : ¬ S1 b) : StM (H1.wr b l) s S1 w A q := h.ext ((Ext.refl (fun x => x = b) _).wr (fun _ => rfl) _ : Ext (fun x => x = b) H1 _) (fun z hz e => hb (by rw [← e]; exact hz))
theorem stx_fin (h : StM H2 s S1 w A q) (e : Ext S H H2) (hs : ∀ z, S1 z → S z ∨ H.size ≤ z) : StX s S H H2 w A q := ⟨S1, h, e, hs⟩
theorem ext_tmp {b : Nat} {l : List Value} (e : Ext S H H1) (hb : H.size ≤ b) : Ext S H (H1.wr b l) := by
  have e2 : Ext (fun x => x = b) H1 (H1.wr b l) := (Ext.refl (fun x => x = b) _).wr (fun _ => rfl) _
  exact ⟨Nat.le_trans e.size e2.size, fun z hz hn => by rw [e2.keep z (Nat.lt_of_lt_of_le hz e.size) (by omega), e.keep z hz hn]⟩
set_option maxRecDepth 100000 in
set_option maxHeartbeats 1000000 in
theorem pq_Min_spec (h : StM H s S w A q) {g : Int} (hg : w.has g) : CallH Tryz.prog n_pq_Store_Min [ptr s, i64 g] H fun v H' => Post (
    (w.len g = 0 ∧ v = .tuple [hnd 0 0, i64 0, i64 172].toArray ∧ StX s S H H' w A q) ∨ (∃ x y, w.first g x ∧ w.cs[x.toNat]? = some y ∧ v = .tuple [hnd x (A.gen x), i64 y.2.1, i64 0].toArray ∧ StX s S H H' w A q)) := by
  have hslt := h.slt
  have hlk := h.lnk.1
  refine ccT d_pq_Store_Min ⟨rfl, ?_⟩
  refine v1 s_pq_Store_Min.eq_1 ?_
  have f0 : Fresh H (H.new 114 [Value.int .i64 0, Value.int .u32 0]) := (Ext.refl _ _).new _ _
  have b0 : (H.new 114 [Value.int .i64 0, Value.int .u32 0]).own H.size = some [Value.int .i64 0, Value.int .u32 0] := own_new _ _ _
  have z0 : (H.new 114 [Value.int .i64 0, Value.int .u32 0]).size = H.size + 1 := size_new _ _ _
  generalize H.new 114 [Value.int .i64 0, Value.int .u32 0] = H0 at *
  have h0 := h.ext f0 (fun _ _ h => h)
  have hSn : ∀ z, H.size ≤ z → ¬ S z := fun z hz h => by have := hslt z h; omega
  refine (pq_first_spec h0 hg).mono ?_
  rintro _ H1 (⟨hl0, rfl, S1, h1, e1, hs1⟩ | ⟨x, hx, rfl, S1, h1, e1, hs1⟩)
  · have b1 := e1.own b0 (hSn _ (Nat.le_refl _))
    have hz1 := e1.size
    refine vs ?_
    obtain ⟨f2, b2, z2⟩ := zst H1 114 [Value.int .i64 0, Value.int .u32 0] [i64 0, Value.int .u32 ((0 : Nat) : Int)]
    generalize (H1.new 114 [Value.int .i64 0, Value.int .u32 0]).wr H1.size [i64 0, Value.int .u32 ((0 : Nat) : Int)] = H2 at *
    have b3 := f2.own b1 (fun h => h)
    refine Both.dec (fun hh => by omega) (fun _ => ?_)
    refine v1 b3 ?_
    obtain ⟨e4, b4⟩ := wst b3 [Value.int .i64 0, Value.int .u32 0]
    have e2 : Ext S H H2 := ((f0.mono fun _ _ h => h.elim).trans e1).trans (f2.mono fun _ _ h => h.elim)
    have hn1 : ¬ S1 H.size := fun h => by rcases hs1 _ h with h | h; exact hSn _ (Nat.le_refl _) h; omega
    have h3 := ((h1.ext f2 (fun _ _ h => h)).tmp hn1 (l := [Value.int .i64 0, Value.int .u32 0]))
    have e5 := ext_tmp (l := [Value.int .i64 0, Value.int .u32 0]) e2 (Nat.le_refl H.size)
    refine v1 (rd_of_own b4) ?_
    exact .inl ⟨hl0, rfl, stx_fin h3 e5 (fun z hz => (hs1 z hz).imp_right fun h => by omega)⟩
  · have b1 := e1.own b0 (hSn _ (Nat.le_refl _))
    have hz1 := e1.size
    have hlive := first_live hlk hx
    refine vs ?_
    obtain ⟨f2, b2, z2⟩ := zst H1 114 [Value.int .i64 0, Value.int .u32 0] [i64 x, Value.int .u32 ((A.gen x : Nat) : Int)]
    generalize (H1.new 114 [Value.int .i64 0, Value.int .u32 0]).wr H1.size [i64 x, Value.int .u32 ((A.gen x : Nat) : Int)] = H2 at *
    have b3 := f2.own b1 (fun h => h)
    have h2 := h1.ext f2 (fun _ _ h => h)
    refine Both.dec (fun _ => ?_) (fun hh => absurd trivial hh)
    refine v1 (rd_of_own b2) ?_
    have hsl1 := h1.slt
    refine (pq_entry_spec h2 hlive).mono ?_
    rintro _ H3 ⟨y, hy, rfl, S3, h3, e3, hs3⟩
    have hn1 : ¬ S1 H.size := fun h => by rcases hs1 _ h with h | h; exact hSn _ (Nat.le_refl _) h; omega
    have hn2 : ¬ S1 H1.size := fun h => by have := hsl1 _ h; omega
    have b4 := e3.own b3 hn1
    have c4 := e3.own b2 hn2
    have hz3 := e3.size
    refine vs ?_
    obtain ⟨f5, b5, z5⟩ := zst H3 224 [Value.int .i64 0, Value.int .u64 0] [i64 y.2.1, u64 y.2.2]
    generalize (H3.new 224 [Value.int .i64 0, Value.int .u64 0]).wr H3.size [i64 y.2.1, u64 y.2.2] = H5 at *
    have b6 := f5.own b4 (fun h => h)
    have c6 := f5.own c4 (fun h => h)
    have h5 := h3.ext f5 (fun _ _ h => h)
    have hn3 : ∀ b, ¬ S1 b → b < H2.size → ¬ S3 b := fun b hb hb2 h => by rcases hs3 _ h with h | h; exact hb h; omega
    have e5 : Ext S H H5 := by
      have e2 : Ext S H H2 := ((f0.mono fun _ _ h => h.elim).trans e1).trans (f2.mono fun _ _ h => h.elim)
      have e3' : Ext S H H3 := ⟨Nat.le_trans e2.size e3.size, fun z hz hn => by rw [e3.keep z (Nat.lt_of_lt_of_le hz e2.size) (fun h => by rcases hs1 z h with h | h; exact hn h; omega), e2.keep z hz hn]⟩
      exact e3'.trans (f5.mono fun _ _ h => h.elim)
    refine InvV.intro (fun H' => H'.own H3.size = some [i64 y.2.1, u64 y.2.2]) b5 ?_
    refine vs ?_
    refine StbV.intro (i64 y.2.1) (fun H' hI => by refine v1 (rd_of_own hI) ?_; trivial) ?_
    refine v1 (rd_of_own c6) ?_
    refine And.intro b5 ?_
    refine v1 b6 ?_
    obtain ⟨e7, b7⟩ := wst b6 [i64 x, Value.int .u32 ((A.gen x : Nat) : Int)]
    have b57 := e7.own b5 (fun e => by omega)
    first
      | refine And.intro b57 ?_
      | refine And.intro b5 ?_
    have h7 := h5.tmp (hn3 _ hn1 (by omega)) (l := [i64 x, Value.int .u32 ((A.gen x : Nat) : Int)])
    have e8 := ext_tmp (l := [i64 x, Value.int .u32 ((A.gen x : Nat) : Int)]) e5 (Nat.le_refl H.size)
    refine v1 (rd_of_own b7) ?_
    refine .inr ⟨x, y, hx, hy, rfl, stx_fin h7 e8 (fun z hz => ?_)⟩
    rcases hs3 z hz with h | h
    · exact (hs1 z h).imp_right fun h => by omega
    · exact .inr (by omega)
theorem first_one {g x x' : Int} (h : w.first g x) (h' : w.first g x') : x' = x := by
  obtain ⟨_, h2, h3⟩ := hmW_first.1 h
  obtain ⟨_, h5, h6⟩ := hmW_first.1 h'
  apply Classical.byContradiction
  intro hne
  have := (ltW_strict w).asym (h3 x' h5 hne)
  rw [h6 x h2 (Ne.symm hne)] at this
  cases this
set_option maxRecDepth 100000 in
set_option maxHeartbeats 1000000 in
theorem pq_ExtractMin_spec (h : StM H s S w A q) {g : Int} (hg : w.has g) : CallH Tryz.prog n_pq_Store_ExtractMin [ptr s, i64 g] H fun v H' => Post (
    (w.len g = 0 ∧ v = .tuple [hnd 0 0, i64 0, i64 172].toArray ∧ StX s S H H' w A q) ∨ (∃ x y, w.first g x ∧ w.cs[x.toNat]? = some y ∧ v = .tuple [hnd x (A.gen x), i64 y.2.1, i64 0].toArray ∧ StX s S H H' (w.put x (0, 0, 0)) (A.back x) q)) := by
  have hslt := h.slt
  have hlk := h.lnk.1
  refine ccT d_pq_Store_ExtractMin ⟨rfl, ?_⟩
  refine v1 s_pq_Store_ExtractMin.eq_1 ?_
  have f0 : Fresh H (H.new 114 [Value.int .i64 0, Value.int .u32 0]) := (Ext.refl _ _).new _ _
  have b0 : (H.new 114 [Value.int .i64 0, Value.int .u32 0]).own H.size = some [Value.int .i64 0, Value.int .u32 0] := own_new _ _ _
  have z0 : (H.new 114 [Value.int .i64 0, Value.int .u32 0]).size = H.size + 1 := size_new _ _ _
  generalize H.new 114 [Value.int .i64 0, Value.int .u32 0] = H0 at *
  have h0 := h.ext f0 (fun _ _ h => h)
  have hSn : ∀ z, H.size ≤ z → ¬ S z := fun z hz h => by have := hslt z h; omega
  refine (pq_Min_spec h0 hg).mono ?_
  rintro _ H1 (⟨hl0, rfl, S1, h1, e1, hs1⟩ | ⟨x, y, hx, hy, rfl, S1, h1, e1, hs1⟩)
  · have b1 := e1.own b0 (hSn _ (Nat.le_refl _))
    have hz1 := e1.size
    refine vs ?_
    obtain ⟨f2, b2, z2⟩ := zst H1 114 [Value.int .i64 0, Value.int .u32 0] [i64 0, Value.int .u32 ((0 : Nat) : Int)]
    generalize (H1.new 114 [Value.int .i64 0, Value.int .u32 0]).wr H1.size [i64 0, Value.int .u32 ((0 : Nat) : Int)] = H2 at *
    have b3 := f2.own b1 (fun h => h)
    refine Both.dec (fun hh => by omega) (fun _ => ?_)
    refine v1 b3 ?_
    obtain ⟨e4, b4⟩ := wst b3 [Value.int .i64 0, Value.int .u32 0]
    have e2 : Ext S H H2 := ((f0.mono fun _ _ h => h.elim).trans e1).trans (f2.mono fun _ _ h => h.elim)
    have hn1 : ¬ S1 H.size := fun h => by rcases hs1 _ h with h | h; exact hSn _ (Nat.le_refl _) h; omega
    have h3 := ((h1.ext f2 (fun _ _ h => h)).tmp hn1 (l := [Value.int .i64 0, Value.int .u32 0]))
    have e5 := ext_tmp (l := [Value.int .i64 0, Value.int .u32 0]) e2 (Nat.le_refl H.size)
    refine v1 (rd_of_own b4) ?_
    exact .inl ⟨hl0, rfl, stx_fin h3 e5 (fun z hz => (hs1 z hz).imp_right fun h => by omega)⟩
  · have b1 := e1.own b0 (hSn _ (Nat.le_refl _))
    have hz1 := e1.size
    have hlive := first_live hlk hx
    refine vs ?_
    obtain ⟨f2, b2, z2⟩ := zst H1 114 [Value.int .i64 0, Value.int .u32 0] [i64 x, Value.int .u32 ((A.gen x : Nat) : Int)]
    generalize (H1.new 114 [Value.int .i64 0, Value.int .u32 0]).wr H1.size [i64 x, Value.int .u32 ((A.gen x : Nat) : Int)] = H2 at *
    have b3 := f2.own b1 (fun h => h)
    have hsl1 := h1.slt
    have h2 := h1.ext f2 (fun _ _ h => h)
    have hn1 : ¬ S1 H.size := fun h => by rcases hs1 _ h with h | h; exact hSn _ (Nat.le_refl _) h; omega
    have hn2 : ¬ S1 H1.size := fun h => by have := hsl1 _ h; omega
    obtain ⟨t, vv, I, Sn, B, k, d, n, hi, m, ho, d1, d2, hS, _⟩ := h2
    refine Both.dec (fun _ => ?_) (fun hh => absurd trivial hh)
    refine v1 (rd_of_own ho) ?_
    refine (n.extract g hi).mono ?_
    have hBn : ∀ z, B.S z → z < H2.size := m.slt
    have hos := own_lt ho
    rintro _ H3 (⟨hl0, _⟩ | ⟨x', hx', rfl, Sn', hi3, e3, hs3⟩)
    · exfalso
      obtain ⟨hg0, hxg, _⟩ := hmW_first.1 hx
      exact (hmW_len0 hg0).1 hl0 x hxg
    obtain rfl := first_one hx hx'
    have ho3 := e3.own ho (fun h => (d1 _ h).2 rfl)
    have b4 := e3.own b3 (fun h => hn1 ((hS _).2 (.inl h)))
    have c4 := e3.own b2 (fun h => hn2 ((hS _).2 (.inl h)))
    have m3 := m.ext e3 (fun z hz h => (d1 z h).1 hz)
    have hz3 := e3.size
    refine v2 (rd_of_own ho3) (rd_of_own c4) ?_
    refine (arena_Give_spec m3 hlive).mono ?_
    rintro _ H4 ⟨rfl, fo', m4, e4, hfo⟩
    have nB1 : ¬ B.S H.size := fun h => hn1 ((hS _).2 (.inr (.inl h)))
    have nB2 : ¬ B.S H1.size := fun h => hn2 ((hS _).2 (.inr (.inl h)))
    have b5 := e4.own b4 nB1
    have c5 := e4.own c4 nB2
    have ho4 := e4.own ho3 d2
    have hz4 := e4.size
    refine v2 (rd_of_own c5) b5 ?_
    obtain ⟨e6, b6⟩ := wst b5 [i64 x', Value.int .u32 ((A.gen x' : Nat) : Int)]
    refine v1 (rd_of_own b6) ?_
    have hSn' : ∀ z, Sn' z → Sn z ∨ H2.size ≤ z := hs3
    have hB' : ∀ z, (ArB.mk B.a B.sb fo').S z → B.S z ∨ H3.size ≤ z := fun z hz => by
      rcases hz with h | h | h
      · exact .inl (.inl h)
      · exact .inl (.inr (.inl h))
      · exact (hfo z h).imp_left fun h => .inr (.inr h)
    have hiT : I H4 Sn' (w.put x' (0, 0, 0)) := n.ext hi3 e4 (fun z hz hb => by
      rcases hSn' z hz with h | h
      · exact (d1 z h).1 hb
      · have := hBn z hb; omega)
    have hsl3 := fun z hz => n.slt hi3 z hz
    have nn1 : ∀ b, ¬ S1 b → b < H2.size → ¬ Sn' b ∧ ¬ (ArB.mk B.a B.sb fo').S b := fun b hb hb2 => by
      refine ⟨fun h => ?_, fun h => ?_⟩
      · rcases hSn' b h with h | h
        · exact hb ((hS b).2 (.inl h))
        · omega
      · rcases hB' b h with h | h
        · exact hb ((hS b).2 (.inr (.inl h)))
        · omega
    have hne1 : H.size ≠ s := fun e => hn1 ((hS _).2 (.inr (.inr e)))
    have hxr := Ar.live_in hlive
    have hst : StM H4 s (fun z => Sn' z ∨ (ArB.mk B.a B.sb fo').S z ∨ z = s) (w.put x' (0, 0, 0)) (A.back x') q := by
      refine ⟨t, vv, I, Sn', ⟨B.a, B.sb, fo'⟩, k, d, n, hiT, m4, ho4, fun z hz => ?_, fun h => ?_, fun z => Iff.rfl, hlk.put hxr rfl⟩
      · rcases hSn' z hz with h | h
        · refine ⟨fun hb => ?_, (d1 z h).2⟩
          rcases hB' z hb with h2 | h2
          · exact (d1 z h).1 h2
          · have := hsl3 z hz; omega
        · refine ⟨fun hb => ?_, fun e => by omega⟩
          rcases hB' z hb with h2 | h2
          · have := hBn z h2; omega
          · have := hsl3 z hz; omega
      · rcases hB' _ h with h2 | h2
        · exact d2 h2
        · omega
    have hst6 := hst.tmp (b := H.size) (l := [i64 x', Value.int .u32 ((A.gen x' : Nat) : Int)]) (fun h => by
      obtain ⟨q1, q2⟩ := nn1 _ hn1 (by omega)
      rcases h with h | h | h
      · exact q1 h
      · exact q2 h
      · exact hne1 h)
    have e04 : Ext S H H4 := by
      have e2 : Ext S H H2 := ((f0.mono fun _ _ h => h.elim).trans e1).trans (f2.mono fun _ _ h => h.elim)
      exact ⟨by have := e2.size; omega, fun z hz hn => by
        have hz2 := e2.size
        have hns : ¬ S1 z := fun h => by rcases hs1 z h with h | h; exact hn h; omega
        rw [e4.keep z (by omega) (fun h => hns ((hS z).2 (.inr (.inl h)))), e3.keep z (by omega) (fun h => hns ((hS z).2 (.inl h))), e2.keep z hz hn]⟩
    have hz2 := f2.size
    refine .inr ⟨x', y, hx, hy, rfl, stx_fin hst6 (ext_tmp e04 (Nat.le_refl _)) (fun z hz => ?_)⟩
    have hor : S1 z ∨ H2.size ≤ z := by
      rcases hz with h | h | h
      · rcases hSn' z h with h | h
        · exact .inl ((hS z).2 (.inl h))
        · exact .inr h
      · rcases hB' z h with h | h
        · exact .inl ((hS z).2 (.inr (.inl h)))
        · exact .inr (by omega)
      · exact .inl ((hS z).2 (.inr (.inr h)))
    rcases hor with h | h
    · exact (hs1 z h).imp_right fun h => by omega
    · exact .inr (by omega)
end
end Go.Proofs.YtjlnnljohemifaaGreat

namespace Go.Proofs.YtjlnnljohemifaaGreat
open Go Go.Vc
abbrev cfgV (kd dd : Int) : Value := .agg [i64 kd, i64 dd].toArray
def FineK (kd dd : Int) : Prop := (1 ≤ kd ∧ kd ≤ 8) ∧ ((kd = 2 ∧ 2 ≤ dd ∧ dd ≤ 16) ∨ (kd ≠ 2 ∧ dd = 0))
instance (kd dd : Int) : Decidable (FineK kd dd) := by unfold FineK; exact inferInstance
def chk (kd dd : Int) : Int := if kd < 1 ∨ 8 < kd then 21 else if FineK kd dd then 0 else 22
theorem chk21 {kd dd : Int} (h : kd < 1 ∨ 8 < kd) : chk kd dd = 21 := by unfold chk; rw [if_pos h]
theorem chk0 {kd dd : Int} (h : FineK kd dd) : chk kd dd = 0 := by
  have := h.1
  unfold chk
  rw [if_neg (by omega), if_pos h]
theorem chk22 {kd dd : Int} (h1 : ¬ (kd < 1 ∨ 8 < kd)) (h : ¬ FineK kd dd) : chk kd dd = 22 := by unfold chk; rw [if_neg h1, if_neg h]
theorem chk_zero {kd dd : Int} : chk kd dd = 0 ↔ FineK kd dd := by
  constructor
  · intro h
    apply Classical.byContradiction
    intro hn
    by_cases h1 : kd < 1 ∨ 8 < kd
    · rw [chk21 h1] at h; cases h
    · rw [chk22 h1 hn] at h; cases h
  · exact chk0
theorem gauge_Chk_spec (kd dd : Int) (H : Hp) : CallH Tryz.prog n_gauge_Check [cfgV kd dd] H fun v H' => Post (v = i64 (chk kd dd) ∧ Fresh H H') := by
  refine ccT d_gauge_Check ⟨rfl, ?_⟩
  refine v1 s_gauge_Check.eq_1 ?_
  have f0 : Fresh H (H.new 23 [i64 kd, i64 dd]) := (Ext.refl _ _).new _ _
  repeat' (refine Both.dec (fun _ => ?_) (fun _ => ?_) <;> try (refine v1 decide_true ?_))
  all_goals
    first
      | (exfalso; omega)
      | (refine ⟨?_, f0⟩; exact (congrArg i64 (chk21 (by omega))).symm)
      | (refine ⟨?_, f0⟩; exact (congrArg i64 (chk0 (by unfold FineK; omega))).symm)
      | (refine ⟨?_, f0⟩; exact (congrArg i64 (chk22 (by omega) (by unfold FineK; omega))).symm)
theorem ref02_Chk_spec (kd dd : Int) (H : Hp) : CallH Tryz.prog n_ref02_Check [cfgV kd dd] H fun v H' => Post (v = i64 (chk kd dd) ∧ Fresh H H') := by
  refine ccT d_ref02_Check ⟨rfl, ?_⟩
  refine v1 s_ref02_Check.eq_1 ?_
  have f0 : Fresh H (H.new 23 [i64 kd, i64 dd]) := (Ext.refl _ _).new _ _
  repeat' (refine Both.dec (fun _ => ?_) (fun _ => ?_) <;> try (refine v1 decide_true ?_))
  all_goals
    first
      | (exfalso; omega)
      | (refine ⟨?_, f0⟩; exact (congrArg i64 (chk21 (by omega))).symm)
      | (refine ⟨?_, f0⟩; exact (congrArg i64 (chk0 (by unfold FineK; omega))).symm)
      | (refine ⟨?_, f0⟩; exact (congrArg i64 (chk22 (by omega) (by unfold FineK; omega))).symm)
theorem gauge_Arity1_spec {kd dd : Int} (hf : FineK kd dd) (hk : kd = 1 ∨ kd = 2) (H : Hp) : CallH Tryz.prog n_gauge_Arity [cfgV kd dd] H fun v H' => Post (v = i64 (if kd = 1 then 2 else dd) ∧ Fresh H H') := by
  refine ccT d_gauge_Arity ⟨rfl, ?_⟩
  refine v1 s_gauge_Arity.eq_1 ?_
  have f0 : Fresh H (H.new 23 [i64 kd, i64 dd]) := (Ext.refl _ _).new _ _
  have o0 : (H.new 23 [i64 kd, i64 dd]).own H.size = some [i64 kd, i64 dd] := own_new _ _ _
  generalize H.new 23 [i64 kd, i64 dd] = H0 at *
  refine (gauge_Chk_spec kd dd H0).mono ?_
  rintro _ H1 ⟨rfl, f1⟩
  have o1 := f1.own o0 (fun h => h)
  rw [chk0 hf]
  refine v2 (rd_of_own o1) decide_true ?_
  rcases hk with rfl | rfl
  · refine Both.of_true (by decide) ?_
    refine v2 (rd_of_own o1) decide_true ?_
    exact ⟨rfl, f0.trans f1⟩
  · refine Both.of_false (by decide) ?_
    refine v2 (rd_of_own o1) decide_true ?_
    exact ⟨rfl, f0.trans f1⟩
def nw0 (cap : Int) : Nw := ⟨[false], List.replicate cap.toNat (0, 0, 0)⟩
theorem hmW_none (cap : Int) (x : Int) : ¬ 0 < hmW (nw0 cap) x := by
  intro h
  obtain ⟨h1, h2, e, he⟩ := hmW_get h
  have h3 : (List.replicate cap.toNat ((0, 0, 0) : Ce))[x.toNat]? = some (hmW (nw0 cap) x, e) := he
  have := List.eq_of_mem_replicate (List.mem_of_getElem? h3)
  injection this with h4 h5
  omega
theorem topF_none (g : Int) : topF [-1] g = -1 := by
  unfold topF
  split
  · rw [List.getD_eq_getElem?_getD]
    rcases hg : g.toNat with _ | k
    · rfl
    · rfl
  · rfl
theorem padZ_int (k : Nat) : padZ [Value.int .i64 0] k = (List.replicate k (0 : Int)).map i64 := by
  induction k with
  | zero => rfl
  | succ k ih => simp only [padZ, List.replicate_succ, List.flatten_cons, List.map_cons] at *; rw [ih]; rfl
abbrev pv (r : Nat) : Value := .iface 370 (ptr r)
theorem sift_Remove_spec {ov : Value} {I : Hp → Nat → Prop} {T : Nat → Prop} {lt : Int → Int → Bool} {D : Int → Prop} (ho : OrdS ov I T lt D) {H : Hp} {r : Nat} {S : Nat → Prop} {d : Int} {l : List Int} {pl : Int → Option Int}
    (h : RowAt H r S d l pl) (hd : ∀ x, S x → ¬ T x) {n : Nat} (hI : I H n) (hf : FineD d) (x : Int) (hl : l.length ≤ 1000000) (hp : PlOk l pl) (hD : ∀ z ∈ l, D z := by intros; trivial) :
    CallH Tryz.prog n_sift_Row_Remove [ptr r, ov, i64 x] H fun v H' => Post (
      (pl x = none ∧ v = .bool false ∧ H = H') ∨
      (∃ i, pl x = some i ∧ v = .bool true ∧ RowAt H' r S d (removeM lt d x l pl i).1 (removeM lt d x l pl i).2.1 ∧ I H' (n + (removeM lt d x l pl i).2.2) ∧ Ext (fun z => S z ∨ T z) H H')) := by
  obtain ⟨⟨sv, fp, mb, a1, a2, a3, s1, s2, s3, s4⟩, h2⟩ := id h
  have key : okTuple true (Value.int .i64 0) ((pl x).map i64) = .tuple [i64 ((pl x).getD 0), .bool (pl x).isSome].toArray := by cases pl x <;> rfl
  refine ccT d_sift_Row_Remove ⟨rfl, ?_⟩
  refine v4 s_sift_Row_Remove.eq_1 (rd_of_own a1) a3.look key ?_
  cases hx : pl x with
  | none =>
    simp (disch := (first | omega | (simp only [Zs] <;> omega) | fail)) only [go_sem, ↓reduceIte, Zv, Option.isSome_none]
    exact .inl ⟨rfl, rfl, rfl⟩
  | some i =>
    obtain ⟨i0, hxi⟩ := (hp x i).1 hx
    have hil : i.toNat < l.length := (List.getElem?_eq_some_iff.1 hxi).1
    obtain ⟨f, rfl⟩ : ∃ f, fp = some f := by
      cases fp with
      | none => obtain ⟨_, e, _⟩ := a2; omega
      | some f => exact ⟨f, rfl⟩
    have a2' := a2
    obtain ⟨_, l1, c, rfl, g2, a5, a6, a7⟩ := a2'
    have g3 : ∀ (i : Nat) (x : Int), l[i]? = some x → l1[i]? = some (i64 x) := fun i x h => by
      have hlt := (List.getElem?_eq_some_iff.1 h).1
      have h1 : (l.map i64)[i]? = some (i64 x) := by simp [h]
      rw [← a7, List.getElem?_take_of_lt (by omega)] at h1
      exact h1
    have hlast : l[l.length - 1]? = some (l.getD (l.length - 1) 0) := by
      rw [List.getD_eq_getElem?_getD, List.getElem?_eq_getElem (by omega)]; rfl
    have hlast' := g3 _ _ hlast
    have e1 : IntKind.i64.wrap ((l.length : Int) - 1) = ((l.length - 1 : Nat) : Int) := by rw [wrap64 (by omega) (by omega)]; omega
    simp (disch := (first | omega | (simp only [Zs] <;> omega) | fail)) only [go_sem, ↓reduceIte, Zv, Option.isSome_some, Option.getD_some, rd_of_own a1, e1, Int.toNat_natCast]
    refine ⟨by omega, ?_⟩
    refine v5 (rd_of_own g2) (rd_of_own a1) Nat.mul_one hlast' e1 ?_
    refine ⟨by omega, ?_⟩
    obtain ⟨hb1, hb2, hb3⟩ := s4 f rfl
    have hsv : Value.slice (if (c : Int) = ((0 : Nat) : Int) then some (⟨f, 0, none⟩ : Addr) else Option.map (fun (x : Addr) => x.add (((0 : Nat) : Int).toNat * 1)) (some (⟨f, 0, none⟩ : Addr))) (((l.length - 1 : Nat) : Int).toNat - ((0 : Nat) : Int).toNat) ((c : Int).toNat - ((0 : Nat) : Int).toNat) = .slice (some ⟨f, 0, none⟩) (l.length - 1) c := by
      split <;> rfl
    refine v2 (rd_of_own a1) a1 ?_
    rw [hsv]
    have ew : Ext (fun z => z = r) H (H.wr r [i64 d, .slice (some ⟨f, 0, none⟩) (l.length - 1) c, .map (some mb)]) := (Ext.refl (fun z => z = r) _).wr (fun _ => rfl) _
    have b1 : (H.wr r [i64 d, .slice (some ⟨f, 0, none⟩) (l.length - 1) c, .map (some mb)]).own r = some [i64 d, .slice (some ⟨f, 0, none⟩) (l.length - 1) c, .map (some mb)] := own_wr_same a1
    have b3 := a3.ext ew (Ne.symm s3)
    refine v1 (rd_of_own b1) ?_
    refine b3.del fun H2 m2 e2 => ?_
    rw [delM_map] at m2
    have e02 : Ext S H H2 := (ew.mono fun z _ hz => hz ▸ s1).trans (e2.mono fun z _ hz => hz ▸ s2)
    have hr : RowAt H2 r S d l.dropLast (delM pl x) := by
      refine ⟨⟨.slice (some ⟨f, 0, none⟩) (l.length - 1) c, some f, mb, e2.own b1 s3, ⟨by simp, l1, c, by rw [List.length_dropLast], (e2.own ((ew.own g2 hb2)) hb3), by rw [List.length_dropLast]; omega, a6, ?_⟩, m2, s1, s2, s3, s4⟩,
        fun z hz => Nat.lt_of_lt_of_le (h2 z hz) e02.size⟩
      have hx7 : ((l.map i64).length) = l.length := by simp
      rw [List.length_dropLast, List.map_dropLast, List.dropLast_eq_take, hx7, ← a7, List.take_take]
      congr 1
      omega
    have hI2 := ho.keep _ _ _ _ hI e02 (fun z hz hs => hd z hs hz)
    refine vs ?_
    have hll : l.dropLast.length = l.length - 1 := List.length_dropLast
    refine Both.dec (fun he => ?_) (fun he => ?_) <;> refine vs ?_
    · refine .inr ⟨i, rfl, rfl, ?_, ?_, e02.mono fun z _ hz => .inl hz⟩
      · unfold removeM; rw [if_pos he]; exact hr
      · unfold removeM; rw [if_pos he]; exact hI2
    · have hlm : l.getD (l.length - 1) 0 ∈ l := List.mem_of_getElem? hlast
      have hi2 : i.toNat ≠ l.length - 1 := fun e => by rw [e, hlast] at hxi; injection hxi with hxi; exact he hxi
      refine (sift_up_spec ho hr hd hI2 i (l.getD (l.length - 1) 0) ⟨i0, by omega⟩ (by omega) (hD _ hlm) (fun z hz => hD z ((List.dropLast_sublist _).subset hz))).mono ?_
      rintro _ H3 ⟨rfl, r3, i3, e3⟩
      have e03 := (e02.mono fun z _ hz => Or.inl hz).trans e3
      refine vs ?_
      refine Both.dec (fun hst => ?_) (fun hst => ?_) <;> refine vs ?_
      · have hul := up_length lt d (l.getD (l.length - 1) 0) i.toNat l.dropLast (delM pl x) i
        refine (sift_down_spec ho r3 hd i3 hf i (l.getD (l.length - 1) 0) ⟨i0, by omega⟩ (by omega) (hD _ hlm) (fun z hz => by
          rcases upM_mem lt d _ _ _ _ _ i0 (by omega) z hz with h | h
          · rw [h]; exact hD _ hlm
          · exact hD z ((List.dropLast_sublist _).subset h))).mono ?_
        rintro _ H4 ⟨r4, i4, e4⟩
        refine vs ?_
        refine .inr ⟨i, rfl, rfl, ?_, ?_, e03.trans e4⟩
        · unfold removeM; rw [if_neg he]; simp only; rw [if_pos hst]; exact r4
        · unfold removeM; rw [if_neg he]; simp only; rw [if_pos hst, ← Nat.add_assoc]; exact i4
      · refine .inr ⟨i, rfl, rfl, ?_, ?_, e03⟩
        · unfold removeM; rw [if_neg he]; simp only; rw [if_neg hst]; exact r3
        · unfold removeM; rw [if_neg he]; simp only; rw [if_neg hst]; exact i3
structure HeapOn (lt : Int → Int → Bool) (d : Int) (l : List Int) (pl : Int → Option Int) : Prop where
  heap : HeapL lt d l
  pl : PlOk l pl
theorem HeapOn.nil (lt : Int → Int → Bool) (d : Int) : HeapOn lt d [] (fun _ => none) :=
  ⟨fun j _ h => by simp at h, fun z k => by simp⟩
theorem HeapOn.congr {lt lt' : Int → Int → Bool} {d : Int} (hf : FineD d) {l : List Int} {pl : Int → Option Int} (h : HeapOn lt d l pl) (hfg : ∀ z ∈ l, ∀ y ∈ l, lt z y = lt' z y) : HeapOn lt' d l pl := by
  refine ⟨fun j h1 h2 => ?_, h.pl⟩
  have hp := pa_lt hf h1
  have e : ∀ k, k < l.length → l.getD k 0 ∈ l := fun k hk => by
    rw [List.getD_eq_getElem?_getD, List.getElem?_eq_getElem hk]; exact List.getElem_mem hk
  rw [← hfg _ (e j h2) _ (e _ (show pa d j < l.length by omega))]
  exact h.heap j h1 h2
theorem HeapOn.add {lt : Int → Int → Bool} (ho : Strict lt) {d : Int} (hf : FineD d) {l : List Int} {pl : Int → Option Int} (h : HeapOn lt d l pl) {x : Int} (hx : pl x = none) :
    HeapOn lt d (upM lt d x l.length (l ++ [x]) pl l.length).l (upM lt d x l.length (l ++ [x]) pl l.length).pl ∧
      (∀ z, z ∈ (upM lt d x l.length (l ++ [x]) pl l.length).l ↔ z = x ∨ z ∈ l) ∧ (upM lt d x l.length (l ++ [x]) pl l.length).l.length = l.length + 1 ∧
      (upM lt d x l.length (l ++ [x]) pl l.length).asked ≤ upN d l.length := by
  have hdd := hf.1
  have hget : ∀ k, k < l.length → (l ++ [x]).getD k 0 = l.getD k 0 := fun k hk => by
    rw [List.getD_eq_getElem?_getD, List.getD_eq_getElem?_getD, List.getElem?_append_left hk]
  have hch : ∀ j : Nat, 1 ≤ j → j < l.length + 1 → pa d j ≠ l.length := fun j h1 h2 => by have := pa_lt hf h1; omega
  have hP : PlH (l ++ [x]) pl l.length x := by
    intro z hz k
    rw [h.pl z k]
    constructor
    · rintro ⟨a, b⟩
      have hk := (List.getElem?_eq_some_iff.1 b).1
      exact ⟨a, by omega, by rw [List.getElem?_append_left hk]; exact b⟩
    · rintro ⟨a, b, c⟩
      refine ⟨a, ?_⟩
      have hk := (List.getElem?_eq_some_iff.1 c).1
      simp only [List.length_append, List.length_singleton] at hk
      rw [List.getElem?_append_left (by omega)] at c
      exact c
  have hxl : x ∉ l := fun hm => by
    obtain ⟨k, hk⟩ := List.getElem?_of_mem hm
    have := (h.pl x k).2 ⟨by omega, by simpa using hk⟩
    rw [hx] at this; cases this
  have hoth : ∀ z, Oth (l ++ [x]) l.length z ↔ z ∈ l := by
    intro z
    constructor
    · rintro ⟨k, k1, k2⟩
      have hk := (List.getElem?_eq_some_iff.1 k2).1
      simp only [List.length_append, List.length_singleton] at hk
      rw [List.getElem?_append_left (by omega)] at k2
      exact List.mem_of_getElem? k2
    · intro hm
      obtain ⟨k, hk⟩ := List.getElem?_of_mem hm
      have := (List.getElem?_eq_some_iff.1 hk).1
      exact ⟨k, by omega, by rw [List.getElem?_append_left this]; exact hk⟩
  obtain ⟨p1, p2⟩ := up_places (lt := lt) (d := d) x l.length (l ++ [x]) pl l.length (by simp) (by omega) (by simp; omega) hP (fun hc => hxl ((hoth x).1 hc))
  refine ⟨⟨up_heap ho hf x _ _ _ _ (by simp) (by omega) (by simp; omega) ⟨fun j h1 h2 h3 h4 => ?_, fun j h1 h2 h3 h4 => ?_⟩ (fun j h1 h2 h3 => ?_), p1⟩, fun z => by rw [p2 z, hoth z], by rw [up_length]; simp, ?_⟩
  · simp only [Int.toNat_natCast] at h3 h4
    have : j < l.length := by simp at h2; omega
    have hp := pa_lt hf h1
    rw [hget j this, hget _ (by omega)]
    exact h.heap j h1 this
  · simp only [Int.toNat_natCast] at h3
    exact absurd h3 (hch j h1 (by simpa using h2))
  · simp only [Int.toNat_natCast] at h3
    exact absurd h3 (hch j h1 (by simpa using h2))
  · have := up_asked lt d x l.length (l ++ [x]) pl l.length
    unfold upN
    simpa using this
theorem HeapOn.remove {lt : Int → Int → Bool} (ho : Strict lt) {d : Int} (hf : FineD d) {l : List Int} {pl : Int → Option Int} (h : HeapOn lt d l pl) {x i : Int} (hx : pl x = some i) :
    HeapOn lt d (removeM lt d x l pl i).1 (removeM lt d x l pl i).2.1 ∧ (removeM lt d x l pl i).1.length = l.length - 1 ∧
      (∀ z, z ∈ (removeM lt d x l pl i).1 ↔ z ∈ l ∧ z ≠ x) ∧ ((removeM lt d x l pl i).2.2 : Int) ≤ d * (upN d ((l.length : Int) - 1) : Nat) + 1 := by
  obtain ⟨a, b, c, e, g⟩ := remove_spec ho hf h.heap h.pl hx
  exact ⟨⟨a, b⟩, c, e, g⟩
theorem HeapOn.mem {lt : Int → Int → Bool} {d : Int} {l : List Int} {pl : Int → Option Int} (h : HeapOn lt d l pl) (z : Int) : z ∈ l ↔ pl z ≠ none := by
  constructor
  · intro hm
    obtain ⟨k, hk⟩ := List.getElem?_of_mem hm
    rw [(h.pl z k).2 ⟨by omega, by simpa using hk⟩]
    simp
  · intro hn
    obtain ⟨k, hk⟩ := Option.ne_none_iff_exists'.1 hn
    exact List.mem_of_getElem? ((h.pl z k).1 hk).2
theorem HeapOn.least {lt : Int → Int → Bool} (ho : Strict lt) {d : Int} (hf : FineD d) {l : List Int} {pl : Int → Option Int} (h : HeapOn lt d l pl) {x : Int} (hx : l[0]? = some x) : ∀ z ∈ l, z ≠ x → lt x z = true := by
  intro z hz hne
  obtain ⟨k, hk⟩ := List.getElem?_of_mem hz
  have hkl := (List.getElem?_eq_some_iff.1 hk).1
  have := heap_first ho hf h.heap k k (Nat.le_refl _) hkl
  rw [List.getD_eq_getElem?_getD, List.getD_eq_getElem?_getD, hk, hx] at this
  rcases ho.tot x z (Ne.symm hne) with h1 | h1
  · exact h1
  · simp only [Option.getD_some] at this
    rw [h1] at this; cases this
theorem HeapOn.raise {lt lt' : Int → Int → Bool} (ho : Strict lt) (ho' : Strict lt') {d : Int} (hf : FineD d) {l : List Int} {pl : Int → Option Int} (h : HeapOn lt d l pl) {x i : Int} (hx : pl x = some i) (hlt : ∀ a ∈ l, ∀ b ∈ l, a ≠ x → b ≠ x → lt' a b = lt a b) (hdn : ∀ z ∈ l, z ≠ x → lt z x = false → lt' z x = false) :
    HeapOn lt' d (upM lt' d x i.toNat l pl i).l (upM lt' d x i.toNat l pl i).pl ∧ (∀ z, z ∈ (upM lt' d x i.toNat l pl i).l ↔ z ∈ l) ∧ (upM lt' d x i.toNat l pl i).l.length = l.length ∧
      (upM lt' d x i.toNat l pl i).asked ≤ upN d ((l.length : Int) - 1) := by
  obtain ⟨i0, hi⟩ := (h.pl x i).1 hx
  have hil : i.toNat < l.length := (List.getElem?_eq_some_iff.1 hi).1
  have hat : ∀ j, j < l.length → j ≠ i.toNat → l.getD j 0 ≠ x := fun j hj hne e => by
    have : l[j]? = some x := by rw [List.getElem?_eq_getElem hj, ← e, List.getD_eq_getElem?_getD, List.getElem?_eq_getElem hj]; rfl
    exact hne (h.pl.uniq this hi)
  have hin : ∀ j, j < l.length → l.getD j 0 ∈ l := fun j hj => by rw [List.getD_eq_getElem?_getD, List.getElem?_eq_getElem hj]; exact List.getElem_mem hj
  have hbut := h.heap.but ho hf i.toNat
  have hO : ¬ Oth l i x := by
    rintro ⟨k, k1, k2⟩
    have := h.pl.uniq k2 hi
    omega
  obtain ⟨p1, p2⟩ := up_places (lt := lt') (d := d) x i.toNat l pl i (Nat.le_refl _) i0 (by omega) (h.pl.hole hi i0) hO
  refine ⟨⟨up_heap ho' hf x _ _ _ _ (Nat.le_refl _) i0 (by omega) ⟨fun j h1 h2 h3 h4 => ?_, fun j h1 h2 h3 h4 => ?_⟩ (fun j h1 h2 h3 => ?_), p1⟩, fun z => ?_, up_length _ _ _ _ _ _ _, ?_⟩
  · have := pa_lt hf h1
    rw [hlt _ (hin j h2) _ (hin _ (by omega)) (hat j h2 h3) (hat _ (by omega) h4)]
    exact hbut.1 j h1 h2 h3 h4
  · have := pa_lt hf h1
    have := pa_lt hf h4
    rw [hlt _ (hin j h2) _ (hin _ (by omega)) (hat j h2 (by omega)) (hat _ (by omega) (by omega))]
    exact hbut.2 j h1 h2 h3 h4
  · have hpj := pa_lt hf h1
    have hne := hat j h2 (by omega)
    have := h.heap j h1 h2
    rw [h3, show l.getD i.toNat 0 = x by rw [List.getD_eq_getElem?_getD, hi]; rfl] at this
    exact hdn _ (hin j h2) hne this
  · rw [p2 z]
    constructor
    · rintro (rfl | ⟨k, _, k2⟩)
      · exact List.mem_of_getElem? hi
      · exact List.mem_of_getElem? k2
    · intro hm
      obtain ⟨k, hk⟩ := List.getElem?_of_mem hm
      by_cases e : (k : Int) = i
      · rw [show k = i.toNat by omega, hi] at hk; injection hk with hk; exact .inl hk.symm
      · exact .inr ⟨k, e, hk⟩
  · have e1 := up_asked lt' d x i.toNat l pl i
    have e2 := upN_mono hf ((l.length : Int) - 1).toNat i ((l.length : Int) - 1) (Nat.le_refl _) (by omega)
    unfold upN at e2 ⊢
    omega
structure Rw where
  r : Nat
  S : Nat → Prop
  l : List Int
  pl : Int → Option Int
def rwV : Option Rw → Value
  | none => .pointer none
  | some R => ptr R.r
structure DaryM (H : Hp) (n c : Nat) (C : Nat → Prop) (rv : Value) (fp : Option Nat) (d st : Int) (w : Nw) (rs : List (Option Rw)) : Prop where
  own : H.own n = some [ptr c, i64 d, rv]
  cells : CellsN H c C st w
  sl : Sl H 1 rv rs.length (rs.map rwV) fp
  row : ∀ (h : Nat) R, rs[h]? = some (some R) → RowAt H R.r R.S d R.l R.pl
  nC : ¬ C n
  fpd : ∀ b, fp = some b → b ≠ n ∧ ¬ C b
  rowd : ∀ (h : Nat) R, rs[h]? = some (some R) → ∀ x, R.S x → ¬ C x ∧ x ≠ n ∧ fp ≠ some x
  rowrow : ∀ (h h' : Nat) R R', rs[h]? = some (some R) → rs[h']? = some (some R') → h ≠ h' → ∀ x, R.S x → ¬ R'.S x
def DaryS (n : Nat) (C : Nat → Prop) (fp : Option Nat) (rs : List (Option Rw)) (z : Nat) : Prop := C z ∨ z = n ∨ fp = some z ∨ ∃ (h : Nat) (R : Rw), rs[h]? = some (some R) ∧ R.S z
structure DaryL (d : Int) (w : Nw) (rs : List (Option Rw)) : Prop where
  fine : FineD d
  hl : rs.length = w.hs.length
  hs : ∀ h : Nat, w.hs[h]? = some true ↔ ∃ R, rs[h]? = some (some R)
  h0 : rs[0]? = some none
  ok : ∀ (h : Nat) R, rs[h]? = some (some R) → HeapOn (ltW w) d R.l R.pl
  mem : ∀ (h : Nat) R, rs[h]? = some (some R) → ∀ x : Int, x ∈ R.l ↔ 0 ≤ x ∧ ∃ e, w.cs[x.toNat]? = some (((h : Nat) : Int), e)
  len : ∀ (h : Nat) R, rs[h]? = some (some R) → (R.l.length : Int) = w.len h
def DaryAt (H : Hp) (n : Nat) (S : Nat → Prop) (d st : Int) (w : Nw) : Prop := ∃ c C rv fp rs, DaryM H n c C rv fp d st w rs ∧ DaryL d w rs ∧ (∀ z, DaryS n C fp rs z ↔ S z)
theorem DaryM.slt {H : Hp} {n c : Nat} {C : Nat → Prop} {rv : Value} {fp : Option Nat} {d st : Int} {w : Nw} {rs : List (Option Rw)} (h : DaryM H n c C rv fp d st w rs) : ∀ z, DaryS n C fp rs z → z < H.size := by
  rintro z (hz | rfl | hz | ⟨i, R, hR, hz⟩)
  · exact h.cells.slt z hz
  · exact own_lt h.own
  · exact Sl.lt (hz ▸ h.sl)
  · exact (h.row i R hR).slt z hz
theorem DaryM.ext {H H' : Hp} {n c : Nat} {C T : Nat → Prop} {rv : Value} {fp : Option Nat} {d st : Int} {w : Nw} {rs : List (Option Rw)} (h : DaryM H n c C rv fp d st w rs) (e : Ext T H H') (hd : ∀ z, DaryS n C fp rs z → ¬ T z) : DaryM H' n c C rv fp d st w rs :=
  ⟨e.own h.own (hd n (.inr (.inl rfl))), h.cells.ext e (fun x hx => hd x (.inl hx)), h.sl.ext e (fun b hb => hd b (.inr (.inr (.inl hb)))), fun i R hR => (h.row i R hR).ext e (fun x hx => hd x (.inr (.inr (.inr ⟨i, R, hR, hx⟩)))), h.nC, h.fpd, h.rowd, h.rowrow⟩
theorem DaryAt.slt {H : Hp} {n : Nat} {S : Nat → Prop} {d st : Int} {w : Nw} (h : DaryAt H n S d st w) : ∀ z, S z → z < H.size := by
  obtain ⟨c, C, rv, fp, rs, m, l, hS⟩ := h
  exact fun z hz => m.slt z ((hS z).2 hz)
theorem DaryAt.ext {H H' : Hp} {n : Nat} {S T : Nat → Prop} {d st : Int} {w : Nw} (h : DaryAt H n S d st w) (e : Ext T H H') (hd : ∀ z, S z → ¬ T z) : DaryAt H' n S d st w := by
  obtain ⟨c, C, rv, fp, rs, m, l, hS⟩ := h
  exact ⟨c, C, rv, fp, rs, m.ext e (fun z hz => hd z ((hS z).1 hz)), l, hS⟩
theorem DaryAt.fresh {H H' : Hp} {n : Nat} {S : Nat → Prop} {d st : Int} {w : Nw} (h : DaryAt H n S d st w) (e : Fresh H H') : DaryAt H' n S d st w := h.ext e fun _ _ h => h
theorem dary_New_spec (cap d : Int) (H : Hp) : CallH Tryz.prog n_dary_New [i64 cap, i64 d] H fun v H' => Post (
    Fresh H H' ∧ ((¬ (0 ≤ cap ∧ cap ≤ 65536) ∧ v = .tuple [.pointer none, i64 31].toArray) ∨ ((0 ≤ cap ∧ cap ≤ 65536) ∧ ¬ FineD d ∧ v = .tuple [.pointer none, i64 22].toArray) ∨
      ((0 ≤ cap ∧ cap ≤ 65536) ∧ FineD d ∧ ∃ n S, v = .tuple [ptr n, i64 0].toArray ∧ DaryAt H' n S d 0 ⟨[false], List.replicate cap.toNat (0, 0, 0)⟩ ∧ ∀ x, S x → H.size ≤ x))) := by
  refine ccT d_dary_New ⟨rfl, ?_⟩
  refine v1 s_dary_New.eq_1 ?_
  refine (cellsN_New_spec cap H).mono ?_
  rintro _ H1 ⟨f1, ⟨hb, rfl⟩ | ⟨hb, c, C, rfl, c1, hC⟩⟩
  · refine vs ?_
    exact ⟨f1, .inl ⟨hb, rfl⟩⟩
  refine vs ?_
  refine (sift_New_spec d H1).mono ?_
  rintro _ H2 ⟨f2, ⟨hf, rfl⟩ | ⟨hf, r, S, rfl, r2, hS⟩⟩
  · refine vs ?_
    exact ⟨f1.trans f2, .inr (.inl ⟨hb, hf, rfl⟩)⟩
  refine v1 decide_true ?_
  have f3 : Fresh H2 ((H2.new 250 [.pointer none]).new 255 [ptr c, i64 d, .slice (some ⟨H2.size, 0, none⟩) 1 1]) := ((Ext.refl _ _).new _ _).new _ _
  have z1 := f1.size
  have z2 := f2.size
  have hcs := c1.slt
  refine ⟨(f1.trans f2).trans f3, .inr (.inr ⟨hb, hf, H2.size + 1, DaryS (H2.size + 1) C (some H2.size) [none], rfl, ⟨c, C, .slice (some ⟨H2.size, 0, none⟩) 1 1, some H2.size, [none],
    ⟨own_new_eq (by simp only [size_new]), (c1.fresh f2).fresh f3, ?_, fun h R hR => ?_, fun h => by have := hcs _ h; omega, fun b hb => ?_, fun h R hR => ?_, fun h h' R R' hR => ?_⟩,
    ⟨hf, rfl, fun h => ?_, rfl, fun h R hR => ?_, fun h R hR => ?_, fun h R hR => ?_⟩, fun z => Iff.rfl⟩, fun x hx => ?_⟩)⟩
  · exact (Sl.lit_at (size := 1) (n := 1) (xs := [.pointer none]) rfl rfl).ext ((Ext.refl (fun _ => False) _).new _ _) (fun _ _ h => h)
  · rcases h with _ | h <;> simp at hR
  · injection hb with hb
    subst hb
    exact ⟨by omega, fun h => by have := hcs _ h; omega⟩
  · rcases h with _ | h <;> simp at hR
  · rcases h with _ | h <;> simp at hR
  · rcases h with _ | h <;> simp
  · rcases h with _ | h <;> simp at hR
  · rcases h with _ | h <;> simp at hR
  · rcases h with _ | h <;> simp at hR
  · rcases hx with hx | rfl | hx | ⟨i, R, hR, hx⟩
    · exact hC x hx
    · omega
    · injection hx with hx; omega
    · rcases i with _ | i <;> simp at hR
theorem dary_ord {n c : Nat} {C : Nat → Prop} {rv : Value} {d st : Int} {w : Nw} (hn : ¬ C n) : OrdS (.iface 194 (ptr n)) (fun H k => CellsN H c C (min (st + k) 4611686018427387904) w ∧ H.own n = some [ptr c, i64 d, rv])
    (fun x => C x ∨ x = n) (ltW w) (InC w.cs) := by
  refine ⟨fun H k a b ha hb h => ⟨_, _, n_cells_Cells_Ahead, ptr c, rfl, methR1 (off := 0) (by kernel_rfl) (rd_of_own h.2) rfl, (cellsN_Ahead_spec h.1 a b).mono ?_⟩, nilP1 (x := (0, n_cells_Cells_Ahead)) (by kernel_rfl), fun H H' k U h e hd => ?_, fun H k h x hx => ?_⟩
  · rintro v H' ⟨rfl, h1, e⟩
    rw [if_pos ⟨ha, hb⟩] at h1
    have hs : stepsI (min (st + (k : Nat)) 4611686018427387904) 1 = min (st + ((k + 1 : Nat) : Int)) 4611686018427387904 := by
      unfold stepsI
      rw [if_neg (by omega)]
      split <;> omega
    rw [hs] at h1
    exact ⟨by rw [ltW_ahead ha hb], ⟨h1, e.own h.2 hn⟩, e.mono fun z _ hz => .inl hz⟩
  · exact ⟨h.1.ext e (fun x hx => hd x (.inl hx)), e.own h.2 (hd n (.inr rfl))⟩
  · rcases hx with hx | rfl
    · exact h.1.slt x hx
    · exact own_lt h.2
theorem dary_Make_spec {H : Hp} {n : Nat} {S : Nat → Prop} {d st : Int} {w : Nw} (h : DaryAt H n S d st w) : CallH Tryz.prog n_dary_Nest_Make [ptr n] H fun v H' => Post (
    (w.hs.length = 65537 ∧ v = i64 0 ∧ H = H') ∨
    (w.hs.length ≠ 65537 ∧ v = i64 w.hs.length ∧ ∃ S', DaryAt H' n S' d st w.make ∧ Ext S H H' ∧ ∀ x, S' x → S x ∨ H.size ≤ x)) := by
  obtain ⟨c, C, rv, fp, rs, m, l, hS⟩ := h
  refine ccT d_dary_Nest_Make ⟨rfl, ?_⟩
  refine v2 s_dary_Nest_Make.eq_1 (rd_of_own m.own) ?_
  refine (cellsN_Make_spec m.cells).mono ?_
  rintro _ H1 (⟨h1, rfl, rfl⟩ | ⟨h1, rfl, C', c1, e1, hC'⟩)
  · refine vs ?_
    exact .inl ⟨h1, rfl, rfl⟩
  have hpos : 0 < rs.length := (List.getElem?_eq_some_iff.1 l.h0).1
  have hll := l.hl
  have o1 := e1.own m.own m.nC
  refine vs ?_
  refine Both.of_true (decide_eq_true (by omega)) ?_
  refine v1 (rd_of_own o1) ?_
  refine (sift_New_spec d H1).mono ?_
  rintro _ H2 ⟨f2, ⟨hf, _⟩ | ⟨_, r, Sr, rfl, r2, hSr⟩⟩
  · exact absurd l.fine hf
  have o2 := f2.own o1 (fun h => h)
  refine v1 (rd_of_own o2) ?_
  have hsl := m.cells.hsl
  have hslt := m.slt
  have hcs1 := c1.slt
  have hr2 := r2.slt
  have z1 := e1.size
  have z2 := f2.size
  have e0 : Ext (fun _ => False) H2 (H2.new 250 [ptr r]) := (Ext.refl _ _).new _ _
  have sl2 := (m.sl.ext e1 (fun b hb h => (m.fpd b hb).2 h)).ext f2 (fun _ _ h => h)
  refine Sl.append (sl2.ext e0 (fun _ _ h => h)) (Sl.lit_at (size := 1) (xs := [ptr r]) rfl rfl).rd rfl (by intro v hv; simp only [List.mem_singleton] at hv; subst hv; rfl) (by omega) ?_
  intro v' H3 fp' s3 e3 hfp
  have o3 := e3.own (e0.own o2 (fun h => h)) (fun e => (m.fpd n e).1 rfl)
  obtain ⟨a', cc', hv'⟩ := RdS.val2 s3.rd
  subst hv'
  refine v1 o3 ?_
  generalize hv' : Value.slice a' (rs.length + 1) cc' = v' at *
  have e4 : Ext (fun z => z = n) H3 (H3.wr n [ptr c, i64 d, v']) := (Ext.refl (fun z => z = n) _).wr (fun _ => rfl) _
  have hn := own_lt m.own
  have hfpl : ∀ b, fp = some b → b < H.size := fun b hb => hslt b (.inr (.inr (.inl hb)))
  have hCl : ∀ z, C z → z < H.size := fun z hz => hslt z (.inl hz)
  have hfp2 : ∀ b, fp' = some b → fp = some b ∨ H2.size ≤ b := fun b hb => by
    rcases hfp with h | ⟨z, h, h5, _⟩
    · exact .inl (h ▸ hb)
    · rw [h] at hb; injection hb with hb; subst hb; rw [size_new] at h5; exact .inr (by omega)
  have hC1 : ∀ z, C' z → C z ∨ H.size ≤ z := hC'
  have e03 : Ext (fun z => fp = some z) H2 H3 := (e0.mono fun _ _ h => h.elim).trans' e3 (fun z _ h => h)
  have hget : ∀ (h : Nat) R, (rs ++ [some (⟨r, Sr, [], fun _ => none⟩ : Rw)])[h]? = some (some R) → rs[h]? = some (some R) ∨ (h = rs.length ∧ R = ⟨r, Sr, [], fun _ => none⟩) := fun h R hR => by
    rcases Nat.lt_trichotomy h rs.length with h5 | h5 | h5
    · rw [List.getElem?_append_left h5] at hR; exact .inl hR
    · subst h5
      rw [List.getElem?_append_right (Nat.le_refl _), Nat.sub_self] at hR
      simp only [List.getElem?_cons_zero, Option.some.injEq] at hR
      exact .inr ⟨rfl, hR.symm⟩
    · rw [List.getElem?_eq_none (by rw [List.length_append, List.length_singleton]; omega)] at hR
      cases hR
  have hold : ∀ (h : Nat) R, rs[h]? = some (some R) → ∀ x, R.S x → ¬ C x ∧ x ≠ n ∧ fp ≠ some x ∧ x < H.size := fun h R hR x hx =>
    ⟨(m.rowd h R hR x hx).1, (m.rowd h R hR x hx).2.1, (m.rowd h R hR x hx).2.2, hslt x (.inr (.inr (.inr ⟨h, R, hR, hx⟩)))⟩
  have hcw : ∀ (x : Nat) (e : Int × Int), w.cs[x]? ≠ some (((rs.length : Nat) : Int), e) := fun x e hx => by
    have := (m.cells.home _ (List.mem_of_getElem? hx)).2
    simp only at this
    omega
  refine .inr ⟨h1, rfl, DaryS n C' fp' (rs ++ [some ⟨r, Sr, [], fun _ => none⟩]), ⟨c, C', v', fp', rs ++ [some ⟨r, Sr, [], fun _ => none⟩],
    ⟨own_wr_same o3, ?_, ?_, fun h R hR => ?_, fun h => ?_, fun b hb => ⟨?_, fun h => ?_⟩, fun h R hR x hx => ⟨fun h => ?_, ?_, fun h => ?_⟩, fun h h' R R' hR hR' hne x hx hx' => ?_⟩,
    ⟨l.fine, ?_, fun h => ?_, ?_, fun h R hR => ?_, fun h R hR x => ?_, fun h R hR => ?_⟩, fun z => Iff.rfl⟩, ?_, fun x hx => ?_⟩
  · exact (((c1.ext f2 (fun _ _ h => h)).ext e03 (fun x hx e => by
      rcases hC1 x hx with h | h
      · exact (m.fpd x e).2 h
      · have := hfpl x e; omega)).ext e4 (fun x hx e => by
      rcases hC1 x hx with h | h
      · exact m.nC (e ▸ h)
      · omega))
  · have := s3.ext e4 (fun b hb e => by
      rcases hfp2 b hb with h | h
      · exact (m.fpd b h).1 e
      · omega)
    rw [List.length_append, List.map_append]
    exact this
  · rcases hget h R hR with h5 | ⟨rfl, rfl⟩
    · exact ((((m.row h R h5).ext e1 (fun x hx => (hold h R h5 x hx).1)).ext f2 (fun _ _ h => h)).ext e03 (fun x hx => (hold h R h5 x hx).2.2.1)).ext e4 (fun x hx => (hold h R h5 x hx).2.1)
    · exact (r2.ext e03 (fun x hx e => by have := hSr x hx; have := hfpl x e; omega)).ext e4 (fun x hx e => by have := hSr x hx; omega)
  · rcases hC1 n h with h | h
    · exact m.nC h
    · omega
  · rcases hfp2 b hb with h | h
    · exact (m.fpd b h).1
    · omega
  · rcases hfp2 b hb with h5 | h5
    · rcases hC1 b h with h6 | h6
      · exact (m.fpd b h5).2 h6
      · have := hfpl b h5; omega
    · have := hcs1 b h; omega
  · rcases hget _ R hR with h5 | ⟨_, rfl⟩
    · rcases hC1 x h with h6 | h6
      · exact (hold _ R h5 x hx).1 h6
      · have := (hold _ R h5 x hx).2.2.2; omega
    · have := hSr x hx; have := hcs1 x h; omega
  · rcases hget _ R hR with h5 | ⟨_, rfl⟩
    · exact (hold _ R h5 x hx).2.1
    · have := hSr x hx; omega
  · rcases hget _ R hR with h5 | ⟨_, rfl⟩
    · rcases hfp2 x h with h6 | h6
      · exact (hold _ R h5 x hx).2.2.1 h6
      · have := (hold _ R h5 x hx).2.2.2; omega
    · have h7 := hr2 x hx
      rcases hfp2 x h with h6 | h6
      · have := hSr x hx; have := hfpl x h6; omega
      · omega
  · rcases hget _ R hR with h5 | ⟨h5, rfl⟩
    · rcases hget _ R' hR' with h6 | ⟨h6, rfl⟩
      · exact m.rowrow h h' R R' h5 h6 hne x hx hx'
      · have := hSr x hx'; have := (hold _ R h5 x hx).2.2.2; omega
    · rcases hget _ R' hR' with h6 | ⟨h6, rfl⟩
      · have := hSr x hx; have := (hold _ R' h6 x hx').2.2.2; omega
      · omega
  · simp [Nw.make, hll]
  · show (w.hs ++ [true])[h]? = some true ↔ _
    rcases Nat.lt_trichotomy h rs.length with h5 | h5 | h5
    · rw [List.getElem?_append_left h5, List.getElem?_append_left (by omega)]
      exact l.hs h
    · subst h5
      rw [List.getElem?_append_right (Nat.le_refl _), List.getElem?_append_right (by omega), Nat.sub_self, hll, Nat.sub_self]
      simp
    · rw [List.getElem?_eq_none (by rw [List.length_append, List.length_singleton]; omega), List.getElem?_eq_none (by rw [List.length_append, List.length_singleton]; omega)]
      simp
  · rw [List.getElem?_append_left hpos]; exact l.h0
  · rcases hget h R hR with h5 | ⟨rfl, rfl⟩
    · exact l.ok h R h5
    · exact HeapOn.nil _ _
  · rcases hget h R hR with h5 | ⟨rfl, rfl⟩
    · exact l.mem h R h5 x
    · simp only [List.not_mem_nil, false_iff]
      rintro ⟨_, e, he⟩
      exact hcw _ _ he
  · rcases hget h R hR with h5 | ⟨rfl, rfl⟩
    · exact l.len h R h5
    · show ((0 : Nat) : Int) = w.len _
      unfold Nw.len
      rw [if_pos (by omega), List.countP_eq_zero.2 (fun x hx => by
        have := (m.cells.home x hx).2
        simp only [decide_eq_true_eq]
        omega)]
  · exact ((e1.mono fun z _ hz => (hS z).1 (.inl hz)).trans ((f2.mono fun _ _ h => h.elim).trans (e03.mono fun z _ hz => (hS z).1 (.inr (.inr (.inl hz)))))).trans (e4.mono fun z _ hz => (hS z).1 (.inr (.inl hz)))
  · rcases hx with hx | rfl | hx | ⟨i, R, hR, hx⟩
    · rcases hC1 x hx with h | h
      · exact .inl ((hS x).1 (.inl h))
      · exact .inr h
    · exact .inl ((hS x).1 (.inr (.inl rfl)))
    · rcases hfp2 x hx with h | h
      · exact .inl ((hS x).1 (.inr (.inr (.inl h))))
      · exact .inr (by omega)
    · rcases hget _ R hR with h5 | ⟨_, rfl⟩
      · exact .inl ((hS x).1 (.inr (.inr (.inr ⟨i, R, h5, hx⟩))))
      · have := hSr x hx; exact .inr (by omega)
theorem DaryL.hasR {d : Int} {w : Nw} {rs : List (Option Rw)} (l : DaryL d w rs) {g : Int} (h : w.has g) : ∃ R, rs[g.toNat]? = some (some R) := (l.hs g.toNat).1 h.2
theorem dary_Min_spec {H : Hp} {n : Nat} {S : Nat → Prop} {d st : Int} {w : Nw} (h : DaryAt H n S d st w) (g : Int) : CallH Tryz.prog n_dary_Nest_Min [ptr n, i64 g] H fun v H' => Post (
    ((¬ w.has g ∧ v = .tuple [i64 0, .bool false].toArray) ∨ (w.has g ∧ w.len g = 0 ∧ v = .tuple [i64 0, .bool false].toArray) ∨
      (w.has g ∧ ∃ x, InC w.cs x ∧ (∃ e, w.cs[x.toNat]? = some (g, e)) ∧ v = .tuple [i64 x, .bool true].toArray ∧ ∀ y, 0 ≤ y → (∃ e, w.cs[y.toNat]? = some (g, e)) → y ≠ x → ltW w x y = true)) ∧ H = H') := by
  obtain ⟨c, C, rv, fp, rs, m, l, hS⟩ := h
  refine ccT d_dary_Nest_Min ⟨rfl, ?_⟩
  refine v2 s_dary_Nest_Min.eq_1 (rd_of_own m.own) ?_
  refine (cellsN_Has_spec m.cells g).mono ?_
  rintro _ _ ⟨rfl, rfl⟩
  refine vs ?_
  refine Both.dec (fun hh => ?_) (fun hh => ?_)
  · obtain ⟨R, hR⟩ := l.hasR hh
    have h1 := hh.1
    have hlt := (List.getElem?_eq_some_iff.1 hR).1
    obtain ⟨b, o, c', lb, e1, e2, e3, e4⟩ := RdS.get m.sl.rd (i := g.toNat) (j := 0) (x := ptr R.r) (by omega) (by simp [hR, rwV])
    subst e1
    have hgg : ((g.toNat : Nat) : Int) = g := by omega
    refine v1 (rd_of_own m.own) ?_
    refine ⟨by omega, ?_⟩
    refine v2 e2 (show lb[o + g.toNat * 1]? = some (ptr R.r) from e4) ?_
    refine (sift_At_spec (m.row _ R hR) 0).mono ?_
    rintro _ _ ⟨rfl, rfl⟩
    have hmem := l.mem _ R hR
    rw [hgg] at hmem
    have hlen := l.len _ R hR
    rw [hgg] at hlen
    rw [show (if (0 : Int) ≤ 0 then R.l[Int.toNat 0]? else none) = R.l[0]? from rfl, twoF_eq]
    cases h0 : R.l[0]? with
    | none =>
      have : R.l.length = 0 := by
        rcases Nat.eq_zero_or_pos R.l.length with h | h
        · exact h
        · rw [List.getElem?_eq_getElem h] at h0; cases h0
      simp (disch := (first | omega | (simp only [Zs] <;> omega) | fail)) only [go_sem, ↓reduceIte, Zv, Option.isSome_none, Option.getD_none]
      exact ⟨.inr (.inl ⟨hh, by omega, rfl⟩), rfl⟩
    | some x =>
      simp (disch := (first | omega | (simp only [Zs] <;> omega) | fail)) only [go_sem, ↓reduceIte, Zv, Option.isSome_some, Option.getD_some]
      obtain ⟨x0, e, he⟩ := (hmem x).1 (List.mem_of_getElem? h0)
      refine ⟨.inr (.inr ⟨hh, x, ⟨x0, _, he, by simp only; omega⟩, ⟨e, he⟩, rfl, fun y hy0 hy hne => ?_⟩), rfl⟩
      exact HeapOn.least (ltW_strict w) l.fine (l.ok _ R hR) h0 y ((hmem y).2 ⟨hy0, hy⟩) hne
  · refine vs ?_
    exact ⟨.inl ⟨hh, rfl⟩, rfl⟩
theorem DaryM.setRow {H H' : Hp} {n c : Nat} {C T : Nat → Prop} {rv : Value} {fp : Option Nat} {d st st' : Int} {w w' : Nw} {rs : List (Option Rw)} (m : DaryM H n c C rv fp d st w rs) {g : Nat} {R R' : Rw} (hR : rs[g]? = some (some R)) (hr : R'.r = R.r)
    (row : RowAt H' R'.r R'.S d R'.l R'.pl) (hRS : ∀ z, R'.S z → R.S z ∨ H.size ≤ z) (e : Ext T H H') (hT : ∀ z, T z → C z ∨ R.S z ∨ z = n) (cells : CellsN H' c C st' w') (own : H'.own n = some [ptr c, i64 d, rv]) :
    DaryM H' n c C rv fp d st' w' (rs.set g (some R')) := by
  have hslt := m.slt
  have hg := (List.getElem?_eq_some_iff.1 hR).1
  have hget : ∀ (h : Nat) Q, (rs.set g (some R'))[h]? = some (some Q) → (h = g ∧ Q = R') ∨ (h ≠ g ∧ rs[h]? = some (some Q)) := fun h Q hQ => by
    by_cases hh : h = g
    · subst hh
      rw [List.getElem?_set_self hg] at hQ
      simp only [Option.some.injEq] at hQ
      exact .inl ⟨rfl, hQ.symm⟩
    · rw [List.getElem?_set_ne (Ne.symm hh)] at hQ
      exact .inr ⟨hh, hQ⟩
  refine ⟨own, cells, ?_, fun h Q hQ => ?_, m.nC, m.fpd, fun h Q hQ x hx => ?_, fun h h' Q Q' hQ hQ' hne x hx hx' => ?_⟩
  · have h1 : (rs.set g (some R')).map rwV = rs.map rwV := by
      rw [List.map_set]
      refine List.ext_getElem? fun i => ?_
      by_cases hi : i = g
      · subst hi
        rw [List.getElem?_set_self (by rw [List.length_map]; exact hg), List.getElem?_map, hR]
        simp [rwV, hr]
      · rw [List.getElem?_set_ne (Ne.symm hi)]
    rw [h1, List.length_set]
    exact m.sl.ext e (fun b hb ht => by
      rcases hT b ht with h | h | h
      · exact (m.fpd b hb).2 h
      · exact (m.rowd _ R hR b h).2.2 hb
      · exact (m.fpd b hb).1 h)
  · rcases hget h Q hQ with ⟨rfl, rfl⟩ | ⟨h1, h2⟩
    · exact row
    · exact (m.row h Q h2).ext e (fun x hx ht => by
        rcases hT x ht with h3 | h3 | h3
        · exact (m.rowd h Q h2 x hx).1 h3
        · exact m.rowrow h g Q R h2 hR h1 x hx h3
        · exact (m.rowd h Q h2 x hx).2.1 h3)
  · rcases hget h Q hQ with ⟨rfl, rfl⟩ | ⟨h1, h2⟩
    · rcases hRS x hx with h3 | h3
      · exact m.rowd _ R hR x h3
      · refine ⟨fun hc => ?_, fun hc => ?_, fun hc => ?_⟩
        · have := hslt x (.inl hc); omega
        · have := hslt n (.inr (.inl rfl)); omega
        · have := hslt x (.inr (.inr (.inl hc))); omega
    · exact m.rowd h Q h2 x hx
  · rcases hget h Q hQ with ⟨rfl, rfl⟩ | ⟨h1, h2⟩
    · rcases hget h' Q' hQ' with ⟨rfl, rfl⟩ | ⟨h3, h4⟩
      · exact hne rfl
      · rcases hRS x hx with h5 | h5
        · exact m.rowrow _ h' R Q' hR h4 hne x h5 hx'
        · have := hslt x (.inr (.inr (.inr ⟨h', Q', h4, hx'⟩))); omega
    · rcases hget h' Q' hQ' with ⟨rfl, rfl⟩ | ⟨h3, h4⟩
      · rcases hRS x hx' with h5 | h5
        · exact m.rowrow h _ Q R h2 hR hne x hx h5
        · have := hslt x (.inr (.inr (.inr ⟨h, Q, h2, hx⟩))); omega
      · exact m.rowrow h h' Q Q' h2 h4 hne x hx hx'
theorem upM_pos (lt : Int → Int → Bool) {d : Int} (hf : FineD d) (x : Int) {m : Nat} (l : List Int) (pl : Int → Option Int) {i : Int} (hi : 1 ≤ i) (hm : i.toNat ≤ m) : 0 < (upM lt d x m l pl i).asked := by
  obtain ⟨q, rfl⟩ : ∃ q, m = q + 1 := ⟨m - 1, by omega⟩
  have hp : parentF d i = some ((i - 1) / d) := by unfold parentF; rw [if_pos ⟨hf, hi⟩]
  simp only [upM, hp]
  split <;> simp
theorem dary_Insert_spec {H : Hp} {n : Nat} {S : Nat → Prop} {d st : Int} {w : Nw} (h : DaryAt H n S d st w) (g x k s : Int) : CallH Tryz.prog n_dary_Nest_Insert [ptr n, i64 g, i64 x, ent k s] H fun v H' => Post (
    (¬ (w.has g ∧ (0 ≤ x ∧ x < w.cs.length) ∧ ¬ InC w.cs x) ∧ v = .bool false ∧ DaryAt H' n S d st w ∧ Ext S H H') ∨
    ((w.has g ∧ (0 ≤ x ∧ x < w.cs.length) ∧ ¬ InC w.cs x) ∧ v = .bool true ∧ ∃ (S' : Nat → Prop) (q : Nat), (q : Int) ≤ upN d (w.len g).toNat ∧ (0 < w.len g → 0 < q) ∧ DaryAt H' n S' d (min (st + q) 4611686018427387904) (w.put x (g, k, s)) ∧ Ext S H H' ∧ ∀ z, S' z → S z ∨ H.size ≤ z)) := by
  obtain ⟨c, C, rv, fp, rs, m, l, hS⟩ := h
  refine ccT d_dary_Nest_Insert ⟨rfl, ?_⟩
  refine v1 s_dary_Nest_Insert.eq_1 ?_
  have f0 : Fresh H (H.new 224 [i64 k, u64 s]) := (Ext.refl _ _).new _ _
  have b0 : (H.new 224 [i64 k, u64 s]).own H.size = some [i64 k, u64 s] := own_new _ _ _
  have m0 := m.ext f0 (fun _ _ h => h)
  generalize H.new 224 [i64 k, u64 s] = H0 at *
  refine v2 (rd_of_own m0.own) (rd_of_own b0) ?_
  refine (cellsN_Put_spec m0.cells g x k s).mono ?_
  rintro _ H1 (⟨hno, rfl, c1, e1⟩ | ⟨hyes, rfl, c1, e1⟩)
  · refine vs ?_
    refine .inl ⟨hno, rfl, ⟨c, C, rv, fp, rs, ?_, l, hS⟩, (f0.mono fun _ _ h => h.elim).trans (e1.mono fun z _ hz => (hS z).1 (.inl hz))⟩
    exact ⟨e1.own m0.own m.nC, c1, m0.sl.ext e1 (fun b hb h => (m.fpd b hb).2 h), fun i R hR => (m0.row i R hR).ext e1 (fun x hx => (m.rowd i R hR x hx).1), m.nC, m.fpd, m.rowd, m.rowrow⟩
  · obtain ⟨hh, ⟨hx0, hx1⟩, hin⟩ := id hyes
    obtain ⟨R, hR⟩ := l.hasR hh
    have h1 := hh.1
    have hgg : ((g.toNat : Nat) : Int) = g := by omega
    have hmem := l.mem _ R hR
    have hlen := l.len _ R hR
    rw [hgg] at hmem hlen
    obtain ⟨c0, hc0⟩ : ∃ c0, w.cs[x.toNat]? = some c0 := ⟨_, List.getElem?_eq_getElem (by omega)⟩
    have hc1 : ¬ 0 < c0.1 := fun h => hin ⟨hx0, c0, hc0, h⟩
    have hput : (w.put x (g, k, s)).cs[x.toNat]? = some (g, k, s) := List.getElem?_set_self (by omega)
    have hput2 : ∀ y : Nat, y ≠ x.toNat → (w.put x (g, k, s)).cs[y]? = w.cs[y]? := fun y hy => List.getElem?_set_ne (Ne.symm hy)
    have hxno : ∀ (i : Nat) Q, rs[i]? = some (some Q) → x ∉ Q.l := fun i Q hQ hm => by
      obtain ⟨_, e, he⟩ := (l.mem i Q hQ x).1 hm
      rw [hc0] at he
      injection he with he
      subst he
      rcases Nat.eq_zero_or_pos i with hi | hi
      · subst hi; rw [l.h0] at hQ; cases hQ
      · exact hc1 (by simp only; omega)
    have hne : ∀ (i : Nat) Q, rs[i]? = some (some Q) → ∀ y ∈ Q.l, 0 ≤ y ∧ y.toNat ≠ x.toNat := fun i Q hQ y hy => by
      have h2 := ((l.mem i Q hQ y).1 hy).1
      exact ⟨h2, fun e => hxno i Q hQ (by rw [show x = y by omega]; exact hy)⟩
    have hlc : ∀ (i : Nat) Q, rs[i]? = some (some Q) → HeapOn (ltW (w.put x (g, k, s))) d Q.l Q.pl := fun i Q hQ =>
      HeapOn.congr l.fine (l.ok i Q hQ) fun z hz y hy => (ltW_put w x _ (hne i Q hQ z hz).2 (hne i Q hQ y hy).2).symm
    have hInD : ∀ z ∈ R.l, InC (w.put x (g, k, s)).cs z := fun z hz => by
      obtain ⟨z0, e, he⟩ := (hmem z).1 hz
      exact ⟨z0, _, by rw [hput2 _ (hne _ R hR z hz).2]; exact he, by simp only; omega⟩
    have hInx : InC (w.put x (g, k, s)).cs x := ⟨hx0, _, hput, by simp only; omega⟩
    have o1 := e1.own m0.own m.nC
    have hstb := m.cells.st
    have m1 : DaryM H1 n c C rv fp d st (w.put x (g, k, s)) rs := ⟨o1, c1, m0.sl.ext e1 (fun b hb h => (m.fpd b hb).2 h), fun i R hR => (m0.row i R hR).ext e1 (fun x hx => (m.rowd i R hR x hx).1), m.nC, m.fpd, m.rowd, m.rowrow⟩
    have hlt := (List.getElem?_eq_some_iff.1 hR).1
    obtain ⟨b, o, c', lb, q1, q2, q3, q4⟩ := RdS.get m1.sl.rd (i := g.toNat) (j := 0) (x := ptr R.r) (by omega) (by simp [hR, rwV])
    subst q1
    refine v1 (rd_of_own o1) ?_
    refine ⟨by omega, ?_⟩
    refine v2 q2 (show lb[o + g.toNat * 1]? = some (ptr R.r) from q4) ?_
    have hcsl := m.cells.csl
    have hll : R.l.length ≤ 65536 := by have := (w.len_le g).2; omega
    refine (sift_Add_spec (dary_ord (c := c) (rv := .slice (some ⟨b, o, none⟩) rs.length c') (d := d) (st := st) (w := w.put x (g, k, s)) m.nC) (m1.row _ R hR) (fun z hz ht => ?_) (n := 0) ⟨by rw [show min (st + ((0 : Nat) : Int)) 4611686018427387904 = st by omega]; exact c1, o1⟩ x (by omega) hInx hInD).mono ?_
    · rcases ht with ht | ht
      · exact (m.rowd _ R hR z hz).1 ht
      · exact (m.rowd _ R hR z hz).2.1 ht
    rintro _ H2 (⟨hp, _, _⟩ | ⟨hp, rfl, S', r2, ⟨c2, o2⟩, e2, hS'⟩)
    · exact absurd ((HeapOn.mem (l.ok _ R hR) x).2 hp) (hxno _ R hR)
    obtain ⟨p1, p2, p3, p4⟩ := HeapOn.add (ltW_strict (w.put x (g, k, s))) l.fine (hlc _ R hR) hp
    have hq : 0 < R.l.length → 0 < (upM (ltW (w.put x (g, k, s))) d x R.l.length (R.l ++ [x]) R.pl R.l.length).asked := fun h => upM_pos _ l.fine x _ _ (by omega) (by omega)
    generalize hU : upM (ltW (w.put x (g, k, s))) d x R.l.length (R.l ++ [x]) R.pl R.l.length = U at *
    rw [Nat.zero_add] at c2
    refine vs ?_
    have hmS : ∀ z, (R.S z ∨ C z ∨ z = n) → S z := fun z hz => (hS z).1 (by
      rcases hz with hz | hz | hz
      · exact .inr (.inr (.inr ⟨_, R, hR, hz⟩))
      · exact .inl hz
      · exact .inr (.inl hz))
    have hget : ∀ (h : Nat) Q, (rs.set g.toNat (some (⟨R.r, S', U.l, U.pl⟩ : Rw)))[h]? = some (some Q) → (h = g.toNat ∧ Q = ⟨R.r, S', U.l, U.pl⟩) ∨ (h ≠ g.toNat ∧ rs[h]? = some (some Q)) := fun h Q hQ => by
      by_cases hh : h = g.toNat
      · subst hh
        rw [List.getElem?_set_self hlt] at hQ
        simp only [Option.some.injEq] at hQ
        exact .inl ⟨rfl, hQ.symm⟩
      · rw [List.getElem?_set_ne (Ne.symm hh)] at hQ
        exact .inr ⟨hh, hQ⟩
    refine .inr ⟨hyes, rfl, DaryS n C fp (rs.set g.toNat (some ⟨R.r, S', U.l, U.pl⟩)), U.asked, ?_, fun h => hq (by omega),
      ⟨c, C, _, fp, rs.set g.toNat (some ⟨R.r, S', U.l, U.pl⟩), m1.setRow hR (R' := ⟨R.r, S', U.l, U.pl⟩) rfl r2 hS' e2 (fun z hz => ?_) c2 o2,
        ⟨l.fine, by rw [List.length_set]; exact l.hl, fun h => ?_, ?_, fun h Q hQ => ?_, fun h Q hQ y => ?_, fun h Q hQ => ?_⟩, fun z => Iff.rfl⟩, ?_, fun z hz => ?_⟩
    · rw [show ((w.len g).toNat : Int) = (R.l.length : Int) by omega]
      exact Int.ofNat_le.2 p4
    · rcases hz with hz | hz | hz
      · exact .inr (.inl hz)
      · exact .inl hz
      · exact .inr (.inr hz)
    · show w.hs[h]? = some true ↔ _
      rw [l.hs h]
      by_cases hgh : h = g.toNat
      · subst hgh
        rw [List.getElem?_set_self hlt]
        exact ⟨fun _ => ⟨_, rfl⟩, fun _ => ⟨R, hR⟩⟩
      · rw [List.getElem?_set_ne (Ne.symm hgh)]
    · rw [List.getElem?_set_ne (by omega)]; exact l.h0
    · rcases hget h Q hQ with ⟨rfl, rfl⟩ | ⟨h5, h6⟩
      · exact p1
      · exact hlc h Q h6
    · rcases hget h Q hQ with ⟨rfl, rfl⟩ | ⟨h5, h6⟩
      · rw [hgg]
        show y ∈ U.l ↔ _
        rw [p2 y]
        constructor
        · rintro (rfl | hy)
          · exact ⟨hx0, _, hput⟩
          · obtain ⟨y0, e, he⟩ := (hmem y).1 hy
            exact ⟨y0, e, by rw [hput2 _ (hne _ R hR y hy).2]; exact he⟩
        · rintro ⟨y0, e, he⟩
          by_cases hyx : y.toNat = x.toNat
          · exact .inl (by omega)
          · rw [hput2 _ hyx] at he
            exact .inr ((hmem y).2 ⟨y0, e, he⟩)
      · rw [l.mem h Q h6 y]
        by_cases hyx : y.toNat = x.toNat
        · rw [hyx, hput, hc0]
          constructor
          · rintro ⟨y0, e, he⟩
            injection he with he
            subst he
            rcases Nat.eq_zero_or_pos h with hi | hi
            · subst hi; rw [l.h0] at h6; cases h6
            · exact absurd (show (0 : Int) < ((h : Nat) : Int) by omega) hc1
          · rintro ⟨y0, e, he⟩
            injection he with he
            injection he with he1 he2
            omega
        · rw [hput2 _ hyx]
    · rcases hget h Q hQ with ⟨rfl, rfl⟩ | ⟨h5, h6⟩
      · rw [hgg, Nw.len_put hc0 g, if_neg (fun hc => by omega), if_pos ⟨by omega, rfl⟩]
        show (U.l.length : Int) = _
        omega
      · rw [l.len h Q h6, Nw.len_put hc0 h, if_neg (fun hc => by omega), if_neg (fun hc => by omega)]
        omega
    · exact (f0.mono fun _ _ h => h.elim).trans ((e1.mono fun z _ hz => hmS z (.inr (.inl hz))).trans (e2.mono fun z _ hz => hmS z hz))
    · have z0 := f0.size
      have z1 := e1.size
      rcases hz with hz | rfl | hz | ⟨i, Q, hQ, hz⟩
      · exact .inl (hmS z (.inr (.inl hz)))
      · exact .inl (hmS z (.inr (.inr rfl)))
      · exact .inl ((hS z).1 (.inr (.inr (.inl hz))))
      · rcases hget i Q hQ with ⟨rfl, rfl⟩ | ⟨h5, h6⟩
        · rcases hS' z hz with h | h
          · exact .inl (hmS z (.inl h))
          · exact .inr (by omega)
        · exact .inl ((hS z).1 (.inr (.inr (.inr ⟨i, Q, h6, hz⟩))))
theorem dary_Delete_spec {H : Hp} {n : Nat} {S : Nat → Prop} {d st : Int} {w : Nw} (h : DaryAt H n S d st w) (x : Int) : CallH Tryz.prog n_dary_Nest_Delete [ptr n, i64 x] H fun v H' => Post (
    (¬ InC w.cs x ∧ v = .bool false ∧ H = H') ∨
    (InC w.cs x ∧ v = .bool true ∧ ∃ (c0 : Ce) (q : Nat), w.cs[x.toNat]? = some c0 ∧ (q : Int) ≤ d * (upN d (w.len c0.1 - 1) : Nat) + 1 ∧ ∃ S', DaryAt H' n S' d (min (st + q) 4611686018427387904) (w.put x (0, 0, 0)) ∧ Ext S H H' ∧ ∀ z, S' z → S z ∨ H.size ≤ z)) := by
  obtain ⟨c, C, rv, fp, rs, m, l, hS⟩ := h
  refine ccT d_dary_Nest_Delete ⟨rfl, ?_⟩
  refine v2 s_dary_Nest_Delete.eq_1 (rd_of_own m.own) ?_
  refine (cellsN_Home_spec m.cells x).mono ?_
  rintro _ H1 (⟨hno, rfl, rfl⟩ | ⟨hin, c0, hc0, rfl, c1, e1⟩)
  · refine vs ?_
    exact .inl ⟨hno, rfl, rfl⟩
  obtain ⟨hx0, c0', hc0', hpos⟩ := id hin
  rw [hc0] at hc0'
  injection hc0' with hc0'
  subst hc0'
  obtain ⟨R, hR⟩ := (l.hs c0.1.toNat).1 (m.cells.live _ (List.mem_of_getElem? hc0) hpos)
  have hgg : ((c0.1.toNat : Nat) : Int) = c0.1 := by omega
  have hmem := l.mem _ R hR
  have hlen := l.len _ R hR
  rw [hgg] at hmem hlen
  have hput : (w.put x (0, 0, 0)).cs[x.toNat]? = some (0, 0, 0) := List.getElem?_set_self (List.getElem?_eq_some_iff.1 hc0).1
  have hput2 : ∀ y : Nat, y ≠ x.toNat → (w.put x (0, 0, 0)).cs[y]? = w.cs[y]? := fun y hy => List.getElem?_set_ne (Ne.symm hy)
  have o1 := e1.own m.own m.nC
  have m1 : DaryM H1 n c C rv fp d st w rs := ⟨o1, c1, m.sl.ext e1 (fun b hb h => (m.fpd b hb).2 h), fun i R hR => (m.row i R hR).ext e1 (fun x hx => (m.rowd i R hR x hx).1), m.nC, m.fpd, m.rowd, m.rowrow⟩
  have hlt := (List.getElem?_eq_some_iff.1 hR).1
  have hxR : x ∈ R.l := (hmem x).2 ⟨hx0, c0.2, hc0⟩
  have hInD : ∀ z ∈ R.l, InC w.cs z := fun z hz => by
    obtain ⟨z0, e, he⟩ := (hmem z).1 hz
    exact ⟨z0, _, he, hpos⟩
  obtain ⟨b, o, c', lb, q1, q2, q3, q4⟩ := RdS.get m1.sl.rd (i := c0.1.toNat) (j := 0) (x := ptr R.r) (by omega) (by simp [hR, rwV])
  subst q1
  have hstb := m.cells.st
  have hcsl := m.cells.csl
  have hll : R.l.length ≤ 65536 := by have := (w.len_le c0.1).2; omega
  refine v1 (rd_of_own o1) ?_
  refine ⟨by omega, ?_⟩
  refine v2 q2 (show lb[o + c0.1.toNat * 1]? = some (ptr R.r) from q4) ?_
  refine (sift_Remove_spec (dary_ord (c := c) (rv := .slice (some ⟨b, o, none⟩) rs.length c') (d := d) (st := st) (w := w) m.nC) (m1.row _ R hR) (fun z hz ht => ?_) (n := 0) ⟨by rw [show min (st + ((0 : Nat) : Int)) 4611686018427387904 = st by omega]; exact c1, o1⟩ l.fine x (by omega) (l.ok _ R hR).pl hInD).mono ?_
  · rcases ht with ht | ht
    · exact (m.rowd _ R hR z hz).1 ht
    · exact (m.rowd _ R hR z hz).2.1 ht
  rintro _ H2 (⟨hp, _, _⟩ | ⟨i, hp, rfl, r2, ⟨c2, o2⟩, e2⟩)
  · exact absurd hp ((HeapOn.mem (l.ok _ R hR) x).1 hxR)
  obtain ⟨p1, p2, p3, p4⟩ := HeapOn.remove (ltW_strict w) l.fine (l.ok _ R hR) hp
  generalize hU : removeM (ltW w) d x R.l R.pl i = U at *
  rw [Nat.zero_add] at c2
  refine v1 (rd_of_own o2) ?_
  refine (cellsN_Drop_spec c2 x).mono ?_
  rintro _ H3 (⟨hno, _, _⟩ | ⟨_, rfl, c3, e3⟩)
  · exact absurd hin hno
  refine vs ?_
  have o3 := e3.own o2 m.nC
  have e23 : Ext (fun z => R.S z ∨ C z ∨ z = n) H1 H3 := e2.trans (e3.mono fun z _ hz => .inr (.inl hz))
  have r3 := r2.ext e3 (fun z hz => (m.rowd _ R hR z hz).1)
  have hmS : ∀ z, (R.S z ∨ C z ∨ z = n) → S z := fun z hz => (hS z).1 (by
    rcases hz with hz | hz | hz
    · exact .inr (.inr (.inr ⟨_, R, hR, hz⟩))
    · exact .inl hz
    · exact .inr (.inl hz))
  have hget : ∀ (h : Nat) Q, (rs.set c0.1.toNat (some (⟨R.r, R.S, U.1, U.2.1⟩ : Rw)))[h]? = some (some Q) → (h = c0.1.toNat ∧ Q = ⟨R.r, R.S, U.1, U.2.1⟩) ∨ (h ≠ c0.1.toNat ∧ rs[h]? = some (some Q)) := fun h Q hQ => by
    by_cases hh : h = c0.1.toNat
    · subst hh
      rw [List.getElem?_set_self hlt] at hQ
      simp only [Option.some.injEq] at hQ
      exact .inl ⟨rfl, hQ.symm⟩
    · rw [List.getElem?_set_ne (Ne.symm hh)] at hQ
      exact .inr ⟨hh, hQ⟩
  have hi0 : ∀ (h : Nat) Q, rs[h]? = some (some Q) → 0 < h := fun h Q hQ => by
    rcases Nat.eq_zero_or_pos h with hi | hi
    · subst hi; rw [l.h0] at hQ; cases hQ
    · exact hi
  have hne : ∀ (h : Nat) Q, h ≠ c0.1.toNat → rs[h]? = some (some Q) → ∀ y ∈ Q.l, y.toNat ≠ x.toNat := fun h Q hh hQ y hy e => by
    obtain ⟨y0, e', he⟩ := (l.mem h Q hQ y).1 hy
    rw [e, hc0] at he
    injection he with he
    rw [he] at hh
    simp only [Int.toNat_natCast] at hh
    exact hh rfl
  have hneU : ∀ y ∈ U.1, y.toNat ≠ x.toNat := fun y hy e => by
    obtain ⟨h1, h2⟩ := (p3 y).1 hy
    have := ((hmem y).1 h1).1
    omega
  refine .inr ⟨hin, rfl, c0, U.2.2, hc0, ?_, DaryS n C fp (rs.set c0.1.toNat (some ⟨R.r, R.S, U.1, U.2.1⟩)),
    ⟨c, C, _, fp, rs.set c0.1.toNat (some ⟨R.r, R.S, U.1, U.2.1⟩), m1.setRow hR (R' := ⟨R.r, R.S, U.1, U.2.1⟩) rfl r3 (fun z hz => .inl hz) e23 (fun z hz => ?_) c3 o3,
      ⟨l.fine, by rw [List.length_set]; exact l.hl, fun h => ?_, ?_, fun h Q hQ => ?_, fun h Q hQ y => ?_, fun h Q hQ => ?_⟩, fun z => Iff.rfl⟩, ?_, fun z hz => ?_⟩
  · rw [← hlen]; exact p4
  · rcases hz with hz | hz | hz
    · exact .inr (.inl hz)
    · exact .inl hz
    · exact .inr (.inr hz)
  · show w.hs[h]? = some true ↔ _
    rw [l.hs h]
    by_cases hgh : h = c0.1.toNat
    · subst hgh
      rw [List.getElem?_set_self hlt]
      exact ⟨fun _ => ⟨_, rfl⟩, fun _ => ⟨R, hR⟩⟩
    · rw [List.getElem?_set_ne (Ne.symm hgh)]
  · rw [List.getElem?_set_ne (by omega)]; exact l.h0
  · rcases hget h Q hQ with ⟨rfl, rfl⟩ | ⟨h5, h6⟩
    · exact HeapOn.congr l.fine p1 fun z hz y hy => (ltW_put w x _ (hneU z hz) (hneU y hy)).symm
    · exact HeapOn.congr l.fine (l.ok h Q h6) fun z hz y hy => (ltW_put w x _ (hne h Q h5 h6 z hz) (hne h Q h5 h6 y hy)).symm
  · by_cases hyx : y.toNat = x.toNat
    · rw [hyx, hput]
      have h0 := hget h Q hQ
      constructor
      · intro hy
        rcases h0 with ⟨rfl, rfl⟩ | ⟨h5, h6⟩
        · exact absurd hyx (hneU y hy)
        · exact absurd hyx (hne h Q h5 h6 y hy)
      · rintro ⟨_, e, he⟩
        injection he with he
        injection he with he1 _
        rcases h0 with ⟨rfl, rfl⟩ | ⟨h5, h6⟩
        · omega
        · have := hi0 h Q h6; omega
    · rw [hput2 _ hyx]
      rcases hget h Q hQ with ⟨rfl, rfl⟩ | ⟨h5, h6⟩
      · rw [hgg]
        show y ∈ U.1 ↔ _
        rw [p3 y, hmem y]
        constructor
        · exact fun h => h.1
        · exact fun h => ⟨h, fun e => hyx (by rw [e])⟩
      · exact l.mem h Q h6 y
  · rcases hget h Q hQ with ⟨rfl, rfl⟩ | ⟨h5, h6⟩
    · rw [hgg, Nw.len_put hc0 c0.1, if_pos ⟨hpos, rfl⟩, if_neg (fun hc => by omega)]
      show (U.1.length : Int) = _
      have := List.length_pos_of_mem hxR
      omega
    · have := hi0 h Q h6
      rw [l.len h Q h6, Nw.len_put hc0 h, if_neg (fun hc => by omega), if_neg (fun hc => by omega)]
      omega
  · exact (e1.mono fun z _ hz => hmS z (.inr (.inl hz))).trans (e23.mono fun z _ hz => hmS z hz)
  · rcases hz with hz | rfl | hz | ⟨i, Q, hQ, hz⟩
    · exact .inl (hmS z (.inr (.inl hz)))
    · exact .inl (hmS z (.inr (.inr rfl)))
    · exact .inl ((hS z).1 (.inr (.inr (.inl hz))))
    · rcases hget i Q hQ with ⟨rfl, rfl⟩ | ⟨h5, h6⟩
      · exact .inl (hmS z (.inl hz))
      · exact .inl ((hS z).1 (.inr (.inr (.inr ⟨i, Q, h6, hz⟩))))
theorem dary_Extract_spec {H : Hp} {n : Nat} {S : Nat → Prop} {d st : Int} {w : Nw} (h : DaryAt H n S d st w) (g : Int) : CallH Tryz.prog n_dary_Nest_Extract [ptr n, i64 g] H fun v H' => Post (
    ((¬ w.has g ∨ (w.has g ∧ w.len g = 0)) ∧ v = .tuple [i64 0, .bool false].toArray ∧ H = H') ∨
    (w.has g ∧ ∃ x, InC w.cs x ∧ (∃ e, w.cs[x.toNat]? = some (g, e)) ∧ (∀ y, 0 ≤ y → (∃ e, w.cs[y.toNat]? = some (g, e)) → y ≠ x → ltW w x y = true) ∧ v = .tuple [i64 x, .bool true].toArray ∧
      ∃ q : Nat, (q : Int) ≤ d * (upN d (w.len g - 1) : Nat) + 1 ∧ ∃ S', DaryAt H' n S' d (min (st + q) 4611686018427387904) (w.put x (0, 0, 0)) ∧ Ext S H H' ∧ ∀ z, S' z → S z ∨ H.size ≤ z)) := by
  refine ccT d_dary_Nest_Extract ⟨rfl, ?_⟩
  refine v1 s_dary_Nest_Extract.eq_1 ?_
  refine (dary_Min_spec h g).mono ?_
  rintro _ _ ⟨⟨hno, rfl⟩ | ⟨hh, h0, rfl⟩ | ⟨hh, x, hx, he, rfl, hleast⟩, rfl⟩
  · refine vs ?_
    exact .inl ⟨.inl hno, rfl, rfl⟩
  · refine vs ?_
    exact .inl ⟨.inr ⟨hh, h0⟩, rfl, rfl⟩
  · refine vs ?_
    refine (dary_Delete_spec h x).mono ?_
    rintro _ H1 (⟨hno, _, _⟩ | ⟨_, rfl, c0, q, hc0, hq, S', d1, e1, hS'⟩)
    · exact absurd hx hno
    refine vs ?_
    obtain ⟨e, he'⟩ := id he
    rw [hc0] at he'
    injection he' with he'
    subst he'
    exact .inr ⟨hh, x, hx, he, hleast, rfl, q, hq, S', d1, e1, hS'⟩
theorem ltW_lower (w : Nw) {x : Int} {y : Ce} {k s : Int} (hy : w.cs[x.toNat]? = some y) (hl : ¬ lessE y.2.1 y.2.2 k s) {z : Int} (hz : z.toNat ≠ x.toNat) (h : ltW w z x = false) : ltW (w.put x (y.1, k, s)) z x = false := by
  have k1 : w.key x = y.2.1 := by unfold Nw.key; rw [List.getD_eq_getElem?_getD, hy]; rfl
  have k2 : w.seq x = y.2.2 := by unfold Nw.seq; rw [List.getD_eq_getElem?_getD, hy]; rfl
  have hs := List.getElem?_set_self (l := w.cs) (a := (y.1, k, s)) (List.getElem?_eq_some_iff.1 hy).1
  have k3 : (w.put x (y.1, k, s)).key x = k := by unfold Nw.key Nw.put; simp only [List.getD_eq_getElem?_getD]; rw [hs]; rfl
  have k4 : (w.put x (y.1, k, s)).seq x = s := by unfold Nw.seq Nw.put; simp only [List.getD_eq_getElem?_getD]; rw [hs]; rfl
  have k5 : (w.put x (y.1, k, s)).key z = w.key z := by unfold Nw.key Nw.put; simp only [List.getD_eq_getElem?_getD]; rw [List.getElem?_set_ne (Ne.symm hz)]
  have k6 : (w.put x (y.1, k, s)).seq z = w.seq z := by unfold Nw.seq Nw.put; simp only [List.getD_eq_getElem?_getD]; rw [List.getElem?_set_ne (Ne.symm hz)]
  unfold ltW at h ⊢
  rw [k3, k4, k5, k6]
  rw [k1, k2] at h
  simp only [decide_eq_false_iff_not, lessE] at *
  omega
theorem dary_Decrease_spec {H : Hp} {n : Nat} {S : Nat → Prop} {d st : Int} {w : Nw} (h : DaryAt H n S d st w) (x k s : Int) : CallH Tryz.prog n_dary_Nest_Decrease [ptr n, i64 x, ent k s] H fun v H' => Post (
    (¬ (InC w.cs x ∧ ∀ y, w.cs[x.toNat]? = some y → ¬ lessE y.2.1 y.2.2 k s) ∧ v = .bool false ∧ DaryAt H' n S d st w ∧ Fresh H H') ∨
    (InC w.cs x ∧ ∃ y, w.cs[x.toNat]? = some y ∧ ¬ lessE y.2.1 y.2.2 k s ∧ v = .bool true ∧ ∃ q : Nat, (q : Int) ≤ upN d (w.len y.1 - 1) ∧ ∃ S', DaryAt H' n S' d (min (st + q) 4611686018427387904) (w.put x (y.1, k, s)) ∧ Ext S H H' ∧ ∀ z, S' z → S z ∨ H.size ≤ z)) := by
  obtain ⟨c, C, rv, fp, rs, m, l, hS⟩ := h
  refine ccT d_dary_Nest_Decrease ⟨rfl, ?_⟩
  refine v1 s_dary_Nest_Decrease.eq_1 ?_
  have f0 : Fresh H (H.new 224 [i64 k, u64 s]) := (Ext.refl _ _).new _ _
  have b0 : (H.new 224 [i64 k, u64 s]).own H.size = some [i64 k, u64 s] := own_new _ _ _
  have m0 := m.ext f0 (fun _ _ h => h)
  generalize H.new 224 [i64 k, u64 s] = H0 at *
  refine v2 (rd_of_own m0.own) (rd_of_own b0) ?_
  refine (cellsN_Lower_spec m0.cells x k s).mono ?_
  rintro _ H1 (⟨hno, rfl, c1, e1⟩ | ⟨hin, rfl, y, hy, hless, c1, e1⟩)
  · refine vs ?_
    exact .inl ⟨hno, rfl, ⟨c, C, rv, fp, rs, m0.ext e1 (fun _ _ h => h), l, hS⟩, f0.trans e1⟩
  have o1 := e1.own m0.own m.nC
  refine v1 (rd_of_own o1) ?_
  obtain ⟨hx0, y', hy', hpos⟩ := id hin
  rw [hy] at hy'
  injection hy' with hy'
  subst hy'
  have hput : (w.put x (y.1, k, s)).cs[x.toNat]? = some (y.1, k, s) := List.getElem?_set_self (List.getElem?_eq_some_iff.1 hy).1
  have hput2 : ∀ z : Nat, z ≠ x.toNat → (w.put x (y.1, k, s)).cs[z]? = w.cs[z]? := fun z hz => List.getElem?_set_ne (Ne.symm hz)
  have hin' : InC (w.put x (y.1, k, s)).cs x := ⟨hx0, _, hput, hpos⟩
  refine (cellsN_Home_spec c1 x).mono ?_
  rintro _ H2 (⟨hno, _, _⟩ | ⟨_, y2, hy2, rfl, c2, e2⟩)
  · exact absurd hin' hno
  rw [hput] at hy2
  injection hy2 with hy2
  subst hy2
  have e12 := e1.trans e2
  obtain ⟨R, hR⟩ := (l.hs y.1.toNat).1 (m.cells.live _ (List.mem_of_getElem? hy) hpos)
  have hgg : ((y.1.toNat : Nat) : Int) = y.1 := by omega
  have hmemW : ∀ (h : Nat) Q, rs[h]? = some (some Q) → ∀ z : Int, z ∈ Q.l ↔ 0 ≤ z ∧ ∃ e, (w.put x (y.1, k, s)).cs[z.toNat]? = some (((h : Nat) : Int), e) := fun h Q hQ z => by
    rw [l.mem h Q hQ z]
    by_cases hzx : z.toNat = x.toNat
    · rw [hzx, hput, hy]
      constructor
      · rintro ⟨z0, e, he⟩
        injection he with he
        exact ⟨z0, (k, s), by rw [he]⟩
      · rintro ⟨z0, e, he⟩
        injection he with he
        injection he with he1 _
        exact ⟨z0, y.2, by rw [← he1]⟩
    · rw [hput2 _ hzx]
  have hmem := hmemW _ R hR
  have hlen := l.len _ R hR
  rw [hgg] at hmem hlen
  have hxR : x ∈ R.l := (hmem x).2 ⟨hx0, _, hput⟩
  have hInD : ∀ z ∈ R.l, InC (w.put x (y.1, k, s)).cs z := fun z hz => by
    obtain ⟨z0, e, he⟩ := (hmem z).1 hz
    exact ⟨z0, _, he, hpos⟩
  have o2 := e2.own o1 m.nC
  have m2 : DaryM H2 n c C rv fp d st (w.put x (y.1, k, s)) rs := ⟨o2, c2, m0.sl.ext e12 (fun b hb h => (m.fpd b hb).2 h), fun i R hR => (m0.row i R hR).ext e12 (fun x hx => (m.rowd i R hR x hx).1), m.nC, m.fpd, m.rowd, m.rowrow⟩
  have hlt := (List.getElem?_eq_some_iff.1 hR).1
  obtain ⟨b, o, c', lb, q1, q2, q3, q4⟩ := RdS.get m2.sl.rd (i := y.1.toNat) (j := 0) (x := ptr R.r) (by omega) (by simp [hR, rwV])
  subst q1
  have hstb := m.cells.st
  have hcsl := m.cells.csl
  have hll : R.l.length ≤ 65536 := by have := (w.len_le y.1).2; omega
  refine v1 (rd_of_own o2) ?_
  refine ⟨by omega, ?_⟩
  refine v2 q2 (show lb[o + y.1.toNat * 1]? = some (ptr R.r) from q4) ?_
  refine (sift_Raise_spec (dary_ord (c := c) (rv := .slice (some ⟨b, o, none⟩) rs.length c') (d := d) (st := st) (w := w.put x (y.1, k, s)) m.nC) (m2.row _ R hR) (fun z hz ht => ?_) (n := 0) ⟨by rw [show min (st + ((0 : Nat) : Int)) 4611686018427387904 = st by omega]; exact c2, o2⟩ x (by omega) (fun i hi => by
    obtain ⟨h1, h2⟩ := ((l.ok _ R hR).pl x i).1 hi
    have := (List.getElem?_eq_some_iff.1 h2).1
    exact ⟨h1, by omega⟩) hin' hInD).mono ?_
  · rcases ht with ht | ht
    · exact (m.rowd _ R hR z hz).1 ht
    · exact (m.rowd _ R hR z hz).2.1 ht
  rintro _ H3 (⟨hp, _, _⟩ | ⟨i, hp, rfl, r3, ⟨c3, o3⟩, e3⟩)
  · exact absurd hp ((HeapOn.mem (l.ok _ R hR) x).1 hxR)
  have hz0 : ∀ z ∈ R.l, z ≠ x → z.toNat ≠ x.toNat := fun z hz hne e => by have := ((hmem z).1 hz).1; omega
  obtain ⟨p1, p2, p3, p4⟩ := HeapOn.raise (ltW_strict w) (ltW_strict (w.put x (y.1, k, s))) l.fine (l.ok _ R hR) hp (fun a ha b hb hax hbx => ltW_put w x _ (hz0 a ha hax) (hz0 b hb hbx)) (fun z hz hzx hl => ltW_lower w hy hless (hz0 z hz hzx) hl)
  generalize hU : upM (ltW (w.put x (y.1, k, s))) d x i.toNat R.l R.pl i = U at *
  rw [Nat.zero_add] at c3
  refine vs ?_
  have hmS : ∀ z, (R.S z ∨ C z ∨ z = n) → S z := fun z hz => (hS z).1 (by
    rcases hz with hz | hz | hz
    · exact .inr (.inr (.inr ⟨_, R, hR, hz⟩))
    · exact .inl hz
    · exact .inr (.inl hz))
  have hget : ∀ (h : Nat) Q, (rs.set y.1.toNat (some (⟨R.r, R.S, U.l, U.pl⟩ : Rw)))[h]? = some (some Q) → (h = y.1.toNat ∧ Q = ⟨R.r, R.S, U.l, U.pl⟩) ∨ (h ≠ y.1.toNat ∧ rs[h]? = some (some Q)) := fun h Q hQ => by
    by_cases hh : h = y.1.toNat
    · subst hh
      rw [List.getElem?_set_self hlt] at hQ
      simp only [Option.some.injEq] at hQ
      exact .inl ⟨rfl, hQ.symm⟩
    · rw [List.getElem?_set_ne (Ne.symm hh)] at hQ
      exact .inr ⟨hh, hQ⟩
  have hne : ∀ (h : Nat) Q, h ≠ y.1.toNat → rs[h]? = some (some Q) → ∀ z ∈ Q.l, z.toNat ≠ x.toNat := fun h Q hh hQ z hz e => by
    obtain ⟨z0, e', he⟩ := (l.mem h Q hQ z).1 hz
    rw [e, hy] at he
    injection he with he
    rw [he] at hh
    simp only [Int.toNat_natCast] at hh
    exact hh rfl
  have hwl : ∀ h : Int, (w.put x (y.1, k, s)).len h = w.len h := fun h => by
    rw [Nw.len_put hy h]
    simp only
    split <;> omega
  refine .inr ⟨hin, y, hy, hless, rfl, U.asked, by rw [← hlen]; exact Int.ofNat_le.2 p4, DaryS n C fp (rs.set y.1.toNat (some ⟨R.r, R.S, U.l, U.pl⟩)),
    ⟨c, C, _, fp, rs.set y.1.toNat (some ⟨R.r, R.S, U.l, U.pl⟩), m2.setRow hR (R' := ⟨R.r, R.S, U.l, U.pl⟩) rfl r3 (fun z hz => .inl hz) e3 (fun z hz => ?_) c3 o3,
      ⟨l.fine, by rw [List.length_set]; exact l.hl, fun h => ?_, ?_, fun h Q hQ => ?_, fun h Q hQ z => ?_, fun h Q hQ => ?_⟩, fun z => Iff.rfl⟩, ?_, fun z hz => ?_⟩
  · rcases hz with hz | hz | hz
    · exact .inr (.inl hz)
    · exact .inl hz
    · exact .inr (.inr hz)
  · show w.hs[h]? = some true ↔ _
    rw [l.hs h]
    by_cases hgh : h = y.1.toNat
    · subst hgh
      rw [List.getElem?_set_self hlt]
      exact ⟨fun _ => ⟨_, rfl⟩, fun _ => ⟨R, hR⟩⟩
    · rw [List.getElem?_set_ne (Ne.symm hgh)]
  · rw [List.getElem?_set_ne (by omega)]; exact l.h0
  · rcases hget h Q hQ with ⟨rfl, rfl⟩ | ⟨h5, h6⟩
    · exact p1
    · exact HeapOn.congr l.fine (l.ok h Q h6) fun z hz v hv => (ltW_put w x _ (hne h Q h5 h6 z hz) (hne h Q h5 h6 v hv)).symm
  · rcases hget h Q hQ with ⟨rfl, rfl⟩ | ⟨h5, h6⟩
    · rw [hgg]
      show z ∈ U.l ↔ _
      rw [p2 z, hmem z]
    · exact hmemW h Q h6 z
  · rw [hwl]
    rcases hget h Q hQ with ⟨rfl, rfl⟩ | ⟨h5, h6⟩
    · rw [hgg]
      show (U.l.length : Int) = _
      omega
    · exact l.len h Q h6
  · exact (f0.mono fun _ _ h => h.elim).trans ((e12.mono fun z _ hz => hmS z (.inr (.inl hz))).trans (e3.mono fun z _ hz => hmS z hz))
  · rcases hz with hz | rfl | hz | ⟨j, Q, hQ, hz⟩
    · exact .inl (hmS z (.inr (.inl hz)))
    · exact .inl (hmS z (.inr (.inr rfl)))
    · exact .inl ((hS z).1 (.inr (.inr (.inl hz))))
    · rcases hget j Q hQ with ⟨rfl, rfl⟩ | ⟨h5, h6⟩
      · exact .inl (hmS z (.inl hz))
      · exact .inl ((hS z).1 (.inr (.inr (.inr ⟨j, Q, h6, hz⟩))))
theorem dary_nestP (n : Nat) (d : Int) : NestP (.iface 194 (ptr n)) (fun H S w => ∃ st, DaryAt H n S d st w) where
  slt := by rintro H S w ⟨st, h⟩; exact h.slt
  ext := by rintro H H' S w T ⟨st, h⟩ e hd; exact ⟨st, h.ext e hd⟩
  cells := by
    rintro H S w ⟨st, c, C, rv, fp, rs, m, l, hS⟩
    exact ⟨c, C, st, m.cells⟩
  has := by
    rintro H S w g ⟨st, c, C, rv, fp, rs, m, l, hS⟩
    exact ⟨_, _, n_cells_Cells_Has, ptr c, rfl, methR1 (off := 0) (by kernel_rfl) (rd_of_own m.own) rfl, (cellsN_Has_spec m.cells g).mono fun v H' hp => hp⟩
  make := by
    rintro H S w ⟨st, h⟩
    refine ⟨_, _, n_dary_Nest_Make, ptr n, rfl, methR0 (by kernel_rfl), (dary_Make_spec h).mono ?_⟩
    rintro v H' (⟨h1, rfl, rfl⟩ | ⟨h1, rfl, S', h2, h3, h4⟩)
    · exact .inl ⟨h1, rfl, NxP.same ⟨st, h⟩ (Ext.refl _ _)⟩
    · exact .inr ⟨h1, rfl, S', ⟨_, h2⟩, h3, h4⟩
  insert := by
    rintro H S w g x k s ⟨st, h⟩
    refine ⟨_, _, n_dary_Nest_Insert, ptr n, rfl, methR0 (by kernel_rfl), (dary_Insert_spec h g x k s).mono ?_⟩
    rintro v H' (⟨h1, rfl, h2, h3⟩ | ⟨h1, rfl, S', q, h2, _, h3, h4, h5⟩)
    · exact .inl ⟨h1, rfl, NxP.same ⟨st, h2⟩ h3⟩
    · exact .inr ⟨h1, rfl, S', ⟨_, h3⟩, h4, h5⟩
  min := by
    rintro H S w g ⟨st, h⟩
    refine ⟨_, _, n_dary_Nest_Min, ptr n, rfl, methR0 (by kernel_rfl), (dary_Min_spec h g).mono ?_⟩
    rintro v H' ⟨h1, rfl⟩
    have hn := NxP.same (I := fun H S w => ∃ st, DaryAt H n S d st w) ⟨st, h⟩ (Ext.refl S H)
    obtain ⟨c, C, rv, fp, rs, m, l, hS⟩ := h
    rcases h1 with ⟨h1, rfl⟩ | ⟨h1, h2, rfl⟩ | ⟨h1, x, h2, h3, rfl, h4⟩
    · refine .inl ⟨Nw.len0.2 ?_, rfl, hn⟩
      by_cases hg : g ≤ 0
      · exact .inl hg
      · refine .inr fun i c hc e => h1 ⟨by omega, ?_⟩
        have := m.cells.live c (List.mem_of_getElem? hc) (by omega)
        rwa [e] at this
    · exact .inl ⟨h2, rfl, hn⟩
    · exact .inr ⟨x, ⟨by have := h1.1; omega, h2.1, h3, h4⟩, rfl, hn⟩
  extract := by
    rintro H S w g ⟨st, h⟩
    refine ⟨_, _, n_dary_Nest_Extract, ptr n, rfl, methR0 (by kernel_rfl), (dary_Extract_spec h g).mono ?_⟩
    rintro v H' (⟨h1, rfl, rfl⟩ | ⟨h1, x, h2, h3, h4, rfl, q, hq, S', h5, h6, h7⟩)
    · have hn := NxP.same (I := fun H S w => ∃ st, DaryAt H n S d st w) ⟨st, h⟩ (Ext.refl S H)
      obtain ⟨c, C, rv, fp, rs, m, l, hS⟩ := h
      rcases h1 with h1 | ⟨_, h1⟩
      · refine .inl ⟨Nw.len0.2 ?_, rfl, hn⟩
        by_cases hg : g ≤ 0
        · exact .inl hg
        · refine .inr fun i c hc e => h1 ⟨by omega, ?_⟩
          have := m.cells.live c (List.mem_of_getElem? hc) (by omega)
          rwa [e] at this
      · exact .inl ⟨h1, rfl, hn⟩
    · exact .inr ⟨x, ⟨by have := h1.1; omega, h2.1, h3, h4⟩, rfl, S', ⟨_, h5⟩, h6, h7⟩
  decrease := by
    rintro H S w x k s ⟨st, h⟩
    refine ⟨_, _, n_dary_Nest_Decrease, ptr n, rfl, methR0 (by kernel_rfl), (dary_Decrease_spec h x k s).mono ?_⟩
    rintro v H' (⟨h1, rfl, h2, h3⟩ | ⟨h1, y, hy, h2, rfl, q, hq, S', h3, h4, h5⟩)
    · exact .inl ⟨h1, rfl, NxP.same ⟨st, h2⟩ (h3.mono fun _ _ h => h.elim)⟩
    · exact .inr ⟨⟨h1, fun z hz => by rw [hy] at hz; injection hz with hz; rw [← hz]; exact h2⟩, rfl, y, hy, S', ⟨_, h3⟩, h4, h5⟩
  entry := by
    rintro H S w x ⟨st, h⟩
    obtain ⟨c, C, rv, fp, rs, m, l, hS⟩ := id h
    refine ⟨_, _, n_cells_Cells_Entry, ptr c, rfl, methR1 (off := 0) (by kernel_rfl) (rd_of_own m.own) rfl, (cellsN_Entry_spec m.cells x).mono ?_⟩
    rintro v H' ⟨_, f, hv⟩
    exact ⟨⟨st, h.fresh f⟩, f, hv⟩
structure RingAt (H : Hp) (r nb pb : Nat) (N P : List Int) : Prop where
  own : H.own r = some [.slice (some ⟨nb, 0, none⟩) N.length N.length, .slice (some ⟨pb, 0, none⟩) P.length P.length]
  nxt : H.own nb = some (N.map i64)
  prv : H.own pb = some (P.map i64)
  len : P.length = N.length
  ne : r ≠ nb ∧ r ≠ pb ∧ nb ≠ pb
def nxF (N : List Int) (x : Int) : Int := if 0 ≤ x ∧ x < N.length then N.getD x.toNat 0 else x
theorem nxF_at {N : List Int} {x : Int} (hx : 0 ≤ x ∧ x < N.length) : N[x.toNat]? = some (nxF N x) := by
  unfold nxF
  rw [if_pos hx, List.getD_eq_getElem?_getD]
  obtain ⟨y, hy⟩ : ∃ y, N[x.toNat]? = some y := ⟨_, List.getElem?_eq_getElem (by omega)⟩
  rw [hy]; rfl
theorem nxF_no {N : List Int} {x : Int} (hx : ¬ (0 ≤ x ∧ x < N.length)) : nxF N x = x := by unfold nxF; rw [if_neg hx]
theorem nxF_set {N : List Int} {x : Int} (hx : 0 ≤ x ∧ x < N.length) (v z : Int) : nxF (N.set x.toNat v) z = if z = x then v else nxF N z := by
  unfold nxF
  rw [List.length_set]
  by_cases hz : z = x
  · rw [if_pos hz, hz, if_pos hx, List.getD_eq_getElem?_getD, List.getElem?_set_self (by omega)]; rfl
  · rw [if_neg hz]
    split
    · rw [List.getD_eq_getElem?_getD, List.getElem?_set_ne (by omega), List.getD_eq_getElem?_getD]
    · rfl
theorem nxF_in {N P : List Int} (h : Inv2 (nxF N) (nxF P)) {x : Int} (hx : 0 ≤ x ∧ x < N.length) : 0 ≤ nxF N x ∧ nxF N x < N.length := by
  apply Classical.byContradiction
  intro hn
  have h1 := nxF_no hn
  have h2 : nxF N x = x := by
    have := h.pn (nxF N x)
    rw [h1] at this
    have h3 := h.pn x
    rw [this] at h3
    exact h3
  rw [h2] at hn
  exact hn hx
section
variable {H H' : Hp} {r nb pb : Nat} {N P : List Int} {T : Nat → Prop}
theorem RingAt.ext (h : RingAt H r nb pb N P) (e : Ext T H H') (h1 : ¬ T r) (h2 : ¬ T nb) (h3 : ¬ T pb) : RingAt H' r nb pb N P := ⟨e.own h.own h1, e.own h.nxt h2, e.own h.prv h3, h.len, h.ne⟩
theorem ring_has_spec (h : RingAt H r nb pb N P) (x : Int) : CallH Tryz.prog n_ring_Rings_has [ptr r, i64 x] H fun v H' => Post (v = .bool (decide (0 ≤ x ∧ x < N.length)) ∧ H' = H) := by
  refine ccT d_ring_Rings_has ⟨rfl, ?_⟩
  refine v1 s_ring_Rings_has.eq_1 ?_
  refine Both.dec (fun h0 => ?_) (fun h0 => ?_) <;> refine v1 (rd_of_own h.own) ?_
  · refine ⟨?_, rfl⟩
    rw [show (decide (0 ≤ x ∧ x < (N.length : Int))) = decide (x < (N.length : Int)) by simp [h0]]
    rfl
  · refine ⟨?_, rfl⟩
    rw [decide_eq_false (fun h => h0 h.1)]
    rfl
theorem ring_Next_spec (h : RingAt H r nb pb N P) {x : Int} (hx : 0 ≤ x ∧ x < N.length) : CallH Tryz.prog n_ring_Rings_Next [ptr r, i64 x] H fun v H' => Post (v = .tuple [i64 (nxF N x), .bool true].toArray ∧ H' = H) := by
  refine ccT d_ring_Rings_Next ⟨rfl, ?_⟩
  refine v1 s_ring_Rings_Next.eq_1 ?_
  refine (ring_has_spec h x).mono ?_
  rintro _ H' ⟨rfl, e⟩
  obtain rfl := e.symm
  rw [decide_eq_true hx]
  have hn : (N.map i64)[x.toNat]? = some (i64 (nxF N x)) := by rw [List.getElem?_map, nxF_at hx]; rfl
  refine v1 (rd_of_own h.own) ?_
  refine ⟨⟨by omega, by omega⟩, ?_⟩
  refine v4 (rd_of_own h.nxt) Nat.zero_add Nat.mul_one hn ?_
  exact ⟨rfl, rfl⟩
set_option maxHeartbeats 1000000 in
theorem ring_Splice_spec (h : RingAt H r nb pb N P) (hi : Inv2 (nxF N) (nxF P)) {x y : Int} (hx : 0 ≤ x ∧ x < N.length) (hy : 0 ≤ y ∧ y < N.length) : CallH Tryz.prog n_ring_Rings_Splice [ptr r, i64 x, i64 y] H fun v H' => Post (v = .bool true ∧
    ∃ N' P', RingAt H' r nb pb N' P' ∧ N'.length = N.length ∧ nxF N' = spl (nxF N) x y ∧ Inv2 (nxF N') (nxF P') ∧ Ext (fun z => z = nb ∨ z = pb) H H') := by
  refine ccT d_ring_Rings_Splice ⟨rfl, ?_⟩
  refine v1 s_ring_Rings_Splice.eq_1 ?_
  refine (ring_has_spec h x).mono ?_
  rintro _ H' ⟨rfl, e⟩
  obtain rfl := e.symm
  rw [decide_eq_true hx]
  refine vs ?_
  refine (ring_has_spec h y).mono ?_
  rintro _ H' ⟨rfl, e⟩
  obtain rfl := e.symm
  rw [decide_eq_true hy]
  have hnx : (N.map i64)[x.toNat]? = some (i64 (nxF N x)) := by rw [List.getElem?_map, nxF_at hx]; rfl
  have hny : (N.map i64)[y.toNat]? = some (i64 (nxF N y)) := by rw [List.getElem?_map, nxF_at hy]; rfl
  obtain ⟨a0, a1⟩ := nxF_in hi hx
  obtain ⟨b0, b1⟩ := nxF_in hi hy
  obtain ⟨d1, d2, d3⟩ := h.ne
  have hl := h.len
  refine v1 (rd_of_own h.own) ?_
  refine ⟨⟨by omega, by omega⟩, ?_⟩
  refine v5 (rd_of_own h.nxt) (rd_of_own h.own) Nat.zero_add Nat.mul_one hnx ?_
  refine ⟨⟨by omega, by omega⟩, ?_⟩
  refine v5 (rd_of_own h.nxt) (rd_of_own h.own) Nat.zero_add Nat.mul_one hny ?_
  refine ⟨⟨by omega, by omega⟩, ?_⟩
  refine v3 h.nxt Nat.zero_add Nat.mul_one ?_
  refine ⟨by rw [List.length_map]; omega, ?_⟩
  refine vs ?_
  have e1 : Ext (fun z => z = nb) H (H.wr nb ((N.map i64).set x.toNat (i64 (nxF N y)))) := (Ext.refl (fun z => z = nb) _).wr (fun _ => rfl) _
  have q1 : (H.wr nb ((N.map i64).set x.toNat (i64 (nxF N y)))).own nb = some ((N.map i64).set x.toNat (i64 (nxF N y))) := own_wr_same h.nxt
  generalize H.wr nb ((N.map i64).set x.toNat (i64 (nxF N y))) = H1 at *
  refine ⟨⟨by omega, by omega⟩, ?_⟩
  refine v3 q1 Nat.zero_add Nat.mul_one ?_
  refine ⟨by rw [List.length_set, List.length_map]; omega, ?_⟩
  refine vs ?_
  have e2 : Ext (fun z => z = nb) H1 (H1.wr nb (((N.map i64).set x.toNat (i64 (nxF N y))).set y.toNat (i64 (nxF N x)))) := (Ext.refl (fun z => z = nb) _).wr (fun _ => rfl) _
  have q2 : (H1.wr nb (((N.map i64).set x.toNat (i64 (nxF N y))).set y.toNat (i64 (nxF N x)))).own nb = some (((N.map i64).set x.toNat (i64 (nxF N y))).set y.toNat (i64 (nxF N x))) := own_wr_same q1
  generalize H1.wr nb (((N.map i64).set x.toNat (i64 (nxF N y))).set y.toNat (i64 (nxF N x))) = H2 at *
  have e12 := e1.trans e2
  have o2 := e12.own h.own d1
  have p2 := e12.own h.prv (Ne.symm d3)
  have o1 := e1.own h.own d1
  refine v2 (rd_of_own o1) (rd_of_own o2) ?_
  refine ⟨⟨by omega, by omega⟩, ?_⟩
  refine v3 p2 Nat.zero_add Nat.mul_one ?_
  refine ⟨by rw [List.length_map]; omega, ?_⟩
  refine vs ?_
  have e3 : Ext (fun z => z = pb) H2 (H2.wr pb ((P.map i64).set (nxF N y).toNat (i64 x))) := (Ext.refl (fun z => z = pb) _).wr (fun _ => rfl) _
  have q3 : (H2.wr pb ((P.map i64).set (nxF N y).toNat (i64 x))).own pb = some ((P.map i64).set (nxF N y).toNat (i64 x)) := own_wr_same p2
  generalize H2.wr pb ((P.map i64).set (nxF N y).toNat (i64 x)) = H3 at *
  refine ⟨⟨by omega, by omega⟩, ?_⟩
  refine v3 q3 Nat.zero_add Nat.mul_one ?_
  refine ⟨by rw [List.length_set, List.length_map]; omega, ?_⟩
  refine vs ?_
  have e4 : Ext (fun z => z = pb) H3 (H3.wr pb (((P.map i64).set (nxF N y).toNat (i64 x)).set (nxF N x).toNat (i64 y))) := (Ext.refl (fun z => z = pb) _).wr (fun _ => rfl) _
  have q4 : (H3.wr pb (((P.map i64).set (nxF N y).toNat (i64 x)).set (nxF N x).toNat (i64 y))).own pb = some (((P.map i64).set (nxF N y).toNat (i64 x)).set (nxF N x).toNat (i64 y)) := own_wr_same q3
  have e34 := e3.trans e4
  have nf : nxF ((N.set x.toNat (nxF N y)).set y.toNat (nxF N x)) = spl (nxF N) x y := by
    funext z
    rw [nxF_set (by rw [List.length_set]; exact hy), nxF_set hx]
    unfold spl
    by_cases h1 : z = x
    · rw [if_pos h1]
      by_cases h2 : z = y
      · rw [if_pos h2, ← h2, h1]; simp
      · rw [if_neg h2, if_pos h1]
    · rw [if_neg h1, if_neg h1]
  have pf : nxF ((P.set (nxF N y).toNat x).set (nxF N x).toNat y) = splP (nxF N) (nxF P) x y := by
    funext z
    rw [nxF_set (by rw [List.length_set]; omega), nxF_set (by omega)]
    rfl
  refine ⟨rfl, (N.set x.toNat (nxF N y)).set y.toNat (nxF N x), (P.set (nxF N y).toNat x).set (nxF N x).toNat y, ⟨?_, ?_, ?_, by simp [hl], h.ne⟩, by simp, nf, ?_, (e12.mono fun z _ h => .inl h).trans (e34.mono fun z _ h => .inr h)⟩
  · rw [List.length_set, List.length_set, List.length_set, List.length_set]
    exact e34.own o2 d2
  · rw [List.map_set, List.map_set]
    exact e34.own q2 d3
  · rw [List.map_set, List.map_set]
    exact q4
  · rw [nf, pf]
    exact hi.spl x y
theorem ring_Part_spec (h : RingAt H r nb pb N P) (hi : Inv2 (nxF N) (nxF P)) {x : Int} (hx : 0 ≤ x ∧ x < N.length) : CallH Tryz.prog n_ring_Rings_Part [ptr r, i64 x] H fun v H' => Post (v = .bool true ∧
    ∃ N' P', RingAt H' r nb pb N' P' ∧ N'.length = N.length ∧ nxF N' = spl (nxF N) x (nxF P x) ∧ Inv2 (nxF N') (nxF P') ∧ Ext (fun z => z = nb ∨ z = pb) H H') := by
  have hi2 : Inv2 (nxF P) (nxF N) := ⟨hi.np, hi.pn⟩
  have hl := h.len
  have hpx := nxF_in hi2 (x := x) (by omega)
  have hp : (P.map i64)[x.toNat]? = some (i64 (nxF P x)) := by rw [List.getElem?_map, nxF_at (by omega)]; rfl
  refine ccT d_ring_Rings_Part ⟨rfl, ?_⟩
  refine v1 s_ring_Rings_Part.eq_1 ?_
  refine (ring_has_spec h x).mono ?_
  rintro _ H' ⟨rfl, e⟩
  obtain rfl := e.symm
  rw [decide_eq_true hx]
  refine v1 (rd_of_own h.own) ?_
  refine ⟨⟨by omega, by omega⟩, ?_⟩
  refine v4 (rd_of_own h.prv) Nat.zero_add Nat.mul_one hp ?_
  refine (ring_Splice_spec h hi hx (y := nxF P x) (by omega)).mono ?_
  rintro _ H1 ⟨rfl, h1⟩
  refine vs ?_
  exact ⟨rfl, h1⟩
theorem ring_All_spec (h : RingAt H r nb pb N P) {x : Int} {A : List Int} (hc : Cyc (nxF N) (x :: A)) (hn : (x :: A).Nodup) (hx : ∀ c ∈ x :: A, 0 ≤ c ∧ c < N.length) (hN : N.length ≤ 65536) : CallH Tryz.prog n_ring_Rings_All [ptr r, i64 x] H fun v H' => Post (∃ b,
    Sl H' 1 v (x :: A).length ((x :: A).map i64) (some b) ∧ H.size ≤ b ∧ Fresh H H') := by
  have hx0 := hx x (by simp)
  have hlen := row_len hn hx
  have hslt : r < H.size ∧ nb < H.size ∧ pb < H.size := ⟨own_lt h.own, own_lt h.nxt, own_lt h.prv⟩
  have rdn : ∀ {z : Int}, 0 ≤ z ∧ z < N.length → (N.map i64)[z.toNat]? = some (i64 (nxF N z)) := fun hz => by rw [List.getElem?_map, nxF_at hz]; rfl
  refine ccT d_ring_Rings_All ⟨rfl, ?_⟩
  refine v1 s_ring_Rings_All.eq_1 ?_
  refine (ring_has_spec h x).mono ?_
  rintro _ H' ⟨rfl, e⟩
  obtain rfl := e.symm
  rw [decide_eq_true hx0]
  refine vs ?_
  have f0 : Fresh H (H.new 3 [i64 x]) := (Ext.refl _ _).new _ _
  have s0 : Sl (H.new 3 [i64 x]) 1 (.slice (some ⟨H.size, 0, none⟩) 1 1) [x].length ([x].map i64) (some H.size) := Sl.lit_at (size := 1) (n := 1) (xs := [i64 x]) rfl rfl
  have h0 := h.ext f0 (fun h => h) (fun h => h) (fun h => h)
  generalize H.new 3 [i64 x] = H0 at *
  refine v2 (rd_of_own h0.own) (rd_of_own h.own) ?_
  refine ⟨⟨by omega, by omega⟩, ?_⟩
  refine v5 (rd_of_own h0.nxt) (rd_of_own h.nxt) Nat.zero_add Nat.mul_one (rdn hx0) ?_
  have hp : Path (nxF N) x A x := hc
  have hd : ∀ {a z : Int} {l : List Int}, Path (nxF N) a l z → nxF N a = l.headD z := fun {a z l} h => by
    cases l with
    | nil => exact h
    | cons b l => exact h.1
  refine LoopV.intro (fun mm env H' => ∃ (d s : List Int) (wv : Value) (b : Nat), mm = s.length ∧ A = d ++ s ∧ RingAt H' r nb pb N P ∧ H.size ≤ b ∧ Sl H' 1 wv (x :: d).length ((x :: d).map i64) (some b) ∧ Ext (fun z => H.size ≤ z) H H' ∧
    env = [(0, ptr r), (1, i64 x), (5, wv), (6, i64 (s.headD x))]) _ ⟨[], A, _, H.size, rfl, rfl, h0, Nat.le_refl _, s0, f0.mono fun _ _ h => h.elim, by rw [hd hp]⟩ ?_
  rintro mm env H1 ⟨d, s, wv, b, rfl, hds, h1, hb, s1, e1, rfl⟩
  have z1 := e1.size
  refine vs ?_
  cases s with
  | nil =>
    refine Both.dec (fun _ => ?_) (fun h => absurd rfl h)
    refine vs ?_
    rw [List.append_nil] at hds
    subst hds
    exact ⟨b, s1, hb, e1.mono fun z hz h => by omega⟩
  | cons c s =>
    have hcm : c ∈ A := by rw [hds]; simp
    have hcx := hx c (List.mem_cons_of_mem _ hcm)
    have hcn : c ≠ x := fun e => (List.nodup_cons.1 hn).1 (by rw [← e]; exact hcm)
    have hll : d.length + (s.length + 1) = A.length := by rw [hds, List.length_append, List.length_cons]
    rw [List.length_cons] at hlen
    refine Both.dec (fun h => absurd h hcn) (fun _ => ?_)
    refine vs ?_
    refine pushS (B := H.size) hb (by omega) s1 c (by rw [List.length_cons]; omega) fun w' H2 b' hb' s2 e2 => ?_
    refine vs ?_
    have h2 := h1.ext e2 (by omega) (by omega) (by omega)
    simp (disch := (first | omega | (simp only [Zs] <;> omega) | fail)) only [go_sem, ↓reduceIte, Zv, rd_of_own h2.own, List.headD_cons]
    refine ⟨⟨by omega, by omega⟩, ?_⟩
    refine v4 (rd_of_own h2.nxt) Nat.zero_add Nat.mul_one (rdn hcx) ?_
    have hnx : nxF N c = s.headD x := hd (Path.app.1 (by rw [← hds]; exact hp)).2
    exact ⟨s.length, by simp, d ++ [c], s, w', b', rfl, by rw [hds]; simp, h2, hb', s2, e1.trans e2, by rw [hnx]⟩
end
end Go.Proofs.YtjlnnljohemifaaGreat

namespace Go.Proofs.YtjlnnljohemifaaGreat
open Go Go.Vc
structure Pc where
  u : Int
  k : Int
  d : Int
  m : Bool
def cellsPc (y : Pc) : List Value := [i64 y.u, i64 y.k, i64 y.d, .bool y.m]
def flatPc (L : List Pc) : List Value := L.flatMap cellsPc
theorem flatPc_len (L : List Pc) : (flatPc L).length = L.length * 4 := by
  induction L with
  | nil => rfl
  | cons c r ih => simp only [flatPc, List.flatMap_cons, List.length_append, cellsPc, List.length_cons, List.length_nil] at *; omega
theorem pc_at {L : List Pc} {i : Nat} {y : Pc} (hi : L[i]? = some y) : (flatPc L)[i * 4]? = some (i64 y.u) ∧ (flatPc L)[i * 4 + 1]? = some (i64 y.k) ∧ (flatPc L)[i * 4 + 2]? = some (i64 y.d) ∧ (flatPc L)[i * 4 + 3]? = some (.bool y.m) := by
  induction L generalizing i with
  | nil => simp at hi
  | cons a r ih =>
    have e : flatPc (a :: r) = i64 a.u :: i64 a.k :: i64 a.d :: .bool a.m :: flatPc r := rfl
    rw [e]
    cases i with
    | zero => simp at hi; subst hi; exact ⟨rfl, rfl, rfl, rfl⟩
    | succ i =>
      have := ih (by simpa using hi)
      rw [show (i + 1) * 4 = i * 4 + 4 by omega]
      exact this
theorem flatPc_set {L : List Pc} {i : Nat} {y : Pc} (hi : L[i]? = some y) : (∀ v, (flatPc L).set (i * 4) (i64 v) = flatPc (L.set i ⟨v, y.k, y.d, y.m⟩)) ∧ (∀ v, (flatPc L).set (i * 4 + 1) (i64 v) = flatPc (L.set i ⟨y.u, v, y.d, y.m⟩)) ∧
    (∀ v, (flatPc L).set (i * 4 + 2) (i64 v) = flatPc (L.set i ⟨y.u, y.k, v, y.m⟩)) ∧ (∀ v, (flatPc L).set (i * 4 + 3) (.bool v) = flatPc (L.set i ⟨y.u, y.k, y.d, v⟩)) ∧
    (∀ z : Pc, splice (flatPc L) (i * 4) [i64 z.u, i64 z.k, i64 z.d, .bool z.m] = flatPc (L.set i z)) := by
  induction L generalizing i with
  | nil => simp at hi
  | cons a r ih =>
    have e : flatPc (a :: r) = i64 a.u :: i64 a.k :: i64 a.d :: .bool a.m :: flatPc r := rfl
    cases i with
    | zero => simp at hi; subst hi; exact ⟨fun _ => rfl, fun _ => rfl, fun _ => rfl, fun _ => rfl, fun _ => rfl⟩
    | succ i =>
      obtain ⟨h1, h2, h3, h4, h5⟩ := ih (by simpa using hi)
      have e2 : ∀ z : Pc, flatPc ((a :: r).set (i + 1) z) = i64 a.u :: i64 a.k :: i64 a.d :: .bool a.m :: flatPc (r.set i z) := fun _ => rfl
      refine ⟨fun v => ?_, fun v => ?_, fun v => ?_, fun v => ?_, fun z => ?_⟩
      · rw [e, e2, show (i + 1) * 4 = i * 4 + 1 + 1 + 1 + 1 by omega]
        simp only [List.set_cons_succ]
        rw [h1]
      · rw [e, e2, show (i + 1) * 4 + 1 = i * 4 + 1 + 1 + 1 + 1 + 1 by omega]
        simp only [List.set_cons_succ]
        rw [h2]
      · rw [e, e2, show (i + 1) * 4 + 2 = i * 4 + 2 + 1 + 1 + 1 + 1 by omega]
        simp only [List.set_cons_succ]
        rw [h3]
      · rw [e, e2, show (i + 1) * 4 + 3 = i * 4 + 3 + 1 + 1 + 1 + 1 by omega]
        simp only [List.set_cons_succ]
        rw [h4]
      · have h5 := h5 z
        simp only [splice] at h5 ⊢
        rw [e, e2, show (i + 1) * 4 = i * 4 + 1 + 1 + 1 + 1 by omega]
        simp only [List.set_cons_succ]
        rw [h5]
def noPc : Pc := ⟨-1, -1, 0, false⟩
def pcF (L : List Pc) (x : Int) : Pc := if 0 ≤ x then (L[x.toNat]?).getD noPc else noPc
theorem pcF_at {L : List Pc} {x : Int} {y : Pc} (h0 : 0 ≤ x) (h : L[x.toNat]? = some y) : pcF L x = y := by unfold pcF; rw [if_pos h0, h]; rfl
def setP (f : Int → Pc) (x : Int) (y : Pc) : Int → Pc := fun z => if z = x then y else f z
theorem pcF_set {L : List Pc} {x : Int} (hx : 0 ≤ x ∧ x < L.length) (y : Pc) : pcF (L.set x.toNat y) = setP (pcF L) x y := by
  funext z
  show pcF (L.set x.toNat y) z = if z = x then y else pcF L z
  by_cases hz : z = x
  · rw [if_pos hz, hz]
    unfold pcF
    rw [if_pos hx.1, List.getElem?_set_self (by omega)]; rfl
  · rw [if_neg hz]
    unfold pcF
    split
    · rw [List.getElem?_set_ne (by omega)]
    · rfl
structure FB where
  n : Nat
  c : Nat
  r : Nat
  nb : Nat
  pb : Nat
  tb : Nat
  tp : Nat
def FB.S (B : FB) (C : Nat → Prop) (z : Nat) : Prop := C z ∨ z = B.n ∨ z = B.r ∨ z = B.nb ∨ z = B.pb ∨ z = B.tb ∨ z = B.tp
structure FibM (H : Hp) (B : FB) (C : Nat → Prop) (w : Nw) (N P : List Int) (L : List Pc) (tops : List Int) : Prop where
  own : ∃ tv, H.own B.n = some [ptr B.c, ptr B.r, .slice (some ⟨B.tb, 0, none⟩) L.length L.length, tv] ∧ Sl H 1 tv tops.length (tops.map i64) (some B.tp)
  cells : CQ H B.c C w
  ring : RingAt H B.r B.nb B.pb N P
  inv : Inv2 (nxF N) (nxF P)
  places : H.own B.tb = some (flatPc L)
  len : L.length = w.cs.length ∧ N.length = w.cs.length
  dis : (B.n ≠ B.r ∧ B.n ≠ B.nb ∧ B.n ≠ B.pb ∧ B.n ≠ B.tb ∧ B.n ≠ B.tp) ∧ (B.tb ≠ B.r ∧ B.tb ≠ B.nb ∧ B.tb ≠ B.pb ∧ B.tb ≠ B.tp) ∧ (B.tp ≠ B.r ∧ B.tp ≠ B.nb ∧ B.tp ≠ B.pb)
  out : ¬ C B.n ∧ ¬ C B.r ∧ ¬ C B.nb ∧ ¬ C B.pb ∧ ¬ C B.tb ∧ ¬ C B.tp
section
variable {H H' : Hp} {B : FB} {C V : Nat → Prop} {w w' : Nw} {N P N' P' : List Int} {L L' : List Pc} {tops : List Int}
theorem FibM.slt (h : FibM H B C w N P L tops) : ∀ z, B.S C z → z < H.size := by
  obtain ⟨tv, h1, h2⟩ := h.own
  rintro z (hz | rfl | rfl | rfl | rfl | rfl | rfl)
  · exact h.cells.slt z hz
  · exact own_lt h1
  · exact own_lt h.ring.own
  · exact own_lt h.ring.nxt
  · exact own_lt h.ring.prv
  · exact own_lt h.places
  · exact h2.lt
theorem FibM.ext (h : FibM H B C w N P L tops) (e : Ext V H H') (hd : ∀ z, B.S C z → ¬ V z) : FibM H' B C w N P L tops := by
  obtain ⟨tv, h1, h2⟩ := h.own
  exact ⟨⟨tv, e.own h1 (hd _ (.inr (.inl rfl))), h2.ext e (fun b hb => by injection hb with hb; exact hb ▸ hd _ (.inr (.inr (.inr (.inr (.inr (.inr rfl))))))) ⟩, h.cells.ext e (fun x hx => hd x (.inl hx)),
    h.ring.ext e (hd _ (.inr (.inr (.inl rfl)))) (hd _ (.inr (.inr (.inr (.inl rfl))))) (hd _ (.inr (.inr (.inr (.inr (.inl rfl)))))), h.inv, e.own h.places (hd _ (.inr (.inr (.inr (.inr (.inr (.inl rfl))))))), h.len, h.dis, h.out⟩
theorem FibM.fresh (h : FibM H B C w N P L tops) (e : Fresh H H') : FibM H' B C w N P L tops := h.ext e fun _ _ h => h
theorem FibM.cellsTo (h : FibM H B C w N P L tops) (c1 : CQ H' B.c C w') (e : Ext C H H') (hl : w'.cs.length = w.cs.length) : FibM H' B C w' N P L tops := by
  obtain ⟨tv, h1, h2⟩ := h.own
  obtain ⟨o1, o2, o3, o4, o5, o6⟩ := h.out
  exact ⟨⟨tv, e.own h1 o1, h2.ext e (fun b hb => by injection hb with hb; exact hb ▸ o6)⟩, c1, h.ring.ext e o2 o3 o4, h.inv, e.own h.places o5, by rw [hl]; exact h.len, h.dis, h.out⟩
theorem FibM.ringTo (h : FibM H B C w N P L tops) (r1 : RingAt H' B.r B.nb B.pb N' P') (hi : Inv2 (nxF N') (nxF P')) (e : Ext (fun z => z = B.nb ∨ z = B.pb) H H') (hl : N'.length = N.length) : FibM H' B C w N' P' L tops := by
  obtain ⟨tv, h1, h2⟩ := h.own
  obtain ⟨o1, o2, o3, o4, o5, o6⟩ := h.out
  obtain ⟨⟨d1, d2, d3, d4, d5⟩, ⟨d6, d7, d8, d9⟩, ⟨d10, d11, d12⟩⟩ := h.dis
  exact ⟨⟨tv, e.own h1 (by omega), h2.ext e (fun b hb => by injection hb with hb; omega)⟩, h.cells.ext e (fun x hx hz => by rcases hz with hz | hz; exact o3 (hz ▸ hx); exact o4 (hz ▸ hx)), r1, hi, e.own h.places (by omega), by rw [hl]; exact h.len, h.dis, h.out⟩
theorem FibM.pcTo (h : FibM H B C w N P L tops) (hl : L'.length = L.length) : FibM (H.wr B.tb (flatPc L')) B C w N P L' tops ∧ Ext (fun z => z = B.tb) H (H.wr B.tb (flatPc L')) := by
  obtain ⟨tv, h1, h2⟩ := h.own
  obtain ⟨o1, o2, o3, o4, o5, o6⟩ := h.out
  obtain ⟨⟨d1, d2, d3, d4, d5⟩, ⟨d6, d7, d8, d9⟩, ⟨d10, d11, d12⟩⟩ := h.dis
  have e : Ext (fun z => z = B.tb) H (H.wr B.tb (flatPc L')) := (Ext.refl (fun z => z = B.tb) _).wr (fun _ => rfl) _
  exact ⟨⟨⟨tv, by rw [hl]; exact e.own h1 d4, h2.ext e (fun b hb => by injection hb with hb; omega)⟩, h.cells.ext e (fun x hx hz => o5 (hz ▸ hx)), h.ring.ext e (Ne.symm d6) (Ne.symm d7) (Ne.symm d8), h.inv, own_wr_same h.places, by rw [hl]; exact h.len, h.dis, h.out⟩, e⟩
theorem FibM.topB (h : FibM H B C w N P L tops) : ∃ c l, H.own B.n = some [ptr B.c, ptr B.r, .slice (some ⟨B.tb, 0, none⟩) L.length L.length, .slice (some ⟨B.tp, 0, none⟩) tops.length c] ∧ H.own B.tp = some l ∧ tops.length ≤ c ∧ c ≤ l.length ∧ l.take tops.length = tops.map i64 := by
  obtain ⟨tv, h1, _, l, c, rfl, h3, h4, h5, h6⟩ := h.own
  rw [Nat.mul_one] at h5 h6
  exact ⟨c, l, h1, h3, h4, h5, h6⟩
theorem FibM.topGet (h : FibM H B C w N P L tops) {l : List Value} (hl : H.own B.tp = some l) {i : Nat} {x : Int} (hx : tops[i]? = some x) : l[i]? = some (i64 x) := by
  obtain ⟨c, l', _, h2, _, _, h5⟩ := h.topB
  rw [hl] at h2
  injection h2 with h2
  subst h2
  have h7 : (tops.map i64)[i]? = some (i64 x) := by rw [List.getElem?_map, hx]; rfl
  rw [← h5, List.getElem?_take] at h7
  split at h7
  · exact h7
  · cases h7
theorem FibM.topTo (h : FibM H B C w N P L tops) {l : List Value} (hl : H.own B.tp = some l) (i : Nat) (v : Int) : FibM (H.wr B.tp (l.set i (i64 v))) B C w N P L (tops.set i v) ∧ Ext (fun z => z = B.tp) H (H.wr B.tp (l.set i (i64 v))) := by
  obtain ⟨c, l', h1, h2, h3, h4, h5⟩ := h.topB
  rw [hl] at h2
  injection h2 with h2
  subst h2
  obtain ⟨o1, o2, o3, o4, o5, o6⟩ := h.out
  obtain ⟨⟨d1, d2, d3, d4, d5⟩, ⟨d6, d7, d8, d9⟩, ⟨d10, d11, d12⟩⟩ := h.dis
  have e : Ext (fun z => z = B.tp) H (H.wr B.tp (l.set i (i64 v))) := (Ext.refl (fun z => z = B.tp) _).wr (fun _ => rfl) _
  refine ⟨⟨⟨_, e.own h1 d5, ?_⟩, h.cells.ext e (fun x hx hz => o6 (hz ▸ hx)), h.ring.ext e (Ne.symm d10) (Ne.symm d11) (Ne.symm d12), h.inv, e.own h.places d9, h.len, h.dis, h.out⟩, e⟩
  refine ⟨by simp, l.set i (i64 v), c, by rw [List.length_set], own_wr_same hl, by rw [List.length_set]; exact h3, by rw [List.length_set, Nat.mul_one]; exact h4, ?_⟩
  rw [List.length_set, Nat.mul_one, take_set', h5, List.map_set]
theorem FibM.rd (h : FibM H B C w N P L tops) {x : Int} (hx : 0 ≤ x ∧ x < w.cs.length) : x.toNat * 4 + 3 < (flatPc L).length ∧ (flatPc L)[x.toNat * 4]? = some (i64 (pcF L x).u) ∧ (flatPc L)[x.toNat * 4 + 1]? = some (i64 (pcF L x).k) ∧
    (flatPc L)[x.toNat * 4 + 2]? = some (i64 (pcF L x).d) ∧ (flatPc L)[x.toNat * 4 + 3]? = some (.bool (pcF L x).m) := by
  have hl := h.len
  have hf := flatPc_len L
  obtain ⟨y, hy⟩ : ∃ y, L[x.toNat]? = some y := ⟨_, List.getElem?_eq_getElem (by omega)⟩
  obtain ⟨h1, h2, h3, h4⟩ := pc_at hy
  rw [pcF_at hx.1 hy]
  exact ⟨by omega, h1, h2, h3, h4⟩
theorem FibM.setU (h : FibM H B C w N P L tops) {x : Int} (hx : 0 ≤ x ∧ x < w.cs.length) (v : Int) : ∃ L', pcF L' = setP (pcF L) x ⟨v, (pcF L x).k, (pcF L x).d, (pcF L x).m⟩ ∧ FibM (H.wr B.tb ((flatPc L).set (x.toNat * 4) (i64 v))) B C w N P L' tops ∧ Ext (fun z => z = B.tb) H (H.wr B.tb ((flatPc L).set (x.toNat * 4) (i64 v))) := by
  have hl := h.len
  obtain ⟨y, hy⟩ : ∃ y, L[x.toNat]? = some y := ⟨_, List.getElem?_eq_getElem (by omega)⟩
  rw [pcF_at hx.1 hy, (flatPc_set hy).1]
  exact ⟨_, pcF_set (by omega) _, h.pcTo (List.length_set ..)⟩
theorem FibM.setK (h : FibM H B C w N P L tops) {x : Int} (hx : 0 ≤ x ∧ x < w.cs.length) (v : Int) : ∃ L', pcF L' = setP (pcF L) x ⟨(pcF L x).u, v, (pcF L x).d, (pcF L x).m⟩ ∧ FibM (H.wr B.tb ((flatPc L).set (x.toNat * 4 + 1) (i64 v))) B C w N P L' tops ∧ Ext (fun z => z = B.tb) H (H.wr B.tb ((flatPc L).set (x.toNat * 4 + 1) (i64 v))) := by
  have hl := h.len
  obtain ⟨y, hy⟩ : ∃ y, L[x.toNat]? = some y := ⟨_, List.getElem?_eq_getElem (by omega)⟩
  rw [pcF_at hx.1 hy, (flatPc_set hy).2.1]
  exact ⟨_, pcF_set (by omega) _, h.pcTo (List.length_set ..)⟩
theorem FibM.setD (h : FibM H B C w N P L tops) {x : Int} (hx : 0 ≤ x ∧ x < w.cs.length) (v : Int) : ∃ L', pcF L' = setP (pcF L) x ⟨(pcF L x).u, (pcF L x).k, v, (pcF L x).m⟩ ∧ FibM (H.wr B.tb ((flatPc L).set (x.toNat * 4 + 2) (i64 v))) B C w N P L' tops ∧ Ext (fun z => z = B.tb) H (H.wr B.tb ((flatPc L).set (x.toNat * 4 + 2) (i64 v))) := by
  have hl := h.len
  obtain ⟨y, hy⟩ : ∃ y, L[x.toNat]? = some y := ⟨_, List.getElem?_eq_getElem (by omega)⟩
  rw [pcF_at hx.1 hy, (flatPc_set hy).2.2.1]
  exact ⟨_, pcF_set (by omega) _, h.pcTo (List.length_set ..)⟩
theorem FibM.setM (h : FibM H B C w N P L tops) {x : Int} (hx : 0 ≤ x ∧ x < w.cs.length) (v : Bool) : ∃ L', pcF L' = setP (pcF L) x ⟨(pcF L x).u, (pcF L x).k, (pcF L x).d, v⟩ ∧ FibM (H.wr B.tb ((flatPc L).set (x.toNat * 4 + 3) (.bool v))) B C w N P L' tops ∧ Ext (fun z => z = B.tb) H (H.wr B.tb ((flatPc L).set (x.toNat * 4 + 3) (.bool v))) := by
  have hl := h.len
  obtain ⟨y, hy⟩ : ∃ y, L[x.toNat]? = some y := ⟨_, List.getElem?_eq_getElem (by omega)⟩
  rw [pcF_at hx.1 hy, (flatPc_set hy).2.2.2.1]
  exact ⟨_, pcF_set (by omega) _, h.pcTo (List.length_set ..)⟩
theorem FibM.setA (h : FibM H B C w N P L tops) {x : Int} (hx : 0 ≤ x ∧ x < w.cs.length) (z : Pc) : ∃ L', pcF L' = setP (pcF L) x z ∧ FibM (H.wr B.tb (splice (flatPc L) (x.toNat * 4) [i64 z.u, i64 z.k, i64 z.d, .bool z.m])) B C w N P L' tops ∧ Ext (fun z => z = B.tb) H (H.wr B.tb (splice (flatPc L) (x.toNat * 4) [i64 z.u, i64 z.k, i64 z.d, .bool z.m])) := by
  have hl := h.len
  obtain ⟨y, hy⟩ : ∃ y, L[x.toNat]? = some y := ⟨_, List.getElem?_eq_getElem (by omega)⟩
  rw [(flatPc_set hy).2.2.2.2]
  exact ⟨_, pcF_set (by omega) _, h.pcTo (List.length_set ..)⟩
end
end Go.Proofs.YtjlnnljohemifaaGreat

namespace Go.Proofs.YtjlnnljohemifaaGreat
open Go Go.Vc
def PcG (f : Int → Pc) (ch : Int → List Int) (par : Int → Int) : Prop := ∀ x, (f x).u = par x ∧ (f x).k = (ch x).headD (-1) ∧ (f x).d = (ch x).length
section
variable {H H' : Hp} {B : FB} {C V : Nat → Prop} {w : Nw} {N P : List Int} {L : List Pc} {tops : List Int} {ch : Int → List Int} {par : Int → Int} {rings : Int → List Int} {W : List Int}
theorem FbW.win {lt : Int → Int → Bool} {nx : Int → Int} (f : FbW (hmW w) lt nx ch par rings W) {x : Int} (hx : x ∈ W) : 0 ≤ x ∧ x < w.cs.length := by
  obtain ⟨a, b, _⟩ := hmW_get (f.wm x hx).2.2
  exact ⟨a, b⟩
theorem FbW.rin {lt : Int → Int → Bool} {nx : Int → Int} (f : FbW (hmW w) lt nx ch par rings W) {g x : Int} (hx : x ∈ rings g) : 0 ≤ x ∧ x < w.cs.length := by
  obtain ⟨h1, _, h2, _⟩ := f.rm g x hx
  obtain ⟨a, b, _⟩ := hmW_get (w := w) (x := x) (by omega)
  exact ⟨a, b⟩
theorem FbW.cin {lt : Int → Int → Bool} {nx : Int → Int} (f : FbW (hmW w) lt nx ch par rings W) {p x : Int} (hx : x ∈ ch p) : 0 ≤ x ∧ x < w.cs.length := by
  obtain ⟨a, b, _⟩ := hmW_get (f.pr.dn p x hx).2.2.2.1
  exact ⟨a, b⟩
set_option maxHeartbeats 1000000 in
theorem fib_root_spec (m : FibM H B C w N P L tops) {x g : Int} (f : FbW (hmW w) (ltW w) (nxF N) ch par rings (x :: W)) (hg : hmW w x = g) (hgl : g < tops.length) (ht : topF tops g = (rings g).headD (-1)) :
    CallH Tryz.prog n_fibonacci_Nest_root [ptr B.n, i64 g, i64 x] H fun v H' => Post (∃ N' P' tops' l, FibM H' B C w N' P' L tops' ∧ tops'.length = tops.length ∧ topF tops' = setT (topF tops) g (l.headD (-1)) ∧
      FbW (hmW w) (ltW w) (nxF N') ch par (rowC rings g l) W ∧ (l.headD (-1) = x ∨ (l.headD (-1) = topF tops g ∧ topF tops g ≠ -1)) ∧ l.headD (-1) ≠ -1 ∧
      (x ≠ l.headD (-1) → ltW w (l.headD (-1)) x = true) ∧ (topF tops g ≠ -1 → topF tops g ≠ l.headD (-1) → ltW w (l.headD (-1)) (topF tops g) = true) ∧ Ext (fun z => C z ∨ z = B.nb ∨ z = B.pb ∨ z = B.tp) H H') := by
  have hx := f.win (x := x) (by simp)
  have hxn := f.wne (c := x) (by simp)
  have hgp : 0 < g := by rw [← hg]; exact (f.wm x (by simp)).2.2
  obtain ⟨cc, lt, o1, q1, hc1, hc2, hc3⟩ := m.topB
  have q2 := m.topGet q1 (topF_at (tops := tops) (h := g) (by omega) hgl)
  have hlen := m.len
  refine ccT d_fibonacci_Nest_root ⟨rfl, ?_⟩
  refine v2 s_fibonacci_Nest_root.eq_1 (rd_of_own o1) ?_
  refine ⟨⟨by omega, by omega⟩, ?_⟩
  refine v4 (rd_of_own q1) Nat.zero_add Nat.mul_one q2 ?_
  refine Both.dec (fun h0 => ?_) (fun h0 => ?_) <;> refine v1 (rd_of_own o1) ?_
  · have hr : rings g = [] := by
      rw [h0] at ht
      cases hc : rings g with
      | nil => rfl
      | cons c r => rw [hc] at ht; exact absurd ht.symm (f.rne (h := g) (by rw [hc]; simp))
    refine ⟨⟨by omega, by omega⟩, ?_⟩
    refine v3 q1 Nat.zero_add Nat.mul_one ?_
    refine ⟨by omega, ?_⟩
    obtain ⟨m2, e2⟩ := m.topTo q1 g.toNat x
    refine vs ?_
    have f2 := f.joinE (by rw [hg]; exact hr)
    rw [hg] at f2
    exact ⟨N, P, _, [x], m2, List.length_set .., topF_set (by omega) hgl x, f2, .inl rfl, hxn, fun h => absurd rfl h, fun h => absurd h0 h, e2.mono fun z _ h => .inr (.inr (.inr h))⟩
  obtain ⟨t, A, hr⟩ : ∃ t A, rings g = t :: A := by
    cases hc : rings g with
    | nil => rw [hc] at ht; exact absurd ht h0
    | cons c r => exact ⟨c, r, rfl⟩
  have htt : topF tops g = t := by rw [ht, hr]; rfl
  rw [htt]
  rw [htt] at q2
  have htr := f.rin (g := g) (x := t) (by rw [hr]; simp)
  have htn := f.rne (c := t) (h := g) (by rw [hr]; simp)
  have htx : t ≠ x := fun e => (f.rm g t (by rw [hr]; simp)).2.2.2 (by rw [e]; simp)
  refine ⟨⟨by omega, by omega⟩, ?_⟩
  refine v4 (rd_of_own q1) Nat.zero_add Nat.mul_one q2 ?_
  refine (ring_Splice_spec m.ring m.inv (x := t) (y := x) (by omega) (by omega)).mono ?_
  rintro _ H2 ⟨rfl, N2, P2, r2, l2, n2, i2, e2⟩
  have m2 := m.ringTo r2 i2 e2 l2
  have f2 := f.joinR (t := t) (A := A) (by rw [hg]; exact hr)
  rw [hg, ← n2] at f2
  obtain ⟨cc, lt2, o2, q3, _⟩ := m2.topB
  have q4 := m2.topGet q3 (topF_at (tops := tops) (h := g) (by omega) hgl)
  rw [htt] at q4
  refine v1 (rd_of_own o2) ?_
  refine ⟨⟨by omega, by omega⟩, ?_⟩
  refine v4 (rd_of_own q3) Nat.zero_add Nat.mul_one q4 ?_
  refine (cq_Ahead_spec m2.cells x t).mono ?_
  rintro _ H3 ⟨rfl, c3, e3⟩
  have m3 := m2.cellsTo c3 e3 rfl
  have hab := ahead_lt (w := w) (a := x) (b := t) (by omega) (by have := (f.rm g t (by rw [hr]; simp)).1; omega)
  rw [hab]
  have e13 : Ext (fun z => C z ∨ z = B.nb ∨ z = B.pb ∨ z = B.tp) H H3 := (e2.mono fun z _ h => h.elim (fun h => .inr (.inl h)) (fun h => .inr (.inr (.inl h)))).trans (e3.mono fun z _ h => .inl h)
  cases hlt : ltW w x t
  · refine vs ?_
    have hlx := ((ltW_strict w).tot t x htx).resolve_right (by rw [hlt]; simp)
    refine ⟨N2, P2, tops, t :: x :: A, m3, rfl, ?_, f2, .inr ⟨rfl, htn⟩, htn, fun _ => hlx, fun _ h => absurd rfl h, e13⟩
    funext z
    show topF tops z = if z = g then t else topF tops z
    split
    · rename_i e; rw [e, htt]
    · rfl
  · obtain ⟨cc, lt3, o3, q5, _, hc5, _⟩ := m3.topB
    have q6 := m3.topGet q5 (topF_at (tops := tops) (h := g) (by omega) hgl)
    have hil := (List.getElem?_eq_some_iff.1 q6).1
    refine v1 (rd_of_own o3) ?_
    refine ⟨⟨by omega, by omega⟩, ?_⟩
    refine v3 q5 Nat.zero_add Nat.mul_one ?_
    refine ⟨by omega, ?_⟩
    obtain ⟨m4, e4⟩ := m3.topTo q5 g.toNat x
    refine vs ?_
    have f3 := f2.turn (g := g) (l := x :: A ++ [t]) (by
      unfold rowC
      rw [if_pos rfl]
      exact List.perm_append_comm (l₁ := [t]) (l₂ := x :: A)) (by
      have := f2.rc g
      unfold rowC at this
      rw [if_pos rfl] at this
      exact Cyc.rot (l1 := [t]) (l2 := x :: A) this)
    rw [rowC_rowC] at f3
    exact ⟨N2, P2, _, x :: A ++ [t], m4, List.length_set .., topF_set (by omega) hgl x, f3, .inl rfl, hxn, fun h => absurd rfl h, fun _ _ => hlt, e13.trans (e4.mono fun z _ h => .inr (.inr (.inr h)))⟩
set_option maxHeartbeats 1000000 in
theorem fib_under_spec (m : FibM H B C w N P L tops) {x y : Int} (f : FbW (hmW w) (ltW w) (nxF N) ch par rings (x :: y :: W)) (hp : PcG (pcF L) ch par) (hh : hmW w x = hmW w y) (hl : ltW w x y = true) :
    CallH Tryz.prog n_fibonacci_Nest_under [ptr B.n, i64 y, i64 x] H fun v H' => Post (∃ N' P' L' ch' par', FibM H' B C w N' P' L' tops ∧ FbW (hmW w) (ltW w) (nxF N') ch' par' rings (x :: W) ∧ PcG (pcF L') ch' par' ∧ (ch' x).length = (ch x).length + 1 ∧ (∀ z, z ≠ x → ch' z = ch z) ∧
      Ext (fun z => z = B.nb ∨ z = B.pb ∨ z = B.tb) H H') := by
  have hx := f.win (x := x) (by simp)
  have hy := f.win (x := y) (by simp)
  have hxy : x ≠ y := fun e => by rw [e, (ltW_strict w).irr] at hl; cases hl
  have hlen := m.len
  obtain ⟨tv, o1, _⟩ := m.own
  obtain ⟨px, kx, dx⟩ := hp x
  obtain ⟨py, ky, dy⟩ := hp y
  obtain ⟨a0, a1, a2, a3, a4⟩ := m.rd hx
  have hcl : (ch x).length ≤ w.cs.length := row_len (f.pr.nd x) fun c hc => f.cin hc
  have hcsl := m.cells.csl
  refine ccT d_fibonacci_Nest_under ⟨rfl, ?_⟩
  refine v2 s_fibonacci_Nest_under.eq_1 (rd_of_own o1) ?_
  refine ⟨⟨by omega, by omega⟩, ?_⟩
  refine v1 (rd_of_own o1) ?_
  refine ⟨⟨by omega, by omega⟩, ?_⟩
  refine v3 (rd_of_own m.places) Nat.zero_add a2 ?_
  refine Both.dec (fun h0 => ?_) (fun h0 => ?_) <;> refine vs ?_
  · have hc : ch x = [] := by
      rw [h0] at kx
      cases hc : ch x with
      | nil => rfl
      | cons c r => rw [hc] at kx; exact absurd kx.symm (f.pr.ne (x := x) (by rw [hc]; simp))
    have f1 := f.underE hh hl hc
    obtain ⟨H1, eH⟩ : ∃ H1, H1 = H := ⟨_, rfl⟩
    rw [← eH] at m ⊢
    have m1 := m
    obtain ⟨N1, eN⟩ : ∃ N1, N1 = N := ⟨_, rfl⟩
    obtain ⟨P1, eP⟩ : ∃ P1, P1 = P := ⟨_, rfl⟩
    rw [← eN, ← eP] at m1
    rw [← eN] at f1
    have e1 : Ext (fun z => z = B.nb ∨ z = B.pb) H1 H1 := Ext.refl _ _
    have hl1 : ([y] : List Int).length = (ch x).length + 1 := by rw [hc]; rfl
    obtain ⟨b0, _⟩ := m1.rd hx
    obtain ⟨L2, k2, m2, e2⟩ := m1.setK hx y
    refine v2 m1.places Nat.zero_add ?_
    refine ⟨by omega, ?_⟩
    refine vs ?_
    generalize H1.wr B.tb ((flatPc L).set (x.toNat * 4 + 1) (i64 y)) = H2 at *
    obtain ⟨c0, c1, c2, c3, c4⟩ := m2.rd hx
    have hd2 : (pcF L2 x).d = (ch x).length := by rw [k2]; unfold setP; rw [if_pos rfl]; exact dx
    obtain ⟨L3, k3, m3, e3⟩ := m2.setD hx ((pcF L2 x).d + 1)
    rw [hd2] at c3 k3 m3 e3
    refine v4 (rd_of_own m2.places) m2.places Nat.zero_add c3 ?_
    rw [wrap64 (by omega) (by omega)]
    refine ⟨by omega, ?_⟩
    refine vs ?_
    generalize H2.wr B.tb ((flatPc L2).set (x.toNat * 4 + 2) (i64 ((ch x).length + 1))) = H3 at *
    obtain ⟨d0, _⟩ := m3.rd hy
    obtain ⟨L4, k4, m4, e4⟩ := m3.setU hy x
    refine v3 m3.places Nat.zero_add Nat.add_zero ?_
    refine ⟨by omega, ?_⟩
    refine vs ?_
    generalize H3.wr B.tb ((flatPc L3).set (y.toNat * 4) (i64 x)) = H4 at *
    obtain ⟨g0, _⟩ := m4.rd hy
    obtain ⟨L5, k5, m5, e5⟩ := m4.setM hy false
    refine v3 m4.places Nat.zero_add Nat.add_zero ?_
    refine ⟨by omega, ?_⟩
    refine vs ?_
    refine ⟨N1, P1, L5, _, _, m5, f1, fun z => ?_, ?_, fun z hz => ?_, ((((e1.mono fun z _ h => h.elim .inl fun h => .inr (.inl h)).trans (e2.mono fun z _ h => .inr (.inr h))).trans (e3.mono fun z _ h => .inr (.inr h))).trans (e4.mono fun z _ h => .inr (.inr h))).trans (e5.mono fun z _ h => .inr (.inr h))⟩
    · rw [k5, k4, k3, k2]
      unfold setP rowC
      by_cases h1 : z = y
      · rw [h1, if_pos rfl, if_neg hxy.symm, if_neg hxy.symm]
        simp only [if_neg hxy.symm, if_true]
        refine ⟨by unfold setU; rw [if_pos rfl], ?_, ?_⟩
        · exact ky
        · exact dy
      · rw [if_neg h1]
        unfold setU
        rw [if_neg h1]
        by_cases h2 : z = x
        · rw [h2]
          simp only [if_true, if_neg hxy]
          exact ⟨px, rfl, by rw [hl1]; omega⟩
        · simp only [if_neg h1, if_neg h2]
          exact hp z
    · unfold rowC; rw [if_pos rfl, hl1]
    · unfold rowC; rw [if_neg hz]
  · obtain ⟨k, K, hc⟩ : ∃ k K, ch x = k :: K := by
      cases hc : ch x with
      | nil => rw [hc] at kx; exact absurd kx h0
      | cons c r => exact ⟨c, r, rfl⟩
    have hk : (pcF L x).k = k := by rw [kx, hc]; rfl
    have hkr := f.cin (p := x) (x := k) (by rw [hc]; simp)
    have f1 := f.under hh hl hc
    rw [hk] at a2
    refine v4 (rd_of_own o1) (rd_of_own m.places) Nat.zero_add a2 ?_
    refine (ring_Splice_spec m.ring m.inv (x := k) (y := y) (by omega) (by omega)).mono ?_
    rintro _ H1 ⟨rfl, N1, P1, r1, l1, n1, i1, e1⟩
    have m1 := m.ringTo r1 i1 e1 l1
    rw [← n1] at f1
    have hl1 : (y :: K ++ [k]).length = (ch x).length + 1 := by rw [hc]; simp
    refine vs ?_
    obtain ⟨b0, _⟩ := m1.rd hx
    obtain ⟨L2, k2, m2, e2⟩ := m1.setK hx y
    refine v2 m1.places Nat.zero_add ?_
    refine ⟨by omega, ?_⟩
    refine vs ?_
    generalize H1.wr B.tb ((flatPc L).set (x.toNat * 4 + 1) (i64 y)) = H2 at *
    obtain ⟨c0, c1, c2, c3, c4⟩ := m2.rd hx
    have hd2 : (pcF L2 x).d = (ch x).length := by rw [k2]; unfold setP; rw [if_pos rfl]; exact dx
    obtain ⟨L3, k3, m3, e3⟩ := m2.setD hx ((pcF L2 x).d + 1)
    rw [hd2] at c3 k3 m3 e3
    refine v4 (rd_of_own m2.places) m2.places Nat.zero_add c3 ?_
    rw [wrap64 (by omega) (by omega)]
    refine ⟨by omega, ?_⟩
    refine vs ?_
    generalize H2.wr B.tb ((flatPc L2).set (x.toNat * 4 + 2) (i64 ((ch x).length + 1))) = H3 at *
    obtain ⟨d0, _⟩ := m3.rd hy
    obtain ⟨L4, k4, m4, e4⟩ := m3.setU hy x
    refine v3 m3.places Nat.zero_add Nat.add_zero ?_
    refine ⟨by omega, ?_⟩
    refine vs ?_
    generalize H3.wr B.tb ((flatPc L3).set (y.toNat * 4) (i64 x)) = H4 at *
    obtain ⟨g0, _⟩ := m4.rd hy
    obtain ⟨L5, k5, m5, e5⟩ := m4.setM hy false
    refine v3 m4.places Nat.zero_add Nat.add_zero ?_
    refine ⟨by omega, ?_⟩
    refine vs ?_
    refine ⟨N1, P1, L5, _, _, m5, f1, fun z => ?_, ?_, fun z hz => ?_, ((((e1.mono fun z _ h => h.elim .inl fun h => .inr (.inl h)).trans (e2.mono fun z _ h => .inr (.inr h))).trans (e3.mono fun z _ h => .inr (.inr h))).trans (e4.mono fun z _ h => .inr (.inr h))).trans (e5.mono fun z _ h => .inr (.inr h))⟩
    · rw [k5, k4, k3, k2]
      unfold setP rowC
      by_cases h1 : z = y
      · rw [h1, if_pos rfl, if_neg hxy.symm, if_neg hxy.symm]
        simp only [if_neg hxy.symm, if_true]
        refine ⟨by unfold setU; rw [if_pos rfl], ?_, ?_⟩
        · exact ky
        · exact dy
      · rw [if_neg h1]
        unfold setU
        rw [if_neg h1]
        by_cases h2 : z = x
        · rw [h2]
          simp only [if_true, if_neg hxy]
          exact ⟨px, rfl, by rw [hl1]; omega⟩
        · simp only [if_neg h1, if_neg h2]
          exact hp z
    · unfold rowC; rw [if_pos rfl, hl1]
    · unfold rowC; rw [if_neg hz]
end
end Go.Proofs.YtjlnnljohemifaaGreat

namespace Go.Proofs.YtjlnnljohemifaaGreat
open Go Go.Vc
theorem fib_fresh_spec (H : Hp) : CallH Tryz.prog n_fibonacci_fresh [] H fun v H' => Post (v = .agg #[i64 (-1), i64 (-1), i64 0, .bool false] ∧ Fresh H H') := by
  refine ccT d_fibonacci_fresh ⟨rfl, ?_⟩
  have f0 : Fresh H (H.new 273 [Value.int .i64 0, Value.int .i64 0, Value.int .i64 0, Value.bool false]) := (Ext.refl _ _).new _ _
  refine v1 s_fibonacci_fresh.eq_1 ?_
  have q : ((H.new 273 [Value.int .i64 0, Value.int .i64 0, Value.int .i64 0, Value.bool false]).wr H.size [Value.int .i64 (-1), Value.int .i64 (-1), Value.int .i64 0, Value.bool false]).own H.size = some [Value.int .i64 (-1), Value.int .i64 (-1), Value.int .i64 0, Value.bool false] := own_wr_same (own_new _ _ _)
  have e2 : Ext (fun z => z = H.size) (H.new 273 [Value.int .i64 0, Value.int .i64 0, Value.int .i64 0, Value.bool false]) ((H.new 273 [Value.int .i64 0, Value.int .i64 0, Value.int .i64 0, Value.bool false]).wr H.size [Value.int .i64 (-1), Value.int .i64 (-1), Value.int .i64 0, Value.bool false]) := (Ext.refl (fun z => z = H.size) _).wr (fun _ => rfl) _
  refine v1 (rd_of_own q) ?_
  exact ⟨rfl, f0.then e2 (fun z hz => by omega)⟩
section
variable {H H' : Hp} {B : FB} {C V : Nat → Prop} {w : Nw} {N P : List Int} {L : List Pc} {tops : List Int} {ch : Int → List Int} {par : Int → Int} {rings : Int → List Int} {W : List Int}
set_option maxHeartbeats 2000000 in
theorem fib_raise_spec (m : FibM H B C w N P L tops) {x g : Int} {A : List Int} (f : FbW (hmW w) (ltW w) (nxF N) ch par rings W) (hp : PcG (pcF L) ch par) (hr : rings g = x :: A) :
    CallH Tryz.prog n_fibonacci_Nest_raise [ptr B.n, i64 x] H fun v H' => Post (∃ N' P' L' A', FibM H' B C w N' P' L' tops ∧ FbW (hmW w) (ltW w) (nxF N') (rowC ch x []) (bareP ch par x) (rowC rings g (x :: A')) W ∧ PcG (pcF L') (rowC ch x []) (bareP ch par x) ∧
      Ext (fun z => z = B.nb ∨ z = B.pb ∨ z = B.tb) H H') := by
  have hx := f.rin (g := g) (x := x) (by rw [hr]; simp)
  have hpx := (f.rm g x (by rw [hr]; simp)).2.1
  have hlen := m.len
  have hcsl := m.cells.csl
  obtain ⟨tv, o1, _⟩ := m.own
  obtain ⟨px, kx, dx⟩ := hp x
  obtain ⟨a0, a1, a2, a3, a4⟩ := m.rd hx
  refine ccT d_fibonacci_Nest_raise ⟨rfl, ?_⟩
  refine v2 s_fibonacci_Nest_raise.eq_1 (rd_of_own o1) ?_
  refine ⟨⟨by omega, by omega⟩, ?_⟩
  refine v3 (rd_of_own m.places) Nat.zero_add a2 ?_
  refine Both.dec (fun h0 => ?_) (fun h0 => ?_) <;> refine vs ?_
  · have hc : ch x = [] := by
      rw [h0] at kx
      cases hc : ch x with
      | nil => rfl
      | cons c r => rw [hc] at kx; exact absurd kx.symm (f.pr.ne (x := x) (by rw [hc]; simp))
    have e1 : rowC ch x [] = ch := by
      funext z
      unfold rowC
      split
      · rename_i e; rw [e, hc]
      · rfl
    have e2 : bareP ch par x = par := by
      funext z
      unfold bareP
      rw [hc, if_neg (by simp)]
    have e3 : rowC rings g (x :: A) = rings := by
      funext z
      unfold rowC
      split
      · rename_i e; rw [e, hr]
      · rfl
    exact ⟨N, P, L, A, m, by rw [e1, e2, e3]; exact f, by rw [e1, e2]; exact hp, Ext.refl _ _⟩
  obtain ⟨k, K, hc⟩ : ∃ k K, ch x = k :: K := by
    cases hc : ch x with
    | nil => rw [hc] at kx; exact absurd kx h0
    | cons c r => exact ⟨c, r, rfl⟩
  have hk : (pcF L x).k = k := by rw [kx, hc]; rfl
  rw [hk]
  have hcy := f.cy x
  have hnd := f.pr.nd x
  rw [hc] at hcy hnd
  have hin : ∀ c ∈ k :: K, 0 ≤ c ∧ c < w.cs.length := fun c hcm => f.cin (p := x) (by rw [hc]; exact hcm)
  have hkl : (k :: K).length ≤ w.cs.length := row_len hnd hin
  have hk1 : (k :: K).length = K.length + 1 := List.length_cons
  refine v1 (rd_of_own o1) ?_
  refine (ring_All_spec m.ring hcy hnd (fun c hcm => by have := hin c hcm; omega) (by omega)).mono ?_
  rintro kv H1 ⟨b, s1, hb, f1⟩
  have m1 := m.fresh f1
  have z1 := f1.size
  have hS := m.slt
  have htb : B.tb < H.size := hS _ (.inr (.inr (.inr (.inr (.inr (.inl rfl))))))
  obtain ⟨ka, kc, rfl⟩ := Sl.shape s1
  refine vs ?_
  refine LoopV.intro (fun mm env H' => ∃ (i : Nat) (L' : List Pc), mm = (k :: K).length - i ∧ i ≤ (k :: K).length ∧ FibM H' B C w N P L' tops ∧ Sl H' 1 (.slice ka (k :: K).length kc) (k :: K).length ((k :: K).map i64) (some b) ∧ Ext (fun z => z = B.tb) H H' ∧
    (∀ z, (pcF L' z).k = (pcF L z).k ∧ (pcF L' z).d = (pcF L z).d ∧ (pcF L' z).u = if z ∈ (k :: K).take i then -1 else (pcF L z).u) ∧
    env = [(0, ptr B.n), (1, i64 x), (4, i64 k), (22, .slice ka (k :: K).length kc), (23, i64 (k :: K).length), (24, i64 i)]) _ ⟨0, L, rfl, by omega, m1, s1, f1.mono (fun _ _ h => h.elim), fun z => ⟨rfl, rfl, by simp⟩, rfl⟩ ?_
  rintro mm env H2 ⟨i, L2, rfl, hi, m2, s2, e2, g2, rfl⟩
  refine vs ?_
  refine Both.dec (fun gi => ?_) (fun gi => ?_) <;> refine vs ?_
  · have hi2 : i < (k :: K).length := by omega
    obtain ⟨c, hcc⟩ : ∃ c, (k :: K)[i]? = some c := ⟨_, List.getElem?_eq_getElem hi2⟩
    have hcm := hin c (List.mem_of_getElem? hcc)
    obtain ⟨_, kb, lb, rfl, q2, q3⟩ := Sl.numA s2 hcc
    obtain ⟨tv2, o2, _⟩ := m2.own
    have hl2 := m2.len
    refine ⟨⟨by omega, by omega⟩, ?_⟩
    refine v6 (rd_of_own q2) Nat.zero_add Nat.mul_one Int.toNat_natCast q3 (rd_of_own o2) ?_
    refine ⟨⟨by omega, by omega⟩, ?_⟩
    obtain ⟨b0, _⟩ := m2.rd hcm
    obtain ⟨L3, k3, m3, e3⟩ := m2.setU hcm (-1)
    refine v3 m2.places Nat.zero_add Nat.add_zero ?_
    refine ⟨by omega, ?_⟩
    refine vs ?_
    generalize H2.wr B.tb ((flatPc L2).set (c.toNat * 4) (Value.int .i64 (-1))) = H3 at *
    obtain ⟨c0, _⟩ := m3.rd hcm
    have hl3 := m3.len
    obtain ⟨L4, k4, m4, e4⟩ := m3.setM hcm false
    refine ⟨⟨by omega, by omega⟩, ?_⟩
    refine v3 m3.places Nat.zero_add Nat.add_zero ?_
    refine ⟨by omega, ?_⟩
    refine vs ?_
    refine ⟨(k :: K).length - (i + 1), by omega, i + 1, L4, rfl, by omega, m4, (s2.ext e3 (fun z hz hz2 => by injection hz with hz; omega)).ext e4 (fun z hz hz2 => by injection hz with hz; omega), (e2.trans e3).trans e4, fun z => ?_, ?_⟩
    · have tk : (k :: K).take (i + 1) = (k :: K).take i ++ [c] := by rw [List.take_add_one, hcc]; rfl
      obtain ⟨g3, g4, g5⟩ := g2 z
      rw [tk, k4, k3]
      unfold setP
      by_cases hz : z = c
      · simp only [hz, if_true]
        rw [hz] at g3 g4
        exact ⟨g3, g4, by simp⟩
      · simp only [if_neg hz]
        refine ⟨g3, g4, ?_⟩
        rw [g5]
        simp only [List.mem_append, List.mem_singleton, hz, or_false]
    · rw [wrap64 (by omega) (by omega)]
      rfl
  obtain rfl : i = (k :: K).length := by omega
  rw [List.take_length] at g2
  have hkr := hin k (by simp)
  have f2 := f.raise hr hc
  obtain ⟨tv2, o2, _⟩ := m2.own
  have hl2 := m2.len
  refine v1 (rd_of_own o2) ?_
  refine (ring_Splice_spec m2.ring m2.inv (x := x) (y := k) (by omega) (by omega)).mono ?_
  rintro _ H3 ⟨rfl, N3, P3, r3, l3, n3, i3, e3⟩
  have m3 := m2.ringTo r3 i3 e3 l3
  rw [← n3] at f2
  obtain ⟨cc, lt, o3, _⟩ := m3.topB
  refine vs ?_
  refine InvV.intro (fun H' => H'.own B.n = some [ptr B.c, ptr B.r, .slice (some ⟨B.tb, 0, none⟩) L2.length L2.length, .slice (some ⟨B.tp, 0, none⟩) tops.length cc]) o3 ?_
  refine vs ?_
  refine StbV.intro (.slice (some ⟨B.tb, 0, none⟩) L2.length L2.length) (fun H' hI => by refine v1 (rd_of_own hI) ?_; trivial) ?_
  refine vs ?_
  refine (fib_fresh_spec H3).mono ?_
  rintro _ H4 ⟨rfl, e4⟩
  have o4 := e4.own o3 (fun h => h)
  refine And.intro o4 ?_
  have m4 := m3.fresh e4
  refine vs ?_
  refine ⟨⟨by omega, by omega⟩, ?_⟩
  obtain ⟨b0, _⟩ := m4.rd hx
  obtain ⟨L5, k5, m5, e5⟩ := m4.setA hx noPc
  refine v2 m4.places Nat.zero_add ?_
  refine ⟨by omega, ?_⟩
  rw [show splice (flatPc L2) (x.toNat * 4) (vcells (Value.agg #[i64 (-1), i64 (-1), i64 0, Value.bool false])) = splice (flatPc L2) (x.toNat * 4) [i64 noPc.u, i64 noPc.k, i64 noPc.d, .bool noPc.m] from rfl]
  have hn1 := m4.dis.1.2.2.2.1
  generalize H4.wr B.tb (splice (flatPc L2) (x.toNat * 4) [i64 noPc.u, i64 noPc.k, i64 noPc.d, .bool noPc.m]) = H5 at *
  refine vs ?_
  refine And.intro (e5.own o4 hn1) ?_
  refine vs ?_
  refine ⟨N3, P3, L5, K ++ k :: A, m5, f2, fun z => ?_, (((e2.mono fun z _ h => .inr (.inr h)).trans (e3.mono fun z _ h => h.elim .inl fun h => .inr (.inl h))).trans (e4.mono fun z _ h => h.elim)).trans (e5.mono fun z _ h => .inr (.inr h))⟩
  rw [k5]
  unfold setP rowC bareP
  obtain ⟨g3, g4, g5⟩ := g2 z
  obtain ⟨pz, kz, dz⟩ := hp z
  by_cases hz : z = x
  · rw [if_pos hz, if_pos hz, hz, if_neg (fun h => by have := (f.cno h).1 g; rw [hr] at this; exact this (by simp)), hpx]
    exact ⟨rfl, rfl, rfl⟩
  · rw [if_neg hz, if_neg hz, g3, g4, g5, hc]
    refine ⟨?_, kz, dz⟩
    split
    · rfl
    · exact pz
end
end Go.Proofs.YtjlnnljohemifaaGreat

namespace Go.Proofs.YtjlnnljohemifaaGreat
open Go Go.Vc
section
variable {H H' : Hp} {B : FB} {C V : Nat → Prop} {w : Nw} {N P : List Int} {L : List Pc} {tops : List Int} {ch : Int → List Int} {par : Int → Int} {rings : Int → List Int} {W : List Int}
set_option maxHeartbeats 4000000 in
theorem fib_off_spec (m : FibM H B C w N P L tops) {lt : Int → Int → Bool} (hs : Strict lt) {x p g t : Int} {A : List Int} (f : FbW (hmW w) lt (nxF N) ch par rings W) (hp : PcG (pcF L) ch par) (hx : x ∈ ch p) (hg : hmW w x = g) (hgl : g < tops.length) (hr : rings g = t :: A) (ht : topF tops g = t) :
    CallH Tryz.prog n_fibonacci_Nest_off [ptr B.n, i64 g, i64 x] H fun v H' => Post (∃ N' P' L' l, FibM H' B C w N' P' L' tops ∧ FbW (hmW w) lt (nxF N') (rowC ch p l) (setU par x (-1)) (rowC rings g (t :: x :: A)) W ∧ PcG (pcF L') (rowC ch p l) (setU par x (-1)) ∧ (ch p).Perm (x :: l) ∧
      Ext (fun z => z = B.nb ∨ z = B.pb ∨ z = B.tb) H H') := by
  obtain ⟨x1, x2, x3, x4, x5⟩ := f.pr.dn p x hx
  have hpx : p ≠ x := fun e => by rw [e, hs.irr] at x5; cases x5
  have hxr := f.cin hx
  obtain ⟨p0, p1, _⟩ := hmW_get (w := w) (x := p) (by omega)
  have hlen := m.len
  have hcsl := m.cells.csl
  have hcl : (ch p).length ≤ w.cs.length := row_len (f.pr.nd p) fun c hc => f.cin hc
  obtain ⟨l, hpm, hcy⟩ := (f.cy p).from hx
  have hnd := hpm.nodup_iff.1 (f.pr.nd p)
  have hll : (ch p).length = l.length + 1 := by rw [hpm.length_eq, List.length_cons]
  have f1 := f.turnC hpm hcy
  have hc1 : rowC ch p (x :: l) p = x :: l := by unfold rowC; rw [if_pos rfl]
  obtain ⟨ux, _, _⟩ := hp x
  obtain ⟨up, kp, dp⟩ := hp p
  rw [x1] at ux
  have htr := f.rin (g := g) (x := t) (by rw [hr]; simp)
  have hgp := (f.rm g t (by rw [hr]; simp)).2.2.1
  obtain ⟨cc, ltp, o1, q1, _⟩ := m.topB
  obtain ⟨a0, a1, a2, a3, a4⟩ := m.rd hxr
  obtain ⟨b0, b1, b2, b3, b4⟩ := m.rd (x := p) ⟨p0, p1⟩
  rw [ux] at a1
  rw [dp] at b3
  refine ccT d_fibonacci_Nest_off ⟨rfl, ?_⟩
  refine v2 s_fibonacci_Nest_off.eq_1 (rd_of_own o1) ?_
  refine ⟨⟨by omega, by omega⟩, ?_⟩
  refine v4 (rd_of_own m.places) Nat.zero_add Nat.add_zero a1 ?_
  refine ⟨⟨by omega, by omega⟩, ?_⟩
  refine v4 (rd_of_own m.places) m.places Nat.zero_add b3 ?_
  rw [wrap64 (by omega) (by omega)]
  obtain ⟨L2, k2, m2, e2⟩ := m.setD (x := p) ⟨p0, p1⟩ (((ch p).length : Int) - 1)
  refine ⟨by omega, ?_⟩
  refine vs ?_
  generalize H.wr B.tb ((flatPc L).set (p.toNat * 4 + 2) (i64 (((ch p).length : Int) - 1))) = H2 at *
  obtain ⟨c0, _⟩ := m2.rd (x := p) ⟨p0, p1⟩
  obtain ⟨L3, k3, m3, e3⟩ := m2.setK (x := p) ⟨p0, p1⟩ (-1)
  refine v2 m2.places Nat.zero_add ?_
  refine ⟨by omega, ?_⟩
  refine vs ?_
  generalize H2.wr B.tb ((flatPc L2).set (p.toNat * 4 + 1) (Value.int .i64 (-1))) = H3 at *
  obtain ⟨cc3, lt3, o3, q3, _⟩ := m3.topB
  refine v1 (rd_of_own o3) ?_
  refine (ring_Next_spec m3.ring (x := x) (by omega)).mono ?_
  rintro _ H' ⟨rfl, e⟩
  obtain rfl := e.symm
  refine vs ?_
  have e13 : Ext (fun z => z = B.nb ∨ z = B.pb ∨ z = B.tb) H H3 := (e2.mono fun z _ h => .inr (.inr h)).trans (e3.mono fun z _ h => .inr (.inr h))
  have hlc : l = [] ∨ ∃ A0 y, l = A0 ++ [y] := by
    rcases List.eq_nil_or_concat l with h | ⟨A0, y, h⟩
    · exact .inl h
    · exact .inr ⟨A0, y, by rw [h, List.concat_eq_append]⟩
  rcases hlc with rfl | ⟨A0, y, rfl⟩
  · have hnx : nxF N x = x := hcy
    rw [hnx]
    refine Both.of_true (by simp) ?_
    refine vs ?_
    have m4 := m3
    have e14 := e13
    obtain ⟨L4, eL⟩ : ∃ L4, L4 = L3 := ⟨_, rfl⟩
    rw [← eL] at m4 k3
    have k4x : pcF L4 x = pcF L x := by rw [k3, k2]; unfold setP; rw [if_neg hpx.symm, if_neg hpx.symm]
    have k4p : pcF L4 p = ⟨(pcF L p).u, -1, ((ch p).length : Int) - 1, (pcF L p).m⟩ := by rw [k3, k2]; unfold setP; rw [if_pos rfl, if_pos rfl]
    have k4o : ∀ z, z ≠ p → pcF L4 z = pcF L z := fun z hz => by rw [k3, k2]; unfold setP; rw [if_neg hz, if_neg hz]
    have hsp : ∀ {N5 : List Int}, nxF N5 = spl (nxF N) x (nxF P x) → FbW (hmW w) lt (nxF N5) (rowC ch p []) (setU par x (-1)) rings (x :: W) := fun h => by
      rw [h]
      have hpv : nxF P x = x := by
        have := m.inv.pn x
        rwa [hnx] at this
      rw [hpv, spl_self]
      have f2 := f1.offE hc1
      rwa [rowC_rowC] at f2
    obtain ⟨cc4, lt4, o4, q4, _⟩ := m4.topB
    refine v1 (rd_of_own o4) ?_
    refine (ring_Part_spec m4.ring m4.inv (x := x) (by omega)).mono ?_
    rintro _ H5 ⟨rfl, N5, P5, r5, l5, n5, i5, e5⟩
    have m5 := m4.ringTo r5 i5 e5 l5
    have f5 := hsp n5
    obtain ⟨cc5, lt5, o5, q5, _⟩ := m5.topB
    have hl5 := m5.len
    refine v1 (rd_of_own o5) ?_
    refine ⟨⟨by omega, by omega⟩, ?_⟩
    obtain ⟨d0, _⟩ := m5.rd hxr
    obtain ⟨L6, k6, m6, e6⟩ := m5.setU hxr (-1)
    refine v3 m5.places Nat.zero_add Nat.add_zero ?_
    refine ⟨by omega, ?_⟩
    refine vs ?_
    generalize H5.wr B.tb ((flatPc L4).set (x.toNat * 4) (Value.int .i64 (-1))) = H6 at *
    have hl6 := m6.len
    refine ⟨⟨by omega, by omega⟩, ?_⟩
    obtain ⟨g0, _⟩ := m6.rd hxr
    obtain ⟨L7, k7, m7, e7⟩ := m6.setM hxr false
    refine v3 m6.places Nat.zero_add Nat.add_zero ?_
    refine ⟨by omega, ?_⟩
    refine vs ?_
    generalize H6.wr B.tb ((flatPc L6).set (x.toNat * 4 + 3) (Value.bool false)) = H7 at *
    obtain ⟨cc7, lt7, o7, q7, _⟩ := m7.topB
    have q8 := m7.topGet q7 (topF_at (tops := tops) (h := g) (by omega) hgl)
    rw [ht] at q8
    have hl7 := m7.len
    refine v1 (rd_of_own o7) ?_
    refine ⟨⟨by omega, by omega⟩, ?_⟩
    refine v4 (rd_of_own q7) Nat.zero_add Nat.mul_one q8 ?_
    refine (ring_Splice_spec m7.ring m7.inv (x := t) (y := x) (by omega) (by omega)).mono ?_
    rintro _ H8 ⟨rfl, N8, P8, r8, l8, n8, i8, e8⟩
    have m8 := m7.ringTo r8 i8 e8 l8
    have f8 := f5.joinR (t := t) (A := A) (by rw [hg]; exact hr)
    rw [hg, ← n8] at f8
    refine vs ?_
    refine ⟨N8, P8, L7, [], m8, f8, fun z => ?_, hpm, (((e14.trans (e5.mono fun z _ h => h.elim .inl fun h => .inr (.inl h))).trans (e6.mono fun z _ h => .inr (.inr h))).trans (e7.mono fun z _ h => .inr (.inr h))).trans (e8.mono fun z _ h => h.elim .inl fun h => .inr (.inl h))⟩
    rw [k7, k6]
    obtain ⟨uz, kz, dz⟩ := hp z
    by_cases h1 : z = x
    · rw [h1]
      rw [h1] at kz dz
      unfold setP setU rowC
      simp only [if_true, if_neg hpx.symm, k4x]
      exact ⟨trivial, kz, dz⟩
    · unfold setP setU rowC
      simp only [if_neg h1]
      by_cases h2 : z = p
      · rw [h2]
        simp only [if_true, if_neg hpx, k4p]
        refine ⟨up, rfl, ?_⟩
        rw [hll]; simp
      · simp only [if_neg h2, k4o z h2]
        exact ⟨uz, kz, dz⟩
  · have hhd : nxF N x = (A0 ++ [y]).headD (-1) := by
      cases A0 with
      | nil => exact hcy.1
      | cons a A0 => exact hcy.1
    have hnx : nxF N x ≠ x := fun e => by
      have h1 := (List.nodup_cons.1 hnd).1
      apply h1
      rw [e] at hhd
      cases A0 with
      | nil => rw [hhd]; simp
      | cons a A0 => rw [hhd]; simp
    refine Both.dec (fun h => absurd h hnx) (fun _ => ?_)
    obtain ⟨r0, _⟩ := m3.rd (x := p) ⟨p0, p1⟩
    obtain ⟨L4, k4, m4, e4⟩ := m3.setK (x := p) ⟨p0, p1⟩ (nxF N x)
    refine v2 m3.places Nat.zero_add ?_
    refine ⟨by omega, ?_⟩
    refine vs ?_
    generalize H3.wr B.tb ((flatPc L3).set (p.toNat * 4 + 1) (i64 (nxF N x))) = H4 at *
    have e14 := e13.trans (e4.mono fun z _ h => .inr (.inr h))
    have k4x : pcF L4 x = pcF L x := by rw [k4, k3, k2]; unfold setP; rw [if_neg hpx.symm, if_neg hpx.symm, if_neg hpx.symm]
    have k4p : pcF L4 p = ⟨(pcF L p).u, nxF N x, ((ch p).length : Int) - 1, (pcF L p).m⟩ := by rw [k4, k3, k2]; unfold setP; rw [if_pos rfl, if_pos rfl, if_pos rfl]
    have k4o : ∀ z, z ≠ p → pcF L4 z = pcF L z := fun z hz => by rw [k4, k3, k2]; unfold setP; rw [if_neg hz, if_neg hz, if_neg hz]
    have hsp : ∀ {N5 : List Int}, nxF N5 = spl (nxF N) x (nxF P x) → FbW (hmW w) lt (nxF N5) (rowC ch p (A0 ++ [y])) (setU par x (-1)) rings (x :: W) := fun h => by
      rw [h]
      have hpv : nxF P x = y := Cyc.last (A := A0) m.inv hcy
      rw [hpv]
      have f2 := f1.off (A := A0) (y := y) hc1
      rwa [rowC_rowC] at f2
    obtain ⟨cc4, lt4, o4, q4, _⟩ := m4.topB
    refine v1 (rd_of_own o4) ?_
    refine (ring_Part_spec m4.ring m4.inv (x := x) (by omega)).mono ?_
    rintro _ H5 ⟨rfl, N5, P5, r5, l5, n5, i5, e5⟩
    have m5 := m4.ringTo r5 i5 e5 l5
    have f5 := hsp n5
    obtain ⟨cc5, lt5, o5, q5, _⟩ := m5.topB
    have hl5 := m5.len
    refine v1 (rd_of_own o5) ?_
    refine ⟨⟨by omega, by omega⟩, ?_⟩
    obtain ⟨d0, _⟩ := m5.rd hxr
    obtain ⟨L6, k6, m6, e6⟩ := m5.setU hxr (-1)
    refine v3 m5.places Nat.zero_add Nat.add_zero ?_
    refine ⟨by omega, ?_⟩
    refine vs ?_
    generalize H5.wr B.tb ((flatPc L4).set (x.toNat * 4) (Value.int .i64 (-1))) = H6 at *
    have hl6 := m6.len
    refine ⟨⟨by omega, by omega⟩, ?_⟩
    obtain ⟨g0, _⟩ := m6.rd hxr
    obtain ⟨L7, k7, m7, e7⟩ := m6.setM hxr false
    refine v3 m6.places Nat.zero_add Nat.add_zero ?_
    refine ⟨by omega, ?_⟩
    refine vs ?_
    generalize H6.wr B.tb ((flatPc L6).set (x.toNat * 4 + 3) (Value.bool false)) = H7 at *
    obtain ⟨cc7, lt7, o7, q7, _⟩ := m7.topB
    have q8 := m7.topGet q7 (topF_at (tops := tops) (h := g) (by omega) hgl)
    rw [ht] at q8
    have hl7 := m7.len
    refine v1 (rd_of_own o7) ?_
    refine ⟨⟨by omega, by omega⟩, ?_⟩
    refine v4 (rd_of_own q7) Nat.zero_add Nat.mul_one q8 ?_
    refine (ring_Splice_spec m7.ring m7.inv (x := t) (y := x) (by omega) (by omega)).mono ?_
    rintro _ H8 ⟨rfl, N8, P8, r8, l8, n8, i8, e8⟩
    have m8 := m7.ringTo r8 i8 e8 l8
    have f8 := f5.joinR (t := t) (A := A) (by rw [hg]; exact hr)
    rw [hg, ← n8] at f8
    refine vs ?_
    refine ⟨N8, P8, L7, (A0 ++ [y]), m8, f8, fun z => ?_, hpm, (((e14.trans (e5.mono fun z _ h => h.elim .inl fun h => .inr (.inl h))).trans (e6.mono fun z _ h => .inr (.inr h))).trans (e7.mono fun z _ h => .inr (.inr h))).trans (e8.mono fun z _ h => h.elim .inl fun h => .inr (.inl h))⟩
    rw [k7, k6]
    obtain ⟨uz, kz, dz⟩ := hp z
    by_cases h1 : z = x
    · rw [h1]
      rw [h1] at kz dz
      unfold setP setU rowC
      simp only [if_true, if_neg hpx.symm, k4x]
      exact ⟨trivial, kz, dz⟩
    · unfold setP setU rowC
      simp only [if_neg h1]
      by_cases h2 : z = p
      · rw [h2]
        simp only [if_true, if_neg hpx, k4p]
        refine ⟨up, hhd, ?_⟩
        rw [hll]; simp
      · simp only [if_neg h2, k4o z h2]
        exact ⟨uz, kz, dz⟩
end
end Go.Proofs.YtjlnnljohemifaaGreat

namespace Go.Proofs.YtjlnnljohemifaaGreat
open Go Go.Vc
section
variable {H H' : Hp} {B : FB} {C V : Nat → Prop} {w : Nw} {N P : List Int} {L : List Pc} {tops : List Int} {ch : Int → List Int} {par : Int → Int} {rings : Int → List Int} {W : List Int}
theorem fib_cascade_spec (m : FibM H B C w N P L tops) {lt : Int → Int → Bool} (hs : Strict lt) {x g t : Int} {A : List Int} (f : FbW (hmW w) lt (nxF N) ch par rings W) (hp : PcG (pcF L) ch par) (hg : hmW w x = g) (hg0 : 0 < g) (hgl : g < tops.length) (hr : rings g = t :: A) (ht : topF tops g = t) :
    CallH Tryz.prog n_fibonacci_Nest_cascade [ptr B.n, i64 g, i64 x] H fun v H' => Post (∃ N' P' L' ch' par' A', FibM H' B C w N' P' L' tops ∧ FbW (hmW w) lt (nxF N') ch' par' (rowC rings g (t :: A')) W ∧ PcG (pcF L') ch' par' ∧ (∀ z, par z = -1 → par' z = -1) ∧
      Ext (fun z => z = B.nb ∨ z = B.pb ∨ z = B.tb) H H') := by
  have e0 : rowC rings g (t :: A) = rings := by
    funext z
    unfold rowC
    split
    · rename_i e; rw [e, hr]
    · rfl
  refine ccT d_fibonacci_Nest_cascade ⟨rfl, ?_⟩
  refine v1 s_fibonacci_Nest_cascade.eq_1 ?_
  refine LoopV.intro (fun mm env H' => ∃ (x : Int) (N' P' : List Int) (L' : List Pc) (ch' : Int → List Int) (par' : Int → Int) (A' : List Int), mm = depN lt w.cs.length x ∧ hmW w x = g ∧ FibM H' B C w N' P' L' tops ∧ FbW (hmW w) lt (nxF N') ch' par' (rowC rings g (t :: A')) W ∧ PcG (pcF L') ch' par' ∧ (∀ z, par z = -1 → par' z = -1) ∧
      Ext (fun z => z = B.nb ∨ z = B.pb ∨ z = B.tb) H H' ∧ env = [(0, ptr B.n), (1, i64 g), (2, i64 x)]) _ ⟨x, N, P, L, ch, par, A, rfl, hg, m, by rw [e0]; exact f, hp, fun _ h => h, Ext.refl _ _, rfl⟩ ?_
  rintro mm env H1 ⟨y, N1, P1, L1, ch1, par1, A1, rfl, hy, m1, f1, p1, u1, e1, rfl⟩
  obtain ⟨y0, y1, _⟩ := hmW_get (w := w) (x := y) (by omega)
  obtain ⟨tv, o1, _⟩ := m1.own
  obtain ⟨a0, a1, a2, a3, a4⟩ := m1.rd ⟨y0, y1⟩
  obtain ⟨uy, _, _⟩ := p1 y
  have hl := m1.len
  rw [uy] at a1
  refine v1 (rd_of_own o1) ?_
  refine ⟨⟨by omega, by omega⟩, ?_⟩
  refine v4 (rd_of_own m1.places) Nat.zero_add Nat.add_zero a1 ?_
  refine Both.dec (fun h0 => ?_) (fun h0 => ?_) <;> refine v1 (rd_of_own o1) ?_
  · exact ⟨N1, P1, L1, ch1, par1, A1, m1, f1, p1, u1, e1⟩
  refine ⟨⟨by omega, by omega⟩, ?_⟩
  refine v3 (rd_of_own m1.places) Nat.zero_add a4 ?_
  have hyc := f1.pr.up y _ rfl h0
  obtain ⟨_, _, h3, h4, h5⟩ := f1.pr.dn _ _ hyc
  cases hm : (pcF L1 y).m
  · refine v1 (rd_of_own o1) ?_
    refine ⟨⟨by omega, by omega⟩, ?_⟩
    obtain ⟨L2, k2, m2, e2⟩ := m1.setM ⟨y0, y1⟩ true
    refine v2 m1.places Nat.zero_add ?_
    refine ⟨by omega, ?_⟩
    refine vs ?_
    refine ⟨N1, P1, L2, ch1, par1, A1, m2, f1, fun z => ?_, u1, e1.trans (e2.mono fun z _ h => .inr (.inr h))⟩
    rw [k2]
    unfold setP
    split
    · rename_i e; rw [e]; exact p1 y
    · exact p1 z
  · refine v1 (rd_of_own o1) ?_
    refine ⟨⟨by omega, by omega⟩, ?_⟩
    refine v4 (rd_of_own m1.places) Nat.zero_add Nat.add_zero a1 ?_
    refine (fib_off_spec m1 hs f1 p1 hyc hy hgl (A := A1) (by unfold rowC; rw [if_pos rfl]) ht).mono ?_
    rintro _ H2 ⟨N2, P2, L2, l, m2, f2, p2, hpm, e2⟩
    rw [rowC_rowC] at f2
    refine vs ?_
    obtain ⟨z0, z1, _⟩ := hmW_get (w := w) (x := par1 y) (by omega)
    refine ⟨depN lt w.cs.length (par1 y), depN_lt hs ⟨z0, by omega⟩ h5, par1 y, N2, P2, L2, _, _, y :: A1, rfl, by omega, m2, f2, p2, fun z hz => ?_, e1.trans e2, rfl⟩
    unfold setU
    split
    · rfl
    · exact u1 z hz
theorem fib_loosen_spec (m : FibM H B C w N P L tops) {lt : Int → Int → Bool} (hs : Strict lt) {x g t : Int} {A : List Int} (f : FbW (hmW w) lt (nxF N) ch par rings W) (hp : PcG (pcF L) ch par) (hg : hmW w x = g) (hg0 : 0 < g) (hgl : g < tops.length) (hr : rings g = t :: A) (ht : topF tops g = t) :
    CallH Tryz.prog n_fibonacci_Nest_loosen [ptr B.n, i64 g, i64 x] H fun v H' => Post (∃ N' P' L' ch' par' A', FibM H' B C w N' P' L' tops ∧ FbW (hmW w) lt (nxF N') ch' par' (rowC rings g (t :: A')) W ∧ PcG (pcF L') ch' par' ∧ par' x = -1 ∧ (∀ z, par z = -1 → par' z = -1) ∧
      Ext (fun z => z = B.nb ∨ z = B.pb ∨ z = B.tb) H H') := by
  obtain ⟨y0, y1, _⟩ := hmW_get (w := w) (x := x) (by omega)
  obtain ⟨tv, o1, _⟩ := m.own
  obtain ⟨a0, a1, a2, a3, a4⟩ := m.rd ⟨y0, y1⟩
  obtain ⟨uy, _, _⟩ := hp x
  have hl := m.len
  rw [uy] at a1
  refine ccT d_fibonacci_Nest_loosen ⟨rfl, ?_⟩
  refine v2 s_fibonacci_Nest_loosen.eq_1 (rd_of_own o1) ?_
  refine ⟨⟨by omega, by omega⟩, ?_⟩
  refine v4 (rd_of_own m.places) Nat.zero_add Nat.add_zero a1 ?_
  refine Both.dec (fun h0 => ?_) (fun h0 => ?_) <;> refine vs ?_
  · have e0 : rowC rings g (t :: A) = rings := by
      funext z
      unfold rowC
      split
      · rename_i e; rw [e, hr]
      · rfl
    exact ⟨N, P, L, ch, par, A, m, by rw [e0]; exact f, hp, h0, fun _ h => h, Ext.refl _ _⟩
  have hxc := f.pr.up x _ rfl h0
  obtain ⟨_, _, h3, h4, h5⟩ := f.pr.dn _ _ hxc
  refine (fib_off_spec m hs f hp hxc hg hgl hr ht).mono ?_
  rintro _ H2 ⟨N2, P2, L2, l, m2, f2, p2, hpm, e2⟩
  refine vs ?_
  refine (fib_cascade_spec m2 hs (x := par x) (A := x :: A) f2 p2 (by omega) hg0 hgl (by unfold rowC; rw [if_pos rfl]) ht).mono ?_
  rintro _ H3 ⟨N3, P3, L3, ch3, par3, A3, m3, f3, p3, u3, e3⟩
  rw [rowC_rowC] at f3
  refine vs ?_
  exact ⟨N3, P3, L3, ch3, par3, A3, m3, f3, p3, u3 x (by unfold setU; rw [if_pos rfl]), fun z hz => u3 z (by unfold setU; split; rfl; exact hz), e2.trans e3⟩
end
end Go.Proofs.YtjlnnljohemifaaGreat

namespace Go.Proofs.YtjlnnljohemifaaGreat
open Go Go.Vc
theorem ws_app (a b : List Int) : ws (a ++ b) = ws a ++ ws b := by unfold ws; rw [List.filter_append]
theorem ws_put {l : List Int} {d : Nat} {y v : Int} (h : l[d]? = some y) : (ws [y] ++ ws (l.set d v)).Perm (ws [v] ++ ws l) := by
  have hd := (List.getElem?_eq_some_iff.1 h).1
  have e1 : l = l.take d ++ y :: l.drop (d + 1) := by
    rw [List.getElem?_eq_getElem hd] at h
    injection h with h
    rw [← h, ← List.drop_eq_getElem_cons hd, List.take_append_drop]
  have e2 : l.set d v = l.take d ++ v :: l.drop (d + 1) := by
    rw [List.set_eq_take_append_cons_drop, if_pos hd]
  rw [e2]
  generalize ha : l.take d = a at *
  generalize hb : l.drop (d + 1) = b at *
  rw [e1, ws_app, ws_app, ws_cons v b, ws_cons y b, List.perm_iff_count]
  intro z
  simp only [List.count_append]
  omega
section
variable {H H' : Hp} {B : FB} {C V : Nat → Prop} {w : Nw} {N P : List Int} {L : List Pc} {tops : List Int} {ch : Int → List Int} {par : Int → Int} {rings : Int → List Int} {W : List Int}
structure TidI (w : Nw) (g : Int) (nx : Int → Int) (ch0 ch : Int → List Int) (par : Int → Int) (rings : Int → List Int) (tbl rest W0 : List Int) : Prop where
  f : FbW (hmW w) (ltW w) nx ch par rings (ws tbl ++ (rest ++ W0))
  td : ∀ (d : Nat) y, tbl[d]? = some y → y ≠ -1 → (ch y).length = d ∧ hmW w y = g
  rh : ∀ y ∈ rest, hmW w y = g
  c0 : ∀ z ∈ W0, ch z = ch0 z
  tl : tbl.length ≤ w.cs.length + 1
set_option maxRecDepth 100000 in
set_option maxHeartbeats 4000000 in
theorem fib_tidy_spec (m : FibM H B C w N P L tops) {roots W0 : List Int} {g : Int} {b o rc : Nat} {lb : List Value} (hb : H.own b = some lb) (hrd : ∀ (i : Nat) y, roots[i]? = some y → lb[o + i]? = some (i64 y)) (hbs : ¬ B.S C b) (t0 : TidI w g (nxF N) ch ch par rings [] roots W0) (hp : PcG (pcF L) ch par) (hrl : roots.length ≤ 65536) :
    CallH Tryz.prog n_fibonacci_Nest_tidy [ptr B.n, .slice (some ⟨b, o, none⟩) roots.length rc] H fun v H' => Post (∃ N' P' L' ch' par' tbl fq, FibM H' B C w N' P' L' tops ∧ TidI w g (nxF N') ch ch' par' rings tbl [] W0 ∧ PcG (pcF L') ch' par' ∧
      Sl H' 1 v tbl.length (tbl.map i64) fq ∧ (∀ z, fq = some z → H.size ≤ z) ∧ Ext (fun z => C z ∨ z = B.nb ∨ z = B.pb ∨ z = B.tb) H H') := by
  have hcsl := m.cells.csl
  have hbl := own_lt hb
  have hS := m.slt
  have ls := ltW_strict w
  have hTb : ∀ {z : Nat}, (C z ∨ z = B.nb ∨ z = B.pb ∨ z = B.tb) → B.S C z := fun h => by
    rcases h with h | h | h | h
    · exact .inl h
    · exact .inr (.inr (.inr (.inl h)))
    · exact .inr (.inr (.inr (.inr (.inl h))))
    · exact .inr (.inr (.inr (.inr (.inr (.inl h)))))
  refine ccT d_fibonacci_Nest_tidy ⟨rfl, ?_⟩
  refine v1 s_fibonacci_Nest_tidy.eq_1 ?_
  refine LoopV.intro (fun mm env H' => ∃ (i : Nat) (N' P' : List Int) (L' : List Pc) (ch' : Int → List Int) (par' : Int → Int) (tbl : List Int) (wv : Value) (fq : Option Nat), mm = roots.length - i ∧ i ≤ roots.length ∧ FibM H' B C w N' P' L' tops ∧ TidI w g (nxF N') ch ch' par' rings tbl (roots.drop i) W0 ∧ PcG (pcF L') ch' par' ∧
      Sl H' 1 wv tbl.length (tbl.map i64) fq ∧ (∀ z, fq = some z → H.size ≤ z) ∧ Ext (fun z => C z ∨ z = B.nb ∨ z = B.pb ∨ z = B.tb ∨ H.size ≤ z) H H' ∧
      env = [(0, ptr B.n), (5, wv), (10, .slice (some ⟨b, o, none⟩) roots.length rc), (11, i64 roots.length), (12, i64 i)]) _ ⟨0, N, P, L, ch, par, [], _, none, rfl, by omega, m, t0, hp, Sl.nil _ _, (fun z h => by cases h), Ext.refl _ _, rfl⟩ ?_
  rintro mm env H1 ⟨i, N1, P1, L1, ch1, par1, tbl, wv, fq, rfl, hi, m1, t1, p1, s1, hfq, e1, rfl⟩
  refine vs ?_
  refine Both.dec (fun gi => ?_) (fun gi => ?_) <;> refine vs ?_
  rotate_left
  · obtain rfl : i = roots.length := by omega
    rw [List.drop_length] at t1
    exact ⟨N1, P1, L1, ch1, par1, tbl, fq, m1, t1, p1, s1, hfq, e1.mono fun z hz h => by
      rcases h with h | h | h | h | h
      · exact .inl h
      · exact .inr (.inl h)
      · exact .inr (.inr (.inl h))
      · exact .inr (.inr (.inr h))
      · omega⟩
  have hi2 : i < roots.length := by omega
  obtain ⟨x, hx⟩ : ∃ x, roots[i]? = some x := ⟨_, List.getElem?_eq_getElem hi2⟩
  have dr : roots.drop i = x :: roots.drop (i + 1) := by
    rw [List.drop_eq_getElem_cons hi2]
    congr 1
    rw [List.getElem?_eq_getElem hi2] at hx
    injection hx
  have ob : H1.own b = some lb := e1.own hb (fun h => by
    rcases h with h | h | h | h | h
    · exact hbs (hTb (.inl h))
    · exact hbs (hTb (.inr (.inl h)))
    · exact hbs (hTb (.inr (.inr (.inl h))))
    · exact hbs (hTb (.inr (.inr (.inr h))))
    · omega)
  refine ⟨⟨by omega, by omega⟩, ?_⟩
  refine v4 (rd_of_own ob) Nat.mul_one Int.toNat_natCast (hrd i x hx) ?_
  rw [dr] at t1
  have hnW1 : x ∈ ws tbl ++ (x :: roots.drop (i + 1) ++ W0) := by simp
  refine LoopV.intro (fun mm env H' => ∃ (x : Int) (N' P' : List Int) (L' : List Pc) (ch' : Int → List Int) (par' : Int → Int) (tbl : List Int) (wv : Value) (fq : Option Nat), mm = (ws tbl).length ∧ FibM H' B C w N' P' L' tops ∧ TidI w g (nxF N') ch ch' par' rings tbl (x :: roots.drop (i + 1)) W0 ∧ PcG (pcF L') ch' par' ∧
      Sl H' 1 wv tbl.length (tbl.map i64) fq ∧ (∀ z, fq = some z → H.size ≤ z) ∧ Ext (fun z => C z ∨ z = B.nb ∨ z = B.pb ∨ z = B.tb ∨ H.size ≤ z) H H' ∧
      env = [(0, ptr B.n), (5, wv), (7, i64 x), (10, .slice (some ⟨b, o, none⟩) roots.length rc), (11, i64 roots.length), (12, i64 i)]) _ ⟨x, N1, P1, L1, ch1, par1, tbl, wv, fq, rfl, m1, t1, p1, s1, hfq, e1, rfl⟩ ?_
  clear hx dr hnW1 m1 t1 p1 s1 hfq e1 ob
  rintro mm env H2 ⟨x, N2, P2, L2, ch2, par2, tbl, wv, fq, rfl, m2, t2, p2, s2, hfq, e2, rfl⟩
  have hxr := t2.f.win (x := x) (by simp)
  have hxg := t2.rh x (by simp)
  have hl2 := m2.len
  obtain ⟨tv, o2, _⟩ := m2.own
  obtain ⟨a0, a1, a2, a3, a4⟩ := m2.rd hxr
  rw [(p2 x).2.2] at a3
  have hxl : (ch2 x).length ≤ w.cs.length := row_len (t2.f.pr.nd x) fun c hc => t2.f.cin hc
  refine v1 (rd_of_own o2) ?_
  refine ⟨⟨by omega, by omega⟩, ?_⟩
  refine v3 (rd_of_own m2.places) Nat.zero_add a3 ?_
  refine LoopV.intro (fun mm env H' => ∃ (tb : List Int) (wv : Value) (fq : Option Nat), mm = (ch2 x).length + 1 - tb.length ∧ ws tb = ws tbl ∧ FibM H' B C w N2 P2 L2 tops ∧ TidI w g (nxF N2) ch ch2 par2 rings tb (x :: roots.drop (i + 1)) W0 ∧
      Sl H' 1 wv tb.length (tb.map i64) fq ∧ (∀ z, fq = some z → H.size ≤ z) ∧ Ext (fun z => C z ∨ z = B.nb ∨ z = B.pb ∨ z = B.tb ∨ H.size ≤ z) H H' ∧
      env = [(0, ptr B.n), (5, wv), (7, i64 x), (8, i64 (ch2 x).length), (10, .slice (some ⟨b, o, none⟩) roots.length rc), (11, i64 roots.length), (12, i64 i)]) _ ⟨tbl, wv, fq, rfl, rfl, m2, t2, s2, hfq, e2, rfl⟩ ?_
  have hwt : (ws tbl).length ≤ w.cs.length := by
    have h1 := row_len t2.f.wn fun c hc => t2.f.win hc
    rw [List.length_append] at h1
    omega
  clear t2 m2 s2 hfq e2 o2 a1 a2 a3 a4
  rintro mm env H3 ⟨tb, wv, fq, rfl, hws, m3, t3, s3, hfq, e3, rfl⟩
  have z3 := e3.size
  have htl := t3.tl
  obtain ⟨wa, wc, rfl⟩ := Sl.shape s3
  refine vs ?_
  refine Both.dec (fun gd => ?_) (fun gd => ?_) <;> refine vs ?_
  · refine pushO (B := H.size) hfq z3 s3 (-1) (by omega) fun w' H4 fq' hfq' s4 e4 => ?_
    refine vs ?_
    refine ⟨(ch2 x).length + 1 - (tb.length + 1), by omega, tb ++ [-1], w', fq', by simp, by rw [ws_app, ws_one, if_pos rfl, List.append_nil, hws], m3.ext e4 (fun z hz hz2 => by have := hS z hz; omega), ⟨?_, fun d y hd hy => ?_, t3.rh, t3.c0, ?_⟩, s4, hfq', e3.trans (e4.mono fun z _ h => .inr (.inr (.inr (.inr h)))), rfl⟩
    · rw [ws_app, ws_one, if_pos rfl, List.append_nil]; exact t3.f
    · rcases Nat.lt_trichotomy d tb.length with h | h | h
      · rw [List.getElem?_append_left h] at hd; exact t3.td d y hd hy
      · subst h
        rw [List.getElem?_append_right (Nat.le_refl _), Nat.sub_self] at hd
        simp at hd
        exact absurd hd.symm hy
      · rw [List.getElem?_eq_none (by simp; omega)] at hd; cases hd
    · rw [List.length_append, List.length_singleton]; omega
  have hd2 : (ch2 x).length < tb.length := by omega
  obtain ⟨y, hy⟩ : ∃ y, tb[(ch2 x).length]? = some y := ⟨_, List.getElem?_eq_getElem hd2⟩
  obtain ⟨_, qb, ql, rfl, q2, q3⟩ := Sl.numA s3 hy
  have hqb : fq = some qb := by
    cases fq with
    | none => have := s3.2.2; injection this with h1; cases h1
    | some b' => obtain ⟨_, _, h1, _⟩ := s3.2; injection h1 with h1; injection h1 with h1; injection h1 with h1; rw [h1]
  subst hqb
  have hqs := hfq qb rfl
  have hqlt := own_lt q2
  have hql := (List.getElem?_eq_some_iff.1 q3).1
  have hMq : ∀ z, B.S C z → z ≠ qb := fun z hz e => by have := hS z hz; omega
  refine ⟨⟨by omega, by omega⟩, ?_⟩
  refine v5 (rd_of_own q2) Nat.zero_add Nat.mul_one Int.toNat_natCast q3 ?_
  refine Both.dec (fun gy => ?_) (fun gy => ?_) <;> refine vs ?_
  · refine ⟨⟨by omega, by omega⟩, ?_⟩
    refine v4 q2 Nat.zero_add Nat.mul_one Int.toNat_natCast ?_
    refine ⟨by omega, ?_⟩
    have s4 := s3.set1 q2 (ch2 x).length (i64 x)
    have e4 : Ext (fun z => z = qb) H3 (H3.wr qb (ql.set (ch2 x).length (i64 x))) := (Ext.refl (fun z => z = qb) _).wr (fun _ => rfl) _
    refine vs ?_
    have hpm := ws_put (v := x) hy
    rw [ws_one y, if_pos gy, ws_one x, if_neg (t3.f.wne (c := x) (by simp)), List.nil_append] at hpm
    have m4 := m3.ext e4 (fun z hz hz2 => hMq z hz hz2)
    have s5 : Sl (H3.wr qb (ql.set (ch2 x).length (i64 x))) 1 (.slice (some ⟨qb, 0, none⟩) (tb.set (ch2 x).length x).length wc) (tb.set (ch2 x).length x).length ((tb.set (ch2 x).length x).map i64) (some qb) := by
      rw [List.length_set, List.map_set]; exact s4
    refine ⟨roots.length - (i + 1), by omega, i + 1, N2, P2, L2, ch2, par2, tb.set (ch2 x).length x, _, some qb, rfl, by omega, m4, ⟨?_, fun d z hd hz => ?_, fun z hz => t3.rh z (by simp [hz]), t3.c0, by rw [List.length_set]; exact t3.tl⟩, p2, s5, hfq, e3.trans (e4.mono fun z _ h => .inr (.inr (.inr (.inr (by omega))))), ?_⟩
    · refine t3.f.perm ?_
      rw [List.perm_iff_count] at hpm ⊢
      intro z
      have := hpm z
      simp only [List.count_append, List.cons_append, List.count_cons] at this ⊢
      simp only [List.count_nil] at this
      omega
    · by_cases h : d = (ch2 x).length
      · rw [h, List.getElem?_set_self hd2] at hd
        injection hd with hd
        subst hd
        exact ⟨h.symm, hxg⟩
      · rw [List.getElem?_set_ne (Ne.symm h)] at hd
        exact t3.td d z hd hz
    · rw [wrap64 (by omega) (by omega), List.length_set]
      rfl
  · obtain ⟨hyd, hyg⟩ := t3.td _ y hy gy
    have hpm := ws_put (v := -1) hy
    rw [ws_one y, if_neg gy, ws_one (-1), if_pos rfl, List.nil_append] at hpm
    obtain ⟨tb2, htb2⟩ : ∃ tb2, tb2 = tb.set (ch2 x).length (-1) := ⟨_, rfl⟩
    have f4 : FbW (hmW w) (ltW w) (nxF N2) ch2 par2 rings (y :: x :: (ws tb2 ++ (roots.drop (i + 1) ++ W0))) := by
      refine t3.f.perm ?_
      rw [← htb2] at hpm
      rw [List.perm_iff_count] at hpm ⊢
      intro z
      have := hpm z
      simp only [List.count_append, List.cons_append, List.nil_append, List.count_cons, List.count_nil] at this ⊢
      omega
    have hlen2 : (ws tb).length = (ws tb2).length + 1 := by
      rw [← htb2] at hpm
      have := hpm.length_eq
      simp only [List.cons_append, List.nil_append, List.length_cons] at this
      omega
    have htd : ∀ (d : Nat) z, tb2[d]? = some z → z ≠ -1 → (ch2 z).length = d ∧ hmW w z = g := fun d z hd hz => by
      rw [htb2] at hd
      by_cases h : d = (ch2 x).length
      · rw [h, List.getElem?_set_self hd2] at hd
        injection hd with hd
        exact absurd hd.symm hz
      · rw [List.getElem?_set_ne (Ne.symm h)] at hd
        exact t3.td d z hd hz
    refine ⟨⟨by omega, by omega⟩, ?_⟩
    refine v4 q2 Nat.zero_add Nat.mul_one Int.toNat_natCast ?_
    refine ⟨by omega, ?_⟩
    have s4 := s3.set1 q2 (ch2 x).length (i64 (-1))
    have e4 : Ext (fun z => z = qb) H3 (H3.wr qb (ql.set (ch2 x).length (i64 (-1)))) := (Ext.refl (fun z => z = qb) _).wr (fun _ => rfl) _
    have s5 : Sl (H3.wr qb (ql.set (ch2 x).length (i64 (-1)))) 1 (.slice (some ⟨qb, 0, none⟩) tb2.length wc) tb2.length (tb2.map i64) (some qb) := by
      rw [htb2, List.length_set, List.map_set]; exact s4
    have hlt2 : tb2.length = tb.length := by rw [htb2, List.length_set]
    refine vs ?_
    have m4 := m3.ext e4 (fun z hz hz2 => hMq z hz hz2)
    generalize H3.wr qb (ql.set (ch2 x).length (Value.int .i64 (-1))) = H4 at *
    obtain ⟨tv4, o4, _⟩ := m4.own
    refine v1 (rd_of_own o4) ?_
    refine (cq_Ahead_spec m4.cells y x).mono ?_
    rintro _ H5 ⟨rfl, c5, e5⟩
    have m5 := m4.cellsTo c5 e5 rfl
    have hyx : y ≠ x := fun e => by have := f4.wn; rw [e] at this; simp at this
    have hgp : 0 < hmW w x := (f4.wm x (by simp)).2.2
    rw [ahead_lt (w := w) (a := y) (b := x) (by omega) hgp]
    have s6 := s5.ext e5 (fun z hz hz2 => by injection hz with hz; exact hMq z (.inl hz2) hz.symm)
    obtain ⟨p, q, hpq, hl, f5, hpg⟩ : ∃ p q, (if ltW w y x = true then (p = y ∧ q = x) else (p = x ∧ q = y)) ∧ ltW w p q = true ∧ FbW (hmW w) (ltW w) (nxF N2) ch2 par2 rings (p :: q :: (ws tb2 ++ (roots.drop (i + 1) ++ W0))) ∧ hmW w p = g ∧ hmW w q = g := by
      cases hlt : ltW w y x
      · exact ⟨x, y, by simp, (ls.tot x y hyx.symm).resolve_right (by rw [hlt]; simp), f4.perm (List.Perm.swap ..), hxg, hyg⟩
      · exact ⟨y, x, by simp, hlt, f4, hyg, hxg⟩
    cases hlt : ltW w y x <;> simp only [hlt, if_true, if_false, Bool.false_eq_true] at hpq <;> obtain ⟨rfl, rfl⟩ := hpq <;> refine vs ?_
    all_goals
      refine (fib_under_spec m5 (x := p) (y := q) f5 p2 (by omega) hl).mono ?_
      rintro _ H6 ⟨N6, P6, L6, ch6, par6, m6, f6, p6, hc6, ho6, e6⟩
      have hn6 := f6.wn
      rw [List.nodup_cons] at hn6
      have s7 := s6.ext e6 (fun z hz hz2 => by injection hz with hz; exact hMq z (hTb (.inr hz2)) hz.symm)
      refine vs ?_
      refine ⟨(ws tb2).length, by rw [← hws]; omega, p, N6, P6, L6, ch6, par6, tb2, _, some qb, rfl, m6, ⟨?_, fun d z hd hz => ?_, fun z hz => ?_, fun z hz => ?_, by rw [hlt2]; exact t3.tl⟩, p6, s7, hfq, ((e3.trans (e4.mono fun z _ h => .inr (.inr (.inr (.inr (by omega)))))).trans (e5.mono fun z _ h => .inl h)).trans (e6.mono fun z _ h => by
        rcases h with h | h | h
        · exact .inr (.inl h)
        · exact .inr (.inr (.inl h))
        · exact .inr (.inr (.inr (.inl h)))), by rw [hlt2]⟩
      · refine f6.perm ?_
        rw [List.perm_iff_count]
        intro z
        simp only [List.count_append, List.cons_append, List.count_cons]
        omega
      · have hzp : z ≠ p := fun e => hn6.1 (by
          rw [← e]
          refine List.mem_append_left _ ?_
          unfold ws
          exact List.mem_filter.2 ⟨List.mem_of_getElem? hd, by simp [hz]⟩)
        rw [ho6 z hzp]
        exact htd d z hd hz
      · rcases List.mem_cons.1 hz with h | h
        · rw [h]; exact hpg.1
        · exact t3.rh z (by simp [h])
      · have hzp : z ≠ p := fun e => hn6.1 (by rw [← e]; simp [hz])
        rw [ho6 z hzp]
        exact t3.c0 z hz
end
end Go.Proofs.YtjlnnljohemifaaGreat

namespace Go.Proofs.YtjlnnljohemifaaGreat
open Go Go.Vc
structure FibL (w : Nw) (N : List Int) (L : List Pc) (tops : List Int) (ch : Int → List Int) (par : Int → Int) (rings : Int → List Int) : Prop where
  f : FbW (hmW w) (ltW w) (nxF N) ch par rings []
  pc : PcG (pcF L) ch par
  tp : ∀ g, topF tops g = (rings g).headD (-1)
  ls : ∀ g y, 0 < g → hmW w y = g → topF tops g ≠ -1 ∧ (y ≠ topF tops g → ltW w (topF tops g) y = true)
  tl : tops.length = w.hs.length
def FibAt (n : Nat) (H : Hp) (S : Nat → Prop) (w : Nw) : Prop := ∃ (B : FB) (C : Nat → Prop) (N P : List Int) (L : List Pc) (tops : List Int) (ch : Int → List Int) (par : Int → Int) (rings : Int → List Int), B.n = n ∧ FibM H B C w N P L tops ∧ FibL w N L tops ch par rings ∧ ∀ z, S z ↔ B.S C z
theorem FibAt.slt {n : Nat} {H : Hp} {S : Nat → Prop} {w : Nw} (h : FibAt n H S w) : ∀ z, S z → z < H.size := by
  obtain ⟨B, C, N, P, L, tops, ch, par, rings, rfl, m, l, hS⟩ := h
  exact fun z hz => m.slt z ((hS z).1 hz)
theorem FibAt.ext {n : Nat} {H H' : Hp} {S V : Nat → Prop} {w : Nw} (h : FibAt n H S w) (e : Ext V H H') (hd : ∀ z, S z → ¬ V z) : FibAt n H' S w := by
  obtain ⟨B, C, N, P, L, tops, ch, par, rings, rfl, m, l, hS⟩ := h
  exact ⟨B, C, N, P, L, tops, ch, par, rings, rfl, m.ext e (fun z hz => hd z ((hS z).2 hz)), l, hS⟩
theorem FibL.first {w : Nw} {N : List Int} {L : List Pc} {tops : List Int} {ch : Int → List Int} {par : Int → Int} {rings : Int → List Int} (l : FibL w N L tops ch par rings) {g x : Int} (h : w.first g x) : topF tops g = x := by
  obtain ⟨h1, h2, h3⟩ := hmW_first.1 h
  obtain ⟨h4, h5⟩ := l.ls g x h1 h2
  apply Classical.byContradiction
  intro hne
  have h6 := h5 (Ne.symm hne)
  have ht : hmW w (topF tops g) = g := by
    have hm : topF tops g ∈ rings g := by
      have := l.tp g
      rw [this] at h4 ⊢
      exact headD_mem h4
    exact (l.f.rm g _ hm).1
  have h7 := h3 _ ht hne
  rw [(ltW_strict w).asym h6] at h7
  cases h7
theorem fib_Min_spec {n : Nat} {H : Hp} {S : Nat → Prop} {w : Nw} (h : FibAt n H S w) (g : Int) : CallH Tryz.prog n_fibonacci_Nest_Min [ptr n, i64 g] H fun v H' => Post (
    ((w.len g = 0 ∧ v = .tuple [i64 0, .bool false].toArray) ∨ ∃ x, w.first g x ∧ v = .tuple [i64 x, .bool true].toArray) ∧ H' = H) := by
  obtain ⟨B, C, N, P, L, tops, ch, par, rings, rfl, m, l, hS⟩ := h
  obtain ⟨cc, lt, ho, q2, hc1, hc2, hc3⟩ := m.topB
  refine ccT d_fibonacci_Nest_Min ⟨rfl, ?_⟩
  refine v2 s_fibonacci_Nest_Min.eq_1 (rd_of_own ho) ?_
  refine (cq_Len_spec m.cells g).mono ?_
  rintro _ _ ⟨rfl, rfl⟩
  refine vs ?_
  refine Both.dec (fun h0 => ?_) (fun h0 => ?_)
  · refine vs ?_
    exact ⟨.inl ⟨h0, rfl⟩, rfl⟩
  have hg : 0 < g := Classical.byContradiction fun hg => h0 (Nw.len0.2 (.inl (by omega)))
  obtain ⟨x, hx⟩ := first_of hg h0
  have hh := (hmW_first.1 hx).2.1
  have hgl := ((m.cells.hm x).2 (by omega)).2
  rw [hh, ← l.tl] at hgl
  have q3 := m.topGet q2 (topF_at (tops := tops) (h := g) (by omega) hgl)
  rw [l.first hx] at q3
  refine v1 (rd_of_own ho) ?_
  refine ⟨⟨by omega, by omega⟩, ?_⟩
  refine v4 (rd_of_own q2) Nat.zero_add Nat.mul_one q3 ?_
  exact ⟨.inr ⟨x, hx, rfl⟩, rfl⟩
theorem fib_Insert_spec {n : Nat} {H : Hp} {S : Nat → Prop} {w : Nw} (h : FibAt n H S w) (g x k s : Int) : CallH Tryz.prog n_fibonacci_Nest_Insert [ptr n, i64 g, i64 x, ent k s] H fun v H' => Post (
    (¬ w.canPut g x ∧ v = .bool false ∧ NxP (FibAt n) S H H' w) ∨ (w.canPut g x ∧ v = .bool true ∧ NxP (FibAt n) S H H' (w.put x (g, k, s)))) := by
  obtain ⟨B, C, N, P, L, tops, ch, par, rings, rfl, m, l, hS⟩ := h
  have hC : ∀ z, C z → S z := fun z h => (hS z).2 (.inl h)
  refine ccT d_fibonacci_Nest_Insert ⟨rfl, ?_⟩
  refine v1 s_fibonacci_Nest_Insert.eq_1 ?_
  have f0 : Fresh H (H.new 224 [i64 k, u64 s]) := (Ext.refl _ _).new _ _
  have b0 : (H.new 224 [i64 k, u64 s]).own H.size = some [i64 k, u64 s] := own_new _ _ _
  have m0 := m.fresh f0
  generalize H.new 224 [i64 k, u64 s] = H0 at *
  have ff : Ext S H H0 := f0.mono fun _ _ h => h.elim
  obtain ⟨tv, ho0, _⟩ := m0.own
  refine v2 (rd_of_own ho0) (rd_of_own b0) ?_
  refine (cq_Put_spec m0.cells g x k s).mono ?_
  rintro _ H1 (⟨hno, rfl, c1, e1⟩ | ⟨hyes, rfl, c1, e1⟩)
  · refine vs ?_
    exact .inl ⟨hno, rfl, NxP.same ⟨B, C, N, P, L, tops, ch, par, rings, rfl, m0.cellsTo c1 e1 rfl, l, hS⟩ (ff.trans (e1.mono fun z _ hz => hC z hz))⟩
  obtain ⟨hh, hx, hin⟩ := id hyes
  have m2 := m0.cellsTo c1 e1 (by simp [Nw.put])
  have hg := hh.1
  have hgl : g < tops.length := by
    have := (List.getElem?_eq_some_iff.1 hh.2).1
    have := l.tl
    omega
  have hput := fun y => hmW_put hx (g, k, s) y
  have hx0 : hmW w x ≤ 0 := Int.not_lt.1 fun h => hin (hmW_inC.1 h)
  have el : ∀ a b, 0 < hmW w a → 0 < hmW w b → a ≠ x → b ≠ x → ltW (w.put x (g, k, s)) a b = ltW w a b := fun a b ha hb hax hbx => ltW_put' hx _ ha hb hax hbx
  have f2 : FbW (hmW (w.put x (g, k, s))) (ltW (w.put x (g, k, s))) (nxF N) ch par rings (x :: []) := l.f.put (g := g) rfl hx0 (by omega) (by omega) (by rw [hput, if_pos rfl]) (fun y hy => by rw [hput, if_neg hy]) el
  refine vs ?_
  refine (fib_root_spec m2 f2 (by rw [hput, if_pos rfl]) hgl (l.tp g)).mono ?_
  rintro _ H3 ⟨N3, P3, tops3, ll, m3, hl3, ht3, f3, hor, hnn, hlx, hlT, e3⟩
  refine vs ?_
  have hhm : ∀ y, hmW w y = g → y ≠ x := fun y hy e => by rw [e] at hy; omega
  have hTg : topF tops g ≠ -1 → hmW w (topF tops g) = g := fun h => by
    have hm : topF tops g ∈ rings g := by
      have := l.tp g
      rw [this] at h ⊢
      exact headD_mem h
    exact (l.f.rm g _ hm).1
  refine .inr ⟨hyes, rfl, NxP.same ⟨B, C, N3, P3, L, tops3, ch, par, _, rfl, m3, ⟨f3, l.pc, fun g2 => ?_, fun g2 y hg2 hy => ?_, by rw [hl3]; exact l.tl⟩, hS⟩ ((ff.trans (e1.mono fun z _ h => hC z h)).trans (e3.mono fun z _ h => by
    rcases h with h | h | h | h
    · exact hC z h
    · exact (hS z).2 (.inr (.inr (.inr (.inl h))))
    · exact (hS z).2 (.inr (.inr (.inr (.inr (.inl h)))))
    · exact (hS z).2 (.inr (.inr (.inr (.inr (.inr (.inr h))))))))⟩
  · rw [ht3]
    unfold setT rowC
    split
    · rfl
    · exact l.tp g2
  · rw [ht3]
    unfold setT
    rw [hput] at hy
    by_cases h2 : g2 = g
    · rw [if_pos h2]
      refine ⟨hnn, fun hne => ?_⟩
      by_cases hyx : y = x
      · rw [hyx] at hne ⊢
        exact hlx hne
      · rw [if_neg hyx] at hy
        obtain ⟨h3, h4⟩ := l.ls g y (by omega) (by omega)
        have hTx := hhm _ (hTg h3)
        rcases hor with h5 | ⟨h5, _⟩
        · rw [h5] at hne hlT ⊢
          have h6 := hlT h3 hTx
          by_cases hyT : y = topF tops g
          · rw [hyT]; exact h6
          · have h7 := h4 hyT
            rw [← el _ _ (by rw [hTg h3]; omega) (by omega) hTx hyx] at h7
            exact (ltW_strict _).tr _ _ _ h6 h7
        · rw [h5] at hne ⊢
          rw [el _ _ (by rw [hTg h3]; omega) (by omega) hTx hyx]
          exact h4 hne
    · rw [if_neg h2]
      have hyx : y ≠ x := fun e => by rw [if_pos e] at hy; exact h2 hy.symm
      rw [if_neg hyx] at hy
      obtain ⟨h3, h4⟩ := l.ls g2 y hg2 hy
      refine ⟨h3, fun hne => ?_⟩
      have hTx : topF tops g2 ≠ x := fun e => by
        have hm : topF tops g2 ∈ rings g2 := by
          have := l.tp g2
          rw [this] at h3 ⊢
          exact headD_mem h3
        have h5 := (l.f.rm g2 _ hm).1
        rw [e] at h5
        omega
      have hT2 : hmW w (topF tops g2) = g2 := by
        have hm : topF tops g2 ∈ rings g2 := by
          have := l.tp g2
          rw [this] at h3 ⊢
          exact headD_mem h3
        exact (l.f.rm g2 _ hm).1
      rw [el _ _ (by omega) (by omega) hTx hyx]
      exact h4 hne
theorem FibM.bounds {H : Hp} {B : FB} {C : Nat → Prop} {w : Nw} {N P : List Int} {L : List Pc} {tops : List Int} (m : FibM H B C w N P L tops) : w.cs.length ≤ 65536 ∧ N.length = w.cs.length := ⟨m.cells.csl, m.len.2⟩
theorem hm_in {w : Nw} : ∀ x, 0 < hmW w x → 0 ≤ x ∧ x < w.cs.length := fun x h => by
  obtain ⟨a, b, _⟩ := hmW_get h
  exact ⟨a, b⟩
set_option maxRecDepth 100000 in
set_option maxHeartbeats 4000000 in
theorem fib_Extract_spec {n : Nat} {H : Hp} {S : Nat → Prop} {w : Nw} (h : FibAt n H S w) (g : Int) : CallH Tryz.prog n_fibonacci_Nest_Extract [ptr n, i64 g] H fun v H' => Post (
    (w.len g = 0 ∧ v = .tuple [i64 0, .bool false].toArray ∧ NxP (FibAt n) S H H' w) ∨ (∃ x, w.first g x ∧ v = .tuple [i64 x, .bool true].toArray ∧ NxP (FibAt n) S H H' (w.put x (0, 0, 0)))) := by
  refine ccT d_fibonacci_Nest_Extract ⟨rfl, ?_⟩
  refine v1 s_fibonacci_Nest_Extract.eq_1 ?_
  refine (fib_Min_spec h g).mono ?_
  rintro _ H' ⟨⟨h0, rfl⟩ | ⟨x, hx, rfl⟩, e⟩
  · obtain rfl := e.symm
    refine vs ?_
    exact .inl ⟨h0, rfl, NxP.same h (Ext.refl _ _)⟩
  obtain rfl := e.symm
  refine vs ?_
  obtain ⟨B, C, N, P, L, tops, ch, par, rings, rfl, m, l, hS⟩ := h
  obtain ⟨hg, hxg, hxl⟩ := hmW_first.1 hx
  have htx := l.first hx
  have hx0 := hm_in (w := w) x (by omega)
  have ls := ltW_strict w
  obtain ⟨A, hr⟩ : ∃ A, rings g = x :: A := by
    have h1 := l.tp g
    rw [htx] at h1
    cases hc : rings g with
    | nil => rw [hc] at h1; exact absurd h1 (by show ¬ x = -1; omega)
    | cons c r => rw [hc] at h1; exact ⟨r, by rw [show x = c from h1]⟩
  have hgl : g < tops.length := by
    have := ((m.cells.hm x).2 (by omega)).2
    have := l.tl
    omega
  refine (fib_raise_spec m l.f l.pc hr).mono ?_
  rintro _ H1 ⟨N1, P1, L1, A1, m1, f1, p1, e1⟩
  have hr1 : rowC rings g (x :: A1) g = x :: A1 := by unfold rowC; rw [if_pos rfl]
  obtain ⟨tv1, o1, _⟩ := m1.own
  obtain ⟨hcs, hN1⟩ := m1.bounds
  have hcy := f1.rc g
  have hnd := f1.rn g
  rw [hr1] at hcy hnd
  have hin : ∀ c ∈ x :: A1, 0 ≤ c ∧ c < w.cs.length := fun c hc => f1.rin (g := g) (by rw [hr1]; exact hc)
  have hgm : ∀ c ∈ x :: A1, hmW w c = g := fun c hc => (f1.rm g c (by rw [hr1]; exact hc)).1
  have hlen := row_len hnd hin
  rw [List.length_cons] at hlen
  refine v1 (rd_of_own o1) ?_
  refine (ring_All_spec m1.ring hcy hnd (fun c hc => by have := hin c hc; omega) (by omega)).mono ?_
  rintro rv H2 ⟨b2, s2, hb2, f2⟩
  obtain ⟨ra, rc, rfl⟩ := Sl.shape s2
  have m2 := m1.fresh f2
  have z2 := f2.size
  obtain ⟨tv2, o2, _⟩ := m2.own
  have hS1 := m1.slt
  have hbs2 : ¬ B.S C b2 := fun h => by have := hS1 _ h; omega
  obtain ⟨_, l2, c2, hs1, q2, hs3, hs4, hs5⟩ := id s2
  injection hs1 with hs1 hs1' hs1''
  subst hs1 hs1''
  rw [Nat.mul_one] at hs4 hs5
  have hll : (x :: A1).length = A1.length + 1 := List.length_cons
  refine vs ?_
  refine ⟨⟨by omega, by omega, by omega, by omega⟩, ?_⟩
  refine vs ?_
  obtain ⟨o, hrd, hval⟩ : ∃ o, (∀ (i : Nat) y, A1[i]? = some y → l2[o + i]? = some (i64 y)) ∧ (Value.slice (if (rc : Int) = 1 then some ⟨b2, 0, none⟩ else some ⟨b2, 1, none⟩) A1.length (rc - 1)) = .slice (some ⟨b2, o, none⟩) A1.length (rc - 1) := by
    rw [List.length_cons] at hs3 hs5
    by_cases h1 : (rc : Int) = 1
    · refine ⟨0, fun i y hy => ?_, by rw [if_pos h1]⟩
      have := (List.getElem?_eq_some_iff.1 hy).1
      omega
    · refine ⟨1, fun i y hy => ?_, by rw [if_neg h1]⟩
      have hi := (List.getElem?_eq_some_iff.1 hy).1
      have h7 : ((x :: A1).map i64)[1 + i]? = some (i64 y) := by rw [Nat.add_comm, List.map_cons, List.getElem?_cons_succ, List.getElem?_map, hy]; rfl
      rw [← hs5, List.getElem?_take, if_pos (by omega)] at h7
      exact h7
  have hv8 : ∀ (inst : Decidable ((rc : Int) = 1)), Value.slice (@ite (Option Addr) ((rc : Int) = 1) inst (some (⟨b2, 0, none⟩ : Addr)) (Option.map (fun (x : Addr) => x.add (Int.toNat 1 * 1)) (some (⟨b2, 0, none⟩ : Addr)))) (((A1.length + 1 : Nat) : Int).toNat - Int.toNat 1) ((rc : Int).toNat - Int.toNat 1) = Value.slice (some ⟨b2, o, none⟩) A1.length (rc - 1) := fun inst => by
    rw [show ((A1.length + 1 : Nat) : Int).toNat - Int.toNat 1 = A1.length by simp, show (rc : Int).toNat - Int.toNat 1 = rc - 1 by simp, ← hval]
    by_cases h1 : (rc : Int) = 1
    · rw [if_pos h1, if_pos h1]
    · rw [if_neg h1, if_neg h1]; rfl
  rw [hv8]
  generalize hR8 : Value.slice (some ⟨b2, o, none⟩) A1.length (rc - 1) = R8 at *
  have tb_ : S B.nb := (hS _).2 (.inr (.inr (.inr (.inl rfl))))
  have tb2 : S B.pb := (hS _).2 (.inr (.inr (.inr (.inr (.inl rfl)))))
  have tb3 : S B.tb := (hS _).2 (.inr (.inr (.inr (.inr (.inr (.inl rfl))))))
  have tb4 : S B.tp := (hS _).2 (.inr (.inr (.inr (.inr (.inr (.inr rfl))))))
  have hC : ∀ z, C z → S z := fun z h => (hS z).2 (.inl h)
  have e12 : Ext S H H2 := (e1.mono fun z _ h => by
    rcases h with h | h | h
    · exact h ▸ tb_
    · exact h ▸ tb2
    · exact h ▸ tb3).trans (f2.mono fun _ _ h => h.elim)
  refine v1 (rd_of_own o2) ?_
  refine (ring_All_spec m2.ring hcy hnd (fun c hc => by have := hin c hc; omega) (by omega)).mono ?_
  rintro rv H3 ⟨b3, s3, hb3, f3⟩
  obtain ⟨ka, kc, rfl⟩ := Sl.shape s3
  have m3 := m2.fresh f3
  have q3 := f3.own q2 (fun h => h)
  have z3 := f3.size
  have e13 : Ext S H H3 := e12.trans (f3.mono fun _ _ h => h.elim)
  have hbs3 : ¬ B.S C b3 := fun h => by have := hS1 _ h; omega
  have hSz : ∀ z, S z → z < H1.size := fun z hz => hS1 z ((hS z).1 hz)
  refine vs ?_
  refine LoopV.intro (fun mm env H' => ∃ (i : Nat) (N' P' : List Int), mm = (x :: A1).length - i ∧ i ≤ (x :: A1).length ∧ FibM H' B C w N' P' L1 tops ∧ FbW (hmW w) (ltW w) (nxF N') (rowC ch x []) (bareP ch par x) (rowC rings g ((x :: A1).drop i)) ((x :: A1).take i).reverse ∧
    Sl H' 1 (.slice ka (x :: A1).length kc) (x :: A1).length ((x :: A1).map i64) (some b3) ∧ Ext (fun z => z = B.nb ∨ z = B.pb) H3 H' ∧
    env = [(0, ptr B.n), (1, i64 g), (6, i64 x), (8, R8), (36, .slice ka (x :: A1).length kc), (37, i64 (x :: A1).length), (38, i64 i)]) _ ⟨0, N1, P1, rfl, by omega, m3, f1, s3, Ext.refl _ _, rfl⟩ ?_
  rintro mm env H4 ⟨i, N4, P4, rfl, hi, m4, f4, s4, e4, rfl⟩
  obtain ⟨tv4, o4, _⟩ := m4.own
  refine vs ?_
  refine Both.dec (fun gi => ?_) (fun gi => ?_) <;> refine vs ?_
  · have hi2 : i < (x :: A1).length := by omega
    obtain ⟨c, hcc⟩ : ∃ c, (x :: A1)[i]? = some c := ⟨_, List.getElem?_eq_getElem hi2⟩
    have hcm := hin c (List.mem_of_getElem? hcc)
    obtain ⟨_, kb, lb, rfl, qb, qc⟩ := Sl.numA s4 hcc
    have hkb : kb = b3 := by
      obtain ⟨_, _, _, hh, _⟩ := s4
      injection hh with hh
      injection hh with hh
      injection hh with hh
    have dr : (x :: A1).drop i = c :: (x :: A1).drop (i + 1) := by
      rw [List.drop_eq_getElem_cons hi2]
      congr 1
      rw [List.getElem?_eq_getElem hi2] at hcc
      injection hcc
    have tk : (x :: A1).take (i + 1) = (x :: A1).take i ++ [c] := by rw [List.take_add_one, hcc]; rfl
    have hl4 := m4.len
    refine ⟨⟨by omega, by omega⟩, ?_⟩
    refine v6 (rd_of_own qb) Nat.zero_add Nat.mul_one Int.toNat_natCast qc (rd_of_own o4) ?_
    refine (ring_Part_spec m4.ring m4.inv (x := c) (by omega)).mono ?_
    rintro _ H5 ⟨rfl, N5, P5, r5, l5, n5, i5, e5⟩
    have m5 := m4.ringTo r5 i5 e5 l5
    have f5 := f4.partF (x := c) (g := g) (A := (x :: A1).drop (i + 1)) m4.inv (by unfold rowC; rw [if_pos rfl]; exact dr)
    rw [rowC_rowC, ← n5] at f5
    refine vs ?_
    refine ⟨(x :: A1).length - (i + 1), by omega, i + 1, N5, P5, rfl, by omega, m5, ?_, s4.ext e5 (fun z hz h => by
      injection hz with hz
      subst hz
      have h1 := hSz _ tb_
      have h2 := hSz _ tb2
      omega), e4.trans e5, ?_⟩
    · rw [tk, List.reverse_append]
      exact f5
    · rw [wrap64 (by omega) (by omega)]
      rfl
  obtain rfl : i = (x :: A1).length := by omega
  rw [List.drop_length, List.take_length] at f4
  have e14 : Ext S H H4 := e13.trans (e4.mono fun z _ h => by
    rcases h with h | h
    · exact h ▸ tb_
    · exact h ▸ tb2)
  have z4 := e4.size
  have q4 := e4.own q3 (fun h => by
    have h1 := hSz _ tb_
    have h2 := hSz _ tb2
    omega)
  obtain ⟨cc, lt4, o4', q5, hc1, hc2, hc3⟩ := m4.topB
  refine v1 (rd_of_own o4') ?_
  refine ⟨⟨by omega, by omega⟩, ?_⟩
  refine v3 q5 Nat.zero_add Nat.mul_one ?_
  refine ⟨by omega, ?_⟩
  obtain ⟨m5, e5⟩ := m4.topTo q5 g.toNat (-1)
  refine vs ?_
  have q6 := e5.own q4 (fun h => by
    have h1 := hSz _ tb4
    omega)
  have e15 := e14.trans (e5.mono fun z _ h => h ▸ tb4)
  have z5 := e5.size
  generalize H4.wr B.tp (lt4.set g.toNat (Value.int .i64 (-1))) = H5 at *
  have t0 : TidI w g (nxF N4) (rowC ch x []) (rowC ch x []) (bareP ch par x) (rowC rings g []) [] A1 [x] := by
    refine ⟨f4.perm ?_, fun d y hd => by simp at hd, fun y hy => hgm y (by simp [hy]), fun _ _ => rfl, by simp⟩
    show List.Perm _ (A1 ++ [x])
    exact (List.reverse_perm _).trans (List.perm_append_comm (l₁ := [x]) (l₂ := A1))
  have hbs5 : ¬ B.S C b2 := hbs2
  subst hR8
  refine (fib_tidy_spec m5 q6 hrd hbs5 t0 p1 (by omega)).mono ?_
  rintro tv H6 ⟨N6, P6, L6, ch6, par6, tbl, fq, m6, t6, p6, s6, hfq, e6⟩
  obtain ⟨ta, tc, rfl⟩ := Sl.shape s6
  have htl := t6.tl
  have e16 : Ext S H H6 := e15.trans (e6.mono fun z _ h => by
    rcases h with h | h | h | h
    · exact hC z h
    · exact h ▸ tb_
    · exact h ▸ tb2
    · exact h ▸ tb3)
  refine vs ?_
  have hf6 := t6.f
  rw [List.nil_append] at hf6
  have htops0 : topF (tops.set g.toNat (-1)) = setT (topF tops) g (([] : List Int).headD (-1)) := topF_set (by omega) hgl (-1)
  refine LoopV.intro (fun mm env H' => ∃ (i : Nat) (N' P' tops' l' : List Int), mm = tbl.length - i ∧ i ≤ tbl.length ∧ FibM H' B C w N' P' L6 tops' ∧ tops'.length = tops.length ∧ topF tops' = setT (topF tops) g (l'.headD (-1)) ∧
    FbW (hmW w) (ltW w) (nxF N') ch6 par6 (rowC rings g l') (ws (tbl.drop i) ++ [x]) ∧
    (∀ c, hmW w c = g → par6 c = -1 → c ∉ ws (tbl.drop i) ++ [x] → l'.headD (-1) ≠ -1 ∧ (c ≠ l'.headD (-1) → ltW w (l'.headD (-1)) c = true)) ∧
    Sl H' 1 (.slice ta tbl.length tc) tbl.length (tbl.map i64) fq ∧ Ext S H6 H' ∧
    env = [(0, ptr B.n), (1, i64 g), (6, i64 x), (57, .slice ta tbl.length tc), (58, i64 tbl.length), (59, i64 i)]) _ ⟨0, N6, P6, _, [], rfl, by omega, m6, by rw [List.length_set], htops0, hf6, fun c h1 h2 h3 => ?_, s6, Ext.refl _ _, rfl⟩ ?_
  · exfalso
    rcases hf6.rts c (by omega) h2 with h4 | h4
    · rw [h1] at h4
      unfold rowC at h4
      rw [if_pos rfl] at h4
      cases h4
    · exact h3 h4
  rintro mm env H7 ⟨i, N7, P7, tops7, l7, rfl, hi7, m7, hl7, ht7, f7, d7, s7, e7, rfl⟩
  have hcs7 : tbl.length ≤ 65537 := by omega
  refine vs ?_
  refine Both.dec (fun gi => ?_) (fun gi => ?_) <;> refine vs ?_
  · have hi2 : i < tbl.length := by omega
    obtain ⟨r, hrr⟩ : ∃ r, tbl[i]? = some r := ⟨_, List.getElem?_eq_getElem hi2⟩
    obtain ⟨_, kb, lb, rfl, qb, qc⟩ := Sl.numA s7 hrr
    have hkb : fq = some kb := by
      cases fq with
      | none => have := s7.2.2; injection this with h1; cases h1
      | some b' => obtain ⟨_, _, h1, _⟩ := s7.2; injection h1 with h1; injection h1 with h1; injection h1 with h1; rw [h1]
    have hkbs := hfq kb hkb
    have dr : tbl.drop i = r :: tbl.drop (i + 1) := by
      rw [List.drop_eq_getElem_cons hi2]
      congr 1
      rw [List.getElem?_eq_getElem hi2] at hrr
      injection hrr
    refine ⟨⟨by omega, by omega⟩, ?_⟩
    refine v5 (rd_of_own qb) Nat.zero_add Nat.mul_one Int.toNat_natCast qc ?_
    rw [dr, ws_cons, ws_one] at f7 d7
    refine Both.dec (fun gr => ?_) (fun gr => ?_) <;> refine vs ?_
    rotate_left
    · rw [if_neg gr] at f7 d7
      simp only [List.cons_append, List.nil_append] at f7 d7
      obtain ⟨_, hrg⟩ := t6.td i r hrr gr
      have htg : topF tops7 g = l7.headD (-1) := by rw [ht7]; unfold setT; rw [if_pos rfl]
      refine (fib_root_spec m7 f7 hrg (by omega) (by rw [htg]; unfold rowC; rw [if_pos rfl])).mono ?_
      rintro _ H8 ⟨N8, P8, tops8, l8, m8, hl8, ht8, f8, hor, hnn, hlx, hlT, e8⟩
      rw [rowC_rowC] at f8
      rw [htg] at hlT
      have e8' : Ext S H7 H8 := e8.mono fun z _ h => by
        rcases h with h | h | h | h
        · exact hC z h
        · exact h ▸ tb_
        · exact h ▸ tb2
        · exact h ▸ tb4
      refine vs ?_
      refine ⟨tbl.length - (i + 1), by omega, i + 1, N8, P8, tops8, l8, rfl, by omega, m8, by omega, ?_, f8, fun c h1 h2 h3 => ⟨hnn, fun hne => ?_⟩, s7.ext e8' (fun z hz h => by
        rw [hkb] at hz
        injection hz with hz
        subst hz
        have := hSz _ h
        omega), e7.trans e8', ?_⟩
      · rw [ht8, ht7]
        funext z
        unfold setT
        split <;> rfl
      · by_cases hcr : c = r
        · rw [hcr] at hne ⊢
          exact hlx hne
        · obtain ⟨h4, h5⟩ := d7 c h1 h2 (by
            simp only [List.mem_cons, not_or]
            exact ⟨hcr, h3⟩)
          by_cases h6 : l7.headD (-1) = l8.headD (-1)
          · rw [← h6] at hne ⊢
            exact h5 hne
          · have h7 := hlT h4 h6
            by_cases h8 : c = l7.headD (-1)
            · rw [h8]; exact h7
            · exact ls.tr _ _ _ h7 (h5 h8)
      · rw [wrap64 (by omega) (by omega)]
        rfl
    · rw [if_pos gr] at f7 d7
      rw [List.nil_append] at f7 d7
      refine ⟨tbl.length - (i + 1), by omega, i + 1, N7, P7, tops7, l7, rfl, by omega, m7, hl7, ht7, f7, d7, s7, e7, ?_⟩
      rw [wrap64 (by omega) (by omega)]
      rfl
  obtain rfl : i = tbl.length := by omega
  rw [List.drop_length] at f7 d7
  have hw0 : ws ([] : List Int) ++ [x] = [x] := rfl
  rw [hw0] at f7 d7
  obtain ⟨tv7, o7, _⟩ := m7.own
  refine v1 (rd_of_own o7) ?_
  refine (cq_Drop_spec m7.cells x).mono ?_
  have hin7 : InC w.cs x := hmW_inC.1 (by omega)
  rintro _ H8 (⟨hno, _, _⟩ | ⟨_, rfl, c8, e8⟩)
  · exact absurd hin7 hno
  have m8 := m7.cellsTo c8 e8 (by simp [Nw.put])
  refine vs ?_
  have hput := fun y => hmW_put (w := w) hx0 (0, 0, 0) y
  have w0 : hmW (w.put x (0, 0, 0)) (-1) = 0 := rfl
  have w1 : hmW (w.put x (0, 0, 0)) x = 0 := by rw [hput, if_pos rfl]
  have w2 : ∀ y, y ≠ x → hmW (w.put x (0, 0, 0)) y = hmW w y := fun y hy => by rw [hput, if_neg hy]
  have el : ∀ a b, 0 < hmW w a → 0 < hmW w b → a ≠ x → b ≠ x → ltW (w.put x (0, 0, 0)) a b = ltW w a b := fun a b ha hb hax hbx => ltW_put' hx0 _ ha hb hax hbx
  have f8 := f7.drop (hm' := hmW (w.put x (0, 0, 0))) (lt' := ltW (w.put x (0, 0, 0))) (by
    rw [t6.c0 x (by simp)]
    unfold rowC
    rw [if_pos rfl]) w0 w1 w2 el
  have hrm : ∀ g2 c, c ∈ rowC rings g l7 g2 → hmW w c = g2 ∧ c ≠ x := fun g2 c hc => by
    obtain ⟨h1, _, _, h4⟩ := f7.rm g2 c hc
    exact ⟨h1, fun e => h4 (by simp [e])⟩
  refine .inr ⟨x, hx, rfl, NxP.same ⟨B, C, N7, P7, L6, tops7, ch6, par6, _, rfl, m8, ⟨f8, p6, fun g2 => ?_, fun g2 y hg2 hy => ?_, by rw [hl7]; exact l.tl⟩, hS⟩ ((e16.trans e7).trans (e8.mono fun z _ h => hC z h))⟩
  · rw [ht7]
    unfold setT rowC
    split
    · rfl
    · exact l.tp g2
  · by_cases h2 : g2 = g
    · have htg : topF tops7 g2 = l7.headD (-1) := by rw [ht7, h2]; unfold setT; rw [if_pos rfl]
      rw [htg]
      refine f8.pr.lead (ltW_strict _) (fun z hz => hm_in z hz) hg2 (fun c hc hcp => ?_) hy
      have hcx : c ≠ x := fun e => by rw [e, w1] at hc; omega
      rw [w2 c hcx] at hc
      obtain ⟨h3, h4⟩ := d7 c (by omega) hcp (by simp [hcx])
      refine ⟨h3, fun hne => ?_⟩
      obtain ⟨h5, h6⟩ := hrm g _ (show l7.headD (-1) ∈ rowC rings g l7 g by unfold rowC; rw [if_pos rfl]; exact headD_mem h3)
      rw [el _ _ (by omega) (by omega) h6 hcx]
      exact h4 hne
    · have htg : topF tops7 g2 = topF tops g2 := by rw [ht7]; unfold setT; rw [if_neg h2]
      rw [htg]
      have hyx : y ≠ x := fun e => by rw [e, w1] at hy; omega
      rw [w2 y hyx] at hy
      obtain ⟨h3, h4⟩ := l.ls g2 y hg2 hy
      refine ⟨h3, fun hne => ?_⟩
      have h5 : hmW w (topF tops g2) = g2 := by
        have hm : topF tops g2 ∈ rings g2 := by
          have := l.tp g2
          rw [this] at h3 ⊢
          exact headD_mem h3
        exact (l.f.rm g2 _ hm).1
      rw [el _ _ (by omega) (by omega) (fun e => by rw [e] at h5; omega) hyx]
      exact h4 hne
theorem fib_Make_spec {n : Nat} {H : Hp} {S : Nat → Prop} {w : Nw} (h : FibAt n H S w) : CallH Tryz.prog n_fibonacci_Nest_Make [ptr n] H fun v H' => Post (
    (w.hs.length = 65537 ∧ v = i64 0 ∧ NxP (FibAt n) S H H' w) ∨ (w.hs.length ≠ 65537 ∧ v = i64 w.hs.length ∧ NxP (FibAt n) S H H' w.make)) := by
  obtain ⟨B, C, N, P, L, tops, ch, par, rings, rfl, m, l, hS⟩ := id h
  obtain ⟨tv, ho, hsl⟩ := m.own
  refine ccT d_fibonacci_Nest_Make ⟨rfl, ?_⟩
  refine v2 s_fibonacci_Nest_Make.eq_1 (rd_of_own ho) ?_
  refine (cq_Make_spec m.cells).mono ?_
  rintro _ H1 (⟨h1, rfl, rfl⟩ | ⟨h1, rfl, C', c1, e1, hC'⟩)
  · refine vs ?_
    exact .inl ⟨h1, rfl, NxP.same h (Ext.refl _ _)⟩
  have hpos := m.cells.pos
  have hhs := m.cells.hsl
  have htl := l.tl
  have slt := m.slt
  have slt1 := c1.slt
  obtain ⟨n1, n2, n3, n4, n5, n6⟩ := m.out
  obtain ⟨⟨d1, d2, d3, d4, d5⟩, ⟨d6, d7, d8, d9⟩, ⟨d10, d11, d12⟩⟩ := m.dis
  have o1 := e1.own ho n1
  refine vs ?_
  refine Both.of_true (decide_eq_true (by omega)) ?_
  refine v1 (rd_of_own o1) ?_
  have s1 := hsl.ext e1 (fun b hb => by injection hb with hb; exact hb ▸ n6)
  refine pushE s1 (-1) (by omega) fun w' H2 b' hb' s2 e2 => ?_
  have o2 := e2.own o1 d5
  obtain ⟨wa, wc, hw'⟩ := Sl.shape s2
  subst hw'
  refine v1 o2 ?_
  generalize hw' : Value.slice wa (tops ++ [-1]).length wc = w' at *
  have e3 : Ext (fun z => z = B.n) H2 (H2.wr B.n [ptr B.c, ptr B.r, .slice (some ⟨B.tb, 0, none⟩) L.length L.length, w']) := (Ext.refl (fun z => z = B.n) _).wr (fun _ => rfl) _
  have z1 := e1.size
  have q1 := slt _ (.inr (.inl rfl))
  have q2 := slt _ (.inr (.inr (.inl rfl)))
  have q3 := slt _ (.inr (.inr (.inr (.inl rfl))))
  have q4 := slt _ (.inr (.inr (.inr (.inr (.inl rfl)))))
  have q5 := slt _ (.inr (.inr (.inr (.inr (.inr (.inl rfl))))))
  have q6 := slt _ (.inr (.inr (.inr (.inr (.inr (.inr rfl))))))
  have hC1 : ∀ z, C' z → z ≠ b' ∧ (z < H.size → C z) := fun z hz => by
    have h5 := slt1 z hz
    rcases hC' z hz with h6 | h6
    · refine ⟨fun e => ?_, fun _ => h6⟩
      rcases hb' with h7 | h7
      · exact n6 (by rw [← h7, ← e]; exact h6)
      · omega
    · exact ⟨by omega, fun h => by omega⟩
  refine .inr ⟨h1, rfl, (FB.mk B.n B.c B.r B.nb B.pb B.tb b').S C', ⟨⟨B.n, B.c, B.r, B.nb, B.pb, B.tb, b'⟩, C', N, P, L, tops ++ [-1], ch, par, rings, rfl, ⟨⟨w', own_wr_same o2, s2.ext e3 (fun b hb => by injection hb with hb; omega)⟩, ?_, ?_, m.inv, ?_, m.len, ?_, ?_⟩, ⟨l.f, l.pc, fun g => by rw [topF_app]; exact l.tp g, fun g y hg hy => by rw [topF_app]; exact l.ls g y hg hy, ?_⟩, fun z => Iff.rfl⟩, ?_, fun z hz => ?_⟩
  · exact (c1.ext e2 (fun x hx e => by
      rcases hC' x hx with h6 | h6
      · exact n6 (e ▸ h6)
      · omega)).ext e3 (fun x hx e => by
      rcases hC' x hx with h6 | h6
      · exact n1 (e ▸ h6)
      · omega)
  · exact ((m.ring.ext e1 n2 n3 n4).ext e2 (Ne.symm d10) (Ne.symm d11) (Ne.symm d12)).ext e3 (Ne.symm d1) (Ne.symm d2) (Ne.symm d3)
  · exact e3.own (e2.own (e1.own m.places n5) d9) (Ne.symm d4)
  · refine ⟨⟨d1, d2, d3, d4, ?_⟩, ⟨d6, d7, d8, ?_⟩, ⟨?_, ?_, ?_⟩⟩ <;> simp only <;> omega
  · exact ⟨fun h => n1 ((hC1 _ h).2 q1), fun h => n2 ((hC1 _ h).2 q2), fun h => n3 ((hC1 _ h).2 q3), fun h => n4 ((hC1 _ h).2 q4), fun h => n5 ((hC1 _ h).2 q5), fun h => (hC1 _ h).1 rfl⟩
  · simp [Nw.make, htl]
  · exact ((e1.mono fun z _ h => (hS z).2 (.inl h)).trans (e2.mono fun z _ h => (hS z).2 (.inr (.inr (.inr (.inr (.inr (.inr h)))))))).trans (e3.mono fun z _ h => (hS z).2 (.inr (.inl h)))
  · rcases hz with hz | hz | hz | hz | hz | hz | hz
    · rcases hC' z hz with h6 | h6
      · exact .inl ((hS z).2 (.inl h6))
      · exact .inr h6
    · exact .inl ((hS _).2 (.inr (.inl hz)))
    · exact .inl ((hS _).2 (.inr (.inr (.inl hz))))
    · exact .inl ((hS _).2 (.inr (.inr (.inr (.inl hz)))))
    · exact .inl ((hS _).2 (.inr (.inr (.inr (.inr (.inl hz))))))
    · exact .inl ((hS _).2 (.inr (.inr (.inr (.inr (.inr (.inl hz)))))))
    · rcases hb' with h7 | h7
      · exact .inl ((hS _).2 (.inr (.inr (.inr (.inr (.inr (.inr (hz.trans h7))))))))
      · exact .inr (by have hz : z = b' := hz; omega)
def idL (n i : Nat) : List Int := (List.range i).map (fun (k : Nat) => (k : Int)) ++ List.replicate (n - i) 0
theorem idL_len {n i : Nat} (h : i ≤ n) : (idL n i).length = n := by unfold idL; simp; omega
theorem idL_set {n i : Nat} (h : i < n) : (idL n i).set i (i : Int) = idL n (i + 1) := by
  unfold idL
  rw [List.set_append_right _ _ (by simp), List.length_map, List.length_range, Nat.sub_self, show n - i = (n - (i + 1)) + 1 by omega, List.replicate_succ, List.set_cons_zero, List.range_succ, List.map_append]
  simp
theorem idL_id (n : Nat) (x : Int) : nxF (idL n n) x = x := by
  unfold nxF
  split
  · rename_i h
    rw [idL_len (Nat.le_refl _)] at h
    unfold idL
    rw [Nat.sub_self, List.replicate_zero, List.append_nil, List.getD_eq_getElem?_getD, List.getElem?_map, List.getElem?_range (by omega)]
    simp
    omega
  · rfl
set_option maxHeartbeats 1000000 in
theorem ring_New_spec (H : Hp) {n : Int} (hn : 0 ≤ n ∧ n ≤ 65536) : CallH Tryz.prog n_ring_New [i64 n] H fun v H' => Post (∃ r nb pb N P, v = .tuple [ptr r, i64 0].toArray ∧ RingAt H' r nb pb N P ∧ N.length = n.toNat ∧ (∀ x, nxF N x = x) ∧ Inv2 (nxF N) (nxF P) ∧ Fresh H H' ∧ H.size ≤ r ∧ H.size ≤ nb ∧ H.size ≤ pb) := by
  refine ccT d_ring_New ⟨rfl, ?_⟩
  refine v1 s_ring_New.eq_1 ?_
  refine Both.dec (fun g => absurd g (by omega)) (fun _ => ?_)
  refine vs ?_
  refine Both.dec (fun g => absurd g (by omega)) (fun _ => ?_)
  refine vs ?_
  have hz : (List.replicate n.toNat (0 : Int)) = idL n.toNat 0 := by unfold idL; simp
  refine InvV.intro (fun H' => True) trivial ?_
  refine vs ?_
  refine Two.intro ?A ?B
  case' A =>
    refine vs ?_
    refine ⟨⟨by omega, by omega, by omega, by omega⟩, ?_⟩
    refine vs ?_
    refine ⟨⟨by omega, by omega, by omega, by omega⟩, ?_⟩
    refine vs ?_
    rw [padZ_int, hz]
    obtain ⟨nb, hnb⟩ : ∃ nb, nb = H.size := ⟨_, rfl⟩
    obtain ⟨pb, hpb⟩ : ∃ pb, pb = H.size + 1 := ⟨_, rfl⟩
    have f0 : Fresh H (((H.new 3 ((idL n.toNat 0).map i64)).new 3 ((idL n.toNat 0).map i64)).new 317 [.slice (some ⟨H.size, 0, none⟩) n.toNat n.toNat, .slice (some ⟨H.size + 1, 0, none⟩) n.toNat n.toNat]) := (((Ext.refl _ _).new _ _).new _ _).new _ _
    have h0 : RingAt (((H.new 3 ((idL n.toNat 0).map i64)).new 3 ((idL n.toNat 0).map i64)).new 317 [.slice (some ⟨H.size, 0, none⟩) n.toNat n.toNat, .slice (some ⟨H.size + 1, 0, none⟩) n.toNat n.toNat]) (H.size + 1 + 1) nb pb (idL n.toNat 0) (idL n.toNat 0) := by
      subst hnb hpb
      refine ⟨?_, ?_, ?_, rfl, by omega, by omega, by omega⟩
      · rw [idL_len (Nat.zero_le _)]; exact own_new_eq (by simp only [size_new])
      · rw [own_new_lt (by simp only [size_new]; omega), own_new_lt (by simp only [size_new]; omega), own_new]
      · rw [own_new_lt (by simp only [size_new]; omega)]; exact own_new_eq (by simp only [size_new])
    generalize ((H.new 3 ((idL n.toNat 0).map i64)).new 3 ((idL n.toNat 0).map i64)).new 317 [.slice (some ⟨H.size, 0, none⟩) n.toNat n.toNat, .slice (some ⟨H.size + 1, 0, none⟩) n.toNat n.toNat] = H0 at *
    have hns : H.size ≤ nb ∧ H.size ≤ pb := ⟨by omega, by omega⟩
  case' B =>
    refine vs ?_
    refine ⟨⟨by omega, by omega, by omega, by omega⟩, ?_⟩
    refine vs ?_
    refine ⟨⟨by omega, by omega, by omega, by omega⟩, ?_⟩
    refine vs ?_
    rw [padZ_int, hz]
    obtain ⟨nb, hnb⟩ : ∃ nb, nb = H.size + 1 := ⟨_, rfl⟩
    obtain ⟨pb, hpb⟩ : ∃ pb, pb = H.size := ⟨_, rfl⟩
    have f0 : Fresh H (((H.new 3 ((idL n.toNat 0).map i64)).new 3 ((idL n.toNat 0).map i64)).new 317 [.slice (some ⟨H.size + 1, 0, none⟩) n.toNat n.toNat, .slice (some ⟨H.size, 0, none⟩) n.toNat n.toNat]) := (((Ext.refl _ _).new _ _).new _ _).new _ _
    have h0 : RingAt (((H.new 3 ((idL n.toNat 0).map i64)).new 3 ((idL n.toNat 0).map i64)).new 317 [.slice (some ⟨H.size + 1, 0, none⟩) n.toNat n.toNat, .slice (some ⟨H.size, 0, none⟩) n.toNat n.toNat]) (H.size + 1 + 1) nb pb (idL n.toNat 0) (idL n.toNat 0) := by
      subst hnb hpb
      refine ⟨?_, ?_, ?_, rfl, by omega, by omega, by omega⟩
      · rw [idL_len (Nat.zero_le _)]; exact own_new_eq (by simp only [size_new])
      · rw [own_new_lt (by simp only [size_new]; omega)]; exact own_new_eq (by simp only [size_new])
      · rw [own_new_lt (by simp only [size_new]; omega), own_new_lt (by simp only [size_new]; omega), own_new]
    generalize ((H.new 3 ((idL n.toNat 0).map i64)).new 3 ((idL n.toNat 0).map i64)).new 317 [.slice (some ⟨H.size + 1, 0, none⟩) n.toNat n.toNat, .slice (some ⟨H.size, 0, none⟩) n.toNat n.toNat] = H0 at *
    have hns : H.size ≤ nb ∧ H.size ≤ pb := ⟨by omega, by omega⟩
  all_goals
    refine LoopV.intro (fun m env H' => ∃ j : Nat, m = n.toNat - j ∧ j ≤ n.toNat ∧ Ext (fun z => z = nb ∨ z = pb) H0 H' ∧ RingAt H' (H.size + 1 + 1) nb pb (idL n.toNat j) (idL n.toNat j) ∧
      env = [(4, ptr (H.size + 1 + 1)), (18, i64 n), (19, i64 j)]) n.toNat ⟨0, by omega, by omega, Ext.refl _ _, h0, rfl⟩ ?_
    rintro m env H1 ⟨j, rfl, hj, e1, h1, rfl⟩
    have hl1 := idL_len hj
    obtain ⟨d1, d2, d3⟩ := h1.ne
    refine vs ?_
    refine Both.dec (fun hlt => ?_) (fun hlt => ?_) <;> refine vs ?_
    · refine v1 (rd_of_own h1.own) ?_
      refine ⟨⟨by omega, by omega⟩, ?_⟩
      refine v4 h1.nxt Nat.zero_add Nat.mul_one Int.toNat_natCast ?_
      refine ⟨by rw [List.length_map]; omega, ?_⟩
      refine vs ?_
      have e2 : Ext (fun z => z = nb) H1 (H1.wr nb (((idL n.toNat j).map i64).set j (i64 j))) := (Ext.refl (fun z => z = nb) _).wr (fun _ => rfl) _
      have q2 : (H1.wr nb (((idL n.toNat j).map i64).set j (i64 j))).own nb = some (((idL n.toNat j).map i64).set j (i64 j)) := own_wr_same h1.nxt
      generalize H1.wr nb (((idL n.toNat j).map i64).set j (i64 j)) = H2 at *
      have p2 := e2.own h1.prv (Ne.symm d3)
      refine ⟨⟨by omega, by omega⟩, ?_⟩
      refine v5 p2 h1.prv Nat.zero_add Nat.mul_one Int.toNat_natCast ?_
      refine ⟨by rw [List.length_map]; omega, ?_⟩
      refine vs ?_
      have e3 : Ext (fun z => z = pb) H2 (H2.wr pb (((idL n.toNat j).map i64).set j (i64 j))) := (Ext.refl (fun z => z = pb) _).wr (fun _ => rfl) _
      have q3 : (H2.wr pb (((idL n.toNat j).map i64).set j (i64 j))).own pb = some (((idL n.toNat j).map i64).set j (i64 j)) := own_wr_same p2
      have hset : ((idL n.toNat j).map i64).set j (i64 j) = (idL n.toNat (j + 1)).map i64 := by rw [← idL_set (by omega), List.map_set]
      rw [wrap64 (n := (j : Int) + 1) (by omega) (by omega)]
      refine ⟨n.toNat - (j + 1), by omega, j + 1, rfl, by omega, (e1.trans (e2.mono fun z _ h => .inl h)).trans (e3.mono fun z _ h => .inr h), ⟨?_, ?_, ?_, rfl, h1.ne⟩, rfl⟩
      · have ho := e3.own (e2.own h1.own d1) d2
        rw [hl1] at ho
        rw [idL_len (by omega)]
        exact ho
      · rw [← hset]; exact e3.own q2 d3
      · rw [← hset]; exact q3
    · obtain rfl : j = n.toNat := by omega
      exact ⟨_, nb, pb, _, _, rfl, h1, idL_len (Nat.le_refl _), idL_id _, ⟨fun x => by rw [idL_id, idL_id], fun x => by rw [idL_id, idL_id]⟩, f0.then e1 (fun z hz => by rcases hz with h | h <;> omega), by omega, hns.1, hns.2⟩
set_option maxRecDepth 100000 in
set_option maxHeartbeats 2000000 in
theorem fib_Decrease_spec {n : Nat} {H : Hp} {S : Nat → Prop} {w : Nw} (h : FibAt n H S w) (x k s : Int) : CallH Tryz.prog n_fibonacci_Nest_Decrease [ptr n, i64 x, ent k s] H fun v H' => Post (
    (¬ w.canLower x k s ∧ v = .bool false ∧ NxP (FibAt n) S H H' w) ∨ (w.canLower x k s ∧ v = .bool true ∧ ∃ y, w.cs[x.toNat]? = some y ∧ NxP (FibAt n) S H H' (w.put x (y.1, k, s)))) := by
  obtain ⟨B, C, N, P, L, tops, ch, par, rings, rfl, m, l, hS⟩ := h
  have hC : ∀ z, C z → S z := fun z h => (hS z).2 (.inl h)
  have tb_ : S B.nb := (hS _).2 (.inr (.inr (.inr (.inl rfl))))
  have tb2 : S B.pb := (hS _).2 (.inr (.inr (.inr (.inr (.inl rfl)))))
  have tb3 : S B.tb := (hS _).2 (.inr (.inr (.inr (.inr (.inr (.inl rfl))))))
  have tb4 : S B.tp := (hS _).2 (.inr (.inr (.inr (.inr (.inr (.inr rfl))))))
  refine ccT d_fibonacci_Nest_Decrease ⟨rfl, ?_⟩
  refine v1 s_fibonacci_Nest_Decrease.eq_1 ?_
  have f0 : Fresh H (H.new 224 [i64 k, u64 s]) := (Ext.refl _ _).new _ _
  have b0 : (H.new 224 [i64 k, u64 s]).own H.size = some [i64 k, u64 s] := own_new _ _ _
  have m0 := m.fresh f0
  generalize H.new 224 [i64 k, u64 s] = H0 at *
  have ff : Ext S H H0 := f0.mono fun _ _ h => h.elim
  obtain ⟨tv, ho0, _⟩ := m0.own
  refine v2 (rd_of_own ho0) (rd_of_own b0) ?_
  refine (cq_Lower_spec m0.cells x k s).mono ?_
  rintro _ H1 (⟨hno, rfl, c1, e1⟩ | ⟨hin, rfl, y, hy, hless, c1, e1⟩)
  · refine vs ?_
    exact .inl ⟨hno, rfl, NxP.same ⟨B, C, N, P, L, tops, ch, par, rings, rfl, m0.ext e1 (fun _ _ h => h), l, hS⟩ (ff.trans (e1.mono fun _ _ h => h.elim))⟩
  have hxl : (w.put x (y.1, k, s)).cs.length = w.cs.length := by simp [Nw.put]
  have m1 := m0.cellsTo c1 e1 hxl
  have hcan : w.canLower x k s := ⟨hin, fun z hz => by rw [hy] at hz; injection hz with hz; rw [← hz]; exact hless⟩
  have hx : 0 ≤ x ∧ x < w.cs.length := ⟨hin.1, by have := (List.getElem?_eq_some_iff.1 hy).1; have := hin.1; omega⟩
  have hwx : hmW w x = y.1 := hmW_at hin.1 hy
  have hpx := hmW_inC.2 hin
  have hw : hmW (w.put x (y.1, k, s)) = hmW w := by
    funext z
    rw [hmW_put hx]
    split
    · rename_i e; rw [e, hwx]
    · rfl
  have hin1 : InC (w.put x (y.1, k, s)).cs x := hmW_inC.1 (by rw [hw]; exact hpx)
  have el : ∀ a b, 0 < hmW w a → 0 < hmW w b → a ≠ x → b ≠ x → ltW (w.put x (y.1, k, s)) a b = ltW w a b := fun a b ha hb hax hbx => ltW_put' hx _ ha hb hax hbx
  have ex : ∀ b, 0 < hmW w b → b ≠ x → ltW w x b = true → ltW (w.put x (y.1, k, s)) x b = true := fun b hb hbx h => ltW_low hin hy hless hb hbx h
  have ls := ltW_strict w
  have ls' := ltW_strict (w.put x (y.1, k, s))
  obtain ⟨g, hg⟩ : ∃ g, g = hmW w x := ⟨_, rfl⟩
  have hgl : g < tops.length := by
    have := ((m.cells.hm x).2 hpx).2
    have := l.tl
    omega
  have ht2' : ∀ z, hmW w z = g → topF tops g ≠ -1 ∧ (z ≠ topF tops g → ltW w (topF tops g) z = true) := fun z hz => l.ls g z (by omega) hz
  obtain ⟨ht1, ht2⟩ := ht2' x hg.symm
  obtain ⟨T, hT⟩ : ∃ T, T = topF tops g := ⟨_, rfl⟩
  rw [← hT] at ht1 ht2 ht2'
  have hpx0 := hpx
  have hhl : (w.put x (y.1, k, s)).hs.length = w.hs.length := by simp [Nw.put]
  obtain ⟨A, hr⟩ : ∃ A, rings g = T :: A := by
    have h1 := l.tp g
    rw [← hT] at h1
    cases hc : rings g with
    | nil => rw [hc] at h1; exact absurd h1 ht1
    | cons c r => rw [hc] at h1; exact ⟨r, by rw [show T = c from h1]⟩
  have hTg := (l.f.rm g T (by rw [hr]; simp)).1
  have hTp := (l.f.rm g T (by rw [hr]; simp)).2.1
  have hT0 : 0 < hmW w T := by omega
  generalize hw' : w.put x (y.1, k, s) = w' at *
  obtain ⟨tv1, o1, _⟩ := m1.own
  refine v1 (rd_of_own o1) ?_
  refine (cq_Home_spec m1.cells x).mono ?_
  rintro _ H2 (⟨hno, _, _⟩ | ⟨_, rfl, c2, e2⟩)
  · exact absurd hin1 hno
  have m2 := m1.cellsTo c2 e2 rfl
  have e12 : Ext S H H2 := (ff.trans (e1.mono fun z _ h => hC z h)).trans (e2.mono fun z _ h => hC z h)
  rw [hw, ← hg]
  obtain ⟨tv2, o2, _⟩ := m2.own
  have hl2 := m2.len
  have hx' : 0 ≤ x ∧ x < w'.cs.length := by rw [hxl]; exact hx
  obtain ⟨a0, a1, a2, a3, a4⟩ := m2.rd hx'
  obtain ⟨ux, _, _⟩ := l.pc x
  rw [ux] at a1
  refine v1 (rd_of_own o2) ?_
  refine ⟨⟨by omega, by omega⟩, ?_⟩
  refine v4 (rd_of_own m2.places) Nat.zero_add Nat.add_zero a1 ?_
  have e0 : rowC rings g (T :: A) = rings := by
    funext z
    unfold rowC
    split
    · rename_i e; rw [e, hr]
    · rfl
  have hf' : (par x = -1 ∨ ltW w' (par x) x = true) → FbW (hmW w') (ltW w') (nxF N) ch par (rowC rings g (T :: A)) [] := fun hor => by
    rw [e0, hw]
    refine l.f.other fun z c hc h1 h2 h3 => ?_
    by_cases hz : z = x
    · rw [hz] at h3 hc ⊢
      exact ex c h2 (fun e => by rw [e, ls.irr] at h3; cases h3) h3
    · by_cases hcx : c = x
      · rw [hcx] at hc ⊢
        obtain ⟨d1, d2, _⟩ := l.f.pr.dn z x hc
        rcases hor with h | h
        · rw [h] at d1; exact absurd d1.symm d2
        · rw [← d1]; exact h
      · rw [el _ _ (by omega) h2 hz hcx]; exact h3
  refine Both.dec (fun h0 => ?A) (fun h0 => ?B)
  case' A =>
    refine vs ?_
    obtain ⟨H3, eH⟩ : ∃ H3, H3 = H2 := ⟨_, rfl⟩
    rw [← eH] at m2 e12 ⊢
    obtain ⟨N3, P3, L3, ch3, par3, A3, m3, f3, p3, e3⟩ : ∃ N' P' L' ch' par' A', FibM H3 B C w' N' P' L' tops ∧ FbW (hmW w') (ltW w') (nxF N') ch' par' (rowC rings g (T :: A')) [] ∧ PcG (pcF L') ch' par' ∧ Ext S H H3 := ⟨N, P, L, ch, par, A, m2, hf' (.inl h0), l.pc, e12⟩
  case' B =>
    have hpc := l.f.pr.up x _ rfl h0
    obtain ⟨_, _, hph, hp1, hp2⟩ := l.f.pr.dn _ _ hpc
    have hpx : par x ≠ x := fun e => by rw [e, ls.irr] at hp2; cases hp2
    refine v1 (rd_of_own o2) ?_
    refine (cq_Ahead_spec m2.cells x (par x)).mono ?_
    rintro _ H4 ⟨rfl, c4, e4⟩
    have m4 := m2.cellsTo c4 e4 rfl
    have e14 := e12.trans (e4.mono fun z _ h => hC z h)
    rw [ahead_lt (w := w') (a := x) (b := par x) (by rw [hw]; exact hpx0) (by rw [hw]; omega)]
    cases hlt : ltW w' x (par x)
    case' false =>
      refine vs ?_
      obtain ⟨H3, eH⟩ : ∃ H3, H3 = H4 := ⟨_, rfl⟩
      rw [← eH] at m4 e14 ⊢
      obtain ⟨N3, P3, L3, ch3, par3, A3, m3, f3, p3, e3⟩ : ∃ N' P' L' ch' par' A', FibM H3 B C w' N' P' L' tops ∧ FbW (hmW w') (ltW w') (nxF N') ch' par' (rowC rings g (T :: A')) [] ∧ PcG (pcF L') ch' par' ∧ Ext S H H3 := ⟨N, P, L, ch, par, A, m4, hf' (.inr ((ls'.tot (par x) x hpx).resolve_right (by rw [hlt]; simp))), l.pc, e14⟩
    case' true =>
      refine vs ?_
      refine (fib_loosen_spec m4 ls (x := x) (g := g) (t := T) (A := A) (by rw [hw]; exact l.f) l.pc (by rw [hw]; exact hg.symm) (by omega) hgl hr hT.symm).mono ?_
      rintro _ H3 ⟨N3, P3, L3, ch3, par3, A3, m3, f3', p3, u3, _, e5⟩
      have e3 := e14.trans (e5.mono fun z _ h => by
        rcases h with h | h | h
        · exact h ▸ tb_
        · exact h ▸ tb2
        · exact h ▸ tb3)
      have f3 : FbW (hmW w') (ltW w') (nxF N3) ch3 par3 (rowC rings g (T :: A3)) [] := by
        refine f3'.other fun z c hc h1 h2 h3 => ?_
        rw [hw] at h1 h2
        have hcx : c ≠ x := fun e => by
          obtain ⟨d1, d2, _⟩ := f3'.pr.dn z c hc
          rw [e, u3] at d1
          exact d2 d1.symm
        by_cases hz : z = x
        · rw [hz] at h3 ⊢
          exact ex c h2 hcx h3
        · rw [el _ _ (by omega) h2 hz hcx]; exact h3
      refine vs ?_
  all_goals
    have hr3 : rowC rings g (T :: A3) g = T :: A3 := by unfold rowC; rw [if_pos rfl]
    obtain ⟨cc, lt3, o3, q3, hc1, hc2, hc3⟩ := m3.topB
    have q4 := m3.topGet q3 (topF_at (tops := tops) (h := g) (by omega) hgl)
    rw [← hT] at q4
    refine v1 (rd_of_own o3) ?_
    refine ⟨⟨by omega, by omega⟩, ?_⟩
    refine v4 (rd_of_own q3) Nat.zero_add Nat.mul_one q4 ?_
    have hother : ∀ g2 z, g2 ≠ g → 0 < g2 → hmW w' z = g2 → topF tops g2 ≠ -1 ∧ (z ≠ topF tops g2 → ltW w' (topF tops g2) z = true) := fun g2 z hne hg2 hz => by
      rw [hw] at hz
      obtain ⟨h1, h2⟩ := l.ls g2 z hg2 hz
      refine ⟨h1, fun hzt => ?_⟩
      have h5 : hmW w (topF tops g2) = g2 := by
        have hm : topF tops g2 ∈ rings g2 := by
          have := l.tp g2
          rw [this] at h1 ⊢
          exact headD_mem h1
        exact (l.f.rm g2 _ hm).1
      rw [el _ _ (by omega) (by omega) (fun e => by rw [e] at h5; omega) (fun e => by rw [e] at hz; omega)]
      exact h2 hzt
    have htp : ∀ g2, topF tops g2 = (rowC rings g (T :: A3) g2).headD (-1) := fun g2 => by
      unfold rowC
      split
      · rename_i e; rw [e, ← hT]; rfl
      · exact l.tp g2
    refine Both.dec (fun h5 => ?_) (fun h5 => ?_)
    · refine vs ?_
      refine .inr ⟨hcan, rfl, y, hy, ?_⟩
      rw [hw']
      refine NxP.same ⟨B, C, N3, P3, L3, tops, ch3, par3, _, rfl, m3, ⟨f3, p3, htp, fun g2 z hg2 hz => ?_, by rw [l.tl, hhl]⟩, hS⟩ e3
      by_cases h6 : g2 = g
      · rw [h6, ← hT]
        refine ⟨ht1, fun hzt => ?_⟩
        rw [hw, h6] at hz
        have h7 := (ht2' z hz).2 hzt
        rw [h5] at h7 hzt ⊢
        exact ex z (by omega) hzt h7
      · exact hother g2 z h6 hg2 hz
    refine v1 (rd_of_own o3) ?_
    refine ⟨⟨by omega, by omega⟩, ?_⟩
    refine v4 (rd_of_own q3) Nat.zero_add Nat.mul_one q4 ?_
    refine (cq_Ahead_spec m3.cells x T).mono ?_
    rintro _ H6 ⟨rfl, c6, e6⟩
    have m6 := m3.cellsTo c6 e6 rfl
    have e16 := e3.trans (e6.mono fun z _ h => hC z h)
    rw [ahead_lt (w := w') (a := x) (b := T) (by rw [hw]; exact hpx0) (by rw [hw]; omega)]
    cases hlt2 : ltW w' x T
    · refine vs ?_
      refine .inr ⟨hcan, rfl, y, hy, ?_⟩
      rw [hw']
      refine NxP.same ⟨B, C, N3, P3, L3, tops, ch3, par3, _, rfl, m6, ⟨f3, p3, htp, fun g2 z hg2 hz => ?_, by rw [l.tl, hhl]⟩, hS⟩ e16
      by_cases h6 : g2 = g
      · rw [h6, ← hT]
        refine ⟨ht1, fun hzt => ?_⟩
        rw [hw, h6] at hz
        by_cases h8 : z = x
        · rw [h8]; exact (ls'.tot T x h5).resolve_right (by rw [hlt2]; simp)
        · rw [el _ _ (by omega) (by omega) h5 h8]
          exact (ht2' z hz).2 hzt
      · exact hother g2 z h6 hg2 hz
    · obtain ⟨cc, lt6, o6, q6, hc1, hc2, hc3⟩ := m6.topB
      refine v1 (rd_of_own o6) ?_
      refine ⟨⟨by omega, by omega⟩, ?_⟩
      refine v3 q6 Nat.zero_add Nat.mul_one ?_
      refine ⟨by omega, ?_⟩
      obtain ⟨m7, e7⟩ := m6.topTo q6 g.toNat x
      refine vs ?_
      have hxp : par3 x = -1 := by
        apply Classical.byContradiction
        intro hp
        obtain ⟨_, d2, d3, d4, d5⟩ := f3.pr.dn _ _ (f3.pr.up x _ rfl hp)
        rw [hw] at d3 d4
        by_cases e : par3 x = T
        · rw [e] at d5
          rw [ls'.asym d5] at hlt2; cases hlt2
        · have h9 := (ht2' (par3 x) (by omega)).2 e
          have hpx2 : par3 x ≠ x := fun e => by rw [e, ls'.irr] at d5; cases d5
          rw [← el _ _ (by omega) (by omega) h5 hpx2] at h9
          rw [ls'.asym (ls'.tr _ _ _ h9 d5)] at hlt2; cases hlt2
      have hxm : x ∈ rowC rings g (T :: A3) g := by
        rcases f3.rts x (by rw [hw]; exact hpx0) hxp with h | h
        · rw [hw, ← hg] at h; exact h
        · cases h
      obtain ⟨A7, _, f7⟩ := f3.from_ hxm
      rw [rowC_rowC] at f7
      refine .inr ⟨hcan, rfl, y, hy, ?_⟩
      rw [hw']
      refine NxP.same ⟨B, C, N3, P3, L3, _, ch3, par3, _, rfl, m7, ⟨f7, p3, fun g2 => ?_, fun g2 z hg2 hz => ?_, by rw [List.length_set, l.tl, hhl]⟩, hS⟩ (e16.trans (e7.mono fun z _ h => h ▸ tb4))
      · rw [topF_set (by omega) hgl]
        unfold setT rowC
        split
        · rfl
        · exact l.tp g2
      · rw [topF_set (by omega) hgl]
        unfold setT
        by_cases h6 : g2 = g
        · rw [if_pos h6]
          refine ⟨by omega, fun hzt => ?_⟩
          rw [hw, h6] at hz
          by_cases h8 : z = T
          · rw [h8]; exact hlt2
          · have h9 := (ht2' z hz).2 h8
            rw [← el _ _ (by omega) (by omega) h5 hzt] at h9
            exact ls'.tr _ _ _ hlt2 h9
        · rw [if_neg h6]
          exact hother g2 z h6 hg2 hz
theorem padZ_pc (k : Nat) : padZ [Value.int .i64 0, Value.int .i64 0, Value.int .i64 0, Value.bool false] k = flatPc (List.replicate k ⟨0, 0, 0, false⟩) := by
  unfold padZ flatPc
  induction k with
  | zero => rfl
  | succ k ih => rw [List.replicate_succ, List.replicate_succ, List.flatten_cons, List.flatMap_cons, ih]; rfl
set_option maxRecDepth 100000 in
set_option maxHeartbeats 1000000 in
theorem fib_New_spec (cap : Int) (H : Hp) : CallH Tryz.prog n_fibonacci_New [i64 cap] H fun v H' => Post (
    Fresh H H' ∧ ((¬ (0 ≤ cap ∧ cap ≤ 65536) ∧ v = .tuple [.pointer none, i64 31].toArray) ∨
      ((0 ≤ cap ∧ cap ≤ 65536) ∧ ∃ n S, v = .tuple [ptr n, i64 0].toArray ∧ FibAt n H' S (nw0 cap) ∧ ∀ x, S x → H.size ≤ x))) := by
  refine ccT d_fibonacci_New ⟨rfl, ?_⟩
  refine v1 s_fibonacci_New.eq_1 ?_
  refine (cq_New_spec cap H).mono ?_
  rintro _ H1 ⟨f1, ⟨hb, rfl⟩ | ⟨hb, c, C, rfl, c1, hC⟩⟩
  · refine vs ?_
    exact ⟨f1, .inl ⟨hb, rfl⟩⟩
  refine vs ?_
  refine (ring_New_spec H1 hb).mono ?_
  rintro _ H2 ⟨r, nb, pb, N, P, rfl, r2, hN, hid, hinv, f2, hr, hnb, hpb⟩
  have c2 := c1.fresh f2
  refine v1 decide_true ?_
  refine ⟨⟨by omega, by omega, by omega, by omega⟩, ?_⟩
  refine vs ?_
  rw [padZ_pc]
  have hcs := c1.slt
  have z1 := f1.size
  have z2 := f2.size
  have hrs : r < H2.size ∧ nb < H2.size ∧ pb < H2.size := ⟨own_lt r2.own, own_lt r2.nxt, own_lt r2.prv⟩
  obtain ⟨rn1, rn2, rn3⟩ := r2.ne
  have f3 : Fresh H2 (((H2.new 273 (flatPc (List.replicate cap.toNat ⟨0, 0, 0, false⟩))).new 3 [Value.int .i64 (-1)]).new 271 [ptr c, ptr r, .slice (some ⟨H2.size, 0, none⟩) cap.toNat cap.toNat, .slice (some ⟨H2.size + 1, 0, none⟩) 1 1]) := (((Ext.refl _ _).new _ _).new _ _).new _ _
  have e1 : Ext (fun _ => False) (H2.new 273 (flatPc (List.replicate cap.toNat ⟨0, 0, 0, false⟩))) (((H2.new 273 (flatPc (List.replicate cap.toNat ⟨0, 0, 0, false⟩))).new 3 [Value.int .i64 (-1)]).new 271 [ptr c, ptr r, .slice (some ⟨H2.size, 0, none⟩) cap.toNat cap.toNat, .slice (some ⟨H2.size + 1, 0, none⟩) 1 1]) := ((Ext.refl _ _).new _ _).new _ _
  have e2 : Ext (fun _ => False) ((H2.new 273 (flatPc (List.replicate cap.toNat ⟨0, 0, 0, false⟩))).new 3 [Value.int .i64 (-1)]) (((H2.new 273 (flatPc (List.replicate cap.toNat ⟨0, 0, 0, false⟩))).new 3 [Value.int .i64 (-1)]).new 271 [ptr c, ptr r, .slice (some ⟨H2.size, 0, none⟩) cap.toNat cap.toNat, .slice (some ⟨H2.size + 1, 0, none⟩) 1 1]) := (Ext.refl _ _).new _ _
  obtain ⟨B, hB⟩ : ∃ B : FB, B = ⟨H2.size + 1 + 1, c, r, nb, pb, H2.size, H2.size + 1⟩ := ⟨_, rfl⟩
  have m0 : FibM (((H2.new 273 (flatPc (List.replicate cap.toNat ⟨0, 0, 0, false⟩))).new 3 [Value.int .i64 (-1)]).new 271 [ptr c, ptr r, .slice (some ⟨H2.size, 0, none⟩) cap.toNat cap.toNat, .slice (some ⟨H2.size + 1, 0, none⟩) 1 1]) B C (nw0 cap) N P (List.replicate cap.toNat ⟨0, 0, 0, false⟩) [-1] := by
    subst hB
    refine ⟨⟨.slice (some ⟨H2.size + 1, 0, none⟩) 1 1, ?_, ?_⟩, c2.fresh f3, r2.ext f3 (fun h => h) (fun h => h) (fun h => h), hinv, ?_, ?_, ?_, ?_⟩
    · rw [List.length_replicate]
      exact own_new_eq (by simp only [size_new])
    · exact (Sl.lit_at (size := 1) (n := 1) (xs := [i64 (-1)]) rfl (by simp only [size_new])).ext e2 (fun _ _ h => h)
    · exact e1.own (own_new _ _ _) (fun h => h)
    · simp [nw0, hN]
    · refine ⟨⟨?_, ?_, ?_, ?_, ?_⟩, ⟨?_, ?_, ?_, ?_⟩, ⟨?_, ?_, ?_⟩⟩ <;> simp only <;> omega
    · refine ⟨fun h => ?_, fun h => ?_, fun h => ?_, fun h => ?_, fun h => ?_, fun h => ?_⟩ <;> (have h2 := hcs _ h; first | omega | (simp only at h2; omega))
  have hBn : B.n = H2.size + 1 + 1 := by rw [hB]
  have hBs : ∀ z, B.S C z → H1.size ≤ z ∨ C z := fun z hz => by
    rcases hz with hz | rfl | rfl | rfl | rfl | rfl | rfl
    · exact .inr hz
    all_goals rw [hB]; left; first | omega | (simp only; omega)
  have hBt : B.tb = H2.size := by rw [hB]
  have ft := (f1.trans f2).trans f3
  generalize ((H2.new 273 (flatPc (List.replicate cap.toNat ⟨0, 0, 0, false⟩))).new 3 [Value.int .i64 (-1)]).new 271 [ptr c, ptr r, .slice (some ⟨H2.size, 0, none⟩) cap.toNat cap.toNat, .slice (some ⟨H2.size + 1, 0, none⟩) 1 1] = H3 at *
  have hcl : (nw0 cap).cs.length = cap.toNat := by simp [nw0]
  rw [← hBn]
  refine LoopV.intro (fun m env H' => ∃ (j : Nat) (L' : List Pc), m = cap.toNat - j ∧ j ≤ cap.toNat ∧ Ext (fun z => z = B.tb) H3 H' ∧ FibM H' B C (nw0 cap) N P L' [-1] ∧ (∀ z : Int, 0 ≤ z → z < j → pcF L' z = noPc) ∧
    env = [(5, i64 0), (7, ptr B.n), (33, i64 (cap.toNat : Nat)), (34, i64 j)]) cap.toNat ⟨0, _, by omega, by omega, Ext.refl _ _, m0, fun z h0 h1 => by omega, rfl⟩ ?_
  rintro m env H4 ⟨j, L4, rfl, hj, e4, m4, g4, rfl⟩
  obtain ⟨cc, lt4, o4, _⟩ := m4.topB
  have hl4 := m4.len
  refine vs ?_
  refine Both.dec (fun hlt => ?_) (fun hlt => ?_) <;> refine vs ?_
  · refine InvV.intro (fun H' => H'.own B.n = some [ptr B.c, ptr B.r, .slice (some ⟨B.tb, 0, none⟩) L4.length L4.length, .slice (some ⟨B.tp, 0, none⟩) [(-1 : Int)].length cc]) o4 ?_
    refine vs ?_
    refine StbV.intro (.slice (some ⟨B.tb, 0, none⟩) L4.length L4.length) (fun H' hI => by refine v1 (rd_of_own hI) ?_; trivial) ?_
    refine vs ?_
    refine (fib_fresh_spec H4).mono ?_
    rintro _ H5 ⟨rfl, e5⟩
    have o5 := e5.own o4 (fun h => h)
    refine And.intro o5 ?_
    have m5 := m4.fresh e5
    refine vs ?_
    refine ⟨⟨by omega, by omega⟩, ?_⟩
    obtain ⟨b0, _⟩ := m5.rd (x := (j : Int)) (by omega)
    obtain ⟨L6, k6, m6, e6⟩ := m5.setA (x := (j : Int)) (by omega) noPc
    refine v2 m5.places Nat.zero_add ?_
    refine ⟨by omega, ?_⟩
    rw [show splice (flatPc L4) ((j : Int).toNat * 4) (vcells (Value.agg #[i64 (-1), i64 (-1), i64 0, Value.bool false])) = splice (flatPc L4) ((j : Int).toNat * 4) [i64 noPc.u, i64 noPc.k, i64 noPc.d, .bool noPc.m] from rfl]
    have hn1 := m5.dis.1.2.2.2.1
    generalize H5.wr B.tb (splice (flatPc L4) ((j : Int).toNat * 4) [i64 noPc.u, i64 noPc.k, i64 noPc.d, .bool noPc.m]) = H6 at *
    refine vs ?_
    refine And.intro (e6.own o5 hn1) ?_
    refine vs ?_
    refine ⟨cap.toNat - (j + 1), by omega, j + 1, L6, rfl, by omega, (e4.trans (e5.mono fun _ _ h => h.elim)).trans e6, m6, fun z h0 h1 => ?_, ?_⟩
    · rw [k6]
      unfold setP
      split
      · rfl
      · exact g4 z h0 (by omega)
    · rw [wrap64 (n := (j : Int) + 1) (by omega) (by omega)]
      rfl
  · obtain rfl : j = cap.toNat := by omega
    have hpc : ∀ z, pcF L4 z = noPc := fun z => by
      by_cases hz : 0 ≤ z ∧ z < (cap.toNat : Int)
      · exact g4 z hz.1 hz.2
      · unfold pcF
        split
        · rw [List.getElem?_eq_none (by omega)]; rfl
        · rfl
    refine ⟨ft.then e4 (fun z hz => by omega), .inr ⟨hb, B.n, B.S C, rfl, ⟨B, C, N, P, L4, [-1], fun _ => [], fun _ => -1, fun _ => [], rfl, m4, ⟨⟨⟨rfl, fun x c hc => absurd hc (by simp), fun c x h hx => absurd (Eq.symm h) hx, fun x => List.nodup_nil⟩,
      fun x => trivial, fun h => trivial, fun h => List.nodup_nil, fun h c hc => absurd hc (by simp), List.nodup_nil, fun c hc => absurd hc (by simp), fun c hc => absurd hc (hmW_none cap c), fun c _ => hid c⟩, fun x => by rw [hpc]; exact ⟨rfl, rfl, rfl⟩,
      fun g => topF_none g, fun g y hg hy => absurd (show 0 < hmW (nw0 cap) y by omega) (hmW_none cap y), rfl⟩, fun z => Iff.rfl⟩, fun z hz => ?_⟩⟩
    rcases hBs z hz with h | h
    · omega
    · exact hC z h
theorem fib_nest (n : Nat) : NestP (.iface 206 (ptr n)) (FibAt n) where
  slt h := h.slt
  ext h e hd := h.ext e hd
  cells := by
    rintro H S w ⟨B, C, N, P, L, tops, ch, par, rings, rfl, m, l, hS⟩
    exact ⟨B.c, C, m.cells⟩
  has := by
    rintro H S w g ⟨B, C, N, P, L, tops, ch, par, rings, rfl, m, l, hS⟩
    obtain ⟨tv, ho, _⟩ := m.own
    exact ⟨_, _, n_cells_Cells_Has, ptr B.c, rfl, methR1 (off := 0) (by kernel_rfl) (rd_of_own ho) rfl, (cq_Has_spec m.cells g).mono fun v H' hp => hp⟩
  make := by
    intro H S w h
    exact ⟨_, _, n_fibonacci_Nest_Make, ptr n, rfl, methR0 (by kernel_rfl), (fib_Make_spec h).mono fun v H' hp => hp⟩
  insert := by
    intro H S w g x k s h
    exact ⟨_, _, n_fibonacci_Nest_Insert, ptr n, rfl, methR0 (by kernel_rfl), (fib_Insert_spec h g x k s).mono fun v H' hp => hp⟩
  min := by
    intro H S w g h
    refine ⟨_, _, n_fibonacci_Nest_Min, ptr n, rfl, methR0 (by kernel_rfl), (fib_Min_spec h g).mono ?_⟩
    rintro v H' ⟨⟨h1, rfl⟩ | ⟨x, h1, rfl⟩, rfl⟩
    · exact .inl ⟨h1, rfl, NxP.same h (Ext.refl _ _)⟩
    · exact .inr ⟨x, h1, rfl, NxP.same h (Ext.refl _ _)⟩
  extract := by
    intro H S w g h
    exact ⟨_, _, n_fibonacci_Nest_Extract, ptr n, rfl, methR0 (by kernel_rfl), (fib_Extract_spec h g).mono fun v H' hp => hp⟩
  decrease := by
    intro H S w x k s h
    exact ⟨_, _, n_fibonacci_Nest_Decrease, ptr n, rfl, methR0 (by kernel_rfl), (fib_Decrease_spec h x k s).mono fun v H' hp => hp⟩
  entry := by
    rintro H S w x ⟨B, C, N, P, L, tops, ch, par, rings, rfl, m, l, hS⟩
    obtain ⟨tv, ho, _⟩ := m.own
    refine ⟨_, _, n_cells_Cells_Entry, ptr B.c, rfl, methR1 (off := 0) (by kernel_rfl) (rd_of_own ho) rfl, (cq_Entry_spec m.cells x).mono ?_⟩
    rintro v H' ⟨c1, f, hv⟩
    exact ⟨⟨B, C, N, P, L, tops, ch, par, rings, rfl, m.fresh f, l, hS⟩, f, hv⟩
theorem made_dary_spec (n : Nat) (H : Hp) : CallH Tryz.prog n_pq_made_dary_Nest [ptr n, i64 0] H fun v H' => Post (v = .tuple [.iface 194 (ptr n), i64 0].toArray ∧ H' = H) := by
  refine ccT d_pq_made_dary_Nest ⟨rfl, ?_⟩
  refine v2 s_pq_made_dary_Nest.eq_1 decide_true ?_
  exact ⟨rfl, rfl⟩
theorem made_fibonacci_spec (n : Nat) (H : Hp) : CallH Tryz.prog n_pq_made_fibonacci_Nest [ptr n, i64 0] H fun v H' => Post (v = .tuple [.iface 206 (ptr n), i64 0].toArray ∧ H' = H) := by
  refine ccT d_pq_made_fibonacci_Nest ⟨rfl, ?_⟩
  refine v2 s_pq_made_fibonacci_Nest.eq_1 decide_true ?_
  exact ⟨rfl, rfl⟩
def OpenN (kd dd : Int) : Prop := ∀ (cap : Int), (0 ≤ cap ∧ cap ≤ 65536) → ∀ H : Hp, CallH Tryz.prog n_pq_open [cfgV kd dd, i64 cap] H fun v H' => Post (∃ t vv I Sn, v = .tuple [.iface t vv, i64 0].toArray ∧ NestP (.iface t vv) I ∧ I H' Sn (nw0 cap) ∧ Fresh H H' ∧ ∀ z, Sn z → H.size ≤ z)
theorem open_one : OpenN 1 0 := by
  intro cap hc H
  have hf : FineK 1 0 := by decide
  refine ccT d_pq_open ⟨rfl, ?_⟩
  refine v1 s_pq_open.eq_1 ?_
  have f0 : Fresh H (H.new 23 [i64 1, i64 0]) := (Ext.refl _ _).new _ _
  have o0 : (H.new 23 [i64 1, i64 0]).own H.size = some [i64 1, i64 0] := own_new _ _ _
  have z0 : (H.new 23 [i64 1, i64 0]).size = H.size + 1 := size_new _ _ _
  generalize H.new 23 [i64 1, i64 0] = H0 at *
  refine Both.of_true (by decide) ?_
  refine v1 (rd_of_own o0) ?_
  refine Both.of_true (by decide) ?_
  refine v1 (rd_of_own o0) ?_
  refine (gauge_Arity1_spec hf (by decide) H0).mono ?_
  rintro _ H1 ⟨rfl, f1⟩
  refine vs ?_
  refine (dary_New_spec cap _ H1).mono ?_
  rintro _ H2 ⟨f2, ⟨hb, rfl⟩ | ⟨_, hd, rfl⟩ | ⟨_, hd, n, Sn, rfl, h2, hS2⟩⟩
  · exact absurd hc hb
  · refine absurd ?_ hd
    obtain ⟨_, h | h⟩ := hf
    · first | exact ⟨h.2.1, h.2.2⟩ | exact absurd h.1 (by decide)
    · first | exact ⟨by decide, by decide⟩ | exact absurd rfl h.1
  · refine vs ?_
    refine (made_dary_spec n H2).mono ?_
    rintro _ _ ⟨rfl, rfl⟩
    have z1 := f1.size
    refine vs ?_
    exact ⟨_, _, _, Sn, rfl, dary_nestP n _, ⟨0, h2⟩, (f0.trans f1).trans f2, fun z hz => by have := hS2 z hz; omega⟩
theorem open_five : OpenN 5 0 := by
  intro cap hc H
  have hf : FineK 5 0 := by decide
  refine ccT d_pq_open ⟨rfl, ?_⟩
  refine v1 s_pq_open.eq_1 ?_
  have f0 : Fresh H (H.new 23 [i64 5, i64 0]) := (Ext.refl _ _).new _ _
  have o0 : (H.new 23 [i64 5, i64 0]).own H.size = some [i64 5, i64 0] := own_new _ _ _
  have z0 : (H.new 23 [i64 5, i64 0]).size = H.size + 1 := size_new _ _ _
  generalize H.new 23 [i64 5, i64 0] = H0 at *
  refine Both.of_false (by decide) ?_
  refine vs ?_
  refine Both.of_false (by decide) ?_
  refine vs ?_
  refine Both.of_false (by decide) ?_
  refine vs ?_
  refine Both.of_false (by decide) ?_
  refine vs ?_
  refine Both.of_true (by decide) ?_
  refine vs ?_
  refine (fib_New_spec cap H0).mono ?_
  rintro _ H2 ⟨f2, ⟨hb, rfl⟩ | ⟨_, n, Sn, rfl, h2, hS2⟩⟩
  · exact absurd hc hb
  · refine vs ?_
    refine (made_fibonacci_spec n H2).mono ?_
    rintro _ _ ⟨rfl, rfl⟩
    refine vs ?_
    exact ⟨_, _, _, Sn, rfl, fib_nest n, h2, f0.trans f2, fun z hz => by have := hS2 z hz; omega⟩
def ar0 (cap : Int) (mo : Nat) : Ar := ⟨List.replicate cap.toNat (0, false), [], 0, 0, mo⟩
theorem pq_Open_spec {kd dd cap : Int} {mo : Nat} (hf : FineK kd dd) (hop : OpenN kd dd) (hc : 0 ≤ cap ∧ cap ≤ 65536) (hm : 0 < mo ∧ mo ≤ 4294967295) (H : Hp) : CallH Tryz.prog n_pq_Open [cfgV kd dd, i64 cap, .int .u32 (mo : Int)] H fun v H' => Post (∃ s S, v = .tuple [ptr s, i64 0].toArray ∧ StM H' s S (nw0 cap) (ar0 cap mo) 0 ∧ Fresh H H' ∧ ∀ z, S z → H.size ≤ z) := by
  refine ccT d_pq_Open ⟨rfl, ?_⟩
  refine v1 s_pq_Open.eq_1 ?_
  have f0 : Fresh H (H.new 23 [i64 kd, i64 dd]) := (Ext.refl _ _).new _ _
  have o0 : (H.new 23 [i64 kd, i64 dd]).own H.size = some [i64 kd, i64 dd] := own_new _ _ _
  have z0 : (H.new 23 [i64 kd, i64 dd]).size = H.size + 1 := size_new _ _ _
  generalize H.new 23 [i64 kd, i64 dd] = H0 at *
  refine (gauge_Chk_spec kd dd H0).mono ?_
  rintro _ H1 ⟨rfl, f1⟩
  rw [chk0 hf]
  have o1 := f1.own o0 (fun h => h)
  have z1 := f1.size
  refine vs ?_
  refine Both.dec (fun _ => ?_) (fun hh => absurd trivial hh)
  refine vs ?_
  refine (arena_New_spec H1 hc hm).mono ?_
  rintro _ H2 ⟨B, rfl, m2, f2, hB⟩
  have o2 := f2.own o1 (fun h => h)
  have z2 := f2.size
  refine vs ?_
  refine Both.dec (fun _ => ?_) (fun hh => absurd trivial hh)
  refine v1 (rd_of_own o2) ?_
  refine (hop _ hc H2).mono ?_
  rintro _ H3 ⟨t, vv, I, Sn, rfl, n, hi, f3, hSn⟩
  have o3 := f3.own o2 (fun h => h)
  have z3 := f3.size
  refine vs ?_
  refine Both.dec (fun _ => ?_) (fun hh => absurd trivial hh)
  refine v1 (rd_of_own o3) ?_
  have hsB := m2.slt
  have hsN := fun z hz => n.slt hi z hz
  have f4 : Fresh H3 (H3.new 161 [i64 kd, i64 dd, ptr B.a, .iface t vv, u64 0]) := (Ext.refl _ _).new _ _
  have b4 : (H3.new 161 [i64 kd, i64 dd, ptr B.a, .iface t vv, u64 0]).own H3.size = some [i64 kd, i64 dd, ptr B.a, .iface t vv, u64 0] := own_new _ _ _
  refine ⟨H3.size, fun z => Sn z ∨ B.S z ∨ z = H3.size, rfl, ⟨t, vv, I, Sn, B, kd, dd, n, n.ext hi f4 (fun _ _ h => h), (m2.ext f3 (fun _ _ h => h)).ext f4 (fun _ _ h => h), b4, fun z hz => ⟨fun h => ?_, ?_⟩, fun h => ?_, fun z => Iff.rfl, ⟨by simp [nw0, ar0], fun x => ?_⟩⟩, (((f0.trans f1).trans f2).trans f3).trans f4, fun z hz => ?_⟩
  · have := hsB z h
    have := hSn z hz
    omega
  · have := hsN z hz
    omega
  · have := hsB _ h
    omega
  · constructor
    · intro h
      exact absurd (hmW_inC.2 h) (hmW_none cap x)
    · rintro ⟨h0, h1⟩
      simp only [ar0, List.getElem?_replicate] at h1
      split at h1 <;> simp at h1
  · rcases hz with h | h | h
    · have := hSn z h; omega
    · have := hB z h; omega
    · omega
abbrev hndS : Shape := .s [(0, (none, .int)), (1, (none, .int))]
def HMap (H : Hp) (b : Nat) (L : List ((Int × Nat) × Value)) : Prop := ∃ es k, H.mp b = some (es, k) ∧ es.map (fun e => (e.key, e.val)) = L.map (fun p => (hnd p.1.1 p.1.2, p.2)) ∧ (L.map (·.1)).Nodup
theorem HMap.new (H : Hp) : HMap H.newm H.size [] := ⟨[], 0, mp_newm H, rfl, List.nodup_nil⟩
theorem HMap.ext {H H' : Hp} {b : Nat} {L : List ((Int × Nat) × Value)} {S : Nat → Prop} (h : HMap H b L) (e : Ext S H H') (hs : ¬ S b) : HMap H' b L := by
  obtain ⟨es, k, h1, h2⟩ := h
  exact ⟨es, k, e.mp h1 hs, h2⟩
theorem HMap.lt {H : Hp} {b : Nat} {L : List ((Int × Nat) × Value)} (h : HMap H b L) : b < H.size := by
  obtain ⟨es, k, h1, h2⟩ := h
  exact mp_lt h1
theorem eqV_hnd (a b : Int × Nat) : eqV hndS (hnd a.1 a.2) (hnd b.1 b.2) = some (decide (a = b)) := by
  obtain ⟨x, g⟩ := a
  obtain ⟨y, h⟩ := b
  simp only [eqV, eqVs, partL_none, List.getElem?_cons_zero, List.getElem?_cons_succ, simpleEq, if_pos rfl]
  by_cases e : x = y
  · by_cases e2 : g = h
    · simp [e, e2, simpleEq]
    · have : ¬ ((g : Int) = (h : Int)) := by omega
      simp [e, e2, this, simpleEq]
  · simp [e, simpleEq]
theorem findK_hnd (a : Int × Nat) : ∀ (es : List MapEntry) (L : List ((Int × Nat) × Value)), es.map (fun e => (e.key, e.val)) = L.map (fun p => (hnd p.1.1 p.1.2, p.2)) → (L.map (·.1)).Nodup → ∀ n : Nat,
    (a ∉ L.map (·.1) → findK hndS (hnd a.1 a.2) es n = some none) ∧ (∀ v, (a, v) ∈ L → ∃ j, findK hndS (hnd a.1 a.2) es n = some (some (j, v))) := by
  intro es
  induction es with
  | nil =>
    intro L hL _ n
    cases L with
    | nil => exact ⟨fun _ => rfl, fun v h => by cases h⟩
    | cons p L => simp at hL
  | cons e es ih =>
    intro L hL hd n
    cases L with
    | nil => simp at hL
    | cons p L =>
      rw [List.map_cons, List.map_cons] at hL
      injection hL with h1 h2
      injection h1 with h1 h3
      rw [List.map_cons, List.nodup_cons] at hd
      have hq : eqV hndS (hnd a.1 a.2) e.key = some (decide (a = p.1)) := by rw [h1]; exact eqV_hnd a p.1
      obtain ⟨i1, i2⟩ := ih L h2 hd.2 (n + 1)
      refine ⟨fun hn => ?_, fun v hv => ?_⟩
      · rw [List.map_cons, List.mem_cons, not_or] at hn
        rw [findK, hq, decide_eq_false hn.1]
        exact i1 hn.2
      · by_cases e2 : a = p.1
        · rw [findK, hq, decide_eq_true e2]
          rcases List.mem_cons.1 hv with h | h
          · refine ⟨n, ?_⟩
            simp only
            rw [h3, ← h]
          · exact absurd (List.mem_map.2 ⟨(a, v), h, e2⟩) hd.1
        · rw [findK, hq, decide_eq_false e2]
          rcases List.mem_cons.1 hv with h | h
          · exact absurd (by rw [← h]) e2
          · exact i2 v h
theorem keyOk_hnd (x : Int) (g : Nat) : keyOk hndS (hnd x g) = true := rfl
theorem HMap.look {H : Hp} {b : Nat} {L : List ((Int × Nat) × Value)} (h : HMap H b L) {a : Int × Nat} {v : Value} (hv : (a, v) ∈ L) {F : Option Value → Prop} (hF : F (some v)) : lookV H hndS (some b) (hnd a.1 a.2) F := by
  obtain ⟨es, k, h1, h2, h3⟩ := h
  unfold lookV
  simp only [h1, withO_some]
  obtain ⟨j, hj⟩ := (findK_hnd a es L h2 h3 0).2 v hv
  rw [hj]
  exact hF
theorem HMap.upd {H : Hp} {b : Nat} {L : List ((Int × Nat) × Value)} (h : HMap H b L) {a : Int × Nat} {v : Value} (hn : a ∉ L.map (·.1)) {F : Hp → Prop} (hk : ∀ H', HMap H' b (L ++ [(a, v)]) → Ext (fun x => x = b) H H' → F H') : updV H hndS b (hnd a.1 a.2) v F := by
  obtain ⟨es, k, h1, h2, h3⟩ := h
  unfold updV
  simp only [h1, withO_some]
  rw [(findK_hnd a es L h2 h3 0).1 hn]
  refine ⟨rfl, hk _ ⟨_, _, mp_wrm_same h1, by simp [putE, h2], ?_⟩ ((Ext.refl (fun x => x = b) H).wrm (fun _ => rfl) _ _)⟩
  rw [List.map_append, List.map_singleton, List.nodup_append]
  refine ⟨h3, by simp, fun x hx c hc e => ?_⟩
  rw [List.mem_singleton] at hc
  have e2 : x = a := e.trans hc; rw [e2] at hx; exact hn hx
end Go.Proofs.YtjlnnljohemifaaGreat
