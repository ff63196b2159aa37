/-
  Texts put behind each other by a program: HufW, HufL, HufM, SumsP, SumV, CloneI, CfI, Same.
-/
import Derived.Test.YtjlnnljohemifaaGreatK17
import Derived.Test.YtjlnnljohemifaaGreatK19
import Derived.Test.YtjlnnljohemifaaGreatK20
import Derived.Test.YtjlnnljohemifaaGreatK21
set_option linter.unusedVariables false
set_option linter.unusedSimpArgs false
namespace Go.Proofs.YtjlnnljohemifaaGreat
open Go Go.Vc
structure FineW (ws : List Int) : Prop where
  n1 : 1 ≤ ws.length
  n2 : ws.length ≤ 4096
  pos : ∀ x ∈ ws, 1 ≤ x
  sum : ws.sum ≤ 9223372036854775807
theorem HufI.sum {ws : List Int} {k : Nat} {s : HSt} (h : HufI ws k s) : ∀ p ∈ s.pool, ∀ q ∈ s.pool, p.2 ≠ q.2 → p.1 + q.1 ≤ sumI ws.length (fun i => ws.getD i 0) ∨ ∃ i, i < ws.length ∧ ws.getD i 0 < 0 := by
  intro p hp q hq hne
  by_cases hneg : ∃ i, i < ws.length ∧ ws.getD i 0 < 0
  · exact .inr hneg
  · refine .inl ?_
    rw [← h.wt p hp, ← h.wt q hq, ← sumI_add]
    have : ∀ n, n ≤ ws.length → sumI n (fun i => (if s.R i = p.2 then ws.getD i 0 else 0) + (if s.R i = q.2 then ws.getD i 0 else 0)) ≤ sumI n (fun i => ws.getD i 0) := by
      intro n hn
      induction n with
      | zero => exact Int.le_refl _
      | succ n ih =>
        have := ih (by omega)
        have h0 : 0 ≤ ws.getD n 0 := by
          apply Classical.byContradiction
          intro hc
          exact hneg ⟨n, by omega, by omega⟩
        rw [sumI_succ, sumI_succ]
        split <;> split <;> omega
    exact this _ (Nat.le_refl _)
theorem sumI_list (ws : List Int) : sumI ws.length (fun i => ws.getD i 0) = ws.sum := by
  unfold sumI
  rw [map_range_getD]
theorem jn_start {H : Hp} {s : Nat} {S : Nat → Prop} {w : Nw} {A : Ar} {q : Int} (st : StM H s S w A q) (T1 T2 : TypeId) :
    JnM (((H.new T1 [ptr s]).newm.new T2 [Value.map none]).wr (Array.size H + 1 + 1) [Value.map (some (Array.size H + 1))]) H.size (H.size + 1 + 1) (H.size + 1) s S w A q [] ∧ Fresh H (((H.new T1 [ptr s]).newm.new T2 [Value.map none]).wr (Array.size H + 1 + 1) [Value.map (some (Array.size H + 1))]) := by
  have hslt := st.slt
  have f1 : Fresh H (H.new T1 [ptr s]) := (Ext.refl _ _).new _ _
  have b1 : (H.new T1 [ptr s]).own H.size = some [ptr s] := own_new _ _ _
  have z1 : (H.new T1 [ptr s]).size = H.size + 1 := size_new _ _ _
  generalize H.new T1 [ptr s] = H1 at *
  have f2 : Fresh H1 H1.newm := (Ext.refl _ _).newm
  have b2 := HMap.new H1
  have z2 : H1.newm.size = H1.size + 1 := size_newm _
  generalize H1.newm = H2 at *
  have f3 : Fresh H2 (H2.new T2 [Value.map none]) := (Ext.refl _ _).new _ _
  have b3 : (H2.new T2 [Value.map none]).own H2.size = some [Value.map none] := own_new _ _ _
  have z3 : (H2.new T2 [Value.map none]).size = H2.size + 1 := size_new _ _ _
  generalize H2.new T2 [Value.map none] = H3 at *
  rw [z2, z1] at b3
  rw [z1] at b2
  have e4 : Ext (fun x => x = H.size + 1 + 1) H3 (H3.wr (H.size + 1 + 1) [Value.map (some (H.size + 1))]) := (Ext.refl (fun x => x = H.size + 1 + 1) _).wr (fun _ => rfl) _
  have b4 := own_wr_same (l := [Value.map (some (H.size + 1))]) b3
  have hf : Fresh H (H3.wr (H.size + 1 + 1) [Value.map (some (H.size + 1))]) := ((f1.trans f2).trans f3).then e4 (fun z hz => by omega)
  have hn : ∀ k, ¬ S (H.size + k) := fun k h => by have := hslt _ h; omega
  refine ⟨⟨st.ext hf (fun _ _ h => h), e4.own (f3.own (f2.own b1 (fun h => h)) (fun h => h)) (by omega), b4, (b2.ext f3 (fun h => h)).ext e4 (by omega), ⟨hn 0, hn 2, hn 1⟩, by omega, by omega⟩, hf⟩
theorem map_set {N : Nat} (f : Nat → Value) {i : Nat} (hi : i < N) (v : Value) : ((List.range N).map f).set i v = (List.range N).map fun j => if j = i then v else f j := by
  apply List.ext_getElem?
  intro j
  rw [List.getElem?_set, List.getElem?_map, List.getElem?_map]
  by_cases e : i = j
  · subst e
    rw [List.getElem?_range hi]
    simp [hi]
  · by_cases hj : j < N
    · rw [List.getElem?_range hj, if_neg e]
      simp [Ne.symm e]
    · rw [List.getElem?_eq_none (by simp; omega), if_neg e]
      rfl
def poolI (ws : List Int) (i : Nat) : List (Int × Nat) := (List.range i).map fun j => (ws.getD j 0, j)
theorem poolI_succ {ws : List Int} {i : Nat} {x : Int} (hx : ws[i]? = some x) : poolI ws i ++ [(x, i)] = poolI ws (i + 1) := by
  unfold poolI
  rw [List.range_succ, List.map_append, List.map_singleton, List.getD_eq_getElem?_getD, hx]
  rfl
theorem poolI_len (ws : List Int) (i : Nat) : (poolI ws i).length = i := by simp [poolI]
set_option maxRecDepth 100000 in
set_option maxHeartbeats 4000000 in
theorem lengths_joined_spec {H : Hp} {s : Nat} {S : Nat → Prop} {ws : List Int} {a : Option Addr} {c : Nat} (st : StM H s S (nw0 (ws.length : Int)) (ar0 (ws.length : Int) 4294967295) 0) (hr : ∀ H', Ext S H H' → RdS H' 1 (.slice a ws.length c) ws.length (ws.map i64)) (hf : FineW ws) (h2 : 2 ≤ ws.length) :
    CallH Tryz.prog n_lengths_joined [ptr s, .slice a ws.length c] H fun v H' => Post (∃ b, v = .slice (some ⟨b, 0, none⟩) (2 * ws.length - 1) (2 * ws.length - 1) ∧ H.size ≤ b ∧ Sl H' 1 v (2 * ws.length - 1) ((List.range (2 * ws.length - 1)).map fun i => i64 ((hend ws).up i : Int)) (some b) ∧ Ext S H H') := by
  have hn2 := hf.n2
  refine ccT d_lengths_joined ⟨rfl, ?_⟩
  refine v1 s_lengths_joined.eq_1 ?_
  obtain ⟨m0, f0⟩ := jn_start st 81 107
  generalize ((H.new 81 [ptr s]).newm.new 107 [Value.map none]).wr (H.size + 1 + 1) [Value.map (some (H.size + 1))] = H0 at *
  refine (pq_NewHeap_spec m0.st (by simp [nw0])).mono ?_
  rintro _ H1 ⟨rfl, S1, st1, e1, hs1⟩
  have m1 := m0.to st1 e1 hs1
  have z0 := f0.size
  have hx1 : Ext S H H1 := (f0.mono fun _ _ h => h.elim).trans e1
  have hs1 : ∀ z, S1 z → S z ∨ H.size ≤ z := fun z hz => (hs1 z hz).imp_right fun h => by omega
  refine vs ?_
  refine LoopV.intro (fun mm env H' => ∃ (i : Nat) (S' : Nat → Prop) (w' : Nw) (A' : Ar) (L' : List ((Int × Nat) × Value)), mm = ws.length - i ∧ i ≤ ws.length ∧ JnM H' H.size (H.size + 1 + 1) (H.size + 1) s S' w' A' (i : Int) L' ∧ JnI ws.length w' A' L' (poolI ws i) i ∧ Ext S H H' ∧ (∀ z, S' z → S z ∨ H.size ≤ z) ∧
    env = [(1, .slice a ws.length c), (2, ptr H.size), (5, ptr (H.size + 1 + 1)), (6, .func (.func n_lengths_joined_1) #[] #[ptr H.size, ptr (H.size + 1 + 1)]), (22, .slice a ws.length c), (23, i64 ws.length), (24, i64 i)]) ws.length ⟨0, S1, _, _, [], by omega, by omega, m1, JnI.zero _, hx1, hs1, rfl⟩ ?_
  clear m1 st1 e1 hx1 hs1
  rintro mm env H1 ⟨i, S1, w1, A1, L1, rfl, hi, m1, j1, x1, hs1, rfl⟩
  refine vs ?_
  refine Both.dec (fun hlt => ?_) (fun hlt => ?_) <;> refine vs ?_
  · have hi2 : i < ws.length := by omega
    obtain ⟨x, hx⟩ : ∃ x, ws[i]? = some x := ⟨_, List.getElem?_eq_getElem hi2⟩
    obtain ⟨_, b, o, lb, rfl, hrd2, hcell⟩ := RdS.num (hr H1 x1) hx
    refine ⟨⟨by omega, by omega⟩, ?_⟩
    refine v4 hrd2 Int.toNat_natCast Nat.mul_one hcell ?_
    refine ⟨by kernel_rfl, ?_⟩
    refine CallH.mono (by simpa using lengths_put_spec m1 j1 (by rw [poolI_len]; exact hi2) (by omega) x) ?_
    rintro _ H2 ⟨rfl, S2, w2, A2, L2, m2, j2, e2, hs2⟩
    rw [poolI_succ hx] at j2
    refine vs ?_
    rw [wrap64 (n := (i : Int) + 1) (by omega) (by omega)]
    have z1 := x1.size
    refine ⟨ws.length - (i + 1), by omega, i + 1, S2, w2, A2, L2, rfl, by omega, m2, j2, ?_, fun z hz => ?_, rfl⟩
    · exact ⟨Nat.le_trans x1.size e2.size, fun z hz hn => by rw [e2.keep z (by omega) (fun h => by rcases h with h | h; exact (hs1 z h).elim hn (fun h => by omega); omega), x1.keep z hz hn]⟩
    · rcases hs2 z hz with h | h
      · exact hs1 z h
      · exact .inr (by omega)
  have hi2 : i = ws.length := by omega
  subst hi2
  clear hlt hi
  obtain ⟨N, hN⟩ : ∃ N : Nat, N = 2 * ws.length - 1 := ⟨_, rfl⟩
  rw [← hN]
  rw [wrap64 (n := 2 * (ws.length : Int)) (by omega) (by omega), show (2 * (ws.length : Int) - 1) = (N : Int) by omega, wrap64 (n := (N : Int)) (by omega) (by omega)]
  refine ⟨⟨by omega, by omega, by omega, by omega⟩, ?_⟩
  refine v1 Int.toNat_natCast ?_
  have fn : Fresh H1 (H1.new 3 (padZ [i64 0] N)) := (Ext.refl _ _).new _ _
  have zn : (H1.new 3 (padZ [i64 0] N)).size = H1.size + 1 := size_new _ _ _
  have sn : Sl (H1.new 3 (padZ [i64 0] N)) 1 (.slice (some ⟨H1.size, 0, none⟩) N N) N ((List.range N).map fun i => i64 ((hinit ws).up i : Int)) (some H1.size) := by
    rw [padZ_int, List.map_replicate, show ((List.range N).map fun i => i64 ((hinit ws).up i : Int)) = List.replicate N (i64 0) from ?_]
    · exact Sl.lit H1 _ 1 N _ (by simp)
    · apply List.ext_getElem?
      intro j
      rw [List.getElem?_map, List.getElem?_replicate]
      by_cases hj : j < N
      · rw [List.getElem?_range hj, if_pos hj]; rfl
      · rw [List.getElem?_eq_none (by simp; omega), if_neg hj]; rfl
  have hub := m1.lt
  have hub0 : H.size + 1 + 1 < H1.size := hub _ (by simp)
  have m2 := m1.ext fn (fun _ _ h => h)
  have x2 : Ext S H (H1.new 3 (padZ [i64 0] N)) := x1.trans (fn.mono fun z _ h => h.elim)
  have hnub : ¬ S1 H1.size := fun h => by have := hub _ (.inl h); omega
  generalize hubd : H1.size = ub at *
  generalize H1.new 3 (padZ [i64 0] N) = H2 at *
  refine LoopV.intro (fun mm env H' => ∃ (k : Nat) (S' : Nat → Prop) (w' : Nw) (A' : Ar) (L' : List ((Int × Nat) × Value)), mm = ws.length - 1 - k ∧ k + 1 ≤ ws.length ∧ JnM H' H.size (H.size + 1 + 1) (H.size + 1) s S' w' A' ((ws.length + k : Nat) : Int) L' ∧ JnI ws.length w' A' L' (hrun k (hinit ws)).pool (ws.length + k) ∧
    Sl H' 1 (.slice (some ⟨ub, 0, none⟩) N N) N ((List.range N).map fun i => i64 ((hrun k (hinit ws)).up i : Int)) (some ub) ∧ ¬ S' ub ∧ Ext S H H' ∧ (∀ z, S' z → S z ∨ H.size ≤ z) ∧
    env = [(2, ptr H.size), (5, ptr (H.size + 1 + 1)), (6, .func (.func n_lengths_joined_1) #[] #[ptr H.size, ptr (H.size + 1 + 1)]), (10, .slice (some ⟨ub, 0, none⟩) N N), (11, i64 (ws.length + k : Nat))]) (ws.length - 1) ⟨0, S1, w1, A1, L1, by omega, by omega, m2, j1, sn, hnub, x2, hs1, rfl⟩ ?_
  clear m1 j1 x1 hs1 m2 sn hnub x2 fn zn hub w1 A1 L1
  rintro mm env H3 ⟨k, S3, w3, A3, L3, rfl, hk, m3, j3, s3, hub3, x3, hs3, rfl⟩
  have hI := HufI.run ws k (by omega)
  have hIs : ∀ hh : k + 1 < ws.length, HufI ws (k + 1) (hrun (k + 1) (hinit ws)) := fun hh => HufI.run ws (k + 1) hh
  have hstep : hrun (k + 1) (hinit ws) = (hrun k (hinit ws)).step := rfl
  have hat := hI.at_
  have hlen := hI.len
  have hid := hI.ids
  have hsum := hI.sum
  have hpk := HSt.picks hI
  have hwt := hI.wt
  rw [hstep] at hIs
  generalize hT : hrun k (hinit ws) = t at *
  refine vs ?_
  refine Both.dec (fun hlt => ?_) (fun hlt => ?_) <;> refine vs ?_
  · have hk2 : k + 1 < ws.length := by omega
    obtain ⟨la, lb, hab, hbm, hperm⟩ := hpk hk2
    have hpl := hperm.length_eq
    simp only [List.length_cons] at hpl
    have hsz3 := m3.lt
    refine v1 (rd_of_own m3.o1) ?_
    refine (pq_ExtractMin_spec m3.st j3.hs).mono ?_
    rintro _ H4 (⟨h0, _⟩ | ⟨x, y, hx, hy, rfl, S4, st4, e4, hs4⟩)
    · exact absurd h0 (j3.ne0 (fun e => by rw [e] at hlen; simp at hlen; omega))
    obtain ⟨x0, xn, id, hyd, hl, hm⟩ := j3.first hx hy
    have hida := Lgt.eq hid hl la
    have j4 := j3.take (by omega) ⟨x0, xn⟩ (by rw [← hyd]; exact hy) hl hm
    rw [hida] at j4
    have m4 := m3.to st4 e4 hs4
    have hub4 : ¬ S4 ub := fun h => (hs4 _ h).elim hub3 (fun h => by have := s3.lt; omega)
    have s4 := s3.ext e4 (fun b hb => by injection hb with hb; rw [← hb]; exact hub3)
    have z4 := e4.size
    have y4 : Ext S H H4 := ⟨Nat.le_trans x3.size z4, fun z hz hn => by rw [e4.keep z (by have := x3.size; omega) (fun h => (hs3 z h).elim hn (fun h => by omega)), x3.keep z hz hn]⟩
    have hs4 : ∀ z, S4 z → S z ∨ H.size ≤ z := fun z hz => (hs4 z hz).elim (hs3 z) (fun h => .inr (by have := x3.size; omega))
    refine vs ?_
    obtain ⟨f5, b5, z5⟩ := zst H4 114 [Value.int .i64 0, Value.int .u32 0] [i64 x, Value.int .u32 ((A3.gen x : Nat) : Int)]
    generalize hB : H4.size = hb at *
    generalize (H4.new 114 [Value.int .i64 0, Value.int .u32 0]).wr hb [i64 x, Value.int .u32 ((A3.gen x : Nat) : Int)] = H5 at *
    have m5 := m4.ext f5 (fun _ _ h => h)
    have s5 := s4.ext f5 (fun _ _ h => h)
    refine v1 (rd_of_own m5.o1) ?_
    have hsz5 := m5.lt
    have hnb5 : ¬ S4 hb := fun h => by have := st4.slt _ h; omega
    refine (pq_ExtractMin_spec m5.st j4.hs).mono ?_
    have hw4 : (wo t.pool t.a).length + 1 = t.pool.length := by
      have := (wo_perm hid la.m).length_eq
      rw [List.length_cons] at this; omega
    rintro _ H6 (⟨h0, _⟩ | ⟨x', y', hx', hy', rfl, S6, st6, e6, hs6⟩)
    · exact absurd h0 (j4.ne0 (fun e => by rw [e] at hw4; simp at hw4; omega))
    obtain ⟨x0', xn', id', hyd', hl', hm'⟩ := j4.first hx' hy'
    have hida' := Lgt.eq (hid.wo _) hl' lb
    have j6 := j4.take (by omega) ⟨x0', xn'⟩ (by rw [← hyd']; exact hy') hl' hm'
    rw [hida'] at j6
    have m6 := m5.to st6 e6 hs6
    have hub6 : ¬ S6 ub := fun h => (hs6 _ h).elim hub4 (fun h => by have := s5.lt; omega)
    have s6 := s5.ext e6 (fun b hb => by injection hb with hb; rw [← hb]; exact hub4)
    have b6 := e6.own b5 hnb5
    have z6 := e6.size
    have hx3 := x3.size
    have y6 : Ext S H H6 := ⟨by omega, fun z hz hn => by rw [e6.keep z (by omega) (fun h => (hs4 z h).elim hn (fun h => by omega)), f5.keep z (by omega) (fun h => h), y4.keep z hz hn]⟩
    have hs6 : ∀ z, S6 z → S z ∨ H.size ≤ z := fun z hz => (hs6 z hz).elim (hs4 z) (fun h => .inr (by omega))
    refine vs ?_
    obtain ⟨f7, b7, z7⟩ := zst H6 114 [Value.int .i64 0, Value.int .u32 0] [i64 x', Value.int .u32 (((A3.back x).gen x' : Nat) : Int)]
    generalize hC : H6.size = hc at *
    generalize (H6.new 114 [Value.int .i64 0, Value.int .u32 0]).wr hc [i64 x', Value.int .u32 (((A3.back x).gen x' : Nat) : Int)] = H7 at *
    have m7 := m6.ext f7 (fun _ _ h => h)
    have s7 := s6.ext f7 (fun _ _ h => h)
    have b8 := f7.own b6 (fun h => h)
    have y7 := y6.trans (f7.mono fun z _ h => h.elim)
    have k1 : id < N := by
      have e1 := hI.lt _ la.m
      rw [← hida] at e1
      simp only at e1
      omega
    have k2 : id' < N := by
      have e1 := hI.lt _ hbm
      rw [← hida'] at e1
      simp only at e1
      omega
    have s7' := s7
    obtain ⟨_, ll, cc, hv, ho7, hc7, hc8, _⟩ := s7'
    injection hv with hv1 hv2 hv3
    subst hv3
    refine v3 (rd_of_own m7.o2) (rd_of_own b8) (rd_of_own b7) ?_
    refine ⟨keyOk_hnd _ _, ?_⟩
    refine HMap.look m7.m (a := (x, A3.gen x)) hm ?_
    refine v3 (rd_of_own m7.o2) (rd_of_own b8) (rd_of_own b7) ?_
    refine ⟨keyOk_hnd _ _, ?_⟩
    refine HMap.look m7.m (a := (x', (A3.back x).gen x')) hm' ?_
    refine vs ?_
    refine ⟨⟨by omega, by omega⟩, ?_⟩
    refine v4 ho7 Int.toNat_natCast Nat.mul_one Nat.zero_add ?_
    refine ⟨by omega, ?_⟩
    have e8 : Ext (fun z => z = ub) H7 (H7.wr ub (ll.set id (i64 ((ws.length + k : Nat) : Int)))) := (Ext.refl (fun z => z = ub) _).wr (fun _ => rfl) _
    have o8 : (H7.wr ub (ll.set id (i64 ((ws.length + k : Nat) : Int)))).own ub = some (ll.set id (i64 ((ws.length + k : Nat) : Int))) := own_wr_same ho7
    have s8 := s7.set1 ho7 id (i64 ((ws.length + k : Nat) : Int))
    rw [map_set _ k1] at s8
    refine vs ?_
    refine ⟨⟨by omega, by omega⟩, ?_⟩
    refine v4 o8 Int.toNat_natCast Nat.mul_one Nat.zero_add ?_
    refine ⟨by rw [List.length_set]; omega, ?_⟩
    refine vs ?_
    generalize hll : ll.set id (i64 ((ws.length + k : Nat) : Int)) = ll8 at *
    have e9 : Ext (fun z => z = ub) (H7.wr ub ll8) ((H7.wr ub ll8).wr ub (ll8.set id' (i64 ((ws.length + k : Nat) : Int)))) := (Ext.refl (fun z => z = ub) _).wr (fun _ => rfl) _
    have s9 := s8.set1 o8 id' (i64 ((ws.length + k : Nat) : Int))
    rw [map_set _ k2] at s9
    rw [wr_wr] at e9 s9
    generalize H7.wr ub (ll8.set id' (i64 ((ws.length + k : Nat) : Int))) = H9 at *
    have hne9 : ∀ z, S6 z ∨ z = H.size ∨ z = H.size + 1 + 1 ∨ z = H.size + 1 → z ≠ ub := by
      rintro z (hz | hz | hz | hz) e
      · exact hub6 (by rw [← e]; exact hz)
      · omega
      · omega
      · omega
    have m9 := (m7.ext e8 (fun z hz e => hne9 z hz e)).ext e9 (fun z hz e => hne9 z hz e)
    have y9 : Ext S H H9 := ⟨Nat.le_trans y7.size (Nat.le_trans e8.size e9.size), fun z hz hn => by rw [e9.keep z (by have := e8.size; have := y7.size; omega) (by omega), e8.keep z (by have := y7.size; omega) (by omega), y7.keep z hz hn]⟩
    have hsumk : 0 ≤ t.a.1 + t.b.1 ∧ t.a.1 + t.b.1 ≤ 9223372036854775807 := by
      have hneg : ¬ ∃ i, i < ws.length ∧ ws.getD i 0 < 0 := by
        rintro ⟨i, hi, h0⟩
        have hm : ws.getD i 0 ∈ ws := by
          rw [List.getD_eq_getElem?_getD, List.getElem?_eq_getElem hi]
          exact List.getElem_mem hi
        have := hf.pos _ hm
        omega
      have hnn : ∀ p ∈ t.pool, 0 ≤ p.1 := by
        intro p hp
        rw [← hwt p hp]
        refine sumI_nonneg fun i hi => ?_
        split
        · apply Classical.byContradiction
          intro h0
          exact hneg ⟨i, hi, by omega⟩
        · exact Int.le_refl _
      have h1 := hnn _ la.m
      have h2 := hnn _ hbm
      rcases hsum _ la.m _ hbm hab with h | h
      · rw [sumI_list] at h
        have := hf.sum
        omega
      · exact absurd h hneg
    have ha1 : y.2.1 = t.a.1 := by rw [← hida]
    have hb1 : y'.2.1 = t.b.1 := by rw [← hida']
    rw [ha1, hb1, wrap64 (n := t.a.1 + t.b.1) (by omega) (by omega)]
    refine ⟨by kernel_rfl, ?_⟩
    have hw6 : (wo (wo t.pool t.a) t.b).length + 2 = t.pool.length := by
      have := (wo_perm (hid.wo _) lb.m).length_eq
      rw [List.length_cons] at this; omega
    refine CallH.mono (by simpa using lengths_put_spec m9 j6 (by omega) (by omega) (t.a.1 + t.b.1)) ?_
    rintro _ H10 ⟨rfl, S10, w10, A10, L10, m10, j10, e10, hs10⟩
    refine vs ?_
    rw [wrap64 (n := ((ws.length + k : Nat) : Int) + 1) (by omega) (by omega)]
    have hz9 := y9.size
    have hs9 := s9.lt
    refine ⟨ws.length - 1 - (k + 1), by omega, k + 1, S10, w10, A10, L10, rfl, by omega, ?_, ?_, ?_, ?_, ?_, ?_, ?_⟩
    · rw [show ((ws.length + (k + 1) : Nat) : Int) = ((ws.length + k : Nat) : Int) + 1 by omega]; exact m10
    · rw [hstep]
      have : t.step.pool = wo (wo t.pool t.a) t.b ++ [(t.a.1 + t.b.1, ws.length + k)] := by unfold HSt.step; rw [hat]
      rw [this]
      exact j10
    · rw [hstep]
      have : (fun (i : Nat) => i64 (t.step.up i : Int)) = fun j => if j = id' then i64 ((ws.length + k : Nat) : Int) else if j = id then i64 ((ws.length + k : Nat) : Int) else i64 (t.up j : Int) := by
        funext j
        have e1 : t.a.2 = id := by rw [← hida]
        have e2 : t.b.2 = id' := by rw [← hida']
        show i64 ((if j = t.a.2 ∨ j = t.b.2 then t.at_ else t.up j : Nat) : Int) = _
        rw [e1, e2, hat]
        by_cases h1 : j = id'
        · rw [if_pos (.inr h1), if_pos h1]
        · by_cases h2 : j = id
          · rw [if_pos (.inl h2), if_neg h1, if_pos h2]
          · rw [if_neg (by omega), if_neg h1, if_neg h2]
      rw [this]
      exact s9.ext e10 (fun b hb => by injection hb with hb; rw [← hb]; rintro (h | h); exact hub6 h; omega)
    · intro h
      rcases hs10 ub h with h | h
      · exact hub6 h
      · omega
    · exact ⟨Nat.le_trans y9.size e10.size, fun z hz hn => by rw [e10.keep z (by omega) (fun h => by rcases h with h | h; exact (hs6 z h).elim hn (fun h => by omega); omega), y9.keep z hz hn]⟩
    · intro z hz
      rcases hs10 z hz with h | h
      · exact hs6 z h
      · exact .inr (by omega)
    · rw [show ((ws.length + (k + 1) : Nat) : Int) = ((ws.length + k : Nat) : Int) + 1 by omega]
  · have hk2 : k + 1 = ws.length := by omega
    refine ⟨ub, rfl, by omega, ?_, x3⟩
    unfold hend
    rw [show ws.length - 1 = k by omega, hT]
    exact s3
instance (ws : List Int) : Decidable (FineW ws) := decidable_of_iff (1 ≤ ws.length ∧ ws.length ≤ 4096 ∧ (∀ x ∈ ws, 1 ≤ x) ∧ ws.sum ≤ 9223372036854775807) ⟨fun ⟨a, b, c, d⟩ => ⟨a, b, c, d⟩, fun h => ⟨h.n1, h.n2, h.pos, h.sum⟩⟩
theorem sum_nonneg : ∀ (l : List Int), (∀ x ∈ l, 1 ≤ x) → 0 ≤ l.sum := by
  intro l
  induction l with
  | nil => intro _; exact Int.le_refl _
  | cons a r ih =>
    intro h
    have h1 := h a (by simp)
    have h2 := ih (fun x hx => h x (by simp [hx]))
    rw [List.sum_cons]
    omega
theorem sum_take_le {ws : List Int} (h : ∀ x ∈ ws, 1 ≤ x) (j : Nat) : (ws.take j).sum ≤ ws.sum := by
  have h1 : ws.sum = (ws.take j).sum + (ws.drop j).sum := by rw [← List.sum_append, List.take_append_drop]
  have h2 := sum_nonneg (ws.drop j) (fun x hx => h x (List.mem_of_mem_drop hx))
  omega
theorem sum_take_succ {ws : List Int} {j : Nat} {x : Int} (hx : ws[j]? = some x) : (ws.take (j + 1)).sum = (ws.take j).sum + x := by
  rw [List.take_add_one, hx, List.sum_append]
  show _ + [x].sum = _
  rw [List.sum_cons, List.sum_nil]
  omega
theorem lengths_fine_spec {H : Hp} {a : Option Addr} {c : Nat} {ws : List Int} (h : RdS H 1 (.slice a ws.length c) ws.length (ws.map i64)) (hb : ∀ x ∈ ws, x ≤ 9223372036854775807) : CallH Tryz.prog n_lengths_fine [.slice a ws.length c] H fun v H' => Post (v = .bool (decide (FineW ws)) ∧ H' = H) := by
  refine ccT d_lengths_fine ⟨rfl, ?_⟩
  refine v1 s_lengths_fine.eq_1 ?_
  refine Both.dec (fun h1 => ?_) (fun h1 => ?_) <;> refine v1 decide_true ?_
  · have hnf : ¬ FineW ws := fun hf => by have := hf.n1; omega
    rw [decide_eq_false hnf]
    exact ⟨rfl, rfl⟩
  refine Both.dec (fun h1' => ?_) (fun h1' => ?_) <;> refine v1 decide_true ?_
  · have hnf : ¬ FineW ws := fun hf => by have := hf.n2; omega
    rw [decide_eq_false hnf]
    exact ⟨rfl, rfl⟩
  refine LoopV.intro (fun m env H' => ∃ j : Nat, m = ws.length - j ∧ j ≤ ws.length ∧ H' = H ∧ (∀ x ∈ ws.take j, 1 ≤ x) ∧ (ws.take j).sum ≤ 9223372036854775807 ∧ env = [(3, i64 (9223372036854775807 - (ws.take j).sum)), (14, .slice a ws.length c), (15, i64 ws.length), (16, i64 j)]) ws.length ⟨0, by omega, by omega, rfl, by simp, by simp, by simp⟩ ?_
  rintro m env H1 ⟨j, rfl, hj, rfl, hp, hs, rfl⟩
  refine vs ?_
  refine Both.dec (fun hlt => ?_) (fun hlt => ?_) <;> refine vs ?_
  · have hj2 : j < ws.length := by omega
    obtain ⟨x, hx⟩ : ∃ x, ws[j]? = some x := ⟨_, List.getElem?_eq_getElem hj2⟩
    obtain ⟨_, b, o, lb, rfl, hrd2, hcell⟩ := RdS.num h hx
    have hxm := List.mem_of_getElem? hx
    have hxb := hb x hxm
    have hts := sum_take_succ hx
    have hn0 := sum_nonneg _ hp
    refine ⟨⟨by omega, by omega⟩, ?_⟩
    refine v4 hrd2 Int.toNat_natCast Nat.mul_one hcell ?_
    refine Both.dec (fun h2 => ?_) (fun h2 => ?_) <;> refine v1 decide_true ?_
    · have hnf : ¬ FineW ws := fun hf => by have h3 := hf.pos x hxm; omega
      rw [decide_eq_false hnf]
      exact ⟨rfl, rfl⟩
    refine Both.dec (fun h2' => ?_) (fun h2' => ?_) <;> refine v1 decide_true ?_
    · have hnf : ¬ FineW ws := fun hf => by
        have h4 := sum_take_le hf.pos (j + 1)
        have h5 := hf.sum
        omega
      rw [decide_eq_false hnf]
      exact ⟨rfl, rfl⟩
    · rw [wrap64 (n := 9223372036854775807 - (ws.take j).sum - x) (by omega) (by omega), wrap64 (n := (j : Int) + 1) (by omega) (by omega)]
      refine ⟨ws.length - (j + 1), by omega, j + 1, rfl, by omega, trivial, fun y hy => ?_, by omega, ?_⟩
      · rw [List.take_add_one, hx, List.mem_append] at hy
        rcases hy with hy | hy
        · exact hp y hy
        · have : y = x := by simpa using hy
          omega
      · rw [hts, show (9223372036854775807 : Int) - (ws.take j).sum - x = 9223372036854775807 - ((ws.take j).sum + x) by omega]
        rfl
  · have hj2 : j = ws.length := by omega
    subst hj2
    rw [List.take_length] at hp hs
    refine ⟨?_, rfl⟩
    rw [decide_eq_true ⟨by omega, by omega, hp, hs⟩]
    rfl
def lenW (ws : List Int) : List Int := if ws.length = 1 then [1] else (hufL ws).map fun (n : Nat) => (n : Int)
def lenA (kd dd : Int) (ws : List Int) : Int × List Int := if chk kd dd ≠ 0 then (chk kd dd, []) else if FineW ws then (0, lenW ws) else (201, [])
theorem lenW_len (ws : List Int) : (lenW ws).length = ws.length := by
  unfold lenW
  split
  · rename_i h; simp [h]
  · rw [List.length_map, hufL_len]
def LenV (H : Hp) (sv : Value) (ls : List Int) : Prop := ∃ a c, sv = .slice a ls.length c ∧ RdS H 1 sv ls.length (ls.map i64)
theorem LenV.nil (H : Hp) : LenV H (.slice none 0 0) [] := ⟨none, 0, rfl, rfl, .inl ⟨rfl, none, 0, rfl⟩⟩
theorem LenV.fresh {H H' : Hp} {sv : Value} {ls : List Int} (h : LenV H sv ls) (e : Fresh H H') : LenV H' sv ls := by
  obtain ⟨a, c, h1, h2⟩ := h
  exact ⟨a, c, h1, h2.fresh e⟩
theorem Sl.fresh' {H H' : Hp} {size n : Nat} {v : Value} {xs : List Value} {fp : Option Nat} (h : Sl H size v n xs fp) (e : Fresh H H') : Sl H' size v n xs fp := h.ext e (fun _ _ h => h)
theorem range_get {N : Nat} {f : Nat → Value} {i : Nat} (hi : i < N) : ((List.range N).map f)[i]? = some (f i) := by
  rw [List.getElem?_map, List.getElem?_range hi]; rfl
set_option maxRecDepth 100000 in
set_option maxHeartbeats 4000000 in
theorem lengths_Lengths_spec {H : Hp} (kd dd : Int) (hop : FineK kd dd → OpenN kd dd) {a : Option Addr} {c : Nat} {ws : List Int} (h : RdS H 1 (.slice a ws.length c) ws.length (ws.map i64)) (hb : ∀ x ∈ ws, x ≤ 9223372036854775807) :
    CallH Tryz.prog n_lengths_Lengths [cfgV kd dd, .slice a ws.length c] H fun v H' => Post (∃ sv, v = .tuple [sv, i64 (lenA kd dd ws).1].toArray ∧ LenV H' sv (lenA kd dd ws).2 ∧ Fresh H H') := by
  refine ccT d_lengths_Lengths ⟨rfl, ?_⟩
  refine v1 s_lengths_Lengths.eq_1 ?_
  have f0 : Fresh H (H.new 23 [i64 kd, i64 dd]) := (Ext.refl _ _).new _ _
  have o0 : (H.new 23 [i64 kd, i64 dd]).own H.size = some [i64 kd, i64 dd] := own_new _ _ _
  generalize H.new 23 [i64 kd, i64 dd] = H0 at *
  refine (gauge_Chk_spec kd dd H0).mono ?_
  rintro _ H1 ⟨rfl, f1⟩
  have o1 := f1.own o0 (fun h => h)
  have g1 := f0.trans f1
  refine vs ?_
  refine Both.dec (fun hc => ?_) (fun hc => ?_) <;> refine vs ?_
  rotate_left
  · have hA : lenA kd dd ws = (chk kd dd, []) := by unfold lenA; rw [if_pos hc]
    rw [hA]
    exact ⟨_, rfl, LenV.nil _, g1⟩
  have hK := chk_zero.1 hc
  refine (lengths_fine_spec (h.fresh g1) hb).mono ?_
  rintro _ H1' ⟨rfl, e⟩
  obtain rfl := e.symm
  refine vs ?_
  by_cases hF : FineW ws
  rotate_left
  · rw [decide_eq_false hF]
    refine v1 decide_true ?_
    have hA : lenA kd dd ws = (201, []) := by unfold lenA; rw [if_neg (by omega), if_neg hF]
    rw [hA]
    exact ⟨_, rfl, LenV.nil _, g1⟩
  rw [decide_eq_true hF]
  have hA : lenA kd dd ws = (0, lenW ws) := by unfold lenA; rw [if_neg (by omega), if_pos hF]
  rw [hA]
  have hn1 := hF.n1
  have hn2 := hF.n2
  refine v1 decide_true ?_
  refine Both.dec (fun h1 => ?_) (fun h1 => ?_) <;> refine vs ?_
  · have hw : lenW ws = [1] := by unfold lenW; rw [if_pos (by omega)]
    rw [hw]
    refine ⟨_, rfl, ⟨_, _, rfl, (Sl.lit_at (n := 1) (xs := [i64 1]) rfl rfl).rd⟩, g1.trans ((Ext.refl _ _).new _ _)⟩
  have h2 : 2 ≤ ws.length := by omega
  refine v1 (rd_of_own o1) ?_
  refine (pq_Open_spec hK (hop hK) (cap := (ws.length : Int)) (mo := 4294967295) ⟨by omega, by omega⟩ ⟨by omega, by omega⟩ H1).mono ?_
  rintro _ H2 ⟨s, S, rfl, st, f2, hS⟩
  have g2 := g1.trans f2
  have hSz : ∀ z, S z → H.size ≤ z := fun z hz => by have := hS z hz; have := g1.size; omega
  refine vs ?_
  refine (lengths_joined_spec st (fun H' e => h.fresh (g2.then e hSz)) hF h2).mono ?_
  rintro _ H3 ⟨ub, rfl, hub, su, e3⟩
  have g3 := g2.then e3 hSz
  obtain ⟨N, hN⟩ : ∃ N : Nat, N = 2 * ws.length - 1 := ⟨_, rfl⟩
  rw [← hN] at su ⊢
  refine v1 Int.toNat_natCast ?_
  refine ⟨⟨by omega, by omega, by omega, by omega⟩, ?_⟩
  have E := HufF.end_ hn1
  have hup := E.up
  have htop := E.top
  have hEd : hufL ws = (List.range ws.length).map (hend ws).d := rfl
  generalize hend ws = t at *
  refine v1 Int.toNat_natCast ?_
  have fn : Fresh H3 (H3.new 3 (padZ [i64 0] N)) := (Ext.refl _ _).new _ _
  have sd : Sl (H3.new 3 (padZ [i64 0] N)) 1 (.slice (some ⟨H3.size, 0, none⟩) N N) N ((List.range N).map fun j => if N - 1 ≤ j then i64 (t.d j : Int) else i64 0) (some H3.size) := by
    rw [padZ_int, List.map_replicate, show ((List.range N).map fun j => if N - 1 ≤ j then i64 (t.d j : Int) else i64 0) = List.replicate N (i64 0) from ?_]
    · exact Sl.lit H3 _ 1 N _ (by simp)
    · apply List.ext_getElem?
      intro j
      rw [List.getElem?_map, List.getElem?_replicate]
      by_cases hj : j < N
      · rw [List.getElem?_range hj, if_pos hj, Option.map_some]
        by_cases hj2 : N - 1 ≤ j
        · rw [if_pos hj2, show j = 2 * ws.length - 2 by omega, htop]; rfl
        · rw [if_neg hj2]
      · rw [List.getElem?_eq_none (by simp; omega), if_neg hj]; rfl
  have hdb : ub < H3.size := su.lt
  have su2 := Sl.fresh' su fn
  have g4 := g3.trans fn
  have hz3 := g3.size
  generalize hD : H3.size = db at *
  generalize H3.new 3 (padZ [i64 0] N) = H4 at *
  rw [wrap64 (n := (N : Int) - 2) (by omega) (by omega)]
  refine LoopV.intro (fun mm env H' => ∃ r : Nat, mm = r ∧ r ≤ N - 1 ∧ Ext (fun z => z = db) H4 H' ∧ Sl H' 1 (.slice (some ⟨db, 0, none⟩) N N) N ((List.range N).map fun j => if r ≤ j then i64 (t.d j : Int) else i64 0) (some db) ∧
    env = [(7, i64 ws.length), (10, .slice (some ⟨ub, 0, none⟩) N N), (11, .slice (some ⟨db, 0, none⟩) N N), (12, i64 ((r : Int) - 1))]) (N - 1) ⟨N - 1, rfl, Nat.le_refl _, Ext.refl _ _, sd, by rw [show (((N - 1 : Nat) : Int) - 1) = (N : Int) - 2 by omega]⟩ ?_
  clear sd
  rintro mm env H5 ⟨r, e0, hr, e5, s5, rfl⟩
  obtain rfl := e0.symm
  have su5 := su2.ext e5 (fun b hb => by injection hb with hb; omega)
  have g5 : Fresh H H5 := g4.then e5 (fun z hz => by omega)
  refine vs ?_
  refine Both.dec (fun hge => ?_) (fun hge => ?_) <;> refine vs ?_
  · obtain ⟨i, rfl⟩ : ∃ i, r = i + 1 := ⟨r - 1, by omega⟩
    obtain ⟨u1, u2, u3⟩ := hup i (by omega)
    have k1 := range_get (N := N) (f := fun i => i64 (t.up i : Int)) (i := i) (by omega)
    have k2 := range_get (N := N) (f := fun j => if i + 1 ≤ j then i64 (t.d j : Int) else i64 0) (i := t.up i) (by omega)
    rw [if_pos (by omega)] at k2
    have su5' := su5
    have s5' := s5
    obtain ⟨_, lu, cu, hv, hou, hu1, hu2, _⟩ := su5'
    injection hv with _ _ hv
    subst hv
    obtain ⟨_, ld, cd, hv, hod, hd1, hd2, _⟩ := s5'
    injection hv with _ _ hv
    subst hv
    have c1 := Sl.get su5 hou k1
    have c2 := Sl.get s5 hod k2
    have hi0 : (((i + 1 : Nat) : Int) - 1) = (i : Int) := by omega
    rw [hi0]
    have hdl := E.dl (t.up i) (by have := E.at_; omega)
    refine ⟨⟨by omega, by omega⟩, ?_⟩
    refine v5 (rd_of_own hou) Int.toNat_natCast Nat.mul_one Nat.zero_add c1 ?_
    refine ⟨⟨by omega, by omega⟩, ?_⟩
    refine v5 (rd_of_own hod) Int.toNat_natCast Nat.mul_one Nat.zero_add c2 ?_
    refine ⟨⟨by omega, by omega⟩, ?_⟩
    refine v4 hod Int.toNat_natCast Nat.mul_one Nat.zero_add ?_
    rw [wrap64 (n := (t.d (t.up i) : Int) + 1) (by omega) (by omega)]
    refine ⟨by omega, ?_⟩
    have e6 : Ext (fun z => z = db) H5 (H5.wr db (ld.set i (i64 ((t.d (t.up i) : Int) + 1)))) := (Ext.refl (fun z => z = db) _).wr (fun _ => rfl) _
    have s6 := s5.set1 hod i (i64 ((t.d (t.up i) : Int) + 1))
    rw [map_set _ (by omega : i < N)] at s6
    refine vs ?_
    rw [wrap64 (n := (i : Int) - 1) (by omega) (by omega)]
    refine ⟨i, by omega, i, rfl, by omega, e5.trans e6, ?_, rfl⟩
    have : (fun j => if j = i then i64 ((t.d (t.up i) : Int) + 1) else if i + 1 ≤ j then i64 (t.d j : Int) else i64 0) = fun j => if i ≤ j then i64 (t.d j : Int) else i64 0 := by
      funext j
      by_cases hj : j = i
      · rw [if_pos hj, if_pos (by omega), hj, u3]; rfl
      · rw [if_neg hj]
        by_cases hj2 : i + 1 ≤ j
        · rw [if_pos hj2, if_pos (by omega)]
        · rw [if_neg hj2, if_neg (by omega)]
    rw [this] at s6
    exact s6
  · have hr0 : r = 0 := by omega
    subst hr0
    have hlw : lenW ws = (hufL ws).map fun (n : Nat) => (n : Int) := by unfold lenW; rw [if_neg (by omega)]
    obtain ⟨q0, ld, cd, hv, hod, hd1, hd2, hd3⟩ := s5
    injection hv with _ _ hv
    subst hv
    refine ⟨⟨by omega, by omega, by omega, by omega⟩, ?_⟩
    refine v1 Int.toNat_natCast ?_
    have hll : (lenW ws).length = ws.length := lenW_len ws
    rw [if_neg (by omega)]
    refine ⟨_, rfl, ⟨some ⟨db, 0, none⟩, ws.length, ?_, ?_⟩, g5⟩
    · rw [hll]
      simp [Addr.add]
    · rw [hll]
      refine ⟨by rw [List.length_map, hll, Nat.mul_one], .inr ⟨db, 0, ws.length, ld, by simp [Addr.add], rd_of_own hod, by omega, ?_⟩⟩
      rw [List.drop_zero, Nat.mul_one]
      have h6 : ld.take ws.length = (ld.take (N * 1)).take ws.length := by rw [List.take_take, show min ws.length (N * 1) = ws.length by omega]
      rw [h6, hd3, hlw, hEd, List.map_map, List.map_map, ← List.map_take, List.take_range, show min ws.length N = ws.length by omega]
      refine List.map_congr_left fun j _ => ?_
      rw [if_pos (Nat.zero_le _)]
      rfl
def sumV (s : Int × Nat) : Value := .agg [i64 s.1, u64 s.2].toArray
def valS (S : Int) : Int × Nat := (S / 18446744073709551616, (S % 18446744073709551616).toNat)
theorem valS_inj {S T : Int} (h : valS S = valS T) : S = T := by
  unfold valS at h
  injection h with h1 h2
  omega
set_option maxHeartbeats 1000000 in
theorem IndexFuncI_spec {H : Hp} {a : Option Addr} {c : Nat} {xs : List Int} (f : FuncId) (caps : List Value) (q : Int → Bool) (Inv : Hp → Prop) (hI : Inv H) (hrd : ∀ H', Inv H' → RdS H' 1 (.slice a xs.length c) xs.length (xs.map i64)) (hcal : callable Tryz.prog f = true)
    (hf : ∀ H' x, x ∈ xs → Inv H' → CallH Tryz.prog f (i64 x :: caps) H' fun v H'' => Post (v = .bool (q x) ∧ Inv H'')) (hm : xs.length ≤ 1000000000) :
    CallH Tryz.prog n_slices_IndexFunc_int_int [.slice a xs.length c, .func (.func f) #[] caps.toArray] H fun v H' => Post (∃ i : Int, v = i64 i ∧ (0 ≤ i ↔ xs.any q = true) ∧ Inv H') := by
  refine ccT d_slices_IndexFunc_int_int ⟨rfl, ?_⟩
  refine v1 s_slices_IndexFunc_int_int.eq_1 ?_
  refine LoopV.intro (fun m env H' => Inv H' ∧ ∃ j : Nat, m = xs.length - j ∧ j ≤ xs.length ∧ (∀ e ∈ xs.take j, q e = false) ∧ env = [(0, .slice a xs.length c), (1, .func (.func f) #[] caps.toArray), (7, i64 xs.length), (8, i64 j)]) xs.length ⟨hI, 0, by omega, by omega, by simp, rfl⟩ ?_
  rintro m env H1 ⟨i1, j, hmj, hj, hall, rfl⟩
  have h1 := hrd H1 i1
  refine vs ?_
  refine Both.dec (fun hlt => ?_) (fun hlt => ?_) <;> refine vs ?_
  · have hj2 : j < xs.length := by omega
    obtain ⟨e, he⟩ : ∃ e, xs[j]? = some e := ⟨_, List.getElem?_eq_getElem hj2⟩
    obtain ⟨_, b, o, lb, rfl, hrd2, hcell⟩ := RdS.num h1 he
    refine ⟨⟨by omega, by omega⟩, ?_⟩
    have hmem := List.mem_of_getElem? he
    refine v4 hrd2 Int.toNat_natCast Nat.mul_one hcell ?_
    refine ⟨hcal, ?_⟩
    refine CallH.mono (by simpa using hf H1 e hmem i1) ?_
    rintro _ H2 ⟨rfl, i2⟩
    refine vs ?_
    cases hx : q e
    · refine vs ?_
      rw [wrap64 (n := (j : Int) + 1) (by omega) (by omega)]
      refine ⟨xs.length - (j + 1), by omega, i2, j + 1, rfl, by omega, ?_, rfl⟩
      intro e' he'
      rw [List.take_add_one, he] at he'
      rcases List.mem_append.1 he' with he' | he'
      · exact hall e' he'
      · have : e' = e := by simpa using he'
        rw [this]; exact hx
    · refine vs ?_
      exact ⟨j, rfl, ⟨fun _ => List.any_eq_true.2 ⟨e, hmem, hx⟩, fun _ => by omega⟩, i2⟩
  · refine ⟨-1, rfl, ?_, i1⟩
    have hj2 : j = xs.length := by omega
    subst hj2
    rw [List.take_length] at hall
    have : xs.any q = false := List.any_eq_false.2 fun e he => by rw [hall e he]; simp
    rw [this]
    simp
theorem ContainsFuncI_spec {H : Hp} {a : Option Addr} {c : Nat} {xs : List Int} (f : FuncId) (caps : List Value) (q : Int → Bool) (Inv : Hp → Prop) (hI : Inv H) (hrd : ∀ H', Inv H' → RdS H' 1 (.slice a xs.length c) xs.length (xs.map i64)) (hcal : callable Tryz.prog f = true)
    (hf : ∀ H' x, x ∈ xs → Inv H' → CallH Tryz.prog f (i64 x :: caps) H' fun v H'' => Post (v = .bool (q x) ∧ Inv H'')) (hm : xs.length ≤ 1000000000) :
    CallH Tryz.prog n_slices_ContainsFunc_int_int [.slice a xs.length c, .func (.func f) #[] caps.toArray] H fun v H' => Post (v = .bool (xs.any q) ∧ Inv H') := by
  refine ccT d_slices_ContainsFunc_int_int ⟨rfl, ?_⟩
  refine v1 s_slices_ContainsFunc_int_int.eq_1 ?_
  refine (IndexFuncI_spec f caps q Inv hI hrd hcal hf hm).mono ?_
  rintro _ H1 ⟨i, rfl, hi, i1⟩
  refine vs ?_
  refine ⟨congrArg Value.bool ?_, i1⟩
  cases hx : xs.any q
  · rw [hx] at hi
    exact decide_eq_false (fun h => by cases hi.1 h)
  · rw [hx] at hi
    exact decide_eq_true (hi.2 rfl)
theorem ref09_Same_spec {H : Hp} {a a' : Option Addr} {c c' : Nat} {xs ys : List Int} (h : RdS H 1 (.slice a xs.length c) xs.length (xs.map i64)) (h' : RdS H 1 (.slice a' ys.length c') ys.length (ys.map i64)) (hm : xs.length ≤ 1000000000000) :
    CallH Tryz.prog n_ref09_Same [.slice a xs.length c, .slice a' ys.length c'] H fun v H' => Post (v = .bool (decide (xs = ys)) ∧ H = H') := by
  refine ccT d_ref09_Same ⟨rfl, ?_⟩
  refine v1 s_ref09_Same.eq_1 ?_
  refine Both.dec (fun h2 => ?_) (fun h2 => ?_)
  rotate_left
  · refine vs ?_
    exact ⟨by rw [decide_eq_false (p := xs = ys) (fun e => h2 (by rw [e]))]; rfl, rfl⟩
  refine vs ?_
  refine LoopV.intro (fun k env H' => H' = H ∧ ∃ j : Nat, k = xs.length - j ∧ j ≤ xs.length ∧ xs.take j = ys.take j ∧ env = [(0, .slice a xs.length c), (1, .slice a' ys.length c'), (12, i64 xs.length), (13, i64 j)]) xs.length ⟨rfl, 0, by omega, by omega, rfl, rfl⟩ ?_
  rintro k env _ ⟨rfl, j, hk, hj, htk, rfl⟩
  refine vs ?_
  refine Both.dec (fun hlt => ?_) (fun hlt => ?_) <;> refine vs ?_
  · have hj2 : j < xs.length := by omega
    obtain ⟨x, hx⟩ : ∃ e, xs[j]? = some e := ⟨_, List.getElem?_eq_getElem hj2⟩
    obtain ⟨y, hy⟩ : ∃ e, ys[j]? = some e := ⟨_, List.getElem?_eq_getElem (by omega)⟩
    obtain ⟨_, b, o, lb, rfl, hrd, hcell⟩ := RdS.num h hx
    obtain ⟨_, b', o', lb', rfl, hrd', hcell'⟩ := RdS.num h' hy
    refine ⟨⟨by omega, by omega⟩, ?_⟩
    refine v4 hrd Int.toNat_natCast Nat.mul_one hcell ?_
    refine ⟨⟨by omega, by omega⟩, ?_⟩
    refine v4 hrd' Int.toNat_natCast Nat.mul_one hcell' ?_
    refine Both.dec (fun h3 => ?_) (fun h3 => ?_) <;> refine vs ?_
    · rw [wrap64 (n := (j : Int) + 1) (by omega) (by omega)]
      exact ⟨xs.length - (j + 1), by omega, trivial, j + 1, rfl, by omega, by rw [List.take_add_one, List.take_add_one, hx, hy, htk, h3], rfl⟩
    · refine ⟨?_, rfl⟩
      rw [decide_eq_false (fun e2 => h3 (by rw [e2, hy] at hx; injection hx with hx; exact hx.symm))]
      rfl
  · have hj2 : j = xs.length := by omega
    subst hj2
    rw [List.take_length, List.take_of_length_le (by omega)] at htk
    exact ⟨by rw [decide_eq_true htk]; rfl, rfl⟩
end Go.Proofs.YtjlnnljohemifaaGreat
