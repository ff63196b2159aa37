/-
  The package shed: a thing comes onto a pile, and from it; the library's container/heap.
-/
import Derived.Test.YteicchpglnamcaaPile
set_option linter.unusedVariables false
set_option linter.unusedSimpArgs false
namespace Go.Proofs.Yteicchpglnamcaa
open Go Go.Vc

section
variable {H : Hp} {n c : Nat} {C : Nat → Prop} {rv : Value} {r : Nat} {fp fa : Option Nat} {st : Int} {w : Nw} {l at_ : List Int}

theorem pile_Push_spec (m : PileM H n c C rv r fp fa st w l at_) (hl : l.length < 65536) {x : Int} (hx : 0 ≤ x ∧ x.toNat < at_.length) : CallH Try.prog n_shed_pile_Push [ptr r, .iface 3 (i64 x)] H fun v H' => Post (
    v = .tuple [].toArray ∧ ∃ fp', PileM H' n c C rv r fp' fa st w (l ++ [x]) (at_.set x.toNat l.length) ∧ Ext (fun z => fp = some z ∨ fa = some z ∨ z = r) H H' ∧ (fp' = fp ∨ ∃ z, fp' = some z ∧ H.size ≤ z)) := by
  obtain ⟨av, hn, ha⟩ := m.own
  obtain ⟨sv, ho, hs⟩ := m.pile
  obtain ⟨y, hy⟩ : ∃ y, at_[x.toNat]? = some y := ⟨_, List.getElem?_eq_getElem hx.2⟩
  obtain ⟨f, fc, la, rfl, rfl, hf, hfx, _, hla⟩ := Sl.at_ ha (i := x.toNat) (x := i64 y) (by simp [hy])
  obtain ⟨g1, g2, g3⟩ := m.fad f rfl
  obtain ⟨sa, sc, hsv⟩ := RdS.val2 hs.rd
  refine c_shed_pile_Push ⟨rfl, ?_⟩
  simp (disch := (first | omega | (simp only [size_new, size_newm, size_wr, size_wrm] <;> omega) | fail)) only [go_sem, Nat.reduceBEq, Nat.reduceAdd, Nat.reduceMul, Nat.reduceLeDiff, ↓reduceIte, rd_new_lt, own_new_lt, mp_new_lt, rd_newm_lt, own_newm_lt, mp_newm_lt, rd_wr_ne, own_wr_ne, mp_wr_ne, rd_wrm_ne, own_wrm_ne, mp_wrm_ne, rd_new_eq, own_new_eq, mp_newm_eq, s_shed_pile_Push]
  simp (disch := (first | omega | (simp only [size_new, size_newm, size_wr, size_wrm] <;> omega) | fail)) only [go_sem, Nat.reduceBEq, Nat.reduceAdd, Nat.reduceMul, Nat.reduceLeDiff, ↓reduceIte, rd_new_lt, own_new_lt, mp_new_lt, rd_newm_lt, own_newm_lt, mp_newm_lt, rd_wr_ne, own_wr_ne, mp_wr_ne, rd_wrm_ne, own_wrm_ne, mp_wrm_ne, rd_new_eq, own_new_eq, mp_newm_eq, rd_of_own ho, rd_of_own hn, hsv]
  refine ⟨by omega, ?_⟩
  simp (disch := (first | omega | (simp only [size_new, size_newm, size_wr, size_wrm] <;> omega) | fail)) only [go_sem, Nat.reduceBEq, Nat.reduceAdd, Nat.reduceMul, Nat.reduceLeDiff, ↓reduceIte, rd_new_lt, own_new_lt, mp_new_lt, rd_newm_lt, own_newm_lt, mp_newm_lt, rd_wr_ne, own_wr_ne, mp_wr_ne, rd_wrm_ne, own_wrm_ne, mp_wrm_ne, rd_new_eq, own_new_eq, mp_newm_eq, hf, Nat.mul_one, Nat.zero_add]
  refine ⟨by omega, ?_⟩
  simp (disch := (first | omega | (simp only [size_new, size_newm, size_wr, size_wrm] <;> omega) | fail)) only [go_sem, Nat.reduceBEq, Nat.reduceAdd, Nat.reduceMul, Nat.reduceLeDiff, ↓reduceIte, rd_new_lt, own_new_lt, mp_new_lt, rd_newm_lt, own_newm_lt, mp_newm_lt, rd_wr_ne, own_wr_ne, mp_wr_ne, rd_wrm_ne, own_wrm_ne, mp_wrm_ne, rd_new_eq, own_new_eq, mp_newm_eq, Nat.zero_add]
  have e1 : Ext (fun z => z = f) H (H.wr f (la.set x.toNat (i64 l.length))) := (Ext.refl (fun z => z = f) _).wr (fun _ => rfl) _
  have s1 := ha.set1 hf x.toNat (i64 l.length)
  have hn1 := e1.own hn (Ne.symm g2)
  have ho1 := e1.own ho (Ne.symm g3)
  have hs1 := hs.ext e1 (fun z hz h => (m.fpd z hz).2.2.2 (by rw [h]))
  have c1 := m.cells.ext e1 (fun z hz h => g1 (h ▸ hz))
  generalize H.wr f (la.set x.toNat (i64 l.length)) = H1 at *
  have e2 : Ext (fun _ => False) H1 (H1.new 3 [i64 x]) := (Ext.refl _ _).new _ _
  simp (disch := (first | omega | (simp only [size_new, size_newm, size_wr, size_wrm] <;> omega) | fail)) only [go_sem, Nat.reduceBEq, Nat.reduceAdd, Nat.reduceMul, Nat.reduceLeDiff, ↓reduceIte, rd_new_lt, own_new_lt, mp_new_lt, rd_newm_lt, own_newm_lt, mp_newm_lt, rd_wr_ne, own_wr_ne, mp_wr_ne, rd_wrm_ne, own_wrm_ne, mp_wrm_ne, rd_new_eq, own_new_eq, mp_newm_eq, rd_of_own ho]
  refine Sl.append (hs1.ext e2 (fun _ _ h => h)) (Sl.lit_at (size := 1) (xs := [i64 x]) rfl rfl).rd rfl (by intro v hv; simp only [List.mem_singleton] at hv; subst hv; rfl) (by omega) ?_
  intro sv' H3 fp' s3 e3 hfp
  have z1 := e1.size
  have hrs := own_lt ho1
  have hns := own_lt hn1
  have e23 : Ext (fun z => fp = some z) H1 H3 := (e2.mono fun _ _ h => h.elim).trans' e3 (fun z _ h => h)
  have ho3 := e23.own ho1 (fun h => (m.fpd r h).2.2.1 rfl)
  have hn3 := e23.own hn1 (fun h => (m.fpd n h).2.1 rfl)
  obtain ⟨a', cc', hv'⟩ := RdS.val2 s3.rd
  subst hv'
  simp (disch := (first | omega | (simp only [size_new, size_newm, size_wr, size_wrm] <;> omega) | fail)) only [go_sem, Nat.reduceBEq, Nat.reduceAdd, Nat.reduceMul, Nat.reduceLeDiff, ↓reduceIte, rd_new_lt, own_new_lt, mp_new_lt, rd_newm_lt, own_newm_lt, mp_newm_lt, rd_wr_ne, own_wr_ne, mp_wr_ne, rd_wrm_ne, own_wrm_ne, mp_wrm_ne, rd_new_eq, own_new_eq, mp_newm_eq, ho3]
  generalize hv' : Value.slice a' (l.length + 1) cc' = v' at *
  have e4 : Ext (fun z => z = r) H3 (H3.wr r [ptr n, v']) := (Ext.refl (fun z => z = r) _).wr (fun _ => rfl) _
  have hfs := own_lt hf
  have hfp2 : ∀ b, fp' = some b → fp = some b ∨ H1.size ≤ b := fun b hb => by
    rcases hfp with h | ⟨z, h, h5, _⟩
    · exact .inl (h ▸ hb)
    · rw [h] at hb; injection hb with hb; subst hb; rw [size_new] at h5; exact .inr (by omega)
  have hcs := c1.slt
  refine ⟨rfl, fp', ⟨⟨_, e4.own hn3 (Ne.symm m.rn), ?_⟩, (c1.ext e23 (fun z hz h => (m.fpd z h).1 hz)).ext e4 (fun z hz h => m.rC (h ▸ hz)), ⟨_, own_wr_same ho3, ?_⟩, m.nC, m.rC, m.rn, fun b hb => ?_, m.fad, by rw [List.length_append, List.length_singleton]; omega⟩,
    (e1.mono fun z _ hz => .inr (.inl (by rw [hz]))).trans ((e23.mono fun z _ hz => .inl hz).trans (e4.mono fun z _ hz => .inr (.inr hz))), ?_⟩
  · have := ((s1.ext e23 (fun z hz h => (m.fpd z h).2.2.2 hz)).ext e4 (fun z hz h => by injection hz with hz; exact g3 (hz.trans h)))
    rw [List.length_set, List.map_set]
    exact this
  · have := s3.ext e4 (fun b hb h => by
      rcases hfp2 b hb with h5 | h5
      · exact (m.fpd b h5).2.2.1 h
      · omega)
    rw [List.length_append, List.map_append]
    exact this
  · rcases hfp2 b hb with h5 | h5
    · exact m.fpd b h5
    · refine ⟨fun h => ?_, by omega, by omega, fun h => ?_⟩
      · have := hcs b h; omega
      · injection h with h; omega
  · rcases hfp with h | ⟨z, h, h5, _⟩
    · exact .inl h
    · exact .inr ⟨z, h, by rw [size_new] at h5; omega⟩

theorem pile_Pop_spec (m : PileM H n c C rv r fp fa st w l at_) (hl : 0 < l.length) : CallH Try.prog n_shed_pile_Pop [ptr r] H fun v H' => Post (
    (∃ x, v = .iface 3 (i64 x)) ∧ PileM H' n c C rv r fp fa st w l.dropLast at_ ∧ Ext (fun z => z = r) H H') := by
  obtain ⟨av, hn, ha⟩ := m.own
  obtain ⟨sv, ho, hs⟩ := m.pile
  have hll := m.ll
  obtain ⟨x, hx⟩ : ∃ x, l[l.length - 1]? = some x := ⟨_, List.getElem?_eq_getElem (by omega)⟩
  obtain ⟨f, cc, lb, rfl, rfl, hb, hbx, _, hlb⟩ := Sl.at_ hs (i := l.length - 1) (x := i64 x) (by simp [hx])
  have e1 : IntKind.i64.wrap ((l.length : Int) - 1) = ((l.length - 1 : Nat) : Int) := by rw [wrap64 (by omega) (by omega)]; omega
  obtain ⟨_, l2, c2, hv2, g2, a5, a6, a7⟩ := id hs
  injection hv2 with _ _ hv2
  subst hv2
  rw [hb] at g2
  injection g2 with g2
  subst g2
  refine c_shed_pile_Pop ⟨rfl, ?_⟩
  simp (disch := (first | omega | (simp only [size_new, size_newm, size_wr, size_wrm] <;> omega) | fail)) only [go_sem, Nat.reduceBEq, Nat.reduceAdd, Nat.reduceMul, Nat.reduceLeDiff, ↓reduceIte, rd_new_lt, own_new_lt, mp_new_lt, rd_newm_lt, own_newm_lt, mp_newm_lt, rd_wr_ne, own_wr_ne, mp_wr_ne, rd_wrm_ne, own_wrm_ne, mp_wrm_ne, rd_new_eq, own_new_eq, mp_newm_eq, s_shed_pile_Pop, rd_of_own ho, e1, Int.toNat_natCast]
  refine ⟨by omega, ?_⟩
  simp (disch := (first | omega | (simp only [size_new, size_newm, size_wr, size_wrm] <;> omega) | fail)) only [go_sem, Nat.reduceBEq, Nat.reduceAdd, Nat.reduceMul, Nat.reduceLeDiff, ↓reduceIte, rd_new_lt, own_new_lt, mp_new_lt, rd_newm_lt, own_newm_lt, mp_newm_lt, rd_wr_ne, own_wr_ne, mp_wr_ne, rd_wrm_ne, own_wrm_ne, mp_wrm_ne, rd_new_eq, own_new_eq, mp_newm_eq, rd_of_own hb, rd_of_own ho, Nat.mul_one, hbx, e1]
  refine ⟨by omega, ?_⟩
  have hsv : Value.slice (if (cc : Int) = ((0 : Nat) : Int) then some (⟨f, 0, none⟩ : Addr) else Option.map (fun (x : Addr) => x.add (((0 : Nat) : Int).toNat * 1)) (some (⟨f, 0, none⟩ : Addr))) (((l.length - 1 : Nat) : Int).toNat - ((0 : Nat) : Int).toNat) ((cc : Int).toNat - ((0 : Nat) : Int).toNat) = .slice (some ⟨f, 0, none⟩) (l.length - 1) cc := by
    split <;> rfl
  simp (disch := (first | omega | (simp only [size_new, size_newm, size_wr, size_wrm] <;> omega) | fail)) only [go_sem, Nat.reduceBEq, Nat.reduceAdd, Nat.reduceMul, Nat.reduceLeDiff, ↓reduceIte, rd_new_lt, own_new_lt, mp_new_lt, rd_newm_lt, own_newm_lt, mp_newm_lt, rd_wr_ne, own_wr_ne, mp_wr_ne, rd_wrm_ne, own_wrm_ne, mp_wrm_ne, rd_new_eq, own_new_eq, mp_newm_eq, rd_of_own ho, ho]
  rw [hsv]
  have ew : Ext (fun z => z = r) H (H.wr r [ptr n, .slice (some ⟨f, 0, none⟩) (l.length - 1) cc]) := (Ext.refl (fun z => z = r) _).wr (fun _ => rfl) _
  obtain ⟨d1, d2, d3, d4⟩ := m.fpd f rfl
  refine ⟨⟨_, rfl⟩, ⟨⟨_, ew.own hn (Ne.symm m.rn), ha.ext ew (fun z hz h => (m.fad z hz).2.2 h)⟩, m.cells.ext ew (fun z hz h => m.rC (h ▸ hz)), ⟨_, own_wr_same ho, ?_⟩, m.nC, m.rC, m.rn, m.fpd, m.fad, by rw [List.length_dropLast]; omega⟩, ew⟩
  refine ⟨by simp, lb, cc, by rw [List.length_dropLast], ew.own hb d3, by rw [List.length_dropLast]; omega, a6, ?_⟩
  have hx7 : ((l.map i64).length) = l.length := by simp
  rw [List.length_dropLast, List.map_dropLast, List.dropLast_eq_take, hx7, ← a7, List.take_take]
  congr 1
  omega

/-! the library's calls -/

theorem heap_Push_spec (m : PileM H n c C rv r fp fa st w l at_) (hat : AtOk l at_) (hl : l.length < 65536) {x : Int} (hx : 0 ≤ x ∧ x.toNat < at_.length) (hxl : x ∉ l) (hxin : InC w.cs x) (hin : ∀ z ∈ l, InC w.cs z) (hh : HeapL (ltW w) 2 l) :
    CallH Try.prog n_container_heap_Push [pv r, .iface 3 (i64 x)] H fun v H' => Post (v = .tuple [].toArray ∧ ∃ (fp' : Option Nat) (l' at' : List Int) (q : Nat), PileM H' n c C rv r fp' fa (min (st + q) 4611686018427387904) w l' at' ∧ AtOk l' at' ∧ HeapL (ltW w) 2 l' ∧ (∀ z, z ∈ l' ↔ z = x ∨ z ∈ l) ∧ l'.length = l.length + 1 ∧
      at'.length = at_.length ∧ (∀ z : Int, 0 ≤ z → z ≠ x → z ∉ l → at'[z.toNat]? = at_[z.toNat]?) ∧ q ≤ upN 2 l.length ∧ (0 < l.length → 0 < q) ∧ Ext (fun z => C z ∨ fp = some z ∨ fa = some z ∨ z = r) H H' ∧ (fp' = fp ∨ ∃ z, fp' = some z ∧ H.size ≤ z)) := by
  refine c_container_heap_Push ⟨rfl, ?_⟩
  simp (disch := (first | omega | (simp only [size_new, size_newm, size_wr, size_wrm] <;> omega) | fail)) only [go_sem, Nat.reduceBEq, Nat.reduceAdd, Nat.reduceMul, Nat.reduceLeDiff, ↓reduceIte, rd_new_lt, own_new_lt, mp_new_lt, rd_newm_lt, own_newm_lt, mp_newm_lt, rd_wr_ne, own_wr_ne, mp_wr_ne, rd_wrm_ne, own_wrm_ne, mp_wrm_ne, rd_new_eq, own_new_eq, mp_newm_eq, s_container_heap_Push]
  refine InvH.mono (K := fun v H' => v = .tuple [].toArray ∧ ∃ fp', PileM H' n c C rv r fp' fa st w (l ++ [x]) (at_.set x.toNat l.length) ∧ Ext (fun z => fp = some z ∨ fa = some z ∨ z = r) H H' ∧ (fp' = fp ∨ ∃ z, fp' = some z ∧ H.size ≤ z)) ⟨_, _, n_shed_pile_Push, ptr r, rfl, methR0 (by kernel_rfl), pile_Push_spec m hl hx⟩ ?_
  rintro _ H1 ⟨rfl, fp', m1, e1, hfp'⟩
  simp (disch := (first | omega | (simp only [size_new, size_newm, size_wr, size_wrm] <;> omega) | fail)) only [go_sem, Nat.reduceBEq, Nat.reduceAdd, Nat.reduceMul, Nat.reduceLeDiff, ↓reduceIte, rd_new_lt, own_new_lt, mp_new_lt, rd_newm_lt, own_newm_lt, mp_newm_lt, rd_wr_ne, own_wr_ne, mp_wr_ne, rd_wrm_ne, own_wrm_ne, mp_wrm_ne, rd_new_eq, own_new_eq, mp_newm_eq]
  refine InvH.mono (K := fun v H' => v = i64 (l ++ [x]).length ∧ H1 = H') ⟨_, _, n_shed_pile_Len, ptr r, rfl, methR0 (by kernel_rfl), pile_Len_spec m1⟩ ?_
  rintro _ _ ⟨rfl, rfl⟩
  simp (disch := (first | omega | (simp only [size_new, size_newm, size_wr, size_wrm] <;> omega) | fail)) only [go_sem, Nat.reduceBEq, Nat.reduceAdd, Nat.reduceMul, Nat.reduceLeDiff, ↓reduceIte, rd_new_lt, own_new_lt, mp_new_lt, rd_newm_lt, own_newm_lt, mp_newm_lt, rd_wr_ne, own_wr_ne, mp_wr_ne, rd_wrm_ne, own_wrm_ne, mp_wrm_ne, rd_new_eq, own_new_eq, mp_newm_eq]
  have hlen : (l ++ [x]).length = l.length + 1 := by simp
  rw [show IntKind.i64.wrap (((l ++ [x]).length : Int) - 1) = ((l.length : Nat) : Int) by rw [hlen, wrap64 (by omega) (by omega)]; omega]
  have hat1 : AtOk (l ++ [x]) (at_.set x.toNat l.length) := fun i z hz => by
    rcases Nat.lt_trichotomy i l.length with h | h | h
    · rw [List.getElem?_append_left h] at hz
      obtain ⟨a, b⟩ := hat i z hz
      have hne : x.toNat ≠ z.toNat := fun e => hxl (by rw [show x = z by omega]; exact List.mem_of_getElem? hz)
      rw [List.getElem?_set_ne hne]
      exact ⟨a, b⟩
    · subst h
      rw [List.getElem?_append_right (Nat.le_refl _), Nat.sub_self] at hz
      simp only [List.getElem?_cons_zero, Option.some.injEq] at hz
      subst hz
      rw [List.getElem?_set_self hx.2]
      exact ⟨hx.1, rfl⟩
    · rw [List.getElem?_eq_none (by omega)] at hz; cases hz
  have ht : (l ++ [x]).take (l ++ [x]).length = l ++ [x] := List.take_length
  have hge : ∀ k, k < l.length → (l ++ [x]).getD k 0 = l.getD k 0 := fun k hk => by rw [List.getD_eq_getElem?_getD, List.getElem?_append_left hk, List.getD_eq_getElem?_getD]
  have hpl : ∀ k : Nat, 1 ≤ k → k < l.length + 1 → pa 2 k ≠ l.length := fun k h1 h2 => by have := pa_lt fine2 h1; omega
  refine (heap_up_spec m1 hat1 (j := l.length) (mm := (l ++ [x]).length) (by omega) (Nat.le_refl _) (fun z hz => ?_) (by
    rw [ht]
    refine ⟨fun k h1 h2 h3 h4 => ?_, fun k h1 h2 h3 h4 => absurd h3 (hpl k h1 (by omega))⟩
    have := pa_lt fine2 h1
    rw [hge k (by omega), hge _ (by omega)]
    exact hh k h1 (by omega)) (fun k h1 h2 h3 => absurd h3 (hpl k h1 (by rw [ht] at h2; omega)))).mono ?_
  · rcases List.mem_append.1 hz with h | h
    · exact hin z h
    · rw [List.mem_singleton] at h; rw [h]; exact hxin
  rintro _ H2 ⟨rfl, l', at', q, g, hheap, hq, hq0⟩
  have hl' := g.len
  rw [← hl', List.take_length] at hheap
  simp (disch := (first | omega | (simp only [size_new, size_newm, size_wr, size_wrm] <;> omega) | fail)) only [go_sem, Nat.reduceBEq, Nat.reduceAdd, Nat.reduceMul, Nat.reduceLeDiff, ↓reduceIte, rd_new_lt, own_new_lt, mp_new_lt, rd_newm_lt, own_newm_lt, mp_newm_lt, rd_wr_ne, own_wr_ne, mp_wr_ne, rd_wrm_ne, own_wrm_ne, mp_wrm_ne, rd_new_eq, own_new_eq, mp_newm_eq]
  refine ⟨rfl, fp', l', at', q, g.pile, g.ok, hheap, fun z => ?_, by omega, by rw [g.atl, List.length_set], fun z hz h1 h2 => ?_, hq, fun h => hq0 (by omega), (e1.mono fun z _ hz => .inr hz).trans' g.ext (fun z hzl hz => ?_), hfp'⟩
  · rw [g.mem z, List.mem_append, List.mem_singleton]
    exact Or.comm
  · rw [g.off z hz (fun h => by rcases List.mem_append.1 h with h | h; exact h2 h; exact h1 (List.mem_singleton.1 h)), List.getElem?_set_ne (by omega)]
  · rcases hz with hz | hz | hz
    · exact .inl hz
    · rcases hfp' with h | ⟨y, h, h5⟩
      · exact .inr (.inl (h ▸ hz))
      · rw [h] at hz; injection hz with hz; omega
    · exact .inr (.inr (.inl hz))

theorem heap_Fix_spec (m : PileM H n c C rv r fp fa st w l at_) (hat : AtOk l at_) {i : Nat} (hi : i < l.length) (hin : ∀ z ∈ l, InC w.cs z) (hA : HeapBut (ltW w) 2 l i) :
    CallH Try.prog n_container_heap_Fix [pv r, i64 i] H fun v H' => Post (v = .tuple [].toArray ∧ ∃ (l' at' : List Int) (q : Nat), HpTo n c C rv r fp fa st w l at_ l.length H H' l' at' q ∧ HeapL (ltW w) 2 l' ∧ q ≤ 2 * upN 2 ((l.length : Int) - 1)) := by
  have hll := m.ll
  have ht : l.take l.length = l := List.take_length
  refine c_container_heap_Fix ⟨rfl, ?_⟩
  simp (disch := (first | omega | (simp only [size_new, size_newm, size_wr, size_wrm] <;> omega) | fail)) only [go_sem, Nat.reduceBEq, Nat.reduceAdd, Nat.reduceMul, Nat.reduceLeDiff, ↓reduceIte, rd_new_lt, own_new_lt, mp_new_lt, rd_newm_lt, own_newm_lt, mp_newm_lt, rd_wr_ne, own_wr_ne, mp_wr_ne, rd_wrm_ne, own_wrm_ne, mp_wrm_ne, rd_new_eq, own_new_eq, mp_newm_eq, s_container_heap_Fix]
  refine InvH.mono (K := fun v H' => v = i64 l.length ∧ H = H') ⟨_, _, n_shed_pile_Len, ptr r, rfl, methR0 (by kernel_rfl), pile_Len_spec m⟩ ?_
  rintro _ _ ⟨rfl, rfl⟩
  simp (disch := (first | omega | (simp only [size_new, size_newm, size_wr, size_wrm] <;> omega) | fail)) only [go_sem, Nat.reduceBEq, Nat.reduceAdd, Nat.reduceMul, Nat.reduceLeDiff, ↓reduceIte, rd_new_lt, own_new_lt, mp_new_lt, rd_newm_lt, own_newm_lt, mp_newm_lt, rd_wr_ne, own_wr_ne, mp_wr_ne, rd_wrm_ne, own_wrm_ne, mp_wrm_ne, rd_new_eq, own_new_eq, mp_newm_eq]
  refine (heap_down_spec m hat hi (Nat.le_refl _) hin (by rw [ht]; exact hA)).mono ?_
  rintro _ H1 ⟨b, l1, at1, q1, rfl, g1, hq1, hT, hF⟩
  have hl1 := g1.len
  cases b with
  | true =>
    have h := hT rfl
    rw [← hl1, List.take_length] at h
    simp (disch := (first | omega | (simp only [size_new, size_newm, size_wr, size_wrm] <;> omega) | fail)) only [go_sem, Nat.reduceBEq, Nat.reduceAdd, Nat.reduceMul, Nat.reduceLeDiff, ↓reduceIte, rd_new_lt, own_new_lt, mp_new_lt, rd_newm_lt, own_newm_lt, mp_newm_lt, rd_wr_ne, own_wr_ne, mp_wr_ne, rd_wrm_ne, own_wrm_ne, mp_wrm_ne, rd_new_eq, own_new_eq, mp_newm_eq]
    exact ⟨rfl, l1, at1, q1, g1, h, by omega⟩
  | false =>
    obtain ⟨e1, e2, hB⟩ := hF rfl
    subst e1 e2
    simp (disch := (first | omega | (simp only [size_new, size_newm, size_wr, size_wrm] <;> omega) | fail)) only [go_sem, Nat.reduceBEq, Nat.reduceAdd, Nat.reduceMul, Nat.reduceLeDiff, ↓reduceIte, rd_new_lt, own_new_lt, mp_new_lt, rd_newm_lt, own_newm_lt, mp_newm_lt, rd_wr_ne, own_wr_ne, mp_wr_ne, rd_wrm_ne, own_wrm_ne, mp_wrm_ne, rd_new_eq, own_new_eq, mp_newm_eq]
    have hm := (upN_mono fine2 ((l1.length : Int) - 1).toNat (i : Int) ((l1.length : Int) - 1) (Nat.le_refl _) (by omega))
    refine (heap_up_spec g1.pile g1.ok (j := i) (mm := l1.length) hi (Nat.le_refl _) hin (by rw [ht]; exact hA) hB).mono ?_
    rintro _ H2 ⟨rfl, l2, at2, q2, g2, hheap, hq2, _⟩
    have hl2 := g2.len
    rw [← hl2, List.take_length] at hheap
    simp (disch := (first | omega | (simp only [size_new, size_newm, size_wr, size_wrm] <;> omega) | fail)) only [go_sem, Nat.reduceBEq, Nat.reduceAdd, Nat.reduceMul, Nat.reduceLeDiff, ↓reduceIte, rd_new_lt, own_new_lt, mp_new_lt, rd_newm_lt, own_newm_lt, mp_newm_lt, rd_wr_ne, own_wr_ne, mp_wr_ne, rd_wrm_ne, own_wrm_ne, mp_wrm_ne, rd_new_eq, own_new_eq, mp_newm_eq]
    refine ⟨rfl, l2, at2, q1 + q2, ⟨?_, g2.ok, g2.mem, g2.len, g2.drop, g2.atl, g2.off, g1.ext.trans g2.ext⟩, hheap, by omega⟩
    rw [show min (st + ((q1 + q2 : Nat) : Int)) 4611686018427387904 = min (min (st + (q1 : Int)) 4611686018427387904 + (q2 : Int)) 4611686018427387904 by omega]
    exact g2.pile

end

end Go.Proofs.Yteicchpglnamcaa
