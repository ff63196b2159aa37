/-
  Texts put behind each other by a program: JoinQ, HufP, HufW, HufL, HufM, Right26, Len26, SumsP, SumV, SumsR, CloneI, CfI, Same, Args26.
-/
import Derived.Test.YtjlnnljohemifaaGreatK0
import Derived.Test.YtjlnnljohemifaaGreatK1
import Derived.Test.YtjlnnljohemifaaGreatK17
import Derived.Test.YtjlnnljohemifaaGreatK19
import Derived.Test.YtjlnnljohemifaaGreatK20
import Derived.Test.YtjlnnljohemifaaGreatK21
set_option linter.unusedVariables false
set_option linter.unusedSimpArgs false
namespace Go.Proofs.YtjlnnljohemifaaGreat
open Go Go.Vc
structure Arf (n : Nat) (A : Ar) : Prop where
  len : A.g.length = n
  mo : A.mo = 4294967295
  free : ∀ x : Int, 0 ≤ x → x < A.nx → ¬ A.live x → x ∈ A.wt
theorem Arf.zero (n : Nat) : Arf n (ar0 (n : Int) 4294967295) := ⟨by simp [ar0], rfl, fun x h0 h1 => by simp [ar0] at h1; omega⟩
theorem Arf.room {n : Nat} {A : Ar} (h : Arf n A) {x : Int} (h0 : 0 ≤ x ∧ x < n) (hl : ¬ A.live x) (ok : ArOk A) : A.pick ≠ none := by
  have hlen := h.len
  have hnx := ok.nx
  unfold Ar.pick
  split
  · simp
  · rename_i hw
    rw [Classical.not_not] at hw
    split
    · rename_i he
      have := h.free x h0.1 (by omega) hl
      rw [hw] at this
      cases this
    · simp
theorem Arf.out {n : Nat} {A A' : Ar} {x : Int} (h : Arf n A) (ok : ArOk A) (hp : A.pick = some (x, A')) : Arf n (A'.out x) := by
  obtain ⟨hx, hxl, hxw, hxn, hg, hct, hmo⟩ := Ar.pick_ok hp ok
  have hx2 : 0 ≤ x ∧ x < A'.g.length := by rw [hg]; exact hx
  refine ⟨by show (A'.g.set _ _).length = n; rw [List.length_set, hg]; exact h.len, by show A'.mo = _; rw [hmo]; exact h.mo, fun y h0 h1 hl => ?_⟩
  have h1 : y < (A'.nx : Int) := h1
  rw [Ar.live_set (A := A') hx2 rfl h0] at hl
  by_cases e : y = x
  · rw [if_pos e] at hl; exact absurd rfl hl
  · rw [if_neg e] at hl
    have hl2 : ¬ A.live y := by unfold Ar.live at hl ⊢; rw [hg] at hl; exact hl
    show y ∈ A'.wt
    unfold Ar.pick at hp
    split at hp
    · rename_i hne
      injection hp with hp
      injection hp with hp1 hp2
      subst hp2
      have hm := h.free y h0 h1 hl2
      have hw : A.wt = A.wt.dropLast ++ [A.wt.getLastD 0] := by
        conv => lhs; rw [← List.dropLast_concat_getLast hne]
        rw [List.getLastD_eq_getLast?, List.getLast?_eq_some_getLast hne]
        rfl
      rw [hw, List.mem_append, List.mem_singleton] at hm
      rcases hm with hm | hm
      · exact hm
      · exact absurd (hm.trans hp1) e
    · split at hp
      · cases hp
      · injection hp with hp
        injection hp with hp1 hp2
        subst hp2
        simp only at h1
        exact h.free y h0 (by omega) hl2
theorem Arf.back {n : Nat} {A : Ar} {x : Int} (h : Arf n A) (hx : 0 ≤ x ∧ x < A.g.length) (hg : A.gen x < 4294967295) : Arf n (A.back x) := by
  refine ⟨by show (A.g.set _ _).length = n; rw [List.length_set]; exact h.len, h.mo, fun y h0 h1 hl => ?_⟩
  rw [Ar.live_set (A := A) hx rfl h0] at hl
  show y ∈ (if A.gen x < A.mo then A.wt ++ [x] else A.wt)
  rw [h.mo, if_pos hg, List.mem_append, List.mem_singleton]
  by_cases e : y = x
  · exact .inr e
  · rw [if_neg e] at hl
    exact .inl (h.free y h0 h1 hl)
theorem pick_arok {A A' : Ar} {x : Int} (hp : A.pick = some (x, A')) (ok : ArOk A) : ArOk A' := by
  have hnx := ok.nx
  unfold Ar.pick at hp
  split at hp
  · rename_i hne
    injection hp with hp
    injection hp with hp1 hp2
    subst hp2
    exact ⟨fun y hy => ok.wl y ((List.dropLast_sublist _).subset hy), List.Nodup.sublist (List.dropLast_sublist _) ok.wd, ok.fr, ok.ct, ok.nx⟩
  · split at hp
    · cases hp
    · injection hp with hp
      injection hp with hp1 hp2
      subst hp2
      exact ⟨fun y hy => by have := ok.wl y hy; exact ⟨this.1, by simp only; omega, this.2.2⟩, ok.wd, fun y hy => ok.fr y (by simp only at hy; omega), ok.ct, by simp only; omega⟩
structure JnI (n : Nat) (w : Nw) (A : Ar) (L : List ((Int × Nat) × Value)) (pool : List (Int × Nat)) (at_ : Nat) : Prop where
  hs : w.has 1
  arf : Arf n A
  lk : Lnk w A
  ok : ArOk A
  c1 : ∀ (x : Int) y, 0 ≤ x → w.cs[x.toNat]? = some y → y.1 = 0 ∨ (y.1 = 1 ∧ ∃ id : Nat, y.2.2 = (id : Int) + 1 ∧ (y.2.1, id) ∈ pool ∧ ((x, A.gen x), i64 id) ∈ L)
  c2 : ∀ p ∈ pool, ∃ x : Int, 0 ≤ x ∧ w.cs[x.toNat]? = some (1, p.1, (p.2 : Int) + 1)
  ge : ∀ x : Int, 0 ≤ x → A.gen x ≤ at_
  ls : ∀ p ∈ L, 0 ≤ p.1.1 ∧ p.1.2 ≤ A.gen p.1.1
  ids : L.map (·.2) = (List.range at_).map fun (i : Nat) => i64 i
  ri : RisI pool
  lt : ∀ p ∈ pool, p.2 < at_
  cn : A.ct = pool.length
theorem JnI.idx {n at_ : Nat} {w : Nw} {A : Ar} {L : List ((Int × Nat) × Value)} {pool : List (Int × Nat)} (h : JnI n w A L pool at_) {a b : Int × Nat} {id : Nat} (h1 : (a, i64 id) ∈ L) (h2 : (b, i64 id) ∈ L) : a = b := by
  obtain ⟨i, hi⟩ := List.getElem?_of_mem h1
  obtain ⟨j, hj⟩ := List.getElem?_of_mem h2
  have hk : ∀ (k : Nat) (c : (Int × Nat) × Value), L[k]? = some c → c.2 = i64 (k : Int) := by
    intro k c hc
    have e1 : (L.map (·.2))[k]? = some c.2 := by rw [List.getElem?_map, hc]; rfl
    rw [h.ids, List.getElem?_map] at e1
    have hlt := (List.getElem?_eq_some_iff.1 hc).1
    have hll : L.length = at_ := by have := congrArg List.length h.ids; simpa using this
    rw [List.getElem?_range (by omega)] at e1
    simpa using e1.symm
  have e1 := hk i _ hi
  have e2 := hk j _ hj
  have e3 : i = j := by
    have := e1.symm.trans e2
    injection this with _ this
    omega
  subst e3
  rw [hi] at hj
  injection hj with hj
  injection hj
theorem JnI.first {n at_ : Nat} {w : Nw} {A : Ar} {L : List ((Int × Nat) × Value)} {pool : List (Int × Nat)} (h : JnI n w A L pool at_) {x : Int} {y : Ce} (hf : w.first 1 x) (hy : w.cs[x.toNat]? = some y) : 0 ≤ x ∧ x < n ∧ ∃ id : Nat, y = (1, y.2.1, (id : Int) + 1) ∧ Lgt (y.2.1, id) pool ∧ ((x, A.gen x), i64 id) ∈ L := by
  obtain ⟨_, f2, f3⟩ := hmW_first.1 hf
  obtain ⟨x0, x1, _⟩ := hmW_get (w := w) (x := x) (by omega)
  have hy1 := hmW_at x0 hy
  rw [f2] at hy1
  have hlen : w.cs.length = n := by rw [h.lk.len]; exact h.arf.len
  rcases h.c1 x y x0 hy with h0 | ⟨_, id, e1, e2, e3⟩
  · omega
  refine ⟨x0, by omega, id, ?_, ⟨e2, fun q hq hne => ?_⟩, e3⟩
  · obtain ⟨a, b, c⟩ := y
    simp only at hy1 e1 ⊢
    rw [← hy1, e1]
  · obtain ⟨z, z0, hz⟩ := h.c2 q hq
    have hzx : z ≠ x := by
      intro e
      rw [e, hy] at hz
      injection hz with hz
      rw [hz] at e1
      simp only at e1
      omega
    have hlt := f3 z (hmW_at z0 hz) hzx
    unfold ltW at hlt
    have k1 : w.key x = y.2.1 ∧ w.seq x = y.2.2 := by
      unfold Nw.key Nw.seq
      simp only [List.getD_eq_getElem?_getD, hy]
      exact ⟨rfl, rfl⟩
    have k2 : w.key z = q.1 ∧ w.seq z = (q.2 : Int) + 1 := by
      unfold Nw.key Nw.seq
      simp only [List.getD_eq_getElem?_getD, hz]
      exact ⟨rfl, rfl⟩
    rw [k1.1, k1.2, k2.1, k2.2] at hlt
    simp only [decide_eq_true_eq] at hlt
    simp only
    omega
theorem JnI.ne0 {n at_ : Nat} {w : Nw} {A : Ar} {L : List ((Int × Nat) × Value)} {pool : List (Int × Nat)} (h : JnI n w A L pool at_) (hp : pool ≠ []) : w.len 1 ≠ 0 := by
  intro h0
  cases pool with
  | nil => exact hp rfl
  | cons p r =>
    obtain ⟨x, x0, hx⟩ := h.c2 p (by simp)
    exact (hmW_len0 (by omega)).1 h0 x (hmW_at x0 hx)
theorem JnI.take {n at_ : Nat} {w : Nw} {A : Ar} {L : List ((Int × Nat) × Value)} {pool : List (Int × Nat)} (h : JnI n w A L pool at_) (hat : at_ < 4294967295) {x k : Int} {id : Nat} (hx : 0 ≤ x ∧ x < n) (hy : w.cs[x.toNat]? = some (1, k, (id : Int) + 1)) (hL : Lgt (k, id) pool) (hm : ((x, A.gen x), i64 id) ∈ L) : JnI n (w.put x (0, 0, 0)) (A.back x) L (wo pool (k, id)) at_ := by
  have hlen : w.cs.length = n := by rw [h.lk.len]; exact h.arf.len
  have hxA : 0 ≤ x ∧ x < A.g.length := by rw [h.arf.len]; exact hx
  have hg : ∀ z : Int, 0 ≤ z → (A.back x).gen z = A.gen z := by
    intro z hz
    rw [Ar.gen_set (A := A) (A' := A.back x) hxA rfl hz]
    split
    · rename_i e; rw [e]
    · rfl
  have hlive : A.live x := (h.lk.live x).1 ⟨hx.1, _, hy, by simp⟩
  refine ⟨h.hs, h.arf.back hxA (by have := h.ge x hx.1; omega), h.lk.put hxA (v := A.gen x) rfl, h.ok.back hlive, fun z y z0 hzy => ?_, fun p hp => ?_, fun z hz => by rw [hg z hz]; exact h.ge z hz, fun p hp => by have := h.ls p hp; exact ⟨this.1, by rw [hg _ this.1]; exact this.2⟩, h.ids, h.ri.wo _, fun p hp => h.lt p (mem_wo.1 hp).1, ?_⟩
  rotate_right
  · have h1 := (wo_perm h.ri hL.m).length_eq
    have h2 := h.cn
    rw [List.length_cons] at h1
    show A.ct - 1 = _
    omega
  · have hzy : (w.cs.set x.toNat (0, 0, 0))[z.toNat]? = some y := hzy
    by_cases e : z = x
    · subst e
      rw [List.getElem?_set_self (by omega)] at hzy
      injection hzy with hzy
      exact .inl (by rw [← hzy])
    · rw [List.getElem?_set_ne (by omega)] at hzy
      rcases h.c1 z y z0 hzy with h0 | ⟨g1, id2, e1, e2, e3⟩
      · exact .inl h0
      · refine .inr ⟨g1, id2, e1, mem_wo.2 ⟨e2, fun e4 => e ?_⟩, by rw [hg z z0]; exact e3⟩
        simp only at e4
        rw [e4] at e3
        have := h.idx e3 hm
        injection this
  · obtain ⟨hp1, hp2⟩ := mem_wo.1 hp
    obtain ⟨z, z0, hz⟩ := h.c2 p hp1
    refine ⟨z, z0, ?_⟩
    show (w.cs.set x.toNat (0, 0, 0))[z.toNat]? = _
    rw [List.getElem?_set_ne ?_]
    · exact hz
    · intro e
      rw [← e, hy] at hz
      injection hz with hz
      injection hz with _ hz
      injection hz with _ hz
      simp only at hp2
      omega
theorem JnI.put {n at_ : Nat} {w : Nw} {A A' : Ar} {L : List ((Int × Nat) × Value)} {pool : List (Int × Nat)} (h : JnI n w A L pool at_) {x : Int} (hp : A.pick = some (x, A')) (k : Int) : (x, A.gen x + 1) ∉ L.map (·.1) ∧ JnI n (w.put x (1, k, (at_ : Int) + 1)) (A'.out x) (L ++ [((x, A.gen x + 1), i64 at_)]) (pool ++ [(k, at_)]) (at_ + 1) := by
  obtain ⟨hx, hxl, hxw, hxn, hgA, hct, hmo⟩ := Ar.pick_ok hp h.ok
  have hlen : w.cs.length = n := by rw [h.lk.len]; exact h.arf.len
  have hAn := h.arf.len
  have hx2 : 0 ≤ x ∧ x < A'.g.length := by rw [hgA]; exact hx
  have hgx : ∀ z, A'.gen z = A.gen z := fun z => by unfold Ar.gen; rw [hgA]
  have hg : ∀ z : Int, 0 ≤ z → (A'.out x).gen z = if z = x then A.gen x + 1 else A.gen z := by
    intro z hz
    rw [Ar.gen_set (A := A') (A' := A'.out x) hx2 rfl hz]
    rw [hgx, hgx]
  have hlv : ∀ z, A'.live z ↔ A.live z := fun z => by unfold Ar.live; rw [hgA]
  have hxi : ¬ InC w.cs x := fun hi => hxl ((h.lk.live x).1 hi)
  refine ⟨fun hm => ?_, ?_⟩
  · obtain ⟨p, hp1, hp2⟩ := List.mem_map.1 hm
    have := (h.ls p hp1).2
    rw [hp2] at this
    simp only at this
    omega
  · refine ⟨h.hs, h.arf.out h.ok hp, h.lk.put hx (v := A.gen x + 1) ?_, ?_, fun z y z0 hzy => ?_, fun p hp => ?_, fun z hz => ?_, fun p hp => ?_, ?_, ?_, fun p hp => ?_, by show A'.ct + 1 = _; rw [hct, h.cn, List.length_append]; rfl⟩
    · show A'.g.set x.toNat (A'.gen x + 1, true) = _
      rw [hgx, hgA]
      rfl
    · refine ArOk.out (A := A) ?_ hgA hx2 (fun hl => hxl ((hlv x).1 hl)) hxw hxn
      exact pick_arok hp h.ok
    · have hzy : (w.cs.set x.toNat (1, k, (at_ : Int) + 1))[z.toNat]? = some y := hzy
      by_cases e : z = x
      · subst e
        rw [List.getElem?_set_self (by omega)] at hzy
        injection hzy with hzy
        subst hzy
        refine .inr ⟨rfl, at_, rfl, by simp, ?_⟩
        rw [hg z z0, if_pos rfl]
        simp
      · rw [List.getElem?_set_ne (by omega)] at hzy
        rcases h.c1 z y z0 hzy with h0 | ⟨g1, id2, e1, e2, e3⟩
        · exact .inl h0
        · exact .inr ⟨g1, id2, e1, List.mem_append_left _ e2, by rw [hg z z0, if_neg e]; exact List.mem_append_left _ e3⟩
    · rcases List.mem_append.1 hp with hp | hp
      · obtain ⟨z, z0, hz⟩ := h.c2 p hp
        refine ⟨z, z0, ?_⟩
        show (w.cs.set x.toNat (1, k, (at_ : Int) + 1))[z.toNat]? = _
        rw [List.getElem?_set_ne ?_]
        · exact hz
        · intro e
          exact hxi ⟨hx.1, _, by rw [e]; exact hz, by simp⟩
      · rw [List.mem_singleton] at hp
        subst hp
        refine ⟨x, hx.1, ?_⟩
        show (w.cs.set x.toNat (1, k, (at_ : Int) + 1))[x.toNat]? = _
        rw [List.getElem?_set_self (by omega)]
    · rw [hg z hz]
      have := h.ge z hz
      have := h.ge x hx.1
      split <;> omega
    · rcases List.mem_append.1 hp with hp | hp
      · have := h.ls p hp
        refine ⟨this.1, ?_⟩
        rw [hg _ this.1]
        split
        · rename_i e; rw [e] at this; omega
        · exact this.2
      · rw [List.mem_singleton] at hp
        subst hp
        exact ⟨hx.1, by rw [hg _ hx.1, if_pos rfl]; exact Nat.le_refl _⟩
    · rw [List.map_append, h.ids, List.range_succ, List.map_append]
      rfl
    · refine List.pairwise_append.2 ⟨h.ri, by simp, fun a ha b hb => ?_⟩
      rw [List.mem_singleton] at hb
      subst hb
      exact h.lt a ha
    · rcases List.mem_append.1 hp with hp | hp
      · have := h.lt p hp; omega
      · rw [List.mem_singleton] at hp
        subst hp
        exact Nat.lt_succ_self _
theorem JnI.zero (n : Nat) : JnI n (nw0 (n : Int)).make (ar0 (n : Int) 4294967295) [] [] 0 := by
  have hgz : ∀ x : Int, (ar0 (n : Int) 4294967295).gen x = 0 := by
    intro x
    unfold Ar.gen ar0
    simp only [List.getD_eq_getElem?_getD, Int.toNat_natCast, List.getElem?_replicate]
    split <;> rfl
  have hlz : ∀ x, ¬ (ar0 (n : Int) 4294967295).live x := by
    rintro x ⟨_, hx⟩
    unfold ar0 at hx
    simp only [Int.toNat_natCast, List.getElem?_replicate] at hx
    split at hx <;> simp at hx
  have hiz : ∀ x, ¬ InC (nw0 (n : Int)).make.cs x := fun x hx => hmW_none (n : Int) x (hmW_inC.2 hx)
  refine ⟨⟨by omega, rfl⟩, Arf.zero n, ⟨by simp [nw0, ar0, Nw.make], fun x => ⟨fun h => absurd h (hiz x), fun h => absurd h (hlz x)⟩⟩, ⟨fun x hx => (by cases hx), List.nodup_nil, fun x _ => hlz x, ?_, Nat.zero_le _⟩, fun x y x0 hy => ?_, fun p hp => (by cases hp), fun x _ => by rw [hgz]; exact Nat.le_refl _, fun p hp => (by cases hp), rfl, List.Pairwise.nil, fun p hp => (by cases hp), rfl⟩
  · show (0 : Int) = ((List.replicate (n : Int).toNat ((0 : Nat), false)).countP (·.2) : Nat)
    rw [List.countP_eq_zero.2]
    · rfl
    · intro a ha
      rw [List.eq_of_mem_replicate ha]
      simp
  · have hy : (List.replicate (n : Int).toNat ((0, 0, 0) : Ce))[x.toNat]? = some y := hy
    exact .inl (by rw [List.eq_of_mem_replicate (List.mem_of_getElem? hy)])
theorem JnI.room {n at_ : Nat} {w : Nw} {A : Ar} {L : List ((Int × Nat) × Value)} {pool : List (Int × Nat)} (h : JnI n w A L pool at_) (hp : pool.length < n) : A.pick ≠ none := by
  have h1 := h.ok.ct
  have h2 := h.cn
  have h3 := h.arf.len
  have h4 : ∃ y ∈ A.g, y.2 = false := by
    apply Classical.byContradiction
    intro hno
    have : A.many = A.g.length := by
      unfold Ar.many
      rw [List.countP_eq_length]
      intro y hy
      cases hb : y.2
      · exact absurd ⟨y, hy, hb⟩ hno
      · rfl
    omega
  obtain ⟨y, hy, hb⟩ := h4
  obtain ⟨i, hi⟩ := List.getElem?_of_mem hy
  have hil := (List.getElem?_eq_some_iff.1 hi).1
  refine h.arf.room (x := (i : Int)) (by omega) (fun hl => ?_) h.ok
  have := hl.2
  rw [Int.toNat_natCast, hi] at this
  simp [hb] at this
structure JnM (H : Hp) (sb mb mp s : Nat) (S : Nat → Prop) (w : Nw) (A : Ar) (q : Int) (L : List ((Int × Nat) × Value)) : Prop where
  st : StM H s S w A q
  o1 : H.own sb = some [ptr s]
  o2 : H.own mb = some [.map (some mp)]
  m : HMap H mp L
  n1 : ¬ S sb ∧ ¬ S mb ∧ ¬ S mp
  n2 : mp ≠ sb ∧ mp ≠ mb
theorem JnM.ext {H H' : Hp} {sb mb mp s : Nat} {S T : Nat → Prop} {w : Nw} {A : Ar} {q : Int} {L : List ((Int × Nat) × Value)} (h : JnM H sb mb mp s S w A q L) (e : Ext T H H') (hd : ∀ z, S z ∨ z = sb ∨ z = mb ∨ z = mp → ¬ T z) : JnM H' sb mb mp s S w A q L :=
  ⟨h.st.ext e (fun z hz => hd z (.inl hz)), e.own h.o1 (hd _ (by simp)), e.own h.o2 (hd _ (by simp)), h.m.ext e (hd _ (by simp)), h.n1, h.n2⟩
theorem JnM.lt {H : Hp} {sb mb mp s : Nat} {S : Nat → Prop} {w : Nw} {A : Ar} {q : Int} {L : List ((Int × Nat) × Value)} (h : JnM H sb mb mp s S w A q L) : ∀ z, S z ∨ z = sb ∨ z = mb ∨ z = mp → z < H.size := by
  rintro z (hz | rfl | rfl | rfl)
  · exact h.st.slt z hz
  · exact own_lt h.o1
  · exact own_lt h.o2
  · exact h.m.lt
theorem JnM.to {H H' : Hp} {sb mb mp s : Nat} {S S' : Nat → Prop} {w w' : Nw} {A A' : Ar} {q q' : Int} {L : List ((Int × Nat) × Value)} (h : JnM H sb mb mp s S w A q L) (st : StM H' s S' w' A' q') (e : Ext S H H') (hs : ∀ z, S' z → S z ∨ H.size ≤ z) : JnM H' sb mb mp s S' w' A' q' L := by
  have h1 := own_lt h.o1
  have h2 := own_lt h.o2
  have h3 := h.m.lt
  have hn : ∀ z, ¬ S z → z < H.size → ¬ S' z := fun z h1 h2 h3 => by rcases hs z h3 with h | h; exact h1 h; omega
  exact ⟨st, e.own h.o1 h.n1.1, e.own h.o2 h.n1.2.1, h.m.ext e h.n1.2.2, ⟨hn _ h.n1.1 h1, hn _ h.n1.2.1 h2, hn _ h.n1.2.2 h3⟩, h.n2⟩
section
variable {H : Hp} {sb mb mp s n at_ : Nat} {S : Nat → Prop} {w : Nw} {A : Ar} {q : Int} {L : List ((Int × Nat) × Value)} {pool : List (Int × Nat)}
theorem lengths_put_spec (m : JnM H sb mb mp s S w A (at_ : Int) L) (h : JnI n w A L pool at_) (hp : pool.length < n) (hat : at_ < 1000000) (k : Int) :
    CallH Tryz.prog n_lengths_joined_1 [i64 at_, i64 k, ptr sb, ptr mb] H fun v H' => Post (v = .tuple [].toArray ∧ ∃ S' w' A' L', JnM H' sb mb mp s S' w' A' ((at_ : Int) + 1) L' ∧ JnI n w' A' L' (pool ++ [(k, at_)]) (at_ + 1) ∧ Ext (fun z => S z ∨ z = mp) H H' ∧ ∀ z, S' z → S z ∨ H.size ≤ z) := by
  refine callH_ofC mixed d_lengths_joined_1 (nt := 17) (by kernel_rfl) (by simp) ?_
  refine v2 s_lengths_joined_1.eq_1 (rd_of_own m.o1) ?_
  refine (pq_Insert_spec m.st h.hs (fun x x0 _ => by have := h.ge x x0; omega) (by omega)).mono ?_
  rintro _ H1 (⟨hno, _⟩ | ⟨x, A', hpk, rfl, S1, st1, e1, hs1⟩)
  · exact absurd hno (h.room hp)
  obtain ⟨hnew, hJ⟩ := h.put hpk k
  obtain ⟨hx, _⟩ := Ar.pick_ok hpk h.ok
  have m1 := m.to st1 e1 hs1
  have hsz1 := e1.size
  refine vs ?_
  obtain ⟨f2, b2, z2⟩ := zst H1 114 [Value.int .i64 0, Value.int .u32 0] [i64 x, Value.int .u32 ((A.gen x + 1 : Nat) : Int)]
  generalize (H1.new 114 [Value.int .i64 0, Value.int .u32 0]).wr H1.size [i64 x, Value.int .u32 ((A.gen x + 1 : Nat) : Int)] = H2 at *
  have m2 := m1.ext f2 (fun _ _ h => h)
  refine v2 (rd_of_own m2.o2) (rd_of_own b2) ?_
  refine ⟨keyOk_hnd _ _, ?_⟩
  refine HMap.upd m2.m (a := (x, A.gen x + 1)) hnew fun H3 mp3 e3 => ?_
  refine vs ?_
  refine ⟨rfl, S1, _, _, _, ⟨m2.st.ext e3 (fun z hz e => m2.n1.2.2 (by rw [← e]; exact hz)), e3.own m2.o1 (Ne.symm m2.n2.1), e3.own m2.o2 (Ne.symm m2.n2.2), mp3, m2.n1, m2.n2⟩, hJ, ?_, hs1⟩
  exact ((e1.mono fun z _ h => .inl h).trans (f2.mono fun z _ h => h.elim)).trans (e3.mono fun z _ h => .inr h)
end
end Go.Proofs.YtjlnnljohemifaaGreat

namespace Go.Proofs.YtjlnnljohemifaaGreat
open Go Go.Vc
structure FineW (ws : List Int) : Prop where
  n1 : 1 ≤ ws.length
  n2 : ws.length ≤ 4096
  pos : ∀ x ∈ ws, 1 ≤ x
  sum : ws.sum ≤ 9223372036854775807
theorem HufI.sum {ws : List Int} {k : Nat} {s : HSt} (h : HufI ws k s) : ∀ p ∈ s.pool, ∀ q ∈ s.pool, p.2 ≠ q.2 → p.1 + q.1 ≤ sumI ws.length (fun i => ws.getD i 0) ∨ ∃ i, i < ws.length ∧ ws.getD i 0 < 0 := by
  intro p hp q hq hne
  by_cases hneg : ∃ i, i < ws.length ∧ ws.getD i 0 < 0
  · exact .inr hneg
  · refine .inl ?_
    rw [← h.wt p hp, ← h.wt q hq, ← sumI_add]
    have : ∀ n, n ≤ ws.length → sumI n (fun i => (if s.R i = p.2 then ws.getD i 0 else 0) + (if s.R i = q.2 then ws.getD i 0 else 0)) ≤ sumI n (fun i => ws.getD i 0) := by
      intro n hn
      induction n with
      | zero => exact Int.le_refl _
      | succ n ih =>
        have := ih (by omega)
        have h0 : 0 ≤ ws.getD n 0 := by
          apply Classical.byContradiction
          intro hc
          exact hneg ⟨n, by omega, by omega⟩
        rw [sumI_succ, sumI_succ]
        split <;> split <;> omega
    exact this _ (Nat.le_refl _)
theorem sumI_list (ws : List Int) : sumI ws.length (fun i => ws.getD i 0) = ws.sum := by
  unfold sumI
  rw [map_range_getD]
theorem jn_start {H : Hp} {s : Nat} {S : Nat → Prop} {w : Nw} {A : Ar} {q : Int} (st : StM H s S w A q) (T1 T2 : TypeId) :
    JnM (((H.new T1 [ptr s]).newm.new T2 [Value.map none]).wr (Array.size H + 1 + 1) [Value.map (some (Array.size H + 1))]) H.size (H.size + 1 + 1) (H.size + 1) s S w A q [] ∧ Fresh H (((H.new T1 [ptr s]).newm.new T2 [Value.map none]).wr (Array.size H + 1 + 1) [Value.map (some (Array.size H + 1))]) := by
  have hslt := st.slt
  have f1 : Fresh H (H.new T1 [ptr s]) := (Ext.refl _ _).new _ _
  have b1 : (H.new T1 [ptr s]).own H.size = some [ptr s] := own_new _ _ _
  have z1 : (H.new T1 [ptr s]).size = H.size + 1 := size_new _ _ _
  generalize H.new T1 [ptr s] = H1 at *
  have f2 : Fresh H1 H1.newm := (Ext.refl _ _).newm
  have b2 := HMap.new H1
  have z2 : H1.newm.size = H1.size + 1 := size_newm _
  generalize H1.newm = H2 at *
  have f3 : Fresh H2 (H2.new T2 [Value.map none]) := (Ext.refl _ _).new _ _
  have b3 : (H2.new T2 [Value.map none]).own H2.size = some [Value.map none] := own_new _ _ _
  have z3 : (H2.new T2 [Value.map none]).size = H2.size + 1 := size_new _ _ _
  generalize H2.new T2 [Value.map none] = H3 at *
  rw [z2, z1] at b3
  rw [z1] at b2
  have e4 : Ext (fun x => x = H.size + 1 + 1) H3 (H3.wr (H.size + 1 + 1) [Value.map (some (H.size + 1))]) := (Ext.refl (fun x => x = H.size + 1 + 1) _).wr (fun _ => rfl) _
  have b4 := own_wr_same (l := [Value.map (some (H.size + 1))]) b3
  have hf : Fresh H (H3.wr (H.size + 1 + 1) [Value.map (some (H.size + 1))]) := ((f1.trans f2).trans f3).then e4 (fun z hz => by omega)
  have hn : ∀ k, ¬ S (H.size + k) := fun k h => by have := hslt _ h; omega
  refine ⟨⟨st.ext hf (fun _ _ h => h), e4.own (f3.own (f2.own b1 (fun h => h)) (fun h => h)) (by omega), b4, (b2.ext f3 (fun h => h)).ext e4 (by omega), ⟨hn 0, hn 2, hn 1⟩, by omega, by omega⟩, hf⟩
theorem map_set {N : Nat} (f : Nat → Value) {i : Nat} (hi : i < N) (v : Value) : ((List.range N).map f).set i v = (List.range N).map fun j => if j = i then v else f j := by
  apply List.ext_getElem?
  intro j
  rw [List.getElem?_set, List.getElem?_map, List.getElem?_map]
  by_cases e : i = j
  · subst e
    rw [List.getElem?_range hi]
    simp [hi]
  · by_cases hj : j < N
    · rw [List.getElem?_range hj, if_neg e]
      simp [Ne.symm e]
    · rw [List.getElem?_eq_none (by simp; omega), if_neg e]
      rfl
def poolI (ws : List Int) (i : Nat) : List (Int × Nat) := (List.range i).map fun j => (ws.getD j 0, j)
theorem poolI_succ {ws : List Int} {i : Nat} {x : Int} (hx : ws[i]? = some x) : poolI ws i ++ [(x, i)] = poolI ws (i + 1) := by
  unfold poolI
  rw [List.range_succ, List.map_append, List.map_singleton, List.getD_eq_getElem?_getD, hx]
  rfl
theorem poolI_len (ws : List Int) (i : Nat) : (poolI ws i).length = i := by simp [poolI]
set_option maxRecDepth 100000 in
set_option maxHeartbeats 4000000 in
theorem lengths_joined_spec {H : Hp} {s : Nat} {S : Nat → Prop} {ws : List Int} {a : Option Addr} {c : Nat} (st : StM H s S (nw0 (ws.length : Int)) (ar0 (ws.length : Int) 4294967295) 0) (hr : ∀ H', Ext S H H' → RdS H' 1 (.slice a ws.length c) ws.length (ws.map i64)) (hf : FineW ws) (h2 : 2 ≤ ws.length) :
    CallH Tryz.prog n_lengths_joined [ptr s, .slice a ws.length c] H fun v H' => Post (∃ b, v = .slice (some ⟨b, 0, none⟩) (2 * ws.length - 1) (2 * ws.length - 1) ∧ H.size ≤ b ∧ Sl H' 1 v (2 * ws.length - 1) ((List.range (2 * ws.length - 1)).map fun i => i64 ((hend ws).up i : Int)) (some b) ∧ Ext S H H') := by
  have hn2 := hf.n2
  refine ccT d_lengths_joined ⟨rfl, ?_⟩
  refine v1 s_lengths_joined.eq_1 ?_
  obtain ⟨m0, f0⟩ := jn_start st 81 107
  generalize ((H.new 81 [ptr s]).newm.new 107 [Value.map none]).wr (H.size + 1 + 1) [Value.map (some (H.size + 1))] = H0 at *
  refine (pq_NewHeap_spec m0.st (by simp [nw0])).mono ?_
  rintro _ H1 ⟨rfl, S1, st1, e1, hs1⟩
  have m1 := m0.to st1 e1 hs1
  have z0 := f0.size
  have hx1 : Ext S H H1 := (f0.mono fun _ _ h => h.elim).trans e1
  have hs1 : ∀ z, S1 z → S z ∨ H.size ≤ z := fun z hz => (hs1 z hz).imp_right fun h => by omega
  refine vs ?_
  refine LoopV.intro (fun mm env H' => ∃ (i : Nat) (S' : Nat → Prop) (w' : Nw) (A' : Ar) (L' : List ((Int × Nat) × Value)), mm = ws.length - i ∧ i ≤ ws.length ∧ JnM H' H.size (H.size + 1 + 1) (H.size + 1) s S' w' A' (i : Int) L' ∧ JnI ws.length w' A' L' (poolI ws i) i ∧ Ext S H H' ∧ (∀ z, S' z → S z ∨ H.size ≤ z) ∧
    env = [(1, .slice a ws.length c), (2, ptr H.size), (5, ptr (H.size + 1 + 1)), (6, .func (.func n_lengths_joined_1) #[] #[ptr H.size, ptr (H.size + 1 + 1)]), (22, .slice a ws.length c), (23, i64 ws.length), (24, i64 i)]) ws.length ⟨0, S1, _, _, [], by omega, by omega, m1, JnI.zero _, hx1, hs1, rfl⟩ ?_
  clear m1 st1 e1 hx1 hs1
  rintro mm env H1 ⟨i, S1, w1, A1, L1, rfl, hi, m1, j1, x1, hs1, rfl⟩
  refine vs ?_
  refine Both.dec (fun hlt => ?_) (fun hlt => ?_) <;> refine vs ?_
  · have hi2 : i < ws.length := by omega
    obtain ⟨x, hx⟩ : ∃ x, ws[i]? = some x := ⟨_, List.getElem?_eq_getElem hi2⟩
    obtain ⟨_, b, o, lb, rfl, hrd2, hcell⟩ := RdS.num (hr H1 x1) hx
    refine ⟨⟨by omega, by omega⟩, ?_⟩
    refine v4 hrd2 Int.toNat_natCast Nat.mul_one hcell ?_
    refine ⟨by kernel_rfl, ?_⟩
    refine CallH.mono (by simpa using lengths_put_spec m1 j1 (by rw [poolI_len]; exact hi2) (by omega) x) ?_
    rintro _ H2 ⟨rfl, S2, w2, A2, L2, m2, j2, e2, hs2⟩
    rw [poolI_succ hx] at j2
    refine vs ?_
    rw [wrap64 (n := (i : Int) + 1) (by omega) (by omega)]
    have z1 := x1.size
    refine ⟨ws.length - (i + 1), by omega, i + 1, S2, w2, A2, L2, rfl, by omega, m2, j2, ?_, fun z hz => ?_, rfl⟩
    · exact ⟨Nat.le_trans x1.size e2.size, fun z hz hn => by rw [e2.keep z (by omega) (fun h => by rcases h with h | h; exact (hs1 z h).elim hn (fun h => by omega); omega), x1.keep z hz hn]⟩
    · rcases hs2 z hz with h | h
      · exact hs1 z h
      · exact .inr (by omega)
  have hi2 : i = ws.length := by omega
  subst hi2
  clear hlt hi
  obtain ⟨N, hN⟩ : ∃ N : Nat, N = 2 * ws.length - 1 := ⟨_, rfl⟩
  rw [← hN]
  rw [wrap64 (n := 2 * (ws.length : Int)) (by omega) (by omega), show (2 * (ws.length : Int) - 1) = (N : Int) by omega, wrap64 (n := (N : Int)) (by omega) (by omega)]
  refine ⟨⟨by omega, by omega, by omega, by omega⟩, ?_⟩
  refine v1 Int.toNat_natCast ?_
  have fn : Fresh H1 (H1.new 3 (padZ [i64 0] N)) := (Ext.refl _ _).new _ _
  have zn : (H1.new 3 (padZ [i64 0] N)).size = H1.size + 1 := size_new _ _ _
  have sn : Sl (H1.new 3 (padZ [i64 0] N)) 1 (.slice (some ⟨H1.size, 0, none⟩) N N) N ((List.range N).map fun i => i64 ((hinit ws).up i : Int)) (some H1.size) := by
    rw [padZ_int, List.map_replicate, show ((List.range N).map fun i => i64 ((hinit ws).up i : Int)) = List.replicate N (i64 0) from ?_]
    · exact Sl.lit H1 _ 1 N _ (by simp)
    · apply List.ext_getElem?
      intro j
      rw [List.getElem?_map, List.getElem?_replicate]
      by_cases hj : j < N
      · rw [List.getElem?_range hj, if_pos hj]; rfl
      · rw [List.getElem?_eq_none (by simp; omega), if_neg hj]; rfl
  have hub := m1.lt
  have hub0 : H.size + 1 + 1 < H1.size := hub _ (by simp)
  have m2 := m1.ext fn (fun _ _ h => h)
  have x2 : Ext S H (H1.new 3 (padZ [i64 0] N)) := x1.trans (fn.mono fun z _ h => h.elim)
  have hnub : ¬ S1 H1.size := fun h => by have := hub _ (.inl h); omega
  generalize hubd : H1.size = ub at *
  generalize H1.new 3 (padZ [i64 0] N) = H2 at *
  refine LoopV.intro (fun mm env H' => ∃ (k : Nat) (S' : Nat → Prop) (w' : Nw) (A' : Ar) (L' : List ((Int × Nat) × Value)), mm = ws.length - 1 - k ∧ k + 1 ≤ ws.length ∧ JnM H' H.size (H.size + 1 + 1) (H.size + 1) s S' w' A' ((ws.length + k : Nat) : Int) L' ∧ JnI ws.length w' A' L' (hrun k (hinit ws)).pool (ws.length + k) ∧
    Sl H' 1 (.slice (some ⟨ub, 0, none⟩) N N) N ((List.range N).map fun i => i64 ((hrun k (hinit ws)).up i : Int)) (some ub) ∧ ¬ S' ub ∧ Ext S H H' ∧ (∀ z, S' z → S z ∨ H.size ≤ z) ∧
    env = [(2, ptr H.size), (5, ptr (H.size + 1 + 1)), (6, .func (.func n_lengths_joined_1) #[] #[ptr H.size, ptr (H.size + 1 + 1)]), (10, .slice (some ⟨ub, 0, none⟩) N N), (11, i64 (ws.length + k : Nat))]) (ws.length - 1) ⟨0, S1, w1, A1, L1, by omega, by omega, m2, j1, sn, hnub, x2, hs1, rfl⟩ ?_
  clear m1 j1 x1 hs1 m2 sn hnub x2 fn zn hub w1 A1 L1
  rintro mm env H3 ⟨k, S3, w3, A3, L3, rfl, hk, m3, j3, s3, hub3, x3, hs3, rfl⟩
  have hI := HufI.run ws k (by omega)
  have hIs : ∀ hh : k + 1 < ws.length, HufI ws (k + 1) (hrun (k + 1) (hinit ws)) := fun hh => HufI.run ws (k + 1) hh
  have hstep : hrun (k + 1) (hinit ws) = (hrun k (hinit ws)).step := rfl
  have hat := hI.at_
  have hlen := hI.len
  have hid := hI.ids
  have hsum := hI.sum
  have hpk := HSt.picks hI
  have hwt := hI.wt
  rw [hstep] at hIs
  generalize hT : hrun k (hinit ws) = t at *
  refine vs ?_
  refine Both.dec (fun hlt => ?_) (fun hlt => ?_) <;> refine vs ?_
  · have hk2 : k + 1 < ws.length := by omega
    obtain ⟨la, lb, hab, hbm, hperm⟩ := hpk hk2
    have hpl := hperm.length_eq
    simp only [List.length_cons] at hpl
    have hsz3 := m3.lt
    refine v1 (rd_of_own m3.o1) ?_
    refine (pq_ExtractMin_spec m3.st j3.hs).mono ?_
    rintro _ H4 (⟨h0, _⟩ | ⟨x, y, hx, hy, rfl, S4, st4, e4, hs4⟩)
    · exact absurd h0 (j3.ne0 (fun e => by rw [e] at hlen; simp at hlen; omega))
    obtain ⟨x0, xn, id, hyd, hl, hm⟩ := j3.first hx hy
    have hida := Lgt.eq hid hl la
    have j4 := j3.take (by omega) ⟨x0, xn⟩ (by rw [← hyd]; exact hy) hl hm
    rw [hida] at j4
    have m4 := m3.to st4 e4 hs4
    have hub4 : ¬ S4 ub := fun h => (hs4 _ h).elim hub3 (fun h => by have := s3.lt; omega)
    have s4 := s3.ext e4 (fun b hb => by injection hb with hb; rw [← hb]; exact hub3)
    have z4 := e4.size
    have y4 : Ext S H H4 := ⟨Nat.le_trans x3.size z4, fun z hz hn => by rw [e4.keep z (by have := x3.size; omega) (fun h => (hs3 z h).elim hn (fun h => by omega)), x3.keep z hz hn]⟩
    have hs4 : ∀ z, S4 z → S z ∨ H.size ≤ z := fun z hz => (hs4 z hz).elim (hs3 z) (fun h => .inr (by have := x3.size; omega))
    refine vs ?_
    obtain ⟨f5, b5, z5⟩ := zst H4 114 [Value.int .i64 0, Value.int .u32 0] [i64 x, Value.int .u32 ((A3.gen x : Nat) : Int)]
    generalize hB : H4.size = hb at *
    generalize (H4.new 114 [Value.int .i64 0, Value.int .u32 0]).wr hb [i64 x, Value.int .u32 ((A3.gen x : Nat) : Int)] = H5 at *
    have m5 := m4.ext f5 (fun _ _ h => h)
    have s5 := s4.ext f5 (fun _ _ h => h)
    refine v1 (rd_of_own m5.o1) ?_
    have hsz5 := m5.lt
    have hnb5 : ¬ S4 hb := fun h => by have := st4.slt _ h; omega
    refine (pq_ExtractMin_spec m5.st j4.hs).mono ?_
    have hw4 : (wo t.pool t.a).length + 1 = t.pool.length := by
      have := (wo_perm hid la.m).length_eq
      rw [List.length_cons] at this; omega
    rintro _ H6 (⟨h0, _⟩ | ⟨x', y', hx', hy', rfl, S6, st6, e6, hs6⟩)
    · exact absurd h0 (j4.ne0 (fun e => by rw [e] at hw4; simp at hw4; omega))
    obtain ⟨x0', xn', id', hyd', hl', hm'⟩ := j4.first hx' hy'
    have hida' := Lgt.eq (hid.wo _) hl' lb
    have j6 := j4.take (by omega) ⟨x0', xn'⟩ (by rw [← hyd']; exact hy') hl' hm'
    rw [hida'] at j6
    have m6 := m5.to st6 e6 hs6
    have hub6 : ¬ S6 ub := fun h => (hs6 _ h).elim hub4 (fun h => by have := s5.lt; omega)
    have s6 := s5.ext e6 (fun b hb => by injection hb with hb; rw [← hb]; exact hub4)
    have b6 := e6.own b5 hnb5
    have z6 := e6.size
    have hx3 := x3.size
    have y6 : Ext S H H6 := ⟨by omega, fun z hz hn => by rw [e6.keep z (by omega) (fun h => (hs4 z h).elim hn (fun h => by omega)), f5.keep z (by omega) (fun h => h), y4.keep z hz hn]⟩
    have hs6 : ∀ z, S6 z → S z ∨ H.size ≤ z := fun z hz => (hs6 z hz).elim (hs4 z) (fun h => .inr (by omega))
    refine vs ?_
    obtain ⟨f7, b7, z7⟩ := zst H6 114 [Value.int .i64 0, Value.int .u32 0] [i64 x', Value.int .u32 (((A3.back x).gen x' : Nat) : Int)]
    generalize hC : H6.size = hc at *
    generalize (H6.new 114 [Value.int .i64 0, Value.int .u32 0]).wr hc [i64 x', Value.int .u32 (((A3.back x).gen x' : Nat) : Int)] = H7 at *
    have m7 := m6.ext f7 (fun _ _ h => h)
    have s7 := s6.ext f7 (fun _ _ h => h)
    have b8 := f7.own b6 (fun h => h)
    have y7 := y6.trans (f7.mono fun z _ h => h.elim)
    have k1 : id < N := by
      have e1 := hI.lt _ la.m
      rw [← hida] at e1
      simp only at e1
      omega
    have k2 : id' < N := by
      have e1 := hI.lt _ hbm
      rw [← hida'] at e1
      simp only at e1
      omega
    have s7' := s7
    obtain ⟨_, ll, cc, hv, ho7, hc7, hc8, _⟩ := s7'
    injection hv with hv1 hv2 hv3
    subst hv3
    refine v3 (rd_of_own m7.o2) (rd_of_own b8) (rd_of_own b7) ?_
    refine ⟨keyOk_hnd _ _, ?_⟩
    refine HMap.look m7.m (a := (x, A3.gen x)) hm ?_
    refine v3 (rd_of_own m7.o2) (rd_of_own b8) (rd_of_own b7) ?_
    refine ⟨keyOk_hnd _ _, ?_⟩
    refine HMap.look m7.m (a := (x', (A3.back x).gen x')) hm' ?_
    refine vs ?_
    refine ⟨⟨by omega, by omega⟩, ?_⟩
    refine v4 ho7 Int.toNat_natCast Nat.mul_one Nat.zero_add ?_
    refine ⟨by omega, ?_⟩
    have e8 : Ext (fun z => z = ub) H7 (H7.wr ub (ll.set id (i64 ((ws.length + k : Nat) : Int)))) := (Ext.refl (fun z => z = ub) _).wr (fun _ => rfl) _
    have o8 : (H7.wr ub (ll.set id (i64 ((ws.length + k : Nat) : Int)))).own ub = some (ll.set id (i64 ((ws.length + k : Nat) : Int))) := own_wr_same ho7
    have s8 := s7.set1 ho7 id (i64 ((ws.length + k : Nat) : Int))
    rw [map_set _ k1] at s8
    refine vs ?_
    refine ⟨⟨by omega, by omega⟩, ?_⟩
    refine v4 o8 Int.toNat_natCast Nat.mul_one Nat.zero_add ?_
    refine ⟨by rw [List.length_set]; omega, ?_⟩
    refine vs ?_
    generalize hll : ll.set id (i64 ((ws.length + k : Nat) : Int)) = ll8 at *
    have e9 : Ext (fun z => z = ub) (H7.wr ub ll8) ((H7.wr ub ll8).wr ub (ll8.set id' (i64 ((ws.length + k : Nat) : Int)))) := (Ext.refl (fun z => z = ub) _).wr (fun _ => rfl) _
    have s9 := s8.set1 o8 id' (i64 ((ws.length + k : Nat) : Int))
    rw [map_set _ k2] at s9
    rw [wr_wr] at e9 s9
    generalize H7.wr ub (ll8.set id' (i64 ((ws.length + k : Nat) : Int))) = H9 at *
    have hne9 : ∀ z, S6 z ∨ z = H.size ∨ z = H.size + 1 + 1 ∨ z = H.size + 1 → z ≠ ub := by
      rintro z (hz | hz | hz | hz) e
      · exact hub6 (by rw [← e]; exact hz)
      · omega
      · omega
      · omega
    have m9 := (m7.ext e8 (fun z hz e => hne9 z hz e)).ext e9 (fun z hz e => hne9 z hz e)
    have y9 : Ext S H H9 := ⟨Nat.le_trans y7.size (Nat.le_trans e8.size e9.size), fun z hz hn => by rw [e9.keep z (by have := e8.size; have := y7.size; omega) (by omega), e8.keep z (by have := y7.size; omega) (by omega), y7.keep z hz hn]⟩
    have hsumk : 0 ≤ t.a.1 + t.b.1 ∧ t.a.1 + t.b.1 ≤ 9223372036854775807 := by
      have hneg : ¬ ∃ i, i < ws.length ∧ ws.getD i 0 < 0 := by
        rintro ⟨i, hi, h0⟩
        have hm : ws.getD i 0 ∈ ws := by
          rw [List.getD_eq_getElem?_getD, List.getElem?_eq_getElem hi]
          exact List.getElem_mem hi
        have := hf.pos _ hm
        omega
      have hnn : ∀ p ∈ t.pool, 0 ≤ p.1 := by
        intro p hp
        rw [← hwt p hp]
        refine sumI_nonneg fun i hi => ?_
        split
        · apply Classical.byContradiction
          intro h0
          exact hneg ⟨i, hi, by omega⟩
        · exact Int.le_refl _
      have h1 := hnn _ la.m
      have h2 := hnn _ hbm
      rcases hsum _ la.m _ hbm hab with h | h
      · rw [sumI_list] at h
        have := hf.sum
        omega
      · exact absurd h hneg
    have ha1 : y.2.1 = t.a.1 := by rw [← hida]
    have hb1 : y'.2.1 = t.b.1 := by rw [← hida']
    rw [ha1, hb1, wrap64 (n := t.a.1 + t.b.1) (by omega) (by omega)]
    refine ⟨by kernel_rfl, ?_⟩
    have hw6 : (wo (wo t.pool t.a) t.b).length + 2 = t.pool.length := by
      have := (wo_perm (hid.wo _) lb.m).length_eq
      rw [List.length_cons] at this; omega
    refine CallH.mono (by simpa using lengths_put_spec m9 j6 (by omega) (by omega) (t.a.1 + t.b.1)) ?_
    rintro _ H10 ⟨rfl, S10, w10, A10, L10, m10, j10, e10, hs10⟩
    refine vs ?_
    rw [wrap64 (n := ((ws.length + k : Nat) : Int) + 1) (by omega) (by omega)]
    have hz9 := y9.size
    have hs9 := s9.lt
    refine ⟨ws.length - 1 - (k + 1), by omega, k + 1, S10, w10, A10, L10, rfl, by omega, ?_, ?_, ?_, ?_, ?_, ?_, ?_⟩
    · rw [show ((ws.length + (k + 1) : Nat) : Int) = ((ws.length + k : Nat) : Int) + 1 by omega]; exact m10
    · rw [hstep]
      have : t.step.pool = wo (wo t.pool t.a) t.b ++ [(t.a.1 + t.b.1, ws.length + k)] := by unfold HSt.step; rw [hat]
      rw [this]
      exact j10
    · rw [hstep]
      have : (fun (i : Nat) => i64 (t.step.up i : Int)) = fun j => if j = id' then i64 ((ws.length + k : Nat) : Int) else if j = id then i64 ((ws.length + k : Nat) : Int) else i64 (t.up j : Int) := by
        funext j
        have e1 : t.a.2 = id := by rw [← hida]
        have e2 : t.b.2 = id' := by rw [← hida']
        show i64 ((if j = t.a.2 ∨ j = t.b.2 then t.at_ else t.up j : Nat) : Int) = _
        rw [e1, e2, hat]
        by_cases h1 : j = id'
        · rw [if_pos (.inr h1), if_pos h1]
        · by_cases h2 : j = id
          · rw [if_pos (.inl h2), if_neg h1, if_pos h2]
          · rw [if_neg (by omega), if_neg h1, if_neg h2]
      rw [this]
      exact s9.ext e10 (fun b hb => by injection hb with hb; rw [← hb]; rintro (h | h); exact hub6 h; omega)
    · intro h
      rcases hs10 ub h with h | h
      · exact hub6 h
      · omega
    · exact ⟨Nat.le_trans y9.size e10.size, fun z hz hn => by rw [e10.keep z (by omega) (fun h => by rcases h with h | h; exact (hs6 z h).elim hn (fun h => by omega); omega), y9.keep z hz hn]⟩
    · intro z hz
      rcases hs10 z hz with h | h
      · exact hs6 z h
      · exact .inr (by omega)
    · rw [show ((ws.length + (k + 1) : Nat) : Int) = ((ws.length + k : Nat) : Int) + 1 by omega]
  · have hk2 : k + 1 = ws.length := by omega
    refine ⟨ub, rfl, by omega, ?_, x3⟩
    unfold hend
    rw [show ws.length - 1 = k by omega, hT]
    exact s3
instance (ws : List Int) : Decidable (FineW ws) := decidable_of_iff (1 ≤ ws.length ∧ ws.length ≤ 4096 ∧ (∀ x ∈ ws, 1 ≤ x) ∧ ws.sum ≤ 9223372036854775807) ⟨fun ⟨a, b, c, d⟩ => ⟨a, b, c, d⟩, fun h => ⟨h.n1, h.n2, h.pos, h.sum⟩⟩
theorem sum_nonneg : ∀ (l : List Int), (∀ x ∈ l, 1 ≤ x) → 0 ≤ l.sum := by
  intro l
  induction l with
  | nil => intro _; exact Int.le_refl _
  | cons a r ih =>
    intro h
    have h1 := h a (by simp)
    have h2 := ih (fun x hx => h x (by simp [hx]))
    rw [List.sum_cons]
    omega
theorem sum_take_le {ws : List Int} (h : ∀ x ∈ ws, 1 ≤ x) (j : Nat) : (ws.take j).sum ≤ ws.sum := by
  have h1 : ws.sum = (ws.take j).sum + (ws.drop j).sum := by rw [← List.sum_append, List.take_append_drop]
  have h2 := sum_nonneg (ws.drop j) (fun x hx => h x (List.mem_of_mem_drop hx))
  omega
theorem sum_take_succ {ws : List Int} {j : Nat} {x : Int} (hx : ws[j]? = some x) : (ws.take (j + 1)).sum = (ws.take j).sum + x := by
  rw [List.take_add_one, hx, List.sum_append]
  show _ + [x].sum = _
  rw [List.sum_cons, List.sum_nil]
  omega
theorem lengths_fine_spec {H : Hp} {a : Option Addr} {c : Nat} {ws : List Int} (h : RdS H 1 (.slice a ws.length c) ws.length (ws.map i64)) (hb : ∀ x ∈ ws, x ≤ 9223372036854775807) : CallH Tryz.prog n_lengths_fine [.slice a ws.length c] H fun v H' => Post (v = .bool (decide (FineW ws)) ∧ H' = H) := by
  refine ccT d_lengths_fine ⟨rfl, ?_⟩
  refine v1 s_lengths_fine.eq_1 ?_
  refine Both.dec (fun h1 => ?_) (fun h1 => ?_) <;> refine v1 decide_true ?_
  · have hnf : ¬ FineW ws := fun hf => by have := hf.n1; omega
    rw [decide_eq_false hnf]
    exact ⟨rfl, rfl⟩
  refine Both.dec (fun h1' => ?_) (fun h1' => ?_) <;> refine v1 decide_true ?_
  · have hnf : ¬ FineW ws := fun hf => by have := hf.n2; omega
    rw [decide_eq_false hnf]
    exact ⟨rfl, rfl⟩
  refine LoopV.intro (fun m env H' => ∃ j : Nat, m = ws.length - j ∧ j ≤ ws.length ∧ H' = H ∧ (∀ x ∈ ws.take j, 1 ≤ x) ∧ (ws.take j).sum ≤ 9223372036854775807 ∧ env = [(3, i64 (9223372036854775807 - (ws.take j).sum)), (14, .slice a ws.length c), (15, i64 ws.length), (16, i64 j)]) ws.length ⟨0, by omega, by omega, rfl, by simp, by simp, by simp⟩ ?_
  rintro m env H1 ⟨j, rfl, hj, rfl, hp, hs, rfl⟩
  refine vs ?_
  refine Both.dec (fun hlt => ?_) (fun hlt => ?_) <;> refine vs ?_
  · have hj2 : j < ws.length := by omega
    obtain ⟨x, hx⟩ : ∃ x, ws[j]? = some x := ⟨_, List.getElem?_eq_getElem hj2⟩
    obtain ⟨_, b, o, lb, rfl, hrd2, hcell⟩ := RdS.num h hx
    have hxm := List.mem_of_getElem? hx
    have hxb := hb x hxm
    have hts := sum_take_succ hx
    have hn0 := sum_nonneg _ hp
    refine ⟨⟨by omega, by omega⟩, ?_⟩
    refine v4 hrd2 Int.toNat_natCast Nat.mul_one hcell ?_
    refine Both.dec (fun h2 => ?_) (fun h2 => ?_) <;> refine v1 decide_true ?_
    · have hnf : ¬ FineW ws := fun hf => by have h3 := hf.pos x hxm; omega
      rw [decide_eq_false hnf]
      exact ⟨rfl, rfl⟩
    refine Both.dec (fun h2' => ?_) (fun h2' => ?_) <;> refine v1 decide_true ?_
    · have hnf : ¬ FineW ws := fun hf => by
        have h4 := sum_take_le hf.pos (j + 1)
        have h5 := hf.sum
        omega
      rw [decide_eq_false hnf]
      exact ⟨rfl, rfl⟩
    · rw [wrap64 (n := 9223372036854775807 - (ws.take j).sum - x) (by omega) (by omega), wrap64 (n := (j : Int) + 1) (by omega) (by omega)]
      refine ⟨ws.length - (j + 1), by omega, j + 1, rfl, by omega, trivial, fun y hy => ?_, by omega, ?_⟩
      · rw [List.take_add_one, hx, List.mem_append] at hy
        rcases hy with hy | hy
        · exact hp y hy
        · have : y = x := by simpa using hy
          omega
      · rw [hts, show (9223372036854775807 : Int) - (ws.take j).sum - x = 9223372036854775807 - ((ws.take j).sum + x) by omega]
        rfl
  · have hj2 : j = ws.length := by omega
    subst hj2
    rw [List.take_length] at hp hs
    refine ⟨?_, rfl⟩
    rw [decide_eq_true ⟨by omega, by omega, hp, hs⟩]
    rfl
def lenW (ws : List Int) : List Int := if ws.length = 1 then [1] else (hufL ws).map fun (n : Nat) => (n : Int)
def lenA (kd dd : Int) (ws : List Int) : Int × List Int := if chk kd dd ≠ 0 then (chk kd dd, []) else if FineW ws then (0, lenW ws) else (201, [])
theorem lenW_len (ws : List Int) : (lenW ws).length = ws.length := by
  unfold lenW
  split
  · rename_i h; simp [h]
  · rw [List.length_map, hufL_len]
def LenV (H : Hp) (sv : Value) (ls : List Int) : Prop := ∃ a c, sv = .slice a ls.length c ∧ RdS H 1 sv ls.length (ls.map i64)
theorem LenV.nil (H : Hp) : LenV H (.slice none 0 0) [] := ⟨none, 0, rfl, rfl, .inl ⟨rfl, none, 0, rfl⟩⟩
theorem Sl.fresh' {H H' : Hp} {size n : Nat} {v : Value} {xs : List Value} {fp : Option Nat} (h : Sl H size v n xs fp) (e : Fresh H H') : Sl H' size v n xs fp := h.ext e (fun _ _ h => h)
theorem range_get {N : Nat} {f : Nat → Value} {i : Nat} (hi : i < N) : ((List.range N).map f)[i]? = some (f i) := by
  rw [List.getElem?_map, List.getElem?_range hi]; rfl
set_option maxRecDepth 100000 in
set_option maxHeartbeats 4000000 in
theorem lengths_Lengths_spec {H : Hp} (kd dd : Int) (hop : FineK kd dd → OpenN kd dd) {a : Option Addr} {c : Nat} {ws : List Int} (h : RdS H 1 (.slice a ws.length c) ws.length (ws.map i64)) (hb : ∀ x ∈ ws, x ≤ 9223372036854775807) :
    CallH Tryz.prog n_lengths_Lengths [cfgV kd dd, .slice a ws.length c] H fun v H' => Post (∃ sv, v = .tuple [sv, i64 (lenA kd dd ws).1].toArray ∧ LenV H' sv (lenA kd dd ws).2 ∧ Fresh H H') := by
  refine ccT d_lengths_Lengths ⟨rfl, ?_⟩
  refine v1 s_lengths_Lengths.eq_1 ?_
  have f0 : Fresh H (H.new 23 [i64 kd, i64 dd]) := (Ext.refl _ _).new _ _
  have o0 : (H.new 23 [i64 kd, i64 dd]).own H.size = some [i64 kd, i64 dd] := own_new _ _ _
  generalize H.new 23 [i64 kd, i64 dd] = H0 at *
  refine (gauge_Chk_spec kd dd H0).mono ?_
  rintro _ H1 ⟨rfl, f1⟩
  have o1 := f1.own o0 (fun h => h)
  have g1 := f0.trans f1
  refine vs ?_
  refine Both.dec (fun hc => ?_) (fun hc => ?_) <;> refine vs ?_
  rotate_left
  · have hA : lenA kd dd ws = (chk kd dd, []) := by unfold lenA; rw [if_pos hc]
    rw [hA]
    exact ⟨_, rfl, LenV.nil _, g1⟩
  have hK := chk_zero.1 hc
  refine (lengths_fine_spec (h.fresh g1) hb).mono ?_
  rintro _ H1' ⟨rfl, e⟩
  obtain rfl := e.symm
  refine vs ?_
  by_cases hF : FineW ws
  rotate_left
  · rw [decide_eq_false hF]
    refine v1 decide_true ?_
    have hA : lenA kd dd ws = (201, []) := by unfold lenA; rw [if_neg (by omega), if_neg hF]
    rw [hA]
    exact ⟨_, rfl, LenV.nil _, g1⟩
  rw [decide_eq_true hF]
  have hA : lenA kd dd ws = (0, lenW ws) := by unfold lenA; rw [if_neg (by omega), if_pos hF]
  rw [hA]
  have hn1 := hF.n1
  have hn2 := hF.n2
  refine v1 decide_true ?_
  refine Both.dec (fun h1 => ?_) (fun h1 => ?_) <;> refine vs ?_
  · have hw : lenW ws = [1] := by unfold lenW; rw [if_pos (by omega)]
    rw [hw]
    refine ⟨_, rfl, ⟨_, _, rfl, (Sl.lit_at (n := 1) (xs := [i64 1]) rfl rfl).rd⟩, g1.trans ((Ext.refl _ _).new _ _)⟩
  have h2 : 2 ≤ ws.length := by omega
  refine v1 (rd_of_own o1) ?_
  refine (pq_Open_spec hK (hop hK) (cap := (ws.length : Int)) (mo := 4294967295) ⟨by omega, by omega⟩ ⟨by omega, by omega⟩ H1).mono ?_
  rintro _ H2 ⟨s, S, rfl, st, f2, hS⟩
  have g2 := g1.trans f2
  have hSz : ∀ z, S z → H.size ≤ z := fun z hz => by have := hS z hz; have := g1.size; omega
  refine vs ?_
  refine (lengths_joined_spec st (fun H' e => h.fresh (g2.then e hSz)) hF h2).mono ?_
  rintro _ H3 ⟨ub, rfl, hub, su, e3⟩
  have g3 := g2.then e3 hSz
  obtain ⟨N, hN⟩ : ∃ N : Nat, N = 2 * ws.length - 1 := ⟨_, rfl⟩
  rw [← hN] at su ⊢
  refine v1 Int.toNat_natCast ?_
  refine ⟨⟨by omega, by omega, by omega, by omega⟩, ?_⟩
  have E := HufF.end_ hn1
  have hup := E.up
  have htop := E.top
  have hEd : hufL ws = (List.range ws.length).map (hend ws).d := rfl
  generalize hend ws = t at *
  refine v1 Int.toNat_natCast ?_
  have fn : Fresh H3 (H3.new 3 (padZ [i64 0] N)) := (Ext.refl _ _).new _ _
  have sd : Sl (H3.new 3 (padZ [i64 0] N)) 1 (.slice (some ⟨H3.size, 0, none⟩) N N) N ((List.range N).map fun j => if N - 1 ≤ j then i64 (t.d j : Int) else i64 0) (some H3.size) := by
    rw [padZ_int, List.map_replicate, show ((List.range N).map fun j => if N - 1 ≤ j then i64 (t.d j : Int) else i64 0) = List.replicate N (i64 0) from ?_]
    · exact Sl.lit H3 _ 1 N _ (by simp)
    · apply List.ext_getElem?
      intro j
      rw [List.getElem?_map, List.getElem?_replicate]
      by_cases hj : j < N
      · rw [List.getElem?_range hj, if_pos hj, Option.map_some]
        by_cases hj2 : N - 1 ≤ j
        · rw [if_pos hj2, show j = 2 * ws.length - 2 by omega, htop]; rfl
        · rw [if_neg hj2]
      · rw [List.getElem?_eq_none (by simp; omega), if_neg hj]; rfl
  have hdb : ub < H3.size := su.lt
  have su2 := Sl.fresh' su fn
  have g4 := g3.trans fn
  have hz3 := g3.size
  generalize hD : H3.size = db at *
  generalize H3.new 3 (padZ [i64 0] N) = H4 at *
  rw [wrap64 (n := (N : Int) - 2) (by omega) (by omega)]
  refine LoopV.intro (fun mm env H' => ∃ r : Nat, mm = r ∧ r ≤ N - 1 ∧ Ext (fun z => z = db) H4 H' ∧ Sl H' 1 (.slice (some ⟨db, 0, none⟩) N N) N ((List.range N).map fun j => if r ≤ j then i64 (t.d j : Int) else i64 0) (some db) ∧
    env = [(7, i64 ws.length), (10, .slice (some ⟨ub, 0, none⟩) N N), (11, .slice (some ⟨db, 0, none⟩) N N), (12, i64 ((r : Int) - 1))]) (N - 1) ⟨N - 1, rfl, Nat.le_refl _, Ext.refl _ _, sd, by rw [show (((N - 1 : Nat) : Int) - 1) = (N : Int) - 2 by omega]⟩ ?_
  clear sd
  rintro mm env H5 ⟨r, e0, hr, e5, s5, rfl⟩
  obtain rfl := e0.symm
  have su5 := su2.ext e5 (fun b hb => by injection hb with hb; omega)
  have g5 : Fresh H H5 := g4.then e5 (fun z hz => by omega)
  refine vs ?_
  refine Both.dec (fun hge => ?_) (fun hge => ?_) <;> refine vs ?_
  · obtain ⟨i, rfl⟩ : ∃ i, r = i + 1 := ⟨r - 1, by omega⟩
    obtain ⟨u1, u2, u3⟩ := hup i (by omega)
    have k1 := range_get (N := N) (f := fun i => i64 (t.up i : Int)) (i := i) (by omega)
    have k2 := range_get (N := N) (f := fun j => if i + 1 ≤ j then i64 (t.d j : Int) else i64 0) (i := t.up i) (by omega)
    rw [if_pos (by omega)] at k2
    have su5' := su5
    have s5' := s5
    obtain ⟨_, lu, cu, hv, hou, hu1, hu2, _⟩ := su5'
    injection hv with _ _ hv
    subst hv
    obtain ⟨_, ld, cd, hv, hod, hd1, hd2, _⟩ := s5'
    injection hv with _ _ hv
    subst hv
    have c1 := Sl.get su5 hou k1
    have c2 := Sl.get s5 hod k2
    have hi0 : (((i + 1 : Nat) : Int) - 1) = (i : Int) := by omega
    rw [hi0]
    have hdl := E.dl (t.up i) (by have := E.at_; omega)
    refine ⟨⟨by omega, by omega⟩, ?_⟩
    refine v5 (rd_of_own hou) Int.toNat_natCast Nat.mul_one Nat.zero_add c1 ?_
    refine ⟨⟨by omega, by omega⟩, ?_⟩
    refine v5 (rd_of_own hod) Int.toNat_natCast Nat.mul_one Nat.zero_add c2 ?_
    refine ⟨⟨by omega, by omega⟩, ?_⟩
    refine v4 hod Int.toNat_natCast Nat.mul_one Nat.zero_add ?_
    rw [wrap64 (n := (t.d (t.up i) : Int) + 1) (by omega) (by omega)]
    refine ⟨by omega, ?_⟩
    have e6 : Ext (fun z => z = db) H5 (H5.wr db (ld.set i (i64 ((t.d (t.up i) : Int) + 1)))) := (Ext.refl (fun z => z = db) _).wr (fun _ => rfl) _
    have s6 := s5.set1 hod i (i64 ((t.d (t.up i) : Int) + 1))
    rw [map_set _ (by omega : i < N)] at s6
    refine vs ?_
    rw [wrap64 (n := (i : Int) - 1) (by omega) (by omega)]
    refine ⟨i, by omega, i, rfl, by omega, e5.trans e6, ?_, rfl⟩
    have : (fun j => if j = i then i64 ((t.d (t.up i) : Int) + 1) else if i + 1 ≤ j then i64 (t.d j : Int) else i64 0) = fun j => if i ≤ j then i64 (t.d j : Int) else i64 0 := by
      funext j
      by_cases hj : j = i
      · rw [if_pos hj, if_pos (by omega), hj, u3]; rfl
      · rw [if_neg hj]
        by_cases hj2 : i + 1 ≤ j
        · rw [if_pos hj2, if_pos (by omega)]
        · rw [if_neg hj2, if_neg (by omega)]
    rw [this] at s6
    exact s6
  · have hr0 : r = 0 := by omega
    subst hr0
    have hlw : lenW ws = (hufL ws).map fun (n : Nat) => (n : Int) := by unfold lenW; rw [if_neg (by omega)]
    obtain ⟨q0, ld, cd, hv, hod, hd1, hd2, hd3⟩ := s5
    injection hv with _ _ hv
    subst hv
    refine ⟨⟨by omega, by omega, by omega, by omega⟩, ?_⟩
    refine v1 Int.toNat_natCast ?_
    have hll : (lenW ws).length = ws.length := lenW_len ws
    rw [if_neg (by omega)]
    refine ⟨_, rfl, ⟨some ⟨db, 0, none⟩, ws.length, ?_, ?_⟩, g5⟩
    · rw [hll]
      simp [Addr.add]
    · rw [hll]
      refine ⟨by rw [List.length_map, hll, Nat.mul_one], .inr ⟨db, 0, ws.length, ld, by simp [Addr.add], rd_of_own hod, by omega, ?_⟩⟩
      rw [List.drop_zero, Nat.mul_one]
      have h6 : ld.take ws.length = (ld.take (N * 1)).take ws.length := by rw [List.take_take, show min ws.length (N * 1) = ws.length by omega]
      rw [h6, hd3, hlw, hEd, List.map_map, List.map_map, ← List.map_take, List.take_range, show min ws.length N = ws.length by omega]
      refine List.map_congr_left fun j _ => ?_
      rw [if_pos (Nat.zero_le _)]
      rfl
theorem ref26_Right_spec {H : Hp} {a : Option Addr} {c : Nat} {ws : List Int} (h : RdS H 1 (.slice a ws.length c) ws.length (ws.map i64)) (hb : ∀ x ∈ ws, x ≤ 9223372036854775807) (hm : ws.length ≤ 9223372036854775807) : CallH Tryz.prog n_ref26_Right [.slice a ws.length c] H fun v H' => Post (v = .bool (decide (FineW ws)) ∧ H' = H) := by
  refine ccT d_ref26_Right ⟨rfl, ?_⟩
  refine v1 s_ref26_Right.eq_1 ?_
  refine LoopV.intro (fun m env H' => ∃ j : Nat, m = ws.length - j ∧ j ≤ ws.length ∧ H' = H ∧ (∀ x ∈ ws.take j, 1 ≤ x) ∧ (ws.take j).sum ≤ 9223372036854775807 ∧ env = [(0, .slice a ws.length c), (3, i64 (9223372036854775807 - (ws.take j).sum)), (6, .slice a ws.length c), (7, i64 ws.length), (8, i64 j)]) ws.length ⟨0, by omega, by omega, rfl, by simp, by simp, by simp⟩ ?_
  rintro m env H1 ⟨j, rfl, hj, rfl, hp, hs, rfl⟩
  refine vs ?_
  refine Both.dec (fun hlt => ?_) (fun hlt => ?_) <;> refine vs ?_
  · have hj2 : j < ws.length := by omega
    obtain ⟨x, hx⟩ : ∃ x, ws[j]? = some x := ⟨_, List.getElem?_eq_getElem hj2⟩
    obtain ⟨_, b, o, lb, rfl, hrd2, hcell⟩ := RdS.num h hx
    have hxm := List.mem_of_getElem? hx
    have hxb := hb x hxm
    have hts := sum_take_succ hx
    have hn0 := sum_nonneg _ hp
    refine ⟨⟨by omega, by omega⟩, ?_⟩
    refine v4 hrd2 Int.toNat_natCast Nat.mul_one hcell ?_
    refine Both.dec (fun h2 => ?_) (fun h2 => ?_) <;> refine v1 decide_true ?_
    · have hnf : ¬ FineW ws := fun hf => by have h3 := hf.pos x hxm; omega
      rw [decide_eq_false hnf]
      exact ⟨rfl, rfl⟩
    refine Both.dec (fun h2' => ?_) (fun h2' => ?_) <;> refine v1 decide_true ?_
    · have hnf : ¬ FineW ws := fun hf => by
        have h4 := sum_take_le hf.pos (j + 1)
        have h5 := hf.sum
        omega
      rw [decide_eq_false hnf]
      exact ⟨rfl, rfl⟩
    · rw [wrap64 (n := 9223372036854775807 - (ws.take j).sum - x) (by omega) (by omega), wrap64 (n := (j : Int) + 1) (by omega) (by omega)]
      refine ⟨ws.length - (j + 1), by omega, j + 1, rfl, by omega, trivial, fun y hy => ?_, by omega, ?_⟩
      · rw [List.take_add_one, hx, List.mem_append] at hy
        rcases hy with hy | hy
        · exact hp y hy
        · have : y = x := by simpa using hy
          omega
      · rw [hts, show (9223372036854775807 : Int) - (ws.take j).sum - x = 9223372036854775807 - ((ws.take j).sum + x) by omega]
        rfl
  · have hj2 : j = ws.length := by omega
    subst hj2
    rw [List.take_length] at hp hs
    refine Both.dec (fun h1 => ?_) (fun h1 => ?_) <;> refine v1 decide_true ?_
    · refine ⟨?_, rfl⟩
      have : FineW ws ↔ (ws.length : Int) ≤ 4096 := ⟨fun h => by have := h.n2; omega, fun h => ⟨by omega, by omega, hp, hs⟩⟩
      exact congrArg Value.bool (decide_eq_decide.2 this.symm)
    · have hnf : ¬ FineW ws := fun hf => by have := hf.n1; omega
      rw [decide_eq_false hnf]
      exact ⟨rfl, rfl⟩
structure TrM (H : Hp) (S : Nat → Prop) (v : Value) (ts : List (Int × List Int)) (fp : Option Nat) (us : List (Int × Value)) : Prop where
  sl : Sl H 2 v us.length (flatT us) fp
  has : PR (HasM H (fun z => S z ∨ fp = some z)) us ts
theorem TrM.slc {H : Hp} {S : Nat → Prop} {v : Value} {ts : List (Int × List Int)} {fp : Option Nat} {us : List (Int × Value)} (m : TrM H S v ts fp us) : SlcT us := fun u hu => by
  obtain ⟨i, hi⟩ := List.mem_iff_getElem?.1 hu
  have h1 := (List.getElem?_eq_some_iff.1 hi).1
  obtain ⟨_, a, c, h2, _⟩ := m.has.at_ i u _ hi (List.getElem?_eq_getElem (by rw [← m.has.len]; exact h1))
  exact ⟨_, _, _, h2⟩
theorem TrM.ws {H : Hp} {S : Nat → Prop} {v : Value} {ts : List (Int × List Int)} {fp : Option Nat} {us : List (Int × Value)} (m : TrM H S v ts fp us) : us.map (·.1) = ts.map (·.1) := m.has.map fun _ _ h => h.1
theorem TrM.ext {H H' : Hp} {S E : Nat → Prop} {v : Value} {ts : List (Int × List Int)} {fp : Option Nat} {us : List (Int × Value)} (m : TrM H S v ts fp us) (e : Ext E H H') (hf : ∀ b, fp = some b → ¬ E b) (hE : ∀ z, z < H.size → E z → S z) : TrM H' S v ts fp us :=
  ⟨m.sl.ext e hf, m.has.imp fun _ _ _ _ h => h.ext e (fun z hz he => .inl (hE z hz he)) (fun z _ h => h)⟩
theorem TrM.lt {H : Hp} {S : Nat → Prop} {v : Value} {ts : List (Int × List Int)} {fp : Option Nat} {us : List (Int × Value)} (m : TrM H S v ts fp us) {b : Nat} (h : fp = some b) : b < H.size := by
  have := m.sl
  rw [h] at this
  exact Sl.lt this
theorem TrM.val {H : Hp} {S : Nat → Prop} {v : Value} {ts : List (Int × List Int)} {fp : Option Nat} {us : List (Int × Value)} (m : TrM H S v ts fp us) : ∃ a c, v = .slice a us.length c ∧ us.length ≤ c := slv_val m.sl
theorem TrM.push {T : TypeId} {H : Hp} {S : Nat → Prop} {v : Value} {ts : List (Int × List Int)} {fp : Option Nat} {us : List (Int × Value)} {K : Value → Hp → Prop} (m : TrM H S v ts fp us) {u : Int × Value} {t : Int × List Int} (hu : HasM H (fun z => S z ∨ fp = some z) u t) (hl : us.length ≤ 1000000) (hS : ∀ z, H.size ≤ z → ¬ S z)
    (hk : ∀ v' H' fp' us', TrM H' S v' (ts ++ [t]) fp' us' → Ext (fun z => fp = some z) H H' → (fp' = fp ∨ ∃ b, fp' = some b ∧ H.size ≤ b) → K v' H') :
    AppendV T 2 32 [i64 0, .slice none 0 0] v (.slice (some ⟨H.size, 0, none⟩) 1 1) (H.new T [i64 u.1, u.2]) K := by
  obtain ⟨hu1, a, c, hu2, hu3, hu4, hu5⟩ := hu
  have fl : Fresh H (H.new T [i64 u.1, u.2]) := (Ext.refl _ _).new _ _
  have hfr : fl.size = fl.size := rfl
  have one : allOne (flatT [u]) := ones_T fun t ht => by
    rw [List.mem_singleton] at ht
    rw [ht, hu2]
    exact ⟨_, _, _, rfl⟩
  refine Sl.append (m.sl.ext fl (fun _ _ h => h)) (Sl.lit_at (size := 2) (n := 1) (xs := flatT [u]) rfl rfl).rd rfl one (by omega) ?_
  intro v' H' fp' s' e' hf'
  have hz := size_new H T [i64 u.1, u.2]
  have hsz : H.size ≤ H'.size := Nat.le_trans fl.size e'.size
  have e2 : Ext (fun z => fp = some z) H H' := ⟨hsz, fun z hz hn => by
    rw [e'.keep z (Nat.lt_of_lt_of_le hz fl.size) hn, fl.keep z hz (fun h => h)]⟩
  have hfp' : fp' = fp ∨ ∃ b, fp' = some b ∧ H.size ≤ b := by
    rcases hf' with h | ⟨b, h1, h2, _⟩
    · exact .inl h
    · exact .inr ⟨b, h1, by omega⟩
  have hS' : ∀ z, z < H.size → (S z ∨ fp' = some z) → (S z ∨ fp = some z) := fun z hz h => by
    rcases h with h | h
    · exact .inl h
    · rcases hfp' with h1 | ⟨b, h1, h2⟩
      · exact .inr (by rw [← h1]; exact h)
      · rw [h1] at h; injection h with h; omega
  refine hk v' H' fp' (us ++ [u]) ⟨by rw [List.length_append, flatT_app]; exact s', ?_⟩ e2 hfp'
  refine PR.snoc (m.has.imp fun _ _ _ _ h => h.ext e2 (fun z _ h => .inr h) hS') ?_
  exact HasM.ext ⟨hu1, a, c, hu2, hu3, hu4, hu5⟩ e2 (fun z _ h => .inr h) hS'
theorem TrM.erase {H H' : Hp} {S : Nat → Prop} {v v' : Value} {ts : List (Int × List Int)} {fp fp' : Option Nat} {us : List (Int × Value)} (m : TrM H S v ts fp us) (f : Fresh H H') {i : Nat} (s' : Sl H' 2 v' (us.eraseIdx i).length (flatT (us.eraseIdx i)) fp') (h : ∀ b, fp' = some b → H.size ≤ b) :
    TrM H' S v' (ts.eraseIdx i) fp' (us.eraseIdx i) := by
  refine ⟨s', (m.has.erase i).imp fun _ _ _ _ hh => hh.ext f (fun _ _ hf => hf.elim) (fun z hz hs => ?_)⟩
  rcases hs with hs | hs
  · exact .inl hs
  · have := h z hs
    omega
def outR (n : Nat) (d : Nat → Nat) : List Value := (List.range n).map fun x => i64 (d x : Int)
theorem outR_len (n : Nat) (d : Nat → Nat) : (outR n d).length = n := by unfold outR; simp
theorem outR_at {n x : Nat} (d : Nat → Nat) (h : x < n) : (outR n d)[x]? = some (i64 (d x : Int)) := range_get h
theorem outR_zero (n : Nat) : padZ [i64 0] n = outR n (fun _ => 0) := by
  rw [padZ_int, List.map_replicate]
  apply List.ext_getElem?
  intro j
  rw [List.getElem?_replicate]
  by_cases hj : j < n
  · rw [if_pos hj, outR_at _ hj]; rfl
  · rw [if_neg hj, List.getElem?_eq_none (by rw [outR_len]; omega)]
theorem outR_congr {n : Nat} {d d' : Nat → Nat} (h : ∀ x, x < n → d x = d' x) : outR n d = outR n d' := by
  unfold outR
  exact List.map_congr_left fun x hx => by rw [h x (List.mem_range.1 hx)]
theorem outR_set {n x : Nat} {d d' : Nat → Nat} (h : x < n) (he : ∀ y, y ≠ x → d y = d' y) : (outR n d).set x (i64 (d' x : Int)) = outR n d' := by
  apply List.ext_getElem?
  intro j
  by_cases hj : j < n
  · by_cases hx : j = x
    · subst hx
      rw [List.getElem?_set_self (by rw [outR_len]; exact hj), outR_at _ hj]
    · rw [List.getElem?_set_ne (Ne.symm hx), outR_at _ hj, outR_at _ hj, he j hx]
  · rw [List.getElem?_eq_none (by rw [List.length_set, outR_len]; omega), List.getElem?_eq_none (by rw [outR_len]; omega)]
theorem outR_rd {H : Hp} {b n : Nat} {d : Nat → Nat} (h : H.own b = some (outR n d)) : RdS H 1 (.slice (some ⟨b, 0, none⟩) n n) n (outR n d) := by
  refine ⟨by rw [outR_len]; omega, .inr ⟨b, 0, n, _, rfl, rd_of_own h, by rw [outR_len]; omega, ?_⟩⟩
  rw [List.drop_zero, List.take_of_length_le (by rw [outR_len]; omega)]
theorem HasM.of_sl {H : Hp} {S : Nat → Prop} {w : Int} {sv : Value} {hs : List Int} {fp : Option Nat} (s : Sl H 1 sv hs.length (hs.map i64) fp) (h : ∀ b, fp = some b → ¬ S b) : HasM H S (w, sv) (w, hs) := by
  have r := s.rd
  obtain ⟨a, c, rfl, hle⟩ := slv_val s
  refine ⟨rfl, a, c, rfl, r, hle, fun x hx => ?_⟩
  cases fp with
  | none =>
    obtain ⟨_, _, e⟩ := s
    injection e with e
    rw [e] at hx
    cases hx
  | some b =>
    obtain ⟨_, l, c', e, ho, _⟩ := s
    injection e with e
    rw [e] at hx
    injection hx with hx
    subst hx
    exact ⟨own_lt ho, h b rfl⟩
theorem pushY {H : Hp} {T : Nat} {w u : Value} {xs ys : List Int} {fp : Option Nat} {K : Value → Hp → Prop} (s : Sl H 1 w xs.length (xs.map i64) fp) (r : RdS H 1 u ys.length (ys.map i64)) (hl : xs.length + ys.length ≤ 1000000000000)
    (hk : ∀ w' H' fp', Sl H' 1 w' (xs ++ ys).length ((xs ++ ys).map i64) fp' → Ext (fun b => fp = some b) H H' → (fp' = fp ∨ ∃ b, fp' = some b ∧ H.size ≤ b ∧ b < H'.size) → K w' H') :
    AppendV T 1 8 [i64 0] w u H K := by
  refine Sl.append s r rfl (ones_is ys) (by omega) ?_
  intro v' H' fp' s' e' hf'
  exact hk v' H' fp' (by rw [List.length_append, List.map_append]; exact s') e' hf'
set_option maxRecDepth 100000 in
set_option maxHeartbeats 4000000 in
theorem ref26_Lengths_spec {H : Hp} (kd dd : Int) {a : Option Addr} {c : Nat} {ws : List Int} (h : RdS H 1 (.slice a ws.length c) ws.length (ws.map i64)) (hb : ∀ x ∈ ws, x ≤ 9223372036854775807) (hm : ws.length ≤ 9223372036854775807) :
    CallH Tryz.prog n_ref26_Lengths [cfgV kd dd, .slice a ws.length c] H fun v H' => Post (∃ sv, v = .tuple [sv, i64 (lenA kd dd ws).1].toArray ∧ LenV H' sv (lenA kd dd ws).2 ∧ Fresh H H') := by
  refine ccT d_ref26_Lengths ⟨rfl, ?_⟩
  refine v1 s_ref26_Lengths.eq_1 ?_
  have f0 : Fresh H (H.new 23 [i64 kd, i64 dd]) := (Ext.refl _ _).new _ _
  have o0 : (H.new 23 [i64 kd, i64 dd]).own H.size = some [i64 kd, i64 dd] := own_new _ _ _
  generalize H.new 23 [i64 kd, i64 dd] = H0 at *
  refine v1 (rd_of_own o0) ?_
  refine (ref02_Chk_spec kd dd H0).mono ?_
  rintro _ H1 ⟨rfl, f1⟩
  have o1 := f1.own o0 (fun h => h)
  have g1 := f0.trans f1
  refine vs ?_
  refine Both.dec (fun hc => ?_) (fun hc => ?_) <;> refine vs ?_
  rotate_left
  · have hA : lenA kd dd ws = (chk kd dd, []) := by unfold lenA; rw [if_pos hc]
    rw [hA]
    exact ⟨_, rfl, LenV.nil _, g1⟩
  have hK := chk_zero.1 hc
  refine (ref26_Right_spec (h.fresh g1) hb hm).mono ?_
  rintro _ H1' ⟨rfl, e⟩
  obtain rfl := e.symm
  refine vs ?_
  by_cases hF : FineW ws
  rotate_left
  · rw [decide_eq_false hF]
    refine v1 decide_true ?_
    have hA : lenA kd dd ws = (201, []) := by unfold lenA; rw [if_neg (by omega), if_neg hF]
    rw [hA]
    exact ⟨_, rfl, LenV.nil _, g1⟩
  rw [decide_eq_true hF]
  have hA : lenA kd dd ws = (0, lenW ws) := by unfold lenA; rw [if_neg (by omega), if_pos hF]
  rw [hA]
  have hn1 := hF.n1
  have hn2 := hF.n2
  refine v1 decide_true ?_
  refine Both.dec (fun h1 => ?_) (fun h1 => ?_) <;> refine vs ?_
  · have hw : lenW ws = [1] := by unfold lenW; rw [if_pos (by omega)]
    rw [hw]
    refine ⟨_, rfl, ⟨_, _, rfl, (Sl.lit_at (n := 1) (xs := [i64 1]) rfl rfl).rd⟩, g1.trans ((Ext.refl _ _).new _ _)⟩
  have h2 : 2 ≤ ws.length := by omega
  refine ⟨⟨by omega, by omega, by omega, by omega⟩, ?_⟩
  refine v1 Int.toNat_natCast ?_
  obtain ⟨n, hn⟩ : ∃ n, n = ws.length := ⟨_, rfl⟩
  rw [outR_zero]
  have fa : Fresh H1 (H1.new 3 (outR ws.length fun _ => 0)) := (Ext.refl _ _).new _ _
  have oa : (H1.new 3 (outR ws.length fun _ => 0)).own H1.size = some (outR ws.length fun _ => 0) := own_new _ _ _
  have za : (H1.new 3 (outR ws.length fun _ => 0)).size = H1.size + 1 := size_new _ _ _
  obtain ⟨ob, hob⟩ : ∃ ob, ob = H1.size := ⟨_, rfl⟩
  rw [← hob] at oa za ⊢
  generalize H1.new 3 (outR ws.length fun _ => 0) = H2 at *
  refine vs ?_
  have fb : Fresh H2 (H2.new 88 []) := (Ext.refl _ _).new _ _
  have sb : Sl (H2.new 88 []) 2 (.slice (some ⟨H2.size, 0, none⟩) 0 0) 0 (flatT []) (some H2.size) := Sl.lit H2 _ 2 0 [] rfl
  have ob3 := fb.own oa (fun h => h)
  have hobl : ob < H2.size := own_lt oa
  have hoH : H.size ≤ ob := by have := g1.size; omega
  rw [za] at sb
  obtain ⟨lv, hlv⟩ : ∃ lv, lv = Value.slice (some ⟨ob + 1, 0, none⟩) 0 0 := ⟨_, rfl⟩
  rw [← hlv] at sb ⊢
  generalize H2.new 88 [] = H3 at *
  have m3 : TrM H3 (fun z => z = ob) lv (ts0 ws 0) (some (ob + 1)) [] := ⟨sb, PR.nil⟩
  have g3 : Fresh H H3 := (g1.trans fa).trans fb
  refine LoopV.intro (fun mm env H' => ∃ (j : Nat) (lv : Value) (fp : Option Nat) (us : List (Int × Value)), mm = ws.length - j ∧ j ≤ ws.length ∧ TrM H' (fun z => z = ob) lv (ts0 ws j) fp us ∧ (∀ b, fp = some b → ob < b) ∧ Ext (fun z => ob < z) H3 H' ∧
    env = [(7, .slice (some ⟨ob, 0, none⟩) ws.length ws.length), (8, lv), (34, .slice a ws.length c), (35, i64 ws.length), (36, i64 j)]) ws.length ⟨0, lv, some (ob + 1), [], by omega, by omega, m3, (fun b hb => by injection hb with hb; omega), Ext.refl _ _, rfl⟩ ?_
  clear m3 sb hlv
  rintro mm env H4 ⟨j, lv, fp, us, rfl, hj, m4, hfp, e4, rfl⟩
  have g4 : Fresh H H4 := g3.then e4 (fun z hz => by omega)
  have hul : us.length = j := by have := m4.has.len; rw [ts0_len] at this; exact this
  refine vs ?_
  refine Both.dec (fun hlt => ?_) (fun hlt => ?_) <;> refine vs ?_
  · obtain ⟨x, hx⟩ : ∃ x, ws[j]? = some x := ⟨_, List.getElem?_eq_getElem (by omega)⟩
    obtain ⟨_, b, o, lb, ha, hrd, hcell⟩ := RdS.num (h.fresh g4) hx
    subst ha
    refine ⟨⟨by omega, by omega⟩, ?_⟩
    refine v4 hrd Int.toNat_natCast Nat.mul_one hcell ?_
    have fl : Fresh H4 (H4.new 3 [i64 j]) := (Ext.refl _ _).new _ _
    have z5 : (H4.new 3 [i64 j]).size = H4.size + 1 := size_new _ _ _
    have s5 : Sl (H4.new 3 [i64 j]) 1 (.slice (some ⟨H4.size, 0, none⟩) 1 1) 1 [i64 j] (some H4.size) := Sl.lit H4 _ 1 1 _ rfl
    have hob4 : ob < H4.size := own_lt (e4.own ob3 (fun e => by omega))
    generalize H4.new 3 [i64 j] = H5 at *
    have m5 := m4.ext fl (fun _ _ h => h) (fun _ _ h => h.elim)
    rw [← z5]
    refine m5.push (u := (x, .slice (some ⟨H4.size, 0, none⟩) 1 1)) (t := (x, [(j : Int)])) ⟨rfl, some ⟨H4.size, 0, none⟩, 1, rfl, s5.rd, Nat.le_refl _, fun y hy => ?_⟩ (by omega) (fun z hz he => by omega) fun v' H6 fp' us' m6 e6 hf6 => ?_
    · injection hy with hy
      subst hy
      refine ⟨by show H4.size < H5.size; omega, fun hh => ?_⟩
      rcases hh with hh | hh
      · have hh : H4.size = ob := hh
        omega
      · have := m4.lt hh
        exact absurd this (Nat.lt_irrefl _)
    refine vs ?_
    rw [wrap64 (n := (j : Int) + 1) (by omega) (by omega)]
    refine ⟨ws.length - (j + 1), by omega, j + 1, v', fp', us', rfl, by omega, ?_, fun b hb => ?_, ?_, rfl⟩
    · rw [ts0_succ, show ws.getD j 0 = x by rw [List.getD_eq_getElem?_getD, hx]; rfl]
      exact m6
    · rcases hf6 with hf6 | ⟨b', hf6, h9⟩
      · exact hfp b (by rw [← hf6]; exact hb)
      · rw [hf6] at hb; injection hb with hb; omega
    · exact (e4.trans (fl.mono fun _ _ h => h.elim)).trans (e6.mono fun z _ h => hfp z h)
  have hj2 : j = ws.length := by omega
  subst hj2
  have ob4 : H4.own ob = some (outR ws.length (hrun 0 (hinit ws)).d) := e4.own ob3 (fun e => by omega)
  refine LoopV.intro (fun mm env H' => ∃ (k : Nat) (lv : Value) (fp : Option Nat) (us : List (Int × Value)) (ts : List (Int × List Int)), mm = ws.length - 1 - k ∧ k + 1 ≤ ws.length ∧ TrsP ws.length (hrun k (hinit ws)) ts ∧ TrM H' (fun z => z = ob) lv ts fp us ∧ (∀ b, fp = some b → ob < b) ∧ H'.own ob = some (outR ws.length (hrun k (hinit ws)).d) ∧ Ext (fun z => ob ≤ z) H3 H' ∧
    env = [(7, .slice (some ⟨ob, 0, none⟩) ws.length ws.length), (8, lv)]) (ws.length - 1) ⟨0, lv, fp, us, ts0 ws ws.length, by omega, by omega, TrsP.init ws, m4, hfp, ob4, e4.mono (fun z _ h => Nat.le_of_lt h), rfl⟩ ?_
  clear m4 ob4 e4 g4 hfp hul hj hlt us fp lv
  rintro mm env H5 ⟨k, lv, fp, us, ts, rfl, hk, T, m, hfp, oo, e5, rfl⟩
  have g5 : Fresh H H5 := g3.then e5 (fun z hz => by omega)
  obtain ⟨la, lc, rfl, hlc⟩ := m.val
  have I := HufI.run ws k (by omega)
  have hpl := I.len
  have htl := T.len
  have hml := m.has.len
  refine vs ?_
  refine Both.dec (fun hlt => ?_) (fun hlt => ?_) <;> refine vs ?_
  rotate_left
  · have hk2 : k = ws.length - 1 := by omega
    subst hk2
    have hL : (lenW ws).map i64 = outR ws.length (hrun (ws.length - 1) (hinit ws)).d := by
      unfold lenW hufL outR
      rw [if_neg (by omega), List.map_map, List.map_map]
      rfl
    refine ⟨_, rfl, ⟨some ⟨ob, 0, none⟩, ws.length, by rw [lenW_len], ?_⟩, g5⟩
    rw [hL, lenW_len]
    exact outR_rd oo
  have hk2 : k + 1 < ws.length := by omega
  refine (ref26_lightest_spec m.sl.rd m.slc (by omega) (by omega)).mono ?_
  rintro _ H6 ⟨p, rfl, hp, f6⟩
  have hp1 := hp.lt
  rw [List.length_map] at hp1
  have m6 := m.ext f6 (fun _ _ h => h) (fun _ _ h => h.elim)
  have oo6 := f6.own oo (fun h => h)
  refine vs ?_
  obtain ⟨ua, hua⟩ : ∃ u, us[p]? = some u := ⟨_, List.getElem?_eq_getElem hp1⟩
  obtain ⟨ta, hta⟩ : ∃ t, ts[p]? = some t := ⟨_, List.getElem?_eq_getElem (by omega)⟩
  have Ha := m6.has.at_ p ua ta hua hta
  obtain ⟨_, b, o, lb, hla, hrd, hln, hcells, _, _⟩ := RdS.tree m6.sl.rd hua
  subst hla
  obtain ⟨Ha1, ha, hc, Ha2, Ha3, Ha4, Ha5⟩ := id Ha
  have hca : cellsT ua = [i64 ta.1, .slice ha ta.2.length hc] := by unfold cellsT; rw [Ha1, Ha2]
  rw [hca] at hcells
  refine ⟨⟨by omega, by omega⟩, ?_⟩
  refine v3 hrd Int.toNat_natCast hcells ?_
  refine ⟨by omega, ?_⟩
  have q7 := own_new H6 88 [i64 0, .slice none 0 0]
  refine v2 hcells q7 ?_
  obtain ⟨f7, q7, z7⟩ := zst H6 88 [i64 0, .slice none 0 0] [i64 ta.1, .slice ha ta.2.length hc]
  have ha6 := own_lt oo6
  obtain ⟨A, hA6⟩ : ∃ A, A = H6.size := ⟨_, rfl⟩
  rw [← hA6] at f7 q7 z7 ⊢
  generalize (H6.new 88 [i64 0, .slice none 0 0]).wr A [i64 ta.1, .slice ha ta.2.length hc] = H7 at *
  have m7 := m6.ext f7 (fun _ _ h => h) (fun _ _ h => h.elim)
  have oo7 := f7.own oo6 (fun h => h)
  refine vs ?_
  refine (ref26_without_spec m7.sl.rd hlc m7.slc (by omega) hp1).mono ?_
  rintro _ H8 ⟨f8, fp8, s8, hf8⟩
  have m8 := m7.erase f8 s8 hf8
  have q8 := f8.own q7 (fun h => h)
  have oo8 := f8.own oo7 (fun h => h)
  obtain ⟨la8, lc8, rfl, hlc8⟩ := slv_val s8
  have hl8 : (us.eraseIdx p).length = us.length - 1 := by rw [List.length_eraseIdx, if_pos hp1]
  have htl8 : (ts.eraseIdx p).length = ts.length - 1 := by rw [List.length_eraseIdx, if_pos (by omega)]
  refine vs ?_
  refine (ref26_lightest_spec m8.sl.rd m8.slc (by omega) (by omega)).mono ?_
  rintro _ H9 ⟨q, rfl, hq, f9⟩
  have hq1 := hq.lt
  rw [List.length_map] at hq1
  have m9 := m8.ext f9 (fun _ _ h => h) (fun _ _ h => h.elim)
  have oo9 := f9.own oo8 (fun h => h)
  have q9 := f9.own q8 (fun h => h)
  refine vs ?_
  obtain ⟨ub, hub⟩ : ∃ u, (us.eraseIdx p)[q]? = some u := ⟨_, List.getElem?_eq_getElem hq1⟩
  obtain ⟨tb, htb⟩ : ∃ t, (ts.eraseIdx p)[q]? = some t := ⟨_, List.getElem?_eq_getElem (by omega)⟩
  have Hb := m9.has.at_ q ub tb hub htb
  obtain ⟨_, b2, o2, lb2, hla2, hrd2, hln2, hcells2, _, _⟩ := RdS.tree m9.sl.rd hub
  subst hla2
  obtain ⟨Hb1, hb', hbc, Hb2, Hb3, Hb4, Hb5⟩ := id Hb
  have hcb : cellsT ub = [i64 tb.1, .slice hb' tb.2.length hbc] := by unfold cellsT; rw [Hb1, Hb2]
  rw [hcb] at hcells2
  refine ⟨⟨by omega, by omega⟩, ?_⟩
  refine v3 hrd2 Int.toNat_natCast hcells2 ?_
  refine ⟨by omega, ?_⟩
  have q10 := own_new H9 88 [i64 0, .slice none 0 0]
  refine v2 hcells2 q10 ?_
  obtain ⟨f10, q10, z10⟩ := zst H9 88 [i64 0, .slice none 0 0] [i64 tb.1, .slice hb' tb.2.length hbc]
  obtain ⟨B, hB9⟩ : ∃ B, B = H9.size := ⟨_, rfl⟩
  rw [← hB9] at f10 q10 z10 ⊢
  generalize (H9.new 88 [i64 0, .slice none 0 0]).wr B [i64 tb.1, .slice hb' tb.2.length hbc] = H10 at *
  have m10 := m9.ext f10 (fun _ _ h => h) (fun _ _ h => h.elim)
  have oo10 := f10.own oo9 (fun h => h)
  have qa10 := f10.own q9 (fun h => h)
  refine vs ?_
  refine (ref26_without_spec m10.sl.rd hlc8 m10.slc (by omega) hq1).mono ?_
  rintro v11 H11 ⟨f11, fp11, s11, hf11⟩
  have m11 := m10.erase f11 s11 hf11
  have qb := f11.own q10 (fun h => h)
  have qa := f11.own qa10 (fun h => h)
  have oo11 := f11.own oo10 (fun h => h)
  have F611 : Fresh H6 H11 := (((f7.trans f8).trans f9).trans f10).trans f11
  have HA : HasM H11 (fun z => z = ob) ua ta := Ha.ext F611 (fun _ _ h => h.elim) (fun z _ h => .inl h)
  have HB : HasM H11 (fun z => z = ob) ub tb := Hb.ext (f10.trans f11) (fun _ _ h => h.elim) (fun z _ h => .inl h)
  rw [m.ws] at hp
  rw [m8.ws] at hq
  obtain ⟨T', hnd, hin, hd⟩ := TrsP.step I hk2 T hp hta hq htb
  have hab : ta.1 + tb.1 ≤ 9223372036854775807 ∧ 0 ≤ ta.1 + tb.1 := by
    obtain ⟨pa, hpa⟩ : ∃ x, (hrun k (hinit ws)).pool[p]? = some x := ⟨_, List.getElem?_eq_getElem (by omega)⟩
    obtain ⟨pb, hpb⟩ : ∃ x, ((hrun k (hinit ws)).pool.eraseIdx p)[q]? = some x := ⟨_, List.getElem?_eq_getElem (by rw [List.length_eraseIdx, if_pos (by omega)]; omega)⟩
    have xa := T.at_ p ta pa hta hpa
    have xb := (PR.erase T p).at_ q tb pb htb hpb
    have ma := List.mem_of_getElem? hpa
    have mb := List.mem_of_mem_eraseIdx (List.mem_of_getElem? hpb)
    have hne : pa.2 ≠ pb.2 := fun e => by
      have w1 := wo_erase I.ids hpa
      rw [← w1] at hpb
      exact (mem_wo.1 (List.mem_of_getElem? hpb)).2 e.symm
    have w2 : ∀ i, i < ws.length → 0 ≤ ws.getD i 0 := fun i hi => by
      rw [List.getD_eq_getElem?_getD, List.getElem?_eq_getElem hi]
      have := hF.pos _ (List.getElem_mem hi)
      show 0 ≤ ws[i]
      omega
    have w3 : ∀ r ∈ (hrun k (hinit ws)).pool, 0 ≤ r.1 := fun r hr => by
      rw [← I.wt r hr]
      exact sumI_nonneg fun i hi => by split; exact w2 i hi; omega
    have w4 := w3 pa ma
    have w5 := w3 pb mb
    have hsum := hF.sum
    rw [xa.1, xb.1]
    rcases I.sum pa ma pb mb hne with h9 | ⟨i, hi, h9⟩
    · rw [sumI_list] at h9; omega
    · have := w2 i hi; omega
  have hll : (ta.2 ++ tb.2).length ≤ ws.length := row_len hnd (fun x hx => by obtain ⟨y, rfl, hy⟩ := hin x hx; omega)
  rw [List.length_append] at hll
  refine vs ?_
  refine vc_cut (fun e H' => ∃ (bx : Nat) (sv : Value), e = [(7, .slice (some ⟨ob, 0, none⟩) ws.length ws.length), (8, v11), (15, ptr bx)] ∧ Fresh H11 H' ∧ H11.size ≤ bx ∧ H'.own bx = some [i64 (ta.1 + tb.1), sv] ∧
    HasM H' (fun z => z = ob ∨ z = bx ∨ fp11 = some z) (ta.1 + tb.1, sv) (ta.1 + tb.1, ta.2 ++ tb.2)) ?_ ?_
  · refine vs ?_
    refine InvV.intro (fun H' => H'.own A = some [i64 ta.1, .slice ha ta.2.length hc] ∧ H'.own B = some [i64 tb.1, .slice hb' tb.2.length hbc]) ⟨qa, qb⟩ ?_
    refine vs ?_
    refine StbV.intro (i64 ta.1) (fun H' hI => by refine v1 (rd_of_own hI.1) ?_; trivial) ?_
    refine vs ?_
    refine StbV.intro (i64 tb.1) (fun H' hI => by refine v1 (rd_of_own hI.2) ?_; trivial) ?_
    refine vs ?_
    refine StbV.intro (.slice ha ta.2.length hc) (fun H' hI => by refine v1 (rd_of_own hI.1) ?_; trivial) ?_
    refine vs ?_
    refine StbV.intro (.slice hb' tb.2.length hbc) (fun H' hI => by refine v1 (rd_of_own hI.2) ?_; trivial) ?_
    refine vs ?_
    rw [wrap64 (n := ta.1 + tb.1) (by omega) (by omega)]
    have la11 := own_lt qa
    have lb11 := own_lt qb
    have lo11 := own_lt oo11
    have IV : ∀ Hc, Ext (fun z => H11.size ≤ z) H11 Hc → (Hc.own A = some [i64 ta.1, .slice ha ta.2.length hc] ∧ Hc.own B = some [i64 tb.1, .slice hb' tb.2.length hbc]) := fun Hc E => ⟨E.own qa (by omega), E.own qb (by omega)⟩
    have s611 := F611.size
    have s911 := (f10.trans f11).size
    have RA : ∀ Hc, Ext (fun z => H11.size ≤ z) H11 Hc → RdS Hc 1 (.slice ha ta.2.length hc) ta.2.length (ta.2.map i64) := fun Hc E => RdS.keepB (Ha3.fresh F611) E (fun x hx hh => by have := (Ha5 x hx).1; omega)
    have RB : ∀ Hc, Ext (fun z => H11.size ≤ z) H11 Hc → RdS Hc 1 (.slice hb' tb.2.length hbc) tb.2.length (tb.2.map i64) := fun Hc E => RdS.keepB (Hb3.fresh (f10.trans f11)) E (fun x hx hh => by have := (Hb5 x hx).1; omega)
    have FIN : ∀ (Hc : Hp) (bx : Nat) (sv : Value) (fp : Option Nat) (z : List Value), Ext (fun z => H11.size ≤ z) H11 Hc → H11.size ≤ bx → Hc.own bx = some z → Sl Hc 1 sv (ta.2 ++ tb.2).length ((ta.2 ++ tb.2).map i64) fp → (∀ b, fp = some b → H11.size ≤ b ∧ b ≠ bx) →
        ∃ (bx' : Nat) (sv' : Value), [(7, Value.slice (some ⟨ob, 0, none⟩) ws.length ws.length), (8, v11), (15, ptr bx)] = [(7, Value.slice (some ⟨ob, 0, none⟩) ws.length ws.length), (8, v11), (15, ptr bx')] ∧ Fresh H11 (Hc.wr bx [i64 (ta.1 + tb.1), sv]) ∧ H11.size ≤ bx' ∧ (Hc.wr bx [i64 (ta.1 + tb.1), sv]).own bx' = some [i64 (ta.1 + tb.1), sv'] ∧
          HasM (Hc.wr bx [i64 (ta.1 + tb.1), sv]) (fun z => z = ob ∨ z = bx' ∨ fp11 = some z) (ta.1 + tb.1, sv') (ta.1 + tb.1, ta.2 ++ tb.2) := fun Hc bx sv fp z E hb0 hob s hf => by
      have ew : Ext (fun z => z = bx) Hc (Hc.wr bx [i64 (ta.1 + tb.1), sv]) := (Ext.refl (fun z => z = bx) _).wr (fun _ => rfl) _
      refine ⟨bx, sv, rfl, ((Ext.refl (fun _ => False) H11 : Fresh H11 H11).then E (fun z hz => hz)).then ew (fun z hz => by omega), hb0, own_wr_same hob, HasM.of_sl (s.ext ew (fun b hb e => (hf b hb).2 e)) fun b hb hh => ?_⟩
      have h1 := hf b hb
      rcases hh with hh | hh | hh
      · omega
      · exact h1.2 hh
      · have := m11.lt hh
        omega
    refine Two.intro ?_ ?_
    · refine vs ?_
      have fL : Fresh H11 (H11.new 3 []) := (Ext.refl _ _).new _ _
      have s1 : Sl (H11.new 3 []) 1 (.slice (some ⟨H11.size, 0, none⟩) 0 0) ([] : List Int).length (([] : List Int).map i64) (some H11.size) := Sl.lit H11 _ 1 0 [] rfl
      have z1 : (H11.new 3 []).size = H11.size + 1 := size_new _ _ _
      generalize H11.new 3 [] = L at *
      have e1 : Ext (fun z => H11.size ≤ z) H11 L := (Ext.refl (fun z => H11.size ≤ z) H11).trans (fL.mono fun _ _ h => h.elim)
      refine ⟨IV _ (by first | assumption | exact Ext.refl _ _), ?_⟩
      refine vs ?_
      refine Two.intro ?_ ?_
      · refine vs ?_
        refine pushY (xs := []) s1 (RA _ e1) (by rw [List.length_nil]; omega) fun w1 H13 fp1 s2 e2 h2 => ?_
        have E2 : Ext (fun z => H11.size ≤ z) H11 H13 := e1.trans (e2.mono fun z _ h => by injection h with h; omega)
        have zH13 := e2.size
        have b2' : ∀ b, fp1 = some b → H11.size ≤ b ∧ b < H13.size ∧ 0 ≤ b := fun b hb => by
          rcases h2 with h2 | ⟨b', h2, k3, k4⟩
          · rw [h2] at hb; injection hb with hb; omega
          · rw [h2] at hb; injection hb with hb; omega
        rw [List.nil_append] at s2
        obtain ⟨w1a, w1c, rfl, _⟩ := slv_val s2
        refine vs ?_
        refine ⟨IV _ (by first | assumption | exact Ext.refl _ _), ?_⟩
        refine vs ?_
        refine Two.intro ?_ ?_
        · refine vs ?_
          refine pushY s2 (RB _ E2) (by omega) fun w2 H14 fp2 s3 e3 h3 => ?_
          have E3 : Ext (fun z => H11.size ≤ z) H11 H14 := E2.trans (e3.mono fun z _ h => (b2' z h).1)
          have zH14 := e3.size
          have b3' : ∀ b, fp2 = some b → H11.size ≤ b ∧ b < H14.size ∧ 0 ≤ b := fun b hb => by
            rcases h3 with h3 | ⟨b', h3, k3, k4⟩
            · rw [h3] at hb; have := b2' b hb; omega
            · rw [h3] at hb; injection hb with hb; omega
          skip
          obtain ⟨w2a, w2c, rfl, _⟩ := slv_val s3
          refine vs ?_
          refine ⟨IV _ (by first | assumption | exact Ext.refl _ _), ?_⟩
          refine vs ?_
          have fZ1 : Fresh H14 (H14.new 88 [i64 0, .slice none 0 0]) := (Ext.refl _ _).new _ _
          have oz := own_new H14 88 [i64 0, .slice none 0 0]
          have zZ1 : (H14.new 88 [i64 0, .slice none 0 0]).size = H14.size + 1 := size_new _ _ _
          generalize H14.new 88 [i64 0, .slice none 0 0] = Z1 at *
          have E4 : Ext (fun z => H11.size ≤ z) H11 Z1 := E3.trans (fZ1.mono fun _ _ h => h.elim)
          refine ⟨IV _ (by first | assumption | exact Ext.refl _ _), ?_⟩
          refine vs ?_
          refine v1 oz ?_
          refine ⟨IV _ (by first | assumption | exact Ext.refl _ _), ?_⟩
          refine vs ?_
          exact FIN Z1 _ _ fp2 _ E4 (by omega) oz (Sl.fresh' s3 fZ1) (fun b hb => by have := b3' b hb; omega)
        · refine vs ?_
          have fZ2 : Fresh H13 (H13.new 88 [i64 0, .slice none 0 0]) := (Ext.refl _ _).new _ _
          have oz := own_new H13 88 [i64 0, .slice none 0 0]
          have zZ2 : (H13.new 88 [i64 0, .slice none 0 0]).size = H13.size + 1 := size_new _ _ _
          generalize H13.new 88 [i64 0, .slice none 0 0] = Z2 at *
          have E4 : Ext (fun z => H11.size ≤ z) H11 Z2 := E2.trans (fZ2.mono fun _ _ h => h.elim)
          refine ⟨IV _ (by first | assumption | exact Ext.refl _ _), ?_⟩
          refine vs ?_
          refine pushY (Sl.fresh' s2 fZ2) (RB _ E4) (by omega) fun w2 H14 fp2 s3 e3 h3 => ?_
          have E3 : Ext (fun z => H11.size ≤ z) H11 H14 := E4.trans (e3.mono fun z _ h => (b2' z h).1)
          have zH14 := e3.size
          have b3' : ∀ b, fp2 = some b → H11.size ≤ b ∧ b < H14.size ∧ b ≠ H13.size := fun b hb => by
            rcases h3 with h3 | ⟨b', h3, k3, k4⟩
            · rw [h3] at hb; have := b2' b hb; omega
            · rw [h3] at hb; injection hb with hb; omega
          skip
          obtain ⟨w2a, w2c, rfl, _⟩ := slv_val s3
          refine vs ?_
          refine ⟨IV _ (by first | assumption | exact Ext.refl _ _), ?_⟩
          refine vs ?_
          have oz' := e3.own oz (fun e => by have := b2' _ e; omega)
          refine v1 oz' ?_
          refine ⟨IV _ (by first | assumption | exact Ext.refl _ _), ?_⟩
          refine vs ?_
          exact FIN H14 _ _ fp2 _ E3 (by omega) oz' s3 (fun b hb => by have := b3' b hb; omega)
      · refine vs ?_
        have fZ3 : Fresh L (L.new 88 [i64 0, .slice none 0 0]) := (Ext.refl _ _).new _ _
        have oz := own_new L 88 [i64 0, .slice none 0 0]
        have zZ3 : (L.new 88 [i64 0, .slice none 0 0]).size = L.size + 1 := size_new _ _ _
        generalize L.new 88 [i64 0, .slice none 0 0] = Z3 at *
        have E4 : Ext (fun z => H11.size ≤ z) H11 Z3 := e1.trans (fZ3.mono fun _ _ h => h.elim)
        refine ⟨IV _ (by first | assumption | exact Ext.refl _ _), ?_⟩
        refine vs ?_
        refine pushY (xs := []) (Sl.fresh' s1 fZ3) (RA _ E4) (by rw [List.length_nil]; omega) fun w1 H13 fp1 s2 e2 h2 => ?_
        have E2 : Ext (fun z => H11.size ≤ z) H11 H13 := E4.trans (e2.mono fun z _ h => by injection h with h; omega)
        have zH13 := e2.size
        have b2' : ∀ b, fp1 = some b → H11.size ≤ b ∧ b < H13.size ∧ b ≠ L.size := fun b hb => by
          rcases h2 with h2 | ⟨b', h2, k3, k4⟩
          · rw [h2] at hb; injection hb with hb; omega
          · rw [h2] at hb; injection hb with hb; omega
        rw [List.nil_append] at s2
        obtain ⟨w1a, w1c, rfl, _⟩ := slv_val s2
        refine vs ?_
        refine ⟨IV _ (by first | assumption | exact Ext.refl _ _), ?_⟩
        refine vs ?_
        refine pushY s2 (RB _ E2) (by omega) fun w2 H14 fp2 s3 e3 h3 => ?_
        have E3 : Ext (fun z => H11.size ≤ z) H11 H14 := E2.trans (e3.mono fun z _ h => (b2' z h).1)
        have zH14 := e3.size
        have b3' : ∀ b, fp2 = some b → H11.size ≤ b ∧ b < H14.size ∧ b ≠ L.size := fun b hb => by
          rcases h3 with h3 | ⟨b', h3, k3, k4⟩
          · rw [h3] at hb; have := b2' b hb; omega
          · rw [h3] at hb; injection hb with hb; omega
        skip
        obtain ⟨w2a, w2c, rfl, _⟩ := slv_val s3
        refine vs ?_
        refine ⟨IV _ (by first | assumption | exact Ext.refl _ _), ?_⟩
        refine vs ?_
        have oz' := e3.own (e2.own oz (fun e => by injection e with e; omega)) (fun e => by have := b2' _ e; omega)
        refine v1 oz' ?_
        refine ⟨IV _ (by first | assumption | exact Ext.refl _ _), ?_⟩
        refine vs ?_
        exact FIN H14 _ _ fp2 _ E3 (by omega) oz' s3 (fun b hb => by have := b3' b hb; omega)
    · refine vs ?_
      have fZ4 : Fresh H11 (H11.new 88 [i64 0, .slice none 0 0]) := (Ext.refl _ _).new _ _
      have oz := own_new H11 88 [i64 0, .slice none 0 0]
      have zZ4 : (H11.new 88 [i64 0, .slice none 0 0]).size = H11.size + 1 := size_new _ _ _
      generalize H11.new 88 [i64 0, .slice none 0 0] = Z4 at *
      have E4 : Ext (fun z => H11.size ≤ z) H11 Z4 := (Ext.refl (fun z => H11.size ≤ z) H11).trans (fZ4.mono fun _ _ h => h.elim)
      refine ⟨IV _ (by first | assumption | exact Ext.refl _ _), ?_⟩
      refine vs ?_
      have fL : Fresh Z4 (Z4.new 3 []) := (Ext.refl _ _).new _ _
      have s1 : Sl (Z4.new 3 []) 1 (.slice (some ⟨Z4.size, 0, none⟩) 0 0) ([] : List Int).length (([] : List Int).map i64) (some Z4.size) := Sl.lit Z4 _ 1 0 [] rfl
      have z1 : (Z4.new 3 []).size = Z4.size + 1 := size_new _ _ _
      generalize Z4.new 3 [] = L at *
      have e1 : Ext (fun z => H11.size ≤ z) H11 L := E4.trans (fL.mono fun _ _ h => h.elim)
      refine ⟨IV _ (by first | assumption | exact Ext.refl _ _), ?_⟩
      refine vs ?_
      refine pushY (xs := []) s1 (RA _ e1) (by rw [List.length_nil]; omega) fun w1 H13 fp1 s2 e2 h2 => ?_
      have E2 : Ext (fun z => H11.size ≤ z) H11 H13 := e1.trans (e2.mono fun z _ h => by injection h with h; omega)
      have zH13 := e2.size
      have b2' : ∀ b, fp1 = some b → H11.size ≤ b ∧ b < H13.size ∧ b ≠ H11.size := fun b hb => by
        rcases h2 with h2 | ⟨b', h2, k3, k4⟩
        · rw [h2] at hb; injection hb with hb; omega
        · rw [h2] at hb; injection hb with hb; omega
      rw [List.nil_append] at s2
      obtain ⟨w1a, w1c, rfl, _⟩ := slv_val s2
      refine vs ?_
      refine ⟨IV _ (by first | assumption | exact Ext.refl _ _), ?_⟩
      refine vs ?_
      refine pushY s2 (RB _ E2) (by omega) fun w2 H14 fp2 s3 e3 h3 => ?_
      have E3 : Ext (fun z => H11.size ≤ z) H11 H14 := E2.trans (e3.mono fun z _ h => (b2' z h).1)
      have zH14 := e3.size
      have b3' : ∀ b, fp2 = some b → H11.size ≤ b ∧ b < H14.size ∧ b ≠ H11.size := fun b hb => by
        rcases h3 with h3 | ⟨b', h3, k3, k4⟩
        · rw [h3] at hb; have := b2' b hb; omega
        · rw [h3] at hb; injection hb with hb; omega
      skip
      obtain ⟨w2a, w2c, rfl, _⟩ := slv_val s3
      refine vs ?_
      refine ⟨IV _ (by first | assumption | exact Ext.refl _ _), ?_⟩
      refine vs ?_
      have oz' := e3.own (e2.own (fL.own oz (fun h => h)) (fun e => by injection e with e; omega)) (fun e => by have := b2' _ e; omega)
      refine v1 oz' ?_
      refine ⟨IV _ (by first | assumption | exact Ext.refl _ _), ?_⟩
      refine vs ?_
      exact FIN H14 _ _ fp2 _ E3 (by omega) oz' s3 (fun b hb => by have := b3' b hb; omega)
  · rintro e H12 ⟨bx, sv, rfl, f12, hbx, qx, HX⟩
    obtain ⟨_, xa, xc, hsv, rx, hxc, hxb⟩ := id HX
    obtain rfl : sv = .slice xa (ta.2 ++ tb.2).length xc := hsv
    have oo12 := f12.own oo11 (fun h => h)
    have hll0 : (ta.2 ++ tb.2).length ≤ ws.length := by rw [List.length_append]; exact hll
    generalize hhs : ta.2 ++ tb.2 = hs at *
    have rx : RdS H12 1 (.slice xa hs.length xc) hs.length (hs.map i64) := rx
    have hs11 := hf11
    refine v1 (rd_of_own qx) ?_
    refine LoopV.intro (fun mm env H' => ∃ j : Nat, mm = hs.length - j ∧ j ≤ hs.length ∧ Ext (fun z => z = ob) H12 H' ∧ H'.own ob = some (outR ws.length (fun x => (hrun k (hinit ws)).d x + if (x : Int) ∈ hs.take j then 1 else 0)) ∧
      env = [(7, .slice (some ⟨ob, 0, none⟩) ws.length ws.length), (8, v11), (15, ptr bx), (84, .slice xa hs.length xc), (85, i64 hs.length), (86, i64 j)]) hs.length ⟨0, by omega, by omega, Ext.refl _ _, by simpa using oo12, rfl⟩ ?_
    rintro mm env H13 ⟨j, rfl, hj, e13, o13, rfl⟩
    obtain ⟨D, hD⟩ : ∃ D : Nat → Nat, D = fun (x : Nat) => (hrun k (hinit ws)).d x + if (x : Int) ∈ hs.take j then 1 else 0 := ⟨_, rfl⟩
    rw [← hD] at o13
    refine vs ?_
    refine Both.dec (fun hlt2 => ?_) (fun hlt2 => ?_) <;> refine vs ?_
    · obtain ⟨y, hy⟩ : ∃ y, hs[j]? = some y := ⟨_, List.getElem?_eq_getElem (by omega)⟩
      obtain ⟨x, rfl, hx⟩ := hin y (List.mem_of_getElem? hy)
      obtain ⟨_, b3, o3, lb3, hxa, hrd3, hc3⟩ := RdS.num (RdS.keepB rx e13 (fun z hz hh => (hxb z hz).2 (.inl hh))) hy
      subst hxa
      refine ⟨⟨by omega, by omega⟩, ?_⟩
      refine v4 hrd3 Int.toNat_natCast Nat.mul_one hc3 ?_
      refine ⟨⟨by omega, by omega⟩, ?_⟩
      simp (disch := (first | omega | (simp only [Zs] <;> omega) | fail)) only [go_sem, ↓reduceIte, Zv, rd_of_own o13, Int.toNat_natCast, Nat.mul_one, Nat.zero_add, outR_at _ hx]
      refine ⟨⟨by omega, by omega⟩, ?_⟩
      simp (disch := (first | omega | (simp only [Zs] <;> omega) | fail)) only [go_sem, ↓reduceIte, Zv, o13, Int.toNat_natCast, Nat.mul_one, Nat.zero_add, outR_at _ hx]
      refine ⟨by rw [outR_len]; omega, ?_⟩
      have htk : hs.take (j + 1) = hs.take j ++ [(x : Int)] := by rw [List.take_add_one, hy]; rfl
      have hnot : (x : Int) ∉ hs.take j := fun hm => by
        have h9 := hnd.sublist (List.take_sublist (j + 1) hs)
        rw [htk] at h9
        exact (List.nodup_append.1 h9).2.2 _ hm _ (List.mem_singleton.2 rfl) rfl
      have hDx : D x = (hrun k (hinit ws)).d x := by rw [hD]; simp only [if_neg hnot]; rfl
      have hdl := I.dl x (by have := I.at_; omega)
      refine vs ?_
      rw [wrap64 (n := (D x : Int) + 1) (by omega) (by omega), wrap64 (n := (j : Int) + 1) (by omega) (by omega)]
      refine ⟨hs.length - (j + 1), by omega, j + 1, rfl, by omega, e13.trans ((Ext.refl (fun z => z = ob) _).wr (fun _ => rfl) _), ?_, rfl⟩
      have hone : (if (x : Int) ∈ hs.take (j + 1) then 1 else 0) = 1 := if_pos (by rw [htk]; simp)
      have hrow := outR_set (d := D) (d' := fun (z : Nat) => (hrun k (hinit ws)).d z + if (z : Int) ∈ hs.take (j + 1) then 1 else 0) hx (fun y hy => by
        have : ((y : Int) ∈ hs.take (j + 1)) ↔ (y : Int) ∈ hs.take j := by
          rw [htk, List.mem_append, List.mem_singleton]
          exact ⟨fun h => h.elim id fun h => absurd (by omega) hy, .inl⟩
        rw [hD]
        simp only [this])
      simp only [hone] at hrow
      rw [own_wr_same o13, ← hrow, hDx]
      rfl
    have hj2 : j = hs.length := by omega
    subst hj2
    rw [List.take_length] at hD
    have hDe : outR ws.length D = outR ws.length (hrun (k + 1) (hinit ws)).d := outR_congr fun x hx => by rw [hD]; exact (hd x hx).symm
    rw [hDe] at o13
    have hf1 : ∀ b, fp11 = some b → ob < b := fun b hb => by have := hf11 b hb; have := own_lt oo10; omega
    have m13 := (m11.ext f12 (fun _ _ h => h) (fun _ _ h => h.elim)).ext e13 (fun b hb e => by have := hf1 b hb; omega) (fun z _ h => h)
    have HX13 := HX.ext (S' := fun z => z = ob ∨ fp11 = some z) e13 (fun z _ h => .inl h) (fun z _ h => h.elim .inl fun h => .inr (.inr h))
    have qx13 := e13.own qx (fun e => by have := own_lt oo11; omega)
    refine v1 (rd_of_own qx13) ?_
    refine m13.push (u := (ta.1 + tb.1, .slice xa hs.length xc)) (t := (ta.1 + tb.1, hs)) HX13 ?_ (fun z hz e => by have := own_lt o13; omega) fun v' H14 fp' us' m14 e14 hf14 => ?_
    · have h8 := m11.has.len
      have h9 : (((us.eraseIdx p).eraseIdx q)).length ≤ us.length := Nat.le_trans (List.length_eraseIdx_le _ _) (List.length_eraseIdx_le _ _)
      omega
    refine vs ?_
    refine ⟨ws.length - 1 - (k + 1), by omega, k + 1, v', fp', us', _, rfl, by omega, T', m14, fun b hb => ?_, e14.own o13 (fun e => by have := hf1 _ e; omega), ?_, rfl⟩
    · rcases hf14 with h | ⟨b', h, h9⟩
      · exact hf1 b (by rw [← h]; exact hb)
      · rw [h] at hb
        injection hb with hb
        have := own_lt o13
        omega
    · exact ((((e5.trans (f6.mono fun _ _ h => h.elim)).trans (F611.mono fun _ _ h => h.elim)).trans (f12.mono fun _ _ h => h.elim)).trans (e13.mono fun z _ h => by omega)).trans (e14.mono fun z _ h => Nat.le_of_lt (hf1 z h))
def lowN (n : Int) : Nat := (n % 18446744073709551616).toNat
theorem wrap_low (n : Int) : IntKind.u64.wrap n = (lowN n : Int) := by
  have e : (2 ^ IntKind.u64.bits : Int) = 18446744073709551616 := rfl
  unfold IntKind.wrap lowN
  simp only [e, IntKind.signed, Bool.false_and]
  rw [if_neg (by simp)]; omega
theorem lowN_lt (n : Int) : lowN n < 18446744073709551616 := by unfold lowN; omega
def addS (s : Int × Nat) (n : Int) : Int × Nat :=
  (IntKind.i64.wrap (s.1 + (if n < 0 then -1 else 0) + ((s.2 + lowN n) / 18446744073709551616 : Nat)), (s.2 + lowN n) % 18446744073709551616)
def totS (l : List Int) : Int × Nat := l.foldl addS (0, 0)
def sumV (s : Int × Nat) : Value := .agg [i64 s.1, u64 s.2].toArray
theorem totS_snoc (l : List Int) (x : Int) : totS (l ++ [x]) = addS (totS l) x := by
  unfold totS
  rw [List.foldl_append]
  rfl
def valS (S : Int) : Int × Nat := (S / 18446744073709551616, (S % 18446744073709551616).toNat)
theorem addS_val {S n : Int} (h0 : -9223372036854775808 ≤ n) (h1 : n ≤ 9223372036854775807) (hS : -9223372036854775808 * 1000000000000 ≤ S ∧ S ≤ 9223372036854775808 * 1000000000000) : addS (valS S) n = valS (S + n) := by
  unfold addS valS lowN
  have hw : ∀ z : Int, -9223372036854775808 ≤ z → z ≤ 9223372036854775807 → IntKind.i64.wrap z = z := fun z => wrap64
  simp only
  refine Prod.ext ?_ ?_
  · simp only
    rw [hw _ (by split <;> omega) (by split <;> omega)]
    split <;> omega
  · simp only
    omega
theorem foldS_val : ∀ (l : List Int) (S : Int), (∀ x ∈ l, -9223372036854775808 ≤ x ∧ x ≤ 9223372036854775807) → (-9223372036854775808 * (1000000000000 - (l.length : Int)) ≤ S ∧ S ≤ 9223372036854775808 * (1000000000000 - (l.length : Int))) →
    l.foldl addS (valS S) = valS (S + l.sum) := by
  intro l
  induction l with
  | nil => intro S _ _; simp
  | cons x l ih =>
    intro S h hS
    obtain ⟨h0, h1⟩ := h x (List.mem_cons_self ..)
    rw [List.length_cons] at hS
    rw [List.foldl_cons, addS_val h0 h1 (by omega), ih (S + x) (fun y hy => h y (List.mem_cons_of_mem _ hy)) (by omega), List.sum_cons, Int.add_assoc]
theorem totS_val {l : List Int} (h : ∀ x ∈ l, -9223372036854775808 ≤ x ∧ x ≤ 9223372036854775807) (hl : l.length ≤ 1000000000) : totS l = valS l.sum := by
  have := foldS_val l 0 h (by omega)
  rw [Int.zero_add] at this
  exact this
theorem valS_inj {S T : Int} (h : valS S = valS T) : S = T := by
  unfold valS at h
  injection h with h1 h2
  omega
theorem tmodN (x : Nat) : Int.tmod (x : Int) 4294967296 = ((x % 4294967296 : Nat) : Int) := rfl
theorem tdivN (x : Nat) : Int.tdiv (x : Int) 4294967296 = ((x / 4294967296 : Nat) : Int) := rfl
theorem wrapUN {a b : Nat} (h : a + b < 18446744073709551616) : IntKind.u64.wrap ((a : Int) + (b : Int)) = ((a + b : Nat) : Int) := by rw [wrapU64 (by omega) (by omega)]; rfl
theorem wrap_wrapU (x : Int) : IntKind.i64.wrap (IntKind.u64.wrap x) = IntKind.i64.wrap x := by
  have e : (2 ^ IntKind.i64.bits : Int) = 18446744073709551616 := rfl
  have e2 : (2 ^ IntKind.u64.bits : Int) = 18446744073709551616 := rfl
  have e' : (2 ^ (IntKind.i64.bits - 1) : Int) = 9223372036854775808 := rfl
  unfold IntKind.wrap
  simp only [e, e', e2, IntKind.signed, Bool.true_and, Bool.false_and, decide_eq_true_eq]
  rw [if_neg (by simp : ¬ (false = true))]
  split <;> split <;> omega
theorem wrapU_add (a b : Int) : IntKind.u64.wrap (IntKind.u64.wrap a + b) = IntKind.u64.wrap (a + b) := by
  have e2 : (2 ^ IntKind.u64.bits : Int) = 18446744073709551616 := rfl
  unfold IntKind.wrap
  simp only [e2, IntKind.signed, Bool.false_and]
  rw [if_neg (by simp : ¬ (false = true)), if_neg (by simp : ¬ (false = true)), if_neg (by simp : ¬ (false = true))]
  omega
theorem wrap_cong {a b : Int} (h : a % 18446744073709551616 = b % 18446744073709551616) : IntKind.i64.wrap a = IntKind.i64.wrap b := by
  have e : (2 ^ IntKind.i64.bits : Int) = 18446744073709551616 := rfl
  unfold IntKind.wrap
  simp only [e, h]
set_option maxHeartbeats 1000000 in
theorem ref21_add_spec (H : Hp) (s : Int × Nat) (n : Int) (h0 : -9223372036854775808 ≤ n) (h1 : n ≤ 9223372036854775807) (hs0 : -9223372036854775808 ≤ s.1) (hs1 : s.1 ≤ 9223372036854775807) (hs2 : s.2 < 18446744073709551616) :
    CallH Tryz.prog n_ref21_add [sumV s, i64 n] H fun v H' => Post (v = sumV (addS s n) ∧ Fresh H H') := by
  refine ccT d_ref21_add ⟨rfl, ?_⟩
  simp (disch := (first | omega | (simp only [Zs] <;> omega) | fail)) only [go_sem, ↓reduceIte, Zv, s_ref21_add, sumV]
  have f0 : Fresh H ((H.new 39 [i64 s.1, u64 s.2]).new 39 [i64 0, u64 0]) := ((Ext.refl _ _).new _ _).new _ _
  have b0 : ((H.new 39 [i64 s.1, u64 s.2]).new 39 [i64 0, u64 0]).own H.size = some [i64 s.1, u64 s.2] := Ext.own (((Ext.refl (fun _ => False) _).new _ _) : Fresh (H.new 39 [i64 s.1, u64 s.2]) _) (own_new _ _ _) (fun h => h)
  have d0 : ((H.new 39 [i64 s.1, u64 s.2]).new 39 [i64 0, u64 0]).own (H.size + 1) = some [i64 0, u64 0] := own_new_eq (by simp only [size_new])
  generalize (H.new 39 [i64 s.1, u64 s.2]).new 39 [i64 0, u64 0] = H0 at *
  have hl := lowN_lt n
  have z : ¬ ((4294967296 : Int) = 0) := by omega
  have wn := wrap_low n
  obtain ⟨lo, hlo⟩ : ∃ lo : Nat, s.2 % 4294967296 + lowN n % 4294967296 = lo := ⟨_, rfl⟩
  obtain ⟨h3, hh3⟩ : ∃ h3 : Nat, s.2 / 4294967296 + lowN n / 4294967296 = h3 := ⟨_, rfl⟩
  obtain ⟨hi, hhi⟩ : ∃ hi : Nat, h3 + lo / 4294967296 = hi := ⟨_, rfl⟩
  have w1 : IntKind.u64.wrap (((s.2 % 4294967296 : Nat) : Int) + ((lowN n % 4294967296 : Nat) : Int)) = (lo : Int) := by rw [wrapUN (by omega), hlo]
  have w3 : IntKind.u64.wrap (((s.2 / 4294967296 : Nat) : Int) + ((lowN n / 4294967296 : Nat) : Int)) = (h3 : Int) := by rw [wrapUN (by omega), hh3]
  have w5 : IntKind.u64.wrap ((h3 : Int) + ((lo / 4294967296 : Nat) : Int)) = (hi : Int) := by rw [wrapUN (by omega), hhi]
  have hca : (s.2 + lowN n) / 18446744073709551616 = hi / 4294967296 := by omega
  have hmo : (s.2 + lowN n) % 18446744073709551616 = hi % 4294967296 * 4294967296 + lo % 4294967296 := by omega
  have w6 : IntKind.u64.wrap (((hi % 4294967296 : Nat) : Int) * 4294967296) = ((hi % 4294967296 * 4294967296 : Nat) : Int) := by rw [wrapU64 (by omega) (by omega)]; rfl
  have w7 : IntKind.u64.wrap (((hi % 4294967296 * 4294967296 : Nat) : Int) + ((lo % 4294967296 : Nat) : Int)) = ((hi % 4294967296 * 4294967296 + lo % 4294967296 : Nat) : Int) := wrapUN (by omega)
  have q1 : IntKind.u64.wrap ((s.2 / 4294967296 : Nat) : Int) = ((s.2 / 4294967296 : Nat) : Int) := wrapU64 (by omega) (by omega)
  have q2 : IntKind.u64.wrap ((lowN n / 4294967296 : Nat) : Int) = ((lowN n / 4294967296 : Nat) : Int) := wrapU64 (by omega) (by omega)
  have q3 : IntKind.u64.wrap ((lo / 4294967296 : Nat) : Int) = ((lo / 4294967296 : Nat) : Int) := wrapU64 (by omega) (by omega)
  have q4 : IntKind.u64.wrap ((hi / 4294967296 : Nat) : Int) = ((hi / 4294967296 : Nat) : Int) := wrapU64 (by omega) (by omega)
  have ea : addS s n = (IntKind.i64.wrap (s.1 + (if n < 0 then -1 else 0) + ((hi / 4294967296 : Nat) : Int)), hi % 4294967296 * 4294967296 + lo % 4294967296) := by rw [← hca, ← hmo]; rfl
  rw [ea]
  clear ea hca hmo
  have fin : ∀ v : Value, Fresh H (H0.wr (H.size + 1) [v, u64 ((hi % 4294967296 * 4294967296 + lo % 4294967296 : Nat) : Int)]) := fun v => f0.then ((Ext.refl (fun z => z = H.size + 1) _).wr (fun _ => rfl) _) (fun z hz => by omega)
  refine Both.dec (fun hn => ?_) (fun hn => ?_) <;> simp (disch := (first | omega | (simp only [Zs] <;> omega) | fail)) only [go_sem, ↓reduceIte, Zv, rd_of_own b0, wn, if_neg z, tmodN, tdivN, w1, w3, w5, w6, w7, d0, q1, q2, q3, q4]
  · have e9 : IntKind.i64.wrap (IntKind.u64.wrap (IntKind.u64.wrap (IntKind.u64.wrap s.1 + 18446744073709551615) + ((hi / 4294967296 : Nat) : Int))) = IntKind.i64.wrap (s.1 + (if n < 0 then -1 else 0) + ((hi / 4294967296 : Nat) : Int)) := by
      rw [wrapU_add, Int.add_assoc, wrapU_add, wrap_wrapU, if_pos hn]
      exact wrap_cong (by omega)
    refine v1 e9 ?_
    have d1 := own_wr_same (l := [i64 (IntKind.i64.wrap (s.1 + (if n < 0 then -1 else 0) + ((hi / 4294967296 : Nat) : Int))), u64 ((hi % 4294967296 * 4294967296 + lo % 4294967296 : Nat) : Int)]) d0
    refine v1 (rd_of_own d1) ?_
    exact ⟨rfl, fin _⟩
  · have e9 : IntKind.i64.wrap (IntKind.u64.wrap (IntKind.u64.wrap (IntKind.u64.wrap s.1 + 0) + ((hi / 4294967296 : Nat) : Int))) = IntKind.i64.wrap (s.1 + (if n < 0 then -1 else 0) + ((hi / 4294967296 : Nat) : Int)) := by
      rw [wrapU_add, Int.add_assoc, wrapU_add, wrap_wrapU, if_neg hn]
      exact wrap_cong (by omega)
    refine v1 e9 ?_
    have d1 := own_wr_same (l := [i64 (IntKind.i64.wrap (s.1 + (if n < 0 then -1 else 0) + ((hi / 4294967296 : Nat) : Int))), u64 ((hi % 4294967296 * 4294967296 + lo % 4294967296 : Nat) : Int)]) d0
    refine v1 (rd_of_own d1) ?_
    exact ⟨rfl, fin _⟩
theorem wrap_range (x : Int) : -9223372036854775808 ≤ IntKind.i64.wrap x ∧ IntKind.i64.wrap x ≤ 9223372036854775807 := by
  have e : (2 ^ IntKind.i64.bits : Int) = 18446744073709551616 := rfl
  have e' : (2 ^ (IntKind.i64.bits - 1) : Int) = 9223372036854775808 := rfl
  unfold IntKind.wrap
  simp only [e, e', IntKind.signed, Bool.true_and, decide_eq_true_eq]
  split <;> omega
def InS (s : Int × Nat) : Prop := -9223372036854775808 ≤ s.1 ∧ s.1 ≤ 9223372036854775807 ∧ s.2 < 18446744073709551616
theorem addS_in (s : Int × Nat) (n : Int) : InS (addS s n) := ⟨(wrap_range _).1, (wrap_range _).2, Nat.mod_lt _ (by omega)⟩
theorem foldS_in (l : List Int) : ∀ s, InS s → InS (l.foldl addS s) := by
  induction l with
  | nil => exact fun _ h => h
  | cons x l ih => exact fun s h => ih _ (addS_in s x)
theorem totS_in (l : List Int) : InS (totS l) := foldS_in l _ ⟨by decide, by decide, by decide⟩
set_option maxHeartbeats 1000000 in
theorem ref21_Total_spec {H : Hp} {a : Option Addr} {n c : Nat} {l : List Int} (h : RdS H 1 (.slice a n c) n (l.map i64)) (hn : n ≤ 1000000) (hl : ∀ x ∈ l, -9223372036854775808 ≤ x ∧ x ≤ 9223372036854775807) :
    CallH Tryz.prog n_ref21_Total [.slice a n c] H fun v H' => Post (v = sumV (totS l) ∧ Fresh H H') := by
  have hlen : l.length = n := by have := h.1; simpa using this
  refine ccT d_ref21_Total ⟨rfl, ?_⟩
  have f0 : Fresh H ((H.new 39 [i64 0, u64 0]).new 39 [i64 0, u64 0]) := ((Ext.refl _ _).new _ _).new _ _
  have b0 : ((H.new 39 [i64 0, u64 0]).new 39 [i64 0, u64 0]).own H.size = some [i64 0, u64 0] := Ext.own (((Ext.refl (fun _ => False) _).new _ _) : Fresh (H.new 39 [i64 0, u64 0]) _) (own_new _ _ _) (fun h => h)
  have d0 : ((H.new 39 [i64 0, u64 0]).new 39 [i64 0, u64 0]).own (H.size + 1) = some [i64 0, u64 0] := own_new_eq (by simp only [size_new])
  refine v2 s_ref21_Total.eq_1 d0 ?_
  have f0' : Fresh H (((H.new 39 [i64 0, u64 0]).new 39 [i64 0, u64 0]).wr (H.size + 1) [i64 0, u64 0]) := f0.then ((Ext.refl (fun z => z = H.size + 1) _).wr (fun _ => rfl) _) (fun z hz => by omega)
  have b0' : (((H.new 39 [i64 0, u64 0]).new 39 [i64 0, u64 0]).wr (H.size + 1) [i64 0, u64 0]).own H.size = some [i64 0, u64 0] := by rw [own_wr_ne (by omega)]; exact b0
  have d0' : (((H.new 39 [i64 0, u64 0]).new 39 [i64 0, u64 0]).wr (H.size + 1) [i64 0, u64 0]).own (H.size + 1) = some [i64 0, u64 0] := own_wr_same d0
  generalize ((H.new 39 [i64 0, u64 0]).new 39 [i64 0, u64 0]).wr (H.size + 1) [i64 0, u64 0] = H0 at *
  clear f0 b0 d0
  refine LoopV.intro (fun m env H' => Fresh H H' ∧ H'.own H.size = some [i64 0, u64 0] ∧ ∃ (j : Nat), m = n - j ∧ j ≤ n ∧ H'.own (H.size + 1) = some [i64 (totS (l.take j)).1, u64 (totS (l.take j)).2] ∧
    env = [(2, ptr H.size), (3, ptr (H.size + 1)), (7, .slice a n c), (8, i64 n), (9, i64 j)]) n ⟨f0', b0', 0, by omega, by omega, d0', rfl⟩ ?_
  rintro m env H1 ⟨f1, b1, j, hm, hj, d1, rfl⟩
  have h1 := h.fresh f1
  refine vs ?_
  refine Both.dec (fun hlt => ?_) (fun hlt => ?_) <;> refine vs ?_
  · have hj2 : j < n := by omega
    obtain ⟨y, hy⟩ : ∃ y, l[j]? = some y := ⟨_, List.getElem?_eq_getElem (by omega)⟩
    obtain ⟨b, o, c', lb, hsl, hrd, hjn, hlb⟩ := RdS.get h1 (i := j) (j := 0) (x := i64 y) (by omega) (by rw [Nat.mul_one, Nat.add_zero, List.getElem?_map, hy]; rfl)
    injection hsl with hsl _ _
    subst hsl
    obtain ⟨hy0, hy1⟩ := hl y (List.mem_of_getElem? hy)
    refine ⟨⟨by omega, by omega⟩, ?_⟩
    rw [Nat.add_zero, Nat.mul_one] at hlb
    refine v5 hrd Int.toNat_natCast Nat.mul_one hlb (rd_of_own d1) ?_
    obtain ⟨g1, g2, g3⟩ := totS_in (l.take j)
    refine (ref21_add_spec H1 (totS (l.take j)) y hy0 hy1 g1 g2 g3).mono ?_
    rintro _ H2 ⟨rfl, f2⟩
    have d2 := f2.own d1 (fun h => h)
    have b2 := f2.own b1 (fun h => h)
    simp (disch := (first | omega | (simp only [Zs] <;> omega) | fail)) only [go_sem, ↓reduceIte, Zv, d2, sumV]
    rw [wrap64 (n := (j : Int) + 1) (by omega) (by omega)]
    have htk2 : totS (l.take (j + 1)) = addS (totS (l.take j)) y := by
      rw [List.take_add_one, hy]
      exact totS_snoc _ _
    refine ⟨n - (j + 1), by omega, (f1.trans f2).then ((Ext.refl (fun z => z = H.size + 1) _).wr (fun _ => rfl) _) (fun z hz => by omega), (by first | exact b2 | (rw [own_wr_ne (by omega)]; exact b2)), j + 1, rfl, by omega, ?_, rfl⟩
    rw [htk2]; exact own_wr_same d2
  · have hj2 : j = n := by omega
    subst hj2
    rw [List.take_of_length_le (by omega)] at d1
    have b2 := own_wr_same (l := [i64 (totS l).1, u64 (totS l).2]) b1
    refine v3 (rd_of_own d1) b1 (rd_of_own b2) ?_
    exact ⟨rfl, f1.then ((Ext.refl (fun z => z = H.size) _).wr (fun _ => rfl) _) (fun z hz => by omega)⟩
set_option maxHeartbeats 1000000 in
theorem IndexFuncI_spec {H : Hp} {a : Option Addr} {c : Nat} {xs : List Int} (f : FuncId) (caps : List Value) (q : Int → Bool) (Inv : Hp → Prop) (hI : Inv H) (hrd : ∀ H', Inv H' → RdS H' 1 (.slice a xs.length c) xs.length (xs.map i64)) (hcal : callable Tryz.prog f = true)
    (hf : ∀ H' x, x ∈ xs → Inv H' → CallH Tryz.prog f (i64 x :: caps) H' fun v H'' => Post (v = .bool (q x) ∧ Inv H'')) (hm : xs.length ≤ 1000000000) :
    CallH Tryz.prog n_slices_IndexFunc_int_int [.slice a xs.length c, .func (.func f) #[] caps.toArray] H fun v H' => Post (∃ i : Int, v = i64 i ∧ (0 ≤ i ↔ xs.any q = true) ∧ Inv H') := by
  refine ccT d_slices_IndexFunc_int_int ⟨rfl, ?_⟩
  refine v1 s_slices_IndexFunc_int_int.eq_1 ?_
  refine LoopV.intro (fun m env H' => Inv H' ∧ ∃ j : Nat, m = xs.length - j ∧ j ≤ xs.length ∧ (∀ e ∈ xs.take j, q e = false) ∧ env = [(0, .slice a xs.length c), (1, .func (.func f) #[] caps.toArray), (7, i64 xs.length), (8, i64 j)]) xs.length ⟨hI, 0, by omega, by omega, by simp, rfl⟩ ?_
  rintro m env H1 ⟨i1, j, hmj, hj, hall, rfl⟩
  have h1 := hrd H1 i1
  refine vs ?_
  refine Both.dec (fun hlt => ?_) (fun hlt => ?_) <;> refine vs ?_
  · have hj2 : j < xs.length := by omega
    obtain ⟨e, he⟩ : ∃ e, xs[j]? = some e := ⟨_, List.getElem?_eq_getElem hj2⟩
    obtain ⟨_, b, o, lb, rfl, hrd2, hcell⟩ := RdS.num h1 he
    refine ⟨⟨by omega, by omega⟩, ?_⟩
    have hmem := List.mem_of_getElem? he
    refine v4 hrd2 Int.toNat_natCast Nat.mul_one hcell ?_
    refine ⟨hcal, ?_⟩
    refine CallH.mono (by simpa using hf H1 e hmem i1) ?_
    rintro _ H2 ⟨rfl, i2⟩
    refine vs ?_
    cases hx : q e
    · refine vs ?_
      rw [wrap64 (n := (j : Int) + 1) (by omega) (by omega)]
      refine ⟨xs.length - (j + 1), by omega, i2, j + 1, rfl, by omega, ?_, rfl⟩
      intro e' he'
      rw [List.take_add_one, he] at he'
      rcases List.mem_append.1 he' with he' | he'
      · exact hall e' he'
      · have : e' = e := by simpa using he'
        rw [this]; exact hx
    · refine vs ?_
      exact ⟨j, rfl, ⟨fun _ => List.any_eq_true.2 ⟨e, hmem, hx⟩, fun _ => by omega⟩, i2⟩
  · refine ⟨-1, rfl, ?_, i1⟩
    have hj2 : j = xs.length := by omega
    subst hj2
    rw [List.take_length] at hall
    have : xs.any q = false := List.any_eq_false.2 fun e he => by rw [hall e he]; simp
    rw [this]
    simp
theorem ContainsFuncI_spec {H : Hp} {a : Option Addr} {c : Nat} {xs : List Int} (f : FuncId) (caps : List Value) (q : Int → Bool) (Inv : Hp → Prop) (hI : Inv H) (hrd : ∀ H', Inv H' → RdS H' 1 (.slice a xs.length c) xs.length (xs.map i64)) (hcal : callable Tryz.prog f = true)
    (hf : ∀ H' x, x ∈ xs → Inv H' → CallH Tryz.prog f (i64 x :: caps) H' fun v H'' => Post (v = .bool (q x) ∧ Inv H'')) (hm : xs.length ≤ 1000000000) :
    CallH Tryz.prog n_slices_ContainsFunc_int_int [.slice a xs.length c, .func (.func f) #[] caps.toArray] H fun v H' => Post (v = .bool (xs.any q) ∧ Inv H') := by
  refine ccT d_slices_ContainsFunc_int_int ⟨rfl, ?_⟩
  refine v1 s_slices_ContainsFunc_int_int.eq_1 ?_
  refine (IndexFuncI_spec f caps q Inv hI hrd hcal hf hm).mono ?_
  rintro _ H1 ⟨i, rfl, hi, i1⟩
  refine vs ?_
  refine ⟨congrArg Value.bool ?_, i1⟩
  cases hx : xs.any q
  · rw [hx] at hi
    exact decide_eq_false (fun h => by cases hi.1 h)
  · rw [hx] at hi
    exact decide_eq_true (hi.2 rfl)
theorem ref09_Same_spec {H : Hp} {a a' : Option Addr} {c c' : Nat} {xs ys : List Int} (h : RdS H 1 (.slice a xs.length c) xs.length (xs.map i64)) (h' : RdS H 1 (.slice a' ys.length c') ys.length (ys.map i64)) (hm : xs.length ≤ 1000000000000) :
    CallH Tryz.prog n_ref09_Same [.slice a xs.length c, .slice a' ys.length c'] H fun v H' => Post (v = .bool (decide (xs = ys)) ∧ H = H') := by
  refine ccT d_ref09_Same ⟨rfl, ?_⟩
  refine v1 s_ref09_Same.eq_1 ?_
  refine Both.dec (fun h2 => ?_) (fun h2 => ?_)
  rotate_left
  · refine vs ?_
    exact ⟨by rw [decide_eq_false (p := xs = ys) (fun e => h2 (by rw [e]))]; rfl, rfl⟩
  refine vs ?_
  refine LoopV.intro (fun k env H' => H' = H ∧ ∃ j : Nat, k = xs.length - j ∧ j ≤ xs.length ∧ xs.take j = ys.take j ∧ env = [(0, .slice a xs.length c), (1, .slice a' ys.length c'), (12, i64 xs.length), (13, i64 j)]) xs.length ⟨rfl, 0, by omega, by omega, rfl, rfl⟩ ?_
  rintro k env _ ⟨rfl, j, hk, hj, htk, rfl⟩
  refine vs ?_
  refine Both.dec (fun hlt => ?_) (fun hlt => ?_) <;> refine vs ?_
  · have hj2 : j < xs.length := by omega
    obtain ⟨x, hx⟩ : ∃ e, xs[j]? = some e := ⟨_, List.getElem?_eq_getElem hj2⟩
    obtain ⟨y, hy⟩ : ∃ e, ys[j]? = some e := ⟨_, List.getElem?_eq_getElem (by omega)⟩
    obtain ⟨_, b, o, lb, rfl, hrd, hcell⟩ := RdS.num h hx
    obtain ⟨_, b', o', lb', rfl, hrd', hcell'⟩ := RdS.num h' hy
    refine ⟨⟨by omega, by omega⟩, ?_⟩
    refine v4 hrd Int.toNat_natCast Nat.mul_one hcell ?_
    refine ⟨⟨by omega, by omega⟩, ?_⟩
    refine v4 hrd' Int.toNat_natCast Nat.mul_one hcell' ?_
    refine Both.dec (fun h3 => ?_) (fun h3 => ?_) <;> refine vs ?_
    · rw [wrap64 (n := (j : Int) + 1) (by omega) (by omega)]
      exact ⟨xs.length - (j + 1), by omega, trivial, j + 1, rfl, by omega, by rw [List.take_add_one, List.take_add_one, hx, hy, htk, h3], rfl⟩
    · refine ⟨?_, rfl⟩
      rw [decide_eq_false (fun e2 => h3 (by rw [e2, hy] at hx; injection hx with hx; exact hx.symm))]
      rfl
  · have hj2 : j = xs.length := by omega
    subst hj2
    rw [List.take_length, List.take_of_length_le (by omega)] at htk
    exact ⟨by rw [decide_eq_true htk]; rfl, rfl⟩
theorem wf26 {x : Int} (h : (Lit.int .i64 x).wf = true) : -9223372036854775808 ≤ x ∧ x ≤ 9223372036854775807 := by
  have e1 : IntKind.i64.min = -9223372036854775808 := rfl
  have e2 : IntKind.i64.max = 9223372036854775807 := rfl
  simp only [Lit.wf, e1, e2, Bool.and_eq_true, decide_eq_true_eq] at h
  omega
theorem fitA_ints26 {H : Hp} {v : Value} (h : fitA H (false, [.sl [.i .i64]]) v) : ∃ (ks : List Int) (a : Option Addr) (c : Nat), v = .slice a ks.length c ∧ RdS H 1 (.slice a ks.length c) ks.length (ks.map i64) ∧ ks.length ≤ maxLen ∧ ∀ x ∈ ks, -9223372036854775808 ≤ x ∧ x ≤ 9223372036854775807 := by
  obtain ⟨rows, hr, hf, hm, a, c, rfl, hc⟩ := fitA_slc h
  obtain ⟨ks, h1, h2, h3⟩ := rows_ints hf
  rw [h1] at hr
  rw [← h2] at hr hm ⊢
  exact ⟨ks, a, c, rfl, hr, hm, fun x hx => wf26 (h3 x hx)⟩
end Go.Proofs.YtjlnnljohemifaaGreat
