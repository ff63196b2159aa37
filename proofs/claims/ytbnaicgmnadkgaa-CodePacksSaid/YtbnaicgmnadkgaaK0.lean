/-
  Texts put behind each other by a program: Kraft, CodeP, Trie, CodeO, PackP.
-/
/-
  Plain law: is there room for words of such lengths?
-/
set_option linter.unusedVariables false
set_option linter.unusedSimpArgs false
namespace Go.Proofs.Ytbnaicgmnadkgaa

/-- What words of such lengths take of 2^M. -/
def kS (M : Nat) (ns : List Nat) : Nat := (ns.map fun n => 2 ^ (M - n)).sum
theorem kS_nil (M : Nat) : kS M [] = 0 := rfl
theorem kS_cons (M n : Nat) (ns : List Nat) : kS M (n :: ns) = 2 ^ (M - n) + kS M ns := by unfold kS; simp
theorem kS_app (M : Nat) (a b : List Nat) : kS M (a ++ b) = kS M a + kS M b := by unfold kS; simp
theorem kS_perm (M : Nat) {a b : List Nat} (h : a.Perm b) : kS M a = kS M b := by unfold kS; exact (h.map _).sum_nat

/-- A greater M: the same word. -/
theorem kS_up (M d : Nat) : ∀ ns : List Nat, (∀ n ∈ ns, n ≤ M) → kS (M + d) ns = 2 ^ d * kS M ns := by
  intro ns
  induction ns with
  | nil => intro _; simp [kS]
  | cons n ns ih =>
    intro h
    have hn := h n (by simp)
    rw [kS_cons, kS_cons, ih fun x hx => h x (List.mem_cons_of_mem _ hx), Nat.mul_add, ← Nat.pow_add, show M + d - n = d + (M - n) by omega]

/-- More than there is room for: 1; just all room: 0; or -1. -/
def krS (M : Nat) (ns : List Nat) : Int := if 2 ^ M < kS M ns then 1 else if kS M ns = 2 ^ M then 0 else -1
theorem krS_up (M d : Nat) {ns : List Nat} (h : ∀ n ∈ ns, n ≤ M) : krS (M + d) ns = krS M ns := by
  unfold krS
  have hp : 0 < 2 ^ d := Nat.pow_pos (by omega)
  have e1 : 2 ^ (M + d) < kS (M + d) ns ↔ 2 ^ M < kS M ns := by
    rw [kS_up M d ns h, Nat.pow_add, Nat.mul_comm (2 ^ M)]
    exact Nat.mul_lt_mul_left hp
  have e2 : kS (M + d) ns = 2 ^ (M + d) ↔ kS M ns = 2 ^ M := by
    rw [kS_up M d ns h, Nat.pow_add, Nat.mul_comm (2 ^ M)]
    exact ⟨Nat.eq_of_mul_eq_mul_left hp, fun e => by rw [e]⟩
  simp only [e1, e2]
theorem krS_any {M M' : Nat} {ns : List Nat} (h : ∀ n ∈ ns, n ≤ M) (h' : ∀ n ∈ ns, n ≤ M') : krS M ns = krS M' ns := by
  rcases Nat.le_total M M' with hm | hm
  · rw [show M' = M + (M' - M) by omega, krS_up _ _ h]
  · rw [show M = M' + (M - M') by omega, krS_up _ _ h']
theorem krS_perm (M : Nat) {a b : List Nat} (h : a.Perm b) : krS M a = krS M b := by unfold krS; rw [kS_perm M h]

/-- What is left free, length after length. -/
structure KrInv (M : Nat) (ns : List Nat) (j free at_ : Nat) : Prop where
  le : free * 2 ^ (M - at_) + kS M (ns.take j) ≤ 2 ^ M
  ex : free * 2 ^ (M - at_) + kS M (ns.take j) = 2 ^ M ∨ ns.length < free + j
  low : at_ ≤ M

theorem KrInv.begin (M : Nat) (ns : List Nat) : KrInv M ns 0 1 0 := ⟨by simp [kS], .inl (by simp [kS]), Nat.zero_le _⟩

theorem KrInv.double {M : Nat} {ns : List Nat} {j free at_ : Nat} (h : KrInv M ns j free at_) (hlt : at_ < M) : KrInv M ns j (free * 2) (at_ + 1) := by
  have e : free * 2 * 2 ^ (M - (at_ + 1)) = free * 2 ^ (M - at_) := by
    rw [Nat.mul_assoc, ← Nat.pow_succ', show (M - (at_ + 1)).succ = M - at_ by omega]
  refine ⟨by rw [e]; exact h.le, ?_, by omega⟩
  rw [e]
  rcases h.ex with h | h
  · exact .inl h
  · exact .inr (by omega)

theorem KrInv.jump {M : Nat} {ns : List Nat} {j free at_ n : Nat} (h : KrInv M ns j free at_) (hf : ns.length < free) (h1 : at_ ≤ n) (h2 : n ≤ M) : KrInv M ns j free n := by
  refine ⟨?_, .inr (by omega), h2⟩
  have : 2 ^ (M - n) ≤ 2 ^ (M - at_) := Nat.pow_le_pow_right (by omega) (by omega)
  exact Nat.le_trans (Nat.add_le_add_right (Nat.mul_le_mul_left _ this) _) h.le

theorem KrInv.jump0 {M : Nat} {ns : List Nat} {j at_ n : Nat} (h : KrInv M ns j 0 at_) (h2 : n ≤ M) : KrInv M ns j 0 n := by
  refine ⟨?_, ?_, h2⟩
  · have := h.le; simpa using this
  · have := h.ex; simpa using this

theorem kS_take {M : Nat} {ns : List Nat} {j n : Nat} (hn : ns[j]? = some n) : kS M (ns.take (j + 1)) = kS M (ns.take j) + 2 ^ (M - n) := by
  rw [List.take_add_one, hn, kS_app]
  simp [kS]
theorem kS_take_le (M : Nat) (ns : List Nat) (j : Nat) : kS M (ns.take j) ≤ kS M ns := by
  conv => rhs; rw [← List.take_append_drop j ns, kS_app]
  omega

theorem KrInv.use {M : Nat} {ns : List Nat} {j free n : Nat} (h : KrInv M ns j free n) (hn : ns[j]? = some n) (hf : 0 < free) : KrInv M ns (j + 1) (free - 1) n := by
  have e : (free - 1) * 2 ^ (M - n) + 2 ^ (M - n) = free * 2 ^ (M - n) := by
    rw [← Nat.succ_mul]; congr 1; omega
  refine ⟨?_, ?_, h.low⟩
  · rw [kS_take hn]
    have := h.le
    omega
  · rw [kS_take hn]
    rcases h.ex with h | h
    · left; omega
    · right; omega

theorem KrInv.none {M : Nat} {ns : List Nat} {j n : Nat} (h : KrInv M ns j 0 n) {m : Nat} (hn : ns[j]? = some m) : krS M ns = 1 := by
  have hj := (List.getElem?_eq_some_iff.1 hn).1
  have h1 := kS_take (M := M) hn
  have h2 := kS_take_le M ns (j + 1)
  have h3 : 0 < 2 ^ (M - m) := Nat.pow_pos (by omega)
  unfold krS
  rw [if_pos]
  rcases h.ex with h | h
  · rw [Nat.zero_mul] at h; omega
  · omega

theorem KrInv.done {M : Nat} {ns : List Nat} {free at_ : Nat} (h : KrInv M ns ns.length free at_) : krS M ns = if free = 0 then 0 else -1 := by
  have h1 := h.le
  have h2 := h.ex
  rw [List.take_length] at h1 h2
  unfold krS
  by_cases hf : free = 0
  · subst hf
    rw [Nat.zero_mul] at h1 h2
    have : kS M ns = 2 ^ M := by omega
    rw [if_neg (by omega), if_pos this, if_pos rfl]
  · have h3 : 0 < free * 2 ^ (M - at_) := Nat.mul_pos (by omega) (Nat.pow_pos (by omega))
    rw [if_neg (by omega), if_neg (by omega), if_neg hf]

/-- A sum, told from a length upward: n whole ones of that length, and whether there is a part of one. -/
def KrUp (M S at_ n : Nat) (part : Bool) : Prop := ∃ rem, S = n * 2 ^ (M - at_) + rem ∧ rem < 2 ^ (M - at_) ∧ (part = true ↔ rem ≠ 0)

theorem KrUp.zero (M at_ : Nat) : KrUp M 0 at_ 0 false := ⟨0, by simp, Nat.pow_pos (by omega), by simp⟩

theorem KrUp.more {M S at_ n : Nat} {part : Bool} (h : KrUp M S at_ n part) (k : Nat) : KrUp M (S + k * 2 ^ (M - at_)) at_ (n + k) part := by
  obtain ⟨r, h1, h2, h3⟩ := h
  exact ⟨r, by rw [Nat.add_mul, h1]; omega, h2, h3⟩

theorem KrUp.half {M S at_ n : Nat} {part : Bool} (h : KrUp M S at_ n part) (h0 : 0 < at_) (h1 : at_ ≤ M) : KrUp M S (at_ - 1) (n / 2) (part || n % 2 == 1) := by
  obtain ⟨r, e, hr, hp⟩ := h
  have hpow : 2 ^ (M - (at_ - 1)) = 2 * 2 ^ (M - at_) := by rw [show M - (at_ - 1) = M - at_ + 1 by omega, Nat.pow_succ, Nat.mul_comm]
  have hpos : 0 < 2 ^ (M - at_) := Nat.pow_pos (by omega)
  generalize 2 ^ (M - at_) = P at *
  refine ⟨n % 2 * P + r, ?_, ?_, ?_⟩
  · rw [hpow, e]
    have h2 : n * P = (n / 2 * 2 + n % 2) * P := by rw [show n / 2 * 2 + n % 2 = n by omega]
    rw [h2, Nat.add_mul, Nat.mul_assoc]
    omega
  · rw [hpow]
    have : n % 2 = 0 ∨ n % 2 = 1 := by omega
    rcases this with h | h <;> rw [h] <;> omega
  · have h2 : n % 2 = 0 ∨ n % 2 = 1 := by omega
    rcases h2 with h | h
    · rw [h]; simp; exact hp
    · rw [h]; simp; omega

theorem KrUp.down {M S at_ : Nat} {part : Bool} (h : KrUp M S at_ 0 part) {k : Nat} (hk : k ≤ at_) : KrUp M S k 0 part := by
  obtain ⟨r, e, hr, hp⟩ := h
  rw [Nat.zero_mul] at e
  have : 2 ^ (M - at_) ≤ 2 ^ (M - k) := Nat.pow_le_pow_right (by omega) (by omega)
  exact ⟨r, by rw [Nat.zero_mul]; exact e, by omega, hp⟩

theorem KrUp.end_ {M n : Nat} {ns : List Nat} {part : Bool} (h : KrUp M (kS M ns) 0 n part) : krS M ns = if 1 < n ∨ (n = 1 ∧ part = true) then 1 else if n = 1 then 0 else -1 := by
  obtain ⟨r, e, hr, hp⟩ := h
  rw [Nat.sub_zero] at e hr
  unfold krS
  rcases Nat.lt_or_ge n 1 with h | h
  · have : n = 0 := by omega
    subst this
    rw [Nat.zero_mul] at e
    rw [if_neg (by omega), if_neg (by omega), if_neg (by omega), if_neg (by omega)]
  · by_cases h1 : n = 1
    · subst h1
      rw [Nat.one_mul] at e
      cases part
      · have hr0 : r = 0 := by
          apply Classical.byContradiction
          intro h; have := hp.2 h; cases this
        rw [if_neg (by omega), if_pos (by omega), if_neg (by simp), if_pos rfl]
      · have := hp.1 rfl
        rw [if_pos (by omega), if_pos (.inr ⟨rfl, rfl⟩)]
    · have h2 : 2 * 2 ^ M ≤ n * 2 ^ M := Nat.mul_le_mul_right _ (by omega)
      have : 0 < 2 ^ M := Nat.pow_pos (by omega)
      rw [if_pos (by omega), if_pos (.inl (by omega))]

end Go.Proofs.Ytbnaicgmnadkgaa

/-
  Plain law: words of lengths, none the beginning of another one.
-/
set_option linter.unusedVariables false
set_option linter.unusedSimpArgs false
namespace Go.Proofs.Ytbnaicgmnadkgaa

/-- The bits of a number. -/
def valB : List Bool → Nat := List.foldl (fun a b => 2 * a + b.toNat) 0
theorem foldB (w : List Bool) : ∀ a : Nat, w.foldl (fun a b => 2 * a + b.toNat) a = a * 2 ^ w.length + valB w := by
  unfold valB
  induction w with
  | nil => intro a; simp
  | cons b w ih =>
    intro a
    rw [List.foldl_cons, List.foldl_cons, ih, ih (2 * 0 + b.toNat), List.length_cons, Nat.pow_succ, Nat.add_mul, Nat.add_mul]
    have : 2 * a * 2 ^ w.length = a * (2 ^ w.length * 2) := by rw [Nat.mul_comm 2 a, Nat.mul_assoc, Nat.mul_comm 2]
    omega
theorem valB_app (w t : List Bool) : valB (w ++ t) = valB w * 2 ^ t.length + valB t := by
  conv => lhs; unfold valB
  rw [List.foldl_append, foldB]
  rfl
theorem valB_one (b : Bool) : valB [b] = b.toNat := by unfold valB; simp
theorem valB_snoc (w : List Bool) (b : Bool) : valB (w ++ [b]) = 2 * valB w + b.toNat := by rw [valB_app, valB_one]; simp; omega
theorem valB_lt (w : List Bool) : valB w < 2 ^ w.length := by
  have : ∀ r : List Bool, valB r.reverse < 2 ^ r.length := by
    intro r
    induction r with
    | nil => simp [valB]
    | cons b r ih =>
      rw [List.reverse_cons, valB_snoc, List.length_cons, Nat.pow_succ]
      have : b.toNat ≤ 1 := by cases b <;> simp
      omega
  have := this w.reverse
  rwa [List.reverse_reverse, List.length_reverse] at this
theorem valB_zeros (n : Nat) : valB (List.replicate n false) = 0 := by
  induction n with
  | zero => rfl
  | succ n ih => rw [List.replicate_succ', valB_snoc, ih]; rfl

/-- One more, from the end on. -/
def incR : List Bool → List Bool
  | [] => []
  | false :: r => true :: r
  | true :: r => false :: incR r
def incB (w : List Bool) : List Bool := (incR w.reverse).reverse
theorem incR_len : ∀ r, (incR r).length = r.length
  | [] => rfl
  | false :: r => rfl
  | true :: r => by rw [incR, List.length_cons, List.length_cons, incR_len r]
theorem incB_len (w : List Bool) : (incB w).length = w.length := by unfold incB; rw [List.length_reverse, incR_len, List.length_reverse]
theorem incB_nil : incB [] = [] := rfl
theorem incB_zero (w : List Bool) : incB (w ++ [false]) = w ++ [true] := by unfold incB; rw [List.reverse_append]; simp [incR]
theorem incB_one (w : List Bool) : incB (w ++ [true]) = incB w ++ [false] := by unfold incB; rw [List.reverse_append]; simp [incR]

theorem incB_val : ∀ (r : List Bool), valB r.reverse + 1 < 2 ^ r.length → valB (incB r.reverse) = valB r.reverse + 1 := by
  intro r
  induction r with
  | nil => intro h; simp at h
  | cons b r ih =>
    intro h
    rw [List.reverse_cons] at h ⊢
    rw [List.length_cons, Nat.pow_succ, valB_snoc] at h
    cases b
    · rw [incB_zero, valB_snoc, valB_snoc]; rfl
    · have h1 : true.toNat = 1 := rfl
      rw [h1] at h
      rw [incB_one, valB_snoc, valB_snoc, ih (by omega)]
      have h0 : false.toNat = 0 := rfl
      rw [h0, h1]
      omega
theorem incB_v {w : List Bool} (h : valB w + 1 < 2 ^ w.length) : valB (incB w) = valB w + 1 := by
  have := incB_val w.reverse
  rw [List.reverse_reverse, List.length_reverse] at this
  exact this h

/-- Noughts behind it, up to a length. -/
def padB (n : Nat) (w : List Bool) : List Bool := w ++ List.replicate (n - w.length) false
theorem padB_len {n : Nat} {w : List Bool} (h : w.length ≤ n) : (padB n w).length = n := by unfold padB; simp; omega
theorem padB_val (n : Nat) (w : List Bool) : valB (padB n w) = valB w * 2 ^ (n - w.length) := by unfold padB; rw [valB_app, valB_zeros, List.length_replicate]; omega

/-- The words of such lengths, one behind another one. -/
def chainW : List Bool → List Nat → List (List Bool)
  | _, [] => []
  | last, n :: ns => padB n (incB last) :: chainW (padB n (incB last)) ns
theorem chainW_len : ∀ (ns : List Nat) (last : List Bool), (chainW last ns).length = ns.length
  | [], _ => rfl
  | n :: ns, last => by rw [chainW, List.length_cons, List.length_cons, chainW_len ns]

theorem chainW_val (M : Nat) : ∀ (ns : List Nat) (last : List Bool) (S : Nat), (∀ n ∈ ns, last.length ≤ n ∧ n ≤ M) → ns.Pairwise (· ≤ ·) → last.length ≤ M → valB last * 2 ^ (M - last.length) = S → S + 2 ^ (M - last.length) + kS M ns ≤ 2 ^ M →
    ∀ k w, (chainW last ns)[k]? = some w → ns[k]? = some w.length ∧ valB w * 2 ^ (M - w.length) = S + 2 ^ (M - last.length) + kS M (ns.take k) := by
  intro ns
  induction ns with
  | nil => intro last S _ _ _ _ _ k w hk; simp [chainW] at hk
  | cons n ns ih =>
    intro last S hb hp hlM hS hr k w hk
    obtain ⟨h1, h2⟩ := hb n (by simp)
    rw [List.pairwise_cons] at hp
    rw [kS_cons] at hr
    have hpos : 0 < 2 ^ (M - n) := Nat.pow_pos (by omega)
    have hlast : valB last + 1 < 2 ^ last.length := by
      apply Classical.byContradiction
      intro hno
      have : 2 ^ last.length * 2 ^ (M - last.length) ≤ (valB last + 1) * 2 ^ (M - last.length) := Nat.mul_le_mul_right _ (by omega)
      rw [← Nat.pow_add, show last.length + (M - last.length) = M by omega, Nat.add_mul, Nat.one_mul, hS] at this
      omega
    have hv : valB (padB n (incB last)) * 2 ^ (M - n) = S + 2 ^ (M - last.length) := by
      rw [padB_val, incB_len, incB_v hlast, Nat.mul_assoc, ← Nat.pow_add, show n - last.length + (M - n) = M - last.length by omega, Nat.add_mul, Nat.one_mul, hS]
    have hlen : (padB n (incB last)).length = n := padB_len (by rw [incB_len]; exact h1)
    cases k with
    | zero =>
      simp only [chainW, List.getElem?_cons_zero, Option.some.injEq] at hk
      subst hk
      rw [hlen]
      exact ⟨by simp, by rw [hv]; simp [kS]⟩
    | succ k =>
      simp only [chainW, List.getElem?_cons_succ] at hk
      obtain ⟨a, b⟩ := ih (padB n (incB last)) (S + 2 ^ (M - last.length)) (fun x hx => ⟨by rw [hlen]; exact hp.1 x hx, (hb x (List.mem_cons_of_mem _ hx)).2⟩) hp.2 (by rw [hlen]; exact h2) (by rw [hlen]; exact hv) (by rw [hlen]; omega) k w hk
      refine ⟨by rw [List.getElem?_cons_succ]; exact a, ?_⟩
      rw [b, hlen, List.take_succ_cons, kS_cons]
      omega

/-- From nothing on. -/
theorem chain_val {M : Nat} {ns : List Nat} (h1 : ∀ n ∈ ns, 1 ≤ n ∧ n ≤ M) (hp : ns.Pairwise (· ≤ ·)) (hr : kS M ns ≤ 2 ^ M) {k : Nat} {w : List Bool} (hk : (chainW [] ns)[k]? = some w) :
    ns[k]? = some w.length ∧ valB w * 2 ^ (M - w.length) = kS M (ns.take k) := by
  cases ns with
  | nil => simp [chainW] at hk
  | cons n ns =>
    obtain ⟨g1, g2⟩ := h1 n (by simp)
    rw [List.pairwise_cons] at hp
    rw [kS_cons] at hr
    have e : padB n (incB []) = List.replicate n false := by rw [incB_nil]; unfold padB; simp
    have hlen : (List.replicate n false).length = n := List.length_replicate
    cases k with
    | zero =>
      simp only [chainW, e, List.getElem?_cons_zero, Option.some.injEq] at hk
      subst hk
      rw [hlen, valB_zeros]
      exact ⟨by simp, by simp [kS]⟩
    | succ k =>
      simp only [chainW, e, List.getElem?_cons_succ] at hk
      obtain ⟨a, b⟩ := chainW_val M ns (List.replicate n false) 0 (fun x hx => ⟨by rw [hlen]; exact hp.1 x hx, (h1 x (List.mem_cons_of_mem _ hx)).2⟩) hp.2 (by rw [hlen]; exact g2) (by rw [valB_zeros]; simp) (by rw [hlen]; omega) k w hk
      refine ⟨by rw [List.getElem?_cons_succ]; exact a, ?_⟩
      rw [b, hlen, List.take_succ_cons, kS_cons]
      omega

/-- None is the beginning of another one. -/
theorem chain_free {M : Nat} {ns : List Nat} (h1 : ∀ n ∈ ns, 1 ≤ n ∧ n ≤ M) (hp : ns.Pairwise (· ≤ ·)) (hr : kS M ns ≤ 2 ^ M) {i k : Nat} {w v : List Bool} (hi : (chainW [] ns)[i]? = some w) (hk : (chainW [] ns)[k]? = some v) (hne : i ≠ k) : ¬ w <+: v := by
  rintro ⟨t, rfl⟩
  obtain ⟨a1, a2⟩ := chain_val h1 hp hr hi
  obtain ⟨b1, b2⟩ := chain_val h1 hp hr hk
  have hM := (h1 _ (List.mem_of_getElem? b1)).2
  rw [List.length_append] at b1 b2 hM
  have hpos : 0 < 2 ^ (M - w.length) := Nat.pow_pos (by omega)
  rcases Nat.lt_or_gt_of_ne hne with hlt | hlt
  · have h2 : kS M (ns.take (i + 1)) ≤ kS M (ns.take k) := by
      have := kS_take_le M (ns.take k) (i + 1)
      rwa [List.take_take, Nat.min_eq_left (by omega)] at this
    rw [kS_take a1] at h2
    have h3 : valB (w ++ t) * 2 ^ (M - (w.length + t.length)) < (valB w + 1) * 2 ^ (M - w.length) := by
      have e : 2 ^ (M - w.length) = 2 ^ t.length * 2 ^ (M - (w.length + t.length)) := by rw [← Nat.pow_add]; congr 1; omega
      rw [e, ← Nat.mul_assoc]
      refine Nat.mul_lt_mul_of_pos_right ?_ (Nat.pow_pos (by omega))
      rw [valB_app, Nat.add_mul, Nat.one_mul]
      have := valB_lt t
      omega
    rw [Nat.add_mul, Nat.one_mul] at h3
    omega
  · have ht : t.length = 0 := by
      have := List.pairwise_iff_getElem.1 hp k i (List.getElem?_eq_some_iff.1 b1).1 (List.getElem?_eq_some_iff.1 a1).1 hlt
      rw [(List.getElem?_eq_some_iff.1 b1).2, (List.getElem?_eq_some_iff.1 a1).2] at this
      omega
    have : t = [] := List.length_eq_zero_iff.1 ht
    subst this
    rw [List.append_nil] at b2
    rw [List.length_nil, Nat.add_zero] at b1 b2
    have h2 : kS M (ns.take (k + 1)) ≤ kS M (ns.take i) := by
      have := kS_take_le M (ns.take i) (k + 1)
      rwa [List.take_take, Nat.min_eq_left (by omega)] at this
    rw [kS_take b1] at h2
    omega

end Go.Proofs.Ytbnaicgmnadkgaa

/-
  Plain law: words none of which is the beginning of another one: what is read from the front on; a tree of their bits.
-/
set_option linter.unusedVariables false
set_option linter.unusedSimpArgs false
namespace Go.Proofs.Ytbnaicgmnadkgaa

/-- All words are some bits, and none is the beginning of another one. -/
structure FreeW (ws : List (List Bool)) : Prop where
  ne : ∀ w ∈ ws, w ≠ []
  free : ∀ (i k : Nat) (w v : List Bool), ws[i]? = some w → ws[k]? = some v → w <+: v → i = k

/-- The bits of symbols. -/
def bitsOf (ws : List (List Bool)) (ss : List Nat) : List Bool := ss.flatMap fun s => ws.getD s []
theorem bitsOf_cons (ws : List (List Bool)) (s : Nat) (ss : List Nat) : bitsOf ws (s :: ss) = ws.getD s [] ++ bitsOf ws ss := rfl
theorem bitsOf_app (ws : List (List Bool)) (a b : List Nat) : bitsOf ws (a ++ b) = bitsOf ws a ++ bitsOf ws b := List.flatMap_append ..

def InW (ws : List (List Bool)) (ss : List Nat) : Prop := ∀ s ∈ ss, s < ws.length

theorem getD_of {ws : List (List Bool)} {s : Nat} {w : List Bool} (h : ws[s]? = some w) : ws.getD s [] = w := by rw [List.getD_eq_getElem?_getD, h]; rfl
theorem of_lt {ws : List (List Bool)} {s : Nat} (h : s < ws.length) : ws[s]? = some (ws.getD s []) := by rw [List.getD_eq_getElem?_getD, List.getElem?_eq_getElem h]; rfl

/-- What is read is the front of whatever the whole can be read as. -/
theorem FreeW.front {ws : List (List Bool)} (h : FreeW ws) : ∀ (out out' : List Nat) (rest : List Bool), InW ws out → InW ws out' → bitsOf ws out ++ rest = bitsOf ws out' → ∃ q, out' = out ++ q ∧ rest = bitsOf ws q := by
  intro out
  induction out with
  | nil => intro out' rest _ _ he; exact ⟨out', rfl, he⟩
  | cons s out ih =>
    intro out' rest h1 h2 he
    have hs := of_lt (h1 s (by simp))
    cases out' with
    | nil =>
      exfalso
      rw [bitsOf_cons, List.append_assoc] at he
      have : ws.getD s [] = [] := (List.append_eq_nil_iff.1 he).1
      exact h.ne _ (List.mem_of_getElem? hs) this
    | cons s' out' =>
      have hs' := of_lt (h2 s' (by simp))
      rw [bitsOf_cons, bitsOf_cons, List.append_assoc] at he
      have e : s = s' := by
        have p1 : ws.getD s [] <+: ws.getD s' [] ++ bitsOf ws out' := ⟨_, he⟩
        have p2 : ws.getD s' [] <+: ws.getD s' [] ++ bitsOf ws out' := ⟨_, rfl⟩
        rcases List.prefix_or_prefix_of_prefix p1 p2 with p | p
        · exact h.free _ _ _ _ hs hs' p
        · exact (h.free _ _ _ _ hs' hs p).symm
      subst e
      obtain ⟨q, e1, e2⟩ := ih out' rest (fun x hx => h1 x (List.mem_cons_of_mem _ hx)) (fun x hx => h2 x (List.mem_cons_of_mem _ hx)) (List.append_cancel_left he)
      exact ⟨q, by rw [e1]; rfl, e2⟩

/-- There is but one way to read bits. -/
theorem FreeW.one {ws : List (List Bool)} (h : FreeW ws) {a b : List Nat} (ha : InW ws a) (hb : InW ws b) (e : bitsOf ws a = bitsOf ws b) : a = b := by
  obtain ⟨q, e1, e2⟩ := h.front a b [] ha hb (by rw [List.append_nil]; exact e)
  cases q with
  | nil => rw [e1, List.append_nil]
  | cons s q =>
    exfalso
    rw [bitsOf_cons] at e2
    have hs := of_lt (hb s (by rw [e1]; simp))
    exact h.ne _ (List.mem_of_getElem? hs) (List.append_eq_nil_iff.1 e2.symm).1

/-- No word begins what is left: it can't be read. -/
theorem FreeW.stuck {ws : List (List Bool)} (h : FreeW ws) {out : List Nat} {rest : List Bool} (ho : InW ws out) (hr : rest ≠ []) (hno : ∀ w ∈ ws, ¬ w <+: rest) : ∀ out', InW ws out' → bitsOf ws out ++ rest ≠ bitsOf ws out' := by
  intro out' h' e
  obtain ⟨q, e1, e2⟩ := h.front out out' rest ho h' e
  cases q with
  | nil => exact hr e2
  | cons s q =>
    have hs := of_lt (h' s (by rw [e1]; simp))
    exact hno _ (List.mem_of_getElem? hs) ⟨bitsOf ws q, by rw [← bitsOf_cons]; exact e2.symm⟩

/-- A step of the way to a word: where the next bits lead, and which symbol ends here. -/
structure Lf where
  a : Nat
  b : Nat
  s : Int

def Lf.nx (x : Lf) (c : Bool) : Nat := if c then x.b else x.a
def Lf.go (x : Lf) (c : Bool) (k : Nat) : Lf := if c then ⟨x.a, k, x.s⟩ else ⟨k, x.b, x.s⟩
theorem Lf.nx_go (x : Lf) (c c' : Bool) (k : Nat) : (x.go c k).nx c' = if c = c' then k else x.nx c' := by cases c <;> cases c' <;> rfl
theorem Lf.s_go (x : Lf) (c : Bool) (k : Nat) : (x.go c k).s = x.s := by cases c <;> rfl

/-- A tree of the bits of words P, and of the beginning q0 of one that is just planted; pth: which bits lead to each step. -/
structure TrieI (tr : List Lf) (pth : List (List Bool)) (P : List (Nat × List Bool)) (q0 : List Bool) : Prop where
  len : tr.length = pth.length
  root : pth[0]? = some []
  nd : pth.Nodup
  nxt : ∀ (i : Nat) (x : Lf) (q : List Bool) (c : Bool), tr[i]? = some x → pth[i]? = some q → (x.nx c = 0 ∧ q ++ [c] ∉ pth) ∨ (x.nx c ≠ 0 ∧ pth[x.nx c]? = some (q ++ [c]))
  sym : ∀ (i : Nat) (x : Lf) (q : List Bool), tr[i]? = some x → pth[i]? = some q → (x.s = -1 ∧ ∀ s, (s, q) ∉ P) ∨ ∃ s : Nat, x.s = (s : Int) ∧ (s, q) ∈ P
  pre : ∀ q, q ∈ pth ↔ q = [] ∨ (∃ (s : Nat) (w : List Bool), (s, w) ∈ P ∧ q <+: w) ∨ q <+: q0

theorem TrieI.new : TrieI [⟨0, 0, -1⟩] [[]] [] [] := by
  refine ⟨rfl, rfl, by simp, fun i x q c hx hq => ?_, fun i x q hx hq => ?_, fun q => ?_⟩
  · cases i with
    | zero =>
      simp at hx hq
      subst hx; subst hq
      left
      exact ⟨by cases c <;> rfl, by simp⟩
    | succ i => simp at hx
  · cases i with
    | zero =>
      simp at hx
      subst hx
      left
      exact ⟨rfl, by simp⟩
    | succ i => simp at hx
  · simp

theorem nodup_at {α : Type} {l : List α} (h : l.Nodup) {i k : Nat} {x : α} (hi : l[i]? = some x) (hk : l[k]? = some x) : i = k := by
  obtain ⟨h1, h2⟩ := List.getElem?_eq_some_iff.1 hi
  obtain ⟨h3, h4⟩ := List.getElem?_eq_some_iff.1 hk
  apply Classical.byContradiction
  intro hne
  rcases Nat.lt_or_gt_of_ne hne with hlt | hlt
  · exact List.pairwise_iff_getElem.1 h i k h1 h3 hlt (by rw [h2, h4])
  · exact List.pairwise_iff_getElem.1 h k i h3 h1 hlt (by rw [h2, h4])

/-- A bit more that is there. -/
theorem TrieI.step {tr : List Lf} {pth : List (List Bool)} {P : List (Nat × List Bool)} {q0 : List Bool} (h : TrieI tr pth P q0) {at_ : Nat} {x : Lf} {c : Bool} (hx : tr[at_]? = some x) (hq : pth[at_]? = some q0) (hn : x.nx c ≠ 0) :
    pth[x.nx c]? = some (q0 ++ [c]) ∧ TrieI tr pth P (q0 ++ [c]) := by
  rcases h.nxt at_ x q0 c hx hq with ⟨h0, _⟩ | ⟨_, h1⟩
  · exact absurd h0 hn
  refine ⟨h1, h.len, h.root, h.nd, h.nxt, h.sym, fun q => ?_⟩
  rw [h.pre q]
  constructor
  · rintro (h2 | h2 | h2)
    · exact .inl h2
    · exact .inr (.inl h2)
    · exact .inr (.inr (h2.trans (List.prefix_append _ _)))
  · rintro (h2 | h2 | h2)
    · exact .inl h2
    · exact .inr (.inl h2)
    · rcases List.prefix_concat_iff.1 h2 with h3 | h3
      · subst h3
        rcases (h.pre (q0 ++ [c])).1 (List.mem_of_getElem? h1) with h4 | h4 | h4
        · exact .inl h4
        · exact .inr (.inl h4)
        · exact .inr (.inr h4)
      · exact .inr (.inr h3)

/-- A bit more that is new. -/
theorem TrieI.grow {tr : List Lf} {pth : List (List Bool)} {P : List (Nat × List Bool)} {q0 : List Bool} (h : TrieI tr pth P q0) {at_ : Nat} {x : Lf} {c : Bool} (hx : tr[at_]? = some x) (hq : pth[at_]? = some q0) (hn : x.nx c = 0) :
    TrieI (tr.set at_ (x.go c tr.length) ++ [⟨0, 0, -1⟩]) (pth ++ [q0 ++ [c]]) P (q0 ++ [c]) ∧ (pth ++ [q0 ++ [c]])[tr.length]? = some (q0 ++ [c]) := by
  have hl := h.len
  obtain ⟨hat, _⟩ := List.getElem?_eq_some_iff.1 hx
  have hnew : q0 ++ [c] ∉ pth := by
    rcases h.nxt at_ x q0 c hx hq with ⟨_, h1⟩ | ⟨h1, _⟩
    · exact h1
    · exact absurd hn h1
  have hnP : ∀ s, (s, q0 ++ [c]) ∉ P := fun s hs => hnew ((h.pre _).2 (.inr (.inl ⟨s, _, hs, List.prefix_refl _⟩)))
  have hpos : 0 < pth.length := (List.getElem?_eq_some_iff.1 h.root).1
  have hlast : (pth ++ [q0 ++ [c]])[tr.length]? = some (q0 ++ [c]) := by rw [hl, List.getElem?_append_right (Nat.le_refl _), Nat.sub_self]; rfl
  have oldp : ∀ i q, i < pth.length → (pth ++ [q0 ++ [c]])[i]? = some q → pth[i]? = some q := fun i q hi hq => by rwa [List.getElem?_append_left hi] at hq
  have newp : ∀ i q, pth[i]? = some q → (pth ++ [q0 ++ [c]])[i]? = some q := fun i q hq => by rw [List.getElem?_append_left (List.getElem?_eq_some_iff.1 hq).1]; exact hq
  refine ⟨⟨by simp [hl], newp 0 _ h.root, ?_, fun i y q c' hy hq' => ?_, fun i y q hy hq' => ?_, fun q => ?_⟩, hlast⟩
  · rw [List.nodup_append]
    refine ⟨h.nd, by simp, fun a ha b hb e => ?_⟩
    rw [List.mem_singleton] at hb
    subst hb; subst e
    exact hnew ha
  · by_cases hi : i < tr.length
    · rw [List.getElem?_append_left (by simpa using hi)] at hy
      have hq2 := oldp i q (by omega) hq'
      by_cases hia : i = at_
      · subst hia
        rw [List.getElem?_set_self hi] at hy
        injection hy with hy
        subst hy
        rw [hq] at hq2
        injection hq2 with hq2
        subst hq2
        rw [Lf.nx_go]
        by_cases hc : c = c'
        · subst hc
          rw [if_pos rfl]
          right
          exact ⟨by omega, hlast⟩
        · rw [if_neg hc]
          rcases h.nxt i x q0 c' hx hq with ⟨h1, h2⟩ | ⟨h1, h2⟩
          · left
            refine ⟨h1, fun hm => ?_⟩
            rcases List.mem_append.1 hm with hm | hm
            · exact h2 hm
            · rw [List.mem_singleton] at hm
              have := List.append_cancel_left hm
              simp at this
              exact hc this.symm
          · exact .inr ⟨h1, newp _ _ h2⟩
      · rw [List.getElem?_set_ne (Ne.symm hia)] at hy
        rcases h.nxt i y q c' hy hq2 with ⟨h1, h2⟩ | ⟨h1, h2⟩
        · left
          refine ⟨h1, fun hm => ?_⟩
          rcases List.mem_append.1 hm with hm | hm
          · exact h2 hm
          · rw [List.mem_singleton] at hm
            have := List.append_inj' hm rfl
            rw [this.1] at hq2
            exact hia (nodup_at h.nd hq2 hq)
        · exact .inr ⟨h1, newp _ _ h2⟩
    · have hi2 : i = tr.length := by
        have := (List.getElem?_eq_some_iff.1 hy).1
        simp at this; omega
      subst hi2
      rw [List.getElem?_append_right (by simp)] at hy
      simp at hy
      subst hy
      rw [hlast] at hq'
      injection hq' with hq'
      subst hq'
      left
      refine ⟨by cases c' <;> rfl, fun hm => ?_⟩
      rcases List.mem_append.1 hm with hm | hm
      · rcases (h.pre _).1 hm with h2 | ⟨s, w, h3, h4⟩ | h2
        · simp at h2
        · exact hnew ((h.pre _).2 (.inr (.inl ⟨s, w, h3, (List.prefix_append _ _).trans h4⟩)))
        · have := h2.length_le; simp at this; omega
      · rw [List.mem_singleton] at hm
        have := congrArg List.length hm
        simp at this
  · by_cases hi : i < tr.length
    · rw [List.getElem?_append_left (by simpa using hi)] at hy
      have hq2 := oldp i q (by omega) hq'
      by_cases hia : i = at_
      · subst hia
        rw [List.getElem?_set_self hi] at hy
        injection hy with hy
        subst hy
        rw [Lf.s_go]
        exact h.sym i x q hx hq2
      · rw [List.getElem?_set_ne (Ne.symm hia)] at hy
        exact h.sym i y q hy hq2
    · have hi2 : i = tr.length := by
        have := (List.getElem?_eq_some_iff.1 hy).1
        simp at this; omega
      subst hi2
      rw [List.getElem?_append_right (by simp)] at hy
      simp at hy
      subst hy
      rw [hlast] at hq'
      injection hq' with hq'
      subst hq'
      exact .inl ⟨rfl, hnP⟩
  · rw [List.mem_append, List.mem_singleton, h.pre q]
    constructor
    · rintro ((h2 | h2 | h2) | h2)
      · exact .inl h2
      · exact .inr (.inl h2)
      · exact .inr (.inr (h2.trans (List.prefix_append _ _)))
      · exact .inr (.inr (h2 ▸ List.prefix_refl _))
    · rintro (h2 | h2 | h2)
      · exact .inl (.inl h2)
      · exact .inl (.inr (.inl h2))
      · rcases List.prefix_concat_iff.1 h2 with h3 | h3
        · exact .inr h3
        · exact .inl (.inr (.inr h3))

/-- A symbol's word is planted. -/
theorem TrieI.end_ {tr : List Lf} {pth : List (List Bool)} {P : List (Nat × List Bool)} {w : List Bool} (h : TrieI tr pth P w) {at_ : Nat} {x : Lf} (hx : tr[at_]? = some x) (hq : pth[at_]? = some w) (s : Nat) :
    TrieI (tr.set at_ ⟨x.a, x.b, s⟩) pth ((s, w) :: P) [] := by
  obtain ⟨hat, _⟩ := List.getElem?_eq_some_iff.1 hx
  refine ⟨by simp [h.len], h.root, h.nd, fun i y q c hy hq' => ?_, fun i y q hy hq' => ?_, fun q => ?_⟩
  · by_cases hia : i = at_
    · subst hia
      rw [List.getElem?_set_self hat] at hy
      injection hy with hy
      subst hy
      exact h.nxt i x q c hx hq'
    · rw [List.getElem?_set_ne (Ne.symm hia)] at hy
      exact h.nxt i y q c hy hq'
  · by_cases hia : i = at_
    · subst hia
      rw [List.getElem?_set_self hat] at hy
      injection hy with hy
      subst hy
      rw [hq] at hq'
      injection hq' with hq'
      subst hq'
      exact .inr ⟨s, rfl, by simp⟩
    · rw [List.getElem?_set_ne (Ne.symm hia)] at hy
      have hqw : q ≠ w := fun e => hia (nodup_at h.nd (e ▸ hq') hq)
      rcases h.sym i y q hy hq' with ⟨h1, h2⟩ | ⟨s', h1, h2⟩
      · left
        refine ⟨h1, fun s' hm => ?_⟩
        rcases List.mem_cons.1 hm with hm | hm
        · injection hm with _ hm; exact hqw hm
        · exact h2 s' hm
      · exact .inr ⟨s', h1, List.mem_cons_of_mem _ h2⟩
  · rw [h.pre q]
    constructor
    · rintro (h2 | ⟨s', v, h2, h3⟩ | h2)
      · exact .inl h2
      · exact .inr (.inl ⟨s', v, List.mem_cons_of_mem _ h2, h3⟩)
      · exact .inr (.inl ⟨s, w, by simp, h2⟩)
    · rintro (h2 | ⟨s', v, h2, h3⟩ | h2)
      · exact .inl h2
      · rcases List.mem_cons.1 h2 with h2 | h2
        · injection h2 with _ h2
          subst h2
          exact .inr (.inr h3)
        · exact .inr (.inl ⟨s', v, h2, h3⟩)
      · exact .inl (List.prefix_nil.1 h2)

/-- The tree of all words. -/
structure TrieW (tr : List Lf) (pth : List (List Bool)) (ws : List (List Bool)) : Prop where
  tree : ∃ P, TrieI tr pth P [] ∧ ∀ s w, (s, w) ∈ P ↔ ws[s]? = some w

/-- What has been read: some symbols, and bits that lead to a step and begin with no word. -/
structure RdB (pth : List (List Bool)) (ws : List (List Bool)) (out : List Nat) (cur : List Bool) (at_ : Nat) : Prop where
  path : pth[at_]? = some cur
  open_ : ∀ w ∈ ws, ¬ w <+: cur
  inw : InW ws out

theorem TrieW.at {tr : List Lf} {pth ws : List (List Bool)} (h : TrieW tr pth ws) {k : Nat} {q : List Bool} (hq : pth[k]? = some q) : ∃ x, tr[k]? = some x := by
  obtain ⟨P, t, _⟩ := h.tree
  exact ⟨_, List.getElem?_eq_getElem (by rw [t.len]; exact (List.getElem?_eq_some_iff.1 hq).1)⟩

theorem RdB.begin {tr : List Lf} {pth ws : List (List Bool)} (h : TrieW tr pth ws) (hf : FreeW ws) : RdB pth ws [] [] 0 := by
  obtain ⟨P, t, _⟩ := h.tree
  exact ⟨t.root, fun w hw hp => hf.ne w hw (List.prefix_nil.1 hp), by intro s hs; cases hs⟩

theorem RdB.fail {tr : List Lf} {pth ws : List (List Bool)} (h : TrieW tr pth ws) (hf : FreeW ws) {out : List Nat} {cur : List Bool} {at_ : Nat} (r : RdB pth ws out cur at_) {x : Lf} (hx : tr[at_]? = some x) {c : Bool} (hn : x.nx c = 0) (rest : List Bool) :
    ∀ out', InW ws out' → bitsOf ws out ++ (cur ++ c :: rest) ≠ bitsOf ws out' := by
  obtain ⟨P, t, hP⟩ := h.tree
  have hno : cur ++ [c] ∉ pth := by
    rcases t.nxt at_ x cur c hx r.path with ⟨_, h1⟩ | ⟨h1, _⟩
    · exact h1
    · exact absurd hn h1
  refine hf.stuck r.inw (by simp) fun w hw hp => ?_
  obtain ⟨s, hs⟩ := List.getElem?_of_mem hw
  have p2 : cur ++ [c] <+: cur ++ c :: rest := ⟨rest, by simp⟩
  have bad : cur ++ [c] <+: w → False := fun hq => hno ((t.pre _).2 (.inr (.inl ⟨s, w, (hP s w).2 hs, hq⟩)))
  rcases List.prefix_or_prefix_of_prefix hp p2 with h3 | h3
  · rcases List.prefix_concat_iff.1 h3 with h4 | h4
    · exact bad (h4 ▸ List.prefix_refl _)
    · exact r.open_ w hw h4
  · exact bad h3

theorem RdB.go {tr : List Lf} {pth ws : List (List Bool)} (h : TrieW tr pth ws) (hf : FreeW ws) {out : List Nat} {cur : List Bool} {at_ : Nat} (r : RdB pth ws out cur at_) {x y : Lf} (hx : tr[at_]? = some x) {c : Bool} (hn : x.nx c ≠ 0) (hy : tr[x.nx c]? = some y) :
    (y.s = -1 ∧ RdB pth ws out (cur ++ [c]) (x.nx c)) ∨ ∃ s : Nat, y.s = (s : Int) ∧ s < ws.length ∧ RdB pth ws (out ++ [s]) [] 0 ∧ bitsOf ws (out ++ [s]) = bitsOf ws out ++ (cur ++ [c]) := by
  obtain ⟨P, t, hP⟩ := h.tree
  have hq : pth[x.nx c]? = some (cur ++ [c]) := by
    rcases t.nxt at_ x cur c hx r.path with ⟨h1, _⟩ | ⟨_, h1⟩
    · exact absurd h1 hn
    · exact h1
  rcases t.sym _ y _ hy hq with ⟨h1, h2⟩ | ⟨s, h1, h2⟩
  · left
    refine ⟨h1, hq, fun w hw hp => ?_, r.inw⟩
    rcases List.prefix_concat_iff.1 hp with h4 | h4
    · obtain ⟨s, hs⟩ := List.getElem?_of_mem hw
      exact h2 s ((hP s _).2 (h4 ▸ hs))
    · exact r.open_ w hw h4
  · right
    have hs := (hP s _).1 h2
    have hlt := (List.getElem?_eq_some_iff.1 hs).1
    refine ⟨s, h1, hlt, ⟨t.root, fun w hw hp => hf.ne w hw (List.prefix_nil.1 hp), fun z hz => ?_⟩, ?_⟩
    · rcases List.mem_append.1 hz with hz | hz
      · exact r.inw z hz
      · rw [List.mem_singleton.1 hz]; exact hlt
    · rw [bitsOf_app, bitsOf_cons, getD_of hs]
      show bitsOf ws out ++ ((cur ++ [c]) ++ []) = _
      rw [List.append_nil]

theorem RdB.left {tr : List Lf} {pth ws : List (List Bool)} (h : TrieW tr pth ws) (hf : FreeW ws) {out : List Nat} {cur : List Bool} {at_ : Nat} (r : RdB pth ws out cur at_) (h0 : at_ ≠ 0) :
    ∀ out', InW ws out' → bitsOf ws out ++ cur ≠ bitsOf ws out' := by
  obtain ⟨P, t, hP⟩ := h.tree
  refine hf.stuck r.inw (fun e => ?_) r.open_
  have hp := r.path
  rw [e] at hp
  exact h0 (nodup_at t.nd hp t.root)

theorem RdB.whole {tr : List Lf} {pth ws : List (List Bool)} (h : TrieW tr pth ws) {out : List Nat} {cur : List Bool} (r : RdB pth ws out cur 0) : cur = [] := by
  obtain ⟨P, t, hP⟩ := h.tree
  have hp := r.path
  rw [t.root] at hp
  injection hp with hp
  exact hp.symm

end Go.Proofs.Ytbnaicgmnadkgaa

/-
  Plain law: in which order symbols get their words; what words they get.
-/
set_option linter.unusedVariables false
set_option linter.unusedSimpArgs false
namespace Go.Proofs.Ytbnaicgmnadkgaa

/-- One list only is in a strict order, of what it has. -/
theorem eq_of_strict {r : Nat → Nat → Prop} (irr : ∀ a, ¬ r a a) (tr : ∀ a b c, r a b → r b c → r a c) : ∀ l1 l2 : List Nat, l1.Pairwise r → l2.Pairwise r → (∀ a, a ∈ l1 ↔ a ∈ l2) → l1 = l2 := by
  intro l1
  induction l1 with
  | nil =>
    intro l2 _ _ h
    cases l2 with
    | nil => rfl
    | cons b l2 => have := (h b).2 (by simp); simp at this
  | cons a l1 ih =>
    intro l2 h1 h2 h
    cases l2 with
    | nil => have := (h a).1 (by simp); simp at this
    | cons b l2 =>
      rw [List.pairwise_cons] at h1 h2
      have hab : a = b := by
        rcases List.mem_cons.1 ((h a).1 (by simp)) with e | e
        · exact e
        · rcases List.mem_cons.1 ((h b).2 (by simp)) with e' | e'
          · exact e'.symm
          · exact absurd (tr _ _ _ (h1.1 b e') (h2.1 a e)) (irr a)
      subst hab
      rw [ih l2 h1.2 h2.2 fun x => ?_]
      constructor
      · intro hx
        rcases List.mem_cons.1 ((h x).1 (List.mem_cons_of_mem _ hx)) with e | e
        · subst e; exact absurd (h1.1 x hx) (irr x)
        · exact e
      · intro hx
        rcases List.mem_cons.1 ((h x).2 (List.mem_cons_of_mem _ hx)) with e | e
        · subst e; exact absurd (h2.1 x hx) (irr x)
        · exact e

/-- By length, then by number. -/
def lexP (l : List Nat) (s t : Nat) : Prop := l.getD s 0 < l.getD t 0 ∨ (l.getD s 0 = l.getD t 0 ∧ s < t)
theorem lexP_irr (l : List Nat) (a : Nat) : ¬ lexP l a a := by unfold lexP; omega
theorem lexP_tr (l : List Nat) (a b c : Nat) : lexP l a b → lexP l b c → lexP l a c := by unfold lexP; omega

/-- Length after length, symbol after symbol. -/
def ordM (l : List Nat) (m : Nat) : List Nat := (List.range m).flatMap fun n => (List.range l.length).filter fun s => decide (l.getD s 0 = n + 1)
def ordR (l : List Nat) : List Nat := ordM l 128
theorem ordM_succ (l : List Nat) (m : Nat) : ordM l (m + 1) = ordM l m ++ (List.range l.length).filter fun s => decide (l.getD s 0 = m + 1) := by unfold ordM; rw [List.range_succ, List.flatMap_append]; simp
theorem ordM_mem (l : List Nat) (m s : Nat) : s ∈ ordM l m ↔ s < l.length ∧ 1 ≤ l.getD s 0 ∧ l.getD s 0 ≤ m := by
  unfold ordM
  rw [List.mem_flatMap]
  constructor
  · rintro ⟨n, hn, hs⟩
    rw [List.mem_filter, List.mem_range, decide_eq_true_eq] at hs
    rw [List.mem_range] at hn
    omega
  · rintro ⟨h1, h2, h3⟩
    exact ⟨l.getD s 0 - 1, List.mem_range.2 (by omega), List.mem_filter.2 ⟨List.mem_range.2 h1, decide_eq_true (by omega)⟩⟩
theorem range_lt (n : Nat) : (List.range n).Pairwise (· < ·) := List.pairwise_lt_range
theorem ordM_sorted (l : List Nat) : ∀ m, (ordM l m).Pairwise (lexP l) := by
  intro m
  induction m with
  | zero => simp [ordM]
  | succ m ih =>
    rw [ordM_succ, List.pairwise_append]
    refine ⟨ih, ?_, fun a ha b hb => ?_⟩
    · have h1 : ((List.range l.length).filter fun s => decide (l.getD s 0 = m + 1)).Pairwise (· < ·) := (range_lt _).filter _
      refine List.Pairwise.imp_of_mem (fun {a b} ha hb h => ?_) h1
      have e1 := of_decide_eq_true (List.mem_filter.1 ha).2
      have e2 := of_decide_eq_true (List.mem_filter.1 hb).2
      exact .inr ⟨by omega, h⟩
    · have e1 := (ordM_mem l m a).1 ha
      have e2 := of_decide_eq_true (List.mem_filter.1 hb).2
      exact .inl (by omega)

/-- Lengths of words that can be. -/
structure RightL (l : List Nat) : Prop where
  low : ∀ n ∈ l, 1 ≤ n ∧ n ≤ 128
  room : kS 128 l ≤ 2 ^ 128

theorem getD_mem {l : List Nat} {s : Nat} (h : s < l.length) : l.getD s 0 ∈ l := by
  rw [List.getD_eq_getElem?_getD, List.getElem?_eq_getElem h]
  exact List.getElem_mem h

/-- Whoever sorts them has the document's order. -/
theorem ord_eq {l o : List Nat} (h : ∀ n ∈ l, 1 ≤ n ∧ n ≤ 128) (hp : o.Perm (List.range l.length)) (hs : o.Pairwise (lexP l)) : o = ordR l := by
  refine eq_of_strict (lexP_irr l) (lexP_tr l) _ _ hs (ordM_sorted l 128) fun a => ?_
  rw [hp.mem_iff, List.mem_range]
  unfold ordR
  rw [ordM_mem]
  exact ⟨fun ha => ⟨ha, h _ (getD_mem ha)⟩, fun ha => ha.1⟩

/-- One symbol more has its word. -/
def stepW (l : List Nat) (st : List Bool × List (List Bool)) (s : Nat) : List Bool × List (List Bool) := (padB (l.getD s 0) (incB st.1), st.2.set s (padB (l.getD s 0) (incB st.1)))
def wordsF (l o : List Nat) : List Bool × List (List Bool) := o.foldl (stepW l) ([], List.replicate l.length [])

theorem foldW (l : List Nat) : ∀ (o : List Nat) (last : List Bool) (out : List (List Bool)), o.Nodup → (∀ s ∈ o, s < out.length) →
    (o.foldl (stepW l) (last, out)).2.length = out.length ∧ (∀ j s : Nat, o[j]? = some s → (o.foldl (stepW l) (last, out)).2[s]? = (chainW last (o.map fun s => l.getD s 0))[j]?) ∧ ∀ s, s ∉ o → (o.foldl (stepW l) (last, out)).2[s]? = out[s]? := by
  intro o
  induction o with
  | nil => intro last out _ _; exact ⟨rfl, fun j s h => by simp at h, fun _ _ => rfl⟩
  | cons x o ih =>
    intro last out hn hb
    rw [List.nodup_cons] at hn
    have hx := hb x (by simp)
    obtain ⟨h1, h2, h3⟩ := ih (padB (l.getD x 0) (incB last)) (out.set x (padB (l.getD x 0) (incB last))) hn.2 (fun s hs => by rw [List.length_set]; exact hb s (List.mem_cons_of_mem _ hs))
    have e : (x :: o).foldl (stepW l) (last, out) = o.foldl (stepW l) (padB (l.getD x 0) (incB last), out.set x (padB (l.getD x 0) (incB last))) := rfl
    rw [e]
    refine ⟨by rw [h1, List.length_set], fun j s hj => ?_, fun s hs => ?_⟩
    · cases j with
      | zero =>
        simp only [List.getElem?_cons_zero, Option.some.injEq] at hj
        subst hj
        rw [h3 _ hn.1, List.getElem?_set_self hx]
        rfl
      | succ j =>
        rw [List.getElem?_cons_succ] at hj
        rw [h2 j s hj]
        rfl
    · rw [List.mem_cons, not_or] at hs
      rw [h3 s hs.2, List.getElem?_set_ne (Ne.symm hs.1)]

theorem map_getD (l : List Nat) : (List.range l.length).map (fun s => l.getD s 0) = l := by
  apply List.ext_getElem?
  intro k
  rw [List.getElem?_map]
  by_cases hk : k < l.length
  · rw [List.getElem?_range hk, List.getElem?_eq_getElem hk, Option.map_some, List.getD_eq_getElem?_getD, List.getElem?_eq_getElem hk]; rfl
  · rw [List.getElem?_eq_none (by simp; omega), List.getElem?_eq_none (by omega)]; rfl

/-- The words. -/
theorem wordsF_ok {l o : List Nat} (h : RightL l) (hp : o.Perm (List.range l.length)) (hs : o.Pairwise (lexP l)) : (wordsF l o).2.length = l.length ∧ (∀ s w, (wordsF l o).2[s]? = some w → w.length = l.getD s 0) ∧ FreeW (wordsF l o).2 := by
  have hn : o.Nodup := List.Nodup.perm List.nodup_range hp.symm
  have hmem : ∀ s, s ∈ o ↔ s < l.length := fun s => by rw [hp.mem_iff, List.mem_range]
  obtain ⟨h1, h2, h3⟩ := foldW l o [] (List.replicate l.length []) hn (fun s hs => by rw [List.length_replicate]; exact (hmem s).1 hs)
  have e : (wordsF l o).2 = (o.foldl (stepW l) ([], List.replicate l.length [])).2 := rfl
  rw [← e] at h1 h2 h3
  rw [List.length_replicate] at h1
  have hl1 : ∀ n ∈ o.map (fun s => l.getD s 0), 1 ≤ n ∧ n ≤ 128 := fun n hn => by
    obtain ⟨s, hs, rfl⟩ := List.mem_map.1 hn
    exact h.low _ (getD_mem ((hmem s).1 hs))
  have hl2 : (o.map fun s => l.getD s 0).Pairwise (· ≤ ·) := by
    rw [List.pairwise_map]
    exact hs.imp fun {a b} h => by unfold lexP at h; omega
  have hl3 : kS 128 (o.map fun s => l.getD s 0) ≤ 2 ^ 128 := by
    have hq : (o.map fun s => l.getD s 0).Perm l := by
      have := hp.map fun s => l.getD s 0
      rwa [map_getD] at this
    rw [kS_perm 128 hq]
    exact h.room
  have find : ∀ s w, (wordsF l o).2[s]? = some w → ∃ j, o[j]? = some s ∧ (chainW [] (o.map fun s => l.getD s 0))[j]? = some w := fun s w hw => by
    have hlt : s < l.length := by have := (List.getElem?_eq_some_iff.1 hw).1; omega
    obtain ⟨j, hj⟩ := List.getElem?_of_mem ((hmem s).2 hlt)
    exact ⟨j, hj, by rw [← h2 j s hj]; exact hw⟩
  have len : ∀ s w, (wordsF l o).2[s]? = some w → w.length = l.getD s 0 := fun s w hw => by
    obtain ⟨j, hj, hc⟩ := find s w hw
    have := (chain_val hl1 hl2 hl3 hc).1
    rw [List.getElem?_map, hj] at this
    injection this with this
    exact this.symm
  refine ⟨h1, len, ⟨fun w hw e => ?_, fun i k w v hi hk hpre => ?_⟩⟩
  · obtain ⟨s, hs⟩ := List.getElem?_of_mem hw
    have h4 := len s w hs
    have hlt : s < l.length := by have := (List.getElem?_eq_some_iff.1 hs).1; omega
    have := (h.low _ (getD_mem hlt)).1
    rw [e] at h4
    have h4 : 0 = l.getD s 0 := h4
    omega
  · obtain ⟨j, hj, hc⟩ := find i w hi
    obtain ⟨j', hj', hc'⟩ := find k v hk
    by_cases e : j = j'
    · subst e
      rw [hj] at hj'
      injection hj'
    · exact absurd hpre (chain_free hl1 hl2 hl3 hc hc' e)

end Go.Proofs.Ytbnaicgmnadkgaa

/-
  Plain law: bits as bytes, and bytes as bits.
-/
set_option linter.unusedVariables false
set_option linter.unusedSimpArgs false
namespace Go.Proofs.Ytbnaicgmnadkgaa

/-- A byte's bits, from the highest one on. -/
def bits8 (c : Nat) : List Bool := (List.range 8).map fun i => decide (c / 2 ^ (7 - i) % 2 = 1)
theorem bits8_len (c : Nat) : (bits8 c).length = 8 := by simp [bits8]
theorem bits8_at (c i : Nat) (h : i < 8) : (bits8 c)[i]? = some (decide (c / 2 ^ (7 - i) % 2 = 1)) := by
  unfold bits8
  rw [List.getElem?_map, List.getElem?_range h]
  rfl

theorem bits8_eq (c : Nat) : bits8 c = [decide (c / 128 % 2 = 1), decide (c / 64 % 2 = 1), decide (c / 32 % 2 = 1), decide (c / 16 % 2 = 1), decide (c / 8 % 2 = 1), decide (c / 4 % 2 = 1), decide (c / 2 % 2 = 1), decide (c / 1 % 2 = 1)] := rfl

theorem toNat_odd (n : Nat) : (decide (n % 2 = 1)).toNat = n % 2 := by
  rcases Nat.mod_two_eq_zero_or_one n with h | h <;> rw [h] <;> rfl

theorem valB_bits8 {c : Nat} (h : c < 256) : valB (bits8 c) = c := by
  rw [bits8_eq]
  unfold valB
  simp only [List.foldl_cons, List.foldl_nil, toNat_odd]
  omega

theorem bits8_valB {q : List Bool} (h : q.length = 8) : bits8 (valB q) = q := by
  match q, h with
  | [a, b, c, d, e, f, g, k], _ =>
    cases a <;> cases b <;> cases c <;> cases d <;> cases e <;> cases f <;> cases g <;> cases k <;> decide

/-- Bits, eight to a byte. -/
def bytesOf (w : List Bool) : List Nat := (List.range (w.length / 8)).map fun j => valB ((w.drop (8 * j)).take 8)
def bitsAll (b : List Nat) : List Bool := b.flatMap bits8
theorem bytesOf_len (w : List Bool) : (bytesOf w).length = w.length / 8 := by simp [bytesOf]
theorem bitsAll_len (b : List Nat) : (bitsAll b).length = 8 * b.length := by
  induction b with
  | nil => rfl
  | cons c b ih => simp only [bitsAll, List.flatMap_cons, List.length_append, bits8_len, List.length_cons] at *; omega
theorem bytesOf_at {w : List Bool} {j : Nat} (h : j < w.length / 8) : (bytesOf w)[j]? = some (valB ((w.drop (8 * j)).take 8)) := by
  unfold bytesOf
  rw [List.getElem?_map, List.getElem?_range h]
  rfl

theorem bytesOf_cons {q w : List Bool} (h : q.length = 8) : bytesOf (q ++ w) = valB q :: bytesOf w := by
  unfold bytesOf
  rw [List.length_append, h, show (8 + w.length) / 8 = w.length / 8 + 1 by omega, List.range_succ_eq_map, List.map_cons, List.map_map]
  congr 1
  · rw [Nat.mul_zero, List.drop_zero, List.take_left' h]
  · apply List.map_congr_left
    intro j _
    show valB (((q ++ w).drop (8 * (j + 1))).take 8) = _
    rw [show 8 * (j + 1) = q.length + 8 * j by omega, List.drop_append, List.drop_eq_nil_of_le (by omega), List.nil_append, Nat.add_sub_cancel_left]

theorem bytesOf_bitsAll {b : List Nat} (h : ∀ c ∈ b, c < 256) : bytesOf (bitsAll b) = b := by
  induction b with
  | nil => rfl
  | cons c b ih =>
    show bytesOf (bits8 c ++ bitsAll b) = _
    rw [bytesOf_cons (bits8_len c), valB_bits8 (h c (by simp)), ih fun x hx => h x (List.mem_cons_of_mem _ hx)]

theorem bitsAll_bytesOf : ∀ (n : Nat) (w : List Bool), w.length = 8 * n → bitsAll (bytesOf w) = w := by
  intro n
  induction n with
  | zero =>
    intro w h
    obtain rfl : w = [] := List.length_eq_zero_iff.1 (by omega)
    rfl
  | succ n ih =>
    intro w h
    have e : w = w.take 8 ++ w.drop 8 := (List.take_append_drop 8 w).symm
    have h8 : (w.take 8).length = 8 := by rw [List.length_take]; omega
    rw [e, bytesOf_cons h8]
    show bits8 (valB (w.take 8)) ++ bitsAll (bytesOf (w.drop 8)) = _
    rw [bits8_valB h8, ih (w.drop 8) (by rw [List.length_drop]; omega)]

/-- How many noughts there are behind. -/
def moreN (n : Nat) : Nat := (8 - n % 8) % 8
def fullB (w : List Bool) : List Bool := w ++ List.replicate (moreN w.length) false
theorem fullB_len (w : List Bool) : (fullB w).length = w.length + moreN w.length := by simp [fullB]
theorem fullB_mod (w : List Bool) : (fullB w).length = 8 * ((w.length + 7) / 8) := by rw [fullB_len]; unfold moreN; omega
/-- Bits as bytes. -/
def packL (w : List Bool) : List Nat := moreN w.length :: bytesOf (fullB w)
theorem packL_len (w : List Bool) : (packL w).length = 1 + (w.length + 7) / 8 := by
  unfold packL
  rw [List.length_cons, bytesOf_len, fullB_mod]
  omega
theorem valB_8 {q : List Bool} (h : q.length ≤ 8) : valB q < 256 := by
  have h1 := valB_lt q
  have h2 : 2 ^ q.length ≤ 2 ^ 8 := Nat.pow_le_pow_right (by decide) h
  omega
theorem packL_lt (w : List Bool) : ∀ c ∈ packL w, c < 256 := by
  intro c hc
  rcases List.mem_cons.1 hc with rfl | hc
  · unfold moreN; omega
  · obtain ⟨j, _, rfl⟩ := List.mem_map.1 hc
    exact valB_8 (by rw [List.length_take]; omega)

/-- Bytes that can be bits: the first one tells how many noughts there are behind. -/
structure UnpG (k : Nat) (b : List Nat) : Prop where
  low : k < 8
  some_ : k = 0 ∨ b ≠ []
  most : b.length ≤ 131072
theorem UnpG.le {k : Nat} {b : List Nat} (h : UnpG k b) : k ≤ (bitsAll b).length := by
  rw [bitsAll_len]
  have h1 := h.low
  rcases h.some_ with h2 | h2
  · omega
  · have := List.length_pos_iff.2 h2; omega

theorem unp_pack {k : Nat} {b : List Nat} (h : UnpG k b) (hb : ∀ c ∈ b, c < 256) :
    packL ((bitsAll b).take ((bitsAll b).length - k)) = k :: b ↔ (bitsAll b).drop ((bitsAll b).length - k) = List.replicate k false := by
  have hk := h.le
  have hlen := bitsAll_len b
  have hl : ((bitsAll b).take ((bitsAll b).length - k)).length = (bitsAll b).length - k := by rw [List.length_take]; omega
  have hm : moreN ((bitsAll b).take ((bitsAll b).length - k)).length = k := by
    rw [hl, hlen]
    have h1 := h.low
    unfold moreN
    rw [hlen] at hk
    omega
  unfold packL
  rw [List.cons.injEq, hm]
  constructor
  · rintro ⟨_, h2⟩
    have h3 := congrArg bitsAll h2
    rw [bitsAll_bytesOf _ _ (fullB_mod _)] at h3
    unfold fullB at h3
    rw [hm] at h3
    have h4 : (bitsAll b).take ((bitsAll b).length - k) ++ List.replicate k false = (bitsAll b).take ((bitsAll b).length - k) ++ (bitsAll b).drop ((bitsAll b).length - k) := by rw [h3, List.take_append_drop]
    exact (List.append_cancel_left h4).symm
  · intro h2
    refine ⟨rfl, ?_⟩
    have h3 : fullB ((bitsAll b).take ((bitsAll b).length - k)) = bitsAll b := by
      unfold fullB
      rw [hm, ← h2, List.take_append_drop]
    rw [h3, bytesOf_bitsAll hb]

/-- There and back. -/
theorem pack_back (w : List Bool) : (bitsAll (bytesOf (fullB w))).take ((bitsAll (bytesOf (fullB w))).length - moreN w.length) = w := by
  rw [bitsAll_bytesOf _ _ (fullB_mod _), fullB_len, Nat.add_sub_cancel]
  unfold fullB
  rw [List.take_left]

end Go.Proofs.Ytbnaicgmnadkgaa
