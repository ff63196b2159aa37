/-
  Texts put behind each other by a program: Strict, BinT, BinO, PairP, RingP, CubeP, FibQ.
-/
import Derived.Test.YtjlnnljohemifaaGreatProg
set_option linter.unusedVariables false
set_option linter.unusedSimpArgs false
namespace Go.Proofs.YtjlnnljohemifaaGreat
structure Strict (lt : Int → Int → Bool) : Prop where
  irr : ∀ a, lt a a = false
  tr : ∀ a b c, lt a b = true → lt b c = true → lt a c = true
  nt : ∀ a b c, lt a b = false → lt b c = false → lt a c = false
  tot : ∀ a b, a ≠ b → lt a b = true ∨ lt b a = true
theorem Strict.asym {lt : Int → Int → Bool} (h : Strict lt) {a b : Int} (hab : lt a b = true) : lt b a = false := by
  cases hba : lt b a with
  | false => rfl
  | true => have := h.tr a b a hab hba; rw [h.irr] at this; cases this
end Go.Proofs.YtjlnnljohemifaaGreat

namespace Go.Proofs.YtjlnnljohemifaaGreat
theorem countP_lt_of {α : Type} {p q : α → Bool} : ∀ {l : List α}, (∀ i, p i = true → q i = true) → ∀ {x : α}, x ∈ l → p x = false → q x = true → l.countP p < l.countP q := by
  intro l hpq x hx hp hq
  induction l with
  | nil => cases hx
  | cons a l ih =>
    rw [List.countP_cons, List.countP_cons]
    have hle : l.countP p ≤ l.countP q := List.countP_mono_left fun i _ h => hpq i h
    rcases List.mem_cons.1 hx with rfl | hx
    · rw [hp, hq]; simp; omega
    · have := ih hx
      have h2 := hpq a
      cases hpa : p a
      · cases q a <;> simp <;> omega
      · rw [h2 hpa]; simp; omega
section
variable {hm : Int → Int} {lt : Int → Int → Bool} {K : Int → Bool → Int} {U : Int → Int}
def setU (U : Int → Int) (x v : Int) : Int → Int := fun y => if y = x then v else U y
variable {h : Int} {R : Int → Prop} {way : List Int} {a b : Int}
def setT (T : Int → Int) (h x : Int) : Int → Int := fun y => if y = h then x else T y
theorem nodup_len : ∀ (n : Nat) (l : List Nat), l.Nodup → (∀ x ∈ l, x < n) → l.length ≤ n := by
  intro n
  induction n with
  | zero =>
    intro l _ hb
    cases l with
    | nil => exact Nat.le_refl _
    | cons a l => exact absurd (hb a (by simp)) (by omega)
  | succ n ih =>
    intro l hn hb
    have h1 := ih (l.erase n) (hn.erase n) fun x hx => by
      obtain ⟨h2, h3⟩ := (List.Nodup.mem_erase_iff hn).1 hx
      have := hb x h3
      omega
    rw [List.length_erase] at h1
    split at h1 <;> omega
theorem row_len {l : List Int} {n : Nat} (hn : l.Nodup) (hb : ∀ x ∈ l, 0 ≤ x ∧ x < n) : l.length ≤ n := by
  have h1 : (l.map Int.toNat).Nodup := by
    rw [List.nodup_iff_pairwise_ne] at *
    rw [List.pairwise_map]
    refine List.Pairwise.imp_of_mem (fun {a b} ha hb' hne e => hne ?_) hn
    have := hb a ha
    have := hb b hb'
    omega
  have h2 := nodup_len n _ h1 fun x hx => by
    obtain ⟨y, hy, rfl⟩ := List.mem_map.1 hx
    have := hb y hy
    omega
  rwa [List.length_map] at h2
def depN (lt : Int → Int → Bool) (n : Nat) (x : Int) : Nat := (List.range n).countP fun (i : Nat) => lt i x
theorem depN_lt (hs : Strict lt) {n : Nat} {p x : Int} (hp : 0 ≤ p ∧ p < n) (hl : lt p x = true) : depN lt n p < depN lt n x := by
  unfold depN
  refine countP_lt_of (fun i hi => hs.tr _ _ _ hi hl) (x := p.toNat) (List.mem_range.2 (by omega)) ?_ ?_
  · rw [show ((p.toNat : Nat) : Int) = p by omega]; exact hs.irr _
  · rw [show ((p.toNat : Nat) : Int) = p by omega]; exact hl
end
end Go.Proofs.YtjlnnljohemifaaGreat

namespace Go.Proofs.YtjlnnljohemifaaGreat
end Go.Proofs.YtjlnnljohemifaaGreat

namespace Go.Proofs.YtjlnnljohemifaaGreat
section
variable {hm hm' : Int → Int} {lt lt' : Int → Int → Bool} {ch ch0 : Int → List Int} {par : Int → Int}
structure Pr (hm : Int → Int) (lt : Int → Int → Bool) (ch : Int → List Int) (par : Int → Int) : Prop where
  h0 : hm (-1) = 0
  dn : ∀ x c, c ∈ ch x → par c = x ∧ x ≠ -1 ∧ hm x = hm c ∧ 0 < hm c ∧ lt x c = true
  up : ∀ c x, par c = x → x ≠ -1 → c ∈ ch x
  nd : ∀ x, (ch x).Nodup
theorem Pr.ne (p : Pr hm lt ch par) {x c : Int} (h : c ∈ ch x) : c ≠ -1 := fun e => by
  have := (p.dn x c h).2.2.2.1
  rw [e, p.h0] at this
  omega
def linkC (ch : Int → List Int) (a b : Int) : Int → List Int := fun x => if x = a then b :: ch a else ch x
theorem Pr.link (p : Pr hm lt ch par) {a b : Int} (ha : a ≠ -1) (hb : par b = -1) (hh : hm a = hm b) (h0 : 0 < hm b) (hl : lt a b = true) : Pr hm lt (linkC ch a b) (setU par b a) := by
  refine ⟨p.h0, fun x c hc => ?_, fun c x hc hx => ?_, fun x => ?_⟩
  · unfold linkC at hc
    unfold setU
    by_cases hx : x = a
    · subst hx
      rw [if_pos rfl] at hc
      rcases List.mem_cons.1 hc with rfl | hc
      · rw [if_pos rfl]
        exact ⟨rfl, ha, hh, h0, hl⟩
      · have h1 := p.dn x c hc
        rw [if_neg (fun e => by rw [e, hb] at h1; exact h1.2.1 h1.1.symm)]
        exact h1
    · rw [if_neg hx] at hc
      have h1 := p.dn x c hc
      rw [if_neg (fun e => by rw [e, hb] at h1; exact h1.2.1 h1.1.symm)]
      exact h1
  · unfold setU at hc
    unfold linkC
    by_cases hcb : c = b
    · rw [if_pos hcb] at hc
      rw [if_pos hc.symm, hcb]
      exact List.mem_cons_self
    · rw [if_neg hcb] at hc
      have := p.up c x hc hx
      split
      · rename_i e
        rw [← e]
        exact List.mem_cons_of_mem _ this
      · exact this
  · unfold linkC
    split
    · exact List.nodup_cons.2 ⟨fun h => by have := p.dn a b h; rw [hb] at this; exact this.2.1 this.1.symm, p.nd a⟩
    · exact p.nd x
def rowC (ch : Int → List Int) (p : Int) (l : List Int) : Int → List Int := fun x => if x = p then l else ch x
theorem Pr.off (q : Pr hm lt ch par) {p x : Int} {l1 l2 : List Int} (hp : ch p = l1 ++ x :: l2) : Pr hm lt (rowC ch p (l1 ++ l2)) (setU par x (-1)) := by
  have hx := q.dn p x (by rw [hp]; simp)
  have hnd := q.nd p
  rw [hp, List.nodup_append] at hnd
  obtain ⟨n1, n2, n3⟩ := hnd
  rw [List.nodup_cons] at n2
  have hno : x ∉ l1 ++ l2 := by
    rw [List.mem_append]
    rintro (h | h)
    · exact n3 x h x (by simp) rfl
    · exact n2.1 h
  have hsub : ∀ c, c ∈ l1 ++ l2 → c ∈ ch p := fun c hc => by
    rw [hp]
    rcases List.mem_append.1 hc with h | h
    · simp [h]
    · simp [h]
  refine ⟨q.h0, fun y c hc => ?_, fun c y hc hy => ?_, fun y => ?_⟩
  · unfold rowC at hc
    unfold setU
    by_cases e : y = p
    · subst e
      rw [if_pos rfl] at hc
      rw [if_neg (show ¬ c = x from fun e => hno (by rw [← e]; exact hc))]
      exact q.dn y c (hsub c hc)
    · rw [if_neg e] at hc
      have h1 := q.dn y c hc
      rw [if_neg (fun e2 => e (by rw [← h1.1, e2]; exact hx.1))]
      exact h1
  · unfold setU at hc
    unfold rowC
    by_cases hcx : c = x
    · rw [if_pos hcx] at hc
      exact absurd hc.symm hy
    · rw [if_neg hcx] at hc
      have := q.up c y hc hy
      split
      · rename_i e
        rw [e, hp, List.mem_append, List.mem_cons] at this
        rw [List.mem_append]
        rcases this with h | h | h
        · exact .inl h
        · exact absurd h hcx
        · exact .inr h
      · exact this
  · unfold rowC
    split
    · rw [List.nodup_append]
      exact ⟨n1, n2.2, fun a ha b hb => n3 a ha b (by simp [hb])⟩
    · exact q.nd y
def bareP (ch : Int → List Int) (par : Int → Int) (x : Int) : Int → Int := fun c => if c ∈ ch x then -1 else par c
theorem Pr.bare (q : Pr hm lt ch par) (x : Int) : Pr hm lt (rowC ch x []) (bareP ch par x) := by
  refine ⟨q.h0, fun y c hc => ?_, fun c y hc hy => ?_, fun y => ?_⟩
  · unfold rowC at hc
    split at hc
    · cases hc
    · rename_i e
      have h1 := q.dn y c hc
      unfold bareP
      rw [if_neg (fun h => e (by rw [← h1.1, (q.dn x c h).1]))]
      exact h1
  · unfold bareP at hc
    split at hc
    · exact absurd hc.symm hy
    · rename_i h
      have := q.up c y hc hy
      unfold rowC
      rw [if_neg (show ¬ y = x from fun e => h (by rw [← e]; exact this))]
      exact this
  · unfold rowC
    split
    · exact List.nodup_nil
    · exact q.nd y
theorem Pr.other (q : Pr hm lt ch par) (h0 : hm' (-1) = 0) (h : ∀ x c, c ∈ ch x → hm x = hm c → 0 < hm c → lt x c = true → hm' x = hm' c ∧ 0 < hm' c ∧ lt' x c = true) : Pr hm' lt' ch par :=
  ⟨h0, fun x c hc => by
    obtain ⟨h1, h2, h3, h4, h5⟩ := q.dn x c hc
    exact ⟨h1, h2, h x c hc h3 h4 h5⟩, q.up, q.nd⟩
variable {K K' : Int → Bool → Int} {B B' : Int → Int}
theorem headD_mem {l : List Int} (h : l.headD (-1) ≠ -1) : l.headD (-1) ∈ l := by
  cases l with
  | nil => exact absurd rfl h
  | cons a l => simp
variable {g a b : Int} {R : Int → Prop} {W W' : List Int}
def ws (l : List Int) : List Int := l.filter fun x => decide (x ≠ -1)
theorem ws_one (r : Int) : ws [r] = if r = -1 then [] else [r] := by
  unfold ws
  by_cases h : r = -1
  · rw [if_pos h, h]; rfl
  · rw [if_neg h, List.filter_cons, if_pos (by simp [h])]; rfl
theorem ws_cons (r : Int) (l : List Int) : ws (r :: l) = ws [r] ++ ws l := by
  rw [show r :: l = [r] ++ l from rfl]
  unfold ws
  rw [List.filter_append]
variable {T : Int → Int} {x : Int}
theorem Pr.alone (q : Pr hm lt ch par) {x : Int} (hx : hm x ≤ 0) (hx1 : x ≠ -1) : par x = -1 ∧ ch x = [] := by
  constructor
  · apply Classical.byContradiction
    intro h
    have := (q.dn _ _ (q.up x _ rfl h)).2.2.2.1
    omega
  · cases h : ch x with
    | nil => rfl
    | cons c r =>
      have := q.dn x c (by rw [h]; simp)
      omega
end
end Go.Proofs.YtjlnnljohemifaaGreat

namespace Go.Proofs.YtjlnnljohemifaaGreat
section
variable {nx nx' : Int → Int} {a b x y z : Int} {r s l l1 l2 A B : List Int}
def Path (nx : Int → Int) : Int → List Int → Int → Prop
  | a, [], z => nx a = z
  | a, b :: r, z => nx a = b ∧ Path nx b r z
def Cyc (nx : Int → Int) : List Int → Prop
  | [] => True
  | a :: r => Path nx a r a
theorem Path.app : ∀ {r : List Int} {a : Int}, Path nx a (r ++ b :: s) z ↔ Path nx a r b ∧ Path nx b s z := by
  intro r
  induction r with
  | nil => intro a; exact Iff.rfl
  | cons c r ih =>
    intro a
    constructor
    · rintro ⟨h1, h2⟩
      obtain ⟨h3, h4⟩ := ih.1 h2
      exact ⟨⟨h1, h3⟩, h4⟩
    · rintro ⟨⟨h1, h2⟩, h3⟩
      exact ⟨h1, ih.2 ⟨h2, h3⟩⟩
theorem Path.first : ∀ {r : List Int} {a a' : Int}, Path nx a r z → nx' a' = nx a → (∀ c ∈ r, nx' c = nx c) → Path nx' a' r z := by
  intro r
  induction r with
  | nil => intro a a' h h1 _; exact h1.trans h
  | cons c r ih =>
    intro a a' h h1 h2
    exact ⟨h1.trans h.1, ih h.2 (h2 c (by simp)) fun d hd => h2 d (by simp [hd])⟩
theorem Cyc.frame (h : Cyc nx l) (hk : ∀ c ∈ l, nx' c = nx c) : Cyc nx' l := by
  cases l with
  | nil => trivial
  | cons a r => exact Path.first h (hk a (by simp)) fun c hc => hk c (by simp [hc])
theorem Cyc.rot (h : Cyc nx (l1 ++ l2)) : Cyc nx (l2 ++ l1) := by
  cases l1 with
  | nil => simpa using h
  | cons a r =>
    cases l2 with
    | nil => simpa using h
    | cons b s =>
      have h1 : Path nx a (r ++ b :: s) a := h
      obtain ⟨h2, h3⟩ := Path.app.1 h1
      exact Path.app.2 ⟨h3, h2⟩
theorem Cyc.from (h : Cyc nx l) (hx : x ∈ l) : ∃ A, l.Perm (x :: A) ∧ Cyc nx (x :: A) := by
  obtain ⟨l1, l2, rfl⟩ := List.append_of_mem hx
  refine ⟨l2 ++ l1, ?_, h.rot⟩
  exact List.perm_append_comm (l₁ := l1) (l₂ := x :: l2)
def spl (nx : Int → Int) (x y : Int) : Int → Int := fun z => if z = x then nx y else if z = y then nx x else nx z
theorem spl_x : spl nx x y x = nx y := by unfold spl; rw [if_pos rfl]
theorem spl_y : spl nx x y y = nx x := by
  unfold spl
  by_cases h : y = x
  · rw [if_pos h, h]
  · rw [if_neg h, if_pos rfl]
theorem spl_o (h1 : z ≠ x) (h2 : z ≠ y) : spl nx x y z = nx z := by unfold spl; rw [if_neg h1, if_neg h2]
theorem Cyc.keep (h : Cyc nx l) (hx : x ∉ l) (hy : y ∉ l) : Cyc (spl nx x y) l := h.frame fun c hc => spl_o (fun e => hx (e ▸ hc)) (fun e => hy (e ▸ hc))
theorem Cyc.join (h1 : Cyc nx (x :: A)) (h2 : Cyc nx (y :: B)) (hn : ((x :: A) ++ (y :: B)).Nodup) : Cyc (spl nx x y) (x :: B ++ y :: A) := by
  obtain ⟨n1, n2, n3⟩ := List.nodup_append.1 hn
  have a1 := (List.nodup_cons.1 n1).1
  have b1 := (List.nodup_cons.1 n2).1
  have hA : ∀ c ∈ A, spl nx x y c = nx c := fun c hc => spl_o (fun e => a1 (e ▸ hc)) (fun e => n3 c (by simp [hc]) y (by simp) e)
  have hB : ∀ c ∈ B, spl nx x y c = nx c := fun c hc => spl_o (fun e => n3 x (by simp) c (by simp [hc]) e.symm) (fun e => b1 (e ▸ hc))
  exact Path.app.2 ⟨Path.first h2 spl_x hB, Path.first h1 spl_y hA⟩
theorem Cyc.part (h : Cyc nx (x :: A ++ [y])) (hn : (x :: A ++ [y]).Nodup) : spl nx x y x = x ∧ Cyc (spl nx x y) (y :: A) := by
  have hn2 := List.nodup_cons.1 (show (x :: (A ++ [y])).Nodup from hn)
  obtain ⟨n1, n2, n3⟩ := List.nodup_append.1 hn2.2
  have h0 : Path nx x (A ++ [y]) x := h
  obtain ⟨h1, h2⟩ := Path.app.1 h0
  have hA : ∀ c ∈ A, spl nx x y c = nx c := fun c hc => spl_o (fun e => hn2.1 (by rw [← e]; simp [hc])) (fun e => n3 c hc y (by simp) e)
  exact ⟨spl_x.trans h2, Path.first h1 spl_y hA⟩
theorem spl_self : spl nx x x = nx := by
  funext z
  unfold spl
  split
  · rename_i e; rw [e]
  · rfl
structure Inv2 (nx pv : Int → Int) : Prop where
  pn : ∀ x, pv (nx x) = x
  np : ∀ x, nx (pv x) = x
def splP (nx pv : Int → Int) (x y : Int) : Int → Int := fun z => if z = nx x then y else if z = nx y then x else pv z
theorem Inv2.spl {pv : Int → Int} (h : Inv2 nx pv) (x y : Int) : Inv2 (spl nx x y) (splP nx pv x y) := by
  have inj : ∀ u v, nx u = nx v → u = v := fun u v e => by rw [← h.pn u, e, h.pn]
  constructor
  · intro z
    unfold splP
    by_cases h1 : z = x
    · rw [h1, spl_x]
      by_cases h2 : nx y = nx x
      · rw [if_pos h2, inj _ _ h2]
      · rw [if_neg h2, if_pos rfl]
    · by_cases h2 : z = y
      · rw [h2, spl_y, if_pos rfl]
      · rw [spl_o h1 h2, if_neg (fun e => h1 (inj _ _ e)), if_neg (fun e => h2 (inj _ _ e)), h.pn]
  · intro z
    unfold splP
    by_cases h1 : z = nx x
    · rw [if_pos h1, spl_y, h1]
    · rw [if_neg h1]
      by_cases h2 : z = nx y
      · rw [if_pos h2, spl_x, h2]
      · rw [if_neg h2, spl_o (fun e => h1 (by rw [← e, h.np])) (fun e => h2 (by rw [← e, h.np])), h.np]
theorem Cyc.last {pv : Int → Int} (h : Inv2 nx pv) (hc : Cyc nx (x :: A ++ [y])) : pv x = y := by
  have h0 : Path nx x (A ++ [y]) x := hc
  have h1 : nx y = x := (Path.app.1 h0).2
  rw [← h1, h.pn]
variable {hm hm' : Int → Int} {lt lt' : Int → Int → Bool} {ch : Int → List Int} {par : Int → Int} {rings : Int → List Int} {W : List Int}
structure FbW (hm : Int → Int) (lt : Int → Int → Bool) (nx : Int → Int) (ch : Int → List Int) (par : Int → Int) (rings : Int → List Int) (W : List Int) : Prop where
  pr : Pr hm lt ch par
  cy : ∀ x, Cyc nx (ch x)
  rc : ∀ h, Cyc nx (rings h)
  rn : ∀ h, (rings h).Nodup
  rm : ∀ h c, c ∈ rings h → hm c = h ∧ par c = -1 ∧ 0 < h ∧ c ∉ W
  wn : W.Nodup
  wm : ∀ c ∈ W, nx c = c ∧ par c = -1 ∧ 0 < hm c
  rts : ∀ c, 0 < hm c → par c = -1 → c ∈ rings (hm c) ∨ c ∈ W
  lone : ∀ c, hm c ≤ 0 → nx c = c
theorem FbW.wne (m : FbW hm lt nx ch par rings W) {c : Int} (h : c ∈ W) : c ≠ -1 := fun e => by
  have := (m.wm c h).2.2
  rw [e, m.pr.h0] at this
  omega
theorem FbW.rne (m : FbW hm lt nx ch par rings W) {c h : Int} (hc : c ∈ rings h) : c ≠ -1 := fun e => by
  obtain ⟨h1, _, h2, _⟩ := m.rm h c hc
  rw [e, m.pr.h0] at h1
  omega
theorem FbW.cno (m : FbW hm lt nx ch par rings W) {c x : Int} (hc : c ∈ ch x) : (∀ h, c ∉ rings h) ∧ c ∉ W := by
  have h1 := m.pr.dn x c hc
  refine ⟨fun h hh => ?_, fun hw => ?_⟩
  · have := (m.rm h c hh).2.1
    rw [h1.1] at this
    exact h1.2.1 this
  · have := (m.wm c hw).2.1
    rw [h1.1] at this
    exact h1.2.1 this
theorem FbW.perm {W' : List Int} (m : FbW hm lt nx ch par rings W) (h : W.Perm W') : FbW hm lt nx ch par rings W' :=
  ⟨m.pr, m.cy, m.rc, m.rn, fun g c hc => by obtain ⟨h1, h2, h3, h4⟩ := m.rm g c hc; exact ⟨h1, h2, h3, fun hw => h4 (h.mem_iff.2 hw)⟩, h.nodup_iff.1 m.wn, fun c hc => m.wm c (h.mem_iff.2 hc), fun c h1 h2 => (m.rts c h1 h2).imp_right h.mem_iff.1, m.lone⟩
theorem FbW.turn (m : FbW hm lt nx ch par rings W) {g : Int} {l : List Int} (hp : (rings g).Perm l) (hc : Cyc nx l) : FbW hm lt nx ch par (rowC rings g l) W := by
  refine ⟨m.pr, m.cy, fun h => ?_, fun h => ?_, fun h c hh => ?_, m.wn, m.wm, fun c h1 h2 => ?_, m.lone⟩
  · unfold rowC; split
    · exact hc
    · exact m.rc h
  · unfold rowC; split
    · exact hp.nodup_iff.1 (m.rn g)
    · exact m.rn h
  · unfold rowC at hh
    split at hh
    · rename_i e
      rw [e]
      exact m.rm g c (hp.mem_iff.2 hh)
    · exact m.rm h c hh
  · unfold rowC
    split
    · rename_i e
      have := m.rts c h1 h2
      rw [e] at this
      exact this.imp_left hp.mem_iff.1
    · exact m.rts c h1 h2
theorem FbW.joinR (m : FbW hm lt nx ch par rings (x :: W)) {t : Int} {A : List Int} (hr : rings (hm x) = t :: A) : FbW hm lt (spl nx t x) ch par (rowC rings (hm x) (t :: x :: A)) W := by
  obtain ⟨x1, x2, x3⟩ := m.wm x (by simp)
  have hxW := (List.nodup_cons.1 m.wn).1
  have ht := m.rm (hm x) t (by rw [hr]; simp)
  have htx : t ≠ x := fun e => ht.2.2.2 (by rw [e]; simp)
  have nr : ∀ h, x ∉ rings h := fun h hh => (m.rm h x hh).2.2.2 (by simp)
  have tr : ∀ h, t ∈ rings h → h = hm x := fun h hh => by rw [← (m.rm h t hh).1, ht.1]
  refine ⟨m.pr, fun y => (m.cy y).keep (fun h => ?_) (fun h => ?_), fun h => ?_, fun h => ?_, fun h c hh => ?_, (List.nodup_cons.1 m.wn).2, fun c hc => ?_, fun c h1 h2 => ?_, fun c hc => ?_⟩
  · exact (m.cno h).1 (hm x) (by rw [hr]; simp)
  · exact (m.cno h).2 (by simp)
  · unfold rowC
    split
    · have h1 := m.rc (hm x)
      rw [hr] at h1
      have h2 : Cyc nx [x] := x1
      refine h1.join h2 ?_
      rw [List.nodup_append]
      have hn := m.rn (hm x)
      rw [hr] at hn
      refine ⟨hn, by simp, fun u hu v hv e => ?_⟩
      rw [List.mem_singleton] at hv
      exact nr (hm x) (by rw [hr, ← hv, ← e]; exact hu)
    · rename_i e
      exact (m.rc h).keep (fun hh => e (tr h hh)) (nr h)
  · unfold rowC
    split
    · have hn := m.rn (hm x)
      have h2 := nr (hm x)
      rw [hr] at hn h2
      rw [List.nodup_cons] at hn ⊢
      rw [List.nodup_cons]
      simp only [List.mem_cons, not_or] at h2 ⊢
      exact ⟨⟨htx, hn.1⟩, h2.2, hn.2⟩
    · exact m.rn h
  · unfold rowC at hh
    split at hh
    · rename_i e
      by_cases hcx : c = x
      · rw [hcx, e]; exact ⟨rfl, x2, x3, hxW⟩
      · have hc2 : c ∈ rings (hm x) := by
          rw [hr]
          simp only [List.mem_cons] at hh ⊢
          rcases hh with h | h | h
          · exact .inl h
          · exact absurd h hcx
          · exact .inr h
        obtain ⟨h1, h2, h3, h4⟩ := m.rm _ c hc2
        rw [e]
        exact ⟨h1, h2, h3, fun h => h4 (by simp [h])⟩
    · obtain ⟨h1, h2, h3, h4⟩ := m.rm h c hh
      exact ⟨h1, h2, h3, fun h => h4 (by simp [h])⟩
  · obtain ⟨h1, h2, h3⟩ := m.wm c (by simp [hc])
    refine ⟨?_, h2, h3⟩
    rw [spl_o]
    · exact h1
    · rintro rfl; exact ht.2.2.2 (by simp [hc])
    · rintro rfl; exact hxW hc
  · unfold rowC
    rcases m.rts c h1 h2 with h | h
    · split
      · rename_i e
        rw [e, hr] at h
        refine .inl ?_
        simp only [List.mem_cons] at h ⊢
        exact h.imp_right .inr
      · exact .inl h
    · rcases List.mem_cons.1 h with rfl | h
      · rw [if_pos rfl]
        exact .inl (by simp)
      · exact .inr h
  · rw [spl_o]
    · exact m.lone c hc
    · rintro rfl; omega
    · rintro rfl; omega
theorem FbW.joinE (m : FbW hm lt nx ch par rings (x :: W)) (hr : rings (hm x) = []) : FbW hm lt nx ch par (rowC rings (hm x) [x]) W := by
  obtain ⟨x1, x2, x3⟩ := m.wm x (by simp)
  have hxW := (List.nodup_cons.1 m.wn).1
  refine ⟨m.pr, m.cy, fun h => ?_, fun h => ?_, fun h c hh => ?_, (List.nodup_cons.1 m.wn).2, fun c hc => m.wm c (by simp [hc]), fun c h1 h2 => ?_, m.lone⟩
  · unfold rowC; split
    · exact x1
    · exact m.rc h
  · unfold rowC; split
    · simp
    · exact m.rn h
  · unfold rowC at hh
    split at hh
    · rename_i e
      rw [List.mem_singleton] at hh
      rw [hh, e]; exact ⟨rfl, x2, x3, hxW⟩
    · obtain ⟨h1, h2, h3, h4⟩ := m.rm h c hh
      exact ⟨h1, h2, h3, fun h => h4 (by simp [h])⟩
  · unfold rowC
    rcases m.rts c h1 h2 with h | h
    · split
      · rename_i e; rw [e, hr] at h; cases h
      · exact .inl h
    · rcases List.mem_cons.1 h with rfl | h
      · rw [if_pos rfl]
        exact .inl (by simp)
      · exact .inr h
theorem FbW.partR (m : FbW hm lt nx ch par rings W) {g y : Int} {A : List Int} (hr : rings g = x :: A ++ [y]) : FbW hm lt (spl nx x y) ch par (rowC rings g (y :: A)) (x :: W) := by
  obtain ⟨x1, x2, x3, x4⟩ := m.rm g x (by rw [hr]; simp)
  obtain ⟨y1, y2, y3, y4⟩ := m.rm g y (by rw [hr]; simp)
  have hc := m.rc g
  have hn := m.rn g
  rw [hr] at hc hn
  obtain ⟨p1, p2⟩ := hc.part hn
  have hn2 := List.nodup_cons.1 (show (x :: (A ++ [y])).Nodup from hn)
  have hp : (A ++ [y]).Perm (y :: A) := List.perm_append_comm (l₁ := A) (l₂ := [y])
  have er : ∀ h c, c ∈ rings h → (c = x ∨ c = y) → h = g := fun h c hh he => by
    rw [← (m.rm h c hh).1]
    rcases he with rfl | rfl
    · exact x1
    · exact y1
  refine ⟨m.pr, fun z => (m.cy z).keep (fun h => (m.cno h).1 g (by rw [hr]; simp)) (fun h => (m.cno h).1 g (by rw [hr]; simp)), fun h => ?_, fun h => ?_, fun h c hh => ?_, List.nodup_cons.2 ⟨x4, m.wn⟩, fun c hcw => ?_, fun c h1 h2 => ?_, fun c hc => ?_⟩
  · unfold rowC
    split
    · exact p2
    · rename_i e
      exact (m.rc h).keep (fun hh => e (er h x hh (.inl rfl))) (fun hh => e (er h y hh (.inr rfl)))
  · unfold rowC
    split
    · exact hp.nodup_iff.1 hn2.2
    · exact m.rn h
  · unfold rowC at hh
    split at hh
    · rename_i e
      have hc2 : c ∈ A ++ [y] := hp.mem_iff.2 hh
      obtain ⟨h1, h2, h3, h4⟩ := m.rm g c (by rw [hr]; exact List.mem_cons_of_mem _ hc2)
      rw [e]
      refine ⟨h1, h2, h3, fun h => ?_⟩
      rcases List.mem_cons.1 h with rfl | h
      · exact hn2.1 hc2
      · exact h4 h
    · rename_i e
      obtain ⟨h1, h2, h3, h4⟩ := m.rm h c hh
      refine ⟨h1, h2, h3, fun hw => ?_⟩
      rcases List.mem_cons.1 hw with rfl | hw
      · exact e (er h c hh (.inl rfl))
      · exact h4 hw
  · rcases List.mem_cons.1 hcw with rfl | hw
    · exact ⟨p1, x2, by omega⟩
    · obtain ⟨h1, h2, h3⟩ := m.wm c hw
      refine ⟨?_, h2, h3⟩
      rw [spl_o (z := c) (fun e => x4 (by rw [← e]; exact hw)) (fun e => y4 (by rw [← e]; exact hw))]
      exact h1
  · unfold rowC
    rcases m.rts c h1 h2 with h | h
    · split
      · rename_i e
        rw [e, hr] at h
        rcases List.mem_cons.1 h with rfl | h
        · exact .inr (by simp)
        · exact .inl (hp.mem_iff.1 h)
      · exact .inl h
    · exact .inr (by simp [h])
  · rw [spl_o]
    · exact m.lone c hc
    · rintro rfl; omega
    · rintro rfl; omega
theorem FbW.partE (m : FbW hm lt nx ch par rings W) {g : Int} (hr : rings g = [x]) : FbW hm lt nx ch par (rowC rings g []) (x :: W) := by
  obtain ⟨x1, x2, x3, x4⟩ := m.rm g x (by rw [hr]; simp)
  have hc := m.rc g
  rw [hr] at hc
  refine ⟨m.pr, m.cy, fun h => ?_, fun h => ?_, fun h c hh => ?_, List.nodup_cons.2 ⟨x4, m.wn⟩, fun c hc2 => ?_, fun c h1 h2 => ?_, m.lone⟩
  · unfold rowC; split
    · trivial
    · exact m.rc h
  · unfold rowC; split
    · exact List.nodup_nil
    · exact m.rn h
  · unfold rowC at hh
    split at hh
    · cases hh
    · rename_i e
      obtain ⟨h1, h2, h3, h4⟩ := m.rm h c hh
      refine ⟨h1, h2, h3, fun hw => ?_⟩
      rcases List.mem_cons.1 hw with rfl | hw
      · exact e (by rw [← h1, x1])
      · exact h4 hw
  · rcases List.mem_cons.1 hc2 with rfl | hc2
    · exact ⟨hc, x2, by omega⟩
    · exact m.wm c hc2
  · unfold rowC
    rcases m.rts c h1 h2 with h | h
    · split
      · rename_i e
        rw [e, hr, List.mem_singleton] at h
        exact .inr (by simp [h])
      · exact .inl h
    · exact .inr (by simp [h])
theorem Pr.permC (q : Pr hm lt ch par) {l : List Int} (h : (ch x).Perm l) : Pr hm lt (rowC ch x l) par := by
  refine ⟨q.h0, fun y c hc => ?_, fun c y hc hy => ?_, fun y => ?_⟩
  · unfold rowC at hc
    split at hc
    · rename_i e
      rw [e]; exact q.dn x c (h.mem_iff.2 hc)
    · exact q.dn y c hc
  · have := q.up c y hc hy
    unfold rowC
    split
    · rename_i e
      rw [e] at this
      exact h.mem_iff.1 this
    · exact this
  · unfold rowC
    split
    · exact h.nodup_iff.1 (q.nd x)
    · exact q.nd y
theorem rowC_rowC (ch : Int → List Int) (x : Int) (l l' : List Int) : rowC (rowC ch x l) x l' = rowC ch x l' := by
  funext y
  unfold rowC
  split <;> rfl
theorem rowC_link (ch : Int → List Int) (x b : Int) (l : List Int) : rowC (linkC ch x b) x l = rowC ch x l := by
  funext y
  unfold rowC linkC
  split <;> rfl
theorem FbW.turnC (m : FbW hm lt nx ch par rings W) {l : List Int} (hp : (ch x).Perm l) (hc : Cyc nx l) : FbW hm lt nx (rowC ch x l) par rings W := by
  refine ⟨m.pr.permC hp, fun y => ?_, m.rc, m.rn, m.rm, m.wn, m.wm, m.rts, m.lone⟩
  unfold rowC
  split
  · exact hc
  · exact m.cy y
theorem FbW.underE (m : FbW hm lt nx ch par rings (x :: y :: W)) (hh : hm x = hm y) (hl : lt x y = true) (hc : ch x = []) : FbW hm lt nx (rowC ch x [y]) (setU par y x) rings (x :: W) := by
  obtain ⟨x1, x2, x3⟩ := m.wm x (by simp)
  obtain ⟨y1, y2, y3⟩ := m.wm y (by simp)
  have hxn := m.wne (c := x) (by simp)
  have hn := m.wn
  simp only [List.nodup_cons, List.mem_cons, not_or] at hn
  have pu : ∀ c, c ≠ y → setU par y x c = par c := fun c h => by unfold setU; rw [if_neg h]
  have q := m.pr.link hxn y2 hh y3 hl
  have e1 : linkC ch x y = rowC ch x [y] := by
    funext z
    unfold linkC rowC
    split
    · rw [hc]
    · rfl
  rw [e1] at q
  refine ⟨q, fun z => ?_, m.rc, m.rn, fun h c hc => ?_, List.nodup_cons.2 ⟨hn.1.2, hn.2.2⟩, fun c hc => ?_, fun c h1 h2 => ?_, m.lone⟩
  · unfold rowC
    split
    · exact y1
    · exact m.cy z
  · obtain ⟨h1, h2, h3, h4⟩ := m.rm h c hc
    simp only [List.mem_cons, not_or] at h4
    exact ⟨h1, by rw [pu c h4.2.1]; exact h2, h3, by simp [h4.1, h4.2.2]⟩
  · have hcy : c ≠ y := fun e => by
      rw [e] at hc
      rcases List.mem_cons.1 hc with h | h
      · exact hn.1.1 h.symm
      · exact hn.2.1 h
    obtain ⟨h1, h2, h3⟩ := m.wm c (by rcases List.mem_cons.1 hc with h | h; simp [h]; simp [h])
    exact ⟨h1, by rw [pu c hcy]; exact h2, h3⟩
  · have hcy : c ≠ y := fun e => by
      rw [e] at h2
      unfold setU at h2
      rw [if_pos rfl] at h2
      exact hxn h2
    rw [pu c hcy] at h2
    refine (m.rts c h1 h2).imp_right fun h => ?_
    simp only [List.mem_cons] at h ⊢
    rcases h with h | h | h
    · exact .inl h
    · exact absurd h hcy
    · exact .inr h
theorem FbW.under (m : FbW hm lt nx ch par rings (x :: y :: W)) (hh : hm x = hm y) (hl : lt x y = true) {k : Int} {K : List Int} (hc : ch x = k :: K) : FbW hm lt (spl nx k y) (rowC ch x (y :: K ++ [k])) (setU par y x) rings (x :: W) := by
  obtain ⟨x1, x2, x3⟩ := m.wm x (by simp)
  obtain ⟨y1, y2, y3⟩ := m.wm y (by simp)
  have hxn := m.wne (c := x) (by simp)
  have hn := m.wn
  simp only [List.nodup_cons, List.mem_cons, not_or] at hn
  have hk := m.cno (c := k) (x := x) (by rw [hc]; simp)
  have hk2 := m.pr.dn x k (by rw [hc]; simp)
  have yr : ∀ h, y ∉ rings h := fun h hh => (m.rm h y hh).2.2.2 (by simp)
  have yc : ∀ z, y ∉ ch z := fun z h => (m.cno h).2 (by simp)
  have kc : ∀ z, k ∈ ch z → z = x := fun z h => by rw [← (m.pr.dn z k h).1, hk2.1]
  have pu : ∀ c, c ≠ y → setU par y x c = par c := fun c h => by unfold setU; rw [if_neg h]
  have q := m.pr.link hxn y2 hh y3 hl
  have q2 := q.permC (x := x) (l := y :: K ++ [k]) (by
    unfold linkC
    rw [if_pos rfl, hc]
    exact (List.perm_append_comm (l₁ := [k]) (l₂ := K)).cons y)
  rw [rowC_link] at q2
  have cyc : Cyc (spl nx k y) (y :: K ++ [k]) := by
    have h1 := m.cy x
    rw [hc] at h1
    have hnd := m.pr.nd x
    have hy := yc x
    rw [hc] at hnd hy
    have h3 := h1.join (y := y) (B := []) y1 (by
      rw [List.nodup_append]
      refine ⟨hnd, by simp, fun u hu v hv e => ?_⟩
      rw [List.mem_singleton] at hv
      exact hy (by rw [← hv, ← e]; exact hu))
    exact Cyc.rot (l1 := [k]) (l2 := y :: K) h3
  refine ⟨q2, fun z => ?_, fun h => (m.rc h).keep (hk.1 h) (yr h), m.rn, fun h c hc => ?_, List.nodup_cons.2 ⟨hn.1.2, hn.2.2⟩, fun c hc => ?_, fun c h1 h2 => ?_, fun c hc2 => ?_⟩
  · unfold rowC
    split
    · exact cyc
    · rename_i e
      exact (m.cy z).keep (fun h => e (kc z h)) (yc z)
  · obtain ⟨h1, h2, h3, h4⟩ := m.rm h c hc
    simp only [List.mem_cons, not_or] at h4
    exact ⟨h1, by rw [pu c h4.2.1]; exact h2, h3, by simp [h4.1, h4.2.2]⟩
  · have hcy : c ≠ y := fun e => by
      rw [e] at hc
      rcases List.mem_cons.1 hc with h | h
      · exact hn.1.1 h.symm
      · exact hn.2.1 h
    have hcW : c ∈ x :: y :: W := by rcases List.mem_cons.1 hc with h | h; simp [h]; simp [h]
    obtain ⟨h1, h2, h3⟩ := m.wm c hcW
    refine ⟨?_, by rw [pu c hcy]; exact h2, h3⟩
    rw [spl_o (fun e => hk.2 (by rw [← e]; exact hcW)) hcy]
    exact h1
  · have hcy : c ≠ y := fun e => by
      rw [e] at h2
      unfold setU at h2
      rw [if_pos rfl] at h2
      exact hxn h2
    rw [pu c hcy] at h2
    refine (m.rts c h1 h2).imp_right fun h => ?_
    simp only [List.mem_cons] at h ⊢
    rcases h with h | h | h
    · exact .inl h
    · exact absurd h hcy
    · exact .inr h
  · rw [spl_o (fun e => by rw [e] at hc2; omega) (fun e => by rw [e] at hc2; omega)]
    exact m.lone c hc2
theorem FbW.raise (m : FbW hm lt nx ch par rings W) {g k : Int} {K : List Int} (hr : rings g = x :: A) (hc : ch x = k :: K) : FbW hm lt (spl nx x k) (rowC ch x []) (bareP ch par x) (rowC rings g (x :: K ++ k :: A)) W := by
  obtain ⟨x1, x2, x3, x4⟩ := m.rm g x (by rw [hr]; simp)
  have hx0 : x ≠ -1 := m.rne (h := g) (by rw [hr]; simp)
  have hk := m.cno (c := k) (x := x) (by rw [hc]; simp)
  have hk2 := m.pr.dn x k (by rw [hc]; simp)
  have kid : ∀ c, c ∈ ch x → hm c = g ∧ 0 < hm c := fun c h => by have := m.pr.dn x c h; exact ⟨by rw [← this.2.2.1, x1], this.2.2.2.1⟩
  have xc : ∀ z, x ∉ ch z := fun z h => (m.cno h).1 g (by rw [hr]; simp)
  have kc : ∀ z, k ∈ ch z → z = x := fun z h => by rw [← (m.pr.dn z k h).1, hk2.1]
  have xr : ∀ h, x ∈ rings h → h = g := fun h hh => by rw [← (m.rm h x hh).1, x1]
  have hnA := m.rn g
  rw [hr] at hnA
  have hnK := m.pr.nd x
  rw [hc] at hnK
  have hdis : ((x :: A) ++ (k :: K)).Nodup := by
    rw [List.nodup_append]
    refine ⟨hnA, hnK, fun u hu v hv e => ?_⟩
    exact (m.cno (c := v) (x := x) (by rw [hc]; exact hv)).1 g (by rw [hr, ← e]; exact hu)
  have hpm : ((x :: A) ++ (k :: K)).Perm (x :: K ++ k :: A) := by
    refine List.Perm.cons x ?_
    refine (List.perm_append_comm (l₁ := A) (l₂ := k :: K)).trans ?_
    exact List.perm_middle.symm
  have hc0 := m.rc g
  rw [hr] at hc0
  have hck := m.cy x
  rw [hc] at hck
  refine ⟨m.pr.bare x, fun z => ?_, fun h => ?_, fun h => ?_, fun h c hh => ?_, m.wn, fun c hcw => ?_, fun c h1 h2 => ?_, fun c hcl => ?_⟩
  · unfold rowC
    split
    · trivial
    · rename_i e
      exact (m.cy z).keep (xc z) (fun h => e (kc z h))
  · unfold rowC
    split
    · exact hc0.join hck hdis
    · rename_i e
      exact (m.rc h).keep (fun hh => e (xr h hh)) (hk.1 h)
  · unfold rowC
    split
    · exact hpm.nodup_iff.1 hdis
    · exact m.rn h
  · unfold rowC at hh
    unfold bareP
    split at hh
    · rename_i e
      rw [e]
      have hm2 := hpm.mem_iff.2 hh
      rcases List.mem_append.1 hm2 with h5 | h5
      · obtain ⟨h1, h2, h3, h4⟩ := m.rm g c (by rw [hr]; exact h5)
        refine ⟨h1, ?_, h3, h4⟩
        split
        · rfl
        · exact h2
      · have h6 : c ∈ ch x := by rw [hc]; exact h5
        obtain ⟨h7, h8⟩ := kid c h6
        rw [if_pos h6]
        exact ⟨h7, rfl, by omega, (m.cno h6).2⟩
    · obtain ⟨h1, h2, h3, h4⟩ := m.rm h c hh
      refine ⟨h1, ?_, h3, h4⟩
      split
      · rfl
      · exact h2
  · obtain ⟨h1, h2, h3⟩ := m.wm c hcw
    refine ⟨?_, ?_, h3⟩
    · rw [spl_o (fun e => x4 (by rw [← e]; exact hcw)) (fun e => hk.2 (by rw [← e]; exact hcw))]
      exact h1
    · unfold bareP
      split
      · rfl
      · exact h2
  · unfold bareP at h2
    unfold rowC
    by_cases h6 : c ∈ ch x
    · rw [if_pos (kid c h6).1]
      refine .inl (hpm.mem_iff.1 (List.mem_append_right _ ?_))
      rw [← hc]; exact h6
    · rw [if_neg h6] at h2
      rcases m.rts c h1 h2 with h | h
      · refine .inl ?_
        split
        · rename_i e
          rw [e, hr] at h
          exact hpm.mem_iff.1 (List.mem_append_left _ h)
        · exact h
      · exact .inr h
  · rw [spl_o (fun e => by rw [e, x1] at hcl; omega) (fun e => by have := (kid k (by rw [hc]; simp)).2; rw [e] at hcl; omega)]
    exact m.lone c hcl
theorem FbW.off (m : FbW hm lt nx ch par rings W) {p : Int} (hc : ch p = x :: A ++ [y]) : FbW hm lt (spl nx x y) (rowC ch p (A ++ [y])) (setU par x (-1)) rings (x :: W) := by
  have hx := m.pr.dn p x (by rw [hc]; simp)
  have hy := m.pr.dn p y (by rw [hc]; simp)
  have nx' := m.cno (c := x) (x := p) (by rw [hc]; simp)
  have ny' := m.cno (c := y) (x := p) (by rw [hc]; simp)
  have pu : ∀ c, c ≠ x → setU par x (-1) c = par c := fun c h => by unfold setU; rw [if_neg h]
  have hcy := m.cy p
  have hnd := m.pr.nd p
  rw [hc] at hcy hnd
  obtain ⟨p1, p2⟩ := hcy.part hnd
  have q := m.pr.off (l1 := []) (l2 := A ++ [y]) (x := x) (p := p) (by rw [hc]; rfl)
  refine ⟨q, fun z => ?_, fun h => (m.rc h).keep (nx'.1 h) (ny'.1 h), m.rn, fun h c hh => ?_, List.nodup_cons.2 ⟨nx'.2, m.wn⟩, fun c hcw => ?_, fun c h1 h2 => ?_, fun c hcl => ?_⟩
  · unfold rowC
    split
    · exact Cyc.rot (l1 := [y]) (l2 := A) p2
    · rename_i e
      exact (m.cy z).keep (fun h => e (by rw [← (m.pr.dn z x h).1, hx.1])) (fun h => e (by rw [← (m.pr.dn z y h).1, hy.1]))
  · obtain ⟨h1, h2, h3, h4⟩ := m.rm h c hh
    have hcx : c ≠ x := fun e => nx'.1 h (by rw [← e]; exact hh)
    exact ⟨h1, by rw [pu c hcx]; exact h2, h3, by simp [hcx, h4]⟩
  · rcases List.mem_cons.1 hcw with e | hw
    · rw [e]
      exact ⟨p1, by unfold setU; rw [if_pos rfl], hx.2.2.2.1⟩
    · obtain ⟨h1, h2, h3⟩ := m.wm c hw
      have hcx : c ≠ x := fun e => nx'.2 (by rw [← e]; exact hw)
      refine ⟨?_, by rw [pu c hcx]; exact h2, h3⟩
      rw [spl_o hcx (fun e => ny'.2 (by rw [← e]; exact hw))]
      exact h1
  · by_cases hcx : c = x
    · exact .inr (by simp [hcx])
    · rw [pu c hcx] at h2
      exact (m.rts c h1 h2).imp_right fun h => by simp [h]
  · rw [spl_o (fun e => by rw [e] at hcl; omega) (fun e => by rw [e] at hcl; omega)]
    exact m.lone c hcl
theorem FbW.offE (m : FbW hm lt nx ch par rings W) {p : Int} (hc : ch p = [x]) : FbW hm lt nx (rowC ch p []) (setU par x (-1)) rings (x :: W) := by
  have hx := m.pr.dn p x (by rw [hc]; simp)
  have nx' := m.cno (c := x) (x := p) (by rw [hc]; simp)
  have pu : ∀ c, c ≠ x → setU par x (-1) c = par c := fun c h => by unfold setU; rw [if_neg h]
  have hcy := m.cy p
  rw [hc] at hcy
  have q := m.pr.off (l1 := []) (l2 := []) (x := x) (p := p) (by rw [hc]; rfl)
  refine ⟨q, fun z => ?_, m.rc, m.rn, fun h c hh => ?_, List.nodup_cons.2 ⟨nx'.2, m.wn⟩, fun c hcw => ?_, fun c h1 h2 => ?_, m.lone⟩
  · unfold rowC
    split
    · trivial
    · exact m.cy z
  · obtain ⟨h1, h2, h3, h4⟩ := m.rm h c hh
    have hcx : c ≠ x := fun e => nx'.1 h (by rw [← e]; exact hh)
    exact ⟨h1, by rw [pu c hcx]; exact h2, h3, by simp [hcx, h4]⟩
  · rcases List.mem_cons.1 hcw with e | hw
    · rw [e]
      exact ⟨hcy, by unfold setU; rw [if_pos rfl], hx.2.2.2.1⟩
    · obtain ⟨h1, h2, h3⟩ := m.wm c hw
      have hcx : c ≠ x := fun e => nx'.2 (by rw [← e]; exact hw)
      exact ⟨h1, by rw [pu c hcx]; exact h2, h3⟩
  · by_cases hcx : c = x
    · exact .inr (by simp [hcx])
    · rw [pu c hcx] at h2
      exact (m.rts c h1 h2).imp_right fun h => by simp [h]
theorem FbW.other (m : FbW hm lt nx ch par rings W) (h : ∀ x c, c ∈ ch x → hm x = hm c → 0 < hm c → lt x c = true → lt' x c = true) : FbW hm lt' nx ch par rings W :=
  ⟨m.pr.other m.pr.h0 fun x c hc h1 h2 h3 => ⟨h1, h2, h x c hc h1 h2 h3⟩, m.cy, m.rc, m.rn, m.rm, m.wn, m.wm, m.rts, m.lone⟩
theorem FbW.put (m : FbW hm lt nx ch par rings W) {g : Int} (h0 : hm' (-1) = 0) (hx : hm x ≤ 0) (hx1 : x ≠ -1) (hg : 0 < g) (e1 : hm' x = g) (e2 : ∀ y, y ≠ x → hm' y = hm y) (el : ∀ a b, 0 < hm a → 0 < hm b → a ≠ x → b ≠ x → lt' a b = lt a b) : FbW hm' lt' nx ch par rings (x :: W) := by
  obtain ⟨a1, a2⟩ := m.pr.alone hx hx1
  have nr : ∀ h, x ∉ rings h := fun h hh => by obtain ⟨h1, _, h3, _⟩ := m.rm h x hh; omega
  have nW : x ∉ W := fun h => by have := (m.wm x h).2.2; omega
  refine ⟨m.pr.other h0 fun y c hc h1 h2 h3 => ?_, m.cy, m.rc, m.rn, fun h c hh => ?_, List.nodup_cons.2 ⟨nW, m.wn⟩, fun c hc => ?_, fun c h1 h2 => ?_, fun c hc => ?_⟩
  · have n1 : y ≠ x := fun e => by rw [e, a2] at hc; cases hc
    have n2 : c ≠ x := fun e => by rw [e] at h2; omega
    rw [e2 _ n1, e2 _ n2, el _ _ (by omega) h2 n1 n2]
    exact ⟨h1, h2, h3⟩
  · obtain ⟨h1, h2, h3, h4⟩ := m.rm h c hh
    have n1 : c ≠ x := fun e => nr h (by rw [← e]; exact hh)
    exact ⟨by rw [e2 c n1]; exact h1, h2, h3, by simp [n1, h4]⟩
  · rcases List.mem_cons.1 hc with e | hc
    · rw [e, e1]; exact ⟨m.lone x hx, a1, hg⟩
    · obtain ⟨h1, h2, h3⟩ := m.wm c hc
      exact ⟨h1, h2, by rw [e2 c (fun e => nW (by rw [← e]; exact hc))]; exact h3⟩
  · by_cases hcx : c = x
    · exact .inr (by simp [hcx])
    · rw [e2 c hcx] at h1 ⊢
      exact (m.rts c h1 h2).imp_right fun h => by simp [h]
  · by_cases hcx : c = x
    · rw [hcx, e1] at hc; omega
    · rw [e2 c hcx] at hc
      exact m.lone c hc
theorem FbW.drop (m : FbW hm lt nx ch par rings (x :: W)) (hc : ch x = []) (h0 : hm' (-1) = 0) (e1 : hm' x = 0) (e2 : ∀ y, y ≠ x → hm' y = hm y) (el : ∀ a b, 0 < hm a → 0 < hm b → a ≠ x → b ≠ x → lt' a b = lt a b) : FbW hm' lt' nx ch par rings W := by
  obtain ⟨x1, x2, x3⟩ := m.wm x (by simp)
  have hn := List.nodup_cons.1 m.wn
  refine ⟨m.pr.other h0 fun y c hcc h1 h2 h3 => ?_, m.cy, m.rc, m.rn, fun h c hh => ?_, hn.2, fun c hcw => ?_, fun c h1 h2 => ?_, fun c hcl => ?_⟩
  · have n1 : y ≠ x := fun e => by rw [e, hc] at hcc; cases hcc
    have n2 : c ≠ x := fun e => by rw [e] at hcc; exact (m.cno hcc).2 (by simp)
    rw [e2 _ n1, e2 _ n2, el _ _ (by omega) h2 n1 n2]
    exact ⟨h1, h2, h3⟩
  · obtain ⟨h1, h2, h3, h4⟩ := m.rm h c hh
    simp only [List.mem_cons, not_or] at h4
    exact ⟨by rw [e2 c h4.1]; exact h1, h2, h3, h4.2⟩
  · obtain ⟨h1, h2, h3⟩ := m.wm c (by simp [hcw])
    exact ⟨h1, h2, by rw [e2 c (fun e => hn.1 (by rw [← e]; exact hcw))]; exact h3⟩
  · have hcx : c ≠ x := fun e => by rw [e, e1] at h1; omega
    rw [e2 c hcx] at h1 ⊢
    refine (m.rts c h1 h2).imp_right fun h => ?_
    exact (List.mem_cons.1 h).resolve_left hcx
  · by_cases hcx : c = x
    · rw [hcx]; exact x1
    · rw [e2 c hcx] at hcl
      exact m.lone c hcl
end
end Go.Proofs.YtjlnnljohemifaaGreat

namespace Go.Proofs.YtjlnnljohemifaaGreat
end Go.Proofs.YtjlnnljohemifaaGreat

namespace Go.Proofs.YtjlnnljohemifaaGreat
section
variable {hm hm' : Int → Int} {lt lt' : Int → Int → Bool} {ch : Int → List Int} {par : Int → Int} {rings : Int → List Int} {W A : List Int} {nx pv : Int → Int} {x g T y : Int}
theorem Pr.root (q : Pr hm lt ch par) (hs : Strict lt) {n : Nat} (hn : ∀ x, 0 < hm x → 0 ≤ x ∧ x < n) : ∀ (k : Nat) {x : Int}, depN lt n x ≤ k → 0 < hm x → ∃ r, hm r = hm x ∧ par r = -1 ∧ (r = x ∨ lt r x = true) := by
  intro k
  induction k with
  | zero =>
    intro x hk hx
    by_cases hp : par x = -1
    · exact ⟨x, rfl, hp, .inl rfl⟩
    · obtain ⟨_, _, h3, h4, h5⟩ := q.dn _ _ (q.up x _ rfl hp)
      have := depN_lt hs (n := n) (hn _ (by omega)) h5
      omega
  | succ k ih =>
    intro x hk hx
    by_cases hp : par x = -1
    · exact ⟨x, rfl, hp, .inl rfl⟩
    · obtain ⟨_, _, h3, h4, h5⟩ := q.dn _ _ (q.up x _ rfl hp)
      have := depN_lt hs (n := n) (hn _ (by omega)) h5
      obtain ⟨r, r1, r2, r3⟩ := ih (x := par x) (by omega) (by omega)
      refine ⟨r, by omega, r2, .inr ?_⟩
      rcases r3 with r3 | r3
      · rw [r3]; exact h5
      · exact hs.tr _ _ _ r3 h5
theorem Pr.lead (q : Pr hm lt ch par) (hs : Strict lt) {n : Nat} (hn : ∀ x, 0 < hm x → 0 ≤ x ∧ x < n) (hg : 0 < g) (h : ∀ c, hm c = g → par c = -1 → T ≠ -1 ∧ (c ≠ T → lt T c = true)) (hy : hm y = g) : T ≠ -1 ∧ (y ≠ T → lt T y = true) := by
  obtain ⟨r, r1, r2, r3⟩ := q.root hs hn _ (Nat.le_refl _) (x := y) (by omega)
  obtain ⟨h1, h2⟩ := h r (by omega) r2
  refine ⟨h1, fun hne => ?_⟩
  by_cases e : r = T
  · rw [e] at r3
    exact r3.resolve_left (fun e2 => hne e2.symm)
  · rcases r3 with r3 | r3
    · rw [← r3]; exact h2 e
    · exact hs.tr _ _ _ (h2 e) r3
theorem FbW.partF (m : FbW hm lt nx ch par rings W) (hi : Inv2 nx pv) (hr : rings g = x :: A) : FbW hm lt (spl nx x (pv x)) ch par (rowC rings g A) (x :: W) := by
  have hc := m.rc g
  rw [hr] at hc
  rcases List.eq_nil_or_concat A with h | ⟨B, y, h⟩
  · subst h
    have h1 : nx x = x := hc
    have h2 : pv x = x := by
      have := hi.pn x
      rwa [h1] at this
    rw [h2, spl_self]
    exact m.partE hr
  · rw [List.concat_eq_append] at h
    subst h
    have h2 : pv x = y := Cyc.last (A := B) hi hc
    rw [h2]
    have m2 := m.partR (A := B) (y := y) hr
    have h3 := m2.turn (g := g) (l := B ++ [y]) (by
      unfold rowC
      rw [if_pos rfl]
      exact List.perm_append_comm (l₁ := [y]) (l₂ := B)) (by
      have := m2.rc g
      unfold rowC at this
      rw [if_pos rfl] at this
      exact Cyc.rot (l1 := [y]) (l2 := B) this)
    rwa [rowC_rowC] at h3
theorem FbW.from_ (m : FbW hm lt nx ch par rings W) (hx : x ∈ rings g) : ∃ A, (rings g).Perm (x :: A) ∧ FbW hm lt nx ch par (rowC rings g (x :: A)) W := by
  obtain ⟨A, h1, h2⟩ := (m.rc g).from hx
  exact ⟨A, h1, m.turn h1 h2⟩
end
end Go.Proofs.YtjlnnljohemifaaGreat
