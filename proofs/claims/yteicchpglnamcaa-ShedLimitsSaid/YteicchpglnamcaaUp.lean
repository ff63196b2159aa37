/-
  The package sift: a thing goes up.
-/
import Derived.Test.YteicchpglnamcaaRow
import Derived.Test.YteicchpglnamcaaMeth
set_option linter.unusedVariables false
set_option linter.unusedSimpArgs false
namespace Go.Proofs.Yteicchpglnamcaa
open Go Go.Vc

/-- What tells which of two things is ahead: a value, its memory, what it has been asked so far; what it may be asked about. -/
structure OrdS (ov : Value) (I : Hp → Nat → Prop) (T : Nat → Prop) (lt : Int → Int → Bool) (D : Int → Prop := fun _ => True) : Prop where
  call : ∀ H n a b, D a → D b → I H n → InvH Try.prog ov "Ahead" [i64 a, i64 b] H fun v H' => v = .bool (lt a b) ∧ I H' (n + 1) ∧ Ext T H H'
  nil : NilP Try.prog (.func (.method "Ahead") #[ov] #[])
  keep : ∀ H H' n U, I H n → Ext U H H' → (∀ x, T x → ¬ U x) → I H' n
  tlt : ∀ H n, I H n → ∀ x, T x → x < H.size

/-- A row's things, of each its place, the place to which the thing came, how often it was asked. -/
structure UpR where
  l : List Int
  pl : Int → Option Int
  at_ : Int
  asked : Nat

def upM (lt : Int → Int → Bool) (d x : Int) : Nat → List Int → (Int → Option Int) → Int → UpR
  | 0, l, pl, i => ⟨l.set i.toNat x, setM pl x i, i, 0⟩
  | m + 1, l, pl, i => match parentF d i with
    | none => ⟨l.set i.toNat x, setM pl x i, i, 0⟩
    | some p =>
      if lt x (l.getD p.toNat 0) = true then
        let r := upM lt d x m (l.set i.toNat (l.getD p.toNat 0)) (setM pl (l.getD p.toNat 0) i) p
        ⟨r.l, r.pl, r.at_, r.asked + 1⟩
      else ⟨l.set i.toNat x, setM pl x i, i, 1⟩

theorem upM_more (lt : Int → Int → Bool) (d x : Int) : ∀ (m m' : Nat) (l : List Int) (pl : Int → Option Int) (i : Int), i.toNat ≤ m → i.toNat ≤ m' → upM lt d x m l pl i = upM lt d x m' l pl i := by
  intro m
  induction m with
  | zero =>
    intro m' l pl i h _
    have hn : parentF d i = none := by unfold parentF; rw [if_neg (by omega)]
    cases m' <;> simp [upM, hn]
  | succ m ih =>
    intro m' l pl i h h'
    cases hp : parentF d i with
    | none => cases m' <;> simp [upM, hp]
    | some p =>
      have hb := parentF_lt hp
      cases m' with
      | zero => omega
      | succ m' => simp only [upM, hp]; rw [ih m' _ _ p (by omega) (by omega)]

theorem mem_setL {l : List Int} {i : Nat} {y z : Int} (h : z ∈ l.set i y) : z = y ∨ z ∈ l := (List.mem_or_eq_of_mem_set h).symm

theorem upM_mem (lt : Int → Int → Bool) (d x : Int) : ∀ (m : Nat) (l : List Int) (pl : Int → Option Int) (i : Int), 0 ≤ i → i < l.length → ∀ z ∈ (upM lt d x m l pl i).l, z = x ∨ z ∈ l := by
  intro m
  induction m with
  | zero => intro l pl i _ _ z hz; exact mem_setL hz
  | succ m ih =>
    intro l pl i h0 h1 z hz
    cases hp : parentF d i with
    | none => simp only [upM, hp] at hz; exact mem_setL hz
    | some p =>
      have hb := parentF_lt hp
      simp only [upM, hp] at hz
      split at hz
      · rcases ih _ _ p (by omega) (by rw [List.length_set]; omega) z hz with h | h
        · exact .inl h
        · rcases mem_setL h with h | h
          · rw [h, List.getD_eq_getElem?_getD, List.getElem?_eq_getElem (by omega)]
            exact .inr (List.getElem_mem _)
          · exact .inr h
      · exact mem_setL hz

theorem sift_up_spec {ov : Value} {I : Hp → Nat → Prop} {T : Nat → Prop} {lt : Int → Int → Bool} {D : Int → Prop} (ho : OrdS ov I T lt D) {H : Hp} {r : Nat} {S : Nat → Prop} {d : Int} {l : List Int} {pl : Int → Option Int}
    (h : RowAt H r S d l pl) (hd : ∀ x, S x → ¬ T x) {n : Nat} (hI : I H n) (i x : Int) (hi : 0 ≤ i ∧ i < l.length) (hl : l.length ≤ 1000000) (hx : D x := by trivial) (hD : ∀ z ∈ l, D z := by intros; trivial) :
    CallH Try.prog n_sift_Row_up [ptr r, ov, i64 i, i64 x] H fun v H' => Post (
      let R := upM lt d x i.toNat l pl i
      v = i64 R.at_ ∧ RowAt H' r S d R.l R.pl ∧ I H' (n + R.asked) ∧ Ext (fun z => S z ∨ T z) H H') := by
  refine c_sift_Row_up ⟨rfl, ?_⟩
  simp (disch := (first | omega | (simp only [size_new, size_newm, size_wr, size_wrm] <;> omega) | fail)) only [go_sem, Nat.reduceBEq, Nat.reduceAdd, Nat.reduceMul, Nat.reduceLeDiff, ↓reduceIte, rd_new_lt, own_new_lt, mp_new_lt, rd_newm_lt, own_newm_lt, mp_newm_lt, rd_wr_ne, own_wr_ne, mp_wr_ne, rd_wrm_ne, own_wrm_ne, mp_wrm_ne, rd_new_eq, own_new_eq, mp_newm_eq, s_sift_Row_up]
  refine LoopV.intro (fun m env H1 => ∃ (l1 : List Int) (pl1 : Int → Option Int) (i1 : Int) (k : Nat), env = [(0, ptr r), (1, ov), (2, i64 i1), (3, i64 x)] ∧ (∀ z ∈ l1, D z) ∧ m = i1.toNat ∧ 0 ≤ i1 ∧ i1 < l1.length ∧ l1.length = l.length ∧
      RowAt H1 r S d l1 pl1 ∧ I H1 (n + k) ∧ Ext (fun z => S z ∨ T z) H H1 ∧
      (upM lt d x i.toNat l pl i).l = (upM lt d x i1.toNat l1 pl1 i1).l ∧ (upM lt d x i.toNat l pl i).pl = (upM lt d x i1.toNat l1 pl1 i1).pl ∧ (upM lt d x i.toNat l pl i).at_ = (upM lt d x i1.toNat l1 pl1 i1).at_ ∧
      (upM lt d x i.toNat l pl i).asked = k + (upM lt d x i1.toNat l1 pl1 i1).asked) i.toNat ⟨l, pl, i, 0, rfl, hD, rfl, hi.1, hi.2, rfl, h, hI, Ext.refl _ _, rfl, rfl, rfl, by omega⟩ ?_
  rintro m env H1 ⟨l1, pl1, i1, k, rfl, hD1, rfl, i0, il, ll, h1, hI1, e1, u1, u2, u3, u4⟩
  obtain ⟨⟨sv, fp, mb, a1, a2, a3, s1, s2, s3, s4⟩, h2⟩ := id h1
  have key : ∀ o : Option Int, twoF o = .tuple [i64 (o.getD 0), .bool o.isSome].toArray := by intro o; cases o <;> rfl
  simp (disch := (first | omega | (simp only [size_new, size_newm, size_wr, size_wrm] <;> omega) | fail)) only [go_sem, Nat.reduceBEq, Nat.reduceAdd, Nat.reduceMul, Nat.reduceLeDiff, ↓reduceIte, rd_new_lt, own_new_lt, mp_new_lt, rd_newm_lt, own_newm_lt, mp_newm_lt, rd_wr_ne, own_wr_ne, mp_wr_ne, rd_wrm_ne, own_wrm_ne, mp_wrm_ne, rd_new_eq, own_new_eq, mp_newm_eq, rd_of_own a1]
  refine (sift_Parent_spec d i1 (by omega) H1).mono ?_
  rintro _ _ ⟨rfl, rfl⟩
  rw [key]
  have stop : ∀ (H2 : Hp) (k2 : Nat), RowAt H2 r S d l1 pl1 → I H2 (n + k + k2) → Ext (fun z => S z ∨ T z) H H2 → upM lt d x i1.toNat l1 pl1 i1 = ⟨l1.set i1.toNat x, setM pl1 x i1, i1, k2⟩ →
      CallH Try.prog n_sift_Row_set [ptr r, i64 i1, i64 x] H2 fun _ H' => (i64 i1 = i64 (upM lt d x i.toNat l pl i).at_ ∧ RowAt H' r S d (upM lt d x i.toNat l pl i).l (upM lt d x i.toNat l pl i).pl ∧
        I H' (n + (upM lt d x i.toNat l pl i).asked) ∧ Ext (fun z => S z ∨ T z) H H') := by
    intro H2 k2 g1 g2 g3 g4
    refine (sift_set_spec g1 i1 x ⟨i0, il⟩).mono ?_
    rintro _ H3 ⟨_, g5, g6⟩
    rw [u1, u2, u3, u4, g4]
    exact ⟨rfl, g5, by rw [← Nat.add_assoc]; exact ho.keep _ _ _ _ g2 g6 (fun z hz hs => hd z hs hz), g3.trans (g6.mono fun z _ hz => .inl hz)⟩
  cases hp : parentF d i1 with
  | none =>
    simp (disch := (first | omega | (simp only [size_new, size_newm, size_wr, size_wrm] <;> omega) | fail)) only [go_sem, Nat.reduceBEq, Nat.reduceAdd, Nat.reduceMul, Nat.reduceLeDiff, ↓reduceIte, rd_new_lt, own_new_lt, mp_new_lt, rd_newm_lt, own_newm_lt, mp_newm_lt, rd_wr_ne, own_wr_ne, mp_wr_ne, rd_wrm_ne, own_wrm_ne, mp_wrm_ne, rd_new_eq, own_new_eq, mp_newm_eq, Option.isSome_none]
    refine (stop H1 0 h1 hI1 e1 ?_).mono ?_
    · cases hm : i1.toNat <;> simp [upM, hp, hm]
    · rintro _ H3 ⟨g1, g2, g3, g4⟩
      simp (disch := (first | omega | (simp only [size_new, size_newm, size_wr, size_wrm] <;> omega) | fail)) only [go_sem, Nat.reduceBEq, Nat.reduceAdd, Nat.reduceMul, Nat.reduceLeDiff, ↓reduceIte, rd_new_lt, own_new_lt, mp_new_lt, rd_newm_lt, own_newm_lt, mp_newm_lt, rd_wr_ne, own_wr_ne, mp_wr_ne, rd_wrm_ne, own_wrm_ne, mp_wrm_ne, rd_new_eq, own_new_eq, mp_newm_eq]
      exact ⟨g1, g2, g3, g4⟩
  | some p =>
    have hpb := parentF_lt hp
    obtain ⟨b, rfl⟩ : ∃ b, fp = some b := by
      cases fp with
      | none => obtain ⟨_, e, _⟩ := a2; omega
      | some b => exact ⟨b, rfl⟩
    obtain ⟨_, l', c, rfl, a4, a5, a6, a7⟩ := a2
    obtain ⟨y, hy⟩ : ∃ y, l1[p.toNat]? = some y := ⟨_, List.getElem?_eq_getElem (by omega)⟩
    have hy2 : l'[p.toNat]? = some (i64 y) := by
      have h1 : (l1.map i64)[p.toNat]? = some (i64 y) := by simp [hy]
      rw [← a7, List.getElem?_take_of_lt (by omega)] at h1
      exact h1
    have hy3 : l1.getD p.toNat 0 = y := by simp [List.getD, hy]
    simp (disch := (first | omega | (simp only [size_new, size_newm, size_wr, size_wrm] <;> omega) | fail)) only [go_sem, Nat.reduceBEq, Nat.reduceAdd, Nat.reduceMul, Nat.reduceLeDiff, ↓reduceIte, rd_new_lt, own_new_lt, mp_new_lt, rd_newm_lt, own_newm_lt, mp_newm_lt, rd_wr_ne, own_wr_ne, mp_wr_ne, rd_wrm_ne, own_wrm_ne, mp_wrm_ne, rd_new_eq, own_new_eq, mp_newm_eq, Option.isSome_some, Option.getD_some, rd_of_own a1]
    refine ⟨by omega, ?_⟩
    simp (disch := (first | omega | (simp only [size_new, size_newm, size_wr, size_wrm] <;> omega) | fail)) only [go_sem, Nat.reduceBEq, Nat.reduceAdd, Nat.reduceMul, Nat.reduceLeDiff, ↓reduceIte, rd_new_lt, own_new_lt, mp_new_lt, rd_newm_lt, own_newm_lt, mp_newm_lt, rd_wr_ne, own_wr_ne, mp_wr_ne, rd_wrm_ne, own_wrm_ne, mp_wrm_ne, rd_new_eq, own_new_eq, mp_newm_eq, rd_of_own a4, Nat.mul_one, hy2]
    refine ⟨ho.nil, ?_⟩
    simp (disch := (first | omega | (simp only [size_new, size_newm, size_wr, size_wrm] <;> omega) | fail)) only [go_sem, Nat.reduceBEq, Nat.reduceAdd, Nat.reduceMul, Nat.reduceLeDiff, ↓reduceIte, rd_new_lt, own_new_lt, mp_new_lt, rd_newm_lt, own_newm_lt, mp_newm_lt, rd_wr_ne, own_wr_ne, mp_wr_ne, rd_wrm_ne, own_wrm_ne, mp_wrm_ne, rd_new_eq, own_new_eq, mp_newm_eq]
    refine InvH.mono (ho.call H1 (n + k) x y hx (hD1 y (List.mem_of_getElem? hy)) hI1) ?_
    rintro _ H2 ⟨rfl, hI2, e2⟩
    have h2' := h1.ext e2 hd
    have e12 := e1.trans (e2.mono fun z _ hz => .inr hz)
    have b1 := e2.own a1 (hd _ s1)
    have b4 := e2.own a4 (hd _ (s4 b rfl).1)
    simp (disch := (first | omega | (simp only [size_new, size_newm, size_wr, size_wrm] <;> omega) | fail)) only [go_sem, Nat.reduceBEq, Nat.reduceAdd, Nat.reduceMul, Nat.reduceLeDiff, ↓reduceIte, rd_new_lt, own_new_lt, mp_new_lt, rd_newm_lt, own_newm_lt, mp_newm_lt, rd_wr_ne, own_wr_ne, mp_wr_ne, rd_wrm_ne, own_wrm_ne, mp_wrm_ne, rd_new_eq, own_new_eq, mp_newm_eq]
    cases hlt : lt x y with
    | false =>
      simp (disch := (first | omega | (simp only [size_new, size_newm, size_wr, size_wrm] <;> omega) | fail)) only [go_sem, Nat.reduceBEq, Nat.reduceAdd, Nat.reduceMul, Nat.reduceLeDiff, ↓reduceIte, rd_new_lt, own_new_lt, mp_new_lt, rd_newm_lt, own_newm_lt, mp_newm_lt, rd_wr_ne, own_wr_ne, mp_wr_ne, rd_wrm_ne, own_wrm_ne, mp_wrm_ne, rd_new_eq, own_new_eq, mp_newm_eq]
      refine (stop H2 1 h2' hI2 e12 ?_).mono ?_
      · obtain ⟨q, hq⟩ : ∃ q, i1.toNat = q + 1 := ⟨i1.toNat - 1, by omega⟩
        rw [hq]
        simp [upM, hp, hy, hlt, hq]
      · rintro _ H3 ⟨g1, g2, g3, g4⟩
        simp (disch := (first | omega | (simp only [size_new, size_newm, size_wr, size_wrm] <;> omega) | fail)) only [go_sem, Nat.reduceBEq, Nat.reduceAdd, Nat.reduceMul, Nat.reduceLeDiff, ↓reduceIte, rd_new_lt, own_new_lt, mp_new_lt, rd_newm_lt, own_newm_lt, mp_newm_lt, rd_wr_ne, own_wr_ne, mp_wr_ne, rd_wrm_ne, own_wrm_ne, mp_wrm_ne, rd_new_eq, own_new_eq, mp_newm_eq]
        exact ⟨g1, g2, g3, g4⟩
    | true =>
      simp (disch := (first | omega | (simp only [size_new, size_newm, size_wr, size_wrm] <;> omega) | fail)) only [go_sem, Nat.reduceBEq, Nat.reduceAdd, Nat.reduceMul, Nat.reduceLeDiff, ↓reduceIte, rd_new_lt, own_new_lt, mp_new_lt, rd_newm_lt, own_newm_lt, mp_newm_lt, rd_wr_ne, own_wr_ne, mp_wr_ne, rd_wrm_ne, own_wrm_ne, mp_wrm_ne, rd_new_eq, own_new_eq, mp_newm_eq, rd_of_own b1]
      refine ⟨by omega, ?_⟩
      simp (disch := (first | omega | (simp only [size_new, size_newm, size_wr, size_wrm] <;> omega) | fail)) only [go_sem, Nat.reduceBEq, Nat.reduceAdd, Nat.reduceMul, Nat.reduceLeDiff, ↓reduceIte, rd_new_lt, own_new_lt, mp_new_lt, rd_newm_lt, own_newm_lt, mp_newm_lt, rd_wr_ne, own_wr_ne, mp_wr_ne, rd_wrm_ne, own_wrm_ne, mp_wrm_ne, rd_new_eq, own_new_eq, mp_newm_eq, rd_of_own b4, Nat.mul_one, hy2]
      refine (sift_set_spec h2' i1 y ⟨i0, il⟩).mono ?_
      rintro _ H3 ⟨_, g5, g6⟩
      simp (disch := (first | omega | (simp only [size_new, size_newm, size_wr, size_wrm] <;> omega) | fail)) only [go_sem, Nat.reduceBEq, Nat.reduceAdd, Nat.reduceMul, Nat.reduceLeDiff, ↓reduceIte, rd_new_lt, own_new_lt, mp_new_lt, rd_newm_lt, own_newm_lt, mp_newm_lt, rd_wr_ne, own_wr_ne, mp_wr_ne, rd_wrm_ne, own_wrm_ne, mp_wrm_ne, rd_new_eq, own_new_eq, mp_newm_eq]
      obtain ⟨q, hq⟩ : ∃ q, i1.toNat = q + 1 := ⟨i1.toNat - 1, by omega⟩
      have hup : upM lt d x i1.toNat l1 pl1 i1 = ⟨(upM lt d x p.toNat (l1.set i1.toNat y) (setM pl1 y i1) p).l, (upM lt d x p.toNat (l1.set i1.toNat y) (setM pl1 y i1) p).pl, (upM lt d x p.toNat (l1.set i1.toNat y) (setM pl1 y i1) p).at_,
          (upM lt d x p.toNat (l1.set i1.toNat y) (setM pl1 y i1) p).asked + 1⟩ := by
        rw [upM_more lt d x p.toNat q _ _ p (Nat.le_refl _) (by omega), hq]
        simp only [upM, hp, hy3, hlt, if_true, hq]
      refine ⟨p.toNat, by omega, l1.set i1.toNat y, setM pl1 y i1, p, k + 1, rfl, fun z hz => (mem_setL hz).elim (fun e => e ▸ hD1 y (List.mem_of_getElem? hy)) (hD1 z), rfl, by omega, by rw [List.length_set]; omega, by rw [List.length_set]; exact ll, g5,
        ho.keep _ _ _ _ hI2 g6 (fun z hz hs => hd z hs hz), e12.trans (g6.mono fun z _ hz => .inl hz), by rw [u1, hup], by rw [u2, hup], by rw [u3, hup], by rw [u4, hup]; simp only; omega⟩

end Go.Proofs.Yteicchpglnamcaa
