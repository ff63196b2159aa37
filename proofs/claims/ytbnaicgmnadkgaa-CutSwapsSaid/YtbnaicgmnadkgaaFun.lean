/-
  Whole functions: their code read off; what it asks; and that it is so.
-/
import Derived.Test.YtbnaicgmnadkgaaStm
set_option linter.unusedVariables false
set_option linter.unusedSimpArgs false
namespace Go.Vc

/-! short words for what a program prints -/
abbrev tt (n : Nat) : Operand := .tmp n
abbrev ki (n : Int) : Operand := .const (.int .i64 n)
abbrev kb (b : Bool) : Operand := .const (.bool b)
abbrev s1 (d : Nat) (op : Iop) : Sop := ⟨false, none, some d, op⟩
abbrev s0 (op : Iop) : Sop := ⟨false, none, none, op⟩
abbrev sg (g : Nat) (w : Bool) (d : Nat) (op : Iop) : Sop := ⟨false, some (g, w), some d, op⟩
abbrev sg0 (g : Nat) (w : Bool) (op : Iop) : Sop := ⟨false, some (g, w), none, op⟩
abbrev sq (d : Nat) (op : Iop) : Sop := ⟨true, none, some d, op⟩
abbrev sqg (g : Nat) (w : Bool) (d : Nat) (op : Iop) : Sop := ⟨true, some (g, w), some d, op⟩

inductive S where
  | skip
  | reg (ops : List Sop) (keep : List Nat)
  | regT (t : OtS) (keep : List Nat)
  | seq (a b : S)
  | cond (c : Operand) (x y : S)
  | blk (id : Nat) (b : S)
  | loop (slots : List Nat) (b : S)
  | exit (id : Nat)
  | ret
  | bad
  deriving Inhabited

/-- A loop: what holds at each round's head, and a number that goes down. -/
def LoopV (F : Env → Hp → (Env → Hp → Prop) → Prop) (env : Env) (H : Hp) (_t : Tag F := ⟨⟩) : Prop :=
  ∃ I : Nat → Env → Hp → Prop, (∃ m, I m env H) ∧ ∀ m env H, I m env H → F env H fun env' H' => ∃ m', m' < m ∧ I m' env' H'
theorem LoopV.intro {F : Env → Hp → (Env → Hp → Prop) → Prop} {env : Env} {H : Hp} (I : Nat → Env → Hp → Prop) (m : Nat) (h0 : I m env H)
    (round : ∀ m env H, I m env H → F env H fun env' H' => ∃ m', m' < m ∧ I m' env' H') : LoopV F env H := ⟨I, ⟨m, h0⟩, round⟩

def vc (P : Program) : S → Env → Hp → (Env → Hp → Prop) → (Nat → Env → Hp → Prop) → (Env → Hp → Prop) → Prop
  | .skip, env, H, Kn, _, _ => Kn env H
  | .reg ops keep, env, H, Kn, _, _ => vcOps P (fun env' H' => now (Env.keep env' keep) fun e => Kn e H') ops env H
  | .regT t keep, env, H, Kn, _, _ => InvV H fun Inv => vcT P Inv (fun env' H' => now (Env.keep env' keep) fun e => Kn e H') t env H
  | .seq a b, env, H, Kn, Kx, Kr => vc P a env H (fun env' H' => vc P b env' H' Kn Kx Kr) Kx Kr
  | .cond c x y, env, H, Kn, Kx, Kr => guardV (Env.ev env c) fun t => Cho t (vc P x env H Kn Kx Kr) (vc P y env H Kn Kx Kr)
  | .blk id b, env, H, Kn, Kx, Kr => vc P b env H Kn (fun i env' H' => Cho (i == id) (Kn env' H') (Kx i env' H')) Kr
  | .loop L b, env, H, _, Kx, Kr => LoopV (fun env' H' again => vc P b env' H' (fun e h => again (Env.keep e L) h) Kx Kr) (Env.keep env L) H
  | .exit id, env, H, _, Kx, _ => Kx id env H
  | .ret, env, H, _, _, Kr => Kr env H
  | .bad, _, _, _, _, _ => False

section
variable (P : Program) (env : Env) (H : Hp) (Kn : Env → Hp → Prop) (Kx : Nat → Env → Hp → Prop) (Kr : Env → Hp → Prop)
@[go_sem ↓] theorem vc_skip : vc P .skip env H Kn Kx Kr = Kn env H := (rfl)
@[go_sem ↓] theorem vc_reg (ops : List Sop) (keep : List Nat) : vc P (.reg ops keep) env H Kn Kx Kr = vcOps P (fun env' H' => now (Env.keep env' keep) fun e => Kn e H') ops env H := (rfl)
@[go_sem ↓] theorem vc_regT (t : OtS) (keep : List Nat) : vc P (.regT t keep) env H Kn Kx Kr = InvV H fun Inv => vcT P Inv (fun env' H' => now (Env.keep env' keep) fun e => Kn e H') t env H := (rfl)
@[go_sem ↓] theorem vc_seq (a b : S) : vc P (.seq a b) env H Kn Kx Kr = vc P a env H (fun env' H' => vc P b env' H' Kn Kx Kr) Kx Kr := (rfl)
@[go_sem ↓] theorem vc_cond (c : Operand) (x y : S) : vc P (.cond c x y) env H Kn Kx Kr = guardV (Env.ev env c) fun t => Cho t (vc P x env H Kn Kx Kr) (vc P y env H Kn Kx Kr) := (rfl)
@[go_sem ↓] theorem vc_blk (id : Nat) (b : S) : vc P (.blk id b) env H Kn Kx Kr = vc P b env H Kn (fun i env' H' => Cho (i == id) (Kn env' H') (Kx i env' H')) Kr := (rfl)
@[go_sem ↓] theorem vc_loop (L : List Nat) (b : S) : vc P (.loop L b) env H Kn Kx Kr = LoopV (fun env' H' again => vc P b env' H' (fun e h => again (Env.keep e L) h) Kx Kr) (Env.keep env L) H := (rfl)
@[go_sem ↓] theorem vc_exit (id : Nat) : vc P (.exit id) env H Kn Kx Kr = Kx id env H := (rfl)
@[go_sem ↓] theorem vc_bad : vc P .bad env H Kn Kx Kr = False := (rfl)
@[go_sem ↓] theorem vc_ret : vc P .ret env H Kn Kx Kr = Kr env H := (rfl)
end
attribute [go_sem] cond_true cond_false

/-! ### The code read off -/

/-- Beside each region: which slots are kept, which calls are quiet; beside each loop: which slots its rounds know. -/
abbrev Ann := List Nat × List Nat × List Nat

/-- Orders out of numbers. -/
def parseT : Nat → List Nat → Option (Ot × List Nat)
  | 0, _ => none
  | _ + 1, 0 :: r => some (.done, r)
  | f + 1, 1 :: i :: r => match parseT f r with
    | some (t, r) => some (.step i t, r)
    | none => none
  | f + 1, 2 :: i :: r => match parseT f r with
    | some (t, r) => match parseT f r with
      | some (u, r) => some (.fork i t u, r)
      | none => none
    | none => none
  | _ + 1, 3 :: r => some (.stop, r)
  | _ + 1, _ => none

def decS (P : Program) (n : Nat) : Code → List Ann → Option (S × List Ann)
  | .skip, an => some (.skip, an)
  | .region _ ops draw, an =>
    match an with
    | [] => none
    | (keep, q, x :: tr) :: an =>
      match decOps P n ops q 0 ops.toList with
      | none => none
      | some ss =>
        match parseT (tr.length + 2) (x :: tr) with
        | some (t, []) =>
          if draw = true ∧ ancOk ops (Region.before ops) = true ∧ okT ops (Region.before ops) (stOf ss) t (Array.replicate ops.size false) [] = true ∧ Region.noSelect ops = true then (attach ss t).map fun ts => (.regT ts keep, an) else none
        | _ => none
    | (keep, q, []) :: an =>
      match decOps P n ops q 0 ops.toList with
      | none => none
      | some ss =>
        if draw = false ∨ (ancOk ops (Region.before ops) = true ∧ swapsOk ops (Region.before ops) (clsOf ss) = true ∧ Region.noSelect ops = true) then some (.reg ss keep, an) else none
  | .seq a b, an =>
    match decS P n a an with
    | none => none
    | some (x, an) => match decS P n b an with
      | none => none
      | some (y, an) => some (.seq x y, an)
  | .cond c a b, an =>
    match decS P n a an with
    | none => none
    | some (x, an) => match decS P n b an with
      | none => none
      | some (y, an) => some (.cond c x y, an)
  | .block id a, an => match decS P n a an with
    | none => none
    | some (x, an) => some (.blk id x, an)
  | .loop a, an =>
    match an with
    | [] => none
    | (L, _, _) :: an => match decS P n a an with
      | none => none
      | some (x, an) => some (.loop L x, an)
  | .exit id, an => some (.exit id, an)
  | .ret, an => some (.ret, an)
  | .refuse _, an => some (.bad, an)
  | _, _ => none

theorem wp_loop_ghost {P : Program} {Q : Exit → Act → World → Prop} {a : Act} {w : World} {c : Code} (I : Nat → Act → World → Prop) {m : Nat} (h₀ : I m a w)
    (round : ∀ m a w, I m a w → c.wp P (Exit.then (fun a' w' => ∃ m', m' < m ∧ I m' a' w') Q) a w) : (Code.loop c).wp P Q a w := by
  intro b k cs
  have key : ∀ n a w, I n a w → ∃ e a' w', Q e a' w' ∧ Arrives P (lone (b.at a (.code c :: .inLoop c :: k)) cs w) b k cs e a' w' := by
    intro n
    induction n using Nat.strongRecOn with
    | _ n ih =>
      intro a w hI
      obtain ⟨e, a₁, w₁, hq, harr⟩ := round n a w hI b (.inLoop c :: k) cs
      cases e with
      | normal =>
        obtain ⟨m', hlt, hI₁⟩ := hq
        obtain ⟨e₂, a₂, w₂, hq₂, harr₂⟩ := ih m' hlt a₁ w₁ hI₁
        exact ⟨e₂, a₂, w₂, hq₂, .of_steps (Steps.trans harr (.one step_inLoop)) harr₂⟩
      | exit id => exact ⟨_, a₁, w₁, hq, .pass (x := .inLoop c) rfl (fun _ _ => .inl (by simp)) harr⟩
      | goto l => exact ⟨_, a₁, w₁, hq, .pass (x := .inLoop c) rfl (fun _ _ => .inl (by simp)) harr⟩
      | ret => exact ⟨_, a₁, w₁, hq, .pass (x := .inLoop c) rfl (fun _ _ => .inl (by simp)) harr⟩
      | panic ch => exact ⟨_, a₁, w₁, hq, .pass (x := .inLoop c) rfl (fun _ _ => .inl (by simp)) harr⟩
      | outgrown => exact ⟨_, a₁, w₁, hq, .pass (x := .inLoop c) rfl (fun _ _ => .inl (by simp)) harr⟩
  obtain ⟨e, a', w', hq, harr⟩ := key _ a w h₀
  exact ⟨e, a', w', hq, .of_steps (.one step_loop) harr⟩

theorem wp_of_vc {P : Program} {n : Nat} (hm : P.follows .mixedOrders = true) : ∀ (c : Code) (an : List Ann) (s : S) (an' : List Ann), decS P n c an = some (s, an') →
    ∀ (env : Env) (a : Act) (w : World) (Kn : Env → Hp → Prop) (Kx : Nat → Env → Hp → Prop) (Kr : Env → Hp → Prop) (Q : Exit → Act → World → Prop), Holds env a n → vc P s env w.heap Kn Kx Kr →
      (∀ env' a' w', Same w w' → Holds env' a' n → Kn env' w'.heap → Q .normal a' w') →
      (∀ i env' a' w', Same w w' → Holds env' a' n → Kx i env' w'.heap → Q (.exit i) a' w') →
      (∀ env' a' w', Same w w' → Holds env' a' n → Kr env' w'.heap → Q .ret a' w') → c.wp P Q a w := by
  intro c
  induction c with
  | skip =>
    intro an s an' hd env a w Kn Kx Kr Q hh h hn hx hr
    simp only [decS, Option.some.injEq, Prod.mk.injEq] at hd
    obtain ⟨rfl, rfl⟩ := hd
    exact wp_skip (hn env a w (Same.refl w) hh h)
  | region id ops draw =>
    intro an s an' hd env a w Kn Kx Kr Q hh h hn hx hr
    unfold decS at hd
    split at hd
    · cases hd
    · rename_i keep q x tr an0
      split at hd
      · cases hd
      · rename_i ss hss
        split at hd
        · rename_i t ht
          split at hd
          · rename_i hc
            obtain ⟨rfl, h1, h2, h3⟩ := hc
            cases hts : attach ss t with
            | none => rw [hts] at hd; cases hd
            | some ts =>
              rw [hts] at hd
              simp only [Option.map_some, Option.some.injEq, Prod.mk.injEq] at hd
              obtain ⟨rfl, rfl⟩ := hd
              have hl : ∀ k, ops.toList[k]? = ops[0 + k]? := fun k => by simp
              have hQ : ∀ a' w', Same w w' → (∃ env', Holds env' a' n ∧ Kn (Env.keep env' keep) w'.heap) → Q .normal a' w' := fun a' w' hs ⟨env', hh', hk⟩ => hn _ a' w' hs (hh'.keep keep) hk
              have hget := decOps_get (P := P) (ops := ops) (n := n) ops.toList 0 ss hl hss
              obtain ⟨Inv, hI, h⟩ := h
              have h4 := seqT_of_vcT (P := P) (ops := ops) (n := n) (q := q) (Inv := Inv) (ss := ss) (fun k s hk => by have := hget k s hk; simpa using this) t ts hts env a w.heap hh h
              exact wp_region_seqT (K := fun a' H' => ∃ env', Holds env' a' n ∧ Kn (Env.keep env' keep) H') hm h1 h2 h3 hI hQ (by simpa [now_eq] using h4)
          · cases hd
        · cases hd
    · rename_i keep q an0
      split at hd
      · cases hd
      · rename_i ss hss
        split at hd
        · rename_i hdraw
          simp only [Option.some.injEq, Prod.mk.injEq] at hd
          obtain ⟨rfl, rfl⟩ := hd
          have hl : ∀ k, ops.toList[k]? = ops[0 + k]? := fun k => by simp
          have hQ : ∀ a' w', Same w w' → (∃ env', Holds env' a' n ∧ Kn (Env.keep env' keep) w'.heap) → Q .normal a' w' := fun a' w' hs ⟨env', hh', hk⟩ => hn _ a' w' hs (hh'.keep keep) hk
          cases draw with
          | false =>
            have h1 := seqD_of_vc (P := P) (ops := ops) (n := n) ops.toList 0 ss hl hss env a w.heap hh h
            refine wp_region_seqD (K := fun a' H' => ∃ env', Holds env' a' n ∧ Kn (Env.keep env' keep) H') hQ ?_
            rw [List.range_eq_range']
            simpa [now_eq] using h1
          | true =>
            obtain ⟨h1, h2, h3⟩ := hdraw.resolve_left (by simp)
            have h4 := seqC_of_vc (P := P) (ops := ops) (n := n) (cls := clsOf ss) ops.toList 0 ss hl hss (fun k s hk => by simp [clsOf, hk]) env a w.heap hh h
            refine wp_region_seqC (K := fun a' H' => ∃ env', Holds env' a' n ∧ Kn (Env.keep env' keep) H') hm h1 h2 h3 hQ ?_
            rw [List.range_eq_range']
            simpa [now_eq] using h4
        · cases hd
  | seq x y ihx ihy =>
    intro an s an' hd env a w Kn Kx Kr Q hh h hn hx hr
    unfold decS at hd
    split at hd
    · cases hd
    · rename_i sx an1 hdx
      split at hd
      · cases hd
      · rename_i sy an2 hdy
        simp only [Option.some.injEq, Prod.mk.injEq] at hd
        obtain ⟨rfl, rfl⟩ := hd
        refine wp_seq (ihx an sx an1 hdx env a w _ Kx Kr _ hh h ?_ ?_ ?_)
        · intro env' a' w' hs hh' hk
          exact ihy an1 sy _ hdy env' a' w' Kn Kx Kr Q hh' hk (fun e b v hs' => hn e b v (hs.trans hs')) (fun i e b v hs' => hx i e b v (hs.trans hs')) (fun e b v hs' => hr e b v (hs.trans hs'))
        · intro i env' a' w' hs hh' hk; exact hx i env' a' w' hs hh' hk
        · intro env' a' w' hs hh' hk; exact hr env' a' w' hs hh' hk
  | cond c x y ihx ihy =>
    intro an s an' hd env a w Kn Kx Kr Q hh h hn hx hr
    unfold decS at hd
    split at hd
    · cases hd
    · rename_i sx an1 hdx
      split at hd
      · cases hd
      · rename_i sy an2 hdy
        simp only [Option.some.injEq, Prod.mk.injEq] at hd
        obtain ⟨rfl, rfl⟩ := hd
        rw [vc_cond] at h
        unfold guardV at h
        split at h
        · rename_i v hv
          obtain ⟨b, hb, h2⟩ := boolV_spec h
          subst hb
          have hc := hh.tells _ _ hv
          refine wp_cond_split hc (fun hb => ?_) (fun hb => ?_)
          · subst hb; exact ihx an sx an1 hdx env a w Kn Kx Kr Q hh h2 hn hx hr
          · subst hb; exact ihy an1 sy _ hdy env a w Kn Kx Kr Q hh h2 hn hx hr
        · exact h.elim
  | block id x ih =>
    intro an s an' hd env a w Kn Kx Kr Q hh h hn hx hr
    unfold decS at hd
    split at hd
    · cases hd
    · rename_i sx an1 hdx
      simp only [Option.some.injEq, Prod.mk.injEq] at hd
      obtain ⟨rfl, rfl⟩ := hd
      refine wp_block (ih an sx _ hdx env a w Kn _ Kr _ hh h (fun e b v hs hh' hk => hn e b v hs hh' hk) ?_ (fun e b v hs hh' hk => hr e b v hs hh' hk))
      intro i env' a' w' hs hh' hk
      show if i = id then Q .normal a' w' else Q (.exit i) a' w'
      by_cases e : i = id
      · subst e
        simp only [beq_self_eq_true, Cho] at hk
        rw [if_pos rfl]
        exact hn env' a' w' hs hh' hk
      · have : (i == id) = false := by simpa using e
        simp only [this, Cho] at hk
        rw [if_neg e]
        exact hx i env' a' w' hs hh' hk
  | loop x ih =>
    intro an s an' hd env a w Kn Kx Kr Q hh h hn hx hr
    unfold decS at hd
    split at hd
    · cases hd
    · rename_i L q tr an0
      split at hd
      · cases hd
      · rename_i sx an1 hdx
        simp only [Option.some.injEq, Prod.mk.injEq] at hd
        obtain ⟨rfl, rfl⟩ := hd
        obtain ⟨I, ⟨m, h0⟩, round⟩ := h
        refine wp_loop_ghost (fun m a' w' => Same w w' ∧ ∃ env', Holds env' a' n ∧ I m env' w'.heap) ⟨Same.refl w, _, hh.keep L, h0⟩ ?_
        rintro m a' w' ⟨hs, env', hh', hI⟩
        refine ih an0 sx _ hdx env' a' w' _ Kx Kr _ hh' (round m env' w'.heap hI) ?_ ?_ ?_
        · rintro e b v hs' hb ⟨m', hlt, hI'⟩
          exact ⟨m', hlt, hs.trans hs', _, hb.keep L, hI'⟩
        · intro i e b v hs' hb hk; exact hx i e b v (hs.trans hs') hb hk
        · intro e b v hs' hb hk; exact hr e b v (hs.trans hs') hb hk
  | exit id =>
    intro an s an' hd env a w Kn Kx Kr Q hh h hn hx hr
    simp only [decS, Option.some.injEq, Prod.mk.injEq] at hd
    obtain ⟨rfl, rfl⟩ := hd
    exact wp_exit (hx id env a w (Same.refl w) hh h)
  | ret =>
    intro an s an' hd env a w Kn Kx Kr Q hh h hn hx hr
    simp only [decS, Option.some.injEq, Prod.mk.injEq] at hd
    obtain ⟨rfl, rfl⟩ := hd
    exact wp_ret (hr env a w (Same.refl w) hh h)
  | refuse r =>
    intro an s an' hd env a w Kn Kx Kr Q hh h hn hx hr
    simp only [decS, Option.some.injEq, Prod.mk.injEq] at hd
    obtain ⟨rfl, rfl⟩ := hd
    exact h.elim
  | _ => intro an s an' hd; simp [decS] at hd

/-! ### Functions -/

/-- A result: a slot; or a variable in memory (its address in a slot), of one cell or of some. -/
inductive Res where
  | tmp (t : Nat)
  | one (t : Nat)
  | agg (t n : Nat)
  deriving Inhabited

structure Fn where
  np : Nat
  res : List Res
  body : S
  deriving Inhabited

def resV (env : Env) (H : Hp) : List Res → (List Value → Prop) → Prop
  | [], F => F []
  | .tmp t :: r, F => withO (Env.find env t) fun v => resV env H r fun vs => F (v :: vs)
  | .one t :: r, F => withO (Env.find env t) fun p => ptrV p fun b o => withO (H.rd b) fun l => withO l[o]? fun v => resV env H r fun vs => F (v :: vs)
  | .agg t n :: r, F => withO (Env.find env t) fun p => ptrV p fun b o => withO (H.rd b) fun l => Also (o + n ≤ l.length) (resV env H r fun vs => F (.agg ((l.drop o).take n).toArray :: vs))
@[go_sem ↓] theorem resV_nil (env : Env) (H : Hp) (F : List Value → Prop) : resV env H [] F = F [] := (rfl)
@[go_sem ↓] theorem resV_tmp (env : Env) (H : Hp) (t : Nat) (r : List Res) (F : List Value → Prop) : resV env H (.tmp t :: r) F = withO (Env.find env t) fun v => resV env H r fun vs => F (v :: vs) := (rfl)
@[go_sem ↓] theorem resV_one (env : Env) (H : Hp) (t : Nat) (r : List Res) (F : List Value → Prop) :
    resV env H (.one t :: r) F = withO (Env.find env t) fun p => ptrV p fun b o => withO (H.rd b) fun l => withO l[o]? fun v => resV env H r fun vs => F (v :: vs) := (rfl)
@[go_sem ↓] theorem resV_agg (env : Env) (H : Hp) (t n : Nat) (r : List Res) (F : List Value → Prop) :
    resV env H (.agg t n :: r) F = withO (Env.find env t) fun p => ptrV p fun b o => withO (H.rd b) fun l => Also (o + n ≤ l.length) (resV env H r fun vs => F (.agg ((l.drop o).take n).toArray :: vs)) := (rfl)

def tup : List Value → Value
  | [v] => v
  | vs => .tuple vs.toArray
@[go_sem] theorem tup_one (v : Value) : tup [v] = v := (rfl)
@[go_sem] theorem tup_nil : tup [] = .tuple [].toArray := (rfl)
@[go_sem] theorem tup_two (v u : Value) (r : List Value) : tup (v :: u :: r) = .tuple (v :: u :: r).toArray := (rfl)

def argsEnv : Nat → List Value → Env
  | _, [] => []
  | i, v :: r => (i, v) :: argsEnv (i + 1) r
@[go_sem] theorem argsEnv_nil (i : Nat) : argsEnv i [] = [] := (rfl)
@[go_sem] theorem argsEnv_cons (i : Nat) (v : Value) (r : List Value) : argsEnv i (v :: r) = (i, v) :: argsEnv (i + 1) r := (rfl)

def Fn.vc (P : Program) (F : Fn) (args : List Value) (H : Hp) (K : Value → Hp → Prop) : Prop :=
  args.length = F.np ∧ Go.Vc.vc P F.body (argsEnv 0 args) H (fun env H => resV env H F.res fun vs => K (tup vs) H) (fun _ _ _ => False) (fun env H => resV env H F.res fun vs => K (tup vs) H)

def decRes (P : Program) : List ResultVar → Option (List Res)
  | [] => some []
  | .tmp t :: r => (decRes P r).map (.tmp t :: ·)
  | .cell t T :: r => if (P.info? T).isSome ∧ (P.underlying T).isSome then (decRes P r).map ((if isAggT P T then .agg t (P.cellsOf T) else .one t) :: ·) else none

def decFn (P : Program) (f : FuncId) (an : List Ann) : Option Fn :=
  match P.funcs[f]? with
  | none => none
  | some fn =>
    match fn.body with
    | none => none
    | some c =>
      match decS P fn.ntmps c an with
      | some (s, []) => if fn.params.size ≤ fn.ntmps then (decRes P fn.results.toList).map fun rs => ⟨fn.params.size, rs, s⟩ else none
      | _ => none

def resSem (tmps : Array Value) : ResultVar → Sem Value
  | .tmp t => pure (tmps.getD t undef)
  | .cell p t => do loadVar t (← asAddr (tmps.getD p undef))

theorem runs_results {P : Program} {w : World} {env : Env} {a : Act} {n : Nat} (hh : Holds env a n) : ∀ (rs : List ResultVar) (l : List Res) (F : List Value → Prop), decRes P rs = some l → resV env w.heap l F →
    ∃ vs, F vs ∧ (rs.mapM (resSem a.tmps)).run P w = .ok vs w := by
  intro rs
  induction rs with
  | nil => intro l F hl h; simp only [decRes, Option.some.injEq] at hl; subst hl; exact ⟨[], h, rfl⟩
  | cons r rs ih =>
    intro l F hl h
    cases r with
    | tmp t =>
      unfold decRes at hl
      cases hr : decRes P rs with
      | none => rw [hr] at hl; cases hl
      | some l' =>
        rw [hr] at hl
        simp only [Option.map_some, Option.some.injEq] at hl
        subst hl
        obtain ⟨v, hv, h⟩ := withO_spec h
        obtain ⟨vs, hF, hrun⟩ := ih l' _ hr h
        have e : a.tmps.getD t undef = v := by simp [hh.vals t v hv]
        exact ⟨v :: vs, hF, by rw [List.mapM_cons]; simp only [resSem, Sem.run_bind, Sem.run_pure, Result.andThen_ok, e, hrun]⟩
    | cell t T =>
      unfold decRes at hl
      split at hl
      · rename_i hc
        cases hr : decRes P rs with
        | none => rw [hr] at hl; cases hl
        | some l' =>
          rw [hr] at hl
          simp only [Option.map_some, Option.some.injEq] at hl
          subst hl
          cases hb : isAggT P T
          · rw [hb] at h
            obtain ⟨p, hp, h⟩ := withO_spec h
            obtain ⟨b, o, rfl, h⟩ := ptrV_spec h
            obtain ⟨lb, hlb, h⟩ := withO_spec h
            obtain ⟨v, hv, h⟩ := withO_spec h
            obtain ⟨vs, hF, hrun⟩ := ih l' _ hr h
            have e : a.tmps.getD t undef = .pointer (some ⟨b, o, none⟩) := by simp [hh.vals t _ hp]
            exact ⟨v :: vs, hF, by rw [List.mapM_cons]; simp only [resSem, Sem.run_bind, Sem.run_pure, Result.andThen_ok, e, asAddr, (runs_loadVar hc.1 hc.2 hlb).2 hb v hv, hrun]⟩
          · rw [hb] at h
            obtain ⟨p, hp, h⟩ := withO_spec h
            obtain ⟨b, o, rfl, h⟩ := ptrV_spec h
            obtain ⟨lb, hlb, h⟩ := withO_spec h
            obtain ⟨hn, h⟩ := h.out
            obtain ⟨vs, hF, hrun⟩ := ih l' _ hr h
            have e : a.tmps.getD t undef = .pointer (some ⟨b, o, none⟩) := by simp [hh.vals t _ hp]
            exact ⟨_, hF, by rw [List.mapM_cons]; simp only [resSem, Sem.run_bind, Sem.run_pure, Result.andThen_ok, e, asAddr, (runs_loadVar hc.1 hc.2 hlb).1 hb hn, hrun]⟩
      · cases hl

theorem find_args : ∀ (args : List Value) (i k : Nat) (v : Value), Env.find (argsEnv i args) k = some v → i ≤ k ∧ args[k - i]? = some v := by
  intro args
  induction args with
  | nil => intro i k v h; cases h
  | cons x r ih =>
    intro i k v h
    simp only [argsEnv, Env.find] at h
    by_cases e : i = k
    · subst e
      simp at h
      subst h
      exact ⟨Nat.le_refl _, by simp⟩
    · have : (i == k) = false := by simpa using e
      rw [this] at h
      obtain ⟨h1, h2⟩ := ih (i + 1) k v h
      refine ⟨by omega, ?_⟩
      rw [show k - i = (k - (i + 1)) + 1 by omega, List.getElem?_cons_succ]
      exact h2

/-- A call of a function whose code was read off. -/
theorem callH_of {P : Program} (hm : P.follows .mixedOrders = true) {f : FuncId} {an : List Ann} {F : Fn} (hd : decFn P f an = some F) {args : List Value} {H : Hp} {K : Value → Hp → Prop}
    (h : F.vc P args H K) : CallH P f args H K := by
  unfold decFn at hd
  split at hd
  · cases hd
  · rename_i fn hf
    split at hd
    · cases hd
    · rename_i c hb
      split at hd
      · rename_i s hs
        split at hd
        · rename_i hle
          cases hr : decRes P fn.results.toList with
          | none => rw [hr] at hd; cases hd
          | some rs =>
            rw [hr] at hd
            simp only [Option.map_some, Option.some.injEq] at hd
            subst hd
            obtain ⟨hlen, h⟩ := h
            simp only at hlen h
            intro w hw
            subst hw
            refine calls_of_wp hf hb ?_
            have hh : Holds (argsEnv 0 args) { tmps := args.toArray ++ Array.replicate (fn.ntmps - args.toArray.size) undef, defers := [] } fn.ntmps := by
              refine ⟨by simp; omega, rfl, fun k v hk => ?_⟩
              obtain ⟨_, h2⟩ := find_args args 0 k v hk
              have hlt : k < args.length := by
                rcases Nat.lt_or_ge k args.length with h' | h'
                · exact h'
                · simp [List.getElem?_eq_none h'] at h2
              rw [Array.getElem?_append_left (by simpa using hlt)]
              simpa using h2
            have hres : ∀ env' a' w', Same w w' → Holds env' a' fn.ntmps → resV env' w'.heap rs (fun vs => K (tup vs) w'.heap) →
                a'.defers = [] ∧ ∃ v, (results fn a'.tmps).run P w' = .ok v w' ∧ (∃ v_1, Ending.returned v = Ending.returned v_1 ∧ Same w w' ∧ K v_1 w'.heap) := by
              intro env' a' w' hsm hh' hk
              obtain ⟨vs, hF, hrun⟩ := runs_results (P := P) hh' fn.results.toList rs _ hr hk
              refine ⟨hh'.defers, tup vs, ?_, _, rfl, hsm, hF⟩
              change (do let vs ← fn.results.mapM (resSem a'.tmps); pure (if h : vs.size = 1 then vs[0] else .tuple vs) : Sem Value).run P w' = _
              rw [Array.mapM_eq_mapM_toList]
              simp only [Sem.run_bind, Sem.run_map, hrun, Result.andThen_ok, Sem.run_pure]
              congr 1
              cases vs with
              | nil => rfl
              | cons x r => cases r with
                | nil => rfl
                | cons y r => simp [tup]
            refine wp_of_vc hm c an s [] hs _ _ w _ _ _ _ hh h ?_ ?_ ?_
            · exact fun env' a' w' hsm hh' hk => hres env' a' w' hsm hh' hk
            · exact fun _ _ _ _ _ _ hk => hk.elim
            · exact fun env' a' w' hsm hh' hk => hres env' a' w' hsm hh' hk
        · cases hd
      · cases hd

end Go.Vc
