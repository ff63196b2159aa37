/-
  Texts put behind each other by a program: Fun, Lib, Cut, Meth.
-/
import Derived.Test.YtjlnnljohemifaaGreatK8
set_option linter.unusedVariables false
set_option linter.unusedSimpArgs false
namespace Go.Vc
abbrev tt (n : Nat) : Operand := .tmp n
abbrev ki (n : Int) : Operand := .const (.int .i64 n)
abbrev kb (b : Bool) : Operand := .const (.bool b)
abbrev s1 (d : Nat) (op : Iop) : Sop := ⟨false, none, some d, op⟩
abbrev s0 (op : Iop) : Sop := ⟨false, none, none, op⟩
abbrev sg (g : Nat) (w : Bool) (d : Nat) (op : Iop) : Sop := ⟨false, some (g, w), some d, op⟩
abbrev sq (d : Nat) (op : Iop) : Sop := ⟨true, none, some d, op⟩
inductive S where
  | skip
  | reg (ops : List Sop) (keep : List Nat)
  | regT (t : OtS) (keep : List Nat)
  | seq (a b : S)
  | cond (c : Operand) (x y : S)
  | blk (id : Nat) (b : S)
  | loop (slots : List Nat) (b : S)
  | exit (id : Nat)
  | ret
  | bad
  deriving Inhabited
def LoopV (F : Env → Hp → (Env → Hp → Prop) → Prop) (env : Env) (H : Hp) (_t : Tag F := ⟨⟩) : Prop :=
  ∃ I : Nat → Env → Hp → Prop, (∃ m, I m env H) ∧ ∀ m env H, I m env H → F env H fun env' H' => ∃ m', m' < m ∧ I m' env' H'
theorem LoopV.intro {F : Env → Hp → (Env → Hp → Prop) → Prop} {env : Env} {H : Hp} (I : Nat → Env → Hp → Prop) (m : Nat) (h0 : I m env H)
    (round : ∀ m env H, I m env H → F env H fun env' H' => ∃ m', m' < m ∧ I m' env' H') : LoopV F env H := ⟨I, ⟨m, h0⟩, round⟩
def vc (P : Program) : S → Env → Hp → (Env → Hp → Prop) → (Nat → Env → Hp → Prop) → (Env → Hp → Prop) → Prop
  | .skip, env, H, Kn, _, _ => Kn env H
  | .reg ops keep, env, H, Kn, _, _ => vcOps P (fun env' H' => now (Env.keep env' keep) fun e => Kn e H') ops env H
  | .regT t keep, env, H, Kn, _, _ => InvV H fun Inv => vcT P Inv (fun env' H' => now (Env.keep env' keep) fun e => Kn e H') t env H
  | .seq a b, env, H, Kn, Kx, Kr => vc P a env H (fun env' H' => vc P b env' H' Kn Kx Kr) Kx Kr
  | .cond c x y, env, H, Kn, Kx, Kr => guardV (Env.ev env c) fun t => Cho t (vc P x env H Kn Kx Kr) (vc P y env H Kn Kx Kr)
  | .blk id b, env, H, Kn, Kx, Kr => vc P b env H Kn (fun i env' H' => Cho (i == id) (Kn env' H') (Kx i env' H')) Kr
  | .loop L b, env, H, _, Kx, Kr => LoopV (fun env' H' again => vc P b env' H' (fun e h => again (Env.keep e L) h) Kx Kr) (Env.keep env L) H
  | .exit id, env, H, _, Kx, _ => Kx id env H
  | .ret, env, H, _, _, Kr => Kr env H
  | .bad, _, _, _, _, _ => False
section
variable (P : Program) (env : Env) (H : Hp) (Kn : Env → Hp → Prop) (Kx : Nat → Env → Hp → Prop) (Kr : Env → Hp → Prop)
@[go_sem ↓] theorem vc_skip : vc P .skip env H Kn Kx Kr = Kn env H := (rfl)
@[go_sem ↓] theorem vc_reg (ops : List Sop) (keep : List Nat) : vc P (.reg ops keep) env H Kn Kx Kr = vcOps P (fun env' H' => now (Env.keep env' keep) fun e => Kn e H') ops env H := (rfl)
@[go_sem ↓] theorem vc_regT (t : OtS) (keep : List Nat) : vc P (.regT t keep) env H Kn Kx Kr = InvV H fun Inv => vcT P Inv (fun env' H' => now (Env.keep env' keep) fun e => Kn e H') t env H := (rfl)
@[go_sem ↓] theorem vc_seq (a b : S) : vc P (.seq a b) env H Kn Kx Kr = vc P a env H (fun env' H' => vc P b env' H' Kn Kx Kr) Kx Kr := (rfl)
@[go_sem ↓] theorem vc_cond (c : Operand) (x y : S) : vc P (.cond c x y) env H Kn Kx Kr = guardV (Env.ev env c) fun t => Cho t (vc P x env H Kn Kx Kr) (vc P y env H Kn Kx Kr) := (rfl)
@[go_sem ↓] theorem vc_blk (id : Nat) (b : S) : vc P (.blk id b) env H Kn Kx Kr = vc P b env H Kn (fun i env' H' => Cho (i == id) (Kn env' H') (Kx i env' H')) Kr := (rfl)
@[go_sem ↓] theorem vc_loop (L : List Nat) (b : S) : vc P (.loop L b) env H Kn Kx Kr = LoopV (fun env' H' again => vc P b env' H' (fun e h => again (Env.keep e L) h) Kx Kr) (Env.keep env L) H := (rfl)
@[go_sem ↓] theorem vc_exit (id : Nat) : vc P (.exit id) env H Kn Kx Kr = Kx id env H := (rfl)
@[go_sem ↓] theorem vc_bad : vc P .bad env H Kn Kx Kr = False := (rfl)
@[go_sem ↓] theorem vc_ret : vc P .ret env H Kn Kx Kr = Kr env H := (rfl)
end
attribute [go_sem] cond_true cond_false
abbrev Ann := List Nat × List Nat × List Nat
def parseT : Nat → List Nat → Option (Ot × List Nat)
  | 0, _ => none
  | _ + 1, 0 :: r => some (.done, r)
  | f + 1, 1 :: i :: r => match parseT f r with
    | some (t, r) => some (.step i t, r)
    | none => none
  | f + 1, 2 :: i :: r => match parseT f r with
    | some (t, r) => match parseT f r with
      | some (u, r) => some (.fork i t u, r)
      | none => none
    | none => none
  | _ + 1, 3 :: r => some (.stop, r)
  | _ + 1, _ => none
def decS (P : Program) (n : Nat) : Code → List Ann → Option (S × List Ann)
  | .skip, an => some (.skip, an)
  | .region _ ops draw, an =>
    match an with
    | [] => none
    | (keep, q, x :: tr) :: an =>
      match decOps P n ops q 0 ops.toList with
      | none => none
      | some ss =>
        match parseT (tr.length + 2) (x :: tr) with
        | some (t, []) =>
          if draw = true ∧ ancOk ops (Region.before ops) = true ∧ okT ops (Region.before ops) (stOf ss) t (Array.replicate ops.size false) [] = true ∧ Region.noSelect ops = true then (attach ss t).map fun ts => (.regT ts keep, an) else none
        | _ => none
    | (keep, q, []) :: an =>
      match decOps P n ops q 0 ops.toList with
      | none => none
      | some ss =>
        if draw = false ∨ (ancOk ops (Region.before ops) = true ∧ swapsOk ops (Region.before ops) (clsOf ss) = true ∧ Region.noSelect ops = true) then some (.reg ss keep, an) else none
  | .seq a b, an =>
    match decS P n a an with
    | none => none
    | some (x, an) => match decS P n b an with
      | none => none
      | some (y, an) => some (.seq x y, an)
  | .cond c a b, an =>
    match decS P n a an with
    | none => none
    | some (x, an) => match decS P n b an with
      | none => none
      | some (y, an) => some (.cond c x y, an)
  | .block id a, an => match decS P n a an with
    | none => none
    | some (x, an) => some (.blk id x, an)
  | .loop a, an =>
    match an with
    | [] => none
    | (L, _, _) :: an => match decS P n a an with
      | none => none
      | some (x, an) => some (.loop L x, an)
  | .exit id, an => some (.exit id, an)
  | .ret, an => some (.ret, an)
  | .refuse _, an => some (.bad, an)
  | _, _ => none
theorem wp_loop_ghost {P : Program} {Q : Exit → Act → World → Prop} {a : Act} {w : World} {c : Code} (I : Nat → Act → World → Prop) {m : Nat} (h₀ : I m a w)
    (round : ∀ m a w, I m a w → c.wp P (Exit.then (fun a' w' => ∃ m', m' < m ∧ I m' a' w') Q) a w) : (Code.loop c).wp P Q a w := by
  intro b k cs
  have key : ∀ n a w, I n a w → ∃ e a' w', Q e a' w' ∧ Arrives P (lone (b.at a (.code c :: .inLoop c :: k)) cs w) b k cs e a' w' := by
    intro n
    induction n using Nat.strongRecOn with
    | _ n ih =>
      intro a w hI
      obtain ⟨e, a₁, w₁, hq, harr⟩ := round n a w hI b (.inLoop c :: k) cs
      cases e with
      | normal =>
        obtain ⟨m', hlt, hI₁⟩ := hq
        obtain ⟨e₂, a₂, w₂, hq₂, harr₂⟩ := ih m' hlt a₁ w₁ hI₁
        exact ⟨e₂, a₂, w₂, hq₂, .of_steps (Steps.trans harr (.one step_inLoop)) harr₂⟩
      | exit id => exact ⟨_, a₁, w₁, hq, .pass (x := .inLoop c) rfl (fun _ _ => .inl (by simp)) harr⟩
      | goto l => exact ⟨_, a₁, w₁, hq, .pass (x := .inLoop c) rfl (fun _ _ => .inl (by simp)) harr⟩
      | ret => exact ⟨_, a₁, w₁, hq, .pass (x := .inLoop c) rfl (fun _ _ => .inl (by simp)) harr⟩
      | panic ch => exact ⟨_, a₁, w₁, hq, .pass (x := .inLoop c) rfl (fun _ _ => .inl (by simp)) harr⟩
      | outgrown => exact ⟨_, a₁, w₁, hq, .pass (x := .inLoop c) rfl (fun _ _ => .inl (by simp)) harr⟩
  obtain ⟨e, a', w', hq, harr⟩ := key _ a w h₀
  exact ⟨e, a', w', hq, .of_steps (.one step_loop) harr⟩
theorem wp_of_vc {P : Program} {n : Nat} (hm : P.follows .mixedOrders = true) : ∀ (c : Code) (an : List Ann) (s : S) (an' : List Ann), decS P n c an = some (s, an') →
    ∀ (env : Env) (a : Act) (w : World) (Kn : Env → Hp → Prop) (Kx : Nat → Env → Hp → Prop) (Kr : Env → Hp → Prop) (Q : Exit → Act → World → Prop), Holds env a n → vc P s env w.heap Kn Kx Kr →
      (∀ env' a' w', Same w w' → Holds env' a' n → Kn env' w'.heap → Q .normal a' w') →
      (∀ i env' a' w', Same w w' → Holds env' a' n → Kx i env' w'.heap → Q (.exit i) a' w') →
      (∀ env' a' w', Same w w' → Holds env' a' n → Kr env' w'.heap → Q .ret a' w') → c.wp P Q a w := by
  intro c
  induction c with
  | skip =>
    intro an s an' hd env a w Kn Kx Kr Q hh h hn hx hr
    simp only [decS, Option.some.injEq, Prod.mk.injEq] at hd
    obtain ⟨rfl, rfl⟩ := hd
    exact wp_skip (hn env a w (Same.refl w) hh h)
  | region id ops draw =>
    intro an s an' hd env a w Kn Kx Kr Q hh h hn hx hr
    unfold decS at hd
    split at hd
    · cases hd
    · rename_i keep q x tr an0
      split at hd
      · cases hd
      · rename_i ss hss
        split at hd
        · rename_i t ht
          split at hd
          · rename_i hc
            obtain ⟨rfl, h1, h2, h3⟩ := hc
            cases hts : attach ss t with
            | none => rw [hts] at hd; cases hd
            | some ts =>
              rw [hts] at hd
              simp only [Option.map_some, Option.some.injEq, Prod.mk.injEq] at hd
              obtain ⟨rfl, rfl⟩ := hd
              have hl : ∀ k, ops.toList[k]? = ops[0 + k]? := fun k => by simp
              have hQ : ∀ a' w', Same w w' → (∃ env', Holds env' a' n ∧ Kn (Env.keep env' keep) w'.heap) → Q .normal a' w' := fun a' w' hs ⟨env', hh', hk⟩ => hn _ a' w' hs (hh'.keep keep) hk
              have hget := decOps_get (P := P) (ops := ops) (n := n) ops.toList 0 ss hl hss
              obtain ⟨Inv, hI, h⟩ := h
              have h4 := seqT_of_vcT (P := P) (ops := ops) (n := n) (q := q) (Inv := Inv) (ss := ss) (fun k s hk => by have := hget k s hk; simpa using this) t ts hts env a w.heap hh h
              exact wp_region_seqT (K := fun a' H' => ∃ env', Holds env' a' n ∧ Kn (Env.keep env' keep) H') hm h1 h2 h3 hI hQ (by simpa [now_eq] using h4)
          · cases hd
        · cases hd
    · rename_i keep q an0
      split at hd
      · cases hd
      · rename_i ss hss
        split at hd
        · rename_i hdraw
          simp only [Option.some.injEq, Prod.mk.injEq] at hd
          obtain ⟨rfl, rfl⟩ := hd
          have hl : ∀ k, ops.toList[k]? = ops[0 + k]? := fun k => by simp
          have hQ : ∀ a' w', Same w w' → (∃ env', Holds env' a' n ∧ Kn (Env.keep env' keep) w'.heap) → Q .normal a' w' := fun a' w' hs ⟨env', hh', hk⟩ => hn _ a' w' hs (hh'.keep keep) hk
          cases draw with
          | false =>
            have h1 := seqD_of_vc (P := P) (ops := ops) (n := n) ops.toList 0 ss hl hss env a w.heap hh h
            refine wp_region_seqD (K := fun a' H' => ∃ env', Holds env' a' n ∧ Kn (Env.keep env' keep) H') hQ ?_
            rw [List.range_eq_range']
            simpa [now_eq] using h1
          | true =>
            obtain ⟨h1, h2, h3⟩ := hdraw.resolve_left (by simp)
            have h4 := seqC_of_vc (P := P) (ops := ops) (n := n) (cls := clsOf ss) ops.toList 0 ss hl hss (fun k s hk => by simp [clsOf, hk]) env a w.heap hh h
            refine wp_region_seqC (K := fun a' H' => ∃ env', Holds env' a' n ∧ Kn (Env.keep env' keep) H') hm h1 h2 h3 hQ ?_
            rw [List.range_eq_range']
            simpa [now_eq] using h4
        · cases hd
  | seq x y ihx ihy =>
    intro an s an' hd env a w Kn Kx Kr Q hh h hn hx hr
    unfold decS at hd
    split at hd
    · cases hd
    · rename_i sx an1 hdx
      split at hd
      · cases hd
      · rename_i sy an2 hdy
        simp only [Option.some.injEq, Prod.mk.injEq] at hd
        obtain ⟨rfl, rfl⟩ := hd
        refine wp_seq (ihx an sx an1 hdx env a w _ Kx Kr _ hh h ?_ ?_ ?_)
        · intro env' a' w' hs hh' hk
          exact ihy an1 sy _ hdy env' a' w' Kn Kx Kr Q hh' hk (fun e b v hs' => hn e b v (hs.trans hs')) (fun i e b v hs' => hx i e b v (hs.trans hs')) (fun e b v hs' => hr e b v (hs.trans hs'))
        · intro i env' a' w' hs hh' hk; exact hx i env' a' w' hs hh' hk
        · intro env' a' w' hs hh' hk; exact hr env' a' w' hs hh' hk
  | cond c x y ihx ihy =>
    intro an s an' hd env a w Kn Kx Kr Q hh h hn hx hr
    unfold decS at hd
    split at hd
    · cases hd
    · rename_i sx an1 hdx
      split at hd
      · cases hd
      · rename_i sy an2 hdy
        simp only [Option.some.injEq, Prod.mk.injEq] at hd
        obtain ⟨rfl, rfl⟩ := hd
        rw [vc_cond] at h
        unfold guardV at h
        split at h
        · rename_i v hv
          obtain ⟨b, hb, h2⟩ := boolV_spec h
          subst hb
          have hc := hh.tells _ _ hv
          refine wp_cond_split hc (fun hb => ?_) (fun hb => ?_)
          · subst hb; exact ihx an sx an1 hdx env a w Kn Kx Kr Q hh h2 hn hx hr
          · subst hb; exact ihy an1 sy _ hdy env a w Kn Kx Kr Q hh h2 hn hx hr
        · exact h.elim
  | block id x ih =>
    intro an s an' hd env a w Kn Kx Kr Q hh h hn hx hr
    unfold decS at hd
    split at hd
    · cases hd
    · rename_i sx an1 hdx
      simp only [Option.some.injEq, Prod.mk.injEq] at hd
      obtain ⟨rfl, rfl⟩ := hd
      refine wp_block (ih an sx _ hdx env a w Kn _ Kr _ hh h (fun e b v hs hh' hk => hn e b v hs hh' hk) ?_ (fun e b v hs hh' hk => hr e b v hs hh' hk))
      intro i env' a' w' hs hh' hk
      show if i = id then Q .normal a' w' else Q (.exit i) a' w'
      by_cases e : i = id
      · subst e
        simp only [beq_self_eq_true, Cho] at hk
        rw [if_pos rfl]
        exact hn env' a' w' hs hh' hk
      · have : (i == id) = false := by simpa using e
        simp only [this, Cho] at hk
        rw [if_neg e]
        exact hx i env' a' w' hs hh' hk
  | loop x ih =>
    intro an s an' hd env a w Kn Kx Kr Q hh h hn hx hr
    unfold decS at hd
    split at hd
    · cases hd
    · rename_i L q tr an0
      split at hd
      · cases hd
      · rename_i sx an1 hdx
        simp only [Option.some.injEq, Prod.mk.injEq] at hd
        obtain ⟨rfl, rfl⟩ := hd
        obtain ⟨I, ⟨m, h0⟩, round⟩ := h
        refine wp_loop_ghost (fun m a' w' => Same w w' ∧ ∃ env', Holds env' a' n ∧ I m env' w'.heap) ⟨Same.refl w, _, hh.keep L, h0⟩ ?_
        rintro m a' w' ⟨hs, env', hh', hI⟩
        refine ih an0 sx _ hdx env' a' w' _ Kx Kr _ hh' (round m env' w'.heap hI) ?_ ?_ ?_
        · rintro e b v hs' hb ⟨m', hlt, hI'⟩
          exact ⟨m', hlt, hs.trans hs', _, hb.keep L, hI'⟩
        · intro i e b v hs' hb hk; exact hx i e b v (hs.trans hs') hb hk
        · intro e b v hs' hb hk; exact hr e b v (hs.trans hs') hb hk
  | exit id =>
    intro an s an' hd env a w Kn Kx Kr Q hh h hn hx hr
    simp only [decS, Option.some.injEq, Prod.mk.injEq] at hd
    obtain ⟨rfl, rfl⟩ := hd
    exact wp_exit (hx id env a w (Same.refl w) hh h)
  | ret =>
    intro an s an' hd env a w Kn Kx Kr Q hh h hn hx hr
    simp only [decS, Option.some.injEq, Prod.mk.injEq] at hd
    obtain ⟨rfl, rfl⟩ := hd
    exact wp_ret (hr env a w (Same.refl w) hh h)
  | refuse r =>
    intro an s an' hd env a w Kn Kx Kr Q hh h hn hx hr
    simp only [decS, Option.some.injEq, Prod.mk.injEq] at hd
    obtain ⟨rfl, rfl⟩ := hd
    exact h.elim
  | _ => intro an s an' hd; simp [decS] at hd
inductive Res where
  | tmp (t : Nat)
  | one (t : Nat)
  | agg (t n : Nat)
  deriving Inhabited
structure Fn where
  np : Nat
  res : List Res
  body : S
  deriving Inhabited
def resV (env : Env) (H : Hp) : List Res → (List Value → Prop) → Prop
  | [], F => F []
  | .tmp t :: r, F => withO (Env.find env t) fun v => resV env H r fun vs => F (v :: vs)
  | .one t :: r, F => withO (Env.find env t) fun p => ptrV p fun b o => withO (H.rd b) fun l => withO l[o]? fun v => resV env H r fun vs => F (v :: vs)
  | .agg t n :: r, F => withO (Env.find env t) fun p => ptrV p fun b o => withO (H.rd b) fun l => Also (o + n ≤ l.length) (resV env H r fun vs => F (.agg ((l.drop o).take n).toArray :: vs))
@[go_sem ↓] theorem resV_nil (env : Env) (H : Hp) (F : List Value → Prop) : resV env H [] F = F [] := (rfl)
@[go_sem ↓] theorem resV_tmp (env : Env) (H : Hp) (t : Nat) (r : List Res) (F : List Value → Prop) : resV env H (.tmp t :: r) F = withO (Env.find env t) fun v => resV env H r fun vs => F (v :: vs) := (rfl)
@[go_sem ↓] theorem resV_one (env : Env) (H : Hp) (t : Nat) (r : List Res) (F : List Value → Prop) :
    resV env H (.one t :: r) F = withO (Env.find env t) fun p => ptrV p fun b o => withO (H.rd b) fun l => withO l[o]? fun v => resV env H r fun vs => F (v :: vs) := (rfl)
@[go_sem ↓] theorem resV_agg (env : Env) (H : Hp) (t n : Nat) (r : List Res) (F : List Value → Prop) :
    resV env H (.agg t n :: r) F = withO (Env.find env t) fun p => ptrV p fun b o => withO (H.rd b) fun l => Also (o + n ≤ l.length) (resV env H r fun vs => F (.agg ((l.drop o).take n).toArray :: vs)) := (rfl)
def tup : List Value → Value
  | [v] => v
  | vs => .tuple vs.toArray
@[go_sem] theorem tup_one (v : Value) : tup [v] = v := (rfl)
@[go_sem] theorem tup_nil : tup [] = .tuple [].toArray := (rfl)
@[go_sem] theorem tup_two (v u : Value) (r : List Value) : tup (v :: u :: r) = .tuple (v :: u :: r).toArray := (rfl)
def argsEnv : Nat → List Value → Env
  | _, [] => []
  | i, v :: r => (i, v) :: argsEnv (i + 1) r
@[go_sem] theorem argsEnv_nil (i : Nat) : argsEnv i [] = [] := (rfl)
@[go_sem] theorem argsEnv_cons (i : Nat) (v : Value) (r : List Value) : argsEnv i (v :: r) = (i, v) :: argsEnv (i + 1) r := (rfl)
def Fn.vc (P : Program) (F : Fn) (args : List Value) (H : Hp) (K : Value → Hp → Prop) : Prop :=
  args.length = F.np ∧ Go.Vc.vc P F.body (argsEnv 0 args) H (fun env H => resV env H F.res fun vs => K (tup vs) H) (fun _ _ _ => False) (fun env H => resV env H F.res fun vs => K (tup vs) H)
def decRes (P : Program) : List ResultVar → Option (List Res)
  | [] => some []
  | .tmp t :: r => (decRes P r).map (.tmp t :: ·)
  | .cell t T :: r => if (P.info? T).isSome ∧ (P.underlying T).isSome then (decRes P r).map ((if isAggT P T then .agg t (P.cellsOf T) else .one t) :: ·) else none
def decFn (P : Program) (f : FuncId) (an : List Ann) : Option Fn :=
  match P.funcs[f]? with
  | none => none
  | some fn =>
    match fn.body with
    | none => none
    | some c =>
      match decS P fn.ntmps c an with
      | some (s, []) => if fn.params.size ≤ fn.ntmps then (decRes P fn.results.toList).map fun rs => ⟨fn.params.size, rs, s⟩ else none
      | _ => none
def resSem (tmps : Array Value) : ResultVar → Sem Value
  | .tmp t => pure (tmps.getD t undef)
  | .cell p t => do loadVar t (← asAddr (tmps.getD p undef))
theorem runs_results {P : Program} {w : World} {env : Env} {a : Act} {n : Nat} (hh : Holds env a n) : ∀ (rs : List ResultVar) (l : List Res) (F : List Value → Prop), decRes P rs = some l → resV env w.heap l F →
    ∃ vs, F vs ∧ (rs.mapM (resSem a.tmps)).run P w = .ok vs w := by
  intro rs
  induction rs with
  | nil => intro l F hl h; simp only [decRes, Option.some.injEq] at hl; subst hl; exact ⟨[], h, rfl⟩
  | cons r rs ih =>
    intro l F hl h
    cases r with
    | tmp t =>
      unfold decRes at hl
      cases hr : decRes P rs with
      | none => rw [hr] at hl; cases hl
      | some l' =>
        rw [hr] at hl
        simp only [Option.map_some, Option.some.injEq] at hl
        subst hl
        obtain ⟨v, hv, h⟩ := withO_spec h
        obtain ⟨vs, hF, hrun⟩ := ih l' _ hr h
        have e : a.tmps.getD t undef = v := by simp [hh.vals t v hv]
        exact ⟨v :: vs, hF, by rw [List.mapM_cons]; simp only [resSem, Sem.run_bind, Sem.run_pure, Result.andThen_ok, e, hrun]⟩
    | cell t T =>
      unfold decRes at hl
      split at hl
      · rename_i hc
        cases hr : decRes P rs with
        | none => rw [hr] at hl; cases hl
        | some l' =>
          rw [hr] at hl
          simp only [Option.map_some, Option.some.injEq] at hl
          subst hl
          cases hb : isAggT P T
          · rw [hb] at h
            obtain ⟨p, hp, h⟩ := withO_spec h
            obtain ⟨b, o, rfl, h⟩ := ptrV_spec h
            obtain ⟨lb, hlb, h⟩ := withO_spec h
            obtain ⟨v, hv, h⟩ := withO_spec h
            obtain ⟨vs, hF, hrun⟩ := ih l' _ hr h
            have e : a.tmps.getD t undef = .pointer (some ⟨b, o, none⟩) := by simp [hh.vals t _ hp]
            exact ⟨v :: vs, hF, by rw [List.mapM_cons]; simp only [resSem, Sem.run_bind, Sem.run_pure, Result.andThen_ok, e, asAddr, (runs_loadVar hc.1 hc.2 hlb).2 hb v hv, hrun]⟩
          · rw [hb] at h
            obtain ⟨p, hp, h⟩ := withO_spec h
            obtain ⟨b, o, rfl, h⟩ := ptrV_spec h
            obtain ⟨lb, hlb, h⟩ := withO_spec h
            obtain ⟨hn, h⟩ := h.out
            obtain ⟨vs, hF, hrun⟩ := ih l' _ hr h
            have e : a.tmps.getD t undef = .pointer (some ⟨b, o, none⟩) := by simp [hh.vals t _ hp]
            exact ⟨_, hF, by rw [List.mapM_cons]; simp only [resSem, Sem.run_bind, Sem.run_pure, Result.andThen_ok, e, asAddr, (runs_loadVar hc.1 hc.2 hlb).1 hb hn, hrun]⟩
      · cases hl
theorem find_args : ∀ (args : List Value) (i k : Nat) (v : Value), Env.find (argsEnv i args) k = some v → i ≤ k ∧ args[k - i]? = some v := by
  intro args
  induction args with
  | nil => intro i k v h; cases h
  | cons x r ih =>
    intro i k v h
    simp only [argsEnv, Env.find] at h
    by_cases e : i = k
    · subst e
      simp at h
      subst h
      exact ⟨Nat.le_refl _, by simp⟩
    · have : (i == k) = false := by simpa using e
      rw [this] at h
      obtain ⟨h1, h2⟩ := ih (i + 1) k v h
      refine ⟨by omega, ?_⟩
      rw [show k - i = (k - (i + 1)) + 1 by omega, List.getElem?_cons_succ]
      exact h2
theorem callH_of {P : Program} (hm : P.follows .mixedOrders = true) {f : FuncId} {an : List Ann} {F : Fn} (hd : decFn P f an = some F) {args : List Value} {H : Hp} {K : Value → Hp → Prop}
    (h : F.vc P args H K) : CallH P f args H K := by
  unfold decFn at hd
  split at hd
  · cases hd
  · rename_i fn hf
    split at hd
    · cases hd
    · rename_i c hb
      split at hd
      · rename_i s hs
        split at hd
        · rename_i hle
          cases hr : decRes P fn.results.toList with
          | none => rw [hr] at hd; cases hd
          | some rs =>
            rw [hr] at hd
            simp only [Option.map_some, Option.some.injEq] at hd
            subst hd
            obtain ⟨hlen, h⟩ := h
            simp only at hlen h
            intro w hw
            subst hw
            refine calls_of_wp hf hb ?_
            have hh : Holds (argsEnv 0 args) { tmps := args.toArray ++ Array.replicate (fn.ntmps - args.toArray.size) undef, defers := [] } fn.ntmps := by
              refine ⟨by simp; omega, rfl, fun k v hk => ?_⟩
              obtain ⟨_, h2⟩ := find_args args 0 k v hk
              have hlt : k < args.length := by
                rcases Nat.lt_or_ge k args.length with h' | h'
                · exact h'
                · simp [List.getElem?_eq_none h'] at h2
              rw [Array.getElem?_append_left (by simpa using hlt)]
              simpa using h2
            have hres : ∀ env' a' w', Same w w' → Holds env' a' fn.ntmps → resV env' w'.heap rs (fun vs => K (tup vs) w'.heap) →
                a'.defers = [] ∧ ∃ v, (results fn a'.tmps).run P w' = .ok v w' ∧ (∃ v_1, Ending.returned v = Ending.returned v_1 ∧ Same w w' ∧ K v_1 w'.heap) := by
              intro env' a' w' hsm hh' hk
              obtain ⟨vs, hF, hrun⟩ := runs_results (P := P) hh' fn.results.toList rs _ hr hk
              refine ⟨hh'.defers, tup vs, ?_, _, rfl, hsm, hF⟩
              change (do let vs ← fn.results.mapM (resSem a'.tmps); pure (if h : vs.size = 1 then vs[0] else .tuple vs) : Sem Value).run P w' = _
              rw [Array.mapM_eq_mapM_toList]
              simp only [Sem.run_bind, Sem.run_map, hrun, Result.andThen_ok, Sem.run_pure]
              congr 1
              cases vs with
              | nil => rfl
              | cons x r => cases r with
                | nil => rfl
                | cons y r => simp [tup]
            refine wp_of_vc hm c an s [] hs _ _ w _ _ _ _ hh h ?_ ?_ ?_
            · exact fun env' a' w' hsm hh' hk => hres env' a' w' hsm hh' hk
            · exact fun _ _ _ _ _ _ hk => hk.elim
            · exact fun env' a' w' hsm hh' hk => hres env' a' w' hsm hh' hk
        · cases hd
      · cases hd
end Go.Vc

namespace Go.Vc
theorem wrap64 {n : Int} (h0 : -9223372036854775808 ≤ n) (h1 : n ≤ 9223372036854775807) : IntKind.i64.wrap n = n := by
  have e : (2 ^ IntKind.i64.bits : Int) = 18446744073709551616 := rfl
  have e' : (2 ^ (IntKind.i64.bits - 1) : Int) = 9223372036854775808 := rfl
  unfold IntKind.wrap
  simp only [e, e', IntKind.signed, Bool.true_and, decide_eq_true_eq]
  split <;> omega
theorem wrapU64 {n : Int} (h0 : 0 ≤ n) (h1 : n ≤ 18446744073709551615) : IntKind.u64.wrap n = n := by
  have e : (2 ^ IntKind.u64.bits : Int) = 18446744073709551616 := rfl
  unfold IntKind.wrap
  simp only [e, IntKind.signed, Bool.false_and]
  rw [if_neg (by simp)]; omega
theorem wrapU32 {n : Int} (h0 : 0 ≤ n) (h1 : n ≤ 4294967295) : IntKind.u32.wrap n = n := by
  have e : (2 ^ IntKind.u32.bits : Int) = 4294967296 := rfl
  unfold IntKind.wrap
  simp only [e, IntKind.signed, Bool.false_and]
  rw [if_neg (by simp)]; omega
def Sl (H : Hp) (size : Nat) (v : Value) (n : Nat) (xs : List Value) (fp : Option Nat) : Prop :=
  xs.length = n * size ∧
  match fp with
  | none => n = 0 ∧ v = .slice none 0 0
  | some b => ∃ l c, v = .slice (some ⟨b, 0, none⟩) n c ∧ H.own b = some l ∧ n ≤ c ∧ c * size ≤ l.length ∧ l.take (n * size) = xs
theorem Sl.nil (H : Hp) (size : Nat) : Sl H size (.slice none 0 0) 0 [] none := ⟨by simp, rfl, rfl⟩
theorem Sl.ext {H H' : Hp} {size n : Nat} {v : Value} {xs : List Value} {fp : Option Nat} {S : Nat → Prop} (h : Sl H size v n xs fp) (e : Ext S H H') (hs : ∀ b, fp = some b → ¬ S b) : Sl H' size v n xs fp := by
  obtain ⟨hl, h⟩ := h
  refine ⟨hl, ?_⟩
  cases fp with
  | none => exact h
  | some b =>
    obtain ⟨l, c, h1, h2, h3⟩ := h
    exact ⟨l, c, h1, e.own h2 (hs b rfl), h3⟩
theorem Sl.lt {H : Hp} {size n : Nat} {v : Value} {xs : List Value} {b : Nat} (h : Sl H size v n xs (some b)) : b < H.size := by
  obtain ⟨_, l, c, _, h2, _⟩ := h
  exact own_lt h2
theorem Sl.lit (H : Hp) (T : TypeId) (size n : Nat) (xs : List Value) (hx : xs.length = n * size) : Sl (H.new T xs) size (.slice (some ⟨H.size, 0, none⟩) n n) n xs (some H.size) :=
  ⟨hx, xs, n, rfl, own_new H T xs, Nat.le_refl _, by omega, by rw [← hx]; simp⟩
theorem Sl.lit_at {H : Hp} {T : TypeId} {size n b : Nat} {xs : List Value} (hx : xs.length = n * size) (hb : b = H.size) : Sl (H.new T xs) size (.slice (some ⟨b, 0, none⟩) n n) n xs (some b) :=
  hb ▸ Sl.lit H T size n xs hx
def RdS (H : Hp) (size : Nat) (v : Value) (n : Nat) (xs : List Value) : Prop :=
  xs.length = n * size ∧ ((n = 0 ∧ ∃ a c, v = .slice a 0 c) ∨ ∃ b o c l, v = .slice (some ⟨b, o, none⟩) n c ∧ H.rd b = some l ∧ o + n * size ≤ l.length ∧ (l.drop o).take (n * size) = xs)
theorem Sl.rd {H : Hp} {size n : Nat} {v : Value} {xs : List Value} {fp : Option Nat} (h : Sl H size v n xs fp) : RdS H size v n xs := by
  obtain ⟨hl, h⟩ := h
  refine ⟨hl, ?_⟩
  cases fp with
  | none => exact .inl ⟨h.1, none, 0, h.2⟩
  | some b =>
    obtain ⟨l, c, h1, h2, h3, h4, h5⟩ := h
    refine .inr ⟨b, 0, c, l, h1, rd_of_own h2, ?_, by simpa using h5⟩
    have := Nat.mul_le_mul_right size h3
    omega
theorem RdS.rowOf {H : Hp} {size n : Nat} {v : Value} {xs : List Value} {F : Nat → List Value → Prop} (h : RdS H size v n xs) (hf : F n xs) : rowOf H size v F := by
  obtain ⟨hl, ⟨rfl, a, c, rfl⟩ | ⟨b, o, c, l, rfl, h2, h3, h4⟩⟩ := h
  · have : xs = [] := List.length_eq_zero_iff.1 (by omega)
    subst this
    exact hf
  · by_cases hn : n = 0
    · subst hn
      have : xs = [] := List.length_eq_zero_iff.1 (by omega)
      subst this
      exact hf
    · have e0 : (n == 0) = false := by simpa using hn
      show Cho (n == 0) _ _
      rw [e0]
      show withO (H.rd b) _
      rw [h2]
      exact ⟨h3, by rw [h4]; exact hf⟩
theorem RdS.ext {H H' : Hp} {size n : Nat} {v : Value} {xs : List Value} {S : Nat → Prop} (h : RdS H size v n xs) (e : Ext S H H') (hs : ∀ b, b < H.size → ¬ S b) : RdS H' size v n xs := by
  obtain ⟨hl, h | ⟨b, o, c, l, rfl, h2, h3⟩⟩ := h
  · exact ⟨hl, .inl h⟩
  · exact ⟨hl, .inr ⟨b, o, c, l, rfl, e.rd h2 (hs b (rd_lt h2)), h3⟩⟩
theorem RdS.fresh {H H' : Hp} {size n : Nat} {v : Value} {xs : List Value} (h : RdS H size v n xs) (e : Fresh H H') : RdS H' size v n xs := h.ext e fun _ _ h => h
theorem take_splice {l xs new : List Value} {p : Nat} (hx : l.take p = xs) (hp : xs.length = p) (hn : p + new.length ≤ l.length) : (splice l p new).take (p + new.length) = xs ++ new := by
  apply List.ext_getElem?
  intro i
  by_cases hi : i < p + new.length
  · rw [List.getElem?_take_of_lt hi, getElem?_splice new l p i hn]
    by_cases h1 : p ≤ i
    · rw [if_pos ⟨h1, hi⟩, List.getElem?_append_right (by omega), hp]
    · rw [if_neg (fun h => h1 h.1), List.getElem?_append_left (by omega), ← hx, List.getElem?_take_of_lt (by omega)]
  · rw [List.getElem?_eq_none (by simp; omega), List.getElem?_eq_none (by simp; omega)]
theorem Sl.append {H : Hp} {T size bytes n m : Nat} {z : List Value} {s x : Value} {xs ys : List Value} {fp : Option Nat} {K : Value → Hp → Prop} (h : Sl H size s n xs fp) (hx : RdS H size x m ys)
    (hz : z.length = size) (h1 : allOne ys) (hb : (n + m) * bytes ≤ 2 ^ 47)
    (hk : ∀ v' H' fp', Sl H' size v' (n + m) (xs ++ ys) fp' → Ext (fun b => fp = some b) H H' → (fp' = fp ∨ ∃ b, fp' = some b ∧ H.size ≤ b ∧ b < H'.size) → K v' H') :
    AppendV T size bytes z s x H K := by
  obtain ⟨hl, h⟩ := h
  have key : ∀ base c, s = .slice base n c → (∀ b, base = some b → fp ≠ none) → AppendV T size bytes z s x H K := by
    intro base c hs hbase
    subst hs
    refine RdS.rowOf hx (F := fun m new => (n + m ≤ c → m = 0 → K (.slice base n c) H) ∧
      (n + m ≤ c → m ≠ 0 → baseV base fun b o => withO (orO (H.own b) (H.mrk b)) fun l => Also (o + (n + m) * size ≤ l.length ∧ allOne new) (K (.slice base (n + m) c) (H.wr b (splice l (o + n * size) new)))) ∧
      (c < n + m → Builtin.nextslicecap (n + m) c * bytes ≤ 2 ^ 48 ∧
        rowOf H size (.slice base n c) fun _ old => ∀ c', n + m ≤ c' → K (.slice (some ⟨H.size, 0, none⟩) (n + m) c') (H.new T (old ++ new ++ padZ z (c' - (n + m)))))) ?_
    refine ⟨fun hle hm => ?_, fun hle hm => ?_, fun hlt => ⟨?_, ?_⟩⟩
    · subst hm
      have hy : ys = [] := List.length_eq_zero_iff.1 (by have := hx.1; omega)
      subst hy
      exact hk _ _ fp (by rw [List.append_nil]; exact ⟨by simpa using hl, h⟩) (Ext.refl _ _) (.inl rfl)
    · cases fp with
      | none =>
        obtain ⟨rfl, hv⟩ := h
        injection hv with e1 e2 e3
        omega
      | some b =>
        obtain ⟨l, c', hv, h2, h3, h4, h5⟩ := h
        injection hv with e1 e2 e3
        subst e1; subst e3
        show withO (orO (H.own b) (H.mrk b)) _
        rw [h2]
        have h6 := Nat.mul_le_mul_right size hle
        refine ⟨⟨by omega, h1⟩, ?_⟩
        rw [Nat.zero_add]
        refine hk _ _ (some b) ⟨by simp [hl, hx.1, Nat.add_mul], _, c, rfl, own_wr_same h2, hle, by rw [length_splice]; exact h4, ?_⟩ ((Ext.refl (fun x => some b = some x) H).wr (fun _ => rfl) _) (.inl rfl)
        have := take_splice (new := ys) h5 hl (by rw [hx.1]; rw [Nat.add_mul] at h6; omega)
        rw [hx.1] at this
        rw [Nat.add_mul]; exact this
    · have h2 : Builtin.nextslicecap (n + m) c ≤ 2 * (n + m) := nextslicecap_le hlt
      have h3 := Nat.mul_le_mul_right bytes h2
      rw [Nat.mul_assoc] at h3
      omega
    · refine RdS.rowOf (n := n) (xs := xs) (Sl.rd (fp := fp) ⟨hl, h⟩) ?_
      intro c' hc'
      refine hk _ _ (some H.size) ⟨by simp [hl, hx.1, Nat.add_mul], _, c', rfl, own_new _ _ _, hc', ?_, ?_⟩ ((Ext.refl _ _).new _ _) (.inr ⟨_, rfl, Nat.le_refl _, by rw [size_new]; omega⟩)
      · simp only [List.length_append, hl, hx.1, length_padZ, hz]
        rw [← Nat.add_mul, ← Nat.add_mul]
        exact Nat.le_of_eq (by congr 1; omega)
      · rw [show (n + m) * size = (xs ++ ys).length by simp [hl, hx.1, Nat.add_mul]]
        exact List.take_left
  cases fp with
  | none => exact key none 0 (by obtain ⟨rfl, hv⟩ := h; exact hv) (fun b hb => by cases hb)
  | some b =>
    obtain ⟨l, c, hv, _⟩ := h
    exact key (some ⟨b, 0, none⟩) c hv (fun _ _ => by simp)
theorem take_set' (l : List Value) (i n : Nat) (x : Value) : (l.set i x).take n = (l.take n).set i x := by
  apply List.ext_getElem?
  intro k
  by_cases hk : k < n
  · rw [List.getElem?_take_of_lt hk]
    by_cases h : i = k
    · subst h
      by_cases hl : i < l.length
      · rw [List.getElem?_set_self hl, List.getElem?_set_self (by simp; omega)]
      · rw [List.getElem?_eq_none (by simp; omega), List.getElem?_eq_none (by simp; omega)]
    · rw [List.getElem?_set_ne h, List.getElem?_set_ne h, List.getElem?_take_of_lt hk]
  · rw [List.getElem?_eq_none (by simp; omega), List.getElem?_eq_none (by simp; omega)]
theorem Sl.set1 {H : Hp} {n c s : Nat} {xs l : List Value} (h : Sl H 1 (.slice (some ⟨s, 0, none⟩) n c) n xs (some s)) (hl : H.own s = some l) (i : Nat) (x : Value) :
    Sl (H.wr s (l.set i x)) 1 (.slice (some ⟨s, 0, none⟩) n c) n (xs.set i x) (some s) := by
  obtain ⟨h1, l', c', hv, h2, h3, h4, h5⟩ := h
  rw [hl] at h2
  injection h2 with h2
  subst h2
  injection hv with _ _ hc
  subst hc
  exact ⟨by simpa using h1, _, c, rfl, own_wr_same hl, h3, by simpa using h4, by rw [take_set', h5]⟩
theorem Sl.get {H : Hp} {n c s size : Nat} {xs l : List Value} (h : Sl H size (.slice (some ⟨s, 0, none⟩) n c) n xs (some s)) (hl : H.own s = some l) {i : Nat} {x : Value} (hx : xs[i]? = some x) : l[i]? = some x := by
  obtain ⟨h1, l', c', hv, h2, h3, h4, h5⟩ := h
  rw [hl] at h2
  injection h2 with h2
  subst h2
  rw [← h5, List.getElem?_take] at hx
  split at hx
  · exact hx
  · cases hx
def getI (es : List MapEntry) (i : Int) : Option Value := (es.find? fun e => match e.key with | .int .i64 j => i == j | _ => false).map (·.val)
def keysI (es : List MapEntry) : Prop := ∃ ks : List Int, es.map (·.key) = ks.map (Value.int .i64) ∧ ks.Nodup
def IMap (H : Hp) (b : Nat) (f : Int → Option Value) : Prop := ∃ es k, H.mp b = some (es, k) ∧ keysI es ∧ ∀ i, getI es i = f i
theorem IMap.new (H : Hp) : IMap H.newm H.size (fun _ => none) := ⟨[], 0, mp_newm H, ⟨[], rfl, List.nodup_nil⟩, fun _ => rfl⟩
theorem IMap.ext {H H' : Hp} {b : Nat} {f : Int → Option Value} {S : Nat → Prop} (h : IMap H b f) (e : Ext S H H') (hs : ¬ S b) : IMap H' b f := by
  obtain ⟨es, k, h1, h2⟩ := h
  exact ⟨es, k, e.mp h1 hs, h2⟩
theorem IMap.lt {H : Hp} {b : Nat} {f : Int → Option Value} (h : IMap H b f) : b < H.size := by
  obtain ⟨es, k, h1, h2⟩ := h
  exact mp_lt h1
theorem getI_cons (e : MapEntry) (es : List MapEntry) (j i : Int) (he : e.key = .int .i64 j) : getI (e :: es) i = if i = j then some e.val else getI es i := by
  unfold getI
  rw [List.find?_cons]
  simp only [he]
  by_cases h : i = j
  · simp [h]
  · have : (i == j) = false := by simpa using h
    rw [this, if_neg h]
theorem keysI_cons {e : MapEntry} {es : List MapEntry} (h : keysI (e :: es)) : ∃ j, e.key = .int .i64 j ∧ keysI es ∧ ∀ x ∈ es, x.key ≠ .int .i64 j := by
  obtain ⟨ks, h1, h2⟩ := h
  cases ks with
  | nil => simp at h1
  | cons j ks =>
    simp only [List.map_cons, List.cons.injEq] at h1
    rw [List.nodup_cons] at h2
    refine ⟨j, h1.1, ⟨ks, h1.2, h2.2⟩, fun x hx hk => h2.1 ?_⟩
    have hm : x.key ∈ es.map (·.key) := List.mem_map.2 ⟨x, hx, rfl⟩
    rw [h1.2, hk] at hm
    obtain ⟨y, hy, e⟩ := List.mem_map.1 hm
    injection e with _ e
    exact e ▸ hy
theorem findK_int (i : Int) : ∀ (es : List MapEntry), keysI es → ∀ n : Nat,
    (getI es i = none ∧ findK .int (.int .i64 i) es n = some none) ∨
    ∃ j e, es[j]? = some e ∧ e.key = .int .i64 i ∧ getI es i = some e.val ∧ findK .int (.int .i64 i) es n = some (some (n + j, e.val)) := by
  intro es
  induction es with
  | nil => intro _ n; exact .inl ⟨rfl, rfl⟩
  | cons e es ih =>
    intro h n
    obtain ⟨j, hj, hes, hne⟩ := keysI_cons h
    have hq : eqV .int (.int .i64 i) e.key = some (decide (i = j)) := by rw [hj]; simp [eqV, simpleEq]
    by_cases hij : i = j
    · subst hij
      refine .inr ⟨0, e, rfl, hj, by rw [getI_cons e es i i hj, if_pos rfl], ?_⟩
      unfold findK
      rw [hq]; simp
    · have h2 : findK .int (.int .i64 i) (e :: es) n = findK .int (.int .i64 i) es (n + 1) := by
        rw [findK, hq, decide_eq_false hij]
      have h3 : getI (e :: es) i = getI es i := by rw [getI_cons e es j i hj, if_neg hij]
      rw [h2, h3]
      rcases ih hes (n + 1) with ⟨h4, h5⟩ | ⟨k, e', h4, h5, h6, h7⟩
      · exact .inl ⟨h4, h5⟩
      · exact .inr ⟨k + 1, e', by simpa using h4, h5, h6, by rw [h7]; congr 3; omega⟩
theorem IMap.look {H : Hp} {b : Nat} {f : Int → Option Value} (h : IMap H b f) (i : Int) (F : Option Value → Prop) : lookV H .int (some b) (.int .i64 i) F = F (f i) := by
  obtain ⟨es, k, h1, h2, h3⟩ := h
  unfold lookV
  simp only [h1, withO_some]
  rcases findK_int i es h2 0 with ⟨h4, h5⟩ | ⟨j, e, h4, h5, h6, h7⟩
  · rw [h5, ← h3 i, h4]; rfl
  · rw [h7, ← h3 i, h6]; rfl
def setF (f : Int → Option Value) (i : Int) (v : Value) : Int → Option Value := fun j => if j = i then some v else f j
def delF (f : Int → Option Value) (i : Int) : Int → Option Value := fun j => if j = i then none else f j
theorem getI_append (es : List MapEntry) (e : MapEntry) (i j : Int) (hj : e.key = .int .i64 j) (hn : getI es j = none) : getI (es ++ [e]) i = if i = j then some e.val else getI es i := by
  unfold getI at *
  rw [List.find?_append]
  by_cases h : i = j
  · subst h
    have hx : (es.find? fun e => match e.key with | .int .i64 j => i == j | _ => false) = none := by simpa using hn
    rw [hx]
    simp [hj]
  · rw [if_neg h]
    have : ([e].find? fun e => match e.key with | .int .i64 j => i == j | _ => false) = none := by simp [hj, h]
    rw [this]
    simp
theorem getI_none {es : List MapEntry} {i : Int} (h : getI es i = none) : ∀ e ∈ es, e.key ≠ .int .i64 i := by
  intro e he hk
  unfold getI at h
  simp only [Option.map_eq_none_iff, List.find?_eq_none] at h
  have := h e he
  simp [hk] at this
theorem keysI_modify {es : List MapEntry} (h : keysI es) (j : Nat) (e : MapEntry) (hj : es[j]? = some e) (v : Value) (i : Int) (hk : e.key = .int .i64 i) :
    keysI (es.modify j fun x => { x with key := .int .i64 i, val := v }) := by
  obtain ⟨ks, h1, h2⟩ := h
  refine ⟨ks, ?_, h2⟩
  rw [← h1]
  apply List.ext_getElem?
  intro n
  rw [List.getElem?_map, List.getElem?_map, List.getElem?_modify]
  by_cases hn : j = n
  · subst hn; simp [hj, hk]
  · simp [hn]
theorem getI_modify : ∀ (es : List MapEntry), keysI es → ∀ (j : Nat) (e : MapEntry) (v : Value) (i : Int), es[j]? = some e → e.key = .int .i64 i → ∀ n,
    getI (es.modify j fun x => { x with key := .int .i64 i, val := v }) n = if n = i then some v else getI es n := by
  intro es
  induction es with
  | nil => intro _ j e v i hj; simp at hj
  | cons x es ih =>
    intro h j e v i hj hk n
    obtain ⟨q, hq, hes, hne⟩ := keysI_cons h
    cases j with
    | zero =>
      simp only [List.getElem?_cons_zero, Option.some.injEq] at hj
      subst hj
      have : q = i := by rw [hq] at hk; injection hk
      subst this
      rw [List.modify_zero_cons, getI_cons _ es q n rfl, getI_cons x es q n hq]
      split <;> rfl
    | succ j =>
      rw [List.modify_succ_cons, getI_cons x _ q n hq, getI_cons x es q n hq, ih hes j e v i (by simpa using hj) hk n]
      by_cases h1 : n = q
      · subst h1
        have hm : e ∈ es := List.mem_of_getElem? (by simpa using hj)
        have : n ≠ i := fun e' => hne e hm (by rw [hk, e'])
        simp [this]
      · simp [h1]
theorem getI_erase : ∀ (es : List MapEntry), keysI es → ∀ (j : Nat) (e : MapEntry) (i : Int), es[j]? = some e → e.key = .int .i64 i → keysI (es.eraseIdx j) ∧ ∀ n, getI (es.eraseIdx j) n = if n = i then none else getI es n := by
  intro es
  induction es with
  | nil => intro _ j e i hj; simp at hj
  | cons x es ih =>
    intro h j e i hj hk
    have h' := h
    obtain ⟨q, hq, hes, hne⟩ := keysI_cons h
    cases j with
    | zero =>
      simp only [List.getElem?_cons_zero, Option.some.injEq] at hj
      subst hj
      have : q = i := by rw [hq] at hk; injection hk
      subst this
      refine ⟨hes, fun n => ?_⟩
      rw [List.eraseIdx_zero, List.tail_cons, getI_cons x es q n hq]
      by_cases hn : n = q
      · subst hn
        rw [if_pos rfl]
        unfold getI
        simp only [Option.map_eq_none_iff, List.find?_eq_none]
        intro e' he'
        obtain ⟨ks, h1, _⟩ := hes
        have hm : e'.key ∈ es.map (·.key) := List.mem_map.2 ⟨e', he', rfl⟩
        rw [h1] at hm
        obtain ⟨y, _, ey⟩ := List.mem_map.1 hm
        have := hne e' he'
        rw [← ey] at this ⊢
        simp only [beq_iff_eq]
        intro e2
        exact this (by rw [e2])
      · simp [hn]
    | succ j =>
      obtain ⟨h1, h2⟩ := ih hes j e i (by simpa using hj) hk
      have hm : e ∈ es := List.mem_of_getElem? (by simpa using hj)
      have hqi : q ≠ i := fun e' => hne e hm (by rw [hk, e'])
      refine ⟨?_, fun n => ?_⟩
      · obtain ⟨ks, e1, e2⟩ := h1
        refine ⟨q :: ks, by rw [List.eraseIdx_cons_succ, List.map_cons, List.map_cons, hq, e1], ?_⟩
        rw [List.nodup_cons]
        refine ⟨fun hmem => ?_, e2⟩
        have : Value.int .i64 q ∈ (es.eraseIdx j).map (·.key) := by rw [e1]; exact List.mem_map.2 ⟨q, hmem, rfl⟩
        obtain ⟨y, hy, ey⟩ := List.mem_map.1 this
        exact hne y (List.mem_of_mem_eraseIdx hy) ey
      · rw [List.eraseIdx_cons_succ, getI_cons x _ q n hq, getI_cons x es q n hq, h2 n]
        by_cases h3 : n = q
        · subst h3; simp [hqi]
        · simp [h3]
theorem sameBits_int (n : Nat) (i : Int) : Instr.sameBits (n + 1) (.int .i64 i) (.int .i64 i) = true := by simp [Instr.sameBits]
theorem IMap.upd {H : Hp} {b : Nat} {f : Int → Option Value} (h : IMap H b f) {i : Int} {v : Value} {F : Hp → Prop} (hk : ∀ H', IMap H' b (setF f i v) → Ext (fun x => x = b) H H' → F H') :
    updV H .int b (.int .i64 i) v F := by
  obtain ⟨es, k, h1, h2, h3⟩ := h
  unfold updV
  simp only [h1, withO_some]
  have hext : ∀ es' k', Ext (fun x => x = b) H (H.wrm b es' k') := fun es' k' => (Ext.refl (fun x => x = b) H).wrm (fun _ => rfl) _ _
  rcases findK_int i es h2 0 with ⟨h4, h5⟩ | ⟨j, e, h4, h5, h6, h7⟩
  · rw [h5]
    refine ⟨rfl, hk _ ⟨_, _, mp_wrm_same h1, ?_, fun n => ?_⟩ (hext _ _)⟩
    · obtain ⟨ks, e1, e2⟩ := h2
      refine ⟨ks ++ [i], by simp [putE, e1], ?_⟩
      rw [List.nodup_append]
      refine ⟨e2, by simp, fun a ha c hc hac => ?_⟩
      simp only [List.mem_singleton] at hc
      subst hc; subst hac
      have : Value.int .i64 a ∈ es.map (·.key) := by rw [e1]; exact List.mem_map.2 ⟨a, ha, rfl⟩
      obtain ⟨y, hy, ey⟩ := List.mem_map.1 this
      exact getI_none h4 y hy ey
    · rw [putE, getI_append es _ n i rfl h4]
      unfold setF
      split <;> first | rfl | exact h3 n
  · rw [h7]
    refine ⟨?_, hk _ ⟨_, _, mp_wrm_same h1, keysI_modify h2 _ e (by simpa using h4) _ _ h5, fun n => ?_⟩ (hext _ _)⟩
    · simp only [staysOk, Nat.zero_add, h4, Option.map_some, Option.getD_some, h5]
      exact sameBits_int 9999 i
    · rw [putE, Nat.zero_add, getI_modify es h2 j e v i h4 h5 n]
      unfold setF
      split <;> first | rfl | exact h3 n
theorem IMap.del {H : Hp} {b : Nat} {f : Int → Option Value} (h : IMap H b f) {i : Int} {F : Hp → Prop} (hk : ∀ H', IMap H' b (delF f i) → Ext (fun x => x = b) H H' → F H') :
    delV H .int b (.int .i64 i) F := by
  obtain ⟨es, k, h1, h2, h3⟩ := h
  unfold delV
  simp only [h1, withO_some]
  have hext : ∀ es' k', Ext (fun x => x = b) H (H.wrm b es' k') := fun es' k' => (Ext.refl (fun x => x = b) H).wrm (fun _ => rfl) _ _
  rcases findK_int i es h2 0 with ⟨h4, h5⟩ | ⟨j, e, h4, h5, h6, h7⟩
  · rw [h5]
    refine hk _ ⟨_, _, mp_wrm_same h1, h2, fun n => ?_⟩ (hext _ _)
    rw [dropE, h3 n]
    unfold delF
    by_cases hn : n = i
    · subst hn; rw [if_pos rfl, ← h3 n]; exact h4
    · rw [if_neg hn]
  · rw [h7]
    obtain ⟨e1, e2⟩ := getI_erase es h2 j e i h4 h5
    refine hk _ ⟨_, _, mp_wrm_same h1, by rw [dropE, Nat.zero_add]; exact e1, fun n => ?_⟩ (hext _ _)
    rw [dropE, Nat.zero_add, e2 n]
    unfold delF
    split <;> first | rfl | exact h3 n
end Go.Vc

namespace Go.Vc
section
variable {P : Program} {ev : Ev} {H : Hp} {K K' : Value → Hp → Prop}
theorem lookV_mono {s : Shape} {r : Option Nat} {k : Value} {F G : Option Value → Prop} (h : lookV H s r k F) (hk : ∀ x, F x → G x) : lookV H s r k G := by
  unfold lookV at *
  cases r with
  | none => exact hk _ h
  | some b => exact withO_mono h fun m h => withO_mono h fun x => hk _
theorem AppendV_mono {T size bytes : Nat} {z : List Value} {s x : Value} (h : AppendV T size bytes z s x H K) (hk : ∀ v H', K v H' → K' v H') : AppendV T size bytes z s x H K' := by
  refine sliceV_mono h fun base n c h => rowOf_mono h fun m new h => ?_
  obtain ⟨h1, h2, h3⟩ := h
  exact ⟨fun a b => hk _ _ (h1 a b), fun a b => baseV_mono (h2 a b) fun b o h => withO_mono h fun l h => Also_mono h (hk _ _), fun a => ⟨(h3 a).1, rowOf_mono (h3 a).2 fun n l h c' hc => hk _ _ (h c' hc)⟩⟩
theorem iop_mono (i : Iop) (h : i.vc P ev H K) (hk : ∀ v H', K v H' → K' v H') : i.vc P ev H K' := by
  cases hc : i.cls with
  | pure => exact vc_mono i hc h hk
  | quiet =>
    cases i <;> simp [Iop.cls] at hc <;> simp only [Iop.vc] at h ⊢
    · exact withO_mono h fun v h => ptrV_mono h fun b o h => withO_mono h fun l h => withO_mono h fun v => hk _ _
    · exact withO_mono h fun v h => ptrV_mono h fun b o h => withO_mono h fun l h => Also_mono h (hk _ _)
    · exact withO_mono h fun v h => withO_mono h fun v h => mapV_mono h fun r h => Also_mono h fun h => lookV_mono h fun x => hk _ _
    · refine withO_mono h fun v h => mapV_mono h fun r h => ?_
      unfold lenMV at *
      cases r with
      | none => exact hk _ _ h
      | some b => exact withO_mono h fun m => hk _ _
    · exact withO_mono h fun v h => bytesV_mono h fun l => hk _ _
  | acts =>
    cases i <;> simp [Iop.cls] at hc <;> simp only [Iop.vc] at h ⊢
    · exact withO_mono h fun v => hk _ _
    · exact hk _ _ h
    · exact fillV_mono h fun l => hk _ _
    · exact withO_mono h fun v h => ptrV_mono h fun b o h => withO_mono h fun v h => withO_mono h fun l h => Also_mono h fun h => Also_mono h fun h => Also_mono h (hk _ _)
    · exact hk _ _ h
    · exact withO_mono h fun v h => withO_mono h fun v h => intV_mono h fun n h => intV_mono h fun c h => Also_mono h (hk _ _)
    · exact withO_mono h fun v h => withO_mono h fun v h => withO_mono h fun v h => mapV_mono h fun r h => withO_mono h fun b h => Also_mono h fun h => withO_mono h fun es h => withO_mono h fun x h => Also_mono h (hk _ _)
    · exact evs_mono h fun l h => CallH.mono h hk
    · refine withO_mono h fun v h => evs_mono h fun l h => ?_
      unfold DynH at *
      split at h
      · exact ⟨h.1, h.2.mono hk⟩
      · exact h.elim
    · refine withO_mono h fun v h => evs_mono h fun l h => ?_
      obtain ⟨T, v, f, rv, e, hm, hc⟩ := h
      exact ⟨T, v, f, rv, e, hm, hc.mono hk⟩
    · exact withO_mono h fun v h => withO_mono h fun v h => AppendV_mono h hk
    · exact withO_mono h fun v h => withO_mono h fun v h => mapV_mono h fun r h => withO_mono h fun b h => Also_mono h fun h => withO_mono h fun es h => withO_mono h fun x => hk _ _
    · exact withO_mono h fun v h => sliceV_mono h fun a n c h => by
        rcases h with ⟨h1, h2⟩ | ⟨h1, b, o, l, h2, h3, h4, h5, h6⟩
        · exact .inl ⟨h1, hk _ _ h2⟩
        · exact .inr ⟨h1, b, o, l, h2, h3, h4, h5, hk _ _ h6⟩
    · refine withO_mono h fun v h => ?_
      unfold stringV at *
      split at h
      · exact fun c hc => hk _ _ (h c hc)
      · exact h.elim
    · exact evs_mono h fun l h => by obtain ⟨v, h1, h2⟩ := h; exact ⟨v, h1, hk _ _ h2⟩
theorem sop_mono (s : Sop) (h : s.vc P ev H K) (hk : ∀ v H', K v H' → K' v H') : s.vc P ev H K' := by
  unfold Sop.vc at *
  cases hq : s.quiet
  · rw [hq] at h; exact iop_mono s.op h hk
  · rw [hq] at h; obtain ⟨v, h1, h2⟩ := h; exact ⟨v, h1, hk _ _ h2⟩
theorem gV_mono {o : Option Value} {F F' : Bool → Prop} {N N' : Prop} (h : gV o F N) (hf : ∀ b, F b → F' b) (hn : N → N') : gV o F' N' := by
  rcases gV_spec h with ⟨b, rfl, h⟩ | ⟨vs, rfl, h⟩
  · exact hf b h
  · exact hn h
theorem Cho_mono {b : Bool} {A A' B B' : Prop} (h : Cho b A B) (ha : A → A') (hb : B → B') : Cho b A' B' := by
  cases b
  · exact hb h
  · exact ha h
theorem vcOps_mono {F F' : Env → Hp → Prop} (hk : ∀ e H, F e H → F' e H) : ∀ (l : List Sop) (env : Env) (H : Hp), vcOps P F l env H → vcOps P F' l env H := by
  intro l
  induction l with
  | nil => intro env H h; exact hk _ _ h
  | cons s l ih =>
    intro env H h
    unfold vcOps at h ⊢
    cases hg : s.guard with
    | none => rw [hg] at h; exact sop_mono s h fun v H' => ih _ _
    | some g =>
      rw [hg] at h
      exact gV_mono h (fun b h => Cho_mono h (fun h => sop_mono s h fun v H' => ih _ _) (ih _ _)) (ih _ _)
theorem grdV_mono {s : Sop} {env : Env} {F F' N N' : Env → Prop} (h : grdV s env F N) (hf : ∀ e, F e → F' e) (hn : ∀ e, N e → N' e) : grdV s env F' N' := by
  unfold grdV at *
  cases hg : s.guard with
  | none => rw [hg] at h; exact hf _ h
  | some g => rw [hg] at h; exact gV_mono h (fun b h => Cho_mono h (hf _) (hn _)) (hn _)
theorem vcT_mono {Inv : Hp → Prop} {F F' : Env → Hp → Prop} (hk : ∀ e H, F e H → F' e H) : ∀ (t : OtS) (env : Env) (H : Hp), vcT P Inv F t env H → vcT P Inv F' t env H := by
  intro t
  induction t with
  | done => intro env H h; exact hk _ _ h
  | stop => intro env H h; trivial
  | pur s t ih => intro env H h; exact grdV_mono h (fun e h => iop_mono s.op h fun v H' => ih _ _) (fun e => ih _ _)
  | stb s t ih => intro env H h; exact grdV_mono h (fun e h => by obtain ⟨v, h1, h2⟩ := h; exact ⟨v, h1, ih _ _ h2⟩) (fun e => ih _ _)
  | fork s t r ih ihr => intro env H h; exact ⟨grdV_mono h.1 (fun e h => iop_mono s.op h fun v H' h => Also_mono h (ih _ _)) (fun e => ih _ _), ihr _ _ h.2⟩
theorem vc_mono_all : ∀ (s : S) (env : Env) (H : Hp) (Kn Kn' : Env → Hp → Prop) (Kx Kx' : Nat → Env → Hp → Prop) (Kr Kr' : Env → Hp → Prop), (∀ e H, Kn e H → Kn' e H) → (∀ i e H, Kx i e H → Kx' i e H) → (∀ e H, Kr e H → Kr' e H) →
    vc P s env H Kn Kx Kr → vc P s env H Kn' Kx' Kr' := by
  intro s
  induction s with
  | skip => intro env H Kn Kn' Kx Kx' Kr Kr' hn hx hr h; exact hn _ _ h
  | reg ops keep => intro env H Kn Kn' Kx Kx' Kr Kr' hn hx hr h; exact vcOps_mono (fun e H h => hn _ _ h) ops env H h
  | regT t keep => intro env H Kn Kn' Kx Kx' Kr Kr' hn hx hr h; obtain ⟨Inv, hI, h⟩ := h; exact ⟨Inv, hI, vcT_mono (fun e H h => hn _ _ h) t env H h⟩
  | seq a b iha ihb => intro env H Kn Kn' Kx Kx' Kr Kr' hn hx hr h; exact iha env H _ _ _ _ _ _ (fun e H h => ihb e H _ _ _ _ _ _ hn hx hr h) hx hr h
  | cond c x y ihx ihy =>
    intro env H Kn Kn' Kx Kx' Kr Kr' hn hx hr h
    simp only [vc] at *
    unfold guardV at *
    split at h
    · exact boolV_mono h fun b h => Cho_mono h (ihx _ _ _ _ _ _ _ _ hn hx hr) (ihy _ _ _ _ _ _ _ _ hn hx hr)
    · exact h.elim
  | blk id b ih => intro env H Kn Kn' Kx Kx' Kr Kr' hn hx hr h; exact ih env H _ _ _ _ _ _ hn (fun i e H h => Cho_mono h (hn _ _) (hx _ _ _)) hr h
  | loop L b ih =>
    intro env H Kn Kn' Kx Kx' Kr Kr' hn hx hr h
    obtain ⟨I, h0, round⟩ := h
    exact ⟨I, h0, fun m env H hI => ih env H _ _ _ _ _ _ (fun e H h => h) hx hr (round m env H hI)⟩
  | exit id => intro env H Kn Kn' Kx Kx' Kr Kr' hn hx hr h; exact hx _ _ _ h
  | ret => intro env H Kn Kn' Kx Kx' Kr Kr' hn hx hr h; exact hr _ _ h
  | bad => intro env H Kn Kn' Kx Kx' Kr Kr' hn hx hr h; exact h.elim
def cutS (a b : S) : S := .seq a b
theorem vc_cut {a b : S} {env : Env} {H : Hp} {Kn : Env → Hp → Prop} {Kx : Nat → Env → Hp → Prop} {Kr : Env → Hp → Prop} (M : Env → Hp → Prop) (h1 : vc P a env H M Kx Kr) (h2 : ∀ e H', M e H' → vc P b e H' Kn Kx Kr) : vc P (cutS a b) env H Kn Kx Kr :=
  vc_mono_all a env H _ _ _ _ _ _ h2 (fun _ _ _ h => h) (fun _ _ h => h) h1
end
end Go.Vc

namespace Go.Vc
def methOf (P : Program) (T : TypeId) (name : String) : Option (List FieldStep × Option (FuncId × Bool)) :=
  ((P.info? T).bind fun i => i.methods.find? (·.name == name)).map fun m => (m.path.toList, m.func)
theorem methOf_spec {P : Program} {T : TypeId} {name : String} {p : List FieldStep} {f : Option (FuncId × Bool)} (h : methOf P T name = some (p, f)) :
    ∃ i m, P.info? T = some i ∧ i.methods.find? (·.name == name) = some m ∧ m.path.toList = p ∧ m.func = f := by
  unfold methOf at h
  cases hi : P.info? T with
  | none => rw [hi] at h; cases h
  | some i =>
    rw [hi] at h
    simp only [Option.bind_some] at h
    cases hm : i.methods.find? (·.name == name) with
    | none => rw [hm] at h; cases h
    | some m =>
      rw [hm] at h
      simp only [Option.map_some, Option.some.injEq, Prod.mk.injEq] at h
      exact ⟨i, m, rfl, hm, h.1, h.2⟩
def meth0 (P : Program) (T : TypeId) (name : String) : Option FuncId :=
  match methOf P T name, P.underlying T with
  | some ([], some (f, true)), some (.pointer _) => if callable P f then some f else none
  | _, _ => none
theorem methR0 {P : Program} {H : Hp} {T : TypeId} {v : Value} {name : String} {f : FuncId} (h : meth0 P T name = some f) : MethR P H T v name f v := by
  unfold meth0 at h
  split at h
  · rename_i f' e h1 hu
    split at h
    · rename_i hc
      injection h with h
      subst h
      refine ⟨hc, fun w hw => ?_⟩
      obtain ⟨i, m, g1, g2, g3, g4⟩ := methOf_spec h1
      show (method ((P.types.size + 99) + 1) T v name).run P w = _
      unfold method
      simp [runs_typeInfo g1, g2, g3, g4, follow, receiverAt, run_underlying hu, Place.get]
    · cases h
  · cases h
def meth1 (P : Program) (T : TypeId) (name : String) : Option (Nat × FuncId) :=
  match methOf P T name with
  | some ([s], some (f, true)) =>
    match s.deref, P.underlying s.struct with
    | true, some (.struct fs) =>
      match fs[s.index]? with
      | some fd => match P.underlying fd.type with
        | some (.pointer _) => if (P.info? fd.type).isSome ∧ P.cellsOf fd.type ≠ 0 ∧ callable P f = true then some (fd.offset, f) else none
        | _ => none
      | none => none
    | _, _ => none
  | _ => none
theorem runs_fieldPlace {P : Program} {fd : Field} (hi : (P.info? fd.type).isSome = true) (h0 : P.cellsOf fd.type ≠ 0) (a : Addr) (w : World) : (fieldPlace a fd).run P w = .ok (a.add fd.offset) w := by
  simp [fieldPlace, runs_sizeOf hi, h0]
theorem methR1 {P : Program} {H : Hp} {T : TypeId} {b o off : Nat} {l : List Value} {rv : Value} {name : String} {f : FuncId} (h : meth1 P T name = some (off, f)) (hr : H.rd b = some l) (hv : l[o + off]? = some rv) :
    MethR P H T (.pointer (some ⟨b, o, none⟩)) name f rv := by
  unfold meth1 at h
  split at h
  · rename_i s f' h1
    split at h
    · rename_i fs hd hs
      split at h
      · rename_i fd hf
        split at h
        · rename_i e hu
          split at h
          · rename_i hc
            simp only [Option.some.injEq, Prod.mk.injEq] at h
            obtain ⟨rfl, rfl⟩ := h
            refine ⟨hc.2.2, fun w hw => ?_⟩
            subst hw
            obtain ⟨i, m, g1, g2, g3, g4⟩ := methOf_spec h1
            have hus : (P.underlying fd.type).isSome = true := by rw [hu]; rfl
            have hag : isAggT P fd.type = false := by unfold isAggT; rw [hu]
            have hload := (runs_loadVar (P := P) (w := w) (t := fd.type) hc.1 hus hr).2 hag rv hv
            show (method ((P.types.size + 99) + 1) T _ name).run P w = _
            unfold method
            simp [runs_typeInfo g1, g2, g3, g4, follow, run_underlying hs, hf, hd, Place.get, asAddr, runs_fieldPlace hc.1 hc.2.1, receiverAt, run_underlying hu, add_mk, hload]
          · cases h
        · cases h
      · cases h
    · cases h
  · cases h
theorem nilP1 {P : Program} {T : TypeId} {a : Addr} {name : String} {x : Nat × FuncId} {cap : Array Value} (h : meth1 P T name = some x) : NilP P (.func (.method name) #[.iface T (.pointer (some a))] cap) := by
  unfold meth1 at h
  split at h
  · rename_i s f' h1
    split at h
    · rename_i fs hd hs
      split at h
      · rename_i fd hf
        refine .inr ⟨name, T, _, cap, rfl, fun w => ?_⟩
        obtain ⟨i, m, g1, g2, g3, g4⟩ := methOf_spec h1
        show (nilAhead ((P.types.size + 99) + 1) T _ name).run P w = _
        unfold nilAhead
        simp [runs_typeInfo g1, g2, g3, g4, followBlind, run_underlying hs, hf, hd]
      · cases h
    · cases h
  · cases h
theorem InvH.mono {P : Program} {recv : Value} {name : String} {args : List Value} {H : Hp} {K K' : Value → Hp → Prop} (h : InvH P recv name args H K) (hk : ∀ v H', K v H' → K' v H') : InvH P recv name args H K' := by
  obtain ⟨T, v, f, rv, h1, h2, h3⟩ := h
  exact ⟨T, v, f, rv, h1, h2, h3.mono hk⟩
end Go.Vc
