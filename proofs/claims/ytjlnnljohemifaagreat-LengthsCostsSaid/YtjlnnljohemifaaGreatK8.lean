/-
  Texts put behind each other by a program: Stm.
-/
import Derived.Test.YtjlnnljohemifaaGreatK7
set_option linter.unusedVariables false
set_option linter.unusedSimpArgs false
namespace Go.Vc
abbrev Env := List (Nat × Value)
def Env.find : Env → Nat → Option Value
  | [], _ => none
  | (k, v) :: r, n => bif k == n then some v else Env.find r n
@[go_sem] theorem Env.find_nil (n : Nat) : Env.find [] n = none := (rfl)
@[go_sem] theorem Env.find_cons (k n : Nat) (v : Value) (r : Env) : Env.find ((k, v) :: r) n = bif k == n then some v else Env.find r n := (rfl)
def Env.ev (env : Env) : Ev
  | .tmp t => Env.find env t
  | .const v => some v
  | .global g => some (.pointer (some ⟨g, 0, none⟩))
  | .func f => some (.func (.func f) #[] #[])
@[go_sem] theorem Env.ev_tmp (env : Env) (t : Nat) : Env.ev env (.tmp t) = Env.find env t := (rfl)
@[go_sem] theorem Env.ev_const (env : Env) (v : Value) : Env.ev env (.const v) = some v := (rfl)
@[go_sem] theorem Env.ev_global (env : Env) (g : Nat) : Env.ev env (.global g) = some (.pointer (some ⟨g, 0, none⟩)) := (rfl)
@[go_sem] theorem Env.ev_func (env : Env) (f : Nat) : Env.ev env (.func f) = some (.func (.func f) #[] #[]) := (rfl)
def Env.put (env : Env) (dst : Option Nat) (v : Value) : Env := match dst with | some d => (d, v) :: env | none => env
@[go_sem] theorem Env.put_some (env : Env) (d : Nat) (v : Value) : Env.put env (some d) v = (d, v) :: env := (rfl)
@[go_sem] theorem Env.put_none (env : Env) (v : Value) : Env.put env none v = env := (rfl)
def Env.keep (env : Env) : List Nat → Env
  | [] => []
  | k :: ks => match Env.find env k with | some v => (k, v) :: Env.keep env ks | none => Env.keep env ks
def consO (k : Nat) (o : Option Value) (r : Env) : Env := match o with | some v => (k, v) :: r | none => r
@[go_sem] theorem consO_some (k : Nat) (v : Value) (r : Env) : consO k (some v) r = (k, v) :: r := (rfl)
@[go_sem] theorem consO_none (k : Nat) (r : Env) : consO k none r = r := (rfl)
@[go_sem] theorem Env.keep_nil (env : Env) : Env.keep env [] = [] := (rfl)
@[go_sem] theorem Env.keep_cons (env : Env) (k : Nat) (ks : List Nat) : Env.keep env (k :: ks) = consO k (Env.find env k) (Env.keep env ks) := by
  unfold consO; rw [Env.keep]
structure Holds (env : Env) (a : Act) (n : Nat) : Prop where
  size : a.tmps.size = n
  defers : a.defers = []
  vals : ∀ k v, Env.find env k = some v → a.tmps[k]? = some v
theorem Holds.tells {env : Env} {a : Act} {n : Nat} (h : Holds env a n) : Tells (Env.ev env) a := by
  intro x v hx
  cases x with
  | tmp t => simp only [Env.ev] at hx; simp [Act.eval, h.vals t v hx]
  | const u => injection hx with hx
  | global g => injection hx with hx
  | func f => injection hx with hx
theorem Holds.put {env : Env} {a : Act} {n : Nat} (h : Holds env a n) {dst : Option Nat} (hd : ∀ d, dst = some d → d < n) (v : Value) : Holds (Env.put env dst v) (a.put dst v) n := by
  cases dst with
  | none => exact h
  | some d =>
    have hlt := hd d rfl
    refine ⟨by simp [Act.put, h.size], by simp [Act.put, h.defers], fun k u hk => ?_⟩
    simp only [Env.put, Env.find] at hk
    by_cases e : d = k
    · subst e
      simp at hk
      subst hk
      simp [Act.put, h.size, hlt]
    · have : (d == k) = false := by simpa using e
      rw [this] at hk
      simp only [cond_false] at hk
      simpa [Act.put, Array.getElem?_setIfInBounds_ne e] using h.vals k u hk
theorem Holds.guard {env : Env} {a : Act} {n : Nat} (h : Holds env a n) {g : Nat} {v : Value} (hg : Env.find env g = some v) : Holds ((g, v) :: env) a n := by
  refine ⟨h.size, h.defers, fun k u hk => ?_⟩
  simp only [Env.find] at hk
  by_cases e : g = k
  · subst e
    simp at hk
    subst hk
    exact h.vals g v hg
  · have : (g == k) = false := by simpa using e
    rw [this] at hk
    exact h.vals k u hk
theorem find_keep (env : Env) : ∀ (ks : List Nat) (k : Nat) (v : Value), Env.find (Env.keep env ks) k = some v → Env.find env k = some v := by
  intro ks
  induction ks with
  | nil => intro k v h; cases h
  | cons x xs ih =>
    intro k v h
    rw [Env.keep_cons] at h
    cases hx : Env.find env x with
    | none => rw [hx] at h; exact ih k v h
    | some u =>
      rw [hx] at h
      simp only [consO, Env.find] at h
      by_cases e : x = k
      · subst e
        simp at h
        subst h
        exact hx
      · have : (x == k) = false := by simpa using e
        rw [this] at h
        exact ih k v h
theorem Holds.keep {env : Env} {a : Act} {n : Nat} (h : Holds env a n) (ks : List Nat) : Holds (Env.keep env ks) a n :=
  ⟨h.size, h.defers, fun k v hk => h.vals k v (find_keep env ks k v hk)⟩
structure Sop where
  quiet : Bool
  guard : Option (Nat × Bool)
  dst : Option Nat
  op : Iop
  deriving Inhabited
def Sop.vc (P : Program) (s : Sop) (ev : Ev) (H : Hp) (K : Value → Hp → Prop) : Prop :=
  bif s.quiet then ∃ v, s.op.vc P ev H (fun v' H' => v' = v ∧ H' = H) ∧ K v H else s.op.vc P ev H K
@[go_sem ↓] theorem Sop.vc_plain (P : Program) (g : Option (Nat × Bool)) (d : Option Nat) (op : Iop) (ev : Ev) (H : Hp) (K : Value → Hp → Prop) : Sop.vc P ⟨false, g, d, op⟩ ev H K = op.vc P ev H K := (rfl)
@[go_sem ↓] theorem Sop.vc_quiet (P : Program) (g : Option (Nat × Bool)) (d : Option Nat) (op : Iop) (ev : Ev) (H : Hp) (K : Value → Hp → Prop) :
    Sop.vc P ⟨true, g, d, op⟩ ev H K = ∃ v, op.vc P ev H (fun v' H' => v' = v ∧ H' = H) ∧ K v H := (rfl)
def guardV (o : Option Value) (F : Bool → Prop) (_t : Tag F := ⟨⟩) : Prop := match o with | some v => boolV v F | none => False
@[go_sem] theorem guardV_some (v : Value) (F : Bool → Prop) : guardV (some v) F = boolV v F := (rfl)
def gV (o : Option Value) (F : Bool → Prop) (N : Prop) (_t : Tag F := ⟨⟩) (_u : Tag N := ⟨⟩) : Prop :=
  match o with | some v => (match v with | .bool b => Both b F | .tuple _ => N | _ => False) | none => False
@[go_sem] theorem gV_bool (b : Bool) (F : Bool → Prop) (N : Prop) : gV (some (.bool b)) F N = Both b F := (rfl)
@[go_sem] theorem gV_undef (F : Bool → Prop) (N : Prop) : gV (some undef) F N = N := (rfl)
theorem gV_spec {o : Option Value} {F : Bool → Prop} {N : Prop} (h : gV o F N) : (∃ b, o = some (.bool b) ∧ F b) ∨ (∃ vs, o = some (.tuple vs) ∧ N) := by
  unfold gV at h
  split at h
  · rename_i v
    split at h
    · rename_i b
      obtain ⟨b', e, h2⟩ := boolV_spec (v := .bool b) (F := F) h
      injection e with e
      subst e
      exact .inl ⟨b, rfl, h2⟩
    · rename_i vs
      exact .inr ⟨vs, rfl, h⟩
    · exact h.elim
  · exact h.elim
def vcOps (P : Program) (K : Env → Hp → Prop) : List Sop → Env → Hp → Prop
  | [], env, H => K env H
  | s :: r, env, H =>
    match s.guard with
    | none => s.vc P (Env.ev env) H fun v H' => vcOps P K r (Env.put env s.dst v) H'
    | some (g, want) => gV (Env.find env g) (fun b =>
      Cho (b == want) (s.vc P (Env.ev ((g, .bool b) :: env)) H fun v H' => vcOps P K r (Env.put ((g, .bool b) :: env) s.dst v) H')
        (vcOps P K r (Env.put ((g, .bool b) :: env) s.dst undef) H)) (vcOps P K r (Env.put env s.dst undef) H)
@[go_sem ↓] theorem vcOps_nil (P : Program) (K : Env → Hp → Prop) (env : Env) (H : Hp) : vcOps P K [] env H = K env H := (rfl)
@[go_sem ↓] theorem vcOps_cons (P : Program) (K : Env → Hp → Prop) (q : Bool) (d : Option Nat) (op : Iop) (r : List Sop) (env : Env) (H : Hp) :
    vcOps P K (⟨q, none, d, op⟩ :: r) env H = Sop.vc P ⟨q, none, d, op⟩ (Env.ev env) H fun v H' => vcOps P K r (Env.put env d v) H' := (rfl)
@[go_sem ↓] theorem vcOps_guard (P : Program) (K : Env → Hp → Prop) (q : Bool) (g : Nat) (want : Bool) (d : Option Nat) (op : Iop) (r : List Sop) (env : Env) (H : Hp) :
    vcOps P K (⟨q, some (g, want), d, op⟩ :: r) env H = gV (Env.find env g) (fun b =>
      Cho (b == want) (Sop.vc P ⟨q, none, d, op⟩ (Env.ev ((g, .bool b) :: env)) H fun v H' => vcOps P K r (Env.put ((g, .bool b) :: env) d v) H')
        (vcOps P K r (Env.put ((g, .bool b) :: env) d undef) H)) (vcOps P K r (Env.put env d undef) H) := (rfl)
def decSop (P : Program) (n : Nat) (ops : Array Oper) (q : List Nat) (i : Nat) (o : Oper) : Option Sop :=
  match o.dst with
  | some d => if d < n then go (some d) else none
  | none => go none
  where
  go (dst : Option Nat) : Option Sop :=
    match decOp P o with
    | none => none
    | some op =>
      match o.guard with
      | none => some ⟨q.contains i, none, dst, op⟩
      | some (j, want) => match (ops[j]?).bind (·.dst) with
        | some g => some ⟨q.contains i, some (g, want), dst, op⟩
        | none => none
def decOps (P : Program) (n : Nat) (ops : Array Oper) (q : List Nat) : Nat → List Oper → Option (List Sop)
  | _, [] => some []
  | i, o :: r =>
    match decSop P n ops q i o with
    | none => none
    | some s => (decOps P n ops q (i + 1) r).map (s :: ·)
def Sop.cls (s : Sop) : Cls := match s.op.cls with | .acts => bif s.quiet then .quiet else .acts | c => c
def clsOf (l : List Sop) (i : Nat) : Cls := match l[i]? with | some s => s.cls | none => .acts
section
variable {P : Program} {ops : Array Oper} {n : Nat}
theorem decSop_spec {q : List Nat} {i : Nat} {o : Oper} {s : Sop} (h : decSop P n ops q i o = some s) :
    decOp P o = some s.op ∧ s.dst = o.dst ∧ (∀ d, o.dst = some d → d < n) ∧
      ((o.guard = none ∧ s.guard = none) ∨ ∃ j want g, o.guard = some (j, want) ∧ (ops[j]?).bind (·.dst) = some g ∧ s.guard = some (g, want)) := by
  have key : ∀ dst, decSop.go P ops q i o dst = some s → decOp P o = some s.op ∧ s.dst = dst ∧
      ((o.guard = none ∧ s.guard = none) ∨ ∃ j want g, o.guard = some (j, want) ∧ (ops[j]?).bind (·.dst) = some g ∧ s.guard = some (g, want)) := by
    intro dst h
    unfold decSop.go at h
    split at h
    · cases h
    · rename_i op hop
      split at h
      · rename_i hg; injection h with h; subst h; exact ⟨hop, rfl, .inl ⟨hg, rfl⟩⟩
      · rename_i j want hg
        split at h
        · rename_i g hgg; injection h with h; subst h; exact ⟨hop, rfl, .inr ⟨j, want, g, hg, hgg, rfl⟩⟩
        · cases h
  unfold decSop at h
  split at h
  · rename_i d hd
    split at h
    · rename_i hlt
      obtain ⟨h1, h2, h3⟩ := key _ h
      exact ⟨h1, h2.trans hd.symm, (fun d' e => by rw [hd] at e; injection e with e; subst e; exact hlt), h3⟩
    · cases h
  · rename_i hd
    obtain ⟨h1, h2, h3⟩ := key _ h
    exact ⟨h1, h2.trans hd.symm, (fun d' e => by rw [hd] at e; cases e), h3⟩
theorem wanted_none {o : Oper} {y : Nat → Option Bool} (h : o.guard = none) : Region.wanted o y = true := by simp [Region.wanted, h]
theorem wanted_some {o : Oper} {a : Act} {j g : Nat} {want b : Bool} (h : o.guard = some (j, want)) (hg : (ops[j]?).bind (·.dst) = some g) (hv : a.tmps[g]? = some (.bool b)) :
    Region.wanted o (yielded ops a.tmps) = (b == want) := by
  have : yielded ops a.tmps j = some b := by simp [yielded, hg, hv]
  simp [Region.wanted, h, this]
theorem wanted_undef {o : Oper} {a : Act} {j g : Nat} {want : Bool} {vs : Array Value} (h : o.guard = some (j, want)) (hg : (ops[j]?).bind (·.dst) = some g) (hv : a.tmps[g]? = some (.tuple vs)) :
    Region.wanted o (yielded ops a.tmps) = false := by
  have : yielded ops a.tmps j = none := by simp [yielded, hg, hv]
  simp [Region.wanted, h, this]
theorem Sop.sound {s : Sop} {o : Oper} {a : Act} {ev : Ev} {H : Hp} {K : Value → Hp → Prop} (hd : decOp P o = some s.op) (hev : Tells ev a) (h : s.vc P ev H K) : Does P o a H K := by
  unfold Sop.vc at h
  cases hq : s.quiet
  · rw [hq] at h; exact (Go.Vc.sound s.op hd hev h).2
  · rw [hq] at h
    obtain ⟨v, h1, h2⟩ := h
    exact (Go.Vc.sound s.op hd hev h1).2.mono fun v' H' ⟨e1, e2⟩ => by rw [e1, e2]; exact h2
theorem seqD_of_vc {K : Env → Hp → Prop} {q : List Nat} : ∀ (l : List Oper) (i : Nat) (ss : List Sop), (∀ k, l[k]? = ops[i + k]?) → decOps P n ops q i l = some ss →
    ∀ (env : Env) (a : Act) (H : Hp), Holds env a n → vcOps P K ss env H → seqD P ops (fun a' H' => ∃ env', Holds env' a' n ∧ K env' H') (List.range' i l.length) a H := by
  intro l
  induction l with
  | nil =>
    intro i ss _ hd env a H hh h
    simp only [decOps, Option.some.injEq] at hd
    subst hd
    exact ⟨env, hh, h⟩
  | cons o l ih =>
    intro i ss hl hd env a H hh h
    unfold decOps at hd
    split at hd
    · cases hd
    · rename_i s hs
      cases hr : decOps P n ops q (i + 1) l with
      | none => rw [hr] at hd; cases hd
      | some ss' =>
        rw [hr] at hd
        simp only [Option.map_some, Option.some.injEq] at hd
        subst hd
        obtain ⟨hop, hdst, hlt, hg⟩ := decSop_spec hs
        have hoi : ops[i]? = some o := by have := hl 0; simpa using this.symm
        have hl' : ∀ k, l[k]? = ops[i + 1 + k]? := fun k => by have := hl (k + 1); rw [List.getElem?_cons_succ] at this; rw [this]; congr 1; omega
        rw [List.length_cons, List.range'_succ]
        simp only [seqD, hoi]
        unfold vcOps at h
        rcases hg with ⟨hg1, hg2⟩ | ⟨j, want, g, hg1, hg2, hg3⟩
        · rw [wanted_none hg1, if_pos rfl]
          rw [hg2] at h
          refine (Sop.sound hop hh.tells h).mono fun v H' hk => ?_
          rw [hdst] at hk
          exact ih (i + 1) ss' hl' hr _ _ _ (hh.put hlt v) hk
        · rw [hg3] at h
          rcases gV_spec h with ⟨b, hv, h⟩ | ⟨vs, hv, h⟩
          · have hwant := wanted_some (o := o) hg1 hg2 (hh.vals g _ hv)
            rw [hwant]
            have hh' := hh.guard hv
            cases hb : b == want
            · rw [hb] at h
              simp only [Cho] at h
              rw [if_neg (by simp)]
              rw [hdst] at h
              exact ih (i + 1) ss' hl' hr _ _ _ (hh'.put hlt undef) h
            · rw [hb] at h
              simp only [Cho] at h
              rw [if_pos rfl]
              refine (Sop.sound hop hh'.tells h).mono fun v H' hk => ?_
              rw [hdst] at hk
              exact ih (i + 1) ss' hl' hr _ _ _ (hh'.put hlt v) hk
          · rw [wanted_undef hg1 hg2 (hh.vals g _ hv), if_neg (by simp)]
            rw [hdst] at h
            exact ih (i + 1) ss' hl' hr _ _ _ (hh.put hlt undef) h
def oneV (P : Program) (s : Sop) (env : Env) (H : Hp) (F : Env → Hp → Prop) : Prop :=
  match s.guard with
  | none => s.vc P (Env.ev env) H fun v H' => F (Env.put env s.dst v) H'
  | some (g, want) => gV (Env.find env g) (fun b =>
      Cho (b == want) (s.vc P (Env.ev ((g, .bool b) :: env)) H fun v H' => F (Env.put ((g, .bool b) :: env) s.dst v) H')
        (F (Env.put ((g, .bool b) :: env) s.dst undef) H)) (F (Env.put env s.dst undef) H)
theorem stepC_vc {q : List Nat} {cls : Nat → Cls} {i : Nat} {o : Oper} {s : Sop} {F : Env → Hp → Prop} {G : Act → Hp → Prop} {env : Env} {a : Act} {H : Hp} (hoi : ops[i]? = some o) (hs : decSop P n ops q i o = some s) (hci : cls i = s.cls)
    (hh : Holds env a n) (h : oneV P s env H F) (next : ∀ env' a' H', Holds env' a' n → F env' H' → G a' H') : stepC P ops cls i G a H := by
  obtain ⟨hop, hdst, hlt, hg⟩ := decSop_spec hs
  have step : ∀ (env : Env), Holds env a n → s.vc P (Env.ev env) H (fun v H' => F (Env.put env s.dst v) H') →
      (match cls i with
        | .pure => ∃ v, (∀ w, (execOp a.eval o).run P w = .ok (.value v) w) ∧ G (a.put o.dst v) H
        | .quiet => ∃ v, Does P o a H (fun v' H' => v' = v ∧ H' = H) ∧ G (a.put o.dst v) H
        | .acts => Does P o a H fun v H' => G (a.put o.dst v) H') := by
    intro env hh h
    have next' : ∀ v H', F (Env.put env s.dst v) H' → G (a.put o.dst v) H' := by
      intro v H' hk
      rw [hdst] at hk
      exact next _ _ _ (hh.put hlt v) hk
    rw [hci]
    unfold Sop.cls
    cases hc : s.op.cls with
    | pure =>
      have hp : s.op.vc P (Env.ev env) H (fun v H' => F (Env.put env s.dst v) H') := by
        unfold Sop.vc at h
        cases hq : s.quiet
        · rw [hq] at h; exact h
        · rw [hq] at h
          obtain ⟨v, h1, h2⟩ := h
          exact (vc_mono s.op hc h1 fun v' H' ⟨e1, e2⟩ => by rw [e1, e2]; exact h2)
      obtain ⟨v, e1, e2⟩ := (Go.Vc.sound s.op hop hh.tells hp).1 hc
      exact ⟨v, e1, next' _ _ e2⟩
    | quiet =>
      unfold Sop.vc at h
      cases hq : s.quiet
      · rw [hq] at h
        obtain ⟨v, h1, h2⟩ := reads_vc s.op hc h
        exact ⟨v, (Go.Vc.sound s.op hop hh.tells h1).2, next' _ _ h2⟩
      · rw [hq] at h
        obtain ⟨v, h1, h2⟩ := h
        exact ⟨v, (Go.Vc.sound s.op hop hh.tells h1).2, next' _ _ h2⟩
    | acts =>
      unfold Sop.vc at h
      cases hq : s.quiet
      · rw [hq] at h; exact (Go.Vc.sound s.op hop hh.tells h).2.mono next'
      · rw [hq] at h
        obtain ⟨v, h1, h2⟩ := h
        exact ⟨v, (Go.Vc.sound s.op hop hh.tells h1).2, next' _ _ h2⟩
  unfold stepC
  simp only [hoi]
  unfold oneV at h
  rcases hg with ⟨hg1, hg2⟩ | ⟨j, want, g, hg1, hg2, hg3⟩
  · rw [wanted_none hg1, if_pos rfl]
    rw [hg2] at h
    exact step env hh h
  · rw [hg3] at h
    rcases gV_spec h with ⟨b, hv, h⟩ | ⟨vs, hv, h⟩
    · have hwant := wanted_some (o := o) hg1 hg2 (hh.vals g _ hv)
      rw [hwant]
      have hh' := hh.guard hv
      cases hb : b == want
      · rw [hb] at h
        simp only [Cho] at h
        rw [if_neg (by simp)]
        rw [hdst] at h
        exact next _ _ _ (hh'.put hlt undef) h
      · rw [hb] at h
        simp only [Cho] at h
        rw [if_pos rfl]
        exact step _ hh' h
    · rw [wanted_undef hg1 hg2 (hh.vals g _ hv), if_neg (by simp)]
      rw [hdst] at h
      exact next _ _ _ (hh.put hlt undef) h
theorem seqC_of_vc {K : Env → Hp → Prop} {q : List Nat} {cls : Nat → Cls} : ∀ (l : List Oper) (i : Nat) (ss : List Sop), (∀ k, l[k]? = ops[i + k]?) → decOps P n ops q i l = some ss →
    (∀ k s, ss[k]? = some s → cls (i + k) = s.cls) →
    ∀ (env : Env) (a : Act) (H : Hp), Holds env a n → vcOps P K ss env H → seqC P ops cls (fun a' H' => ∃ env', Holds env' a' n ∧ K env' H') (List.range' i l.length) a H := by
  intro l
  induction l with
  | nil =>
    intro i ss _ hd _ env a H hh h
    simp only [decOps, Option.some.injEq] at hd
    subst hd
    exact ⟨env, hh, h⟩
  | cons o l ih =>
    intro i ss hl hd hcls env a H hh h
    unfold decOps at hd
    split at hd
    · cases hd
    · rename_i s hs
      cases hr : decOps P n ops q (i + 1) l with
      | none => rw [hr] at hd; cases hd
      | some ss' =>
        rw [hr] at hd
        simp only [Option.map_some, Option.some.injEq] at hd
        subst hd
        have hoi : ops[i]? = some o := by have := hl 0; simpa using this.symm
        have hl' : ∀ k, l[k]? = ops[i + 1 + k]? := fun k => by have := hl (k + 1); rw [List.getElem?_cons_succ] at this; rw [this]; congr 1; omega
        have hci : cls i = s.cls := by have := hcls 0 s rfl; simpa using this
        have hcls' : ∀ k s', ss'[k]? = some s' → cls (i + 1 + k) = s'.cls := fun k s' e => by have := hcls (k + 1) s' (by simpa using e); rw [← this]; congr 1; omega
        rw [List.length_cons, List.range'_succ]
        exact stepC_vc (F := vcOps P K ss') hoi hs hci hh h fun env' a' H' hh' hk => ih (i + 1) ss' hl' hr hcls' env' a' H' hh' hk
theorem decOps_get {q : List Nat} : ∀ (l : List Oper) (i : Nat) (ss : List Sop), (∀ k, l[k]? = ops[i + k]?) → decOps P n ops q i l = some ss → ∀ k s, ss[k]? = some s → ∃ o, ops[i + k]? = some o ∧ decSop P n ops q (i + k) o = some s := by
  intro l
  induction l with
  | nil => intro i ss _ hd k s hk; simp only [decOps, Option.some.injEq] at hd; subst hd; simp at hk
  | cons o l ih =>
    intro i ss hl hd k s hk
    unfold decOps at hd
    split at hd
    · cases hd
    · rename_i s0 hs
      cases hr : decOps P n ops q (i + 1) l with
      | none => rw [hr] at hd; cases hd
      | some ss' =>
        rw [hr] at hd
        simp only [Option.map_some, Option.some.injEq] at hd
        subst hd
        have hl' : ∀ k, l[k]? = ops[i + 1 + k]? := fun k => by have := hl (k + 1); rw [List.getElem?_cons_succ] at this; rw [this]; congr 1; omega
        cases k with
        | zero =>
          simp only [List.getElem?_cons_zero, Option.some.injEq] at hk
          subst hk
          exact ⟨o, by have := hl 0; simpa using this.symm, hs⟩
        | succ k =>
          have := ih (i + 1) ss' hl' hr k s (by simpa using hk)
          rw [show i + 1 + k = i + (k + 1) by omega] at this
          exact this
inductive OtS where
  | done
  | pur (s : Sop) (t : OtS)
  | stb (s : Sop) (t : OtS)
  | fork (s : Sop) (t r : OtS)
  | stop
  deriving Inhabited
def Sop.steady (s : Sop) : Bool := s.quiet || (match s.op.cls with | .pure => true | _ => false)
def stOf (l : List Sop) (i : Nat) : Bool := match l[i]? with | some s => s.steady | none => false
def attach (ss : List Sop) : Ot → Option OtS
  | .done => some .done
  | .step i t => match ss[i]?, attach ss t with
    | some s, some t => bif s.quiet then some (.stb s t) else match s.op.cls with | .pure => some (.pur s t) | _ => none
    | _, _ => none
  | .fork i t r => match ss[i]?, attach ss t, attach ss r with
    | some s, some t, some r => bif s.steady then none else some (.fork s t r)
    | _, _, _ => none
  | .stop => some .stop
def Two (A B : Prop) (_ta : Tag A := ⟨⟩) (_tb : Tag B := ⟨⟩) : Prop := A ∧ B
theorem Two.intro {A B : Prop} (a : A) (b : B) : Two A B := ⟨a, b⟩
@[go_sem] theorem Two_true (A : Prop) : Two A True = A := by simp [Two]
def StbV (Inv : Hp → Prop) (G : Hp → (Value → Hp → Prop) → Prop) (K : Value → Prop) (_t : Tag G := ⟨⟩) (_u : Tag K := ⟨⟩) : Prop := ∃ v, (∀ H', Inv H' → G H' fun v' H'' => v' = v ∧ H'' = H') ∧ K v
theorem StbV.intro {Inv : Hp → Prop} {G : Hp → (Value → Hp → Prop) → Prop} {K : Value → Prop} (v : Value) (h : ∀ H', Inv H' → G H' fun v' H'' => v' = v ∧ H'' = H') (k : K v) : StbV Inv G K := ⟨v, h, k⟩
def InvV (H : Hp) (F : (Hp → Prop) → Prop) (_t : Tag F := ⟨⟩) : Prop := ∃ Inv, Inv H ∧ F Inv
theorem InvV.intro {H : Hp} {F : (Hp → Prop) → Prop} (Inv : Hp → Prop) (h : Inv H) (f : F Inv) : InvV H F := ⟨Inv, h, f⟩
def grdV (s : Sop) (env : Env) (F : Env → Prop) (N : Env → Prop) : Prop :=
  match s.guard with
  | none => F env
  | some (g, want) => gV (Env.find env g) (fun b => Cho (b == want) (F ((g, .bool b) :: env)) (N ((g, .bool b) :: env))) (N env)
@[go_sem ↓] theorem grdV_plain (q : Bool) (d : Option Nat) (op : Iop) (env : Env) (F N : Env → Prop) : grdV ⟨q, none, d, op⟩ env F N = F env := (rfl)
@[go_sem ↓] theorem grdV_guard (q : Bool) (g : Nat) (want : Bool) (d : Option Nat) (op : Iop) (env : Env) (F N : Env → Prop) :
    grdV ⟨q, some (g, want), d, op⟩ env F N = gV (Env.find env g) (fun b => Cho (b == want) (F ((g, .bool b) :: env)) (N ((g, .bool b) :: env))) (N env) := (rfl)
def vcT (P : Program) (Inv : Hp → Prop) (K : Env → Hp → Prop) : OtS → Env → Hp → Prop
  | .done, env, H => K env H
  | .pur s t, env, H => grdV s env (fun e => s.op.vc P (Env.ev e) H fun v H' => vcT P Inv K t (Env.put e s.dst v) H') (fun e => vcT P Inv K t (Env.put e s.dst undef) H)
  | .stb s t, env, H => grdV s env (fun e => StbV Inv (fun H' k => s.op.vc P (Env.ev e) H' k) fun v => vcT P Inv K t (Env.put e s.dst v) H) (fun e => vcT P Inv K t (Env.put e s.dst undef) H)
  | .fork s t r, env, H => Two (grdV s env (fun e => s.op.vc P (Env.ev e) H fun v H' => Also (Inv H') (vcT P Inv K t (Env.put e s.dst v) H')) (fun e => vcT P Inv K t (Env.put e s.dst undef) H)) (vcT P Inv K r env H)
  | .stop, _, _ => True
section
variable (Inv : Hp → Prop) (K : Env → Hp → Prop) (s : Sop) (t r : OtS) (env : Env) (H : Hp)
@[go_sem ↓] theorem vcT_done : vcT P Inv K .done env H = K env H := (rfl)
@[go_sem ↓] theorem vcT_stop : vcT P Inv K .stop env H = True := (rfl)
@[go_sem ↓] theorem vcT_pur (q : Bool) (g : Option (Nat × Bool)) (d : Option Nat) (op : Iop) : vcT P Inv K (.pur ⟨q, g, d, op⟩ t) env H =
    grdV ⟨q, g, d, op⟩ env (fun e => op.vc P (Env.ev e) H fun v H' => vcT P Inv K t (Env.put e d v) H') (fun e => vcT P Inv K t (Env.put e d undef) H) := (rfl)
@[go_sem ↓] theorem vcT_stb (q : Bool) (g : Option (Nat × Bool)) (d : Option Nat) (op : Iop) : vcT P Inv K (.stb ⟨q, g, d, op⟩ t) env H =
    grdV ⟨q, g, d, op⟩ env (fun e => StbV Inv (fun H' k => op.vc P (Env.ev e) H' k) fun v => vcT P Inv K t (Env.put e d v) H) (fun e => vcT P Inv K t (Env.put e d undef) H) := (rfl)
@[go_sem ↓] theorem vcT_fork (q : Bool) (g : Option (Nat × Bool)) (d : Option Nat) (op : Iop) (s' : Sop) (t' r' : OtS) : vcT P Inv K (.fork ⟨q, g, d, op⟩ t (.fork s' t' r')) env H =
    Two (grdV ⟨q, g, d, op⟩ env (fun e => op.vc P (Env.ev e) H fun v H' => Also (Inv H') (vcT P Inv K t (Env.put e d v) H')) (fun e => vcT P Inv K t (Env.put e d undef) H)) (vcT P Inv K (.fork s' t' r') env H) := (rfl)
@[go_sem ↓] theorem vcT_fork1 (q : Bool) (g : Option (Nat × Bool)) (d : Option Nat) (op : Iop) : vcT P Inv K (.fork ⟨q, g, d, op⟩ t .stop) env H =
    grdV ⟨q, g, d, op⟩ env (fun e => op.vc P (Env.ev e) H fun v H' => Also (Inv H') (vcT P Inv K t (Env.put e d v) H')) (fun e => vcT P Inv K t (Env.put e d undef) H) := by
  show Two _ True = _
  simp [Two]
end
theorem stepI_vc {q : List Nat} {Inv : Hp → Prop} {st : Nat → Bool} {i : Nat} {o : Oper} {s : Sop} {F N : Env → Prop} {G : Act → Hp → Prop} {env : Env} {a : Act} {H : Hp} (hoi : ops[i]? = some o) (hs : decSop P n ops q i o = some s)
    (hh : Holds env a n) (h : grdV s env F N) (hN : ∀ e, Holds e a n → N e → G (a.put o.dst undef) H)
    (hF : ∀ e, Holds e a n → F e → match st i with
      | true => ∃ v, (∀ H', Inv H' → Does P o a H' fun v' H'' => v' = v ∧ H'' = H') ∧ G (a.put o.dst v) H
      | false => Does P o a H fun v H' => Inv H' ∧ G (a.put o.dst v) H') : stepI P ops Inv st i G a H := by
  obtain ⟨hop, hdst, hlt, hg⟩ := decSop_spec hs
  unfold stepI
  simp only [hoi]
  unfold grdV at h
  rcases hg with ⟨hg1, hg2⟩ | ⟨j, want, g, hg1, hg2, hg3⟩
  · rw [wanted_none hg1, if_pos rfl]
    rw [hg2] at h
    exact hF env hh h
  · rw [hg3] at h
    rcases gV_spec h with ⟨b, hv, h⟩ | ⟨vs, hv, h⟩
    · have hwant := wanted_some (o := o) hg1 hg2 (hh.vals g _ hv)
      rw [hwant]
      have hh' := hh.guard hv
      cases hb : b == want
      · rw [hb] at h
        rw [if_neg (by simp)]
        exact hN _ hh' h
      · rw [hb] at h
        rw [if_pos rfl]
        exact hF _ hh' h
    · rw [wanted_undef hg1 hg2 (hh.vals g _ hv), if_neg (by simp)]
      exact hN _ hh h
theorem seqT_of_vcT {K : Env → Hp → Prop} {q : List Nat} {Inv : Hp → Prop} {ss : List Sop} (hget : ∀ k s, ss[k]? = some s → ∃ o, ops[k]? = some o ∧ decSop P n ops q k o = some s) :
    ∀ (t : Ot) (ts : OtS), attach ss t = some ts → ∀ (env : Env) (a : Act) (H : Hp), Holds env a n → vcT P Inv K ts env H → seqT P ops Inv (stOf ss) (fun a' H' => ∃ env', Holds env' a' n ∧ K env' H') t a H := by
  intro t
  induction t with
  | done => intro ts ht env a H hh h; simp only [attach, Option.some.injEq] at ht; subst ht; exact ⟨env, hh, h⟩
  | stop => intro ts ht env a H hh h; trivial
  | step i t ih =>
    intro ts ht env a H hh h
    unfold attach at ht
    split at ht
    · rename_i s t' hs ht'
      obtain ⟨o, ho, hd⟩ := hget i s hs
      obtain ⟨hop, hdst, hlt, _⟩ := decSop_spec hd
      cases hq : s.quiet
      · rw [hq] at ht
        simp only [cond_false] at ht
        split at ht
        · rename_i hc
          injection ht with ht
          subst ht
          have hst : stOf ss i = true := by simp [stOf, hs, Sop.steady, hc]
          refine stepI_vc ho hd hh h (fun e he hN => ?_) (fun e he hF => ?_)
          · rw [← hdst]; exact ih t' ht' _ _ _ (by rw [hdst]; exact he.put hlt undef) hN
          · rw [hst]
            obtain ⟨v, e1, e2⟩ := (Go.Vc.sound s.op hop he.tells hF).1 hc
            refine ⟨v, fun H' _ => does_of_pure e1 H', ?_⟩
            rw [← hdst]; exact ih t' ht' _ _ _ (by rw [hdst]; exact he.put hlt v) e2
        · cases ht
      · rw [hq] at ht
        simp only [cond_true, Option.some.injEq] at ht
        subst ht
        have hst : stOf ss i = true := by simp [stOf, hs, Sop.steady, hq]
        refine stepI_vc ho hd hh h (fun e he hN => ?_) (fun e he hF => ?_)
        · rw [← hdst]; exact ih t' ht' _ _ _ (by rw [hdst]; exact he.put hlt undef) hN
        · rw [hst]
          obtain ⟨v, e1, e2⟩ := hF
          refine ⟨v, fun H' hI => (Go.Vc.sound s.op hop he.tells (e1 H' hI)).2, ?_⟩
          rw [← hdst]; exact ih t' ht' _ _ _ (by rw [hdst]; exact he.put hlt v) e2
    · cases ht
  | fork i t r iht ihr =>
    intro ts ht env a H hh h
    unfold attach at ht
    split at ht
    · rename_i s t' r' hs ht' hr'
      obtain ⟨o, ho, hd⟩ := hget i s hs
      obtain ⟨hop, hdst, hlt, _⟩ := decSop_spec hd
      cases hq : s.steady
      · rw [hq] at ht
        simp only [cond_false, Option.some.injEq] at ht
        subst ht
        have hst : stOf ss i = false := by simp [stOf, hs, hq]
        refine ⟨stepI_vc ho hd hh h.1 (fun e he hN => ?_) (fun e he hF => ?_), ihr r' hr' env a H hh h.2⟩
        · rw [← hdst]; exact iht t' ht' _ _ _ (by rw [hdst]; exact he.put hlt undef) hN
        · rw [hst]
          refine (Go.Vc.sound s.op hop he.tells hF).2.mono fun v H' ⟨k1, k2⟩ => ⟨k1, ?_⟩
          rw [← hdst]; exact iht t' ht' _ _ _ (by rw [hdst]; exact he.put hlt v) k2
      · rw [hq] at ht
        cases ht
    · cases ht
end
end Go.Vc
