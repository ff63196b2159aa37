/-
  Whole functions: their code read off; what it asks; and that it is so.
-/
import Derived.Test.YtkikanlkhkghcaaAll
set_option linter.unusedVariables false
set_option linter.unusedSimpArgs false
namespace Go.Vc

/-! ### What is known of the slots -/

abbrev Env := List (Nat × Value)

def Env.find : Env → Nat → Option Value
  | [], _ => none
  | (k, v) :: r, n => bif k == n then some v else Env.find r n
@[go_sem] theorem Env.find_nil (n : Nat) : Env.find [] n = none := (rfl)
@[go_sem] theorem Env.find_cons (k n : Nat) (v : Value) (r : Env) : Env.find ((k, v) :: r) n = bif k == n then some v else Env.find r n := (rfl)

def Env.ev (env : Env) : Ev
  | .tmp t => Env.find env t
  | .const v => some v
  | .global g => some (.pointer (some ⟨g, 0, none⟩))
  | .func f => some (.func (.func f) #[] #[])
@[go_sem] theorem Env.ev_tmp (env : Env) (t : Nat) : Env.ev env (.tmp t) = Env.find env t := (rfl)
@[go_sem] theorem Env.ev_const (env : Env) (v : Value) : Env.ev env (.const v) = some v := (rfl)
@[go_sem] theorem Env.ev_global (env : Env) (g : Nat) : Env.ev env (.global g) = some (.pointer (some ⟨g, 0, none⟩)) := (rfl)
@[go_sem] theorem Env.ev_func (env : Env) (f : Nat) : Env.ev env (.func f) = some (.func (.func f) #[] #[]) := (rfl)

def Env.put (env : Env) (dst : Option Nat) (v : Value) : Env := match dst with | some d => (d, v) :: env | none => env
@[go_sem] theorem Env.put_some (env : Env) (d : Nat) (v : Value) : Env.put env (some d) v = (d, v) :: env := (rfl)
@[go_sem] theorem Env.put_none (env : Env) (v : Value) : Env.put env none v = env := (rfl)

/-- Only these slots are kept. -/
def Env.keep (env : Env) : List Nat → Env
  | [] => []
  | k :: ks => match Env.find env k with | some v => (k, v) :: Env.keep env ks | none => Env.keep env ks

def consO (k : Nat) (o : Option Value) (r : Env) : Env := match o with | some v => (k, v) :: r | none => r
@[go_sem] theorem consO_some (k : Nat) (v : Value) (r : Env) : consO k (some v) r = (k, v) :: r := (rfl)
@[go_sem] theorem consO_none (k : Nat) (r : Env) : consO k none r = r := (rfl)
@[go_sem] theorem Env.keep_nil (env : Env) : Env.keep env [] = [] := (rfl)
@[go_sem] theorem Env.keep_cons (env : Env) (k : Nat) (ks : List Nat) : Env.keep env (k :: ks) = consO k (Env.find env k) (Env.keep env ks) := by
  unfold consO; rw [Env.keep]

structure Holds (env : Env) (a : Act) (n : Nat) : Prop where
  size : a.tmps.size = n
  defers : a.defers = []
  vals : ∀ k v, Env.find env k = some v → a.tmps[k]? = some v

theorem Holds.tells {env : Env} {a : Act} {n : Nat} (h : Holds env a n) : Tells (Env.ev env) a := by
  intro x v hx
  cases x with
  | tmp t => simp only [Env.ev] at hx; simp [Act.eval, h.vals t v hx]
  | const u => injection hx with hx
  | global g => injection hx with hx
  | func f => injection hx with hx

theorem Holds.put {env : Env} {a : Act} {n : Nat} (h : Holds env a n) {dst : Option Nat} (hd : ∀ d, dst = some d → d < n) (v : Value) : Holds (Env.put env dst v) (a.put dst v) n := by
  cases dst with
  | none => exact h
  | some d =>
    have hlt := hd d rfl
    refine ⟨by simp [Act.put, h.size], by simp [Act.put, h.defers], fun k u hk => ?_⟩
    simp only [Env.put, Env.find] at hk
    by_cases e : d = k
    · subst e
      simp at hk
      subst hk
      simp [Act.put, h.size, hlt]
    · have : (d == k) = false := by simpa using e
      rw [this] at hk
      simp only [cond_false] at hk
      simpa [Act.put, Array.getElem?_setIfInBounds_ne e] using h.vals k u hk

theorem Holds.guard {env : Env} {a : Act} {n : Nat} (h : Holds env a n) {g : Nat} {v : Value} (hg : Env.find env g = some v) : Holds ((g, v) :: env) a n := by
  refine ⟨h.size, h.defers, fun k u hk => ?_⟩
  simp only [Env.find] at hk
  by_cases e : g = k
  · subst e
    simp at hk
    subst hk
    exact h.vals g v hg
  · have : (g == k) = false := by simpa using e
    rw [this] at hk
    exact h.vals k u hk

theorem find_keep (env : Env) : ∀ (ks : List Nat) (k : Nat) (v : Value), Env.find (Env.keep env ks) k = some v → Env.find env k = some v := by
  intro ks
  induction ks with
  | nil => intro k v h; cases h
  | cons x xs ih =>
    intro k v h
    rw [Env.keep_cons] at h
    cases hx : Env.find env x with
    | none => rw [hx] at h; exact ih k v h
    | some u =>
      rw [hx] at h
      simp only [consO, Env.find] at h
      by_cases e : x = k
      · subst e
        simp at h
        subst h
        exact hx
      · have : (x == k) = false := by simpa using e
        rw [this] at h
        exact ih k v h

theorem Holds.keep {env : Env} {a : Act} {n : Nat} (h : Holds env a n) (ks : List Nat) : Holds (Env.keep env ks) a n :=
  ⟨h.size, h.defers, fun k v hk => h.vals k v (find_keep env ks k v hk)⟩

/-! ### Regions -/

/-- An operation of a region: whether it must be quiet; its guard's slot and what it wants; its own slot. -/
structure Sop where
  quiet : Bool
  guard : Option (Nat × Bool)
  dst : Option Nat
  op : Iop
  deriving Inhabited

def Sop.vc (P : Program) (s : Sop) (ev : Ev) (H : Hp) (K : Value → Hp → Prop) : Prop :=
  bif s.quiet then ∃ v, s.op.vc P ev H (fun v' H' => v' = v ∧ H' = H) ∧ K v H else s.op.vc P ev H K
@[go_sem ↓] theorem Sop.vc_plain (P : Program) (g : Option (Nat × Bool)) (d : Option Nat) (op : Iop) (ev : Ev) (H : Hp) (K : Value → Hp → Prop) : Sop.vc P ⟨false, g, d, op⟩ ev H K = op.vc P ev H K := (rfl)
@[go_sem ↓] theorem Sop.vc_quiet (P : Program) (g : Option (Nat × Bool)) (d : Option Nat) (op : Iop) (ev : Ev) (H : Hp) (K : Value → Hp → Prop) :
    Sop.vc P ⟨true, g, d, op⟩ ev H K = ∃ v, op.vc P ev H (fun v' H' => v' = v ∧ H' = H) ∧ K v H := (rfl)

def guardV (o : Option Value) (F : Bool → Prop) (_t : Tag F := ⟨⟩) : Prop := match o with | some v => boolV v F | none => False
@[go_sem] theorem guardV_some (v : Value) (F : Bool → Prop) : guardV (some v) F = boolV v F := (rfl)

/-- A guard: a truth value, or nothing where what would have told it was itself not wanted. -/
def gV (o : Option Value) (F : Bool → Prop) (N : Prop) (_t : Tag F := ⟨⟩) (_u : Tag N := ⟨⟩) : Prop :=
  match o with | some v => (match v with | .bool b => Both b F | .tuple _ => N | _ => False) | none => False
@[go_sem] theorem gV_bool (b : Bool) (F : Bool → Prop) (N : Prop) : gV (some (.bool b)) F N = Both b F := (rfl)
@[go_sem] theorem gV_undef (F : Bool → Prop) (N : Prop) : gV (some undef) F N = N := (rfl)
theorem gV_spec {o : Option Value} {F : Bool → Prop} {N : Prop} (h : gV o F N) : (∃ b, o = some (.bool b) ∧ F b) ∨ (∃ vs, o = some (.tuple vs) ∧ N) := by
  unfold gV at h
  split at h
  · rename_i v
    split at h
    · rename_i b
      obtain ⟨b', e, h2⟩ := boolV_spec (v := .bool b) (F := F) h
      injection e with e
      subst e
      exact .inl ⟨b, rfl, h2⟩
    · rename_i vs
      exact .inr ⟨vs, rfl, h⟩
    · exact h.elim
  · exact h.elim

def vcOps (P : Program) (K : Env → Hp → Prop) : List Sop → Env → Hp → Prop
  | [], env, H => K env H
  | s :: r, env, H =>
    match s.guard with
    | none => s.vc P (Env.ev env) H fun v H' => vcOps P K r (Env.put env s.dst v) H'
    | some (g, want) => gV (Env.find env g) (fun b =>
      Cho (b == want) (s.vc P (Env.ev ((g, .bool b) :: env)) H fun v H' => vcOps P K r (Env.put ((g, .bool b) :: env) s.dst v) H')
        (vcOps P K r (Env.put ((g, .bool b) :: env) s.dst undef) H)) (vcOps P K r (Env.put env s.dst undef) H)
@[go_sem ↓] theorem vcOps_nil (P : Program) (K : Env → Hp → Prop) (env : Env) (H : Hp) : vcOps P K [] env H = K env H := (rfl)
@[go_sem ↓] theorem vcOps_cons (P : Program) (K : Env → Hp → Prop) (q : Bool) (d : Option Nat) (op : Iop) (r : List Sop) (env : Env) (H : Hp) :
    vcOps P K (⟨q, none, d, op⟩ :: r) env H = Sop.vc P ⟨q, none, d, op⟩ (Env.ev env) H fun v H' => vcOps P K r (Env.put env d v) H' := (rfl)
@[go_sem ↓] theorem vcOps_guard (P : Program) (K : Env → Hp → Prop) (q : Bool) (g : Nat) (want : Bool) (d : Option Nat) (op : Iop) (r : List Sop) (env : Env) (H : Hp) :
    vcOps P K (⟨q, some (g, want), d, op⟩ :: r) env H = gV (Env.find env g) (fun b =>
      Cho (b == want) (Sop.vc P ⟨q, none, d, op⟩ (Env.ev ((g, .bool b) :: env)) H fun v H' => vcOps P K r (Env.put ((g, .bool b) :: env) d v) H')
        (vcOps P K r (Env.put ((g, .bool b) :: env) d undef) H)) (vcOps P K r (Env.put env d undef) H) := (rfl)

/-- An operation of a region, read off. -/
def decSop (P : Program) (n : Nat) (ops : Array Oper) (q : List Nat) (i : Nat) (o : Oper) : Option Sop :=
  match o.dst with
  | some d => if d < n then go (some d) else none
  | none => go none
  where
  go (dst : Option Nat) : Option Sop :=
    match decOp P o with
    | none => none
    | some op =>
      match o.guard with
      | none => some ⟨q.contains i, none, dst, op⟩
      | some (j, want) => match (ops[j]?).bind (·.dst) with
        | some g => some ⟨q.contains i, some (g, want), dst, op⟩
        | none => none

def decOps (P : Program) (n : Nat) (ops : Array Oper) (q : List Nat) : Nat → List Oper → Option (List Sop)
  | _, [] => some []
  | i, o :: r =>
    match decSop P n ops q i o with
    | none => none
    | some s => (decOps P n ops q (i + 1) r).map (s :: ·)

def Sop.cls (s : Sop) : Cls := match s.op.cls with | .acts => bif s.quiet then .quiet else .acts | c => c
def clsOf (l : List Sop) (i : Nat) : Cls := match l[i]? with | some s => s.cls | none => .acts

section
variable {P : Program} {ops : Array Oper} {n : Nat}

theorem decSop_spec {q : List Nat} {i : Nat} {o : Oper} {s : Sop} (h : decSop P n ops q i o = some s) :
    decOp P o = some s.op ∧ s.dst = o.dst ∧ (∀ d, o.dst = some d → d < n) ∧
      ((o.guard = none ∧ s.guard = none) ∨ ∃ j want g, o.guard = some (j, want) ∧ (ops[j]?).bind (·.dst) = some g ∧ s.guard = some (g, want)) := by
  have key : ∀ dst, decSop.go P ops q i o dst = some s → decOp P o = some s.op ∧ s.dst = dst ∧
      ((o.guard = none ∧ s.guard = none) ∨ ∃ j want g, o.guard = some (j, want) ∧ (ops[j]?).bind (·.dst) = some g ∧ s.guard = some (g, want)) := by
    intro dst h
    unfold decSop.go at h
    split at h
    · cases h
    · rename_i op hop
      split at h
      · rename_i hg; injection h with h; subst h; exact ⟨hop, rfl, .inl ⟨hg, rfl⟩⟩
      · rename_i j want hg
        split at h
        · rename_i g hgg; injection h with h; subst h; exact ⟨hop, rfl, .inr ⟨j, want, g, hg, hgg, rfl⟩⟩
        · cases h
  unfold decSop at h
  split at h
  · rename_i d hd
    split at h
    · rename_i hlt
      obtain ⟨h1, h2, h3⟩ := key _ h
      exact ⟨h1, h2.trans hd.symm, (fun d' e => by rw [hd] at e; injection e with e; subst e; exact hlt), h3⟩
    · cases h
  · rename_i hd
    obtain ⟨h1, h2, h3⟩ := key _ h
    exact ⟨h1, h2.trans hd.symm, (fun d' e => by rw [hd] at e; cases e), h3⟩

theorem wanted_none {o : Oper} {y : Nat → Option Bool} (h : o.guard = none) : Region.wanted o y = true := by simp [Region.wanted, h]
theorem wanted_some {o : Oper} {a : Act} {j g : Nat} {want b : Bool} (h : o.guard = some (j, want)) (hg : (ops[j]?).bind (·.dst) = some g) (hv : a.tmps[g]? = some (.bool b)) :
    Region.wanted o (yielded ops a.tmps) = (b == want) := by
  have : yielded ops a.tmps j = some b := by simp [yielded, hg, hv]
  simp [Region.wanted, h, this]

theorem wanted_undef {o : Oper} {a : Act} {j g : Nat} {want : Bool} {vs : Array Value} (h : o.guard = some (j, want)) (hg : (ops[j]?).bind (·.dst) = some g) (hv : a.tmps[g]? = some (.tuple vs)) :
    Region.wanted o (yielded ops a.tmps) = false := by
  have : yielded ops a.tmps j = none := by simp [yielded, hg, hv]
  simp [Region.wanted, h, this]

theorem Sop.sound {s : Sop} {o : Oper} {a : Act} {ev : Ev} {H : Hp} {K : Value → Hp → Prop} (hd : decOp P o = some s.op) (hev : Tells ev a) (h : s.vc P ev H K) : Does P o a H K := by
  unfold Sop.vc at h
  cases hq : s.quiet
  · rw [hq] at h; exact (Go.Vc.sound s.op hd hev h).2
  · rw [hq] at h
    obtain ⟨v, h1, h2⟩ := h
    exact (Go.Vc.sound s.op hd hev h1).2.mono fun v' H' ⟨e1, e2⟩ => by rw [e1, e2]; exact h2

/-- A region in the text's order. -/
theorem seqD_of_vc {K : Env → Hp → Prop} {q : List Nat} : ∀ (l : List Oper) (i : Nat) (ss : List Sop), (∀ k, l[k]? = ops[i + k]?) → decOps P n ops q i l = some ss →
    ∀ (env : Env) (a : Act) (H : Hp), Holds env a n → vcOps P K ss env H → seqD P ops (fun a' H' => ∃ env', Holds env' a' n ∧ K env' H') (List.range' i l.length) a H := by
  intro l
  induction l with
  | nil =>
    intro i ss _ hd env a H hh h
    simp only [decOps, Option.some.injEq] at hd
    subst hd
    exact ⟨env, hh, h⟩
  | cons o l ih =>
    intro i ss hl hd env a H hh h
    unfold decOps at hd
    split at hd
    · cases hd
    · rename_i s hs
      cases hr : decOps P n ops q (i + 1) l with
      | none => rw [hr] at hd; cases hd
      | some ss' =>
        rw [hr] at hd
        simp only [Option.map_some, Option.some.injEq] at hd
        subst hd
        obtain ⟨hop, hdst, hlt, hg⟩ := decSop_spec hs
        have hoi : ops[i]? = some o := by have := hl 0; simpa using this.symm
        have hl' : ∀ k, l[k]? = ops[i + 1 + k]? := fun k => by have := hl (k + 1); rw [List.getElem?_cons_succ] at this; rw [this]; congr 1; omega
        rw [List.length_cons, List.range'_succ]
        simp only [seqD, hoi]
        unfold vcOps at h
        rcases hg with ⟨hg1, hg2⟩ | ⟨j, want, g, hg1, hg2, hg3⟩
        · rw [wanted_none hg1, if_pos rfl]
          rw [hg2] at h
          refine (Sop.sound hop hh.tells h).mono fun v H' hk => ?_
          rw [hdst] at hk
          exact ih (i + 1) ss' hl' hr _ _ _ (hh.put hlt v) hk
        · rw [hg3] at h
          rcases gV_spec h with ⟨b, hv, h⟩ | ⟨vs, hv, h⟩
          · have hwant := wanted_some (o := o) hg1 hg2 (hh.vals g _ hv)
            rw [hwant]
            have hh' := hh.guard hv
            cases hb : b == want
            · rw [hb] at h
              simp only [Cho] at h
              rw [if_neg (by simp)]
              rw [hdst] at h
              exact ih (i + 1) ss' hl' hr _ _ _ (hh'.put hlt undef) h
            · rw [hb] at h
              simp only [Cho] at h
              rw [if_pos rfl]
              refine (Sop.sound hop hh'.tells h).mono fun v H' hk => ?_
              rw [hdst] at hk
              exact ih (i + 1) ss' hl' hr _ _ _ (hh'.put hlt v) hk
          · rw [wanted_undef hg1 hg2 (hh.vals g _ hv), if_neg (by simp)]
            rw [hdst] at h
            exact ih (i + 1) ss' hl' hr _ _ _ (hh.put hlt undef) h

/-- A region whose order is open. -/
theorem seqC_of_vc {K : Env → Hp → Prop} {q : List Nat} {cls : Nat → Cls} : ∀ (l : List Oper) (i : Nat) (ss : List Sop), (∀ k, l[k]? = ops[i + k]?) → decOps P n ops q i l = some ss →
    (∀ k s, ss[k]? = some s → cls (i + k) = s.cls) →
    ∀ (env : Env) (a : Act) (H : Hp), Holds env a n → vcOps P K ss env H → seqC P ops cls (fun a' H' => ∃ env', Holds env' a' n ∧ K env' H') (List.range' i l.length) a H := by
  intro l
  induction l with
  | nil =>
    intro i ss _ hd _ env a H hh h
    simp only [decOps, Option.some.injEq] at hd
    subst hd
    exact ⟨env, hh, h⟩
  | cons o l ih =>
    intro i ss hl hd hcls env a H hh h
    unfold decOps at hd
    split at hd
    · cases hd
    · rename_i s hs
      cases hr : decOps P n ops q (i + 1) l with
      | none => rw [hr] at hd; cases hd
      | some ss' =>
        rw [hr] at hd
        simp only [Option.map_some, Option.some.injEq] at hd
        subst hd
        obtain ⟨hop, hdst, hlt, hg⟩ := decSop_spec hs
        have hoi : ops[i]? = some o := by have := hl 0; simpa using this.symm
        have hl' : ∀ k, l[k]? = ops[i + 1 + k]? := fun k => by have := hl (k + 1); rw [List.getElem?_cons_succ] at this; rw [this]; congr 1; omega
        have hci : cls i = s.cls := by have := hcls 0 s rfl; simpa using this
        have hcls' : ∀ k s', ss'[k]? = some s' → cls (i + 1 + k) = s'.cls := fun k s' e => by have := hcls (k + 1) s' (by simpa using e); rw [← this]; congr 1; omega
        have step : ∀ (env : Env), Holds env a n → s.vc P (Env.ev env) H (fun v H' => vcOps P K ss' (Env.put env s.dst v) H') →
            (match cls i with
              | .pure => ∃ v, (∀ w, (execOp a.eval o).run P w = .ok (.value v) w) ∧ seqC P ops cls (fun a' H' => ∃ env', Holds env' a' n ∧ K env' H') (List.range' (i + 1) l.length) (a.put o.dst v) H
              | .quiet => ∃ v, Does P o a H (fun v' H' => v' = v ∧ H' = H) ∧ seqC P ops cls (fun a' H' => ∃ env', Holds env' a' n ∧ K env' H') (List.range' (i + 1) l.length) (a.put o.dst v) H
              | .acts => Does P o a H fun v H' => seqC P ops cls (fun a' H' => ∃ env', Holds env' a' n ∧ K env' H') (List.range' (i + 1) l.length) (a.put o.dst v) H') := by
          intro env hh h
          have next : ∀ v H', vcOps P K ss' (Env.put env s.dst v) H' → seqC P ops cls (fun a' H' => ∃ env', Holds env' a' n ∧ K env' H') (List.range' (i + 1) l.length) (a.put o.dst v) H' := by
            intro v H' hk
            rw [hdst] at hk
            exact ih (i + 1) ss' hl' hr hcls' _ _ _ (hh.put hlt v) hk
          rw [hci]
          unfold Sop.cls
          cases hc : s.op.cls with
          | pure =>
            have hp : s.op.vc P (Env.ev env) H (fun v H' => vcOps P K ss' (Env.put env s.dst v) H') := by
              unfold Sop.vc at h
              cases hq : s.quiet
              · rw [hq] at h; exact h
              · rw [hq] at h
                obtain ⟨v, h1, h2⟩ := h
                exact (vc_mono s.op hc h1 fun v' H' ⟨e1, e2⟩ => by rw [e1, e2]; exact h2)
            obtain ⟨v, e1, e2⟩ := (Go.Vc.sound s.op hop hh.tells hp).1 hc
            exact ⟨v, e1, next _ _ e2⟩
          | quiet =>
            unfold Sop.vc at h
            cases hq : s.quiet
            · rw [hq] at h
              obtain ⟨v, h1, h2⟩ := reads_vc s.op hc h
              exact ⟨v, (Go.Vc.sound s.op hop hh.tells h1).2, next _ _ h2⟩
            · rw [hq] at h
              obtain ⟨v, h1, h2⟩ := h
              exact ⟨v, (Go.Vc.sound s.op hop hh.tells h1).2, next _ _ h2⟩
          | acts =>
            unfold Sop.vc at h
            cases hq : s.quiet
            · rw [hq] at h; exact (Go.Vc.sound s.op hop hh.tells h).2.mono next
            · rw [hq] at h
              obtain ⟨v, h1, h2⟩ := h
              exact ⟨v, (Go.Vc.sound s.op hop hh.tells h1).2, next _ _ h2⟩
        rw [List.length_cons, List.range'_succ]
        simp only [seqC, stepC, hoi]
        unfold vcOps at h
        rcases hg with ⟨hg1, hg2⟩ | ⟨j, want, g, hg1, hg2, hg3⟩
        · rw [wanted_none hg1, if_pos rfl]
          rw [hg2] at h
          exact step env hh h
        · rw [hg3] at h
          rcases gV_spec h with ⟨b, hv, h⟩ | ⟨vs, hv, h⟩
          · have hwant := wanted_some (o := o) hg1 hg2 (hh.vals g _ hv)
            rw [hwant]
            have hh' := hh.guard hv
            cases hb : b == want
            · rw [hb] at h
              simp only [Cho] at h
              rw [if_neg (by simp)]
              rw [hdst] at h
              exact ih (i + 1) ss' hl' hr hcls' _ _ _ (hh'.put hlt undef) h
            · rw [hb] at h
              simp only [Cho] at h
              rw [if_pos rfl]
              exact step _ hh' h
          · rw [wanted_undef hg1 hg2 (hh.vals g _ hv), if_neg (by simp)]
            rw [hdst] at h
            exact ih (i + 1) ss' hl' hr hcls' _ _ _ (hh.put hlt undef) h

end
end Go.Vc
