/-
  Texts put behind each other by a program: Vc.
-/
import Derived.Orders
import Derived.Laws.Sem
import Derived.Laws.World
import Derived.KernelRfl
namespace Go.Vc
structure Tag {α : Sort _} (F : α) : Type where
abbrev Hp := Array Obj
structure Same (w w' : World) : Prop where
  os : w'.os = w.os
  output : w'.output = w.output
theorem Same.refl (w : World) : Same w w := ⟨rfl, rfl⟩
theorem Same.trans {a b c : World} (h : Same a b) (k : Same b c) : Same a c := ⟨k.os.trans h.os, k.output.trans h.output⟩
def CallH (P : Program) (f : FuncId) (args : List Value) (H : Hp) (K : Value → Hp → Prop) (_t : Tag K := ⟨⟩) : Prop :=
  ∀ w, w.heap = H → Calls P f args.toArray w fun e w' => ∃ v, e = .returned v ∧ Same w w' ∧ K v w'.heap
theorem CallH.mono {P : Program} {f : FuncId} {args : List Value} {H : Hp} {K K' : Value → Hp → Prop} (h : CallH P f args H K) (hk : ∀ v H', K v H' → K' v H') :
    CallH P f args H K' :=
  fun w hw => (h w hw).mono fun _ _ ⟨v, e, s, k⟩ => ⟨v, e, s, hk _ _ k⟩
def Does (P : Program) (o : Oper) (a : Act) (H : Hp) (K : Value → Hp → Prop) : Prop :=
  ∀ w, w.heap = H →
    (∃ v w', (execOp a.eval o).run P w = .ok (.value v) w' ∧ Same w w' ∧ K v w'.heap) ∨
    (∃ w', (execOp a.eval o).run P w = .ok .skip w' ∧ Same w w' ∧ K undef w'.heap) ∨
    (∃ f args w', (execOp a.eval o).run P w = .ok (.enter f args) w' ∧ Same w w' ∧ CallH P f args.toList w'.heap K)
theorem Does.mono {P : Program} {o : Oper} {a : Act} {H : Hp} {K K' : Value → Hp → Prop} (h : Does P o a H K) (hk : ∀ v H', K v H' → K' v H') : Does P o a H K' := by
  intro w hw
  rcases h w hw with ⟨v, w', h1, h2, h3⟩ | ⟨w', h1, h2, h3⟩ | ⟨f, args, w', h1, h2, h3⟩
  · exact .inl ⟨v, w', h1, h2, hk _ _ h3⟩
  · exact .inr (.inl ⟨w', h1, h2, hk _ _ h3⟩)
  · exact .inr (.inr ⟨f, args, w', h1, h2, h3.mono hk⟩)
theorem Does.wp {P : Program} {o : Oper} {a : Act} {H : Hp} {K : Value → Hp → Prop} {next : Act → World → Prop} {Q : Exit → Act → World → Prop} {w : World}
    (h : Does P o a H K) (hw : w.heap = H) (hn : ∀ v w', Same w w' → K v w'.heap → next (a.put o.dst v) w') : o.wp P a w next Q := by
  unfold Oper.wp
  rcases h w hw with ⟨v, w', h1, h2, h3⟩ | ⟨w', h1, h2, h3⟩ | ⟨f, args, w', h1, h2, h3⟩
  · rw [h1]; exact hn _ _ h2 h3
  · rw [h1]; exact hn _ _ h2 h3
  · rw [h1]
    have h4 := h3 w' rfl
    simp only [Array.toArray_toList] at h4
    show Calls P f args w' _
    refine h4.mono fun e w'' he => ?_
    obtain ⟨v, rfl, hs, hk⟩ := he
    exact hn _ _ (h2.trans hs) hk
def seqD (P : Program) (ops : Array Oper) (K : Act → Hp → Prop) : List Nat → Act → Hp → Prop
  | [], a, H => K a H
  | i :: r, a, H =>
    match ops[i]? with
    | none => seqD P ops K r a H
    | some o => if Region.wanted o (yielded ops a.tmps) then Does P o a H (fun v H' => seqD P ops K r (a.put o.dst v) H') else seqD P ops K r (a.put o.dst undef) H
theorem wpOps_of_seqD {P : Program} {ops : Array Oper} {K : Act → Hp → Prop} {Q : Exit → Act → World → Prop} {w₀ : World}
    (hQ : ∀ a w, Same w₀ w → K a w.heap → Q .normal a w) : ∀ (l : List Nat) (a : Act) (w : World), Same w₀ w → seqD P ops K l a w.heap → wpOps P ops Q l a w := by
  intro l
  induction l with
  | nil => intro a w hs h; exact hQ a w hs h
  | cons i r ih =>
    intro a w hs h
    simp only [wpOps, seqD] at *
    cases ho : ops[i]? with
    | none => rw [ho] at h; exact ih _ _ hs h
    | some o =>
      rw [ho] at h
      simp only at h ⊢
      split
      · rename_i hw
        rw [if_pos hw] at h
        exact .inl (h.wp rfl fun v w' hs' hk => ih _ _ (hs.trans hs') hk)
      · rename_i hw
        rw [if_neg hw] at h
        exact ih _ _ hs h
inductive Cls where
  | pure | quiet | acts
  deriving DecidableEq, Inhabited
def stepC (P : Program) (ops : Array Oper) (cls : Nat → Cls) (i : Nat) (K : Act → Hp → Prop) (a : Act) (H : Hp) : Prop :=
  match ops[i]? with
  | none => K a H
  | some o =>
    if Region.wanted o (yielded ops a.tmps) then
      match cls i with
      | .pure => ∃ v, (∀ w, (execOp a.eval o).run P w = .ok (.value v) w) ∧ K (a.put o.dst v) H
      | .quiet => ∃ v, Does P o a H (fun v' H' => v' = v ∧ H' = H) ∧ K (a.put o.dst v) H
      | .acts => Does P o a H fun v H' => K (a.put o.dst v) H'
    else K (a.put o.dst undef) H
theorem stepC_mono {P : Program} {ops : Array Oper} {cls : Nat → Cls} {i : Nat} {K K' : Act → Hp → Prop} {a : Act} {H : Hp} (hk : ∀ a H, K a H → K' a H)
    (h : stepC P ops cls i K a H) : stepC P ops cls i K' a H := by
  unfold stepC at *
  split
  · exact hk _ _ (by simpa [*] using h)
  · rename_i o ho
    simp only [ho] at h
    split
    · rename_i hw
      rw [if_pos hw] at h
      cases hc : cls i with
      | pure => rw [hc] at h; obtain ⟨v, h1, h2⟩ := h; exact ⟨v, h1, hk _ _ h2⟩
      | quiet => rw [hc] at h; obtain ⟨v, h1, h2⟩ := h; exact ⟨v, h1, hk _ _ h2⟩
      | acts => rw [hc] at h; exact h.mono fun v H' => hk _ _
    · rename_i hw; rw [if_neg hw] at h; exact hk _ _ h
theorem does_of_pure {P : Program} {o : Oper} {a : Act} {v : Value} (h : ∀ w, (execOp a.eval o).run P w = .ok (.value v) w) (H : Hp) :
    Does P o a H fun v' H' => v' = v ∧ H' = H := fun w hw => .inl ⟨v, w, h w, Same.refl w, rfl, hw⟩
theorem wpOp_of_stepC {P : Program} {ops : Array Oper} {cls : Nat → Cls} {i : Nat} {K : Act → Hp → Prop} {a : Act} {w : World} {K' : Act → World → Prop}
    {Q : Exit → Act → World → Prop} (hk : ∀ a w', Same w w' → K a w'.heap → K' a w') (h : stepC P ops cls i K a w.heap) : wpOp P ops Q i K' a w := by
  unfold stepC at h
  unfold wpOp
  split
  · rename_i ho; rw [ho] at h; exact hk _ _ (Same.refl w) h
  · rename_i o ho
    simp only [ho] at h
    split
    · rename_i hw
      rw [if_pos hw] at h
      refine .inl ?_
      cases hc : cls i with
      | pure =>
        rw [hc] at h
        obtain ⟨v, h1, h2⟩ := h
        exact (does_of_pure h1 w.heap).wp rfl fun v' w' hs ⟨e1, e2⟩ => by subst e1; exact hk _ _ hs (e2 ▸ h2)
      | quiet =>
        rw [hc] at h
        obtain ⟨v, h1, h2⟩ := h
        exact h1.wp rfl fun v' w' hs ⟨e1, e2⟩ => by subst e1; exact hk _ _ hs (e2 ▸ h2)
      | acts => rw [hc] at h; exact h.wp rfl fun v' w' hs hk' => hk _ _ hs hk'
    · rename_i hw; rw [if_neg hw] at h; exact hk _ _ (Same.refl w) h
def anyC (P : Program) (ops : Array Oper) (cls : Nat → Cls) (K : Act → Hp → Prop) : Nat → Array Bool → Act → Hp → Prop
  | 0, listed, a, H => Region.ready .any ops listed = [] ∧ K a H
  | fuel + 1, listed, a, H =>
    (Region.ready .any ops listed = [] → K a H) ∧
    ∀ i ∈ Region.ready .any ops listed, stepC P ops cls i (anyC P ops cls K fuel (listed.setIfInBounds i true)) a H
theorem wpAny_of_anyC {P : Program} {ops : Array Oper} {cls : Nat → Cls} {K : Act → Hp → Prop} {Q : Exit → Act → World → Prop} {w₀ : World}
    (hQ : ∀ a w, Same w₀ w → K a w.heap → Q .normal a w) : ∀ (fuel : Nat) (listed : Array Bool) (a : Act) (w : World), Same w₀ w →
      anyC P ops cls K fuel listed a w.heap → wpAny P .any ops Q fuel listed a w := by
  intro fuel
  induction fuel with
  | zero => intro listed a w hs h; exact ⟨h.1, hQ _ _ hs h.2⟩
  | succ fuel ih =>
    intro listed a w hs h
    exact ⟨fun hr => hQ _ _ hs (h.1 hr), fun i hi => wpOp_of_stepC (fun a' w' hs' hk => ih _ _ _ (hs.trans hs') hk) (h.2 i hi)⟩
def Cls.swaps : Cls → Cls → Bool
  | .pure, _ => true
  | _, .pure => true
  | .quiet, .quiet => true
  | _, _ => false
section
variable {P : Program} {ops : Array Oper} {cls : Nat → Cls}
theorem exists_world (H : Hp) : ∃ w : World, w.heap = H := ⟨{ (default : World) with heap := H }, rfl⟩
theorem wanted_true_or {o : Oper} {y : Nat → Option Bool} : Region.wanted o y = true ∨ Region.wanted o y = false := by cases Region.wanted o y <;> simp
theorem does_put {o : Oper} {a : Act} {dst : Option Tmp} {u : Value} (hs : ∀ cs b, o.op ≠ .select cs b) (h : ∀ d, dst = some d → d ∉ o.looksAt ops) {H : Hp} {K : Value → Hp → Prop} :
    Does P o (a.put dst u) H K ↔ Does P o a H K := by
  unfold Does
  rw [execOp_put (ops := ops) o hs a dst u h]
theorem swapC {i j : Nat} {oi oj : Oper} (hi : ops[i]? = some oi) (hj : ops[j]? = some oj) (hap : oi.apart ops oj = true) (hsw : (cls i).swaps (cls j) = true)
    (hsi : ∀ cs b, oi.op ≠ .select cs b) (hsj : ∀ cs b, oj.op ≠ .select cs b) {K : Act → Hp → Prop} {a : Act} {H : Hp}
    (h : stepC P ops cls i (fun a' H' => stepC P ops cls j K a' H') a H) : stepC P ops cls j (fun a' H' => stepC P ops cls i K a' H') a H := by
  obtain ⟨h1, h2, h3⟩ := Oper.apart_spec hap
  have wi : ∀ u, Region.wanted oi (yielded ops (a.put oj.dst u).tmps) = Region.wanted oi (yielded ops a.tmps) := fun u => wanted_put oi a oj.dst u h3
  have wj : ∀ u, Region.wanted oj (yielded ops (a.put oi.dst u).tmps) = Region.wanted oj (yielded ops a.tmps) := fun u => wanted_put oj a oi.dst u h1
  have ei : ∀ u, execOp (a.put oj.dst u).eval oi = execOp a.eval oi := fun u => execOp_put oi hsi a oj.dst u h3
  have ej : ∀ u, execOp (a.put oi.dst u).eval oj = execOp a.eval oj := fun u => execOp_put oj hsj a oi.dst u h1
  have cm : ∀ v u, (a.put oi.dst v).put oj.dst u = (a.put oj.dst u).put oi.dst v := fun v u => Act.put_comm a v u h2
  unfold stepC at *
  simp only [hi, hj] at *
  simp only [wi, wj, ei, ej, cm, does_put (P := P) hsi h3, does_put (P := P) hsj h1] at *
  rcases wanted_true_or (o := oi) (y := yielded ops a.tmps) with hwi | hwi <;> rcases wanted_true_or (o := oj) (y := yielded ops a.tmps) with hwj | hwj <;>
    simp only [hwi, hwj, if_true, if_false, Bool.false_eq_true] at *
  · cases hci : cls i <;> cases hcj : cls j <;> simp only [hci, hcj, Cls.swaps, Bool.false_eq_true] at h hsw ⊢
    · obtain ⟨v, e1, u, e2, k⟩ := h; exact ⟨u, e2, v, e1, k⟩
    · obtain ⟨v, e1, u, e2, k⟩ := h; exact ⟨u, e2, v, e1, k⟩
    · obtain ⟨v, e1, k⟩ := h; exact k.mono fun u H' k' => ⟨v, e1, k'⟩
    · obtain ⟨v, e1, u, e2, k⟩ := h; exact ⟨u, e2, v, e1, k⟩
    · obtain ⟨v, e1, u, e2, k⟩ := h; exact ⟨u, e2, v, e1, k⟩
    · obtain ⟨w, hw⟩ := exists_world H
      have pick : ∃ u, ∀ w, (execOp a.eval oj).run P w = .ok (.value u) w := by
        rcases h w hw with ⟨v, w', _, _, u, e, _⟩ | ⟨w', _, _, u, e, _⟩ | ⟨f, args, w', _, _, hc⟩
        · exact ⟨u, e⟩
        · exact ⟨u, e⟩
        · obtain ⟨e, w'', fr, ⟨v, _, _, u, eu, _⟩, _⟩ := hc w' rfl []
          exact ⟨u, eu⟩
      obtain ⟨u, eu⟩ := pick
      refine ⟨u, eu, h.mono fun v H' ⟨u', eu', k⟩ => ?_⟩
      have := eu w
      rw [eu' w] at this
      injection this with h1 h2
      injection h1 with h1
      exact h1 ▸ k
  · cases hci : cls i <;> simp only [hci] at h ⊢ <;> exact h
  · cases hcj : cls j <;> simp only [hcj] at h ⊢ <;> exact h
  · exact h
def Closed (ops : Array Oper) (listed : Array Bool) : Prop :=
  ∀ k ok, ops[k]? = some ok → listed.getD k false = true → ∀ e ∈ ok.after, Region.binds .any e = true → listed.getD e.on false = true
theorem Closed.set {listed : Array Bool} (h : Closed ops listed) {i : Nat} (hi : i ∈ Region.ready .any ops listed) : Closed ops (listed.setIfInBounds i true) := by
  intro k ok hk hl e he hb
  by_cases hik : i = k
  · subst hik
    obtain ⟨_, o, ho, hall⟩ := mem_ready.1 hi
    rw [hk] at ho
    injection ho with ho
    subst ho
    exact getD_set_true (hall e he hb)
  · rw [getD_set_ne false hik] at hl
    exact getD_set_true (h k ok hk hl e he hb)
def up (anc : Array Nat) (o : Oper) : Nat := o.after.toList.foldl (fun s e => if Region.binds .any e then s ||| (2 ^ e.on ||| anc.getD e.on 0) else s) 0
theorem testBit_up {anc : Array Nat} {i : Nat} : ∀ (l : List Edge) (s : Nat),
    (l.foldl (fun s e => if Region.binds .any e then s ||| (2 ^ e.on ||| anc.getD e.on 0) else s) s).testBit i = true →
      s.testBit i = true ∨ ∃ e ∈ l, Region.binds .any e = true ∧ (e.on = i ∨ (anc.getD e.on 0).testBit i = true) := by
  intro l
  induction l with
  | nil => intro s h; exact .inl h
  | cons e l ih =>
    intro s h
    rw [List.foldl_cons] at h
    rcases ih _ h with h | ⟨x, hx, h⟩
    · split at h
      · rename_i hb
        rw [Nat.testBit_or, Nat.testBit_or, Nat.testBit_two_pow] at h
        simp only [Bool.or_eq_true, decide_eq_true_eq] at h
        rcases h with h | h | h
        · exact .inl h
        · exact .inr ⟨e, List.mem_cons_self, hb, .inl h⟩
        · exact .inr ⟨e, List.mem_cons_self, hb, .inr h⟩
      · exact .inl h
    · exact .inr ⟨x, List.mem_cons_of_mem _ hx, h⟩
def ancOk (ops : Array Oper) (anc : Array Nat) : Bool :=
  (List.range ops.size).all fun j =>
    match ops[j]? with
    | none => false
    | some oj => oj.after.all (fun e => !Region.binds .any e || decide (e.on < j)) && (anc.getD j 0 ||| up anc oj == up anc oj)
theorem anc_listed {anc : Array Nat} (h : ancOk ops anc = true) {listed : Array Bool} (hc : Closed ops listed) {i : Nat} : ∀ (j : Nat) (oj : Oper), ops[j]? = some oj →
    (∀ e ∈ oj.after, Region.binds .any e = true → listed.getD e.on false = true) → (anc.getD j 0).testBit i = true → listed.getD i false = true := by
  intro j
  induction j using Nat.strongRecOn with
  | _ j ih =>
    intro oj hj hall hb
    have hlt : j < ops.size := (Array.getElem?_eq_some_iff.1 hj).1
    have h1 := (List.all_eq_true.1 h) j (List.mem_range.2 hlt)
    simp only [hj, Bool.and_eq_true, beq_iff_eq] at h1
    obtain ⟨hlo, hor⟩ := h1
    have hu : (up anc oj).testBit i = true := by rw [← hor, Nat.testBit_or, hb, Bool.true_or]
    rcases testBit_up _ _ hu with h0 | ⟨e, he, hbd, h2⟩
    · simp at h0
    · have hem : e ∈ oj.after := by simpa using he
      have hl := hall e hem hbd
      rcases h2 with h2 | h2
      · exact h2 ▸ hl
      · have hlt' : e.on < j := by
          have := (Array.all_eq_true_iff_forall_mem.1 hlo) e hem
          simpa [hbd] using this
        cases hoe : ops[e.on]? with
        | none =>
          have : ops.size ≤ e.on := by simpa using hoe
          omega
        | some oe => exact ih e.on hlt' oe hoe (hc e.on oe hoe hl) h2
def swapsOk (ops : Array Oper) (anc : Array Nat) (cls : Nat → Cls) : Bool :=
  (List.range ops.size).all fun j =>
    match ops[j]? with
    | none => false
    | some oj => (List.range j).all fun i => (anc.getD j 0).testBit i ||
        match ops[i]? with
        | none => false
        | some oi => oi.apart ops oj && (cls i).swaps (cls j)
theorem swapsOk_spec {anc : Array Nat} (h : swapsOk ops anc cls = true) {i j : Nat} {oi oj : Oper} (hi : ops[i]? = some oi) (hj : ops[j]? = some oj) (hij : i < j)
    (hn : (anc.getD j 0).testBit i = false) : oi.apart ops oj = true ∧ (cls i).swaps (cls j) = true := by
  have hlt : j < ops.size := (Array.getElem?_eq_some_iff.1 hj).1
  have h1 := (List.all_eq_true.1 h) j (List.mem_range.2 hlt)
  simp only [hj, List.all_eq_true, List.mem_range] at h1
  have h2 := h1 i hij
  simp only [hi, hn, Bool.false_or, Bool.and_eq_true] at h2
  exact h2
theorem anyC_first {anc : Array Nat} (hanc : ancOk ops anc = true) (hsw : swapsOk ops anc cls = true) {K : Act → Hp → Prop} {i : Nat} {oi : Oper} (hi : ops[i]? = some oi)
    (hsel : ∀ (j : Nat) (o : Oper) cs b, ops[j]? = some o → o.op ≠ .select cs b) :
    ∀ (fuel : Nat) (listed : Array Bool) (a : Act) (H : Hp), Closed ops listed → (∀ j, j < i → listed.getD j false = true) →
      i ∈ Region.ready .any ops listed →
      stepC P ops cls i (anyC P ops cls K fuel (listed.setIfInBounds i true)) a H → anyC P ops cls K (fuel + 1) listed a H := by
  intro fuel
  induction fuel with
  | zero =>
    intro listed a H _ _ hr h
    refine ⟨fun h0 => (by rw [h0] at hr; cases hr), fun j hj => ?_⟩
    by_cases hji : j = i
    · subst hji; exact h
    · exfalso
      have hready : Region.ready .any ops (listed.setIfInBounds i true) = [] := by
        unfold stepC at h
        simp only [hi] at h
        split at h
        · cases hc : cls i <;> simp only [hc] at h
          · obtain ⟨v, _, k⟩ := h; exact k.1
          · obtain ⟨v, _, k⟩ := h; exact k.1
          · obtain ⟨w, hw⟩ := exists_world H
            rcases h w hw with ⟨v, w', _, _, k⟩ | ⟨w', _, _, k⟩ | ⟨f, args, w', _, _, hc⟩
            · exact k.1
            · exact k.1
            · obtain ⟨e, w'', fr, ⟨v, _, _, k⟩, _⟩ := hc w' rfl []
              exact k.1
        · exact h.1
      have := ready_mono hj hji
      rw [hready] at this
      cases this
  | succ fuel ih =>
    intro listed a H hcl hlow hr h
    refine ⟨fun h0 => (by rw [h0] at hr; cases hr), fun j hj => ?_⟩
    by_cases hji : j = i
    · subst hji; exact h
    · obtain ⟨hjun, oj, hoj, hall⟩ := mem_ready.1 hj
      have hiun := (mem_ready.1 hr).1
      have hjs : listed.getD j false = false := by
        rcases Nat.lt_or_ge j listed.size with h' | h'
        · simpa [h'] using hjun
        · simp [Array.getElem?_eq_none h']
      have his : listed.getD i false = false := by
        rcases Nat.lt_or_ge i listed.size with h' | h'
        · simpa [h'] using hiun
        · simp [Array.getElem?_eq_none h']
      have hij : i < j := by
        rcases Nat.lt_or_ge i j with h' | h'
        · exact h'
        · have h1 := hlow j (by omega)
          rw [hjs] at h1; cases h1
      have hnot : (anc.getD j 0).testBit i = false := by
        cases hb : (anc.getD j 0).testBit i with
        | false => rfl
        | true => have := anc_listed hanc hcl j oj hoj hall hb; rw [his] at this; cases this
      obtain ⟨hap, hswij⟩ := swapsOk_spec hsw hi hoj hij hnot
      have h2 : stepC P ops cls i (fun a' H' => stepC P ops cls j (anyC P ops cls K fuel ((listed.setIfInBounds i true).setIfInBounds j true)) a' H') a H :=
        stepC_mono (fun a' H' hk => hk.2 j (ready_mono hj hji)) h
      have h3 := swapC hi hoj hap hswij (fun cs b => hsel i oi cs b hi) (fun cs b => hsel j oj cs b hoj) h2
      refine stepC_mono (fun a' H' hk => ?_) h3
      refine ih (listed.setIfInBounds j true) a' H' (hcl.set hj) (fun k hk' => getD_set_true (hlow k hk')) (ready_mono hr (Ne.symm hji)) ?_
      rw [Array.setIfInBounds_comm _ _ hji]; exact hk
def seqC (P : Program) (ops : Array Oper) (cls : Nat → Cls) (K : Act → Hp → Prop) : List Nat → Act → Hp → Prop
  | [], a, H => K a H
  | i :: r, a, H => stepC P ops cls i (seqC P ops cls K r) a H
theorem anyC_of_seqC {anc : Array Nat} (hanc : ancOk ops anc = true) (hsw : swapsOk ops anc cls = true) (hsel : Region.noSelect ops = true) {K : Act → Hp → Prop} :
    ∀ (m k : Nat) (listed : Array Bool) (a : Act) (H : Hp), k + m = ops.size → listed.size = ops.size → (∀ j, listed.getD j false = decide (j < k)) →
      seqC P ops cls K (List.range' k m) a H → anyC P ops cls K m listed a H := by
  intro m
  induction m with
  | zero =>
    intro k listed a H hk hs hl h
    refine ⟨?_, h⟩
    refine List.eq_nil_iff_forall_not_mem.2 fun j hj => ?_
    obtain ⟨h0, o, ho, _⟩ := mem_ready.1 hj
    have hlt : j < ops.size := (Array.getElem?_eq_some_iff.1 ho).1
    have h1 := hl j
    rw [decide_eq_true (by omega)] at h1
    simp [show j < listed.size by omega] at h0 h1
    rw [h0] at h1; cases h1
  | succ m ih =>
    intro k listed a H hk hs hl h
    have hlt : k < ops.size := by omega
    obtain ⟨o, ho⟩ : ∃ o, ops[k]? = some o := ⟨ops[k], by simp [hlt]⟩
    have hclosed : Closed ops listed := by
      intro x ox hx hlx e he hb
      have hx1 : x < ops.size := (Array.getElem?_eq_some_iff.1 hx).1
      have h1 := (List.all_eq_true.1 hanc) x (List.mem_range.2 hx1)
      simp only [hx, Bool.and_eq_true] at h1
      have h2 := (Array.all_eq_true_iff_forall_mem.1 h1.1) e he
      simp only [hb, Bool.not_true, Bool.false_or, decide_eq_true_eq] at h2
      rw [hl x, decide_eq_true_eq] at hlx
      rw [hl e.on]
      exact decide_eq_true (by omega)
    have hready : k ∈ Region.ready .any ops listed := by
      refine mem_ready.2 ⟨?_, o, ho, fun e he hb => ?_⟩
      · have h1 := hl k
        rw [decide_eq_false (by omega)] at h1
        simpa [show k < listed.size by omega] using h1
      · have h1 := (List.all_eq_true.1 hanc) k (List.mem_range.2 hlt)
        simp only [ho, Bool.and_eq_true] at h1
        have h2 := (Array.all_eq_true_iff_forall_mem.1 h1.1) e he
        simp only [hb, Bool.not_true, Bool.false_or, decide_eq_true_eq] at h2
        rw [hl e.on]; exact decide_eq_true h2
    refine anyC_first hanc hsw ho (Region.noSelect_spec hsel) m listed a H hclosed (fun j hj => by rw [hl j]; exact decide_eq_true hj) hready ?_
    rw [List.range'_succ] at h
    simp only [seqC] at h
    refine stepC_mono (fun a' H' hk' => ih (k + 1) _ a' H' (by omega) (by simpa using hs) (fun j => ?_) hk') h
    by_cases hkj : k = j
    · subst hkj
      simp [show k < listed.size by omega]
    · rw [getD_set_ne false hkj, hl j]
      by_cases hjk : j < k
      · rw [decide_eq_true hjk, decide_eq_true (by omega)]
      · rw [decide_eq_false hjk, decide_eq_false (by omega)]
theorem wp_region_seqC {id : Nat} {anc : Array Nat} (hm : P.follows .mixedOrders = true) (hanc : ancOk ops anc = true) (hsw : swapsOk ops anc cls = true)
    (hsel : Region.noSelect ops = true) {K : Act → Hp → Prop} {Q : Exit → Act → World → Prop} {a : Act} {w : World}
    (hQ : ∀ a' w', Same w w' → K a' w'.heap → Q .normal a' w') (h : seqC P ops cls K (List.range ops.size) a w.heap) : (Code.region id ops true).wp P Q a w := by
  refine wp_region_any hm ?_
  refine wpAny_of_anyC (cls := cls) (K := K) (w₀ := w) hQ _ _ _ _ ⟨rfl, rfl⟩ ?_
  refine anyC_of_seqC hanc hsw hsel ops.size 0 _ _ _ (by omega) (by simp) (fun j => ?_) (by rw [List.range_eq_range'] at h; exact h)
  simp only [Nat.not_lt_zero, decide_false]
  by_cases hj : j < ops.size <;> simp [hj]
theorem wp_region_seqD {id : Nat} {K : Act → Hp → Prop} {Q : Exit → Act → World → Prop} {a : Act} {w : World}
    (hQ : ∀ a' w', Same w w' → K a' w'.heap → Q .normal a' w') (h : seqD P ops K (List.range ops.size) a w.heap) : (Code.region id ops false).wp P Q a w :=
  wp_region (wpOps_of_seqD hQ _ _ _ (Same.refl w) h)
inductive Ot where
  | done
  | step (i : Nat) (t : Ot)
  | fork (i : Nat) (t r : Ot)
  | stop
  deriving Inhabited
def stepI (P : Program) (ops : Array Oper) (Inv : Hp → Prop) (st : Nat → Bool) (i : Nat) (K : Act → Hp → Prop) (a : Act) (H : Hp) : Prop :=
  match ops[i]? with
  | none => K a H
  | some o =>
    if Region.wanted o (yielded ops a.tmps) then
      match st i with
      | true => ∃ v, (∀ H', Inv H' → Does P o a H' fun v' H'' => v' = v ∧ H'' = H') ∧ K (a.put o.dst v) H
      | false => Does P o a H fun v H' => Inv H' ∧ K (a.put o.dst v) H'
    else K (a.put o.dst undef) H
variable {Inv : Hp → Prop} {st : Nat → Bool}
theorem stepI_mono {i : Nat} {K K' : Act → Hp → Prop} {a : Act} {H : Hp} (hI : Inv H) (hk : ∀ a H, Inv H → K a H → K' a H)
    (h : stepI P ops Inv st i K a H) : stepI P ops Inv st i K' a H := by
  unfold stepI at *
  split
  · exact hk _ _ hI (by simpa [*] using h)
  · rename_i o ho
    simp only [ho] at h
    split
    · rename_i hw
      rw [if_pos hw] at h
      cases hc : st i with
      | true => rw [hc] at h; obtain ⟨v, h1, h2⟩ := h; exact ⟨v, h1, hk _ _ hI h2⟩
      | false => rw [hc] at h; exact h.mono fun v H' ⟨k1, k2⟩ => ⟨k1, hk _ _ k1 k2⟩
    · rename_i hw; rw [if_neg hw] at h; exact hk _ _ hI h
theorem wpOp_of_stepI {i : Nat} {K : Act → Hp → Prop} {a : Act} {w : World} {K' : Act → World → Prop}
    {Q : Exit → Act → World → Prop} (hI : Inv w.heap) (hk : ∀ a w', Same w w' → Inv w'.heap → K a w'.heap → K' a w') (h : stepI P ops Inv st i K a w.heap) : wpOp P ops Q i K' a w := by
  unfold stepI at h
  unfold wpOp
  split
  · rename_i ho; rw [ho] at h; exact hk _ _ (Same.refl w) hI h
  · rename_i o ho
    simp only [ho] at h
    split
    · rename_i hw
      rw [if_pos hw] at h
      refine .inl ?_
      cases hc : st i with
      | true =>
        rw [hc] at h
        obtain ⟨v, h1, h2⟩ := h
        exact (h1 w.heap hI).wp rfl fun v' w' hs ⟨e1, e2⟩ => by subst e1; exact hk _ _ hs (e2 ▸ hI) (e2 ▸ h2)
      | false => rw [hc] at h; exact h.wp rfl fun v' w' hs ⟨k1, k2⟩ => hk _ _ hs k1 k2
    · rename_i hw; rw [if_neg hw] at h; exact hk _ _ (Same.refl w) hI h
def anyI (P : Program) (ops : Array Oper) (Inv : Hp → Prop) (st : Nat → Bool) (K : Act → Hp → Prop) : Nat → Array Bool → Act → Hp → Prop
  | 0, listed, a, H => Region.ready .any ops listed = [] ∧ K a H
  | fuel + 1, listed, a, H =>
    (Region.ready .any ops listed = [] → K a H) ∧
    ∀ i ∈ Region.ready .any ops listed, stepI P ops Inv st i (anyI P ops Inv st K fuel (listed.setIfInBounds i true)) a H
theorem wpAny_of_anyI {K : Act → Hp → Prop} {Q : Exit → Act → World → Prop} {w₀ : World}
    (hQ : ∀ a w, Same w₀ w → K a w.heap → Q .normal a w) : ∀ (fuel : Nat) (listed : Array Bool) (a : Act) (w : World), Same w₀ w → Inv w.heap →
      anyI P ops Inv st K fuel listed a w.heap → wpAny P .any ops Q fuel listed a w := by
  intro fuel
  induction fuel with
  | zero => intro listed a w hs _ h; exact ⟨h.1, hQ _ _ hs h.2⟩
  | succ fuel ih =>
    intro listed a w hs hI h
    exact ⟨fun hr => hQ _ _ hs (h.1 hr), fun i hi => wpOp_of_stepI hI (fun a' w' hs' hI' hk => ih _ _ _ (hs.trans hs') hI' hk) (h.2 i hi)⟩
theorem swapI {i j : Nat} {oi oj : Oper} (hi : ops[i]? = some oi) (hj : ops[j]? = some oj) (hap : oi.apart ops oj = true) (hst : st i = true)
    (hsi : ∀ cs b, oi.op ≠ .select cs b) (hsj : ∀ cs b, oj.op ≠ .select cs b) {K : Act → Hp → Prop} {a : Act} {H : Hp}
    (h : stepI P ops Inv st i (fun a' H' => stepI P ops Inv st j K a' H') a H) : stepI P ops Inv st j (fun a' H' => stepI P ops Inv st i K a' H') a H := by
  obtain ⟨h1, h2, h3⟩ := Oper.apart_spec hap
  have wi : ∀ u, Region.wanted oi (yielded ops (a.put oj.dst u).tmps) = Region.wanted oi (yielded ops a.tmps) := fun u => wanted_put oi a oj.dst u h3
  have wj : ∀ u, Region.wanted oj (yielded ops (a.put oi.dst u).tmps) = Region.wanted oj (yielded ops a.tmps) := fun u => wanted_put oj a oi.dst u h1
  have cm : ∀ v u, (a.put oi.dst v).put oj.dst u = (a.put oj.dst u).put oi.dst v := fun v u => Act.put_comm a v u h2
  unfold stepI at *
  simp only [hi, hj, hst] at *
  simp only [wi, wj, cm, does_put (P := P) hsi h3, does_put (P := P) hsj h1] at *
  rcases wanted_true_or (o := oi) (y := yielded ops a.tmps) with hwi | hwi <;> rcases wanted_true_or (o := oj) (y := yielded ops a.tmps) with hwj | hwj <;>
    simp only [hwi, hwj, if_true, if_false, Bool.false_eq_true] at *
  · cases hcj : st j <;> simp only [hcj] at h ⊢
    · obtain ⟨v, e1, k⟩ := h; exact k.mono fun u H' ⟨k1, k2⟩ => ⟨k1, v, e1, k2⟩
    · obtain ⟨v, e1, u, e2, k⟩ := h; exact ⟨u, e2, v, e1, k⟩
  · exact h
  · cases hcj : st j <;> simp only [hcj] at h ⊢ <;> exact h
  · exact h
def freeFirst (ops : Array Oper) (anc : Array Nat) (st : Nat → Bool) (listed : Array Bool) (i : Nat) : Bool :=
  st i && match ops[i]? with
  | none => false
  | some oi => (List.range ops.size).all fun j => j == i || listed.getD j false || (anc.getD j 0).testBit i ||
      match ops[j]? with
      | none => false
      | some oj => oi.apart ops oj
def okT (ops : Array Oper) (anc : Array Nat) (st : Nat → Bool) : Ot → Array Bool → List Nat → Bool
  | .done, listed, _ => (Region.ready .any ops listed).isEmpty
  | .step i t, listed, _ => (Region.ready .any ops listed).contains i && freeFirst ops anc st listed i && okT ops anc st t (listed.setIfInBounds i true) []
  | .fork i t r, listed, hd => (Region.ready .any ops listed).contains i && okT ops anc st t (listed.setIfInBounds i true) [] && okT ops anc st r listed (i :: hd)
  | .stop, listed, hd => !(Region.ready .any ops listed).isEmpty && (Region.ready .any ops listed).all (hd.contains ·)
def seqT (P : Program) (ops : Array Oper) (Inv : Hp → Prop) (st : Nat → Bool) (K : Act → Hp → Prop) : Ot → Act → Hp → Prop
  | .done, a, H => K a H
  | .step i t, a, H => stepI P ops Inv st i (seqT P ops Inv st K t) a H
  | .fork i t r, a, H => stepI P ops Inv st i (seqT P ops Inv st K t) a H ∧ seqT P ops Inv st K r a H
  | .stop, _, _ => True
theorem getD_mono {listed : Array Bool} {i j : Nat} (h : listed.getD j false = true) : (listed.setIfInBounds i true).getD j false = true := getD_set_true h
theorem freeFirst_mono {anc : Array Nat} {listed : Array Bool} {i j : Nat} (h : freeFirst ops anc st listed i = true) : freeFirst ops anc st (listed.setIfInBounds j true) i = true := by
  unfold freeFirst at *
  rw [Bool.and_eq_true] at *
  refine ⟨h.1, ?_⟩
  have h := h.2
  split at h
  · cases h
  · rename_i oi ho
    rw [List.all_eq_true] at *
    intro k hk
    have := h k hk
    simp only [Bool.or_eq_true] at this ⊢
    rcases this with ((h | h) | h) | h
    · exact .inl (.inl (.inl h))
    · exact .inl (.inl (.inr (getD_mono h)))
    · exact .inl (.inr h)
    · exact .inr h
theorem unlisted_of_ready {listed : Array Bool} {i : Nat} (h : i ∈ Region.ready .any ops listed) : listed.getD i false = false := by
  obtain ⟨hun, _⟩ := mem_ready.1 h
  rcases Nat.lt_or_ge i listed.size with h' | h'
  · simpa [h'] using hun
  · simp [Array.getElem?_eq_none h']
theorem anyI_free {anc : Array Nat} (hanc : ancOk ops anc = true) {K : Act → Hp → Prop} {i : Nat} {oi : Oper} (hi : ops[i]? = some oi)
    (hsel : ∀ (j : Nat) (o : Oper) cs b, ops[j]? = some o → o.op ≠ .select cs b) :
    ∀ (fuel : Nat) (listed : Array Bool) (a : Act) (H : Hp), Inv H → Closed ops listed → freeFirst ops anc st listed i = true →
      i ∈ Region.ready .any ops listed →
      stepI P ops Inv st i (anyI P ops Inv st K fuel (listed.setIfInBounds i true)) a H → anyI P ops Inv st K (fuel + 1) listed a H := by
  intro fuel
  induction fuel with
  | zero =>
    intro listed a H hI _ hfree hr h
    refine ⟨fun h0 => (by rw [h0] at hr; cases hr), fun j hj => ?_⟩
    by_cases hji : j = i
    · subst hji; exact h
    · exfalso
      have hst : st i = true := by unfold freeFirst at hfree; rw [Bool.and_eq_true] at hfree; exact hfree.1
      have hready : Region.ready .any ops (listed.setIfInBounds i true) = [] := by
        unfold stepI at h
        simp only [hi, hst] at h
        split at h
        · obtain ⟨v, _, k⟩ := h; exact k.1
        · exact h.1
      have := ready_mono hj hji
      rw [hready] at this
      cases this
  | succ fuel ih =>
    intro listed a H hI hcl hfree hr h
    refine ⟨fun h0 => (by rw [h0] at hr; cases hr), fun j hj => ?_⟩
    by_cases hji : j = i
    · subst hji; exact h
    · obtain ⟨hjun, oj, hoj, hall⟩ := mem_ready.1 hj
      have hjs := unlisted_of_ready hj
      have his := unlisted_of_ready hr
      have hst : st i = true := by have hf := hfree; unfold freeFirst at hf; rw [Bool.and_eq_true] at hf; exact hf.1
      have hnot : (anc.getD j 0).testBit i = false := by
        cases hb : (anc.getD j 0).testBit i with
        | false => rfl
        | true => have := anc_listed hanc hcl j oj hoj hall hb; rw [his] at this; cases this
      have hap : oi.apart ops oj = true := by
        have hf := hfree
        unfold freeFirst at hf
        rw [Bool.and_eq_true] at hf
        have hf := hf.2
        rw [hi] at hf
        simp only at hf
        have hlt : j < ops.size := (Array.getElem?_eq_some_iff.1 hoj).1
        have := (List.all_eq_true.1 hf) j (List.mem_range.2 hlt)
        have hne : (j == i) = false := by simpa using hji
        simp only [hoj, hnot, hjs, hne, Bool.false_or] at this
        exact this
      have h2 : stepI P ops Inv st i (fun a' H' => stepI P ops Inv st j (anyI P ops Inv st K fuel ((listed.setIfInBounds i true).setIfInBounds j true)) a' H') a H :=
        stepI_mono hI (fun a' H' _ hk => hk.2 j (ready_mono hj hji)) h
      have h3 := swapI hi hoj hap hst (fun cs b => hsel i oi cs b hi) (fun cs b => hsel j oj cs b hoj) h2
      refine stepI_mono hI (fun a' H' hI' hk => ?_) h3
      refine ih (listed.setIfInBounds j true) a' H' hI' (hcl.set hj) (freeFirst_mono hfree) (ready_mono hr (Ne.symm hji)) ?_
      rw [Array.setIfInBounds_comm _ _ hji]; exact hk
theorem count_set : ∀ (l : List Bool) (i : Nat), l[i]? = some false → (l.set i true).count false + 1 = l.count false := by
  intro l
  induction l with
  | nil => intro i h; simp at h
  | cons b l ih =>
    intro i h
    cases i with
    | zero =>
      simp only [List.getElem?_cons_zero, Option.some.injEq] at h
      subst h
      simp
    | succ i =>
      have := ih i (by simpa using h)
      rw [List.set_cons_succ, List.count_cons, List.count_cons]
      omega
theorem count_listed {listed : Array Bool} {i fuel : Nat} (hs : listed.size = ops.size) (hc : listed.toList.count false = fuel) (h : i ∈ Region.ready .any ops listed) :
    ∃ f, fuel = f + 1 ∧ (listed.setIfInBounds i true).toList.count false = f ∧ (listed.setIfInBounds i true).size = ops.size := by
  have h1 := unlisted_of_ready h
  obtain ⟨_, o, ho, _⟩ := mem_ready.1 h
  have hlt : i < listed.size := by rw [hs]; exact (Array.getElem?_eq_some_iff.1 ho).1
  have h2 : listed.toList[i]? = some false := by
    simp only [Array.getElem?_toList]
    simp [hlt] at h1 ⊢
    exact h1
  have h3 := count_set _ i h2
  refine ⟨(listed.setIfInBounds i true).toList.count false, ?_, rfl, by simpa using hs⟩
  rw [Array.toList_setIfInBounds]
  omega
theorem anyI_of_seqT {anc : Array Nat} (hanc : ancOk ops anc = true) (hsel : Region.noSelect ops = true) {K : Act → Hp → Prop} :
    ∀ (t : Ot) (listed : Array Bool) (hd : List Nat) (fuel : Nat) (a : Act) (H : Hp), okT ops anc st t listed hd = true → Inv H → Closed ops listed → listed.size = ops.size → listed.toList.count false = fuel →
      (∀ i ∈ hd, i ∈ Region.ready .any ops listed → ∃ f, fuel = f + 1 ∧ stepI P ops Inv st i (anyI P ops Inv st K f (listed.setIfInBounds i true)) a H) → seqT P ops Inv st K t a H → anyI P ops Inv st K fuel listed a H := by
  intro t
  induction t with
  | done =>
    intro listed hd fuel a H hok _ _ _ _ _ h
    simp only [okT, List.isEmpty_iff] at hok
    cases fuel with
    | zero => exact ⟨hok, h⟩
    | succ fuel => exact ⟨fun _ => h, fun i hi => by rw [hok] at hi; cases hi⟩
  | step i t ih =>
    intro listed hd fuel a H hok hI hcl hs hc _ h
    simp only [okT, Bool.and_eq_true, List.contains_iff_mem] at hok
    obtain ⟨⟨hr, hfree⟩, hok⟩ := hok
    obtain ⟨f, rfl, hc', hs'⟩ := count_listed hs hc hr
    obtain ⟨_, o, ho, _⟩ := mem_ready.1 hr
    refine anyI_free hanc ho (Region.noSelect_spec hsel) f listed a H hI hcl hfree hr ?_
    refine stepI_mono hI (fun a' H' hI' hk => ?_) h
    exact ih _ [] f a' H' hok hI' (hcl.set hr) hs' hc' (fun i hi => by cases hi) hk
  | fork i t r iht ihr =>
    intro listed hd fuel a H hok hI hcl hs hc hhd h
    simp only [okT, Bool.and_eq_true, List.contains_iff_mem] at hok
    obtain ⟨⟨hr, hok1⟩, hok2⟩ := hok
    obtain ⟨f, rfl, hc', hs'⟩ := count_listed hs hc hr
    refine ihr listed (i :: hd) (f + 1) a H hok2 hI hcl hs hc ?_ h.2
    intro j hj hjr
    rcases List.mem_cons.1 hj with rfl | hj
    · refine ⟨f, rfl, stepI_mono hI (fun a' H' hI' hk => ?_) h.1⟩
      exact iht _ [] f a' H' hok1 hI' (hcl.set hr) hs' hc' (fun i hi => by cases hi) hk
    · exact hhd j hj hjr
  | stop =>
    intro listed hd fuel a H hok hI hcl hs hc hhd _
    simp only [okT, Bool.and_eq_true, List.all_eq_true, List.contains_iff_mem] at hok
    obtain ⟨hne, hall⟩ := hok
    by_cases hre : Region.ready .any ops listed = []
    · exact absurd (List.isEmpty_iff.2 hre) (by simpa using hne)
    · obtain ⟨i, hi⟩ := List.exists_mem_of_ne_nil _ hre
      obtain ⟨f, rfl, _⟩ := hhd i (hall i hi) hi
      refine ⟨fun h0 => absurd h0 hre, fun j hj => ?_⟩
      obtain ⟨f', e, h⟩ := hhd j (hall j hj) hj
      have : f' = f := by omega
      subst this
      exact h
theorem wp_region_seqT {id : Nat} {anc : Array Nat} {t : Ot} (hm : P.follows .mixedOrders = true) (hanc : ancOk ops anc = true) (hok : okT ops anc st t (Array.replicate ops.size false) [] = true)
    (hsel : Region.noSelect ops = true) {K : Act → Hp → Prop} {Q : Exit → Act → World → Prop} {a : Act} {w : World} (hI : Inv w.heap)
    (hQ : ∀ a' w', Same w w' → K a' w'.heap → Q .normal a' w') (h : seqT P ops Inv st K t a w.heap) : (Code.region id ops true).wp P Q a w := by
  refine wp_region_any hm ?_
  refine wpAny_of_anyI (Inv := Inv) (st := st) (K := K) (w₀ := w) hQ _ _ _ _ ⟨rfl, rfl⟩ hI ?_
  refine anyI_of_seqT hanc hsel t _ [] _ _ _ hok hI ?_ (by simp) (by simp) (fun i hi => by cases hi) h
  intro k ok _ hl
  exfalso
  by_cases hk : k < ops.size <;> simp [hk] at hl
end
end Go.Vc
