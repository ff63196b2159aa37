/-
  That each pure operation, read off, does what is said of it.
-/
import Derived.Test.YtbnaicgmnadkgaaSnd
set_option linter.unusedVariables false
set_option linter.unusedSimpArgs false
namespace Go.Vc

section
variable {P : Program} {o : Oper} {a : Act} {ev : Ev} {H : Hp} {K : Value → Hp → Prop}

/-- What the operands of the walk tell of those of the machine. -/
abbrev Tells (ev : Ev) (a : Act) : Prop := ∀ x v, ev x = some v → a.eval x = v

theorem withEv {x : Operand} {F : Value → Prop} (hev : Tells ev a) (h : withO (ev x) F) : F (a.eval x) := by
  obtain ⟨v, hv, h⟩ := withO_spec h
  rw [hev x v hv]; exact h

theorem pure_mov {x : Operand} (hev : Tells ev a) (ho : o.op = .move x ∨ o.op = .assign x) (h : (Iop.mov x).vc P ev H K) : Pures P o a H K := by
  have h := withEv hev h
  refine ⟨_, fun w => ?_, h⟩
  rcases ho with ho | ho <;> simp [execOp, ho]

theorem pure_pick {c x y : Operand} (hev : Tells ev a) (ho : o.op = .pick c x y) (h : (Iop.pick c x y).vc P ev H K) : Pures P o a H K := by
  obtain ⟨b, hb, h⟩ := boolV_spec (withEv hev h)
  have h2 : withO (ev (bif b then x else y)) fun v => K v H := by cases b <;> exact h
  have h := withEv hev h2
  refine ⟨_, fun w => ?_, h⟩
  simp only [execOp, ho, hb, asBool]
  cases b <;> simp

theorem pure_nilCheck {x : Operand} (hev : Tells ev a) (ho : o.op = .nilCheck x) (h : (Iop.nilCheck x).vc P ev H K) : Pures P o a H K := by
  obtain ⟨hn, h⟩ := (withEv hev h).out
  refine ⟨_, fun w => ?_, h⟩
  simp only [execOp, ho]
  rcases hn with hn | ⟨name, t, u, cap, hv, hn⟩
  · revert hn
    generalize a.eval x = v
    cases v with
    | pointer q => cases q <;> simp [nilOk]
    | func fn x y => cases fn <;> simp [nilOk]
    | _ => simp [nilOk]
  · rw [hv]
    have hz : (#[Value.iface t u] : Array Value)[0]? = some (.iface t u) := rfl
    simp [hz, hn w]

theorem pure_un {op : UnOp} {t : TypeId} {x : Operand} (hev : Tells ev a) (ho : o.op = .unOp op t x) (h : (Iop.un op x).vc P ev H K) : Pures P o a H K := by
  obtain ⟨v, hv, h⟩ := withO_spec (withEv hev h)
  refine ⟨v, fun w => ?_, h⟩
  simp only [execOp, ho]
  revert hv
  generalize a.eval x = u
  intro hv
  unfold unF at hv
  split at hv <;> first | (cases hv; done) | skip
  all_goals (injection hv with hv; subst hv; simp [Op.unary, Op.intArith, Op.intBits])

theorem pure_conv {s t : TypeId} {k k' : IntKind} {x : Operand} (hev : Tells ev a) (ho : o.op = .convert s t x) (hs : P.underlying s = some (.int k')) (ht : P.underlying t = some (.int k))
    (h : (Iop.conv k x).vc P ev H K) : Pures P o a H K := by
  obtain ⟨k1, n, hn, h⟩ := intV_spec (withEv hev h)
  refine ⟨_, fun w => ?_, h⟩
  simp only [execOp, ho, convert, hn, Sem.run_bind, runs_underlying hs, runs_underlying ht, Result.andThen_ok, Conv.intToInt]
  rfl

theorem run_nilI {t : TypeId} {ms : Array (String × TypeId)} (hu : P.underlying t = some (.interface ms)) (v : Value) (b : Bool) (hv : (v = .nilIface ∧ b = true) ∨ ∃ t' u, v = .iface t' u ∧ b = false) (w : World) : (Op.equal t v .nilIface).run P w = .ok b w := by
  have h : ∀ m : Nat, (Op.equalIn (m + 1) t v .nilIface).run P w = .ok b w := fun m => by
    rcases hv with ⟨rfl, rfl⟩ | ⟨t', u, rfl, rfl⟩ <;> simp only [Op.equalIn, Sem.run_bind, runs_underlying hu, Result.andThen_ok] <;> rfl
  exact h 9999

theorem pure_nilI {op : BinOp} {neg : Bool} {t t' : TypeId} {ms : Array (String × TypeId)} {x : Operand} (hev : Tells ev a) (ho : o.op = .binOp op t x (.const .nilIface) t') (hu : P.underlying t = some (.interface ms))
    (hop : (op = .eql ∧ neg = false) ∨ (op = .neq ∧ neg = true)) (h : (Iop.nilI neg x).vc P ev H K) : Pures P o a H K := by
  obtain ⟨b, hv, h⟩ : ∃ b, ((a.eval x = .nilIface ∧ b = true) ∨ ∃ t' u, a.eval x = .iface t' u ∧ b = false) ∧ K (.bool (nilB neg b)) H := by
    rcases ifcV_spec (withEv hev h) with ⟨e, h⟩ | ⟨t', u, e, h⟩
    · exact ⟨true, .inl ⟨e, rfl⟩, h⟩
    · exact ⟨false, .inr ⟨t', u, e, rfl⟩, h⟩
  refine ⟨_, fun w => ?_, h⟩
  have hr := run_nilI (P := P) hu (a.eval x) b hv w
  have hc : a.eval (.const .nilIface) = .nilIface := rfl
  simp only [execOp, ho, Sem.run_bind, hc]
  generalize a.eval x = u at hv hr ⊢
  have hg : (eqGuard op t x (.const .nilIface) u .nilIface).run P w = .ok () w := by
    unfold eqGuard
    rcases hop with ⟨rfl, _⟩ | ⟨rfl, _⟩ <;> rcases hv with ⟨rfl, _⟩ | ⟨t', u', rfl, _⟩ <;> simp
  rw [hg]
  simp only [Result.andThen_ok]
  rcases hop with ⟨rfl, rfl⟩ | ⟨rfl, rfl⟩ <;> rcases hv with ⟨rfl, rfl⟩ | ⟨t', u', rfl, rfl⟩ <;> simp [binOp, hr, nilB]

theorem pure_assert {s t : TypeId} {d : TypeDesc} {x : Operand} (hev : Tells ev a) (ho : o.op = .typeAssert x s t false) (hs : P.underlying t = some d) (hd : ∀ ms, d ≠ .interface ms)
    (h : (Iop.assert t x).vc P ev H K) : Pures P o a H K := by
  obtain ⟨u, hx, h⟩ := assertV_spec (withEv hev h)
  refine ⟨_, fun w => ?_, h⟩
  simp only [execOp, ho, hx, Instr.typeAssert, Sem.run_bind, runs_underlying hs, Result.andThen_ok]
  cases d <;> first | (exact absurd rfl (hd _)) | simp

theorem pure_iface {t : TypeId} {d : TypeDesc} {x : Operand} (hev : Tells ev a) (ho : o.op = .makeInterface t x) (hs : P.underlying t = some d) (hd : ∀ ms, d ≠ .interface ms)
    (h : (Iop.iface t x).vc P ev H K) : Pures P o a H K := by
  have h := withEv hev h
  refine ⟨_, fun w => ?_, h⟩
  simp only [execOp, ho, Instr.makeInterface, Sem.run_bind, runs_underlying hs, Result.andThen_ok]
  cases d <;> first | (exact absurd rfl (hd _)) | simp

theorem pure_func {fn : Fn} {first captured : Array Operand} (hev : Tells ev a) (ho : o.op = .makeFunc fn first captured) (h : (Iop.func fn first.toList captured.toList).vc P ev H K) : Pures P o a H K := by
  have h := evs_spec hev (evs_spec hev h)
  refine ⟨_, fun w => ?_, h⟩
  simp only [execOp, ho, Instr.makeFunc, Sem.run_bind, Sem.run_pure, Result.andThen_ok]
  congr 3
  · apply Array.ext'; simp
  · apply Array.ext'; simp

theorem run_guard_if {c : Bool} {m : Sem Unit} {w : World} (h : m.run P w = .ok () w) : (if (!c) = true then (pure () : Sem Unit) else m).run P w = .ok () w := by
  cases c
  · rfl
  · simpa using h

theorem run_eqGuard_ok {op : BinOp} {t : TypeId} {s : Shape} {x y : Operand} {u v : Value} {b : Bool} (h : eqV s u v = some b) (hg : notS s = true ∨ P.eqGuardType P.depth t = false) (w : World) :
    (eqGuard op t x y u v).run P w = .ok () w := by
  unfold eqGuard
  refine run_guard_if ?_
  cases u with
  | nilIface =>
    cases v with
    | nilIface => cases s <;> simp [eqV, simpleEq] at h
    | _ => rfl
  | agg xs =>
    cases v with
    | agg ys =>
      rcases hg with hg | hg
      · cases s <;> simp_all [eqV, simpleEq, notS]
      · simp [hg]
    | _ => rfl
  | _ => cases v <;> rfl

theorem run_bin_eq {t : TypeId} {s : Shape} {u v : Value} {b : Bool} (hs : shapeOf P depthT t = some s) (h : eqV s u v = some b) (hu : ∀ k n, u ≠ .int k n ∨ ∀ k' m, v ≠ .int k' m)
    (hst : ∀ x, u ≠ .string x ∨ ∀ y, v ≠ .string y) (w : World) :
    (binOp .eql t u v).run P w = .ok (.bool b) w ∧ (binOp .neq t u v).run P w = .ok (.bool (!b)) w := by
  have he : (Op.equal t u v).run P w = .ok b w := by
    unfold Op.equal Op.maxDepth
    have := (runs_equalIn (P := P) depthT).1 t s u v b hs h (10000 - depthT) w
    simpa [depthT] using this
  have hne : ∀ {op}, op = BinOp.eql ∨ op = BinOp.neq → binOp op t u v = (if op = BinOp.eql then (do pure (.bool (← Op.equal t u v))) else (do pure (.bool (!(← Op.equal t u v))))) := by
    intro op hop
    cases u <;> cases v <;> rcases hop with rfl | rfl <;> first
      | rfl
      | (rcases hu _ _ with h1 | h1 <;> first | exact absurd rfl h1 | exact absurd rfl (h1 _ _))
      | (rcases hst _ with h1 | h1 <;> first | exact absurd rfl h1 | exact absurd rfl (h1 _))
      | (cases s <;> simp [eqV, simpleEq] at h)
  rw [hne (.inl rfl), hne (.inr rfl)]
  simp [he]

def restF (op : BinOp) (s : Shape) (u z : Value) : Option Value := match op with | .eql => (eqV s u z).map .bool | .neq => (eqV s u z).map fun b => .bool (!b) | _ => none
theorem binF_rest {op : BinOp} {s : Shape} {u z : Value} (h1 : ∀ k n, u ≠ .int k n ∨ ∀ k' m, z ≠ .int k' m) (h2 : ∀ p, u ≠ .string p ∨ ∀ q, z ≠ .string q) : binF op s u z = restF op s u z := by
  unfold binF restF
  split
  · rcases h1 _ _ with h | h <;> first | exact absurd rfl h | exact absurd rfl (h _ _)
  · rcases h2 _ with h | h <;> first | exact absurd rfl h | exact absurd rfl (h _)
  · rfl

theorem pure_bin {op : BinOp} {t t' : TypeId} {s : Shape} {x y : Operand} (hev : Tells ev a) (ho : o.op = .binOp op t x y t')
    (hs : (op = .eql ∨ op = .neq) → shapeOf P depthT t = some s ∧ (notS s = true ∨ P.eqGuardType P.depth t = false))
    (h : (Iop.bin op s x y).vc P ev H K) : Pures P o a H K := by
  obtain ⟨v, hv, h⟩ := withO_spec (withEv hev (withEv hev h))
  refine ⟨v, fun w => ?_, h⟩
  simp only [execOp, ho, Sem.run_bind]
  generalize hx : a.eval x = u at hv ⊢
  generalize hy : a.eval y = z at hv ⊢
  -- numbers, texts, the rest
  have hint : ∀ k n k' m, u = .int k n → z = .int k' m → (eqGuard op t x y u z).run P w = .ok () w ∧ (binOp op t u z).run P w = .ok v w := by
    intro k n k' m e1 e2
    subst e1; subst e2
    refine ⟨run_guard_if rfl, ?_⟩
    · unfold binF at hv
      by_cases hk : k = k'
      · subst hk
        cases op <;> simp only [binOp, Op.shift, Op.intArith, Op.intDiv, Op.intBits, Op.intCmp] at hv ⊢ <;> simp at hv ⊢ <;> first
          | (subst hv; rfl)
          | (split at hv <;> first | (cases hv; done) | (injection hv with hv; subst hv; rename_i hc; simp [hc]; done) | skip)
          | (obtain ⟨h1, rfl⟩ := hv; simp [show ¬ m < 0 by omega])
          | (obtain ⟨h1, rfl⟩ := hv; simp [h1])
          | skip
      · cases op <;> simp [hk] at hv <;> simp only [binOp, Op.shift] <;> first
          | (obtain ⟨h1, rfl⟩ := hv; simp [show ¬ m < 0 by omega])
          | skip
  have hstr : ∀ p q, u = .string p → z = .string q → (eqGuard op t x y u z).run P w = .ok () w ∧ (binOp op t u z).run P w = .ok v w := by
    intro p q e1 e2
    subst e1; subst e2
    refine ⟨run_guard_if rfl, ?_⟩
    · unfold binF at hv
      cases op <;> simp only [binOp, Op.stringOp] at hv ⊢ <;> simp at hv ⊢ <;> first
        | (subst hv; rfl)
        | (obtain ⟨h1, rfl⟩ := hv; simp [show ¬ (9223372036854775807 : Int) < (p.size : Int) + q.size by omega])
        | (obtain ⟨h1, rfl⟩ := hv; rw [if_neg (by omega)])
        | (cases hv; done)
        | skip
  have hrest : (∀ k n, u ≠ .int k n ∨ ∀ k' m, z ≠ .int k' m) → (∀ p, u ≠ .string p ∨ ∀ q, z ≠ .string q) → (eqGuard op t x y u z).run P w = .ok () w ∧ (binOp op t u z).run P w = .ok v w := by
    intro h1 h2
    have hb := binF_rest (op := op) (s := s) h1 h2
    rw [hb] at hv
    cases op <;> simp only [restF] at hv <;> first | (cases hv; done) | skip
    · obtain ⟨hs1, hs2⟩ := hs (.inl rfl)
      cases he : eqV s u z with
      | none => rw [he] at hv; cases hv
      | some b => rw [he] at hv; injection hv with hv; subst hv; exact ⟨run_eqGuard_ok he hs2 w, (run_bin_eq hs1 he h1 h2 w).1⟩
    · obtain ⟨hs1, hs2⟩ := hs (.inr rfl)
      cases he : eqV s u z with
      | none => rw [he] at hv; cases hv
      | some b => rw [he] at hv; injection hv with hv; subst hv; exact ⟨run_eqGuard_ok he hs2 w, (run_bin_eq hs1 he h1 h2 w).2⟩
  have key : (eqGuard op t x y u z).run P w = .ok () w ∧ (binOp op t u z).run P w = .ok v w := by
    by_cases h1 : ∃ k n k' m, u = .int k n ∧ z = .int k' m
    · obtain ⟨k, n, k', m, e1, e2⟩ := h1; exact hint k n k' m e1 e2
    · by_cases h2 : ∃ p q, u = .string p ∧ z = .string q
      · obtain ⟨p, q, e1, e2⟩ := h2; exact hstr p q e1 e2
      · refine hrest (fun k n => ?_) (fun p => ?_)
        · by_cases e : u = .int k n
          · exact .inr fun k' m e' => h1 ⟨k, n, k', m, e, e'⟩
          · exact .inl e
        · by_cases e : u = .string p
          · exact .inr fun q e' => h2 ⟨p, q, e, e'⟩
          · exact .inl e
  simp [key.1, key.2]

end
end Go.Vc
