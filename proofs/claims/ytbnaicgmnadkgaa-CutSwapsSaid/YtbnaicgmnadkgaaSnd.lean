/-
  That each operation, read off, does what is said of it.
-/
import Derived.Test.YtbnaicgmnadkgaaDec
set_option linter.unusedVariables false
set_option linter.unusedSimpArgs false
namespace Go.Vc

section
variable {P : Program} {o : Oper} {a : Act} {ev : Ev} {H : Hp} {K : Value → Hp → Prop}

theorem Also.out {c F : Prop} (h : Also c F) : c ∧ F := h

theorem boolV_spec {v : Value} {F : Bool → Prop} (h : boolV v F) : ∃ b, v = .bool b ∧ F b := by
  unfold boolV at h; split at h
  · exact ⟨_, rfl, h⟩
  · exact h.elim

/-! #### Equality runs as it is told -/

theorem runs_part {l : List Value} {t : TypeId} {off : Nat} {v : Value} (hi : (P.info? t).isSome = true) (hu : (P.underlying t).isSome = true)
    (h : partL l off (if isAggT P t then some (P.cellsOf t) else none) = some v) (w : World) : (part t l.toArray off).run P w = .ok v w := by
  unfold part
  simp only [Sem.run_bind, runs_isAgg hu, Result.andThen_ok]
  cases hb : isAggT P t
  · rw [hb] at h
    simp only [Bool.false_eq_true, if_false, partL] at h ⊢
    simp [h]
  · rw [hb] at h
    simp only [if_true, partL] at h ⊢
    split at h
    · injection h with h
      subst h
      simp only [Sem.run_bind, runs_sizeOf hi, Result.andThen_ok, Sem.run_pure]
      congr 2
      apply Array.ext'
      simp [List.take_drop]
    · cases h

theorem info_of_underlying {t : TypeId} (h : (P.underlying t).isSome = true) : (P.info? t).isSome = true := by
  unfold Program.underlying at h
  cases hi : P.info? t with
  | none => rw [hi] at h; simp at h
  | some i => rfl

theorem runs_simple (m : Nat) {t : TypeId} {s : Shape} {x y : Value} {b : Bool} {d : Nat} (ht : shapeOf P d t = some s) (hs : ∀ fs, s ≠ .s fs) (h : simpleEq s x y = some b) (w : World) :
    (Op.equalIn (m + 1) t x y).run P w = .ok b w := by
  cases d with
  | zero => simp [shapeOf] at ht
  | succ d =>
    rw [shapeOf_succ] at ht
    split at ht
    case h_9 => split at ht
                · cases ht
                · rename_i fs hu hp
                  cases hsf : shapesOf P d fs.toList with
                  | none => rw [hsf] at ht; cases ht
                  | some l => rw [hsf] at ht; injection ht with ht; exact absurd ht.symm (hs l)
    case h_10 => cases ht
    all_goals (injection ht with ht; subst ht)
    all_goals (unfold simpleEq at h; split at h <;> rename_i hu <;> first | (cases hu; done) | (cases h; done) | skip)
    all_goals (try (split at h <;> first | (cases h; done) | skip))
    all_goals (injection h with h; subst h)
    all_goals (simp only [Op.equalIn, Sem.run_bind, runs_underlying ‹P.underlying t = _›, Result.andThen_ok])
    all_goals first | rfl | (rw [if_pos (by assumption)]; rfl) | (simp [*, beq_toListBytes]; done) | (simp_all; done) | skip

theorem runs_equalIn : ∀ (d : Nat),
    (∀ (t : TypeId) (s : Shape) (x y : Value) (b : Bool), shapeOf P d t = some s → eqV s x y = some b → ∀ (m : Nat) (w : World), (Op.equalIn (m + d) t x y).run P w = .ok b w) ∧
    (∀ (fs : List Field) (l : List (Nat × Option Nat × Shape)) (xs ys : List Value) (b : Bool), shapesOf P d fs = some l → eqVs l xs ys = some b →
      ∀ (m : Nat) (w : World), (Op.eqFields (m + d) xs.toArray ys.toArray fs).run P w = .ok b w) := by
  intro d
  induction d with
  | zero =>
    refine ⟨fun t s x y b ht => (by simp [shapeOf] at ht), fun fs l xs ys b hl h m w => ?_⟩
    cases fs with
    | nil => simp only [shapesOf_nil, Option.some.injEq] at hl; subst hl; simp only [eqVs, Option.some.injEq] at h; subst h; rfl
    | cons f fs => simp [shapesOf_cons, shapeOf] at hl
  | succ d ih =>
    have first : ∀ (t : TypeId) (s : Shape) (x y : Value) (b : Bool), shapeOf P (d + 1) t = some s → eqV s x y = some b → ∀ (m : Nat) (w : World), (Op.equalIn (m + (d + 1)) t x y).run P w = .ok b w := by
      intro t s x y b ht h m w
      by_cases hs : ∃ fs, s = .s fs
      · obtain ⟨l, rfl⟩ := hs
        cases x with
        | agg xs =>
          cases y with
          | agg ys =>
            simp only [eqV] at h
            rw [shapeOf_succ] at ht
            split at ht
            case h_9 =>
              split at ht
              · cases ht
              · rename_i fs hu hp
                cases hsf : shapesOf P d fs.toList with
                | none => rw [hsf] at ht; cases ht
                | some l' =>
                  rw [hsf] at ht
                  simp only [Option.map_some, Option.some.injEq, Shape.s.injEq] at ht
                  subst ht
                  have hf : P.fieldsOf t = fs := by simp [Program.fieldsOf, hu]
                  rw [show m + (d + 1) = (m + d) + 1 by omega, run_equalIn_struct w (m + d) t xs ys (by rw [hf]; exact hu) (by simpa using hp), hf]
                  have := (ih.2 fs.toList l' xs.toList ys.toList b hsf h m w)
                  simpa using this
            all_goals cases ht
          | _ => simp [eqV, simpleEq] at h
        | _ => cases y <;> simp [eqV, simpleEq] at h
      · have h' : simpleEq s x y = some b := by
          cases s <;> first | exact h | (exact absurd ⟨_, rfl⟩ hs)
        exact runs_simple (m + d) ht (fun fs e => hs ⟨fs, e⟩) h' w
    refine ⟨first, fun fs => ?_⟩
    induction fs with
    | nil => intro l xs ys b hl h m w; simp only [shapesOf_nil, Option.some.injEq] at hl; subst hl; simp only [eqVs, Option.some.injEq] at h; subst h; rfl
    | cons f fs ihf =>
      intro l xs ys b hl h m w
      rw [shapesOf_cons] at hl
      split at hl
      · cases hl
      · rename_i hname
        split at hl
        · cases hl
        · rename_i sh hsh
          cases hr : shapesOf P (d + 1) fs with
          | none => rw [hr] at hl; cases hl
          | some l' =>
            rw [hr] at hl
            simp only [Option.map_some, Option.some.injEq] at hl
            subst hl
            unfold eqVs at h
            split at h
            · cases h
            · rename_i x hx
              split at h
              · cases h
              · rename_i y hy
                have hu : (P.underlying f.type).isSome = true := by
                  rw [shapeOf_succ] at hsh
                  split at hsh <;> first | (cases hsh; done) | simp_all
                have hi := info_of_underlying hu
                simp only [Op.eqFields, hname, ne_eq, not_false_eq_true, if_true, Sem.run_bind, runs_part hi hu hx, runs_part hi hu hy, Result.andThen_ok]
                split at h
                · rename_i he
                  rw [first f.type sh x y true hsh he m w]
                  simpa using ihf l' xs ys b hr h m w
                · rename_i he
                  injection h with h
                  subst h
                  rw [first f.type sh x y false hsh he m w]
                  simp
                · cases h

end
end Go.Vc
