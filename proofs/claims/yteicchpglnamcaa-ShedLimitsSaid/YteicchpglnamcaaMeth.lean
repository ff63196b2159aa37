/-
  Methods of interface values: found by their type alone, or through a pointer that is embedded.
-/
import Derived.Test.YteicchpglnamcaaLib
set_option linter.unusedVariables false
set_option linter.unusedSimpArgs false
namespace Go.Vc

def methOf (P : Program) (T : TypeId) (name : String) : Option (List FieldStep × Option (FuncId × Bool)) :=
  ((P.info? T).bind fun i => i.methods.find? (·.name == name)).map fun m => (m.path.toList, m.func)

theorem methOf_spec {P : Program} {T : TypeId} {name : String} {p : List FieldStep} {f : Option (FuncId × Bool)} (h : methOf P T name = some (p, f)) :
    ∃ i m, P.info? T = some i ∧ i.methods.find? (·.name == name) = some m ∧ m.path.toList = p ∧ m.func = f := by
  unfold methOf at h
  cases hi : P.info? T with
  | none => rw [hi] at h; cases h
  | some i =>
    rw [hi] at h
    simp only [Option.bind_some] at h
    cases hm : i.methods.find? (·.name == name) with
    | none => rw [hm] at h; cases h
    | some m =>
      rw [hm] at h
      simp only [Option.map_some, Option.some.injEq, Prod.mk.injEq] at h
      exact ⟨i, m, rfl, hm, h.1, h.2⟩

/-- The type has the method itself, by pointer. -/
def meth0 (P : Program) (T : TypeId) (name : String) : Option FuncId :=
  match methOf P T name, P.underlying T with
  | some ([], some (f, true)), some (.pointer _) => if callable P f then some f else none
  | _, _ => none

theorem methR0 {P : Program} {H : Hp} {T : TypeId} {v : Value} {name : String} {f : FuncId} (h : meth0 P T name = some f) : MethR P H T v name f v := by
  unfold meth0 at h
  split at h
  · rename_i f' e h1 hu
    split at h
    · rename_i hc
      injection h with h
      subst h
      refine ⟨hc, fun w hw => ?_⟩
      obtain ⟨i, m, g1, g2, g3, g4⟩ := methOf_spec h1
      show (method ((P.types.size + 99) + 1) T v name).run P w = _
      unfold method
      simp [runs_typeInfo g1, g2, g3, g4, follow, receiverAt, run_underlying hu, Place.get]
    · cases h
  · cases h

theorem nilP0 {P : Program} {T : TypeId} {v : Value} {name : String} {f : FuncId} {cap : Array Value} (h : meth0 P T name = some f) : NilP P (.func (.method name) #[.iface T v] cap) := by
  unfold meth0 at h
  split at h
  · rename_i f' e h1 hu
    refine .inr ⟨name, T, v, cap, rfl, fun w => ?_⟩
    obtain ⟨i, m, g1, g2, g3, g4⟩ := methOf_spec h1
    show (nilAhead ((P.types.size + 99) + 1) T v name).run P w = _
    unfold nilAhead
    simp [runs_typeInfo g1, g2, g3, g4, followBlind]
  · cases h

/-- The type has the method through a pointer to a struct in whose field there is a pointer that has it: where that field lies. -/
def meth1 (P : Program) (T : TypeId) (name : String) : Option (Nat × FuncId) :=
  match methOf P T name with
  | some ([s], some (f, true)) =>
    match s.deref, P.underlying s.struct with
    | true, some (.struct fs) =>
      match fs[s.index]? with
      | some fd => match P.underlying fd.type with
        | some (.pointer _) => if (P.info? fd.type).isSome ∧ P.cellsOf fd.type ≠ 0 ∧ callable P f = true then some (fd.offset, f) else none
        | _ => none
      | none => none
    | _, _ => none
  | _ => none

theorem runs_fieldPlace {P : Program} {fd : Field} (hi : (P.info? fd.type).isSome = true) (h0 : P.cellsOf fd.type ≠ 0) (a : Addr) (w : World) : (fieldPlace a fd).run P w = .ok (a.add fd.offset) w := by
  simp [fieldPlace, runs_sizeOf hi, h0]

theorem methR1 {P : Program} {H : Hp} {T : TypeId} {b o off : Nat} {l : List Value} {rv : Value} {name : String} {f : FuncId} (h : meth1 P T name = some (off, f)) (hr : H.rd b = some l) (hv : l[o + off]? = some rv) :
    MethR P H T (.pointer (some ⟨b, o, none⟩)) name f rv := by
  unfold meth1 at h
  split at h
  · rename_i s f' h1
    split at h
    · rename_i fs hd hs
      split at h
      · rename_i fd hf
        split at h
        · rename_i e hu
          split at h
          · rename_i hc
            simp only [Option.some.injEq, Prod.mk.injEq] at h
            obtain ⟨rfl, rfl⟩ := h
            refine ⟨hc.2.2, fun w hw => ?_⟩
            subst hw
            obtain ⟨i, m, g1, g2, g3, g4⟩ := methOf_spec h1
            have hus : (P.underlying fd.type).isSome = true := by rw [hu]; rfl
            have hag : isAggT P fd.type = false := by unfold isAggT; rw [hu]
            have hload := (runs_loadVar (P := P) (w := w) (t := fd.type) hc.1 hus hr).2 hag rv hv
            show (method ((P.types.size + 99) + 1) T _ name).run P w = _
            unfold method
            simp [runs_typeInfo g1, g2, g3, g4, follow, run_underlying hs, hf, hd, Place.get, asAddr, runs_fieldPlace hc.1 hc.2.1, receiverAt, run_underlying hu, add_mk, hload]
          · cases h
        · cases h
      · cases h
    · cases h
  · cases h

theorem nilP1 {P : Program} {T : TypeId} {a : Addr} {name : String} {x : Nat × FuncId} {cap : Array Value} (h : meth1 P T name = some x) : NilP P (.func (.method name) #[.iface T (.pointer (some a))] cap) := by
  unfold meth1 at h
  split at h
  · rename_i s f' h1
    split at h
    · rename_i fs hd hs
      split at h
      · rename_i fd hf
        refine .inr ⟨name, T, _, cap, rfl, fun w => ?_⟩
        obtain ⟨i, m, g1, g2, g3, g4⟩ := methOf_spec h1
        show (nilAhead ((P.types.size + 99) + 1) T _ name).run P w = _
        unfold nilAhead
        simp [runs_typeInfo g1, g2, g3, g4, followBlind, run_underlying hs, hf, hd]
      · cases h
    · cases h
  · cases h

/-- The type has the method through a pointer to a struct, in whose field there is a pointer to a struct, in which there is a struct that has it: where both fields lie. -/
def meth2 (P : Program) (T : TypeId) (name : String) : Option (Nat × Nat × FuncId) :=
  match methOf P T name with
  | some ([s, s'], some (f, true)) =>
    match s.deref, s'.deref, P.underlying s.struct, P.underlying s'.struct with
    | true, true, some (.struct fs), some (.struct fs') =>
      match fs[s.index]?, fs'[s'.index]? with
      | some fd, some fd' => match P.underlying fd.type, P.underlying fd'.type with
        | some (.pointer _), some (.struct _) =>
          if (P.info? fd.type).isSome ∧ P.cellsOf fd.type ≠ 0 ∧ (P.info? fd'.type).isSome ∧ P.cellsOf fd'.type ≠ 0 ∧ callable P f = true then some (fd.offset, fd'.offset, f) else none
        | _, _ => none
      | _, _ => none
    | _, _, _, _ => none
  | _ => none

theorem methR2 {P : Program} {H : Hp} {T : TypeId} {b o off off' c o' : Nat} {l : List Value} {name : String} {f : FuncId} (h : meth2 P T name = some (off, off', f)) (hr : H.rd b = some l)
    (hv : l[o + off]? = some (.pointer (some ⟨c, o', none⟩))) : MethR P H T (.pointer (some ⟨b, o, none⟩)) name f (.pointer (some ⟨c, o' + off', none⟩)) := by
  unfold meth2 at h
  split at h
  · rename_i s s' f' h1
    split at h
    · rename_i fs fs' hd hd' hs hs'
      split at h
      · rename_i fd fd' hf hf'
        split at h
        · rename_i e e' hu hu'
          split at h
          · rename_i hc
            simp only [Option.some.injEq, Prod.mk.injEq] at h
            obtain ⟨rfl, rfl, rfl⟩ := h
            refine ⟨hc.2.2.2.2, fun w hw => ?_⟩
            subst hw
            obtain ⟨i, m, g1, g2, g3, g4⟩ := methOf_spec h1
            have hus : (P.underlying fd.type).isSome = true := by rw [hu]; rfl
            have hag : isAggT P fd.type = false := by unfold isAggT; rw [hu]
            have hload := (runs_loadVar (P := P) (w := w) (t := fd.type) hc.1 hus hr).2 hag _ hv
            show (method ((P.types.size + 99) + 1) T _ name).run P w = _
            unfold method
            simp [runs_typeInfo g1, g2, g3, g4, follow, run_underlying hs, run_underlying hs', hf, hf', hd, hd', Place.get, asAddr, runs_fieldPlace hc.1 hc.2.1, runs_fieldPlace hc.2.2.1 hc.2.2.2.1, receiverAt, run_underlying hu, run_underlying hu', add_mk, hload]
          · cases h
        · cases h
      · cases h
    · cases h
  · cases h

theorem InvH.mono {P : Program} {recv : Value} {name : String} {args : List Value} {H : Hp} {K K' : Value → Hp → Prop} (h : InvH P recv name args H K) (hk : ∀ v H', K v H' → K' v H') : InvH P recv name args H K' := by
  obtain ⟨T, v, f, rv, h1, h2, h3⟩ := h
  exact ⟨T, v, f, rv, h1, h2, h3.mono hk⟩

end Go.Vc
