/-
  That each pure operation, read off, does what is said of it: addresses, parts, slices.
-/
import Derived.Test.YtbnaicgmnadkgaaPur
set_option linter.unusedVariables false
set_option linter.unusedSimpArgs false
namespace Go.Vc

section
variable {P : Program} {o : Oper} {a : Act} {ev : Ev} {H : Hp} {K : Value → Hp → Prop}

theorem pure_extract {i : Nat} {x : Operand} (hev : Tells ev a) (ho : o.op = .extract x i) (h : (Iop.extract i x).vc P ev H K) : Pures P o a H K := by
  obtain ⟨vs, hv, h⟩ := tupV_spec (withEv hev h)
  obtain ⟨v, hi, h⟩ := withO_spec h
  refine ⟨v, fun w => ?_, h⟩
  have hi' : vs[i]? = some v := by simpa using hi
  simp [execOp, ho, hv, Instr.extract, hi']

theorem pure_fieldAddr {t : TypeId} {f : Nat} {x : Operand} {fields : Array Field} {fd : Field} (hev : Tells ev a) (ho : o.op = .fieldAddr t x f) (ht : P.underlying t = some (.struct fields))
    (hf : fields[f]? = some fd) (hi : (P.info? fd.type).isSome = true) (h0 : P.cellsOf fd.type ≠ 0) (h : (Iop.fieldAddr fd.offset x).vc P ev H K) : Pures P o a H K := by
  obtain ⟨b, off, hv, h⟩ := ptrV_spec (withEv hev h)
  refine ⟨_, fun w => ?_, h⟩
  simp [execOp, ho, hv, Instr.fieldAt, runs_underlying ht, hf, Instr.sureAddr, fieldPlace, runs_sizeOf hi, h0, add_mk]

theorem pure_field {t : TypeId} {f : Nat} {x : Operand} {fields : Array Field} {fd : Field} (hev : Tells ev a) (ho : o.op = .field t x f) (ht : P.underlying t = some (.struct fields))
    (hf : fields[f]? = some fd) (hi : (P.info? fd.type).isSome = true) (hu : (P.underlying fd.type).isSome = true)
    (h : (Iop.field fd.offset (if isAggT P fd.type then some (P.cellsOf fd.type) else none) x).vc P ev H K) : Pures P o a H K := by
  obtain ⟨vs, hv, h⟩ := aggV_spec (withEv hev h)
  obtain ⟨v, hp, h⟩ := withO_spec h
  refine ⟨v, fun w => ?_, h⟩
  have := runs_part hi hu hp w
  simp only [Array.toArray_toList] at this
  simp [execOp, ho, hv, Instr.field, runs_underlying ht, hf, asAgg, this]

theorem pure_indexAddr {t e : TypeId} {x i : Operand} (hev : Tells ev a) (ho : o.op = .indexAddr t x i) (ht : P.underlying t = some (.slice e)) (hi : (P.info? e).isSome = true)
    (h : (Iop.indexAddr (P.cellsOf e) x i).vc P ev H K) : Pures P o a H K := by
  obtain ⟨ad, n, c, hx, h⟩ := sliceV_spec (withEv hev (withEv hev h))
  obtain ⟨k, j, hj, h⟩ := intV_spec h
  obtain ⟨hb, h⟩ := h.out
  obtain ⟨b, off, rfl, h⟩ := baseV_spec h
  refine ⟨_, fun w => ?_, h⟩
  simp [execOp, ho, hx, hj, Instr.indexAt, runs_underlying ht, asIntOf, hb.1, hb.2, runs_sizeOf hi, add_mk]

theorem pure_indexArr {t e : TypeId} {n : Nat} {x i : Operand} (hev : Tells ev a) (ho : o.op = .indexAddr t x i) (ht : P.underlying t = some (.array n e)) (hi : (P.info? e).isSome = true)
    (h : (Iop.indexArr n (P.cellsOf e) x i).vc P ev H K) : Pures P o a H K := by
  obtain ⟨b, off, hx, h⟩ := ptrV_spec (withEv hev (withEv hev h))
  obtain ⟨k, j, hj, h⟩ := intV_spec h
  obtain ⟨hb, h⟩ := h.out
  refine ⟨_, fun w => ?_, h⟩
  simp [execOp, ho, hx, hj, Instr.indexAt, runs_underlying ht, asIntOf, hb.1, hb.2, runs_sizeOf hi, add_mk, Instr.sureAddr]

theorem pure_indexS {t : TypeId} {x i : Operand} (hev : Tells ev a) (ho : o.op = .index t x i) (ht : P.underlying t = some .string)
    (h : (Iop.indexS x i).vc P ev H K) : Pures P o a H K := by
  obtain ⟨s, hx, h⟩ := stringV_spec (withEv hev (withEv hev h))
  obtain ⟨k, j, hj, h⟩ := intV_spec h
  obtain ⟨h0, h⟩ := h.out
  obtain ⟨b, hb, h⟩ := withO_spec h
  refine ⟨_, fun w => ?_, h⟩
  simp [execOp, ho, hx, hj, Instr.index, runs_underlying ht, asIntOf, h0, hb]

theorem boundV_spec {x : Option Operand} {d : Nat} {F : Int → Prop} (hev : Tells ev a) (h : boundV ev x d F) :
    ∃ n, F n ∧ ((x = none ∧ n = d) ∨ ∃ y k, x = some y ∧ a.eval y = .int k n) := by
  cases x with
  | none => exact ⟨d, h, .inl ⟨rfl, rfl⟩⟩
  | some y =>
    obtain ⟨k, n, hy, h⟩ := intV_spec (withEv hev h)
    exact ⟨n, h, .inr ⟨y, k, rfl, hy⟩⟩

theorem run_bound {k : IntKind} {i : Int} {y : Nat} {code : BoundsCode} (h0 : 0 ≤ i) (h1 : i ≤ y) (w : World) : (Instr.sliceBound (.int k i) y code).run P w = .ok i.toNat w := by
  simp [Instr.sliceBound, asIntOf, h0, h1]

theorem run_bounds {isS : Bool} {n c : Nat} {lo hi mx : Option Operand} {l h m : Int} (hl : (lo = none ∧ l = 0) ∨ ∃ y k, lo = some y ∧ a.eval y = .int k l)
    (hh : (hi = none ∧ h = n) ∨ ∃ y k, hi = some y ∧ a.eval y = .int k h) (hm : (mx = none ∧ m = c) ∨ ∃ y k, mx = some y ∧ a.eval y = .int k m)
    (h3 : mx.isSome = true → hi.isSome = true) (hb : 0 ≤ l ∧ l ≤ h ∧ h ≤ m ∧ m ≤ c) (w : World) :
    (Instr.sliceBounds isS n c (lo.map a.eval) (hi.map a.eval) (mx.map a.eval)).run P w = .ok (l.toNat, h.toNat, m.toNat) w := by
  obtain ⟨h1, h2, h4, h5⟩ := hb
  unfold Instr.sliceBounds
  rcases hm with ⟨rfl, rfl⟩ | ⟨ym, km, rfl, em⟩
  · rcases hh with ⟨rfl, rfl⟩ | ⟨yh, kh, rfl, eh⟩ <;> rcases hl with ⟨rfl, rfl⟩ | ⟨yl, kl, rfl, el⟩ <;>
      simp only [Option.map_none, Option.map_some, Option.isSome_none, Sem.run_bind, Sem.run_pure, Result.andThen_ok, *]
    · rfl
    · rw [run_bound h1 (by omega)]; rfl
    · rw [run_bound (by omega) (by omega)]; rfl
    · rw [run_bound (by omega) (by omega)]; simp only [Result.andThen_ok]; rw [run_bound h1 (by omega)]; rfl
  · rcases hh with ⟨rfl, rfl⟩ | ⟨yh, kh, rfl, eh⟩
    · exact absurd (h3 rfl) (by simp)
    · rcases hl with ⟨rfl, rfl⟩ | ⟨yl, kl, rfl, el⟩ <;> simp only [Option.map_none, Option.map_some, Option.isSome_some, Sem.run_bind, Sem.run_pure, Result.andThen_ok, *]
      · rw [run_bound (by omega) (by omega)]; simp only [Result.andThen_ok]; rw [run_bound (by omega) (by omega)]; rfl
      · rw [run_bound (by omega) (by omega)]; simp only [Result.andThen_ok]; rw [run_bound (by omega) (by omega)]; simp only [Result.andThen_ok]; rw [run_bound h1 (by omega)]; rfl

theorem pure_slice {t e : TypeId} {x : Operand} {lo hi mx : Option Operand} (hev : Tells ev a) (ho : o.op = .slice t x lo hi mx) (ht : P.underlying t = some (.slice e)) (hie : (P.info? e).isSome = true)
    (h3 : mx.isSome = true → hi.isSome = true) (h : (Iop.slice (P.cellsOf e) x lo hi mx).vc P ev H K) : Pures P o a H K := by
  obtain ⟨ad, n, c, hx, h⟩ := sliceV_spec (withEv hev h)
  obtain ⟨m, h, hm⟩ := boundV_spec hev h
  obtain ⟨hh, h, hhi⟩ := boundV_spec hev h
  obtain ⟨l, h, hlo⟩ := boundV_spec hev h
  obtain ⟨hb, h⟩ := h.out
  refine ⟨_, fun w => ?_, h⟩
  have hr := run_bounds (P := P) (isS := true) (n := n) (c := c) hlo hhi hm h3 hb w
  simp only [execOp, ho, Instr.sliceAt, Sem.run_bind, runs_underlying ht, Result.andThen_ok, Instr.slice, hx, hr, runs_sizeOf hie, Sem.run_pure]
  by_cases hml : m = l
  · subst hml; simp
  · rw [if_neg hml, if_neg (by omega)]

theorem pure_sliceS {t : TypeId} {x : Operand} {lo hi : Option Operand} (hev : Tells ev a) (ho : o.op = .slice t x lo hi none) (ht : P.underlying t = some .string)
    (h : (Iop.sliceS x lo hi).vc P ev H K) : Pures P o a H K := by
  obtain ⟨s, hx, h⟩ := stringV_spec (withEv hev h)
  obtain ⟨hh, h, hhi⟩ := boundV_spec hev h
  obtain ⟨l, h, hlo⟩ := boundV_spec hev h
  obtain ⟨hb, h⟩ := h.out
  refine ⟨_, fun w => ?_, h⟩
  have hr := run_bounds (P := P) (isS := false) (n := s.size) (c := s.size) (m := s.size) (mx := none) hlo hhi (.inl ⟨rfl, rfl⟩) (by simp) ⟨hb.1, hb.2.1, hb.2.2, Int.le_refl _⟩ w
  simp only [Option.map_none] at hr
  simp only [execOp, ho, Instr.sliceAt, Sem.run_bind, runs_underlying ht, Result.andThen_ok, Instr.slice, hx, hr, Sem.run_pure, Option.map_none, Option.isSome_none, Bool.false_eq_true, if_false]

/-! literals -/

theorem splice_foldl (vs : List Value) : ∀ (n off : Nat) (z : Array Value), ((vs.zipIdx n).foldl (fun cs (c, j) => cs.setIfInBounds (off + j) c) z).toList = splice z.toList (off + n) vs := by
  induction vs with
  | nil => intro n off z; rfl
  | cons v vs ih =>
    intro n off z
    rw [List.zipIdx_cons, List.foldl_cons, splice_cons]
    have := ih (n + 1) off (z.setIfInBounds (off + n) v)
    rw [this]
    simp [Nat.add_assoc]

theorem fill_eq {place : Nat → Option (Nat × Nat)} : ∀ (ps : List (Nat × Operand)) (qs : List (Nat × Nat × Operand)) (z : Array Value) (F : List Value → Prop),
    List.length ps = List.length qs → (∀ (j i : Nat) (x : Operand), ps[j]? = some (i, x) → ∃ off size : Nat, qs[j]? = some (off, size, x) ∧ place i = some (off, size) ∧ off + size ≤ z.size) → Tells ev a → fillV ev z.toList qs F →
      ∃ z' : Array Value, Instr.fill place z (ps.map fun (i, x) => (i, a.eval x)) = some z' ∧ F z'.toList := by
  intro ps
  induction ps with
  | nil =>
    intro qs z F hl hp hev h
    cases qs with
    | nil => exact ⟨z, rfl, h⟩
    | cons q qs => simp at hl
  | cons p ps ih =>
    intro qs z F hl hp hev h
    obtain ⟨i, x⟩ := p
    cases qs with
    | nil => simp at hl
    | cons q qs =>
      obtain ⟨off, size, hq, hpl, hle⟩ := hp 0 i x rfl
      simp only [List.getElem?_cons_zero, Option.some.injEq] at hq
      subst hq
      obtain ⟨hn, h⟩ := (withEv hev h).out
      have hsz : (a.eval x).cells.size = size := by rw [← hn, ← vcells_eq]; simp
      rw [List.map_cons, Instr.fill]
      simp only [hpl, hsz, ne_eq, not_true_eq_false, decide_false, Bool.false_or, decide_eq_true_eq]
      rw [if_neg (by omega)]
      have hfold : ((a.eval x).cells.zipIdx.foldl (fun cs (c, j) => cs.setIfInBounds (off + j) c) z).toList = splice z.toList off (vcells (a.eval x)) := by
        have := splice_foldl (a.eval x).cells.toList 0 off z
        rw [vcells_eq] at this
        rw [← Array.foldl_toList, Array.toList_zipIdx, vcells_eq]
        simpa using this
      refine ih qs _ F (by simpa using hl) (fun j i' x' hj => ?_) hev (by rw [hfold]; exact h)
      obtain ⟨off', size', hq', hpl', hle'⟩ := hp (j + 1) i' x' (by simpa using hj)
      refine ⟨off', size', by simpa using hq', hpl', ?_⟩
      have : ((a.eval x).cells.zipIdx.foldl (fun cs (c, j) => cs.setIfInBounds (off + j) c) z).size = z.size := by
        rw [← Array.length_toList, hfold, length_splice, Array.length_toList]
      rw [this]; exact hle'

end
end Go.Vc
