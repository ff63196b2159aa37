/-
  That each operation that reads or writes, read off, does what is said of it.
-/
import Derived.Test.YtbnaicgmnadkgaaPu2
set_option linter.unusedVariables false
set_option linter.unusedSimpArgs false
namespace Go.Vc

section
variable {P : Program} {o : Oper} {a : Act} {ev : Ev} {H : Hp} {K : Value → Hp → Prop}

theorem partsBy_spec {place : Nat → Option (Nat × Nat)} {zlen : Nat} : ∀ (ps : List (Nat × Operand)) (qs : List (Nat × Nat × Operand)), partsBy place zlen ps = some qs →
    ps.length = qs.length ∧ ∀ (j i : Nat) (x : Operand), ps[j]? = some (i, x) → ∃ off size : Nat, qs[j]? = some (off, size, x) ∧ place i = some (off, size) ∧ off + size ≤ zlen := by
  intro ps
  induction ps with
  | nil => intro qs h; simp only [partsBy, Option.some.injEq] at h; subst h; simp
  | cons p ps ih =>
    intro qs h
    obtain ⟨i, x⟩ := p
    unfold partsBy at h
    split at h
    · cases h
    · rename_i off size hpl
      split at h
      · rename_i hle
        cases hr : partsBy place zlen ps with
        | none => rw [hr] at h; cases h
        | some qs' =>
          rw [hr] at h
          simp only [Option.map_some, Option.some.injEq] at h
          subst h
          obtain ⟨h1, h2⟩ := ih qs' hr
          refine ⟨by simp [h1], fun j i' x' hj => ?_⟩
          cases j with
          | zero =>
            simp only [List.getElem?_cons_zero, Option.some.injEq, Prod.mk.injEq] at hj
            obtain ⟨rfl, rfl⟩ := hj
            exact ⟨off, size, rfl, hpl, hle⟩
          | succ j => exact h2 j i' x' (by simpa using hj)
      · cases h

theorem runs_places (fs : List Field) (h : ∀ f ∈ fs, (P.info? f.type).isSome = true) (w : World) :
    (fs.mapM fun f => (do pure (f.offset, ← sizeOf f.type) : Sem (Nat × Nat))).run P w = .ok (fs.map fun f => (f.offset, P.cellsOf f.type)) w := by
  induction fs with
  | nil => rfl
  | cons f fs ih =>
    rw [List.mapM_cons]
    simp only [Sem.run_bind, runs_sizeOf (h f List.mem_cons_self), Result.andThen_ok, Sem.run_pure, ih fun g hg => h g (List.mem_cons_of_mem _ hg), List.map_cons]

theorem pairs_eq (ps : Array (Nat × Operand)) : (ps.map fun (i, x) => (i, a.eval x)).toList = ps.toList.map fun (i, x) => (i, a.eval x) := by simp

theorem pure_build {t : TypeId} {z : Value} {ps : Array (Nat × Operand)} {qs : List (Nat × Nat × Operand)} (hev : Tells ev a) (ho : o.op = .build t ps) (hz : zeroT P t = some z)
    (hq : parts P t (vcells z).length ps.toList = some qs) (h : (Iop.build (vcells z) qs).vc P ev H K) : Pures P o a H K := by
  have hzc : z.cells.toList = vcells z := vcells_eq z
  have hzs : z.cells.size = (vcells z).length := by rw [← hzc]; simp
  unfold parts at hq
  split at hq
  · rename_i fields hu
    split at hq
    · rename_i hk
      obtain ⟨h1, h2⟩ := partsBy_spec _ _ hq
      obtain ⟨z', hf, hk'⟩ := fill_eq (a := a) (ev := ev) (place := ((placeOf P fields)[·]?)) ps.toList qs z.cells (fun l => K (.agg l.toArray) H) h1
        (fun j i x hj => by obtain ⟨off, size, e1, e2, e3⟩ := h2 j i x hj; exact ⟨off, size, e1, e2, by omega⟩) hev (by rw [hzc]; exact h)
      refine ⟨.agg z', fun w => ?_, by simpa using hk'⟩
      have hpl : (fields.mapM fun f => (do pure (f.offset, ← sizeOf f.type) : Sem (Nat × Nat))).run P w = .ok (placeOf P fields) w := by
        rw [Array.mapM_eq_mapM_toList, Sem.run_map, runs_places fields.toList (fun f hf => by
          have := (Array.all_eq_true_iff_forall_mem.1 hk) f (by simpa using hf); exact this) w]
        simp only [Result.andThen_ok]
        congr 1
        apply Array.ext'
        simp [placeOf]
      simp only [execOp, ho, Instr.build, Sem.run_bind, runs_zeroValue hz, runs_underlying hu, Result.andThen_ok, hpl, pairs_eq, hf, Sem.run_pure]
    · cases hq
  · rename_i n e hu
    split at hq
    · rename_i hi
      obtain ⟨h1, h2⟩ := partsBy_spec _ _ hq
      obtain ⟨z', hf, hk'⟩ := fill_eq (a := a) (ev := ev) (place := fun i => some (i * P.cellsOf e, P.cellsOf e)) ps.toList qs z.cells (fun l => K (.agg l.toArray) H) h1
        (fun j i x hj => by obtain ⟨off, size, e1, e2, e3⟩ := h2 j i x hj; exact ⟨off, size, e1, e2, by omega⟩) hev (by rw [hzc]; exact h)
      refine ⟨.agg z', fun w => ?_, by simpa using hk'⟩
      simp only [execOp, ho, Instr.build, Sem.run_bind, runs_zeroValue hz, runs_underlying hu, Result.andThen_ok, runs_sizeOf hi, pairs_eq, hf, Sem.run_pure]
    · cases hq
  · cases hq

theorem zeros_eq {z : Array Value} {n size : Nat} (hs : z.size = size) (h0 : size ≠ 0) : ((Array.range (n * size)).map (z[· % z.size]!)).toList = padZ z.toList n := by
  subst hs
  induction n with
  | zero => simp [padZ]
  | succ n ih =>
    apply List.ext_getElem?
    intro i
    have hp : padZ z.toList (n + 1) = padZ z.toList n ++ z.toList := by simp [padZ, List.replicate_succ']
    have hlen : (padZ z.toList n).length = n * z.size := by rw [← ih]; simp
    rw [hp]
    by_cases hi : i < n * z.size
    · rw [List.getElem?_append_left (by omega), ← ih]
      have : i < (n + 1) * z.size := by rw [Nat.add_mul]; omega
      simp [hi, this]
    · rw [List.getElem?_append_right (by omega), hlen]
      by_cases hi2 : i < (n + 1) * z.size
      · have hi3 : i - n * z.size < z.size := by rw [Nat.add_mul] at hi2; omega
        have hmod : i % z.size = i - n * z.size := by
          have e : i = (i - n * z.size) + z.size * n := by rw [Nat.mul_comm z.size n]; omega
          rw [e, Nat.add_mul_mod_self_left, Nat.mod_eq_of_lt hi3]
          rw [Nat.mul_comm z.size n]; omega
        simp [hi2, hmod, hi3]
      · have : z.size ≤ i - n * z.size := by rw [Nat.add_mul] at hi2; omega
        simp [hi2, this]

theorem length_padZ (z : List Value) (n : Nat) : (padZ z n).length = n * z.length := by simp [padZ]

theorem does_lit {t e : TypeId} {n : Nat} {z : Value} {ps : Array (Nat × Operand)} {qs : List (Nat × Nat × Operand)} (hev : Tells ev a) (ho : o.op = .buildSlice t n ps) (ht : P.underlying t = some (.slice e))
    (hz : zeroT P e = some z) (hi : (P.info? e).isSome = true) (h0 : P.cellsOf e ≠ 0) (hl : (vcells z).length = P.cellsOf e) (hm : n * P.cellsOf e ≤ 2 ^ 24)
    (hq : partsBy (fun i => some (i * P.cellsOf e, P.cellsOf e)) (n * P.cellsOf e) ps.toList = some qs) (h : (Iop.lit e n (padZ (vcells z) n) qs).vc P ev H K) : Does P o a H K := by
  have hzc : z.cells.toList = vcells z := vcells_eq z
  have hzs : z.cells.size = P.cellsOf e := by rw [← hl, ← hzc]; simp
  intro w hw
  subst hw
  obtain ⟨h1, h2⟩ := partsBy_spec _ _ hq
  have hrow : ∀ (zz : Array Value), (n * P.cellsOf e = 0 ∨ zz = z.cells) → ((Array.range (n * P.cellsOf e)).map (zz[· % zz.size]!)).toList = padZ (vcells z) n := by
    intro zz hzz
    rcases hzz with hzz | rfl
    · have : n = 0 := by
        rcases Nat.mul_eq_zero.1 hzz with h | h
        · exact h
        · exact absurd h h0
      subst this
      simp [padZ]
    · rw [zeros_eq hzs h0, hzc]
  have main : ∀ zz : Array Value, (n * P.cellsOf e = 0 ∨ zz = z.cells) → ∃ z' : Array Value, Instr.fill (fun i => some (i * P.cellsOf e, P.cellsOf e)) ((Array.range (n * P.cellsOf e)).map (zz[· % zz.size]!)) (ps.toList.map fun (i, x) => (i, a.eval x)) = some z' ∧
      K (.slice (some ⟨w.heap.size, 0, none⟩) n n) (Hp.new w.heap e z'.toList) := by
    intro zz hzz
    exact fill_eq (a := a) (ev := ev) ps.toList qs _ (fun l => K (.slice (some ⟨w.heap.size, 0, none⟩) n n) (Hp.new w.heap e l)) h1
      (fun j i x hj => by obtain ⟨off, size, e1, e2, e3⟩ := h2 j i x hj; exact ⟨off, size, e1, e2, by simpa using e3⟩) hev (by rw [hrow zz hzz]; exact h)
  by_cases hn : n * P.cellsOf e = 0
  · obtain ⟨z', hf, hk⟩ := main #[] (.inl hn)
    refine .inl ⟨.slice (some ⟨w.heap.size, 0, none⟩) n n, { w with heap := Hp.new w.heap e z'.toList }, ?_, ⟨rfl, rfl⟩, hk⟩
    simp only [execOp, ho, Instr.buildSlice, Sem.run_bind, runs_underlying ht, runs_sizeOf hi, Result.andThen_ok]
    rw [if_neg (by omega), if_pos hn]
    simp only [Sem.run_pure, Result.andThen_ok, Sem.run_bind, pairs_eq, hf, runs_newRow]
  · obtain ⟨z', hf, hk⟩ := main z.cells (.inr rfl)
    refine .inl ⟨.slice (some ⟨w.heap.size, 0, none⟩) n n, { w with heap := Hp.new w.heap e z'.toList }, ?_, ⟨rfl, rfl⟩, hk⟩
    simp only [execOp, ho, Instr.buildSlice, Sem.run_bind, runs_underlying ht, runs_sizeOf hi, Result.andThen_ok]
    rw [if_neg (by omega), if_neg hn]
    simp only [Sem.run_pure, Result.andThen_ok, Sem.run_bind, runs_zeroValue hz, pairs_eq, hf, runs_newRow]

theorem does_box {t : TypeId} {x : Operand} (hev : Tells ev a) (ho : o.op = .box t x) (h : (Iop.box t x).vc P ev H K) : Does P o a H K := by
  intro w hw
  subst hw
  have h := withEv hev h
  refine .inl ⟨_, { w with heap := Hp.new w.heap t (vcells (a.eval x)) }, ?_, ⟨rfl, rfl⟩, h⟩
  simp [execOp, ho, Instr.box, runs_newVar]

theorem does_zero {t : TypeId} {z : Value} (hz : zeroT P t = some z) (ho : o.op = .alloc t) (h : (Iop.zero t (vcells z)).vc P ev H K) : Does P o a H K := by
  intro w hw
  subst hw
  refine .inl ⟨_, { w with heap := Hp.new w.heap t (vcells z) }, ?_, ⟨rfl, rfl⟩, h⟩
  simp [execOp, ho, Instr.alloc, runs_newVar, runs_zeroValue hz]

theorem does_load1 {t : TypeId} {x : Operand} (hev : Tells ev a) (ho : o.op = .load t x) (hi : (P.info? t).isSome = true) (hu : (P.underlying t).isSome = true) (hg : isAggT P t = false)
    (h : (Iop.load1 x).vc P ev H K) : Does P o a H K := by
  intro w hw
  subst hw
  obtain ⟨b, off, hx, h⟩ := ptrV_spec (withEv hev h)
  obtain ⟨l, hl, h⟩ := withO_spec h
  obtain ⟨v, hv, h⟩ := withO_spec h
  refine .inl ⟨v, w, ?_, Same.refl w, h⟩
  simp [execOp, ho, Instr.loadAt, hx, Instr.sureAddr, (runs_loadVar hi hu hl).2 hg v hv]

theorem does_loadN {t : TypeId} {x : Operand} (hev : Tells ev a) (ho : o.op = .load t x) (hi : (P.info? t).isSome = true) (hu : (P.underlying t).isSome = true) (hg : isAggT P t = true)
    (h : (Iop.loadN (P.cellsOf t) x).vc P ev H K) : Does P o a H K := by
  intro w hw
  subst hw
  obtain ⟨b, off, hx, h⟩ := ptrV_spec (withEv hev h)
  obtain ⟨l, hl, h⟩ := withO_spec h
  obtain ⟨hn, h⟩ := h.out
  refine .inl ⟨_, w, ?_, Same.refl w, h⟩
  simp only [execOp, ho, Instr.loadAt, hx, Instr.sureAddr, Sem.run_bind, Sem.run_pure, Result.andThen_ok, (runs_loadVar hi hu hl).1 hg hn]

theorem does_store {t : TypeId} {x y : Operand} (hev : Tells ev a) (ho : o.op = .store t x y) (hi : (P.info? t).isSome = true) (h0 : P.cellsOf t ≠ 0)
    (h : (Iop.store (P.cellsOf t) x y).vc P ev H K) : Does P o a H K := by
  intro w hw
  subst hw
  obtain ⟨b, off, hx, h⟩ := ptrV_spec (withEv hev h)
  obtain ⟨l, hl, h⟩ := withO_spec (withEv hev h)
  obtain ⟨h1, h⟩ := h.out
  obtain ⟨h2, h⟩ := h.out
  obtain ⟨h3, h⟩ := h.out
  obtain ⟨w', hr, hs, hh⟩ := runs_storeVar (v := a.eval y) hi h0 hl h1 (allOne_of h2) h3
  refine .inr (.inl ⟨w', ?_, hs, hh ▸ h⟩)
  simp [execOp, ho, Instr.storeAt, hx, Instr.sureAddr, hr]

theorem does_newMap {t : TypeId} (ho : o.op = .makeMap t none) (h : Iop.newMap.vc P ev H K) : Does P o a H K := by
  intro w hw
  subst hw
  refine .inl ⟨_, { w with heap := Hp.newm w.heap }, ?_, ⟨rfl, rfl⟩, h⟩
  simp only [execOp, ho, Option.map_none, Instr.makeMap, Sem.run_bind, Sem.run_pure, Result.andThen_ok, run_newObj, Hp.newm]

theorem wrap_i64 {n : Int} (h0 : 0 ≤ n) (h1 : n ≤ 2 ^ 62) : IntKind.i64.wrap n = n := by
  have e : (2 ^ IntKind.i64.bits : Int) = 18446744073709551616 := rfl
  have e' : (2 ^ (IntKind.i64.bits - 1) : Int) = 9223372036854775808 := rfl
  unfold IntKind.wrap
  simp only [e, e', IntKind.signed, Bool.true_and, decide_eq_true_eq]
  split <;> omega

theorem does_makeSlice {t e : TypeId} {z : Value} {x y : Operand} (hev : Tells ev a) (ho : o.op = .makeSlice t x y) (ht : P.underlying t = some (.slice e)) (hz : zeroT P e = some z)
    (hi : (P.info? e).isSome = true) (h0 : P.cellsOf e ≠ 0) (hl : (vcells z).length = P.cellsOf e) (h : (Iop.makeSlice e (P.bytesOf e) (P.cellsOf e) (vcells z) x y).vc P ev H K) : Does P o a H K := by
  intro w hw
  subst hw
  have h := withEv hev (withEv hev h)
  obtain ⟨k, n, hx, h⟩ := intV_spec h
  obtain ⟨k', c, hy, h⟩ := intV_spec h
  obtain ⟨⟨h1, h2, h3, h4⟩, h⟩ := h.out
  refine .inl ⟨_, { w with heap := Hp.new w.heap e (padZ (vcells z) c.toNat) }, ?_, ⟨rfl, rfl⟩, h⟩
  obtain ⟨i, hi'⟩ := Option.isSome_iff_exists.1 hi
  have hb : i.bytes = P.bytesOf e := by simp [Program.bytesOf, hi']
  have hzc : z.cells.toList = vcells z := vcells_eq z
  have hzs : z.cells.size = P.cellsOf e := by rw [← hl, ← hzc]; simp
  have w1 := wrap_i64 h1 (by omega : n ≤ 2 ^ 62)
  have w2 := wrap_i64 (by omega : 0 ≤ c) (by omega : c ≤ 2 ^ 62)
  simp only [execOp, ho, Instr.makeSlice, Sem.run_bind, runs_underlying ht, Result.andThen_ok, hx, hy, asInt, asIntOf, Sem.run_pure, runs_typeInfo hi', hb, w1, w2, run_askRoom, runs_sizeOf hi]
  have t1 : (decide (c < 0) || decide ((P.bytesOf e : Int) * c > 2 ^ 48)) = false := by simp; omega
  rw [if_neg (by simp only [t1, Bool.false_eq_true, false_or, Bool.or_eq_true, decide_eq_true_eq]; omega)]
  simp only [Sem.run_bind, run_askRoom, Result.andThen_ok, runs_sizeOf hi]
  by_cases hn : c.toNat * P.cellsOf e = 0
  · have hc0 : c.toNat = 0 := by rcases Nat.mul_eq_zero.1 hn with h | h; exact h; exact absurd h h0
    rw [if_pos hn]
    simp only [hc0, Nat.zero_mul, Sem.run_bind, Sem.run_pure, Result.andThen_ok, runs_newRow]
    simp [padZ]
  · rw [if_neg hn]
    simp only [Sem.run_bind, runs_zeroValue hz, Sem.run_pure, Result.andThen_ok, runs_newRow, zeros_eq hzs h0, hzc]

/-! maps -/

theorem mp_spec {H : Hp} {b : Nat} {x : List MapEntry × Nat} (h : H.mp b = some x) : ∃ es : Array MapEntry, H[b]? = some (.map es x.2) ∧ es.toList = x.1 := by
  unfold Hp.mp at h
  split at h
  · rename_i es k hb; injection h with h; exact ⟨es, by rw [hb, ← h], by rw [← h]⟩
  · cases h

theorem runs_getMap {w : World} {b : Nat} {es : Array MapEntry} {k : Nat} (h : w.heap[b]? = some (.map es k)) : (getObj b).run P w = .ok (.map es k) w := by simp [getObj, Sem.run, h]
theorem runs_setMap {w : World} {b : Nat} {es es' : Array MapEntry} {k k' : Nat} (h : w.heap[b]? = some (.map es k)) :
    (setObj b (.map es' k')).run P w = .ok () { w with heap := Hp.wrm w.heap b es'.toList k' } := by
  simp [setObj, Sem.run, h, Hp.wrm]

theorem keyShape_simple {t : TypeId} {s : Shape} (h : keyShape P t = some s) (hs : ∀ fs, s ≠ .s fs) : shapeOf P depthT t = some s ∧ keyPart s = true := by
  unfold keyShape at h
  split at h
  · injection h with h; subst h; simp [shapeOf, depthT, *, keyPart]
  · injection h with h; subst h; simp [shapeOf, depthT, *, keyPart]
  · injection h with h; subst h; simp [shapeOf, depthT, *, keyPart]
  · split at h
    · split at h
      · injection h with h; exact absurd h.symm (hs _)
      · cases h
    · cases h
  · cases h

theorem keyShape_shape {t : TypeId} {s : Shape} (h : keyShape P t = some s) : shapeOf P depthT t = some s := by
  by_cases hs : ∃ fs, s = .s fs
  · obtain ⟨fs, rfl⟩ := hs
    unfold keyShape at h
    split at h
    · cases h
    · cases h
    · cases h
    · split at h
      · split at h
        · injection h with h; injection h with h; subst h; assumption
        · cases h
      · cases h
    · cases h
  · exact (keyShape_simple h fun fs e => hs ⟨fs, e⟩).1

theorem run_checkSimple {d : Nat} {t : TypeId} {s : Shape} (h : shapeOf P d t = some s) (hk : keyPart s = true) (v : Value) (e : Bool) (n : Nat) (w : World) : (Instr.checkKey e (n + 1) t v).run P w = .ok () w := by
  cases d with
  | zero => simp [shapeOf] at h
  | succ d =>
    rw [shapeOf_succ] at h
    split at h
    · injection h with h; subst h; simp [Instr.checkKey, runs_underlying ‹P.underlying t = _›]
    · injection h with h; subst h; simp [Instr.checkKey, runs_underlying ‹P.underlying t = _›]
    · injection h with h; subst h; simp [Instr.checkKey, runs_underlying ‹P.underlying t = _›]
    case h_9 => split at h
                · cases h
                · rename_i fs _ _
                  cases hr : shapesOf P d fs.toList with
                  | none => rw [hr] at h; cases h
                  | some l => rw [hr] at h; injection h with h; subst h; simp [keyPart] at hk
    all_goals first | (cases h; done) | (injection h with h; subst h; simp [keyPart] at hk)

theorem run_checkFields {d : Nat} (e : Bool) (n : Nat) (xs : List Value) : ∀ (fs : List Field) (l : List (Nat × Option Nat × Shape)), shapesOf P d fs = some l →
    (l.all fun (off, agg, sh) => agg.isNone && keyPart sh) = true → (∀ q ∈ l, (xs[q.1]?).isSome = true) → ∀ w : World,
    (forIn fs PUnit.unit fun f (_ : PUnit) => (do
      if f.name ≠ "_" then Instr.checkKey e (n + 1) f.type (← part f.type xs.toArray f.offset)
      pure (ForInStep.yield PUnit.unit) : Sem (ForInStep PUnit))).run P w = .ok PUnit.unit w := by
  intro fs
  induction fs with
  | nil => intro l _ _ _ w; simp
  | cons f fs ih =>
    intro l hl ha hx w
    rw [shapesOf_cons] at hl
    split at hl
    · cases hl
    · rename_i hname
      split at hl
      · cases hl
      · rename_i sh hsh
        cases hr : shapesOf P d fs with
        | none => rw [hr] at hl; cases hl
        | some l' =>
          rw [hr] at hl
          simp only [Option.map_some, Option.some.injEq] at hl
          subst hl
          rw [List.all_cons] at ha
          simp only [Bool.and_eq_true] at ha
          obtain ⟨⟨h1, h2⟩, h3⟩ := ha
          have hagg : isAggT P f.type = false := by
            cases hb : isAggT P f.type
            · rfl
            · simp [hb] at h1
          obtain ⟨v, hv⟩ := Option.isSome_iff_exists.1 (hx _ List.mem_cons_self)
          have hu : (P.underlying f.type).isSome = true := by
            cases d with
            | zero => simp [shapeOf] at hsh
            | succ d => rw [shapeOf_succ] at hsh; split at hsh <;> first | (cases hsh; done) | simp_all
          have hp := runs_part (P := P) (l := xs) (t := f.type) (off := f.offset) (v := v) (info_of_underlying hu) hu (by rw [hagg]; simpa [partL] using hv) w
          simp only [List.forIn_cons, hname, ne_eq, not_false_eq_true, if_true, Sem.run_bind, hp, Result.andThen_ok, run_checkSimple hsh h2, Sem.run_pure]
          exact ih l' hr h3 (fun q hq => hx q (List.mem_cons_of_mem _ hq)) w

theorem run_checkKey_n {t : TypeId} {s : Shape} {k : Value} (h : keyShape P t = some s) (hk : keyOk s k = true) (e : Bool) (n : Nat) (w : World) : (Instr.checkKey e (n + 1 + 1) t k).run P w = .ok () w := by
  by_cases hs : ∃ fs, s = .s fs
  · obtain ⟨l, rfl⟩ := hs
    have h' := h
    unfold keyShape at h
    split at h
    · cases h
    · cases h
    · cases h
    · rename_i fs hu
      split at h
      · split at h
        · rename_i l' hsh hall
          injection h with h; injection h with h; subst h
          cases k with
          | agg xs =>
            simp only [show depthT = 7 + 1 from rfl, shapeOf_succ, hu] at hsh
            split at hsh
            · cases hsh
            · cases hr : shapesOf P 7 fs.toList with
              | none => rw [hr] at hsh; cases hsh
              | some l =>
                rw [hr] at hsh
                simp only [Option.map_some, Option.some.injEq, Shape.s.injEq] at hsh
                subst hsh
                rw [Instr.checkKey]
                simp only [Sem.run_bind, runs_underlying hu, Result.andThen_ok]
                rw [← Array.forIn_toList]
                have := run_checkFields (P := P) e n xs.toList fs.toList l hr hall (fun q hq => by
                  have h1 := (List.all_eq_true.1 hk) q hq
                  obtain ⟨off, agg, sh⟩ := q
                  simp only [Bool.and_eq_true] at h1
                  have h2 := h1.2
                  cases hx : (xs.toList)[off]? with
                  | none => rw [show xs[off]? = none by simpa using hx] at h2; cases sh <;> simp at h2
                  | some v => rfl) w
                simp only [Array.toArray_toList] at this
                rw [this]
                rfl
          | _ => simp [keyOk] at hk
        · cases h
      · cases h
    · cases h
  · obtain ⟨h1, h2⟩ := keyShape_simple h fun fs e => hs ⟨fs, e⟩
    exact run_checkSimple h1 h2 k e (n + 1) w

theorem run_checkKey_ok {t : TypeId} {s : Shape} {k : Value} (h : keyShape P t = some s) (hk : keyOk s k = true) (e : Bool) (w : World) : (Instr.checkKey e 10000 t k).run P w = .ok () w :=
  run_checkKey_n h hk e 9998 w

theorem run_findAsking {t : TypeId} {s : Shape} {k : Value} (h : shapeOf P depthT t = some s) : ∀ (es : List MapEntry) (i : Nat) (r : Option (Nat × Value)), findK s k es i = some r → ∀ w : World,
    (Instr.findAsking t k es i).run P w = .ok r w := by
  intro es
  induction es with
  | nil => intro i r hr w; simp only [findK, Option.some.injEq] at hr; subst hr; rfl
  | cons e es ih =>
    intro i r hr w
    unfold findK at hr
    have he : ∀ b, eqV s k e.key = some b → (Op.equal t k e.key).run P w = .ok b w := by
      intro b hb
      unfold Op.equal Op.maxDepth
      have := (runs_equalIn (P := P) depthT).1 t s k e.key b h hb (10000 - depthT) w
      simpa [depthT] using this
    split at hr
    · rename_i hb
      injection hr with hr; subst hr
      simp [Instr.findAsking, he true hb]
    · rename_i hb
      simp [Instr.findAsking, he false hb, ih (i + 1) r hr w]
    · cases hr

theorem findNow_of_findK {d : TypeDesc} {s : Shape} {k : Value} (hd : (∃ q, d = .int q ∧ s = .int) ∨ (d = .string ∧ s = .str) ∨ (d = .bool ∧ s = .bool)) : ∀ (es : List MapEntry) (i : Nat) (r : Option (Nat × Value)),
    findK s k es i = some r → Instr.findNow d k es i = some r := by
  intro es
  induction es with
  | nil => intro i r hr; simpa [findK, Instr.findNow] using hr
  | cons e es ih =>
    intro i r hr
    unfold findK at hr
    unfold Instr.findNow
    have hsame : ∀ b, eqV s k e.key = some b → Instr.sameNow d k e.key = some b := by
      intro b hb
      rcases hd with ⟨q, rfl, rfl⟩ | ⟨rfl, rfl⟩ | ⟨rfl, rfl⟩
      · cases k <;> cases hk : e.key <;> simp only [hk, eqV, simpleEq] at hb <;> first | (cases hb; done) | skip
        exact hb
      · cases k <;> cases hk : e.key <;> simp only [hk, eqV, simpleEq] at hb <;> first | (cases hb; done) | skip
        simpa [Instr.sameNow, beq_toListBytes] using hb
      · cases k <;> cases hk : e.key <;> simp only [hk, eqV, simpleEq] at hb <;> first | (cases hb; done) | skip
        simpa [Instr.sameNow] using hb
    split at hr
    · rename_i hb; rw [hsame true hb]; exact hr
    · rename_i hb; rw [hsame false hb]; exact ih _ _ hr
    · cases hr

theorem run_findKey_ok {t : TypeId} {s : Shape} {k : Value} {es : List MapEntry} {r : Option (Nat × Value)} (h : keyShape P t = some s) (hr : findK s k es 0 = some r) (w : World) :
    (Instr.findKey t k es).run P w = .ok r w := by
  have hsh := keyShape_shape h
  unfold Instr.findKey
  have hu : ∃ d, P.underlying t = some d := by
    unfold keyShape at h
    split at h <;> first | exact ⟨_, ‹_›⟩ | cases h
  obtain ⟨d, hu⟩ := hu
  simp only [Sem.run_bind, runs_underlying hu, Result.andThen_ok]
  by_cases hs : ∃ fs, s = .s fs
  · obtain ⟨l, rfl⟩ := hs
    have hd : ∃ fs, d = .struct fs := by
      unfold keyShape at h
      rw [hu] at h
      split at h
      · cases h
      · cases h
      · cases h
      · rename_i he; injection he with he; exact ⟨_, he⟩
      · cases h
    obtain ⟨fs, rfl⟩ := hd
    cases es with
    | nil => simp only [findK, Option.some.injEq] at hr; subst hr; rfl
    | cons e es =>
      have : Instr.findNow (.struct fs) k (e :: es) 0 = none := by simp [Instr.findNow, Instr.sameNow]
      rw [this]
      exact run_findAsking hsh _ _ _ hr w
  · have hd : (∃ q, d = .int q ∧ s = .int) ∨ (d = .string ∧ s = .str) ∨ (d = .bool ∧ s = .bool) := by
      unfold keyShape at h
      rw [hu] at h
      split at h
      · rename_i q he; injection he with he; injection h with h; exact .inl ⟨q, he, h.symm⟩
      · rename_i he; injection he with he; injection h with h; exact .inr (.inl ⟨he, h.symm⟩)
      · rename_i he; injection he with he; injection h with h; exact .inr (.inr ⟨he, h.symm⟩)
      · split at h
        · split at h
          · injection h with h; exact absurd ⟨_, h.symm⟩ hs
          · cases h
        · cases h
      · cases h
    rw [findNow_of_findK hd es 0 r hr]
    rfl

end
end Go.Vc
