/-
  Texts put behind each other by a program: Ac2, All.
-/
import Derived.Test.YtjlnnljohemifaaGreatK6
import Derived.Lib.ConvBytes
import Derived.Laws.AppendOwn
import Derived.Laws.Append
set_option linter.unusedVariables false
set_option linter.unusedSimpArgs false
namespace Go.Vc
section
variable {P : Program} {o : Oper} {a : Act} {ev : Ev} {H : Hp} {K : Value → Hp → Prop}
theorem does_lookup {t kt e : TypeId} {s : Shape} {z : Value} {x y : Operand} {ok : Bool} (hev : Tells ev a) (ho : o.op = .lookup t x y ok) (ht : P.underlying t = some (.map kt e))
    (hs : keyShape P kt = some s) (hz : zeroT P e = some z) (h : (Iop.lookup s z ok x y).vc P ev H K) : Does P o a H K := by
  intro w hw
  subst hw
  obtain ⟨r, hx, h⟩ := mapV_spec (withEv hev (withEv hev h))
  obtain ⟨hk, h⟩ := h.out
  cases r with
  | none =>
    refine .inl ⟨okTuple ok z none, w, ?_, Same.refl w, h⟩
    have hf := run_findKey_ok (P := P) (k := a.eval y) (es := []) (r := none) hs rfl w
    simp only [execOp, ho, Instr.lookup, Sem.run_bind, runs_underlying ht, Result.andThen_ok, hx, Sem.run_pure, run_checkKey_ok hs hk, hf, runs_zeroValue hz]
    cases ok <;> rfl
  | some b =>
    obtain ⟨m, hm, h⟩ := withO_spec h
    obtain ⟨rr, hr, h⟩ := withO_spec h
    obtain ⟨es, he, hl⟩ := mp_spec hm
    rw [← hl] at hr
    refine .inl ⟨okTuple ok z (rr.map (·.2)), w, ?_, Same.refl w, h⟩
    simp only [execOp, ho, Instr.lookup, Sem.run_bind, runs_underlying ht, Result.andThen_ok, hx, Sem.run_pure, runs_getMap he, run_checkKey_ok hs hk, run_findKey_ok hs hr]
    cases rr with
    | none => simp only [runs_zeroValue hz, Result.andThen_ok, Sem.run_bind, Sem.run_pure]; cases ok <;> rfl
    | some q => cases ok <;> rfl
theorem does_update {t kt e : TypeId} {s : Shape} {x y z : Operand} (hev : Tells ev a) (ho : o.op = .mapUpdate t x y z) (ht : P.underlying t = some (.map kt e))
    (hs : keyShape P kt = some s) (h : (Iop.update s x y z).vc P ev H K) : Does P o a H K := by
  intro w hw
  subst hw
  obtain ⟨r, hx, h⟩ := mapV_spec (withEv hev (withEv hev (withEv hev h)))
  obtain ⟨b, rfl, h⟩ := withO_spec h
  obtain ⟨hk, h⟩ := h.out
  obtain ⟨m, hm, h⟩ := withO_spec h
  obtain ⟨rr, hr, h⟩ := withO_spec h
  obtain ⟨hst, h⟩ := h.out
  obtain ⟨es, he, hl⟩ := mp_spec hm
  rw [← hl] at hr
  refine .inr (.inl ⟨{ w with heap := Hp.wrm w.heap b (putE m.1 rr (a.eval y) (a.eval z) m.2) (clockE rr m.2) }, ?_, ⟨rfl, rfl⟩, h⟩)
  simp only [execOp, ho, Instr.mapUpdate, Sem.run_bind, runs_underlying ht, Result.andThen_ok, hx, runs_getMap he, run_checkKey_ok hs hk, run_findKey_ok hs hr]
  cases rr with
  | none =>
    simp only [runs_setMap he, Result.andThen_ok, Sem.run_pure, putE, clockE, ← hl]
    simp
  | some q =>
    obtain ⟨i, v⟩ := q
    have hb : Instr.sameBits 10000 (((es[i]?).map (·.key)).getD (a.eval y)) (a.eval y) = true := by
      simp only [staysOk, ← hl] at hst
      simpa using hst
    simp only [Instr.keyThatStays, hb, if_true, Sem.run_bind, Sem.run_pure, Result.andThen_ok, runs_setMap he, putE, clockE, ← hl]
    simp
theorem does_delete {kt e : TypeId} {s : Shape} {c : Call} {x y : Operand} (hev : Tells ev a) (ho : o.op = .call c) (hc : c.callee = .builtin .delete) (hargs : c.args.toList = [x, y])
    (hat : (c.argTypes[0]?).bind P.underlying = some (.map kt e)) (hs : keyShape P kt = some s) (h : (Iop.delete s x y).vc P ev H K) : Does P o a H K := by
  intro w hw
  subst hw
  obtain ⟨r, hx, h⟩ := mapV_spec (withEv hev (withEv hev h))
  obtain ⟨b, rfl, h⟩ := withO_spec h
  obtain ⟨hk, h⟩ := h.out
  obtain ⟨m, hm, h⟩ := withO_spec h
  obtain ⟨rr, hr, h⟩ := withO_spec h
  obtain ⟨es, he, hl⟩ := mp_spec hm
  rw [← hl] at hr
  have ha : c.args = #[x, y] := Array.ext' hargs
  obtain ⟨t, ht1, ht2⟩ := Option.bind_eq_some_iff.1 hat
  refine .inl ⟨.tuple [].toArray, { w with heap := Hp.wrm w.heap b (dropE m.1 rr) m.2 }, ?_, ⟨rfl, rfl⟩, h⟩
  simp only [execOp, ho, resolve, hc, Sem.run_bind, Sem.run_pure, Result.andThen_ok, invoke, builtin, ha, Builtin.delete_, ht1]
  simp only [List.map_toArray, List.map_cons, List.map_nil, List.getElem?_toArray, List.getElem?_cons_zero, List.getElem?_cons_succ, Sem.run_bind, runs_underlying ht2, Result.andThen_ok, hx, runs_getMap he, run_checkKey_ok hs hk, run_findKey_ok hs hr]
  cases rr with
  | none => simp only [Sem.run_bind, runs_setMap he, Result.andThen_ok, Sem.run_pure, dropE, ← hl]
  | some q =>
    obtain ⟨i, v⟩ := q
    simp only [Sem.run_bind, runs_setMap he, Result.andThen_ok, Sem.run_pure, dropE, ← hl, Array.toList_eraseIdxIfInBounds]
theorem does_clear {e : TypeId} {z : Value} {c : Call} {x : Operand} (hev : Tells ev a) (ho : o.op = .call c) (hc : c.callee = .builtin .clear) (hargs : c.args.toList = [x])
    (hat : (c.argTypes[0]?).bind P.underlying = some (.slice e)) (hz : zeroT P e = some z) (hz0 : (vcells z).length ≠ 0) (h : (Iop.clearS (vcells z) x).vc P ev H K) : Does P o a H K := by
  intro w hw
  subst hw
  obtain ⟨ad, n, cp, hx, h⟩ := sliceV_spec (withEv hev h)
  have ha : c.args = #[x] := Array.ext' hargs
  obtain ⟨t, ht1, ht2⟩ := Option.bind_eq_some_iff.1 hat
  have hzc : z.cells.toList = vcells z := vcells_eq z
  rcases h with ⟨rfl, h⟩ | ⟨hn, b, off, l, rfl, hl, h1, h2, h⟩
  · refine .inl ⟨.tuple [].toArray, w, ?_, Same.refl w, h⟩
    simp only [execOp, ho, resolve, hc, Sem.run_bind, Sem.run_pure, Result.andThen_ok, invoke, builtin, ha, Builtin.clear_, ht1]
    simp only [List.map_toArray, List.map_cons, List.map_nil, List.getElem?_toArray, List.getElem?_cons_zero, Sem.run_bind, runs_underlying ht2, Result.andThen_ok, hx]
    cases ad <;> simp
  · have e1 : (Builtin.zeroCells z.cells n).toList = padZ (vcells z) n := by
      unfold Builtin.zeroCells
      rw [zeros_eq rfl (by rw [← hzc] at hz0; simpa using hz0), hzc]
    have hlen : (padZ (vcells z) n).length = n * (vcells z).length := by simp [padZ]
    obtain ⟨w', hs, hsm, hk, _⟩ := run_storeCells_own (P := P) (b := b) (o := off) (padZ (vcells z) n) 0 w l hl (by omega) h1
    have hne : padZ (vcells z) n ≠ [] := fun e => by
      rw [e] at hlen
      simp only [List.length_nil] at hlen
      rcases Nat.mul_eq_zero.1 hlen.symm with h | h
      · exact hn h
      · exact hz0 h
    refine .inl ⟨.tuple [].toArray, w', ?_, hsm, ?_⟩
    · simp only [execOp, ho, resolve, hc, Sem.run_bind, Sem.run_pure, Result.andThen_ok, invoke, builtin, ha, Builtin.clear_, ht1]
      simp only [List.map_toArray, List.map_cons, List.map_nil, List.getElem?_toArray, List.getElem?_cons_zero, Sem.run_bind, runs_underlying ht2, Result.andThen_ok, hx]
      cases n with
      | zero => exact absurd rfl hn
      | succ n => simp [runs_zeroValue hz, e1, hs]
    · rw [hk hne]; exact h
theorem callFunc_run {f : FuncId} (hc : callable P f = true) (args : Array Value) (w : World) : (callFunc f args).run P w = .ok (.enter f args) w := by
  unfold callable at hc
  split at hc
  · rename_i fn hf
    simp only [Bool.and_eq_true, bne_iff_ne, ne_eq] at hc
    obtain ⟨bd, hb⟩ := Option.isSome_iff_exists.1 hc.2
    simp [callFunc, hf, hc.1, hb]
  · cases hc
theorem does_call {f : FuncId} {c : Call} (hev : Tells ev a) (ho : o.op = .call c) (hc : c.callee = .value (.func f)) (hb : callable P f = true)
    (h : (Iop.call f c.args.toList).vc P ev H K) : Does P o a H K := by
  intro w hw
  subst hw
  have h := evs_spec hev h
  refine .inr (.inr ⟨f, (c.args.map a.eval), w, ?_, Same.refl w, by simpa using h⟩)
  simp [execOp, ho, resolve, hc, Act.eval, Deferred.ofValue, invoke, callFunc_run hb]
theorem does_ext {f : FuncId} {c : Call} (hev : Tells ev a) (ho : o.op = .call c) (hc : c.callee = .value (.func f))
    (h : (Iop.ext f c.args.toList).vc P ev H K) : Does P o a H K := by
  intro w hw
  subst hw
  obtain ⟨v, hv, hk⟩ := evs_spec hev h
  refine .inl ⟨v, w, ?_, Same.refl w, hk⟩
  have hv' : (callFunc f (c.args.map a.eval)).run P w = .ok (.value v) w := by
    have h1 := hv w
    rw [show (List.map a.eval c.args.toList).toArray = c.args.map a.eval from Array.ext' (by simp)] at h1
    exact h1
  simp [execOp, ho, resolve, hc, Act.eval, Deferred.ofValue, invoke, hv']
theorem does_dyn {f : Operand} {c : Call} (hev : Tells ev a) (ho : o.op = .call c) (hc : c.callee = .value f)
    (h : (Iop.dyn f c.args.toList).vc P ev H K) : Does P o a H K := by
  intro w hw
  subst hw
  have h := evs_spec hev (withEv hev h)
  unfold DynH at h
  split at h
  · rename_i g first captured hf
    refine .inr (.inr ⟨g, first ++ c.args.map a.eval ++ captured, w, ?_, Same.refl w, by simpa using h.2⟩)
    simp only [execOp, ho, resolve, hc, hf, Deferred.ofValue, Sem.run_bind, Sem.run_pure, Result.andThen_ok, invoke, callFunc_run h.1]
  · exact h.elim
theorem does_invoke {r : Operand} {name : String} {c : Call} (hev : Tells ev a) (ho : o.op = .call c) (hc : c.callee = .invoke r name)
    (h : (Iop.invoke r name c.args.toList).vc P ev H K) : Does P o a H K := by
  intro w hw
  subst hw
  obtain ⟨T, v, f, rv, hr, ⟨hcal, hm⟩, h⟩ := evs_spec hev (withEv hev h)
  refine .inr (.inr ⟨f, #[rv] ++ c.args.map a.eval, w, ?_, Same.refl w, by simpa using h⟩)
  have hx : (#[Value.iface T v] ++ c.args.map a.eval)[0]? = some (.iface T v) := by rw [Array.getElem?_append_left (by simp)]; rfl
  have hext : (#[Value.iface T v] ++ c.args.map a.eval).extract 1 (#[Value.iface T v] ++ c.args.map a.eval).size = c.args.map a.eval := by
    apply Array.ext'
    simp only [Array.toList_extract, Array.toList_append, Array.toList_map, Array.size_append]
    simp [List.take_of_length_le]
  simp only [execOp, ho, resolve, hc, hr, Sem.run_bind, Sem.run_pure, Result.andThen_ok, invoke, hx, hext, callMethod, run_program, hm w rfl, callFunc_run hcal]
theorem run_len_call {c : Call} {x : Operand} (ho : o.op = .call c) (hc : c.callee = .builtin .len) (hargs : c.args.toList = [x]) {w : World} {n : Nat}
    (hr : (Builtin.len_ c.argTypes o.type #[a.eval x]).run P w = .ok (goInt n) w) : (execOp a.eval o).run P w = .ok (.value (.int .i64 n)) w := by
  have ha : c.args = #[x] := Array.ext' hargs
  have hav : c.args.map a.eval = #[a.eval x] := by rw [ha]; simp
  simp only [execOp, ho, resolve, hc, Sem.run_bind, Sem.run_pure, Result.andThen_ok, invoke, builtin, hav, hr, goInt]
theorem pure_lenS {c : Call} {x : Operand} {e : TypeId} (hev : Tells ev a) (ho : o.op = .call c) (hc : c.callee = .builtin .len) (hargs : c.args.toList = [x])
    (hat : (c.argTypes[0]?).bind P.underlying = some (.slice e)) (h : (Iop.lenS x).vc P ev H K) : Pures P o a H K := by
  obtain ⟨t, ht1, ht2⟩ := Option.bind_eq_some_iff.1 hat
  obtain ⟨ad, n, cp, hx, h⟩ := sliceV_spec (withEv hev h)
  refine ⟨_, fun w => run_len_call ho hc hargs (n := n) ?_, h⟩
  simp [Builtin.len_, ht1, runs_underlying ht2, goInt, hx]
theorem pure_lenT {c : Call} {x : Operand} (hev : Tells ev a) (ho : o.op = .call c) (hc : c.callee = .builtin .len) (hargs : c.args.toList = [x])
    (hat : (c.argTypes[0]?).bind P.underlying = some .string) (h : (Iop.lenT x).vc P ev H K) : Pures P o a H K := by
  obtain ⟨t, ht1, ht2⟩ := Option.bind_eq_some_iff.1 hat
  obtain ⟨s, hx, h⟩ := stringV_spec (withEv hev h)
  refine ⟨_, fun w => run_len_call ho hc hargs (n := s.size) ?_, h⟩
  simp [Builtin.len_, ht1, runs_underlying ht2, goInt, hx]
theorem does_lenM {c : Call} {x : Operand} {k e : TypeId} (hev : Tells ev a) (ho : o.op = .call c) (hc : c.callee = .builtin .len) (hargs : c.args.toList = [x])
    (hat : (c.argTypes[0]?).bind P.underlying = some (.map k e)) (h : (Iop.lenM x).vc P ev H K) : Does P o a H K := by
  intro w hw
  subst hw
  obtain ⟨t, ht1, ht2⟩ := Option.bind_eq_some_iff.1 hat
  obtain ⟨r, hx, h⟩ := mapV_spec (withEv hev h)
  cases r with
  | none =>
    refine .inl ⟨_, w, run_len_call ho hc hargs (n := 0) ?_, Same.refl w, h⟩
    simp [Builtin.len_, ht1, runs_underlying ht2, goInt, hx]
  | some b =>
    obtain ⟨m, hm, h⟩ := withO_spec h
    obtain ⟨es, he, hl⟩ := mp_spec hm
    refine .inl ⟨_, w, run_len_call ho hc hargs (n := m.1.length) ?_, Same.refl w, h⟩
    simp [Builtin.len_, ht1, runs_underlying ht2, goInt, hx, runs_getMap he, ← hl]
theorem run_min : ∀ (r : List Value) (x v : Value), min1 x r = some v → ∀ w : World, (r.foldlM Builtin.min2 x).run P w = .ok v w := by
  intro r
  induction r with
  | nil => intro x v h w; injection h with h; subst h; rfl
  | cons y r ih =>
    intro x v h w
    unfold min1 at h
    split at h
    · rename_i k p k' q
      simp [List.foldlM_cons, Builtin.min2, ih _ v h w]
    · cases h
theorem run_max : ∀ (r : List Value) (x v : Value), max1 x r = some v → ∀ w : World, (r.foldlM Builtin.max2 x).run P w = .ok v w := by
  intro r
  induction r with
  | nil => intro x v h w; injection h with h; subst h; rfl
  | cons y r ih =>
    intro x v h w
    unfold max1 at h
    split at h
    · rename_i k p k' q
      simp [List.foldlM_cons, Builtin.max2, ih _ v h w]
    · cases h
theorem pure_min {c : Call} (hev : Tells ev a) (ho : o.op = .call c) (hc : c.callee = .builtin .min) (h : (Iop.minI c.args.toList).vc P ev H K) : Pures P o a H K := by
  obtain ⟨v, hv, h⟩ := withO_spec (evs_spec hev h)
  refine ⟨v, fun w => ?_, h⟩
  have e : (Builtin.min_ c.argTypes o.type (c.args.map a.eval)).run P w = .ok v w := by
    unfold Builtin.min_
    rw [Array.toList_map]
    cases hl : c.args.toList.map a.eval with
    | nil => rw [hl] at hv; cases hv
    | cons x r => rw [hl] at hv; exact run_min r x v hv w
  simp only [execOp, ho, resolve, hc, Sem.run_bind, Sem.run_pure, Result.andThen_ok, invoke, builtin, e]
theorem pure_max {c : Call} (hev : Tells ev a) (ho : o.op = .call c) (hc : c.callee = .builtin .max) (h : (Iop.maxI c.args.toList).vc P ev H K) : Pures P o a H K := by
  obtain ⟨v, hv, h⟩ := withO_spec (evs_spec hev h)
  refine ⟨v, fun w => ?_, h⟩
  have e : (Builtin.max_ c.argTypes o.type (c.args.map a.eval)).run P w = .ok v w := by
    unfold Builtin.max_
    rw [Array.toList_map]
    cases hl : c.args.toList.map a.eval with
    | nil => rw [hl] at hv; cases hv
    | cons x r => rw [hl] at hv; exact run_max r x v hv w
  simp only [execOp, ho, resolve, hc, Sem.run_bind, Sem.run_pure, Result.andThen_ok, invoke, builtin, e]
theorem rowOf_spec {H : Hp} {size : Nat} {v : Value} {F : Nat → List Value → Prop} (h : rowOf H size v F) :
    ∃ (n : Nat) (l : List Value), F n l ∧ (∀ w : World, (Builtin.lenOf v).run P w = .ok n w) ∧ (∀ w : World, w.heap = H → (Builtin.firstCells size n v).run P w = .ok l.toArray w) ∧ l.length = n * size ∧
      (∀ b m c, v = .slice b m c → m = n) := by
  unfold rowOf at h
  split at h
  · rename_i a n c
    by_cases hn0 : n = 0
    · subst hn0
      refine ⟨0, [], h, fun _ => rfl, fun w hw => ?_, by simp, fun _ _ _ e => by injection e with _ e _; exact e.symm⟩
      cases a with
      | none => rfl
      | some a => simp only [Builtin.firstCells, Nat.zero_mul]; rfl
    · have e0 : (n == 0) = false := by simpa using hn0
      rw [e0] at h
      obtain ⟨b, off, rfl, h1⟩ := baseV_spec (F := fun b o => withO (H.rd b) fun l => Also (o + n * size ≤ l.length) (F n ((l.drop o).take (n * size)))) h
      obtain ⟨l, hl, h2⟩ := withO_spec h1
      obtain ⟨hn, h3⟩ := h2.out
      refine ⟨n, _, h3, fun _ => rfl, fun w hw => ?_, by simp; omega, fun _ _ _ e => by injection e with _ e _; exact e.symm⟩
      subst hw
      exact run_loadCells_rd (P := P) (a := ⟨b, off, none⟩) rfl hl hn
  · rename_i s
    obtain ⟨e1, h2⟩ := h.out
    subst e1
    refine ⟨s.size, _, h2, fun _ => rfl, fun w _ => ?_, ?_, fun _ _ _ e => by cases e⟩
    · simp only [Builtin.firstCells, Sem.run_pure]
      congr 1
      apply Array.ext'
      have : s.extract 0 s.size = s := by
        apply ByteArray.ext
        simp
      rw [this]
      simp
    · rw [List.length_map, Nat.mul_one, Array.length_toList]; rfl
  · exact h.elim
theorem does_toBytes {s t e : TypeId} {x : Operand} (hev : Tells ev a) (ho : o.op = .convert s t x) (hs : P.underlying s = some .string) (ht : P.underlying t = some (.slice e)) (he : P.underlying e = some (.int .u8))
    (h : (Iop.toBytes e x).vc P ev H K) : Does P o a H K := by
  intro w hw
  subst hw
  have h := withEv hev h
  unfold stringV at h
  split at h
  · rename_i bs hx
    have hr := Lib.run_convert_string_bytes (P := P) w s t e bs hs ht he
    have hge := grownCap_ge w bs.size 0 e
    refine .inl ⟨.slice (some ⟨w.heap.size, 0, none⟩) bs.size (grownCap w bs.size 0 e), Lib.bytesWorld w e bs, ?_, ⟨rfl, rfl⟩, ?_⟩
    · simp only [execOp, ho]
      rw [hx] at *
      simp only [Sem.run_bind, hr, Result.andThen_ok, Sem.run_pure]
    · have hk := h _ hge
      have e1 : (Lib.bytesWorld w e bs).heap = Hp.newk w.heap e ((bs.data.toList.map fun b => .int .u8 b.toNat) ++ List.replicate (grownCap w bs.size 0 e - bs.size) (.int .u8 0)) := by
        apply Array.ext_getElem?
        intro i
        rcases Nat.lt_trichotomy i w.heap.size with hi | hi | hi
        · rw [Lib.bytesWorld_at_old w e bs i hi, get_newk_lt _ _ _ hi]
        · subst hi
          rw [Lib.bytesWorld_at_new]
          simp [Hp.newk, Lib.bytesCells]
        · rw [Array.getElem?_eq_none (by rw [Lib.bytesWorld_size]; omega), Array.getElem?_eq_none (by rw [size_newk]; omega)]
      rw [e1]
      exact hk
  · exact h.elim
theorem run_pushes : ∀ (l : List Value) (bs : List UInt8), bytesOf l = some bs → ∀ (s : ByteArray) (w : World),
    (forIn l s fun c (s : ByteArray) => (match c with | .int .u8 n => pure (ForInStep.yield (s.push (UInt8.ofNat n.toNat))) | _ => (do stuck "bytesToString: byte expected"; pure (ForInStep.yield s)) : Sem (ForInStep ByteArray))).run P w = .ok ⟨s.data ++ bs.toArray⟩ w := by
  intro l
  induction l with
  | nil => intro bs h s w; simp only [bytesOf, Option.some.injEq] at h; subst h; simp
  | cons v l ih =>
    intro bs h s w
    cases v with
    | int k n =>
      cases k with
      | u8 =>
        simp only [bytesOf] at h
        cases hb : bytesOf l with
        | none => rw [hb] at h; cases h
        | some r =>
          rw [hb] at h
          simp only [Option.map_some, Option.some.injEq] at h
          subst h
          simp only [List.forIn_cons, Sem.run_bind, Sem.run_pure, Result.andThen_ok]
          rw [ih r hb]
          congr 1
          apply ByteArray.ext
          apply Array.ext'
          simp [ByteArray.push]
      | _ => simp [bytesOf] at h
    | _ => simp [bytesOf] at h
theorem does_toStr {s t e : TypeId} {x : Operand} (hev : Tells ev a) (ho : o.op = .convert s t x) (hs : P.underlying s = some (.slice e)) (ht : P.underlying t = some .string) (he : P.underlying e = some (.int .u8))
    (h : (Iop.toStr x).vc P ev H K) : Does P o a H K := by
  intro w hw
  subst hw
  have h := withEv hev h
  unfold bytesV at h
  split at h
  · rename_i ad n c hx
    obtain ⟨m, l, h, h1, h2, h3, h4⟩ := rowOf_spec (P := P) h
    obtain ⟨bs, hb, h⟩ := withO_spec h
    refine .inl ⟨_, w, ?_, Same.refl w, h⟩
    have hm : n = m := h4 _ _ _ rfl
    subst hm
    have h5 := h2 w rfl
    have key : (Conv.bytesToString (.slice ad n c)).run P w = .ok (.string ⟨bs.toArray⟩) w := by
      cases ad with
      | none =>
        simp only [Builtin.firstCells, Sem.run_pure, Result.ok.injEq, and_true] at h5
        have hl : l = [] := by
          have := congrArg Array.toList h5
          simpa using this.symm
        subst hl
        simp only [bytesOf, Option.some.injEq] at hb
        subst hb
        rfl
      | some ad =>
        simp only [Builtin.firstCells, Nat.mul_one] at h5
        simp only [Conv.bytesToString, Sem.run_bind, h5, Result.andThen_ok]
        rw [List.forIn_toArray]
        refine (congrArg (fun r => Result.andThen r fun a w' => Sem.run P (pure (Value.string a)) w') (run_pushes (P := P) l bs hb ByteArray.empty w)).trans ?_
        simp only [Result.andThen_ok, Sem.run_pure]
        congr 3
        simp
    simp only [execOp, ho, convert, hx, Sem.run_bind, runs_underlying hs, runs_underlying ht, runs_underlying he, Result.andThen_ok, key]
    rfl
  · exact h.elim
theorem isRow {d : TypeDesc} (hd : notInt d = true) : (∃ e, d = .slice e) ∨ d = .string := by
  cases d <;> first | exact .inl ⟨_, rfl⟩ | exact .inr rfl | (cases hd)
theorem run_append_in {ats : Array TypeId} {ty t t' e : TypeId} {d : TypeDesc} {w : World} {base : Option Addr} {n cap m : Nat} {y : Value} {new : Array Value} (ht1 : ats[0]? = some t) (ht1' : ats[1]? = some t')
    (ht2 : P.underlying t = some (.slice e)) (ht2' : P.underlying t' = some d) (hd : notInt d = true) (hi : (P.info? e).isSome = true)
    (hlen : (Builtin.lenOf y).run P w = .ok m w) (hnew : (Builtin.firstCells (P.cellsOf e) m y).run P w = .ok new w) (hle : n + m ≤ cap) :
    (Builtin.append_ ats ty #[.slice base n cap, y]).run P w =
      ((match base with | some a => storeCells (a.add (n * P.cellsOf e)) new.toList | none => (pure () : Sem Unit)).run P w).andThen fun _ w' => .ok (.slice base (n + m) cap) w' := by
  rcases isRow hd with ⟨e', rfl⟩ | rfl <;> unfold Builtin.append_ <;>
  simp only [List.getElem?_toArray, List.getElem?_cons_zero, List.getElem?_cons_succ, ht1, ht1', Sem.run_bind, runs_underlying ht2, runs_underlying ht2', Result.andThen_ok, runs_sizeOf hi, Sem.run_pure, hlen, Bool.false_eq_true, if_false, if_pos hle, Bool.not_false, if_true, hnew] <;>
  cases base <;> simp only [Sem.run_pure, Result.andThen_ok, Sem.run_bind]
theorem run_append_out {ats : Array TypeId} {ty t t' e : TypeId} {d : TypeDesc} {w : World} {base : Option Addr} {n cap m : Nat} {y z : Value} {new old : Array Value} (ht1 : ats[0]? = some t) (ht1' : ats[1]? = some t')
    (ht2 : P.underlying t = some (.slice e)) (ht2' : P.underlying t' = some d) (hd : notInt d = true) (hi : (P.info? e).isSome = true) (hz : zeroT P e = some z)
    (hlen : (Builtin.lenOf y).run P w = .ok m w) (hnew : (Builtin.firstCells (P.cellsOf e) m y).run P w.drew = .ok new w.drew)
    (hold : (Builtin.firstCells (P.cellsOf e) n (.slice base n cap)).run P w.drew = .ok old w.drew)
    (hle : cap < n + m) (hb : Builtin.nextslicecap (n + m) cap * P.bytesOf e ≤ 2 ^ 48) (hb0 : P.bytesOf e ≠ 0) :
    ∃ c', n + m ≤ c' ∧ (Builtin.append_ ats ty #[.slice base n cap, y]).run P w =
      .ok (.slice (some ⟨w.heap.size, 0, none⟩) (n + m) c') { w with drawn := w.drawn + 1, heap := Hp.new w.heap e ((old ++ new ++ Builtin.zeroCells z.cells (c' - (n + m))).toList) } := by
  obtain ⟨inf, hinf⟩ := Option.isSome_iff_exists.1 hi
  have hbytes : inf.bytes = P.bytesOf e := by simp [Program.bytesOf, hinf]
  refine ⟨(Question.appendCap (n + m) cap e).cut (w.tape w.drawn (.appendCap (n + m) cap e)), by simp [Question.cut], ?_⟩
  have hne : n + m ≤ 2 ^ 48 := by
    have h1 := le_nextslicecap hle
    have h2 : Builtin.nextslicecap (n + m) cap ≤ Builtin.nextslicecap (n + m) cap * P.bytesOf e := Nat.le_mul_of_pos_right _ (by omega)
    omega
  have hno : ¬ (9223372036854775807 < ((n : Int) + (m : Int))) := by omega
  have hno2 : ¬ (281474976710656 < Builtin.nextslicecap (n + m) cap * P.bytesOf e) := by omega
  have hn : ¬ (n + m ≤ cap) := by omega
  rcases isRow hd with ⟨e', rfl⟩ | rfl <;>
    simp [Builtin.append_, ht1, ht1', runs_underlying ht2, runs_underlying ht2', runs_sizeOf hi, hlen, hn, runs_typeInfo hinf, hbytes, hb0, hno2, Question.forced, runs_zeroValue hz, hold, hnew, runs_newRow] <;>
    exact ⟨rfl, rfl, rfl⟩
theorem does_append {c : Call} {e : TypeId} {d : TypeDesc} {z : Value} {x y : Operand} (hev : Tells ev a) (ho : o.op = .call c) (hc : c.callee = .builtin .append) (hargs : c.args.toList = [x, y])
    (hat : (c.argTypes[0]?).bind P.underlying = some (.slice e)) (hat2 : (c.argTypes[1]?).bind P.underlying = some d) (hd : notInt d = true) (hz : zeroT P e = some z) (hi : (P.info? e).isSome = true)
    (h0 : P.cellsOf e ≠ 0) (hl : (vcells z).length = P.cellsOf e) (hb0 : P.bytesOf e ≠ 0) (h : (Iop.append e (P.cellsOf e) (P.bytesOf e) (vcells z) x y).vc P ev H K) : Does P o a H K := by
  intro w hw
  subst hw
  have ha : c.args = #[x, y] := Array.ext' hargs
  obtain ⟨t, ht1, ht2⟩ := Option.bind_eq_some_iff.1 hat
  obtain ⟨t', ht1', ht2'⟩ := Option.bind_eq_some_iff.1 hat2
  have hzc : z.cells.toList = vcells z := vcells_eq z
  have hzs : z.cells.size = P.cellsOf e := by rw [← hl, ← hzc]; simp
  obtain ⟨base, n, cap, hx, h⟩ := sliceV_spec (withEv hev (withEv hev h))
  have h' := h
  obtain ⟨m, new, h, hlen, hnew, hnl, _⟩ := rowOf_spec (P := P) h
  obtain ⟨hA, hB, hC⟩ := h
  have hav : c.args.map a.eval = #[.slice base n cap, a.eval y] := by rw [ha]; simp [hx]
  have pre : ∀ v w', (Builtin.append_ c.argTypes o.type #[.slice base n cap, a.eval y]).run P w = .ok v w' → (execOp a.eval o).run P w = .ok (.value v) w' := by
    intro v w' hr
    simp only [execOp, ho, resolve, hc, Sem.run_bind, Sem.run_pure, Result.andThen_ok, invoke, builtin, hav, hr]
  by_cases hle : n + m ≤ cap
  · have hr := run_append_in (ty := o.type) (base := base) ht1 ht1' ht2 ht2' hd hi (hlen w) (hnew w rfl) hle
    by_cases hm : m = 0
    · subst hm
      have hn0 : new = [] := List.length_eq_zero_iff.1 (by omega)
      subst hn0
      refine .inl ⟨_, w, pre _ w ?_, Same.refl w, hA hle rfl⟩
      rw [hr]
      cases base <;> simp [storeCells]
    · obtain ⟨b, off, rfl, hB⟩ := baseV_spec (hB hle hm)
      obtain ⟨l, hl', hB⟩ := withO_spec hB
      obtain ⟨⟨h1, h2⟩, hB⟩ := hB.out
      obtain ⟨w', hs, hsm, hk, _⟩ := run_storeCells_own (P := P) (b := b) (o := off + n * P.cellsOf e) new 0 w l hl' (by rw [Nat.add_mul] at h1; omega) h2
      have hne : new ≠ [] := fun e' => by
        rw [e'] at hnl
        rcases Nat.mul_eq_zero.1 hnl.symm with h | h
        · exact hm h
        · exact h0 h
      refine .inl ⟨_, w', pre _ w' ?_, hsm, hk hne ▸ hB⟩
      rw [hr]
      simp only [add_mk, List.toList_toArray, hs, Result.andThen_ok]
  · obtain ⟨hb, hC⟩ := hC (by omega)
    rw [hx] at hC
    obtain ⟨n', old, hC, _, hold, hol, hn'⟩ := rowOf_spec (P := P) hC
    have : n = n' := hn' _ _ _ rfl
    subst this
    obtain ⟨c', hc', hr⟩ := run_append_out (ty := o.type) (base := base) ht1 ht1' ht2 ht2' hd hi hz (hlen w) (hnew w.drew rfl) (hold w.drew rfl) (by omega) hb hb0
    refine .inl ⟨_, _, pre _ _ hr, ⟨rfl, rfl⟩, ?_⟩
    have e1 : (old.toArray ++ new.toArray ++ Builtin.zeroCells z.cells (c' - (n + m))).toList = old ++ new ++ padZ (vcells z) (c' - (n + m)) := by
      rw [Array.toList_append, Array.toList_append]
      congr 1
      unfold Builtin.zeroCells
      rw [zeros_eq rfl (by omega), hzc]
    rw [e1]
    exact hC c' hc'
end
end Go.Vc

namespace Go.Vc
def Iop.cls : Iop → Cls
  | .mov _ | .pick .. | .build .. | .nilCheck _ | .bin .. | .un .. | .conv .. | .iface .. | .func .. | .slice .. | .sliceS .. | .fieldAddr .. | .field .. | .indexAddr .. | .indexArr .. | .indexS .. | .extract ..
  | .lenS _ | .lenT _ | .minI _ | .maxI _ | .assert .. | .nilI .. => .pure
  | .load1 _ | .loadN .. | .lookup .. | .lenM _ | .toStr _ => .quiet
  | _ => .acts
section
variable {P : Program} {o : Oper} {a : Act} {ev : Ev} {H : Hp} {K : Value → Hp → Prop}
theorem sound (i : Iop) (hd : decOp P o = some i) (hev : Tells ev a) (h : i.vc P ev H K) : (i.cls = .pure → Pures P o a H K) ∧ Does P o a H K := by
  have mk : Pures P o a H K → (i.cls = .pure → Pures P o a H K) ∧ Does P o a H K := fun hp => ⟨fun _ => hp, hp.does⟩
  have mk' : i.cls ≠ .pure → Does P o a H K → (i.cls = .pure → Pures P o a H K) ∧ Does P o a H K := fun hn hp => ⟨fun e => absurd e hn, hp⟩
  unfold decOp at hd
  split at hd
  · rename_i x ho; injection hd with hd; subst hd; exact mk (pure_mov hev (.inl ho) h)
  · rename_i x ho; injection hd with hd; subst hd; exact mk (pure_mov hev (.inr ho) h)
  · rename_i c x y ho; injection hd with hd; subst hd; exact mk (pure_pick hev ho h)
  · rename_i T x ho; injection hd with hd; subst hd; exact mk' (by simp [Iop.cls]) (does_box hev ho h)
  · rename_i T ho
    cases hz : zeroT P T with
    | none => rw [hz] at hd; cases hd
    | some z => rw [hz] at hd; injection hd with hd; subst hd; exact mk' (by simp [Iop.cls]) (does_zero hz ho h)
  · rename_i t ps ho
    cases hz : zeroT P t with
    | none => rw [hz] at hd; cases hd
    | some z =>
      rw [hz, Option.bind_some] at hd
      cases hq : parts P t (vcells z).length ps.toList with
      | none => rw [hq] at hd; cases hd
      | some qs => rw [hq] at hd; injection hd with hd; subst hd; exact mk (pure_build hev ho hz hq h)
  · rename_i t n ps ho
    split at hd
    · rename_i e hu
      cases hz : zeroT P e with
      | none => rw [hz] at hd; cases hd
      | some z =>
        rw [hz, Option.bind_some] at hd
        split at hd
        · rename_i hc
          cases hq : partsBy (fun i => some (i * P.cellsOf e, P.cellsOf e)) (n * P.cellsOf e) ps.toList with
          | none => rw [hq] at hd; cases hd
          | some qs => rw [hq] at hd; injection hd with hd; subst hd; exact mk' (by simp [Iop.cls]) (does_lit hev ho hu hz hc.1 hc.2.1 hc.2.2.1 hc.2.2.2 hq h)
        · cases hd
    · cases hd
  · rename_i t x ho
    split at hd
    · rename_i hc
      split at hd
      · rename_i hg; injection hd with hd; subst hd; exact mk' (by simp [Iop.cls]) (does_loadN hev ho hc.1 hc.2 hg h)
      · rename_i hg; injection hd with hd; subst hd; exact mk' (by simp [Iop.cls]) (does_load1 hev ho hc.1 hc.2 (by simpa using hg) h)
    · cases hd
  · rename_i t x y ho
    split at hd
    · rename_i hc; injection hd with hd; subst hd; exact mk' (by simp [Iop.cls]) (does_store hev ho hc.1 hc.2 h)
    · cases hd
  · rename_i x ho; injection hd with hd; subst hd; exact mk (pure_nilCheck hev ho h)
  · rename_i op t x y t' ho
    split at hd
    · split at hd
      · rename_i ms hu; injection hd with hd; subst hd; exact mk (pure_nilI hev ho hu (.inl ⟨rfl, rfl⟩) h)
      · cases hs : shapeOf P depthT t with
        | none => rw [hs] at hd; cases hd
        | some s =>
          rw [hs, Option.bind_some] at hd
          split at hd
          · rename_i hc; injection hd with hd; subst hd; exact mk (pure_bin hev ho (fun _ => ⟨hs, hc⟩) h)
          · cases hd
    · split at hd
      · rename_i ms hu; injection hd with hd; subst hd; exact mk (pure_nilI hev ho hu (.inr ⟨rfl, rfl⟩) h)
      · cases hs : shapeOf P depthT t with
        | none => rw [hs] at hd; cases hd
        | some s =>
          rw [hs, Option.bind_some] at hd
          split at hd
          · rename_i hc; injection hd with hd; subst hd; exact mk (pure_bin hev ho (fun _ => ⟨hs, hc⟩) h)
          · cases hd
    · rename_i h1 h2
      injection hd with hd; subst hd; exact mk (pure_bin hev ho (fun he => by rcases he with he | he <;> first | exact absurd he h1 | exact absurd he h2) h)
  · rename_i op t x ho; injection hd with hd; subst hd; exact mk (pure_un hev ho h)
  · rename_i s t x ho
    split at hd
    · rename_i k' k h1 h2; injection hd with hd; subst hd; exact mk (pure_conv hev ho h1 h2 h)
    · rename_i e h1 h2
      split at hd
      · rename_i h3; injection hd with hd; subst hd; exact mk' (by simp [Iop.cls]) (does_toStr hev ho h1 h2 h3 h)
      · cases hd
    · rename_i e h1 h2
      split at hd
      · rename_i h3; injection hd with hd; subst hd; exact mk' (by simp [Iop.cls]) (does_toBytes hev ho h1 h2 h3 h)
      · cases hd
    · cases hd
  · rename_i t x ho
    split at hd
    · cases hd
    · rename_i d hu hn; injection hd with hd; subst hd; exact mk (pure_iface hev ho hn (fun ms e => hu ms (by rw [e])) h)
    · cases hd
  · rename_i fn first captured ho; injection hd with hd; subst hd; exact mk (pure_func hev ho h)
  · rename_i t ho; injection hd with hd; subst hd; exact mk' (by simp [Iop.cls]) (does_newMap ho h)
  · rename_i t x y ho
    split at hd
    · rename_i e hu
      cases hz : zeroT P e with
      | none => rw [hz] at hd; cases hd
      | some z =>
        rw [hz, Option.bind_some] at hd
        split at hd
        · rename_i hc; injection hd with hd; subst hd; exact mk' (by simp [Iop.cls]) (does_makeSlice hev ho hu hz hc.1 hc.2.1 hc.2.2 h)
        · cases hd
    · cases hd
  · rename_i t x lo hi mx ho
    split at hd
    · rename_i e hu
      split at hd
      · rename_i hc; injection hd with hd; subst hd; exact mk (pure_slice hev ho hu hc.1 (fun hm => hc.2.elim (fun h1 => by cases mx <;> simp_all) id) h)
      · cases hd
    · rename_i hu
      split at hd
      · rename_i hc; injection hd with hd; subst hd
        cases mx with
        | none => exact mk (pure_sliceS hev ho hu h)
        | some m => simp at hc
      · cases hd
    · cases hd
  · rename_i s x f ho
    split at hd
    · rename_i fields hu
      cases hf : fields[f]? with
      | none => rw [hf] at hd; cases hd
      | some fd =>
        rw [hf, Option.bind_some] at hd
        split at hd
        · rename_i hc; injection hd with hd; subst hd; exact mk (pure_fieldAddr hev ho hu hf hc.1 hc.2 h)
        · cases hd
    · cases hd
  · rename_i t x f ho
    split at hd
    · rename_i fields hu
      cases hf : fields[f]? with
      | none => rw [hf] at hd; cases hd
      | some fd =>
        rw [hf, Option.bind_some] at hd
        split at hd
        · rename_i hc; injection hd with hd; subst hd; exact mk (pure_field hev ho hu hf hc.1 hc.2 h)
        · cases hd
    · cases hd
  · rename_i t x i' ho
    split at hd
    · rename_i e hu
      split at hd
      · rename_i hc; injection hd with hd; subst hd; exact mk (pure_indexAddr hev ho hu hc h)
      · cases hd
    · rename_i n e hu
      split at hd
      · rename_i hc; injection hd with hd; subst hd; exact mk (pure_indexArr hev ho hu hc h)
      · cases hd
    · cases hd
  · rename_i t x i' ho
    split at hd
    · rename_i hu; injection hd with hd; subst hd; exact mk (pure_indexS hev ho hu h)
    · cases hd
  · rename_i t x i' ok ho
    split at hd
    · rename_i k e hu
      cases hs : keyShape P k with
      | none => rw [hs] at hd; cases hd
      | some s =>
        rw [hs, Option.bind_some] at hd
        cases hz : zeroT P e with
        | none => rw [hz] at hd; cases hd
        | some z => rw [hz] at hd; injection hd with hd; subst hd; exact mk' (by simp [Iop.cls]) (does_lookup hev ho hu hs hz h)
    · cases hd
  · rename_i t m k v ho
    split at hd
    · rename_i kt e hu
      cases hs : keyShape P kt with
      | none => rw [hs] at hd; cases hd
      | some s => rw [hs] at hd; injection hd with hd; subst hd; exact mk' (by simp [Iop.cls]) (does_update hev ho hu hs h)
    · cases hd
  · rename_i x i' ho; injection hd with hd; subst hd; exact mk (pure_extract hev ho h)
  · rename_i x s T ho
    split at hd
    · cases hd
    · rename_i d hu hn; injection hd with hd; subst hd; exact mk (pure_assert hev ho hn (fun ms e => hu ms (by rw [e])) h)
    · cases hd
  · rename_i c ho
    split at hd
    · rename_i f hc
      split at hd
      · rename_i hb; injection hd with hd; subst hd; exact mk' (by simp [Iop.cls]) (does_call hev ho hc hb h)
      · injection hd with hd; subst hd; exact mk' (by simp [Iop.cls]) (does_ext hev ho hc h)
    · rename_i x hx hc; injection hd with hd; subst hd; exact mk' (by simp [Iop.cls]) (does_dyn hev ho hc h)
    · rename_i r name hc; injection hd with hd; subst hd; exact mk' (by simp [Iop.cls]) (does_invoke hev ho hc h)
    · rename_i hc
      split at hd
      · rename_i x e h1 h2; injection hd with hd; subst hd; exact mk (pure_lenS hev ho hc h1 h2 h)
      · rename_i x h1 h2; injection hd with hd; subst hd; exact mk (pure_lenT hev ho hc h1 h2 h)
      · rename_i x k e h1 h2; injection hd with hd; subst hd; exact mk' (by simp [Iop.cls]) (does_lenM hev ho hc h1 h2 h)
      · cases hd
    · rename_i hc
      split at hd
      · rename_i x y e d h1 h2 h3
        cases hz : zeroT P e with
        | none => rw [hz] at hd; cases hd
        | some z =>
          rw [hz, Option.bind_some] at hd
          split at hd
          · rename_i hq; injection hd with hd; subst hd; exact mk' (by simp [Iop.cls]) (does_append hev ho hc h1 h2 h3 hq.2.2.2.2 hz hq.1 hq.2.1 hq.2.2.1 hq.2.2.2.1 h)
          · cases hd
      · cases hd
    · rename_i hc
      split at hd
      · rename_i m k kt e h1 h2
        cases hs : keyShape P kt with
        | none => rw [hs] at hd; cases hd
        | some s => rw [hs] at hd; injection hd with hd; subst hd; exact mk' (by simp [Iop.cls]) (does_delete hev ho hc h1 h2 hs h)
      · cases hd
    · rename_i hc
      split at hd
      · rename_i x e h1 h2
        cases hz : zeroT P e with
        | none => rw [hz] at hd; cases hd
        | some z =>
          rw [hz, Option.bind_some] at hd
          split at hd
          · rename_i hq; injection hd with hd; subst hd; exact mk' (by simp [Iop.cls]) (does_clear hev ho hc h1 h2 hz hq h)
          · cases hd
      · cases hd
    · rename_i hc; injection hd with hd; subst hd; exact mk (pure_min hev ho hc h)
    · rename_i hc; injection hd with hd; subst hd; exact mk (pure_max hev ho hc h)
    · cases hd
  · cases hd
theorem withO_mono {α : Type} {o : Option α} {F G : α → Prop} (h : withO o F) (hk : ∀ v, F v → G v) : withO o G := by cases o; exact h; exact hk _ h
theorem Also_mono {c F G : Prop} (h : Also c F) (hk : F → G) : Also c G := ⟨h.1, hk h.2⟩
theorem boolV_mono {v : Value} {F G : Bool → Prop} (h : boolV v F) (hk : ∀ b, F b → G b) : boolV v G := by unfold boolV at *; split at h; exact hk _ h; exact h.elim
theorem evs_mono {F G : List Value → Prop} : ∀ {xs : List Operand}, evs ev xs F → (∀ l, F l → G l) → evs ev xs G := by
  intro xs
  induction xs generalizing F G with
  | nil => intro h hk; exact hk _ h
  | cons x xs ih => intro h hk; exact withO_mono h fun v h => ih h fun l => hk _
theorem fillV_mono {F G : List Value → Prop} : ∀ {r : List (Nat × Nat × Operand)} {z : List Value}, fillV ev z r F → (∀ l, F l → G l) → fillV ev z r G := by
  intro r
  induction r with
  | nil => intro z h hk; exact hk _ h
  | cons p r ih => obtain ⟨off, size, x⟩ := p; intro z h hk; exact withO_mono h fun v h => Also_mono h fun h => ih h hk
theorem ptrV_mono {v : Value} {F G : Nat → Nat → Prop} (h : ptrV v F) (hk : ∀ b o, F b o → G b o) : ptrV v G := by obtain ⟨b, o, rfl, h⟩ := ptrV_spec h; exact hk _ _ h
theorem intV_mono {v : Value} {F G : Int → Prop} (h : intV v F) (hk : ∀ b, F b → G b) : intV v G := by obtain ⟨b, o, rfl, h⟩ := intV_spec h; exact hk _ h
theorem sliceV_mono {v : Value} {F G : Option Addr → Nat → Nat → Prop} (h : sliceV v F) (hk : ∀ a n c, F a n c → G a n c) : sliceV v G := by obtain ⟨a, n, c, rfl, h⟩ := sliceV_spec h; exact hk _ _ _ h
theorem baseV_mono {v : Option Addr} {F G : Nat → Nat → Prop} (h : baseV v F) (hk : ∀ b o, F b o → G b o) : baseV v G := by obtain ⟨b, o, rfl, h⟩ := baseV_spec h; exact hk _ _ h
theorem stringV_mono {v : Value} {F G : ByteArray → Prop} (h : stringV v F) (hk : ∀ b, F b → G b) : stringV v G := by obtain ⟨b, rfl, h⟩ := stringV_spec h; exact hk _ h
theorem tupV_mono {v : Value} {F G : List Value → Prop} (h : tupV v F) (hk : ∀ b, F b → G b) : tupV v G := by obtain ⟨b, rfl, h⟩ := tupV_spec h; exact hk _ h
theorem aggV_mono {v : Value} {F G : List Value → Prop} (h : aggV v F) (hk : ∀ b, F b → G b) : aggV v G := by obtain ⟨b, rfl, h⟩ := aggV_spec h; exact hk _ h
theorem mapV_mono {v : Value} {F G : Option Nat → Prop} (h : mapV v F) (hk : ∀ b, F b → G b) : mapV v G := by obtain ⟨b, rfl, h⟩ := mapV_spec h; exact hk _ h
theorem ifcV_mono {v : Value} {F G : Bool → Prop} (h : ifcV v F) (hk : ∀ b, F b → G b) : ifcV v G := by
  rcases ifcV_spec h with ⟨e, h⟩ | ⟨t, u, e, h⟩ <;> subst e <;> exact hk _ h
theorem assertV_mono {T : TypeId} {v : Value} {F G : Value → Prop} (h : assertV T v F) (hk : ∀ b, F b → G b) : assertV T v G := by obtain ⟨b, e, h2⟩ := assertV_spec h; subst e; exact ⟨rfl, hk _ h2⟩
theorem rowOf_mono {H : Hp} {size : Nat} {v : Value} {F G : Nat → List Value → Prop} (h : rowOf H size v F) (hk : ∀ n l, F n l → G n l) : rowOf H size v G := by
  unfold rowOf at *
  split at h
  · rename_i a n c
    cases hn : n == 0
    · rw [hn] at h
      exact baseV_mono h fun b o h => withO_mono h fun l h => Also_mono h (hk _ _)
    · rw [hn] at h
      exact hk _ _ h
  · exact Also_mono h (hk _ _)
  · exact h.elim
theorem bytesV_mono {H : Hp} {v : Value} {F G : List UInt8 → Prop} (h : bytesV H v F) (hk : ∀ b, F b → G b) : bytesV H v G := by
  unfold bytesV at *
  split at h
  · exact rowOf_mono h fun n l h => withO_mono h hk
  · exact h.elim
theorem boundV_mono {x : Option Operand} {d : Nat} {F G : Int → Prop} (h : boundV ev x d F) (hk : ∀ b, F b → G b) : boundV ev x d G := by
  cases x with
  | none => exact hk _ h
  | some x => exact withO_mono h fun v h => intV_mono h hk
theorem vc_mono {K' : Value → Hp → Prop} (i : Iop) (hc : i.cls = .pure) (h : i.vc P ev H K) (hk : ∀ v H', K v H' → K' v H') : i.vc P ev H K' := by
  cases i <;> simp [Iop.cls] at hc <;> simp only [Iop.vc] at h ⊢
  · exact withO_mono h fun v => hk _ _
  · exact withO_mono h fun v h => boolV_mono h fun b h => withO_mono h fun v => hk _ _
  · exact fillV_mono h fun l => hk _ _
  · exact withO_mono h fun v h => Also_mono h (hk _ _)
  · exact withO_mono h fun v h => withO_mono h fun v h => withO_mono h fun v => hk _ _
  · exact withO_mono h fun v h => withO_mono h fun v => hk _ _
  · exact withO_mono h fun v h => intV_mono h fun v => hk _ _
  · exact withO_mono h fun v => hk _ _
  · exact evs_mono h fun l h => evs_mono h fun l => hk _ _
  · exact withO_mono h fun v h => sliceV_mono h fun a n c h => boundV_mono h fun m h => boundV_mono h fun m h => boundV_mono h fun m h => Also_mono h (hk _ _)
  · exact withO_mono h fun v h => stringV_mono h fun s h => boundV_mono h fun m h => boundV_mono h fun m h => Also_mono h (hk _ _)
  · exact withO_mono h fun v h => ptrV_mono h fun b o => hk _ _
  · exact withO_mono h fun v h => aggV_mono h fun l h => withO_mono h fun v => hk _ _
  · exact withO_mono h fun v h => withO_mono h fun v h => sliceV_mono h fun a n c h => intV_mono h fun i h => Also_mono h fun h => baseV_mono h fun b o => hk _ _
  · exact withO_mono h fun v h => withO_mono h fun v h => ptrV_mono h fun b o h => intV_mono h fun i h => Also_mono h (hk _ _)
  · exact withO_mono h fun v h => withO_mono h fun v h => stringV_mono h fun s h => intV_mono h fun i h => Also_mono h fun h => withO_mono h fun b => hk _ _
  · exact withO_mono h fun v h => tupV_mono h fun l h => withO_mono h fun v => hk _ _
  · exact withO_mono h fun v h => sliceV_mono h fun a n c => hk _ _
  · exact withO_mono h fun v h => stringV_mono h fun s => hk _ _
  · exact evs_mono h fun l h => withO_mono h fun v => hk _ _
  · exact evs_mono h fun l h => withO_mono h fun v => hk _ _
  · exact withO_mono h fun v h => assertV_mono h fun v => hk _ _
  · exact withO_mono h fun v h => ifcV_mono h fun v => hk _ _
theorem reads_vc (i : Iop) (hc : i.cls = .quiet) (h : i.vc P ev H K) : ∃ v, i.vc P ev H (fun v' H' => v' = v ∧ H' = H) ∧ K v H := by
  cases i <;> simp [Iop.cls] at hc
  · obtain ⟨p, hp, h⟩ := withO_spec h
    obtain ⟨b, o, rfl, h⟩ := ptrV_spec h
    obtain ⟨l, hl, h⟩ := withO_spec h
    obtain ⟨v, hv, h⟩ := withO_spec h
    exact ⟨v, by simp only [Iop.vc, hp, withO, ptrV, hl, hv, and_self], h⟩
  · obtain ⟨p, hp, h⟩ := withO_spec h
    obtain ⟨b, o, rfl, h⟩ := ptrV_spec h
    obtain ⟨l, hl, h⟩ := withO_spec h
    obtain ⟨hn, h⟩ := h.out
    exact ⟨_, by simp only [Iop.vc, hp, withO, ptrV, hl, Also, hn, and_self], h⟩
  · rename_i s z ok m k
    obtain ⟨p, hp, h⟩ := withO_spec h
    obtain ⟨q, hq, h⟩ := withO_spec h
    obtain ⟨r, rfl, h⟩ := mapV_spec h
    obtain ⟨hn, h⟩ := h.out
    cases r with
    | none => exact ⟨_, by simp only [Iop.vc, hp, hq, withO, mapV, Also, hn, lookV, and_self], h⟩
    | some b =>
      obtain ⟨x, hx, h⟩ := withO_spec h
      obtain ⟨y, hy, h⟩ := withO_spec h
      exact ⟨_, by simp only [Iop.vc, hp, hq, withO, mapV, Also, hn, lookV, hx, hy, and_self], h⟩
  · obtain ⟨p, hp, h⟩ := withO_spec h
    obtain ⟨r, rfl, h⟩ := mapV_spec h
    cases r with
    | none => exact ⟨_, by simp only [Iop.vc, hp, withO, mapV, lenMV, and_self], h⟩
    | some b =>
      obtain ⟨x, hx, h⟩ := withO_spec h
      exact ⟨_, by simp only [Iop.vc, hp, withO, mapV, lenMV, hx, and_self], h⟩
  · obtain ⟨p, hp, h⟩ := withO_spec h
    have key : ∃ l, K (.string ⟨l.toArray⟩) H ∧ bytesV H p (fun l' => l' = l) := by
      unfold bytesV at *
      split at h
      · rename_i a n c
        unfold rowOf at *
        simp only at *
        cases hn : n == 0
        · rw [hn] at h
          obtain ⟨b, o, rfl, h⟩ := baseV_spec h
          obtain ⟨l, hl, h⟩ := withO_spec h
          obtain ⟨h1, h⟩ := h.out
          obtain ⟨bs, hb, h⟩ := withO_spec h
          exact ⟨bs, h, by simp only [Cho, baseV, withO, hl, Also, h1, hb, and_self]⟩
        · rw [hn] at h
          have h : withO (bytesOf []) fun l => K (.string ⟨l.toArray⟩) H := h
          obtain ⟨bs, hb, h⟩ := withO_spec h
          exact ⟨bs, h, by simp only [Cho, withO, hb]⟩
      · exact h.elim
    obtain ⟨l, h1, h2⟩ := key
    refine ⟨_, ?_, h1⟩
    simp only [Iop.vc, hp, withO]
    exact bytesV_mono h2 fun b e => by rw [e]; exact ⟨rfl, rfl⟩
end
end Go.Vc
