/-
  The model's operations, read off; what each asks and gives, told of the heap; and that it is so.
-/
import Derived.Test.YtbnaicgmnadkgaaOp
set_option linter.unusedVariables false
namespace Go.Vc

/-- A kind of key: what a map's key type must be. -/
def keyShape (P : Program) (t : TypeId) : Option Shape :=
  match P.underlying t with
  | some (.int _) => some .int
  | some .string => some .str
  | some .bool => some .bool
  | some (.struct _) =>
    match shapeOf P depthT t with
    | some (.s l) => if l.all (fun (off, agg, sh) => agg.isNone && keyPart sh) then some (.s l) else none
    | _ => none
  | _ => none

def notS : Shape → Bool | .s _ => false | _ => true
def notInt : TypeDesc → Bool | .slice _ => true | .string => true | _ => false

def decOp (P : Program) (o : Oper) : Option Iop :=
  match o.op with
  | .move x => some (.mov x)
  | .assign x => some (.mov x)
  | .pick c a b => some (.pick c a b)
  | .box T x => some (.box T x)
  | .alloc T => (zeroT P T).map fun z => .zero T (vcells z)
  | .build t ps => (zeroT P t).bind fun z => (parts P t (vcells z).length ps.toList).map (.build (vcells z))
  | .buildSlice t n ps =>
    match P.underlying t with
    | some (.slice e) => (zeroT P e).bind fun z =>
      if (P.info? e).isSome ∧ P.cellsOf e ≠ 0 ∧ (vcells z).length = P.cellsOf e ∧ n * P.cellsOf e ≤ 2 ^ 24 then
        (partsBy (fun i => some (i * P.cellsOf e, P.cellsOf e)) (n * P.cellsOf e) ps.toList).map (.lit e n (padZ (vcells z) n))
      else none
    | _ => none
  | .load t x => if (P.info? t).isSome ∧ (P.underlying t).isSome then (if isAggT P t then some (.loadN (P.cellsOf t) x) else some (.load1 x)) else none
  | .store t x v => if (P.info? t).isSome ∧ P.cellsOf t ≠ 0 then some (.store (P.cellsOf t) x v) else none
  | .nilCheck x => some (.nilCheck x)
  | .binOp op t x y _ =>
    match op with
    | .eql | .neq =>
      match P.underlying t, y with
      | some (.interface _), .const .nilIface => some (.nilI (match op with | .neq => true | _ => false) x)
      | _, _ => (shapeOf P depthT t).bind fun s => if notS s = true ∨ P.eqGuardType P.depth t = false then some (.bin op s x y) else none
    | _ => some (.bin op .int x y)
  | .unOp op _ x => some (.un op x)
  | .convert src dst x =>
    match P.underlying src, P.underlying dst with
    | some (.int _), some (.int k) => some (.conv k x)
    | some (.slice e), some .string => (match P.underlying e with | some (.int .u8) => some (.toStr x) | _ => none)
    | some .string, some (.slice e) => (match P.underlying e with | some (.int .u8) => some (.toBytes e x) | _ => none)
    | _, _ => none
  | .makeInterface t x => match P.underlying t with | some (.interface _) => none | some _ => some (.iface t x) | none => none
  | .makeFunc fn first captured => some (.func fn first.toList captured.toList)
  | .makeMap t none => some .newMap
  | .makeSlice t n c =>
    match P.underlying t with
    | some (.slice e) => (zeroT P e).bind fun z => if (P.info? e).isSome ∧ P.cellsOf e ≠ 0 ∧ (vcells z).length = P.cellsOf e then some (.makeSlice e (P.bytesOf e) (P.cellsOf e) (vcells z) n c) else none
    | _ => none
  | .slice t x lo hi mx =>
    match P.underlying t with
    | some (.slice e) => if (P.info? e).isSome ∧ (mx.isNone ∨ hi.isSome) then some (.slice (P.cellsOf e) x lo hi mx) else none
    | some .string => if mx.isNone then some (.sliceS x lo hi) else none
    | _ => none
  | .fieldAddr s x f =>
    match P.underlying s with
    | some (.struct fields) => (fields[f]?).bind fun fd => if (P.info? fd.type).isSome ∧ P.cellsOf fd.type ≠ 0 then some (.fieldAddr fd.offset x) else none
    | _ => none
  | .field t x f =>
    match P.underlying t with
    | some (.struct fields) => (fields[f]?).bind fun fd => if (P.info? fd.type).isSome ∧ (P.underlying fd.type).isSome then some (.field fd.offset (if isAggT P fd.type then some (P.cellsOf fd.type) else none) x) else none
    | _ => none
  | .indexAddr t x i =>
    match P.underlying t with
    | some (.slice e) => if (P.info? e).isSome then some (.indexAddr (P.cellsOf e) x i) else none
    | some (.array n e) => if (P.info? e).isSome then some (.indexArr n (P.cellsOf e) x i) else none
    | _ => none
  | .index t x i => match P.underlying t with | some .string => some (.indexS x i) | _ => none
  | .lookup t x i ok =>
    match P.underlying t with
    | some (.map k e) => (keyShape P k).bind fun s => (zeroT P e).map fun z => .lookup s z ok x i
    | _ => none
  | .mapUpdate t m k v => match P.underlying t with | some (.map kt _) => (keyShape P kt).map fun s => .update s m k v | _ => none
  | .extract x i => some (.extract i x)
  | .typeAssert x _ T false => (match P.underlying T with | some (.interface _) => none | some _ => some (.assert T x) | none => none)
  | .call c =>
    match c.callee with
    | .value (.func f) => if callable P f then some (.call f c.args.toList) else some (.ext f c.args.toList)
    | .value x => some (.dyn x c.args.toList)
    | .invoke r name => some (.invoke r name c.args.toList)
    | .builtin .len =>
      match c.args.toList, (c.argTypes[0]?).bind P.underlying with
      | [x], some (.slice _) => some (.lenS x)
      | [x], some .string => some (.lenT x)
      | [x], some (.map _ _) => some (.lenM x)
      | _, _ => none
    | .builtin .append =>
      match c.args.toList, (c.argTypes[0]?).bind P.underlying, (c.argTypes[1]?).bind P.underlying with
      | [x, y], some (.slice e), some d => (zeroT P e).bind fun z =>
        if (P.info? e).isSome ∧ P.cellsOf e ≠ 0 ∧ (vcells z).length = P.cellsOf e ∧ P.bytesOf e ≠ 0 ∧ notInt d = true then
          some (.append e (P.cellsOf e) (P.bytesOf e) (vcells z) x y) else none
      | _, _, _ => none
    | .builtin .delete =>
      match c.args.toList, (c.argTypes[0]?).bind P.underlying with
      | [m, k], some (.map kt _) => (keyShape P kt).map fun s => .delete s m k
      | _, _ => none
    | .builtin .min => some (.minI c.args.toList)
    | .builtin .max => some (.maxI c.args.toList)
    | _ => none
  | _ => none

def min1 : Value → List Value → Option Value
  | v, [] => some v
  | v, u :: r => match v, u with
    | .int k a, .int _ b => min1 (.int k (if b < a then b else a)) r
    | _, _ => none
def minL (l : List Value) : Option Value := match l with | [] => none | v :: r => min1 v r
def max1 : Value → List Value → Option Value
  | v, [] => some v
  | v, u :: r => match v, u with
    | .int k a, .int _ b => max1 (.int k (if b > a then b else a)) r
    | _, _ => none
def maxL (l : List Value) : Option Value := match l with | [] => none | v :: r => max1 v r
@[go_sem] theorem minL_cons (v : Value) (r : List Value) : minL (v :: r) = min1 v r := (rfl)
@[go_sem] theorem min1_nil (v : Value) : min1 v [] = some v := (rfl)
@[go_sem] theorem min1_cons (k k' : IntKind) (a b : Int) (r : List Value) : min1 (.int k a) (.int k' b :: r) = min1 (.int k (if b < a then b else a)) r := (rfl)
@[go_sem] theorem maxL_cons (v : Value) (r : List Value) : maxL (v :: r) = max1 v r := (rfl)
@[go_sem] theorem max1_nil (v : Value) : max1 v [] = some v := (rfl)
@[go_sem] theorem max1_cons (k k' : IntKind) (a b : Int) (r : List Value) : max1 (.int k a) (.int k' b :: r) = max1 (.int k (if b > a then b else a)) r := (rfl)

/-- A bound of a slice: given, or as it stands. -/
def boundV (ev : Ev) (x : Option Operand) (d : Nat) (F : Int → Prop) : Prop :=
  match x with
  | none => F d
  | some x => withO (ev x) fun v => intV v F
@[go_sem ↓] theorem boundV_none (ev : Ev) (d : Nat) (F : Int → Prop) : boundV ev none d F = F d := (rfl)
@[go_sem ↓] theorem boundV_some (ev : Ev) (x : Operand) (d : Nat) (F : Int → Prop) : boundV ev (some x) d F = withO (ev x) fun v => intV v F := (rfl)

/-- The length of a map. -/
def lenMV (H : Hp) (r : Option Nat) (F : Nat → Prop) : Prop :=
  match r with
  | none => F 0
  | some b => withO (H.mp b) fun m => F m.1.length
@[go_sem ↓] theorem lenMV_some (H : Hp) (b : Nat) (F : Nat → Prop) : lenMV H (some b) F = withO (H.mp b) fun m => F m.1.length := (rfl)

def okTuple (ok : Bool) (z : Value) (x : Option Value) : Value :=
  bif ok then (match x with | some v => .tuple [v, .bool true].toArray | none => .tuple [z, .bool false].toArray) else x.getD z
@[go_sem] theorem okTuple_ok_some (z v : Value) : okTuple true z (some v) = .tuple [v, .bool true].toArray := (rfl)
@[go_sem] theorem okTuple_ok_none (z : Value) : okTuple true z none = .tuple [z, .bool false].toArray := (rfl)
@[go_sem] theorem okTuple_some (z v : Value) : okTuple false z (some v) = v := (rfl)
@[go_sem] theorem okTuple_none (z : Value) : okTuple false z none = z := (rfl)

def nilOk : Value → Bool
  | .pointer (some _) => true
  | .iface .. => true
  | .func (.func _) _ _ => true
  | _ => false

@[go_sem] theorem nilOk_ptr (a : Addr) : nilOk (.pointer (some a)) = true := (rfl)
@[go_sem] theorem nilOk_iface (t : TypeId) (v : Value) : nilOk (.iface t v) = true := (rfl)
@[go_sem] theorem nilOk_func (f : FuncId) (a b : Array Value) : nilOk (.func (.func f) a b) = true := (rfl)

/-- A value that is seen to be no nil: also a method of an interface value whose receiver is none. -/
def NilP (P : Program) (v : Value) : Prop :=
  nilOk v = true ∨ ∃ name t u cap, v = .func (.method name) #[.iface t u] cap ∧ ∀ w, (nilAhead (P.types.size + Made.depth) t u name).run P w = .ok (some false) w
@[go_sem] theorem NilP_ptr (P : Program) (a : Addr) : NilP P (.pointer (some a)) = True := eq_true (.inl rfl)
@[go_sem] theorem NilP_iface (P : Program) (t : TypeId) (v : Value) : NilP P (.iface t v) = True := eq_true (.inl rfl)
@[go_sem] theorem NilP_func (P : Program) (f : FuncId) (a b : Array Value) : NilP P (.func (.func f) a b) = True := eq_true (.inl rfl)

/-- What an operation asks, and what it gives. -/
def Iop.vc (P : Program) (ev : Ev) (H : Hp) (K : Value → Hp → Prop) : Iop → Prop
  | .mov x => withO (ev x) fun v => K v H
  | .pick c a b => withO (ev c) fun cv => boolV cv fun t => withO (bif t then ev a else ev b) fun v => K v H
  | .box T x => withO (ev x) fun v => now (H.new T (vcells v)) fun H' => K (.pointer (some ⟨H.size, 0, none⟩)) H'
  | .zero T l => now (H.new T l) fun H' => K (.pointer (some ⟨H.size, 0, none⟩)) H'
  | .build z ps => fillV ev z ps fun l => now l fun l => K (.agg l.toArray) H
  | .lit T n z ps => fillV ev z ps fun l => now (H.new T l) fun H' => K (.slice (some ⟨H.size, 0, none⟩) n n) H'
  | .load1 x => withO (ev x) fun p => ptrV p fun b o => withO (H.rd b) fun l => withO l[o]? fun v => K v H
  | .loadN n x => withO (ev x) fun p => ptrV p fun b o => withO (H.rd b) fun l => Also (o + n ≤ l.length) (K (.agg ((l.drop o).take n).toArray) H)
  | .store n x v => withO (ev x) fun p => ptrV p fun b o => withO (ev v) fun v => withO (orO (H.own b) (H.mrk b)) fun l =>
      Also ((vcells v).length = n) (Also (allOneB (vcells v) = true) (Also (o + n ≤ l.length) (now (H.wr b (splice l o (vcells v))) fun H' => K undef H')))
  | .nilCheck x => withO (ev x) fun v => Also (NilP P v) (K v H)
  | .bin op s x y => withO (ev x) fun a => withO (ev y) fun b => withO (binF op s a b) fun v => K v H
  | .un op x => withO (ev x) fun a => withO (unF op a) fun v => K v H
  | .conv k x => withO (ev x) fun a => intV a fun n => K (.int k (k.wrap n)) H
  | .iface T x => withO (ev x) fun v => K (.iface T v) H
  | .func fn first captured => evs ev first fun l => evs ev captured fun c => K (.func fn l.toArray c.toArray) H
  | .newMap => K (.map (some H.size)) H.newm
  | .makeSlice T bytes size z n c => withO (ev n) fun nv => withO (ev c) fun cv => intV nv fun n => intV cv fun c =>
      Also (0 ≤ n ∧ n ≤ c ∧ c ≤ 2 ^ 48 ∧ bytes * c ≤ 2 ^ 48) (now (H.new T (padZ z c.toNat)) fun H' => K (.slice (some ⟨H.size, 0, none⟩) n.toNat c.toNat) H')
  | .slice size x lo hi mx => withO (ev x) fun v => sliceV v fun a n c => boundV ev mx c fun m => boundV ev hi n fun h => boundV ev lo 0 fun l =>
      Also (0 ≤ l ∧ l ≤ h ∧ h ≤ m ∧ m ≤ c) (K (.slice (if m = l then a else a.map (·.add (l.toNat * size))) (h.toNat - l.toNat) (m.toNat - l.toNat)) H)
  | .sliceS x lo hi => withO (ev x) fun v => stringV v fun s => boundV ev hi s.size fun h => boundV ev lo 0 fun l =>
      Also (0 ≤ l ∧ l ≤ h ∧ h ≤ s.size) (K (.string (s.extract l.toNat h.toNat)) H)
  | .fieldAddr off x => withO (ev x) fun p => ptrV p fun b o => K (.pointer (some ⟨b, o + off, none⟩)) H
  | .field off agg x => withO (ev x) fun v => aggV v fun l => withO (partL l off agg) fun v => K v H
  | .indexAddr size x i => withO (ev x) fun v => withO (ev i) fun iv => sliceV v fun a n _ => intV iv fun i => Also (0 ≤ i ∧ i < n) (baseV a fun b o => K (.pointer (some ⟨b, o + i.toNat * size, none⟩)) H)
  | .indexArr many size x i => withO (ev x) fun p => withO (ev i) fun iv => ptrV p fun b o => intV iv fun i => Also (0 ≤ i ∧ i < many) (K (.pointer (some ⟨b, o + i.toNat * size, none⟩)) H)
  | .indexS x i => withO (ev x) fun v => withO (ev i) fun iv => stringV v fun s => intV iv fun i => Also (0 ≤ i) (withO (s[i.toNat]?) fun b => K (.int .u8 b.toNat) H)
  | .lookup s z ok m k => withO (ev m) fun mv => withO (ev k) fun kv => mapV mv fun r => Also (keyOk s kv = true) (lookV H s r kv fun x => K (okTuple ok z x) H)
  | .update s m k v => withO (ev m) fun mv => withO (ev k) fun kv => withO (ev v) fun vv => mapV mv fun r => withO r fun b => Also (keyOk s kv = true) (updV H s b kv vv fun H' => K undef H')
  | .extract i x => withO (ev x) fun v => tupV v fun l => withO l[i]? fun v => K v H
  | .call f args => evs ev args fun vs => CallH P f vs H K
  | .dyn f args => withO (ev f) fun fv => evs ev args fun vs => DynH P fv vs H K
  | .invoke r name args => withO (ev r) fun rv => evs ev args fun vs => InvH P rv name vs H K
  | .lenS x => withO (ev x) fun v => sliceV v fun _ n _ => K (.int .i64 n) H
  | .lenT x => withO (ev x) fun v => stringV v fun s => K (.int .i64 s.size) H
  | .lenM x => withO (ev x) fun v => mapV v fun r => lenMV H r fun n => K (.int .i64 n) H
  | .append T size bytes z x y => withO (ev x) fun xv => withO (ev y) fun yv => AppendV T size bytes z xv yv H K
  | .delete s m k => withO (ev m) fun mv => withO (ev k) fun kv => mapV mv fun r => withO r fun b => Also (keyOk s kv = true) (delV H s b kv fun H' => K (.tuple [].toArray) H')
  | .minI args => evs ev args fun vs => withO (minL vs) fun v => K v H
  | .maxI args => evs ev args fun vs => withO (maxL vs) fun v => K v H
  | .assert T x => withO (ev x) fun v => assertV T v fun u => K u H
  | .nilI neg x => withO (ev x) fun v => ifcV v fun b => K (.bool (nilB neg b)) H
  | .toStr x => withO (ev x) fun v => bytesV H v fun l => K (.string ⟨l.toArray⟩) H
  | .toBytes T x => withO (ev x) fun v => stringV v fun s => ToBytesV T s H K
  | .ext f args => evs ev args fun vs => ExtV P f vs H K

attribute [go_sem ↓] Iop.vc

/-! ### That it is so -/

section
variable {P : Program} {o : Oper} {a : Act} {ev : Ev} {H : Hp} {K : Value → Hp → Prop}

/-- A pure operation. -/
def Pures (P : Program) (o : Oper) (a : Act) (H : Hp) (K : Value → Hp → Prop) : Prop := ∃ v, (∀ w, (execOp a.eval o).run P w = .ok (.value v) w) ∧ K v H
theorem Pures.does (h : Pures P o a H K) : Does P o a H K := by
  obtain ⟨v, h1, h2⟩ := h
  exact fun w hw => .inl ⟨v, w, h1 w, Same.refl w, hw ▸ h2⟩

theorem runs_underlying {t : TypeId} {d : TypeDesc} (h : P.underlying t = some d) (w : World) : (underlying t).run P w = .ok d w := run_underlying h w
theorem runs_typeInfo {t : TypeId} {i : TypeInfo} (h : P.info? t = some i) (w : World) : (typeInfo t).run P w = .ok i w := by simp [typeInfo, h]
theorem runs_sizeOf {t : TypeId} (h : (P.info? t).isSome = true) (w : World) : (sizeOf t).run P w = .ok (P.cellsOf t) w := by
  obtain ⟨i, hi⟩ := Option.isSome_iff_exists.1 h
  simp [sizeOf, runs_typeInfo hi, Program.cellsOf, hi]
theorem runs_zeroValue {t : TypeId} {z : Value} (h : zeroT P t = some z) (w : World) : (zeroValue t).run P w = .ok z w := by
  unfold zeroT at h
  cases hi : P.info? t with
  | none => rw [hi] at h; cases h
  | some i => rw [hi] at h; simp only [Option.bind_some] at h; simp [zeroValue, runs_typeInfo hi, h]
theorem runs_isAgg {t : TypeId} (h : (P.underlying t).isSome = true) (w : World) : (isAgg t).run P w = .ok (isAggT P t) w := by
  obtain ⟨d, hd⟩ := Option.isSome_iff_exists.1 h
  unfold isAgg isAggT
  simp only [Sem.run_bind, runs_underlying hd, Result.andThen_ok, hd]
  cases d <;> rfl
theorem runs_isAgg' {t : TypeId} {d : TypeDesc} (hd : P.underlying t = some d) (w : World) : (isAgg t).run P w = .ok (isAggT P t) w := runs_isAgg (by simp [hd]) w

theorem runs_newVar (t : TypeId) (v : Value) (w : World) : (newVar t v).run P w = .ok ⟨w.heap.size, 0, none⟩ { w with heap := Hp.new w.heap t (vcells v) } := by
  simp only [newVar, newRow, Sem.run_bind, run_newObj, Result.andThen_ok, Sem.run_pure, Hp.new, ← vcells_eq, Array.toArray_toList]
theorem runs_newRow (t : TypeId) (c : Array Value) (w : World) : (newRow t c).run P w = .ok ⟨w.heap.size, 0, none⟩ { w with heap := Hp.new w.heap t c.toList } := by
  simp only [newRow, Sem.run_bind, run_newObj, Result.andThen_ok, Sem.run_pure, Hp.new, Array.toArray_toList]

theorem runs_loadVar {t : TypeId} {w : World} {b o : Nat} {l : List Value} (hi : (P.info? t).isSome = true) (hu : (P.underlying t).isSome = true) (h : Hp.rd w.heap b = some l) :
    (isAggT P t = true → o + P.cellsOf t ≤ l.length → (loadVar t ⟨b, o, none⟩).run P w = .ok (.agg ((l.drop o).take (P.cellsOf t)).toArray) w) ∧
    (isAggT P t = false → ∀ v, l[o]? = some v → (loadVar t ⟨b, o, none⟩).run P w = .ok v w) := by
  refine ⟨fun ha hn => ?_, fun ha v hv => ?_⟩
  · simp [loadVar, runs_isAgg hu, ha, runs_sizeOf hi, run_loadCells_rd (P := P) (a := ⟨b, o, none⟩) rfl h hn]
  · have hc : w.cell? ⟨b, o, none⟩ = some v := (cell_of_rd rfl h).trans hv
    simp [loadVar, runs_isAgg hu, ha, hc]

theorem runs_storeVar {t : TypeId} {w : World} {b o : Nat} {l : List Value} {v : Value} (hi : (P.info? t).isSome = true) (h0 : P.cellsOf t ≠ 0) (h : orO (Hp.own w.heap b) (Hp.mrk w.heap b) = some l)
    (hl : (vcells v).length = P.cellsOf t) (h1 : allOne (vcells v)) (hn : o + P.cellsOf t ≤ l.length) :
    ∃ w', (storeVar t ⟨b, o, none⟩ v).run P w = .ok () w' ∧ Same w w' ∧ w'.heap = Hp.wr w.heap b (splice l o (vcells v)) := by
  obtain ⟨w', hr, hs, hk, _⟩ := run_storeCells_own (P := P) (b := b) (o := o) (vcells v) 0 w l h (by omega) h1
  refine ⟨w', ?_, hs, hk (fun e => by rw [e] at hl; exact h0 hl.symm)⟩
  have e : v.cells.size = P.cellsOf t := by rw [← hl, ← vcells_eq]; simp
  simp only [storeVar, Sem.run_bind, runs_sizeOf hi, Result.andThen_ok, e, ne_eq, not_true_eq_false, if_false, vcells_eq]
  exact hr

end
end Go.Vc
