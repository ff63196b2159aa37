/-
  Texts put behind each other by a program: Dec, Snd, Pur, Pu2, Act.
-/
import Derived.Test.YtjlnnljohemifaaGreatK5
set_option linter.unusedVariables false
namespace Go.Vc
def keyShape (P : Program) (t : TypeId) : Option Shape :=
  match P.underlying t with
  | some (.int _) => some .int
  | some .string => some .str
  | some .bool => some .bool
  | some (.struct _) =>
    match shapeOf P depthT t with
    | some (.s l) => if l.all (fun (off, agg, sh) => agg.isNone && keyPart sh) then some (.s l) else none
    | _ => none
  | _ => none
def notS : Shape → Bool | .s _ => false | _ => true
def notInt : TypeDesc → Bool | .slice _ => true | .string => true | _ => false
def decOp (P : Program) (o : Oper) : Option Iop :=
  match o.op with
  | .move x => some (.mov x)
  | .assign x => some (.mov x)
  | .pick c a b => some (.pick c a b)
  | .box T x => some (.box T x)
  | .alloc T => (zeroT P T).map fun z => .zero T (vcells z)
  | .build t ps => (zeroT P t).bind fun z => (parts P t (vcells z).length ps.toList).map (.build (vcells z))
  | .buildSlice t n ps =>
    match P.underlying t with
    | some (.slice e) => (zeroT P e).bind fun z =>
      if (P.info? e).isSome ∧ P.cellsOf e ≠ 0 ∧ (vcells z).length = P.cellsOf e ∧ n * P.cellsOf e ≤ 2 ^ 24 then
        (partsBy (fun i => some (i * P.cellsOf e, P.cellsOf e)) (n * P.cellsOf e) ps.toList).map (.lit e n (padZ (vcells z) n))
      else none
    | _ => none
  | .load t x => if (P.info? t).isSome ∧ (P.underlying t).isSome then (if isAggT P t then some (.loadN (P.cellsOf t) x) else some (.load1 x)) else none
  | .store t x v => if (P.info? t).isSome ∧ P.cellsOf t ≠ 0 then some (.store (P.cellsOf t) x v) else none
  | .nilCheck x => some (.nilCheck x)
  | .binOp op t x y _ =>
    match op with
    | .eql | .neq =>
      match P.underlying t, y with
      | some (.interface _), .const .nilIface => some (.nilI (match op with | .neq => true | _ => false) x)
      | _, _ => (shapeOf P depthT t).bind fun s => if notS s = true ∨ P.eqGuardType P.depth t = false then some (.bin op s x y) else none
    | _ => some (.bin op .int x y)
  | .unOp op _ x => some (.un op x)
  | .convert src dst x =>
    match P.underlying src, P.underlying dst with
    | some (.int _), some (.int k) => some (.conv k x)
    | some (.slice e), some .string => (match P.underlying e with | some (.int .u8) => some (.toStr x) | _ => none)
    | some .string, some (.slice e) => (match P.underlying e with | some (.int .u8) => some (.toBytes e x) | _ => none)
    | _, _ => none
  | .makeInterface t x => match P.underlying t with | some (.interface _) => none | some _ => some (.iface t x) | none => none
  | .makeFunc fn first captured => some (.func fn first.toList captured.toList)
  | .makeMap t none => some .newMap
  | .makeSlice t n c =>
    match P.underlying t with
    | some (.slice e) => (zeroT P e).bind fun z => if (P.info? e).isSome ∧ P.cellsOf e ≠ 0 ∧ (vcells z).length = P.cellsOf e then some (.makeSlice e (P.bytesOf e) (P.cellsOf e) (vcells z) n c) else none
    | _ => none
  | .slice t x lo hi mx =>
    match P.underlying t with
    | some (.slice e) => if (P.info? e).isSome ∧ (mx.isNone ∨ hi.isSome) then some (.slice (P.cellsOf e) x lo hi mx) else none
    | some .string => if mx.isNone then some (.sliceS x lo hi) else none
    | _ => none
  | .fieldAddr s x f =>
    match P.underlying s with
    | some (.struct fields) => (fields[f]?).bind fun fd => if (P.info? fd.type).isSome ∧ P.cellsOf fd.type ≠ 0 then some (.fieldAddr fd.offset x) else none
    | _ => none
  | .field t x f =>
    match P.underlying t with
    | some (.struct fields) => (fields[f]?).bind fun fd => if (P.info? fd.type).isSome ∧ (P.underlying fd.type).isSome then some (.field fd.offset (if isAggT P fd.type then some (P.cellsOf fd.type) else none) x) else none
    | _ => none
  | .indexAddr t x i =>
    match P.underlying t with
    | some (.slice e) => if (P.info? e).isSome then some (.indexAddr (P.cellsOf e) x i) else none
    | some (.array n e) => if (P.info? e).isSome then some (.indexArr n (P.cellsOf e) x i) else none
    | _ => none
  | .index t x i => match P.underlying t with | some .string => some (.indexS x i) | _ => none
  | .lookup t x i ok =>
    match P.underlying t with
    | some (.map k e) => (keyShape P k).bind fun s => (zeroT P e).map fun z => .lookup s z ok x i
    | _ => none
  | .mapUpdate t m k v => match P.underlying t with | some (.map kt _) => (keyShape P kt).map fun s => .update s m k v | _ => none
  | .extract x i => some (.extract i x)
  | .typeAssert x _ T false => (match P.underlying T with | some (.interface _) => none | some _ => some (.assert T x) | none => none)
  | .call c =>
    match c.callee with
    | .value (.func f) => if callable P f then some (.call f c.args.toList) else some (.ext f c.args.toList)
    | .value x => some (.dyn x c.args.toList)
    | .invoke r name => some (.invoke r name c.args.toList)
    | .builtin .len =>
      match c.args.toList, (c.argTypes[0]?).bind P.underlying with
      | [x], some (.slice _) => some (.lenS x)
      | [x], some .string => some (.lenT x)
      | [x], some (.map _ _) => some (.lenM x)
      | _, _ => none
    | .builtin .append =>
      match c.args.toList, (c.argTypes[0]?).bind P.underlying, (c.argTypes[1]?).bind P.underlying with
      | [x, y], some (.slice e), some d => (zeroT P e).bind fun z =>
        if (P.info? e).isSome ∧ P.cellsOf e ≠ 0 ∧ (vcells z).length = P.cellsOf e ∧ P.bytesOf e ≠ 0 ∧ notInt d = true then
          some (.append e (P.cellsOf e) (P.bytesOf e) (vcells z) x y) else none
      | _, _, _ => none
    | .builtin .delete =>
      match c.args.toList, (c.argTypes[0]?).bind P.underlying with
      | [m, k], some (.map kt _) => (keyShape P kt).map fun s => .delete s m k
      | _, _ => none
    | .builtin .clear =>
      match c.args.toList, (c.argTypes[0]?).bind P.underlying with
      | [x], some (.slice e) => (zeroT P e).bind fun z => if (vcells z).length ≠ 0 then some (.clearS (vcells z) x) else none
      | _, _ => none
    | .builtin .min => some (.minI c.args.toList)
    | .builtin .max => some (.maxI c.args.toList)
    | _ => none
  | _ => none
def min1 : Value → List Value → Option Value
  | v, [] => some v
  | v, u :: r => match v, u with
    | .int k a, .int _ b => min1 (.int k (if b < a then b else a)) r
    | _, _ => none
def minL (l : List Value) : Option Value := match l with | [] => none | v :: r => min1 v r
def max1 : Value → List Value → Option Value
  | v, [] => some v
  | v, u :: r => match v, u with
    | .int k a, .int _ b => max1 (.int k (if b > a then b else a)) r
    | _, _ => none
def maxL (l : List Value) : Option Value := match l with | [] => none | v :: r => max1 v r
@[go_sem] theorem minL_cons (v : Value) (r : List Value) : minL (v :: r) = min1 v r := (rfl)
@[go_sem] theorem min1_nil (v : Value) : min1 v [] = some v := (rfl)
@[go_sem] theorem min1_cons (k k' : IntKind) (a b : Int) (r : List Value) : min1 (.int k a) (.int k' b :: r) = min1 (.int k (if b < a then b else a)) r := (rfl)
@[go_sem] theorem maxL_cons (v : Value) (r : List Value) : maxL (v :: r) = max1 v r := (rfl)
@[go_sem] theorem max1_nil (v : Value) : max1 v [] = some v := (rfl)
@[go_sem] theorem max1_cons (k k' : IntKind) (a b : Int) (r : List Value) : max1 (.int k a) (.int k' b :: r) = max1 (.int k (if b > a then b else a)) r := (rfl)
def boundV (ev : Ev) (x : Option Operand) (d : Nat) (F : Int → Prop) : Prop :=
  match x with
  | none => F d
  | some x => withO (ev x) fun v => intV v F
@[go_sem ↓] theorem boundV_none (ev : Ev) (d : Nat) (F : Int → Prop) : boundV ev none d F = F d := (rfl)
@[go_sem ↓] theorem boundV_some (ev : Ev) (x : Operand) (d : Nat) (F : Int → Prop) : boundV ev (some x) d F = withO (ev x) fun v => intV v F := (rfl)
def lenMV (H : Hp) (r : Option Nat) (F : Nat → Prop) : Prop :=
  match r with
  | none => F 0
  | some b => withO (H.mp b) fun m => F m.1.length
@[go_sem ↓] theorem lenMV_some (H : Hp) (b : Nat) (F : Nat → Prop) : lenMV H (some b) F = withO (H.mp b) fun m => F m.1.length := (rfl)
def okTuple (ok : Bool) (z : Value) (x : Option Value) : Value :=
  bif ok then (match x with | some v => .tuple [v, .bool true].toArray | none => .tuple [z, .bool false].toArray) else x.getD z
@[go_sem] theorem okTuple_ok_some (z v : Value) : okTuple true z (some v) = .tuple [v, .bool true].toArray := (rfl)
@[go_sem] theorem okTuple_ok_none (z : Value) : okTuple true z none = .tuple [z, .bool false].toArray := (rfl)
@[go_sem] theorem okTuple_some (z v : Value) : okTuple false z (some v) = v := (rfl)
@[go_sem] theorem okTuple_none (z : Value) : okTuple false z none = z := (rfl)
def nilOk : Value → Bool
  | .pointer (some _) => true
  | .iface .. => true
  | .func (.func _) _ _ => true
  | _ => false
@[go_sem] theorem nilOk_ptr (a : Addr) : nilOk (.pointer (some a)) = true := (rfl)
@[go_sem] theorem nilOk_iface (t : TypeId) (v : Value) : nilOk (.iface t v) = true := (rfl)
@[go_sem] theorem nilOk_func (f : FuncId) (a b : Array Value) : nilOk (.func (.func f) a b) = true := (rfl)
def NilP (P : Program) (v : Value) : Prop :=
  nilOk v = true ∨ ∃ name t u cap, v = .func (.method name) #[.iface t u] cap ∧ ∀ w, (nilAhead (P.types.size + Made.depth) t u name).run P w = .ok (some false) w
@[go_sem] theorem NilP_ptr (P : Program) (a : Addr) : NilP P (.pointer (some a)) = True := eq_true (.inl rfl)
@[go_sem] theorem NilP_iface (P : Program) (t : TypeId) (v : Value) : NilP P (.iface t v) = True := eq_true (.inl rfl)
@[go_sem] theorem NilP_func (P : Program) (f : FuncId) (a b : Array Value) : NilP P (.func (.func f) a b) = True := eq_true (.inl rfl)
def Iop.vc (P : Program) (ev : Ev) (H : Hp) (K : Value → Hp → Prop) : Iop → Prop
  | .mov x => withO (ev x) fun v => K v H
  | .pick c a b => withO (ev c) fun cv => boolV cv fun t => withO (bif t then ev a else ev b) fun v => K v H
  | .box T x => withO (ev x) fun v => now (H.new T (vcells v)) fun H' => K (.pointer (some ⟨H.size, 0, none⟩)) H'
  | .zero T l => now (H.new T l) fun H' => K (.pointer (some ⟨H.size, 0, none⟩)) H'
  | .build z ps => fillV ev z ps fun l => now l fun l => K (.agg l.toArray) H
  | .lit T n z ps => fillV ev z ps fun l => now (H.new T l) fun H' => K (.slice (some ⟨H.size, 0, none⟩) n n) H'
  | .load1 x => withO (ev x) fun p => ptrV p fun b o => withO (H.rd b) fun l => withO l[o]? fun v => K v H
  | .loadN n x => withO (ev x) fun p => ptrV p fun b o => withO (H.rd b) fun l => Also (o + n ≤ l.length) (K (.agg ((l.drop o).take n).toArray) H)
  | .store n x v => withO (ev x) fun p => ptrV p fun b o => withO (ev v) fun v => withO (orO (H.own b) (H.mrk b)) fun l =>
      Also ((vcells v).length = n) (Also (allOneB (vcells v) = true) (Also (o + n ≤ l.length) (now (H.wr b (splice l o (vcells v))) fun H' => K undef H')))
  | .nilCheck x => withO (ev x) fun v => Also (NilP P v) (K v H)
  | .bin op s x y => withO (ev x) fun a => withO (ev y) fun b => withO (binF op s a b) fun v => K v H
  | .un op x => withO (ev x) fun a => withO (unF op a) fun v => K v H
  | .conv k x => withO (ev x) fun a => intV a fun n => K (.int k (k.wrap n)) H
  | .iface T x => withO (ev x) fun v => K (.iface T v) H
  | .func fn first captured => evs ev first fun l => evs ev captured fun c => K (.func fn l.toArray c.toArray) H
  | .newMap => K (.map (some H.size)) H.newm
  | .makeSlice T bytes size z n c => withO (ev n) fun nv => withO (ev c) fun cv => intV nv fun n => intV cv fun c =>
      Also (0 ≤ n ∧ n ≤ c ∧ c ≤ 2 ^ 48 ∧ bytes * c ≤ 2 ^ 48) (now (H.new T (padZ z c.toNat)) fun H' => K (.slice (some ⟨H.size, 0, none⟩) n.toNat c.toNat) H')
  | .slice size x lo hi mx => withO (ev x) fun v => sliceV v fun a n c => boundV ev mx c fun m => boundV ev hi n fun h => boundV ev lo 0 fun l =>
      Also (0 ≤ l ∧ l ≤ h ∧ h ≤ m ∧ m ≤ c) (K (.slice (if m = l then a else a.map (·.add (l.toNat * size))) (h.toNat - l.toNat) (m.toNat - l.toNat)) H)
  | .sliceS x lo hi => withO (ev x) fun v => stringV v fun s => boundV ev hi s.size fun h => boundV ev lo 0 fun l =>
      Also (0 ≤ l ∧ l ≤ h ∧ h ≤ s.size) (K (.string (s.extract l.toNat h.toNat)) H)
  | .fieldAddr off x => withO (ev x) fun p => ptrV p fun b o => K (.pointer (some ⟨b, o + off, none⟩)) H
  | .field off agg x => withO (ev x) fun v => aggV v fun l => withO (partL l off agg) fun v => K v H
  | .indexAddr size x i => withO (ev x) fun v => withO (ev i) fun iv => sliceV v fun a n _ => intV iv fun i => Also (0 ≤ i ∧ i < n) (baseV a fun b o => K (.pointer (some ⟨b, o + i.toNat * size, none⟩)) H)
  | .indexArr many size x i => withO (ev x) fun p => withO (ev i) fun iv => ptrV p fun b o => intV iv fun i => Also (0 ≤ i ∧ i < many) (K (.pointer (some ⟨b, o + i.toNat * size, none⟩)) H)
  | .indexS x i => withO (ev x) fun v => withO (ev i) fun iv => stringV v fun s => intV iv fun i => Also (0 ≤ i) (withO (s[i.toNat]?) fun b => K (.int .u8 b.toNat) H)
  | .lookup s z ok m k => withO (ev m) fun mv => withO (ev k) fun kv => mapV mv fun r => Also (keyOk s kv = true) (lookV H s r kv fun x => K (okTuple ok z x) H)
  | .update s m k v => withO (ev m) fun mv => withO (ev k) fun kv => withO (ev v) fun vv => mapV mv fun r => withO r fun b => Also (keyOk s kv = true) (updV H s b kv vv fun H' => K undef H')
  | .extract i x => withO (ev x) fun v => tupV v fun l => withO l[i]? fun v => K v H
  | .call f args => evs ev args fun vs => CallH P f vs H K
  | .dyn f args => withO (ev f) fun fv => evs ev args fun vs => DynH P fv vs H K
  | .invoke r name args => withO (ev r) fun rv => evs ev args fun vs => InvH P rv name vs H K
  | .lenS x => withO (ev x) fun v => sliceV v fun _ n _ => K (.int .i64 n) H
  | .lenT x => withO (ev x) fun v => stringV v fun s => K (.int .i64 s.size) H
  | .lenM x => withO (ev x) fun v => mapV v fun r => lenMV H r fun n => K (.int .i64 n) H
  | .append T size bytes z x y => withO (ev x) fun xv => withO (ev y) fun yv => AppendV T size bytes z xv yv H K
  | .delete s m k => withO (ev m) fun mv => withO (ev k) fun kv => mapV mv fun r => withO r fun b => Also (keyOk s kv = true) (delV H s b kv fun H' => K (.tuple [].toArray) H')
  | .clearS z x => withO (ev x) fun v => sliceV v fun a n _ => clearV H z a n fun H' => K (.tuple [].toArray) H'
  | .minI args => evs ev args fun vs => withO (minL vs) fun v => K v H
  | .maxI args => evs ev args fun vs => withO (maxL vs) fun v => K v H
  | .assert T x => withO (ev x) fun v => assertV T v fun u => K u H
  | .nilI neg x => withO (ev x) fun v => ifcV v fun b => K (.bool (nilB neg b)) H
  | .toStr x => withO (ev x) fun v => bytesV H v fun l => K (.string ⟨l.toArray⟩) H
  | .toBytes T x => withO (ev x) fun v => stringV v fun s => ToBytesV T s H K
  | .ext f args => evs ev args fun vs => ExtV P f vs H K
attribute [go_sem ↓] Iop.vc
section
variable {P : Program} {o : Oper} {a : Act} {ev : Ev} {H : Hp} {K : Value → Hp → Prop}
def Pures (P : Program) (o : Oper) (a : Act) (H : Hp) (K : Value → Hp → Prop) : Prop := ∃ v, (∀ w, (execOp a.eval o).run P w = .ok (.value v) w) ∧ K v H
theorem Pures.does (h : Pures P o a H K) : Does P o a H K := by
  obtain ⟨v, h1, h2⟩ := h
  exact fun w hw => .inl ⟨v, w, h1 w, Same.refl w, hw ▸ h2⟩
theorem runs_underlying {t : TypeId} {d : TypeDesc} (h : P.underlying t = some d) (w : World) : (underlying t).run P w = .ok d w := run_underlying h w
theorem runs_typeInfo {t : TypeId} {i : TypeInfo} (h : P.info? t = some i) (w : World) : (typeInfo t).run P w = .ok i w := by simp [typeInfo, h]
theorem runs_sizeOf {t : TypeId} (h : (P.info? t).isSome = true) (w : World) : (sizeOf t).run P w = .ok (P.cellsOf t) w := by
  obtain ⟨i, hi⟩ := Option.isSome_iff_exists.1 h
  simp [sizeOf, runs_typeInfo hi, Program.cellsOf, hi]
theorem runs_zeroValue {t : TypeId} {z : Value} (h : zeroT P t = some z) (w : World) : (zeroValue t).run P w = .ok z w := by
  unfold zeroT at h
  cases hi : P.info? t with
  | none => rw [hi] at h; cases h
  | some i => rw [hi] at h; simp only [Option.bind_some] at h; simp [zeroValue, runs_typeInfo hi, h]
theorem runs_isAgg {t : TypeId} (h : (P.underlying t).isSome = true) (w : World) : (isAgg t).run P w = .ok (isAggT P t) w := by
  obtain ⟨d, hd⟩ := Option.isSome_iff_exists.1 h
  unfold isAgg isAggT
  simp only [Sem.run_bind, runs_underlying hd, Result.andThen_ok, hd]
  cases d <;> rfl
theorem runs_newVar (t : TypeId) (v : Value) (w : World) : (newVar t v).run P w = .ok ⟨w.heap.size, 0, none⟩ { w with heap := Hp.new w.heap t (vcells v) } := by
  simp only [newVar, newRow, Sem.run_bind, run_newObj, Result.andThen_ok, Sem.run_pure, Hp.new, ← vcells_eq, Array.toArray_toList]
theorem runs_newRow (t : TypeId) (c : Array Value) (w : World) : (newRow t c).run P w = .ok ⟨w.heap.size, 0, none⟩ { w with heap := Hp.new w.heap t c.toList } := by
  simp only [newRow, Sem.run_bind, run_newObj, Result.andThen_ok, Sem.run_pure, Hp.new, Array.toArray_toList]
theorem runs_loadVar {t : TypeId} {w : World} {b o : Nat} {l : List Value} (hi : (P.info? t).isSome = true) (hu : (P.underlying t).isSome = true) (h : Hp.rd w.heap b = some l) :
    (isAggT P t = true → o + P.cellsOf t ≤ l.length → (loadVar t ⟨b, o, none⟩).run P w = .ok (.agg ((l.drop o).take (P.cellsOf t)).toArray) w) ∧
    (isAggT P t = false → ∀ v, l[o]? = some v → (loadVar t ⟨b, o, none⟩).run P w = .ok v w) := by
  refine ⟨fun ha hn => ?_, fun ha v hv => ?_⟩
  · simp [loadVar, runs_isAgg hu, ha, runs_sizeOf hi, run_loadCells_rd (P := P) (a := ⟨b, o, none⟩) rfl h hn]
  · have hc : w.cell? ⟨b, o, none⟩ = some v := (cell_of_rd rfl h).trans hv
    simp [loadVar, runs_isAgg hu, ha, hc]
theorem runs_storeVar {t : TypeId} {w : World} {b o : Nat} {l : List Value} {v : Value} (hi : (P.info? t).isSome = true) (h0 : P.cellsOf t ≠ 0) (h : orO (Hp.own w.heap b) (Hp.mrk w.heap b) = some l)
    (hl : (vcells v).length = P.cellsOf t) (h1 : allOne (vcells v)) (hn : o + P.cellsOf t ≤ l.length) :
    ∃ w', (storeVar t ⟨b, o, none⟩ v).run P w = .ok () w' ∧ Same w w' ∧ w'.heap = Hp.wr w.heap b (splice l o (vcells v)) := by
  obtain ⟨w', hr, hs, hk, _⟩ := run_storeCells_own (P := P) (b := b) (o := o) (vcells v) 0 w l h (by omega) h1
  refine ⟨w', ?_, hs, hk (fun e => by rw [e] at hl; exact h0 hl.symm)⟩
  have e : v.cells.size = P.cellsOf t := by rw [← hl, ← vcells_eq]; simp
  simp only [storeVar, Sem.run_bind, runs_sizeOf hi, Result.andThen_ok, e, ne_eq, not_true_eq_false, if_false, vcells_eq]
  exact hr
end
end Go.Vc

set_option linter.unusedSimpArgs false
namespace Go.Vc
section
variable {P : Program} {o : Oper} {a : Act} {ev : Ev} {H : Hp} {K : Value → Hp → Prop}
theorem Also.out {c F : Prop} (h : Also c F) : c ∧ F := h
theorem boolV_spec {v : Value} {F : Bool → Prop} (h : boolV v F) : ∃ b, v = .bool b ∧ F b := by
  unfold boolV at h; split at h
  · exact ⟨_, rfl, h⟩
  · exact h.elim
theorem runs_part {l : List Value} {t : TypeId} {off : Nat} {v : Value} (hi : (P.info? t).isSome = true) (hu : (P.underlying t).isSome = true)
    (h : partL l off (if isAggT P t then some (P.cellsOf t) else none) = some v) (w : World) : (part t l.toArray off).run P w = .ok v w := by
  unfold part
  simp only [Sem.run_bind, runs_isAgg hu, Result.andThen_ok]
  cases hb : isAggT P t
  · rw [hb] at h
    simp only [Bool.false_eq_true, if_false, partL] at h ⊢
    simp [h]
  · rw [hb] at h
    simp only [if_true, partL] at h ⊢
    split at h
    · injection h with h
      subst h
      simp only [Sem.run_bind, runs_sizeOf hi, Result.andThen_ok, Sem.run_pure]
      congr 2
      apply Array.ext'
      simp [List.take_drop]
    · cases h
theorem info_of_underlying {t : TypeId} (h : (P.underlying t).isSome = true) : (P.info? t).isSome = true := by
  unfold Program.underlying at h
  cases hi : P.info? t with
  | none => rw [hi] at h; simp at h
  | some i => rfl
theorem runs_simple (m : Nat) {t : TypeId} {s : Shape} {x y : Value} {b : Bool} {d : Nat} (ht : shapeOf P d t = some s) (hs : ∀ fs, s ≠ .s fs) (h : simpleEq s x y = some b) (w : World) :
    (Op.equalIn (m + 1) t x y).run P w = .ok b w := by
  cases d with
  | zero => simp [shapeOf] at ht
  | succ d =>
    rw [shapeOf_succ] at ht
    split at ht
    case h_9 => split at ht
                · cases ht
                · rename_i fs hu hp
                  cases hsf : shapesOf P d fs.toList with
                  | none => rw [hsf] at ht; cases ht
                  | some l => rw [hsf] at ht; injection ht with ht; exact absurd ht.symm (hs l)
    case h_10 => cases ht
    all_goals (injection ht with ht; subst ht)
    all_goals (unfold simpleEq at h; split at h <;> rename_i hu <;> first | (cases hu; done) | (cases h; done) | skip)
    all_goals (try (split at h <;> first | (cases h; done) | skip))
    all_goals (injection h with h; subst h)
    all_goals (simp only [Op.equalIn, Sem.run_bind, runs_underlying ‹P.underlying t = _›, Result.andThen_ok])
    all_goals first | rfl | (rw [if_pos (by assumption)]; rfl) | (simp [*, beq_toListBytes]; done) | (simp_all; done) | skip
theorem runs_equalIn : ∀ (d : Nat),
    (∀ (t : TypeId) (s : Shape) (x y : Value) (b : Bool), shapeOf P d t = some s → eqV s x y = some b → ∀ (m : Nat) (w : World), (Op.equalIn (m + d) t x y).run P w = .ok b w) ∧
    (∀ (fs : List Field) (l : List (Nat × Option Nat × Shape)) (xs ys : List Value) (b : Bool), shapesOf P d fs = some l → eqVs l xs ys = some b →
      ∀ (m : Nat) (w : World), (Op.eqFields (m + d) xs.toArray ys.toArray fs).run P w = .ok b w) := by
  intro d
  induction d with
  | zero =>
    refine ⟨fun t s x y b ht => (by simp [shapeOf] at ht), fun fs l xs ys b hl h m w => ?_⟩
    cases fs with
    | nil => simp only [shapesOf_nil, Option.some.injEq] at hl; subst hl; simp only [eqVs, Option.some.injEq] at h; subst h; rfl
    | cons f fs => simp [shapesOf_cons, shapeOf] at hl
  | succ d ih =>
    have first : ∀ (t : TypeId) (s : Shape) (x y : Value) (b : Bool), shapeOf P (d + 1) t = some s → eqV s x y = some b → ∀ (m : Nat) (w : World), (Op.equalIn (m + (d + 1)) t x y).run P w = .ok b w := by
      intro t s x y b ht h m w
      by_cases hs : ∃ fs, s = .s fs
      · obtain ⟨l, rfl⟩ := hs
        cases x with
        | agg xs =>
          cases y with
          | agg ys =>
            simp only [eqV] at h
            rw [shapeOf_succ] at ht
            split at ht
            case h_9 =>
              split at ht
              · cases ht
              · rename_i fs hu hp
                cases hsf : shapesOf P d fs.toList with
                | none => rw [hsf] at ht; cases ht
                | some l' =>
                  rw [hsf] at ht
                  simp only [Option.map_some, Option.some.injEq, Shape.s.injEq] at ht
                  subst ht
                  have hf : P.fieldsOf t = fs := by simp [Program.fieldsOf, hu]
                  rw [show m + (d + 1) = (m + d) + 1 by omega, run_equalIn_struct w (m + d) t xs ys (by rw [hf]; exact hu) (by simpa using hp), hf]
                  have := (ih.2 fs.toList l' xs.toList ys.toList b hsf h m w)
                  simpa using this
            all_goals cases ht
          | _ => simp [eqV, simpleEq] at h
        | _ => cases y <;> simp [eqV, simpleEq] at h
      · have h' : simpleEq s x y = some b := by
          cases s <;> first | exact h | (exact absurd ⟨_, rfl⟩ hs)
        exact runs_simple (m + d) ht (fun fs e => hs ⟨fs, e⟩) h' w
    refine ⟨first, fun fs => ?_⟩
    induction fs with
    | nil => intro l xs ys b hl h m w; simp only [shapesOf_nil, Option.some.injEq] at hl; subst hl; simp only [eqVs, Option.some.injEq] at h; subst h; rfl
    | cons f fs ihf =>
      intro l xs ys b hl h m w
      rw [shapesOf_cons] at hl
      split at hl
      · cases hl
      · rename_i hname
        split at hl
        · cases hl
        · rename_i sh hsh
          cases hr : shapesOf P (d + 1) fs with
          | none => rw [hr] at hl; cases hl
          | some l' =>
            rw [hr] at hl
            simp only [Option.map_some, Option.some.injEq] at hl
            subst hl
            unfold eqVs at h
            split at h
            · cases h
            · rename_i x hx
              split at h
              · cases h
              · rename_i y hy
                have hu : (P.underlying f.type).isSome = true := by
                  rw [shapeOf_succ] at hsh
                  split at hsh <;> first | (cases hsh; done) | simp_all
                have hi := info_of_underlying hu
                simp only [Op.eqFields, hname, ne_eq, not_false_eq_true, if_true, Sem.run_bind, runs_part hi hu hx, runs_part hi hu hy, Result.andThen_ok]
                split at h
                · rename_i he
                  rw [first f.type sh x y true hsh he m w]
                  simpa using ihf l' xs ys b hr h m w
                · rename_i he
                  injection h with h
                  subst h
                  rw [first f.type sh x y false hsh he m w]
                  simp
                · cases h
end
end Go.Vc

namespace Go.Vc
section
variable {P : Program} {o : Oper} {a : Act} {ev : Ev} {H : Hp} {K : Value → Hp → Prop}
abbrev Tells (ev : Ev) (a : Act) : Prop := ∀ x v, ev x = some v → a.eval x = v
theorem withEv {x : Operand} {F : Value → Prop} (hev : Tells ev a) (h : withO (ev x) F) : F (a.eval x) := by
  obtain ⟨v, hv, h⟩ := withO_spec h
  rw [hev x v hv]; exact h
theorem pure_mov {x : Operand} (hev : Tells ev a) (ho : o.op = .move x ∨ o.op = .assign x) (h : (Iop.mov x).vc P ev H K) : Pures P o a H K := by
  have h := withEv hev h
  refine ⟨_, fun w => ?_, h⟩
  rcases ho with ho | ho <;> simp [execOp, ho]
theorem pure_pick {c x y : Operand} (hev : Tells ev a) (ho : o.op = .pick c x y) (h : (Iop.pick c x y).vc P ev H K) : Pures P o a H K := by
  obtain ⟨b, hb, h⟩ := boolV_spec (withEv hev h)
  have h2 : withO (ev (bif b then x else y)) fun v => K v H := by cases b <;> exact h
  have h := withEv hev h2
  refine ⟨_, fun w => ?_, h⟩
  simp only [execOp, ho, hb, asBool]
  cases b <;> simp
theorem pure_nilCheck {x : Operand} (hev : Tells ev a) (ho : o.op = .nilCheck x) (h : (Iop.nilCheck x).vc P ev H K) : Pures P o a H K := by
  obtain ⟨hn, h⟩ := (withEv hev h).out
  refine ⟨_, fun w => ?_, h⟩
  simp only [execOp, ho]
  rcases hn with hn | ⟨name, t, u, cap, hv, hn⟩
  · revert hn
    generalize a.eval x = v
    cases v with
    | pointer q => cases q <;> simp [nilOk]
    | func fn x y => cases fn <;> simp [nilOk]
    | _ => simp [nilOk]
  · rw [hv]
    have hz : (#[Value.iface t u] : Array Value)[0]? = some (.iface t u) := rfl
    simp [hz, hn w]
theorem pure_un {op : UnOp} {t : TypeId} {x : Operand} (hev : Tells ev a) (ho : o.op = .unOp op t x) (h : (Iop.un op x).vc P ev H K) : Pures P o a H K := by
  obtain ⟨v, hv, h⟩ := withO_spec (withEv hev h)
  refine ⟨v, fun w => ?_, h⟩
  simp only [execOp, ho]
  revert hv
  generalize a.eval x = u
  intro hv
  unfold unF at hv
  split at hv <;> first | (cases hv; done) | skip
  all_goals (injection hv with hv; subst hv; simp [Op.unary, Op.intArith, Op.intBits])
theorem pure_conv {s t : TypeId} {k k' : IntKind} {x : Operand} (hev : Tells ev a) (ho : o.op = .convert s t x) (hs : P.underlying s = some (.int k')) (ht : P.underlying t = some (.int k))
    (h : (Iop.conv k x).vc P ev H K) : Pures P o a H K := by
  obtain ⟨k1, n, hn, h⟩ := intV_spec (withEv hev h)
  refine ⟨_, fun w => ?_, h⟩
  simp only [execOp, ho, convert, hn, Sem.run_bind, runs_underlying hs, runs_underlying ht, Result.andThen_ok, Conv.intToInt]
  rfl
theorem run_nilI {t : TypeId} {ms : Array (String × TypeId)} (hu : P.underlying t = some (.interface ms)) (v : Value) (b : Bool) (hv : (v = .nilIface ∧ b = true) ∨ ∃ t' u, v = .iface t' u ∧ b = false) (w : World) : (Op.equal t v .nilIface).run P w = .ok b w := by
  have h : ∀ m : Nat, (Op.equalIn (m + 1) t v .nilIface).run P w = .ok b w := fun m => by
    rcases hv with ⟨rfl, rfl⟩ | ⟨t', u, rfl, rfl⟩ <;> simp only [Op.equalIn, Sem.run_bind, runs_underlying hu, Result.andThen_ok] <;> rfl
  exact h 9999
theorem pure_nilI {op : BinOp} {neg : Bool} {t t' : TypeId} {ms : Array (String × TypeId)} {x : Operand} (hev : Tells ev a) (ho : o.op = .binOp op t x (.const .nilIface) t') (hu : P.underlying t = some (.interface ms))
    (hop : (op = .eql ∧ neg = false) ∨ (op = .neq ∧ neg = true)) (h : (Iop.nilI neg x).vc P ev H K) : Pures P o a H K := by
  obtain ⟨b, hv, h⟩ : ∃ b, ((a.eval x = .nilIface ∧ b = true) ∨ ∃ t' u, a.eval x = .iface t' u ∧ b = false) ∧ K (.bool (nilB neg b)) H := by
    rcases ifcV_spec (withEv hev h) with ⟨e, h⟩ | ⟨t', u, e, h⟩
    · exact ⟨true, .inl ⟨e, rfl⟩, h⟩
    · exact ⟨false, .inr ⟨t', u, e, rfl⟩, h⟩
  refine ⟨_, fun w => ?_, h⟩
  have hr := run_nilI (P := P) hu (a.eval x) b hv w
  have hc : a.eval (.const .nilIface) = .nilIface := rfl
  simp only [execOp, ho, Sem.run_bind, hc]
  generalize a.eval x = u at hv hr ⊢
  have hg : (eqGuard op t x (.const .nilIface) u .nilIface).run P w = .ok () w := by
    unfold eqGuard
    rcases hop with ⟨rfl, _⟩ | ⟨rfl, _⟩ <;> rcases hv with ⟨rfl, _⟩ | ⟨t', u', rfl, _⟩ <;> simp
  rw [hg]
  simp only [Result.andThen_ok]
  rcases hop with ⟨rfl, rfl⟩ | ⟨rfl, rfl⟩ <;> rcases hv with ⟨rfl, rfl⟩ | ⟨t', u', rfl, rfl⟩ <;> simp [binOp, hr, nilB]
theorem pure_assert {s t : TypeId} {d : TypeDesc} {x : Operand} (hev : Tells ev a) (ho : o.op = .typeAssert x s t false) (hs : P.underlying t = some d) (hd : ∀ ms, d ≠ .interface ms)
    (h : (Iop.assert t x).vc P ev H K) : Pures P o a H K := by
  obtain ⟨u, hx, h⟩ := assertV_spec (withEv hev h)
  refine ⟨_, fun w => ?_, h⟩
  simp only [execOp, ho, hx, Instr.typeAssert, Sem.run_bind, runs_underlying hs, Result.andThen_ok]
  cases d <;> first | (exact absurd rfl (hd _)) | simp
theorem pure_iface {t : TypeId} {d : TypeDesc} {x : Operand} (hev : Tells ev a) (ho : o.op = .makeInterface t x) (hs : P.underlying t = some d) (hd : ∀ ms, d ≠ .interface ms)
    (h : (Iop.iface t x).vc P ev H K) : Pures P o a H K := by
  have h := withEv hev h
  refine ⟨_, fun w => ?_, h⟩
  simp only [execOp, ho, Instr.makeInterface, Sem.run_bind, runs_underlying hs, Result.andThen_ok]
  cases d <;> first | (exact absurd rfl (hd _)) | simp
theorem pure_func {fn : Fn} {first captured : Array Operand} (hev : Tells ev a) (ho : o.op = .makeFunc fn first captured) (h : (Iop.func fn first.toList captured.toList).vc P ev H K) : Pures P o a H K := by
  have h := evs_spec hev (evs_spec hev h)
  refine ⟨_, fun w => ?_, h⟩
  simp only [execOp, ho, Instr.makeFunc, Sem.run_bind, Sem.run_pure, Result.andThen_ok]
  congr 3
  · apply Array.ext'; simp
  · apply Array.ext'; simp
theorem run_guard_if {c : Bool} {m : Sem Unit} {w : World} (h : m.run P w = .ok () w) : (if (!c) = true then (pure () : Sem Unit) else m).run P w = .ok () w := by
  cases c
  · rfl
  · simpa using h
theorem run_eqGuard_ok {op : BinOp} {t : TypeId} {s : Shape} {x y : Operand} {u v : Value} {b : Bool} (h : eqV s u v = some b) (hg : notS s = true ∨ P.eqGuardType P.depth t = false) (w : World) :
    (eqGuard op t x y u v).run P w = .ok () w := by
  unfold eqGuard
  refine run_guard_if ?_
  cases u with
  | nilIface =>
    cases v with
    | nilIface => cases s <;> simp [eqV, simpleEq] at h
    | _ => rfl
  | agg xs =>
    cases v with
    | agg ys =>
      rcases hg with hg | hg
      · cases s <;> simp_all [eqV, simpleEq, notS]
      · simp [hg]
    | _ => rfl
  | _ => cases v <;> rfl
theorem run_bin_eq {t : TypeId} {s : Shape} {u v : Value} {b : Bool} (hs : shapeOf P depthT t = some s) (h : eqV s u v = some b) (hu : ∀ k n, u ≠ .int k n ∨ ∀ k' m, v ≠ .int k' m)
    (hst : ∀ x, u ≠ .string x ∨ ∀ y, v ≠ .string y) (w : World) :
    (binOp .eql t u v).run P w = .ok (.bool b) w ∧ (binOp .neq t u v).run P w = .ok (.bool (!b)) w := by
  have he : (Op.equal t u v).run P w = .ok b w := by
    unfold Op.equal Op.maxDepth
    have := (runs_equalIn (P := P) depthT).1 t s u v b hs h (10000 - depthT) w
    simpa [depthT] using this
  have hne : ∀ {op}, op = BinOp.eql ∨ op = BinOp.neq → binOp op t u v = (if op = BinOp.eql then (do pure (.bool (← Op.equal t u v))) else (do pure (.bool (!(← Op.equal t u v))))) := by
    intro op hop
    cases u <;> cases v <;> rcases hop with rfl | rfl <;> first
      | rfl
      | (rcases hu _ _ with h1 | h1 <;> first | exact absurd rfl h1 | exact absurd rfl (h1 _ _))
      | (rcases hst _ with h1 | h1 <;> first | exact absurd rfl h1 | exact absurd rfl (h1 _))
      | (cases s <;> simp [eqV, simpleEq] at h)
  rw [hne (.inl rfl), hne (.inr rfl)]
  simp [he]
def restF (op : BinOp) (s : Shape) (u z : Value) : Option Value := match op with | .eql => (eqV s u z).map .bool | .neq => (eqV s u z).map fun b => .bool (!b) | _ => none
theorem binF_rest {op : BinOp} {s : Shape} {u z : Value} (h1 : ∀ k n, u ≠ .int k n ∨ ∀ k' m, z ≠ .int k' m) (h2 : ∀ p, u ≠ .string p ∨ ∀ q, z ≠ .string q) : binF op s u z = restF op s u z := by
  unfold binF restF
  split
  · rcases h1 _ _ with h | h <;> first | exact absurd rfl h | exact absurd rfl (h _ _)
  · rcases h2 _ with h | h <;> first | exact absurd rfl h | exact absurd rfl (h _)
  · rfl
theorem pure_bin {op : BinOp} {t t' : TypeId} {s : Shape} {x y : Operand} (hev : Tells ev a) (ho : o.op = .binOp op t x y t')
    (hs : (op = .eql ∨ op = .neq) → shapeOf P depthT t = some s ∧ (notS s = true ∨ P.eqGuardType P.depth t = false))
    (h : (Iop.bin op s x y).vc P ev H K) : Pures P o a H K := by
  obtain ⟨v, hv, h⟩ := withO_spec (withEv hev (withEv hev h))
  refine ⟨v, fun w => ?_, h⟩
  simp only [execOp, ho, Sem.run_bind]
  generalize hx : a.eval x = u at hv ⊢
  generalize hy : a.eval y = z at hv ⊢
  have hint : ∀ k n k' m, u = .int k n → z = .int k' m → (eqGuard op t x y u z).run P w = .ok () w ∧ (binOp op t u z).run P w = .ok v w := by
    intro k n k' m e1 e2
    subst e1; subst e2
    refine ⟨run_guard_if rfl, ?_⟩
    · unfold binF at hv
      by_cases hk : k = k'
      · subst hk
        cases op <;> simp only [binOp, Op.shift, Op.intArith, Op.intDiv, Op.intBits, Op.intCmp] at hv ⊢ <;> simp at hv ⊢ <;> first
          | (subst hv; rfl)
          | (split at hv <;> first | (cases hv; done) | (injection hv with hv; subst hv; rename_i hc; simp [hc]; done) | skip)
          | (obtain ⟨h1, rfl⟩ := hv; simp [show ¬ m < 0 by omega])
          | (obtain ⟨h1, rfl⟩ := hv; simp [h1])
          | skip
      · cases op <;> simp [hk] at hv <;> simp only [binOp, Op.shift] <;> first
          | (obtain ⟨h1, rfl⟩ := hv; simp [show ¬ m < 0 by omega])
          | skip
  have hstr : ∀ p q, u = .string p → z = .string q → (eqGuard op t x y u z).run P w = .ok () w ∧ (binOp op t u z).run P w = .ok v w := by
    intro p q e1 e2
    subst e1; subst e2
    refine ⟨run_guard_if rfl, ?_⟩
    · unfold binF at hv
      cases op <;> simp only [binOp, Op.stringOp] at hv ⊢ <;> simp at hv ⊢ <;> first
        | (subst hv; rfl)
        | (obtain ⟨h1, rfl⟩ := hv; simp [show ¬ (9223372036854775807 : Int) < (p.size : Int) + q.size by omega])
        | (obtain ⟨h1, rfl⟩ := hv; rw [if_neg (by omega)])
        | (cases hv; done)
        | skip
  have hrest : (∀ k n, u ≠ .int k n ∨ ∀ k' m, z ≠ .int k' m) → (∀ p, u ≠ .string p ∨ ∀ q, z ≠ .string q) → (eqGuard op t x y u z).run P w = .ok () w ∧ (binOp op t u z).run P w = .ok v w := by
    intro h1 h2
    have hb := binF_rest (op := op) (s := s) h1 h2
    rw [hb] at hv
    cases op <;> simp only [restF] at hv <;> first | (cases hv; done) | skip
    · obtain ⟨hs1, hs2⟩ := hs (.inl rfl)
      cases he : eqV s u z with
      | none => rw [he] at hv; cases hv
      | some b => rw [he] at hv; injection hv with hv; subst hv; exact ⟨run_eqGuard_ok he hs2 w, (run_bin_eq hs1 he h1 h2 w).1⟩
    · obtain ⟨hs1, hs2⟩ := hs (.inr rfl)
      cases he : eqV s u z with
      | none => rw [he] at hv; cases hv
      | some b => rw [he] at hv; injection hv with hv; subst hv; exact ⟨run_eqGuard_ok he hs2 w, (run_bin_eq hs1 he h1 h2 w).2⟩
  have key : (eqGuard op t x y u z).run P w = .ok () w ∧ (binOp op t u z).run P w = .ok v w := by
    by_cases h1 : ∃ k n k' m, u = .int k n ∧ z = .int k' m
    · obtain ⟨k, n, k', m, e1, e2⟩ := h1; exact hint k n k' m e1 e2
    · by_cases h2 : ∃ p q, u = .string p ∧ z = .string q
      · obtain ⟨p, q, e1, e2⟩ := h2; exact hstr p q e1 e2
      · refine hrest (fun k n => ?_) (fun p => ?_)
        · by_cases e : u = .int k n
          · exact .inr fun k' m e' => h1 ⟨k, n, k', m, e, e'⟩
          · exact .inl e
        · by_cases e : u = .string p
          · exact .inr fun q e' => h2 ⟨p, q, e, e'⟩
          · exact .inl e
  simp [key.1, key.2]
end
end Go.Vc

namespace Go.Vc
section
variable {P : Program} {o : Oper} {a : Act} {ev : Ev} {H : Hp} {K : Value → Hp → Prop}
theorem pure_extract {i : Nat} {x : Operand} (hev : Tells ev a) (ho : o.op = .extract x i) (h : (Iop.extract i x).vc P ev H K) : Pures P o a H K := by
  obtain ⟨vs, hv, h⟩ := tupV_spec (withEv hev h)
  obtain ⟨v, hi, h⟩ := withO_spec h
  refine ⟨v, fun w => ?_, h⟩
  have hi' : vs[i]? = some v := by simpa using hi
  simp [execOp, ho, hv, Instr.extract, hi']
theorem pure_fieldAddr {t : TypeId} {f : Nat} {x : Operand} {fields : Array Field} {fd : Field} (hev : Tells ev a) (ho : o.op = .fieldAddr t x f) (ht : P.underlying t = some (.struct fields))
    (hf : fields[f]? = some fd) (hi : (P.info? fd.type).isSome = true) (h0 : P.cellsOf fd.type ≠ 0) (h : (Iop.fieldAddr fd.offset x).vc P ev H K) : Pures P o a H K := by
  obtain ⟨b, off, hv, h⟩ := ptrV_spec (withEv hev h)
  refine ⟨_, fun w => ?_, h⟩
  simp [execOp, ho, hv, Instr.fieldAt, runs_underlying ht, hf, Instr.sureAddr, fieldPlace, runs_sizeOf hi, h0, add_mk]
theorem pure_field {t : TypeId} {f : Nat} {x : Operand} {fields : Array Field} {fd : Field} (hev : Tells ev a) (ho : o.op = .field t x f) (ht : P.underlying t = some (.struct fields))
    (hf : fields[f]? = some fd) (hi : (P.info? fd.type).isSome = true) (hu : (P.underlying fd.type).isSome = true)
    (h : (Iop.field fd.offset (if isAggT P fd.type then some (P.cellsOf fd.type) else none) x).vc P ev H K) : Pures P o a H K := by
  obtain ⟨vs, hv, h⟩ := aggV_spec (withEv hev h)
  obtain ⟨v, hp, h⟩ := withO_spec h
  refine ⟨v, fun w => ?_, h⟩
  have := runs_part hi hu hp w
  simp only [Array.toArray_toList] at this
  simp [execOp, ho, hv, Instr.field, runs_underlying ht, hf, asAgg, this]
theorem pure_indexAddr {t e : TypeId} {x i : Operand} (hev : Tells ev a) (ho : o.op = .indexAddr t x i) (ht : P.underlying t = some (.slice e)) (hi : (P.info? e).isSome = true)
    (h : (Iop.indexAddr (P.cellsOf e) x i).vc P ev H K) : Pures P o a H K := by
  obtain ⟨ad, n, c, hx, h⟩ := sliceV_spec (withEv hev (withEv hev h))
  obtain ⟨k, j, hj, h⟩ := intV_spec h
  obtain ⟨hb, h⟩ := h.out
  obtain ⟨b, off, rfl, h⟩ := baseV_spec h
  refine ⟨_, fun w => ?_, h⟩
  simp [execOp, ho, hx, hj, Instr.indexAt, runs_underlying ht, asIntOf, hb.1, hb.2, runs_sizeOf hi, add_mk]
theorem pure_indexArr {t e : TypeId} {n : Nat} {x i : Operand} (hev : Tells ev a) (ho : o.op = .indexAddr t x i) (ht : P.underlying t = some (.array n e)) (hi : (P.info? e).isSome = true)
    (h : (Iop.indexArr n (P.cellsOf e) x i).vc P ev H K) : Pures P o a H K := by
  obtain ⟨b, off, hx, h⟩ := ptrV_spec (withEv hev (withEv hev h))
  obtain ⟨k, j, hj, h⟩ := intV_spec h
  obtain ⟨hb, h⟩ := h.out
  refine ⟨_, fun w => ?_, h⟩
  simp [execOp, ho, hx, hj, Instr.indexAt, runs_underlying ht, asIntOf, hb.1, hb.2, runs_sizeOf hi, add_mk, Instr.sureAddr]
theorem pure_indexS {t : TypeId} {x i : Operand} (hev : Tells ev a) (ho : o.op = .index t x i) (ht : P.underlying t = some .string)
    (h : (Iop.indexS x i).vc P ev H K) : Pures P o a H K := by
  obtain ⟨s, hx, h⟩ := stringV_spec (withEv hev (withEv hev h))
  obtain ⟨k, j, hj, h⟩ := intV_spec h
  obtain ⟨h0, h⟩ := h.out
  obtain ⟨b, hb, h⟩ := withO_spec h
  refine ⟨_, fun w => ?_, h⟩
  simp [execOp, ho, hx, hj, Instr.index, runs_underlying ht, asIntOf, h0, hb]
theorem boundV_spec {x : Option Operand} {d : Nat} {F : Int → Prop} (hev : Tells ev a) (h : boundV ev x d F) :
    ∃ n, F n ∧ ((x = none ∧ n = d) ∨ ∃ y k, x = some y ∧ a.eval y = .int k n) := by
  cases x with
  | none => exact ⟨d, h, .inl ⟨rfl, rfl⟩⟩
  | some y =>
    obtain ⟨k, n, hy, h⟩ := intV_spec (withEv hev h)
    exact ⟨n, h, .inr ⟨y, k, rfl, hy⟩⟩
theorem run_bound {k : IntKind} {i : Int} {y : Nat} {code : BoundsCode} (h0 : 0 ≤ i) (h1 : i ≤ y) (w : World) : (Instr.sliceBound (.int k i) y code).run P w = .ok i.toNat w := by
  simp [Instr.sliceBound, asIntOf, h0, h1]
theorem run_bounds {isS : Bool} {n c : Nat} {lo hi mx : Option Operand} {l h m : Int} (hl : (lo = none ∧ l = 0) ∨ ∃ y k, lo = some y ∧ a.eval y = .int k l)
    (hh : (hi = none ∧ h = n) ∨ ∃ y k, hi = some y ∧ a.eval y = .int k h) (hm : (mx = none ∧ m = c) ∨ ∃ y k, mx = some y ∧ a.eval y = .int k m)
    (h3 : mx.isSome = true → hi.isSome = true) (hb : 0 ≤ l ∧ l ≤ h ∧ h ≤ m ∧ m ≤ c) (w : World) :
    (Instr.sliceBounds isS n c (lo.map a.eval) (hi.map a.eval) (mx.map a.eval)).run P w = .ok (l.toNat, h.toNat, m.toNat) w := by
  obtain ⟨h1, h2, h4, h5⟩ := hb
  unfold Instr.sliceBounds
  rcases hm with ⟨rfl, rfl⟩ | ⟨ym, km, rfl, em⟩
  · rcases hh with ⟨rfl, rfl⟩ | ⟨yh, kh, rfl, eh⟩ <;> rcases hl with ⟨rfl, rfl⟩ | ⟨yl, kl, rfl, el⟩ <;>
      simp only [Option.map_none, Option.map_some, Option.isSome_none, Sem.run_bind, Sem.run_pure, Result.andThen_ok, *]
    · rfl
    · rw [run_bound h1 (by omega)]; rfl
    · rw [run_bound (by omega) (by omega)]; rfl
    · rw [run_bound (by omega) (by omega)]; simp only [Result.andThen_ok]; rw [run_bound h1 (by omega)]; rfl
  · rcases hh with ⟨rfl, rfl⟩ | ⟨yh, kh, rfl, eh⟩
    · exact absurd (h3 rfl) (by simp)
    · rcases hl with ⟨rfl, rfl⟩ | ⟨yl, kl, rfl, el⟩ <;> simp only [Option.map_none, Option.map_some, Option.isSome_some, Sem.run_bind, Sem.run_pure, Result.andThen_ok, *]
      · rw [run_bound (by omega) (by omega)]; simp only [Result.andThen_ok]; rw [run_bound (by omega) (by omega)]; rfl
      · rw [run_bound (by omega) (by omega)]; simp only [Result.andThen_ok]; rw [run_bound (by omega) (by omega)]; simp only [Result.andThen_ok]; rw [run_bound h1 (by omega)]; rfl
theorem pure_slice {t e : TypeId} {x : Operand} {lo hi mx : Option Operand} (hev : Tells ev a) (ho : o.op = .slice t x lo hi mx) (ht : P.underlying t = some (.slice e)) (hie : (P.info? e).isSome = true)
    (h3 : mx.isSome = true → hi.isSome = true) (h : (Iop.slice (P.cellsOf e) x lo hi mx).vc P ev H K) : Pures P o a H K := by
  obtain ⟨ad, n, c, hx, h⟩ := sliceV_spec (withEv hev h)
  obtain ⟨m, h, hm⟩ := boundV_spec hev h
  obtain ⟨hh, h, hhi⟩ := boundV_spec hev h
  obtain ⟨l, h, hlo⟩ := boundV_spec hev h
  obtain ⟨hb, h⟩ := h.out
  refine ⟨_, fun w => ?_, h⟩
  have hr := run_bounds (P := P) (isS := true) (n := n) (c := c) hlo hhi hm h3 hb w
  simp only [execOp, ho, Instr.sliceAt, Sem.run_bind, runs_underlying ht, Result.andThen_ok, Instr.slice, hx, hr, runs_sizeOf hie, Sem.run_pure]
  by_cases hml : m = l
  · subst hml; simp
  · rw [if_neg hml, if_neg (by omega)]
theorem pure_sliceS {t : TypeId} {x : Operand} {lo hi : Option Operand} (hev : Tells ev a) (ho : o.op = .slice t x lo hi none) (ht : P.underlying t = some .string)
    (h : (Iop.sliceS x lo hi).vc P ev H K) : Pures P o a H K := by
  obtain ⟨s, hx, h⟩ := stringV_spec (withEv hev h)
  obtain ⟨hh, h, hhi⟩ := boundV_spec hev h
  obtain ⟨l, h, hlo⟩ := boundV_spec hev h
  obtain ⟨hb, h⟩ := h.out
  refine ⟨_, fun w => ?_, h⟩
  have hr := run_bounds (P := P) (isS := false) (n := s.size) (c := s.size) (m := s.size) (mx := none) hlo hhi (.inl ⟨rfl, rfl⟩) (by simp) ⟨hb.1, hb.2.1, hb.2.2, Int.le_refl _⟩ w
  simp only [Option.map_none] at hr
  simp only [execOp, ho, Instr.sliceAt, Sem.run_bind, runs_underlying ht, Result.andThen_ok, Instr.slice, hx, hr, Sem.run_pure, Option.map_none, Option.isSome_none, Bool.false_eq_true, if_false]
theorem splice_foldl (vs : List Value) : ∀ (n off : Nat) (z : Array Value), ((vs.zipIdx n).foldl (fun cs (c, j) => cs.setIfInBounds (off + j) c) z).toList = splice z.toList (off + n) vs := by
  induction vs with
  | nil => intro n off z; rfl
  | cons v vs ih =>
    intro n off z
    rw [List.zipIdx_cons, List.foldl_cons, splice_cons]
    have := ih (n + 1) off (z.setIfInBounds (off + n) v)
    rw [this]
    simp [Nat.add_assoc]
theorem fill_eq {place : Nat → Option (Nat × Nat)} : ∀ (ps : List (Nat × Operand)) (qs : List (Nat × Nat × Operand)) (z : Array Value) (F : List Value → Prop),
    List.length ps = List.length qs → (∀ (j i : Nat) (x : Operand), ps[j]? = some (i, x) → ∃ off size : Nat, qs[j]? = some (off, size, x) ∧ place i = some (off, size) ∧ off + size ≤ z.size) → Tells ev a → fillV ev z.toList qs F →
      ∃ z' : Array Value, Instr.fill place z (ps.map fun (i, x) => (i, a.eval x)) = some z' ∧ F z'.toList := by
  intro ps
  induction ps with
  | nil =>
    intro qs z F hl hp hev h
    cases qs with
    | nil => exact ⟨z, rfl, h⟩
    | cons q qs => simp at hl
  | cons p ps ih =>
    intro qs z F hl hp hev h
    obtain ⟨i, x⟩ := p
    cases qs with
    | nil => simp at hl
    | cons q qs =>
      obtain ⟨off, size, hq, hpl, hle⟩ := hp 0 i x rfl
      simp only [List.getElem?_cons_zero, Option.some.injEq] at hq
      subst hq
      obtain ⟨hn, h⟩ := (withEv hev h).out
      have hsz : (a.eval x).cells.size = size := by rw [← hn, ← vcells_eq]; simp
      rw [List.map_cons, Instr.fill]
      simp only [hpl, hsz, ne_eq, not_true_eq_false, decide_false, Bool.false_or, decide_eq_true_eq]
      rw [if_neg (by omega)]
      have hfold : ((a.eval x).cells.zipIdx.foldl (fun cs (c, j) => cs.setIfInBounds (off + j) c) z).toList = splice z.toList off (vcells (a.eval x)) := by
        have := splice_foldl (a.eval x).cells.toList 0 off z
        rw [vcells_eq] at this
        rw [← Array.foldl_toList, Array.toList_zipIdx, vcells_eq]
        simpa using this
      refine ih qs _ F (by simpa using hl) (fun j i' x' hj => ?_) hev (by rw [hfold]; exact h)
      obtain ⟨off', size', hq', hpl', hle'⟩ := hp (j + 1) i' x' (by simpa using hj)
      refine ⟨off', size', by simpa using hq', hpl', ?_⟩
      have : ((a.eval x).cells.zipIdx.foldl (fun cs (c, j) => cs.setIfInBounds (off + j) c) z).size = z.size := by
        rw [← Array.length_toList, hfold, length_splice, Array.length_toList]
      rw [this]; exact hle'
end
end Go.Vc

namespace Go.Vc
section
variable {P : Program} {o : Oper} {a : Act} {ev : Ev} {H : Hp} {K : Value → Hp → Prop}
theorem partsBy_spec {place : Nat → Option (Nat × Nat)} {zlen : Nat} : ∀ (ps : List (Nat × Operand)) (qs : List (Nat × Nat × Operand)), partsBy place zlen ps = some qs →
    ps.length = qs.length ∧ ∀ (j i : Nat) (x : Operand), ps[j]? = some (i, x) → ∃ off size : Nat, qs[j]? = some (off, size, x) ∧ place i = some (off, size) ∧ off + size ≤ zlen := by
  intro ps
  induction ps with
  | nil => intro qs h; simp only [partsBy, Option.some.injEq] at h; subst h; simp
  | cons p ps ih =>
    intro qs h
    obtain ⟨i, x⟩ := p
    unfold partsBy at h
    split at h
    · cases h
    · rename_i off size hpl
      split at h
      · rename_i hle
        cases hr : partsBy place zlen ps with
        | none => rw [hr] at h; cases h
        | some qs' =>
          rw [hr] at h
          simp only [Option.map_some, Option.some.injEq] at h
          subst h
          obtain ⟨h1, h2⟩ := ih qs' hr
          refine ⟨by simp [h1], fun j i' x' hj => ?_⟩
          cases j with
          | zero =>
            simp only [List.getElem?_cons_zero, Option.some.injEq, Prod.mk.injEq] at hj
            obtain ⟨rfl, rfl⟩ := hj
            exact ⟨off, size, rfl, hpl, hle⟩
          | succ j => exact h2 j i' x' (by simpa using hj)
      · cases h
theorem runs_places (fs : List Field) (h : ∀ f ∈ fs, (P.info? f.type).isSome = true) (w : World) :
    (fs.mapM fun f => (do pure (f.offset, ← sizeOf f.type) : Sem (Nat × Nat))).run P w = .ok (fs.map fun f => (f.offset, P.cellsOf f.type)) w := by
  induction fs with
  | nil => rfl
  | cons f fs ih =>
    rw [List.mapM_cons]
    simp only [Sem.run_bind, runs_sizeOf (h f List.mem_cons_self), Result.andThen_ok, Sem.run_pure, ih fun g hg => h g (List.mem_cons_of_mem _ hg), List.map_cons]
theorem pairs_eq (ps : Array (Nat × Operand)) : (ps.map fun (i, x) => (i, a.eval x)).toList = ps.toList.map fun (i, x) => (i, a.eval x) := by simp
theorem pure_build {t : TypeId} {z : Value} {ps : Array (Nat × Operand)} {qs : List (Nat × Nat × Operand)} (hev : Tells ev a) (ho : o.op = .build t ps) (hz : zeroT P t = some z)
    (hq : parts P t (vcells z).length ps.toList = some qs) (h : (Iop.build (vcells z) qs).vc P ev H K) : Pures P o a H K := by
  have hzc : z.cells.toList = vcells z := vcells_eq z
  have hzs : z.cells.size = (vcells z).length := by rw [← hzc]; simp
  unfold parts at hq
  split at hq
  · rename_i fields hu
    split at hq
    · rename_i hk
      obtain ⟨h1, h2⟩ := partsBy_spec _ _ hq
      obtain ⟨z', hf, hk'⟩ := fill_eq (a := a) (ev := ev) (place := ((placeOf P fields)[·]?)) ps.toList qs z.cells (fun l => K (.agg l.toArray) H) h1
        (fun j i x hj => by obtain ⟨off, size, e1, e2, e3⟩ := h2 j i x hj; exact ⟨off, size, e1, e2, by omega⟩) hev (by rw [hzc]; exact h)
      refine ⟨.agg z', fun w => ?_, by simpa using hk'⟩
      have hpl : (fields.mapM fun f => (do pure (f.offset, ← sizeOf f.type) : Sem (Nat × Nat))).run P w = .ok (placeOf P fields) w := by
        rw [Array.mapM_eq_mapM_toList, Sem.run_map, runs_places fields.toList (fun f hf => by
          have := (Array.all_eq_true_iff_forall_mem.1 hk) f (by simpa using hf); exact this) w]
        simp only [Result.andThen_ok]
        congr 1
        apply Array.ext'
        simp [placeOf]
      simp only [execOp, ho, Instr.build, Sem.run_bind, runs_zeroValue hz, runs_underlying hu, Result.andThen_ok, hpl, pairs_eq, hf, Sem.run_pure]
    · cases hq
  · rename_i n e hu
    split at hq
    · rename_i hi
      obtain ⟨h1, h2⟩ := partsBy_spec _ _ hq
      obtain ⟨z', hf, hk'⟩ := fill_eq (a := a) (ev := ev) (place := fun i => some (i * P.cellsOf e, P.cellsOf e)) ps.toList qs z.cells (fun l => K (.agg l.toArray) H) h1
        (fun j i x hj => by obtain ⟨off, size, e1, e2, e3⟩ := h2 j i x hj; exact ⟨off, size, e1, e2, by omega⟩) hev (by rw [hzc]; exact h)
      refine ⟨.agg z', fun w => ?_, by simpa using hk'⟩
      simp only [execOp, ho, Instr.build, Sem.run_bind, runs_zeroValue hz, runs_underlying hu, Result.andThen_ok, runs_sizeOf hi, pairs_eq, hf, Sem.run_pure]
    · cases hq
  · cases hq
theorem zeros_eq {z : Array Value} {n size : Nat} (hs : z.size = size) (h0 : size ≠ 0) : ((Array.range (n * size)).map (z[· % z.size]!)).toList = padZ z.toList n := by
  subst hs
  induction n with
  | zero => simp [padZ]
  | succ n ih =>
    apply List.ext_getElem?
    intro i
    have hp : padZ z.toList (n + 1) = padZ z.toList n ++ z.toList := by simp [padZ, List.replicate_succ']
    have hlen : (padZ z.toList n).length = n * z.size := by rw [← ih]; simp
    rw [hp]
    by_cases hi : i < n * z.size
    · rw [List.getElem?_append_left (by omega), ← ih]
      have : i < (n + 1) * z.size := by rw [Nat.add_mul]; omega
      simp [hi, this]
    · rw [List.getElem?_append_right (by omega), hlen]
      by_cases hi2 : i < (n + 1) * z.size
      · have hi3 : i - n * z.size < z.size := by rw [Nat.add_mul] at hi2; omega
        have hmod : i % z.size = i - n * z.size := by
          have e : i = (i - n * z.size) + z.size * n := by rw [Nat.mul_comm z.size n]; omega
          rw [e, Nat.add_mul_mod_self_left, Nat.mod_eq_of_lt hi3]
          rw [Nat.mul_comm z.size n]; omega
        simp [hi2, hmod, hi3]
      · have : z.size ≤ i - n * z.size := by rw [Nat.add_mul] at hi2; omega
        simp [hi2, this]
theorem length_padZ (z : List Value) (n : Nat) : (padZ z n).length = n * z.length := by simp [padZ]
theorem does_lit {t e : TypeId} {n : Nat} {z : Value} {ps : Array (Nat × Operand)} {qs : List (Nat × Nat × Operand)} (hev : Tells ev a) (ho : o.op = .buildSlice t n ps) (ht : P.underlying t = some (.slice e))
    (hz : zeroT P e = some z) (hi : (P.info? e).isSome = true) (h0 : P.cellsOf e ≠ 0) (hl : (vcells z).length = P.cellsOf e) (hm : n * P.cellsOf e ≤ 2 ^ 24)
    (hq : partsBy (fun i => some (i * P.cellsOf e, P.cellsOf e)) (n * P.cellsOf e) ps.toList = some qs) (h : (Iop.lit e n (padZ (vcells z) n) qs).vc P ev H K) : Does P o a H K := by
  have hzc : z.cells.toList = vcells z := vcells_eq z
  have hzs : z.cells.size = P.cellsOf e := by rw [← hl, ← hzc]; simp
  intro w hw
  subst hw
  obtain ⟨h1, h2⟩ := partsBy_spec _ _ hq
  have hrow : ∀ (zz : Array Value), (n * P.cellsOf e = 0 ∨ zz = z.cells) → ((Array.range (n * P.cellsOf e)).map (zz[· % zz.size]!)).toList = padZ (vcells z) n := by
    intro zz hzz
    rcases hzz with hzz | rfl
    · have : n = 0 := by
        rcases Nat.mul_eq_zero.1 hzz with h | h
        · exact h
        · exact absurd h h0
      subst this
      simp [padZ]
    · rw [zeros_eq hzs h0, hzc]
  have main : ∀ zz : Array Value, (n * P.cellsOf e = 0 ∨ zz = z.cells) → ∃ z' : Array Value, Instr.fill (fun i => some (i * P.cellsOf e, P.cellsOf e)) ((Array.range (n * P.cellsOf e)).map (zz[· % zz.size]!)) (ps.toList.map fun (i, x) => (i, a.eval x)) = some z' ∧
      K (.slice (some ⟨w.heap.size, 0, none⟩) n n) (Hp.new w.heap e z'.toList) := by
    intro zz hzz
    exact fill_eq (a := a) (ev := ev) ps.toList qs _ (fun l => K (.slice (some ⟨w.heap.size, 0, none⟩) n n) (Hp.new w.heap e l)) h1
      (fun j i x hj => by obtain ⟨off, size, e1, e2, e3⟩ := h2 j i x hj; exact ⟨off, size, e1, e2, by simpa using e3⟩) hev (by rw [hrow zz hzz]; exact h)
  by_cases hn : n * P.cellsOf e = 0
  · obtain ⟨z', hf, hk⟩ := main #[] (.inl hn)
    refine .inl ⟨.slice (some ⟨w.heap.size, 0, none⟩) n n, { w with heap := Hp.new w.heap e z'.toList }, ?_, ⟨rfl, rfl⟩, hk⟩
    simp only [execOp, ho, Instr.buildSlice, Sem.run_bind, runs_underlying ht, runs_sizeOf hi, Result.andThen_ok]
    rw [if_neg (by omega), if_pos hn]
    simp only [Sem.run_pure, Result.andThen_ok, Sem.run_bind, pairs_eq, hf, runs_newRow]
  · obtain ⟨z', hf, hk⟩ := main z.cells (.inr rfl)
    refine .inl ⟨.slice (some ⟨w.heap.size, 0, none⟩) n n, { w with heap := Hp.new w.heap e z'.toList }, ?_, ⟨rfl, rfl⟩, hk⟩
    simp only [execOp, ho, Instr.buildSlice, Sem.run_bind, runs_underlying ht, runs_sizeOf hi, Result.andThen_ok]
    rw [if_neg (by omega), if_neg hn]
    simp only [Sem.run_pure, Result.andThen_ok, Sem.run_bind, runs_zeroValue hz, pairs_eq, hf, runs_newRow]
theorem does_box {t : TypeId} {x : Operand} (hev : Tells ev a) (ho : o.op = .box t x) (h : (Iop.box t x).vc P ev H K) : Does P o a H K := by
  intro w hw
  subst hw
  have h := withEv hev h
  refine .inl ⟨_, { w with heap := Hp.new w.heap t (vcells (a.eval x)) }, ?_, ⟨rfl, rfl⟩, h⟩
  simp [execOp, ho, Instr.box, runs_newVar]
theorem does_zero {t : TypeId} {z : Value} (hz : zeroT P t = some z) (ho : o.op = .alloc t) (h : (Iop.zero t (vcells z)).vc P ev H K) : Does P o a H K := by
  intro w hw
  subst hw
  refine .inl ⟨_, { w with heap := Hp.new w.heap t (vcells z) }, ?_, ⟨rfl, rfl⟩, h⟩
  simp [execOp, ho, Instr.alloc, runs_newVar, runs_zeroValue hz]
theorem does_load1 {t : TypeId} {x : Operand} (hev : Tells ev a) (ho : o.op = .load t x) (hi : (P.info? t).isSome = true) (hu : (P.underlying t).isSome = true) (hg : isAggT P t = false)
    (h : (Iop.load1 x).vc P ev H K) : Does P o a H K := by
  intro w hw
  subst hw
  obtain ⟨b, off, hx, h⟩ := ptrV_spec (withEv hev h)
  obtain ⟨l, hl, h⟩ := withO_spec h
  obtain ⟨v, hv, h⟩ := withO_spec h
  refine .inl ⟨v, w, ?_, Same.refl w, h⟩
  simp [execOp, ho, Instr.loadAt, hx, Instr.sureAddr, (runs_loadVar hi hu hl).2 hg v hv]
theorem does_loadN {t : TypeId} {x : Operand} (hev : Tells ev a) (ho : o.op = .load t x) (hi : (P.info? t).isSome = true) (hu : (P.underlying t).isSome = true) (hg : isAggT P t = true)
    (h : (Iop.loadN (P.cellsOf t) x).vc P ev H K) : Does P o a H K := by
  intro w hw
  subst hw
  obtain ⟨b, off, hx, h⟩ := ptrV_spec (withEv hev h)
  obtain ⟨l, hl, h⟩ := withO_spec h
  obtain ⟨hn, h⟩ := h.out
  refine .inl ⟨_, w, ?_, Same.refl w, h⟩
  simp only [execOp, ho, Instr.loadAt, hx, Instr.sureAddr, Sem.run_bind, Sem.run_pure, Result.andThen_ok, (runs_loadVar hi hu hl).1 hg hn]
theorem does_store {t : TypeId} {x y : Operand} (hev : Tells ev a) (ho : o.op = .store t x y) (hi : (P.info? t).isSome = true) (h0 : P.cellsOf t ≠ 0)
    (h : (Iop.store (P.cellsOf t) x y).vc P ev H K) : Does P o a H K := by
  intro w hw
  subst hw
  obtain ⟨b, off, hx, h⟩ := ptrV_spec (withEv hev h)
  obtain ⟨l, hl, h⟩ := withO_spec (withEv hev h)
  obtain ⟨h1, h⟩ := h.out
  obtain ⟨h2, h⟩ := h.out
  obtain ⟨h3, h⟩ := h.out
  obtain ⟨w', hr, hs, hh⟩ := runs_storeVar (v := a.eval y) hi h0 hl h1 (allOne_of h2) h3
  refine .inr (.inl ⟨w', ?_, hs, hh ▸ h⟩)
  simp [execOp, ho, Instr.storeAt, hx, Instr.sureAddr, hr]
theorem does_newMap {t : TypeId} (ho : o.op = .makeMap t none) (h : Iop.newMap.vc P ev H K) : Does P o a H K := by
  intro w hw
  subst hw
  refine .inl ⟨_, { w with heap := Hp.newm w.heap }, ?_, ⟨rfl, rfl⟩, h⟩
  simp only [execOp, ho, Option.map_none, Instr.makeMap, Sem.run_bind, Sem.run_pure, Result.andThen_ok, run_newObj, Hp.newm]
theorem wrap_i64 {n : Int} (h0 : 0 ≤ n) (h1 : n ≤ 2 ^ 62) : IntKind.i64.wrap n = n := by
  have e : (2 ^ IntKind.i64.bits : Int) = 18446744073709551616 := rfl
  have e' : (2 ^ (IntKind.i64.bits - 1) : Int) = 9223372036854775808 := rfl
  unfold IntKind.wrap
  simp only [e, e', IntKind.signed, Bool.true_and, decide_eq_true_eq]
  split <;> omega
theorem does_makeSlice {t e : TypeId} {z : Value} {x y : Operand} (hev : Tells ev a) (ho : o.op = .makeSlice t x y) (ht : P.underlying t = some (.slice e)) (hz : zeroT P e = some z)
    (hi : (P.info? e).isSome = true) (h0 : P.cellsOf e ≠ 0) (hl : (vcells z).length = P.cellsOf e) (h : (Iop.makeSlice e (P.bytesOf e) (P.cellsOf e) (vcells z) x y).vc P ev H K) : Does P o a H K := by
  intro w hw
  subst hw
  have h := withEv hev (withEv hev h)
  obtain ⟨k, n, hx, h⟩ := intV_spec h
  obtain ⟨k', c, hy, h⟩ := intV_spec h
  obtain ⟨⟨h1, h2, h3, h4⟩, h⟩ := h.out
  refine .inl ⟨_, { w with heap := Hp.new w.heap e (padZ (vcells z) c.toNat) }, ?_, ⟨rfl, rfl⟩, h⟩
  obtain ⟨i, hi'⟩ := Option.isSome_iff_exists.1 hi
  have hb : i.bytes = P.bytesOf e := by simp [Program.bytesOf, hi']
  have hzc : z.cells.toList = vcells z := vcells_eq z
  have hzs : z.cells.size = P.cellsOf e := by rw [← hl, ← hzc]; simp
  have w1 := wrap_i64 h1 (by omega : n ≤ 2 ^ 62)
  have w2 := wrap_i64 (by omega : 0 ≤ c) (by omega : c ≤ 2 ^ 62)
  simp only [execOp, ho, Instr.makeSlice, Sem.run_bind, runs_underlying ht, Result.andThen_ok, hx, hy, asInt, asIntOf, Sem.run_pure, runs_typeInfo hi', hb, w1, w2, run_askRoom, runs_sizeOf hi]
  have t1 : (decide (c < 0) || decide ((P.bytesOf e : Int) * c > 2 ^ 48)) = false := by simp; omega
  rw [if_neg (by simp only [t1, Bool.false_eq_true, false_or, Bool.or_eq_true, decide_eq_true_eq]; omega)]
  simp only [Sem.run_bind, run_askRoom, Result.andThen_ok, runs_sizeOf hi]
  by_cases hn : c.toNat * P.cellsOf e = 0
  · have hc0 : c.toNat = 0 := by rcases Nat.mul_eq_zero.1 hn with h | h; exact h; exact absurd h h0
    rw [if_pos hn]
    simp only [hc0, Nat.zero_mul, Sem.run_bind, Sem.run_pure, Result.andThen_ok, runs_newRow]
    simp [padZ]
  · rw [if_neg hn]
    simp only [Sem.run_bind, runs_zeroValue hz, Sem.run_pure, Result.andThen_ok, runs_newRow, zeros_eq hzs h0, hzc]
theorem mp_spec {H : Hp} {b : Nat} {x : List MapEntry × Nat} (h : H.mp b = some x) : ∃ es : Array MapEntry, H[b]? = some (.map es x.2) ∧ es.toList = x.1 := by
  unfold Hp.mp at h
  split at h
  · rename_i es k hb; injection h with h; exact ⟨es, by rw [hb, ← h], by rw [← h]⟩
  · cases h
theorem runs_getMap {w : World} {b : Nat} {es : Array MapEntry} {k : Nat} (h : w.heap[b]? = some (.map es k)) : (getObj b).run P w = .ok (.map es k) w := by simp [getObj, Sem.run, h]
theorem runs_setMap {w : World} {b : Nat} {es es' : Array MapEntry} {k k' : Nat} (h : w.heap[b]? = some (.map es k)) :
    (setObj b (.map es' k')).run P w = .ok () { w with heap := Hp.wrm w.heap b es'.toList k' } := by
  simp [setObj, Sem.run, h, Hp.wrm]
theorem keyShape_simple {t : TypeId} {s : Shape} (h : keyShape P t = some s) (hs : ∀ fs, s ≠ .s fs) : shapeOf P depthT t = some s ∧ keyPart s = true := by
  unfold keyShape at h
  split at h
  · injection h with h; subst h; simp [shapeOf, depthT, *, keyPart]
  · injection h with h; subst h; simp [shapeOf, depthT, *, keyPart]
  · injection h with h; subst h; simp [shapeOf, depthT, *, keyPart]
  · split at h
    · split at h
      · injection h with h; exact absurd h.symm (hs _)
      · cases h
    · cases h
  · cases h
theorem keyShape_shape {t : TypeId} {s : Shape} (h : keyShape P t = some s) : shapeOf P depthT t = some s := by
  by_cases hs : ∃ fs, s = .s fs
  · obtain ⟨fs, rfl⟩ := hs
    unfold keyShape at h
    split at h
    · cases h
    · cases h
    · cases h
    · split at h
      · split at h
        · injection h with h; injection h with h; subst h; assumption
        · cases h
      · cases h
    · cases h
  · exact (keyShape_simple h fun fs e => hs ⟨fs, e⟩).1
theorem run_checkSimple {d : Nat} {t : TypeId} {s : Shape} (h : shapeOf P d t = some s) (hk : keyPart s = true) (v : Value) (e : Bool) (n : Nat) (w : World) : (Instr.checkKey e (n + 1) t v).run P w = .ok () w := by
  cases d with
  | zero => simp [shapeOf] at h
  | succ d =>
    rw [shapeOf_succ] at h
    split at h
    · injection h with h; subst h; simp [Instr.checkKey, runs_underlying ‹P.underlying t = _›]
    · injection h with h; subst h; simp [Instr.checkKey, runs_underlying ‹P.underlying t = _›]
    · injection h with h; subst h; simp [Instr.checkKey, runs_underlying ‹P.underlying t = _›]
    case h_9 => split at h
                · cases h
                · rename_i fs _ _
                  cases hr : shapesOf P d fs.toList with
                  | none => rw [hr] at h; cases h
                  | some l => rw [hr] at h; injection h with h; subst h; simp [keyPart] at hk
    all_goals first | (cases h; done) | (injection h with h; subst h; simp [keyPart] at hk)
theorem run_checkFields {d : Nat} (e : Bool) (n : Nat) (xs : List Value) : ∀ (fs : List Field) (l : List (Nat × Option Nat × Shape)), shapesOf P d fs = some l →
    (l.all fun (off, agg, sh) => agg.isNone && keyPart sh) = true → (∀ q ∈ l, (xs[q.1]?).isSome = true) → ∀ w : World,
    (forIn fs PUnit.unit fun f (_ : PUnit) => (do
      if f.name ≠ "_" then Instr.checkKey e (n + 1) f.type (← part f.type xs.toArray f.offset)
      pure (ForInStep.yield PUnit.unit) : Sem (ForInStep PUnit))).run P w = .ok PUnit.unit w := by
  intro fs
  induction fs with
  | nil => intro l _ _ _ w; simp
  | cons f fs ih =>
    intro l hl ha hx w
    rw [shapesOf_cons] at hl
    split at hl
    · cases hl
    · rename_i hname
      split at hl
      · cases hl
      · rename_i sh hsh
        cases hr : shapesOf P d fs with
        | none => rw [hr] at hl; cases hl
        | some l' =>
          rw [hr] at hl
          simp only [Option.map_some, Option.some.injEq] at hl
          subst hl
          rw [List.all_cons] at ha
          simp only [Bool.and_eq_true] at ha
          obtain ⟨⟨h1, h2⟩, h3⟩ := ha
          have hagg : isAggT P f.type = false := by
            cases hb : isAggT P f.type
            · rfl
            · simp [hb] at h1
          obtain ⟨v, hv⟩ := Option.isSome_iff_exists.1 (hx _ List.mem_cons_self)
          have hu : (P.underlying f.type).isSome = true := by
            cases d with
            | zero => simp [shapeOf] at hsh
            | succ d => rw [shapeOf_succ] at hsh; split at hsh <;> first | (cases hsh; done) | simp_all
          have hp := runs_part (P := P) (l := xs) (t := f.type) (off := f.offset) (v := v) (info_of_underlying hu) hu (by rw [hagg]; simpa [partL] using hv) w
          simp only [List.forIn_cons, hname, ne_eq, not_false_eq_true, if_true, Sem.run_bind, hp, Result.andThen_ok, run_checkSimple hsh h2, Sem.run_pure]
          exact ih l' hr h3 (fun q hq => hx q (List.mem_cons_of_mem _ hq)) w
theorem run_checkKey_n {t : TypeId} {s : Shape} {k : Value} (h : keyShape P t = some s) (hk : keyOk s k = true) (e : Bool) (n : Nat) (w : World) : (Instr.checkKey e (n + 1 + 1) t k).run P w = .ok () w := by
  by_cases hs : ∃ fs, s = .s fs
  · obtain ⟨l, rfl⟩ := hs
    have h' := h
    unfold keyShape at h
    split at h
    · cases h
    · cases h
    · cases h
    · rename_i fs hu
      split at h
      · split at h
        · rename_i l' hsh hall
          injection h with h; injection h with h; subst h
          cases k with
          | agg xs =>
            simp only [show depthT = 7 + 1 from rfl, shapeOf_succ, hu] at hsh
            split at hsh
            · cases hsh
            · cases hr : shapesOf P 7 fs.toList with
              | none => rw [hr] at hsh; cases hsh
              | some l =>
                rw [hr] at hsh
                simp only [Option.map_some, Option.some.injEq, Shape.s.injEq] at hsh
                subst hsh
                rw [Instr.checkKey]
                simp only [Sem.run_bind, runs_underlying hu, Result.andThen_ok]
                rw [← Array.forIn_toList]
                have := run_checkFields (P := P) e n xs.toList fs.toList l hr hall (fun q hq => by
                  have h1 := (List.all_eq_true.1 hk) q hq
                  obtain ⟨off, agg, sh⟩ := q
                  simp only [Bool.and_eq_true] at h1
                  have h2 := h1.2
                  cases hx : (xs.toList)[off]? with
                  | none => rw [show xs[off]? = none by simpa using hx] at h2; cases sh <;> simp at h2
                  | some v => rfl) w
                simp only [Array.toArray_toList] at this
                rw [this]
                rfl
          | _ => simp [keyOk] at hk
        · cases h
      · cases h
    · cases h
  · obtain ⟨h1, h2⟩ := keyShape_simple h fun fs e => hs ⟨fs, e⟩
    exact run_checkSimple h1 h2 k e (n + 1) w
theorem run_checkKey_ok {t : TypeId} {s : Shape} {k : Value} (h : keyShape P t = some s) (hk : keyOk s k = true) (e : Bool) (w : World) : (Instr.checkKey e 10000 t k).run P w = .ok () w :=
  run_checkKey_n h hk e 9998 w
theorem run_findAsking {t : TypeId} {s : Shape} {k : Value} (h : shapeOf P depthT t = some s) : ∀ (es : List MapEntry) (i : Nat) (r : Option (Nat × Value)), findK s k es i = some r → ∀ w : World,
    (Instr.findAsking t k es i).run P w = .ok r w := by
  intro es
  induction es with
  | nil => intro i r hr w; simp only [findK, Option.some.injEq] at hr; subst hr; rfl
  | cons e es ih =>
    intro i r hr w
    unfold findK at hr
    have he : ∀ b, eqV s k e.key = some b → (Op.equal t k e.key).run P w = .ok b w := by
      intro b hb
      unfold Op.equal Op.maxDepth
      have := (runs_equalIn (P := P) depthT).1 t s k e.key b h hb (10000 - depthT) w
      simpa [depthT] using this
    split at hr
    · rename_i hb
      injection hr with hr; subst hr
      simp [Instr.findAsking, he true hb]
    · rename_i hb
      simp [Instr.findAsking, he false hb, ih (i + 1) r hr w]
    · cases hr
theorem findNow_of_findK {d : TypeDesc} {s : Shape} {k : Value} (hd : (∃ q, d = .int q ∧ s = .int) ∨ (d = .string ∧ s = .str) ∨ (d = .bool ∧ s = .bool)) : ∀ (es : List MapEntry) (i : Nat) (r : Option (Nat × Value)),
    findK s k es i = some r → Instr.findNow d k es i = some r := by
  intro es
  induction es with
  | nil => intro i r hr; simpa [findK, Instr.findNow] using hr
  | cons e es ih =>
    intro i r hr
    unfold findK at hr
    unfold Instr.findNow
    have hsame : ∀ b, eqV s k e.key = some b → Instr.sameNow d k e.key = some b := by
      intro b hb
      rcases hd with ⟨q, rfl, rfl⟩ | ⟨rfl, rfl⟩ | ⟨rfl, rfl⟩
      · cases k <;> cases hk : e.key <;> simp only [hk, eqV, simpleEq] at hb <;> first | (cases hb; done) | skip
        exact hb
      · cases k <;> cases hk : e.key <;> simp only [hk, eqV, simpleEq] at hb <;> first | (cases hb; done) | skip
        simpa [Instr.sameNow, beq_toListBytes] using hb
      · cases k <;> cases hk : e.key <;> simp only [hk, eqV, simpleEq] at hb <;> first | (cases hb; done) | skip
        simpa [Instr.sameNow] using hb
    split at hr
    · rename_i hb; rw [hsame true hb]; exact hr
    · rename_i hb; rw [hsame false hb]; exact ih _ _ hr
    · cases hr
theorem run_findKey_ok {t : TypeId} {s : Shape} {k : Value} {es : List MapEntry} {r : Option (Nat × Value)} (h : keyShape P t = some s) (hr : findK s k es 0 = some r) (w : World) :
    (Instr.findKey t k es).run P w = .ok r w := by
  have hsh := keyShape_shape h
  unfold Instr.findKey
  have hu : ∃ d, P.underlying t = some d := by
    unfold keyShape at h
    split at h <;> first | exact ⟨_, ‹_›⟩ | cases h
  obtain ⟨d, hu⟩ := hu
  simp only [Sem.run_bind, runs_underlying hu, Result.andThen_ok]
  by_cases hs : ∃ fs, s = .s fs
  · obtain ⟨l, rfl⟩ := hs
    have hd : ∃ fs, d = .struct fs := by
      unfold keyShape at h
      rw [hu] at h
      split at h
      · cases h
      · cases h
      · cases h
      · rename_i he; injection he with he; exact ⟨_, he⟩
      · cases h
    obtain ⟨fs, rfl⟩ := hd
    cases es with
    | nil => simp only [findK, Option.some.injEq] at hr; subst hr; rfl
    | cons e es =>
      have : Instr.findNow (.struct fs) k (e :: es) 0 = none := by simp [Instr.findNow, Instr.sameNow]
      rw [this]
      exact run_findAsking hsh _ _ _ hr w
  · have hd : (∃ q, d = .int q ∧ s = .int) ∨ (d = .string ∧ s = .str) ∨ (d = .bool ∧ s = .bool) := by
      unfold keyShape at h
      rw [hu] at h
      split at h
      · rename_i q he; injection he with he; injection h with h; exact .inl ⟨q, he, h.symm⟩
      · rename_i he; injection he with he; injection h with h; exact .inr (.inl ⟨he, h.symm⟩)
      · rename_i he; injection he with he; injection h with h; exact .inr (.inr ⟨he, h.symm⟩)
      · split at h
        · split at h
          · injection h with h; exact absurd ⟨_, h.symm⟩ hs
          · cases h
        · cases h
      · cases h
    rw [findNow_of_findK hd es 0 r hr]
    rfl
end
end Go.Vc
