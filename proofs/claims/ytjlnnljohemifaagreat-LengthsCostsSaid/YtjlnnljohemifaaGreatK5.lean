/-
  Texts put behind each other by a program: Op.
-/
import Derived.Test.YtjlnnljohemifaaGreatK4
import Derived.Laws.StructEq
set_option linter.unusedVariables false
namespace Go.Vc
attribute [go_sem] List.length_cons List.length_nil List.getElem?_cons_zero List.getElem?_cons_succ List.set_cons_zero List.set_cons_succ List.drop_zero List.drop_succ_cons
  List.take_zero List.take_succ_cons Bool.not_true Bool.not_false Bool.true_and Nat.zero_add
abbrev Ev := Operand → Option Value
inductive Shape where
  | int | str | bool | ptr | slc | mp | fn | ifc
  | s (fs : List (Nat × Option Nat × Shape))
  deriving Inhabited
def simpleEq : Shape → Value → Value → Option Bool
  | .int, .int k a, .int k' b => if k = k' then some (decide (a = b)) else none
  | .str, .string a, .string b => some (a.toList == b.toList)
  | .bool, .bool a, .bool b => some (a == b)
  | .ptr, .pointer none, .pointer b => some b.isNone
  | .ptr, .pointer (some _), .pointer none => some false
  | .slc, .slice none _ _, .slice b _ _ => some b.isNone
  | .slc, .slice (some _) _ _, .slice none _ _ => some false
  | .mp, .map none, .map b => some b.isNone
  | .mp, .map (some _), .map none => some false
  | .fn, .nilFunc, .nilFunc => some true
  | .fn, .func .., .nilFunc => some false
  | .fn, .nilFunc, .func .. => some false
  | .ifc, .nilIface, .iface .. => some false
  | .ifc, .iface .., .nilIface => some false
  | _, _, _ => none
def partL (l : List Value) (off : Nat) (agg : Option Nat) : Option Value :=
  match agg with
  | some n => if off + n ≤ l.length then some (.agg ((l.drop off).take n).toArray) else none
  | none => l[off]?
@[go_sem] theorem partL_none (l : List Value) (off : Nat) : partL l off none = l[off]? := (rfl)
@[go_sem] theorem partL_some (l : List Value) (off n : Nat) : partL l off (some n) = if off + n ≤ l.length then some (.agg ((l.drop off).take n).toArray) else none := (rfl)
mutual
def eqV : Shape → Value → Value → Option Bool
  | .s fs, .agg xs, .agg ys => eqVs fs xs.toList ys.toList
  | sh, x, y => simpleEq sh x y
def eqVs : List (Nat × Option Nat × Shape) → List Value → List Value → Option Bool
  | [], _, _ => some true
  | (off, agg, sh) :: fs, xs, ys =>
    match partL xs off agg with
    | none => none
    | some x =>
      match partL ys off agg with
      | none => none
      | some y =>
        match eqV sh x y with
        | some true => eqVs fs xs ys
        | some false => some false
        | none => none
end
def isAggT (P : Program) (t : TypeId) : Bool := match P.underlying t with | some (.struct _) | some (.array _ _) => true | _ => false
def shapesWith (P : Program) (sh : TypeId → Option Shape) : List Field → Option (List (Nat × Option Nat × Shape))
  | [] => some []
  | f :: fs =>
    if f.name = "_" then none else
    match sh f.type with
    | none => none
    | some s => (shapesWith P sh fs).map ((f.offset, (if isAggT P f.type then some (P.cellsOf f.type) else none), s) :: ·)
def shapeOf (P : Program) : Nat → TypeId → Option Shape
  | 0, _ => none
  | d + 1, t =>
    match P.underlying t with
    | some (.int _) => some .int
    | some .string => some .str
    | some .bool => some .bool
    | some (.pointer _) => some .ptr
    | some (.slice _) => some .slc
    | some (.map _ _) => some .mp
    | some (.func _ _ _) => some .fn
    | some (.interface _) => some .ifc
    | some (.struct fs) => if P.stoodInHeld t then none else (shapesWith P (shapeOf P d) fs.toList).map .s
    | _ => none
def shapesOf (P : Program) (d : Nat) (fs : List Field) : Option (List (Nat × Option Nat × Shape)) := shapesWith P (shapeOf P d) fs
theorem shapesOf_nil (P : Program) (d : Nat) : shapesOf P d [] = some [] := rfl
theorem shapesOf_cons (P : Program) (d : Nat) (f : Field) (fs : List Field) : shapesOf P d (f :: fs) =
    if f.name = "_" then none else
    match shapeOf P d f.type with
    | none => none
    | some s => (shapesOf P d fs).map ((f.offset, (if isAggT P f.type then some (P.cellsOf f.type) else none), s) :: ·) := rfl
theorem shapeOf_succ (P : Program) (d : Nat) (t : TypeId) : shapeOf P (d + 1) t =
    match P.underlying t with
    | some (.int _) => some .int
    | some .string => some .str
    | some .bool => some .bool
    | some (.pointer _) => some .ptr
    | some (.slice _) => some .slc
    | some (.map _ _) => some .mp
    | some (.func _ _ _) => some .fn
    | some (.interface _) => some .ifc
    | some (.struct fs) => if P.stoodInHeld t then none else (shapesOf P d fs.toList).map .s
    | _ => none := rfl
def binF (op : BinOp) (s : Shape) : Value → Value → Option Value
  | .int k a, .int k' b =>
    match op with
    | .shl => if b < 0 then none else some (.int k (k.wrap (a * 2 ^ (min b.toNat k.bits))))
    | .shr => if b < 0 then none else some (.int k (a.fdiv (2 ^ (min b.toNat k.bits))))
    | _ =>
      if k ≠ k' then none else
      match op with
      | .add => some (.int k (k.wrap (a + b)))
      | .sub => some (.int k (k.wrap (a - b)))
      | .mul => some (.int k (k.wrap (a * b)))
      | .quo => if b = 0 then none else some (.int k (k.wrap (a.tdiv b)))
      | .rem => if b = 0 then none else some (.int k (a.tmod b))
      | .and => some (.int k (k.wrap (BitVec.ofInt k.bits a &&& BitVec.ofInt k.bits b).toNat))
      | .or => some (.int k (k.wrap (BitVec.ofInt k.bits a ||| BitVec.ofInt k.bits b).toNat))
      | .xor => some (.int k (k.wrap (BitVec.ofInt k.bits a ^^^ BitVec.ofInt k.bits b).toNat))
      | .andNot => some (.int k (k.wrap (BitVec.ofInt k.bits a &&& ~~~ BitVec.ofInt k.bits b).toNat))
      | .eql => some (.bool (decide (a = b)))
      | .neq => some (.bool (!decide (a = b)))
      | .lss => some (.bool (decide (a < b)))
      | .leq => some (.bool (decide (a ≤ b)))
      | .gtr => some (.bool (decide (a > b)))
      | .geq => some (.bool (decide (a ≥ b)))
      | _ => none
  | .string x, .string y =>
    match op with
    | .add => if ((x.size + y.size : Nat) : Int) > IntKind.i64.max then none else some (.string (x ++ y))
    | .eql => some (.bool (x.toList == y.toList))
    | .neq => some (.bool (!(x.toList == y.toList)))
    | .lss => some (.bool (Op.bytesLess x.toList y.toList))
    | .leq => some (.bool (Op.bytesLess x.toList y.toList || x.toList == y.toList))
    | .gtr => some (.bool (!(Op.bytesLess x.toList y.toList || x.toList == y.toList)))
    | .geq => some (.bool (!Op.bytesLess x.toList y.toList))
    | _ => none
  | x, y =>
    match op with
    | .eql => (eqV s x y).map .bool
    | .neq => (eqV s x y).map fun b => .bool (!b)
    | _ => none
section
variable (s : Shape) (k : IntKind) (a b : Int)
@[go_sem] theorem binF_add : binF .add s (.int k a) (.int k b) = some (.int k (k.wrap (a + b))) := by simp [binF]
@[go_sem] theorem binF_sub : binF .sub s (.int k a) (.int k b) = some (.int k (k.wrap (a - b))) := by simp [binF]
@[go_sem] theorem binF_mul : binF .mul s (.int k a) (.int k b) = some (.int k (k.wrap (a * b))) := by simp [binF]
@[go_sem] theorem binF_quo : binF .quo s (.int k a) (.int k b) = if b = 0 then none else some (.int k (k.wrap (a.tdiv b))) := by simp [binF]
@[go_sem] theorem binF_rem : binF .rem s (.int k a) (.int k b) = if b = 0 then none else some (.int k (a.tmod b)) := by simp [binF]
@[go_sem] theorem binF_eql : binF .eql s (.int k a) (.int k b) = some (.bool (decide (a = b))) := by simp [binF]
@[go_sem] theorem binF_neq : binF .neq s (.int k a) (.int k b) = some (.bool (!decide (a = b))) := by simp [binF]
@[go_sem] theorem binF_lss : binF .lss s (.int k a) (.int k b) = some (.bool (decide (a < b))) := by simp [binF]
@[go_sem] theorem binF_leq : binF .leq s (.int k a) (.int k b) = some (.bool (decide (a ≤ b))) := by simp [binF]
@[go_sem] theorem binF_gtr : binF .gtr s (.int k a) (.int k b) = some (.bool (decide (a > b))) := by simp [binF]
@[go_sem] theorem binF_geq : binF .geq s (.int k a) (.int k b) = some (.bool (decide (a ≥ b))) := by simp [binF]
@[go_sem] theorem binF_and : binF .and s (.int k a) (.int k b) = some (.int k (k.wrap (BitVec.ofInt k.bits a &&& BitVec.ofInt k.bits b).toNat)) := by simp [binF]
@[go_sem] theorem binF_or : binF .or s (.int k a) (.int k b) = some (.int k (k.wrap (BitVec.ofInt k.bits a ||| BitVec.ofInt k.bits b).toNat)) := by simp [binF]
@[go_sem] theorem binF_xor : binF .xor s (.int k a) (.int k b) = some (.int k (k.wrap (BitVec.ofInt k.bits a ^^^ BitVec.ofInt k.bits b).toNat)) := by simp [binF]
@[go_sem] theorem binF_shl (k' : IntKind) : binF .shl s (.int k a) (.int k' b) = if b < 0 then none else some (.int k (k.wrap (a * 2 ^ (min b.toNat k.bits)))) := by simp [binF]
@[go_sem] theorem binF_shr (k' : IntKind) : binF .shr s (.int k a) (.int k' b) = if b < 0 then none else some (.int k (a.fdiv (2 ^ (min b.toNat k.bits)))) := by simp [binF]
variable (x y : ByteArray)
@[go_sem] theorem binF_cat : binF .add s (.string x) (.string y) = if ((x.size + y.size : Nat) : Int) > IntKind.i64.max then none else some (.string (x ++ y)) := by simp [binF]
@[go_sem] theorem binF_seql : binF .eql s (.string x) (.string y) = some (.bool (x.toList == y.toList)) := by simp [binF]
@[go_sem] theorem binF_sneq : binF .neq s (.string x) (.string y) = some (.bool (!(x.toList == y.toList))) := by simp [binF]
@[go_sem] theorem binF_beql (u v : Bool) : binF .eql .bool (.bool u) (.bool v) = some (.bool (u == v)) := by simp [binF, eqV, simpleEq]
@[go_sem] theorem binF_bneq (u v : Bool) : binF .neq .bool (.bool u) (.bool v) = some (.bool (!(u == v))) := by simp [binF, eqV, simpleEq]
@[go_sem] theorem binF_peql (u : Option Addr) : binF .eql .ptr (.pointer u) (.pointer none) = some (.bool u.isNone) := by cases u <;> simp [binF, eqV, simpleEq]
@[go_sem] theorem binF_pneq (u : Option Addr) : binF .neq .ptr (.pointer u) (.pointer none) = some (.bool (!u.isNone)) := by cases u <;> simp [binF, eqV, simpleEq]
@[go_sem] theorem binF_sleql (u : Option Addr) (n c : Nat) : binF .eql .slc (.slice u n c) (.slice none 0 0) = some (.bool u.isNone) := by cases u <;> simp [binF, eqV, simpleEq]
@[go_sem] theorem binF_slneq (u : Option Addr) (n c : Nat) : binF .neq .slc (.slice u n c) (.slice none 0 0) = some (.bool (!u.isNone)) := by cases u <;> simp [binF, eqV, simpleEq]
@[go_sem] theorem binF_ieql (t : TypeId) (v : Value) : binF .eql .ifc (.iface t v) .nilIface = some (.bool false) := by simp [binF, eqV, simpleEq]
@[go_sem] theorem binF_ineq (t : TypeId) (v : Value) : binF .neq .ifc (.iface t v) .nilIface = some (.bool true) := by simp [binF, eqV, simpleEq]
@[go_sem] theorem binF_agg_eql (fs : List (Nat × Option Nat × Shape)) (l l' : List Value) : binF .eql (.s fs) (.agg l.toArray) (.agg l'.toArray) = (eqVs fs l l').map .bool := by simp [binF, eqV]
@[go_sem] theorem binF_agg_neq (fs : List (Nat × Option Nat × Shape)) (l l' : List Value) : binF .neq (.s fs) (.agg l.toArray) (.agg l'.toArray) = (eqVs fs l l').map fun b => .bool (!b) := by simp [binF, eqV]
end
@[go_sem] theorem Both_not (b : Bool) (F : Bool → Prop) : Both (!b) F = Both b fun t => F (!t) := by cases b <;> rfl
def unF : UnOp → Value → Option Value
  | .neg, .int k n => some (.int k (k.wrap (0 - n)))
  | .xor, .int k n => some (.int k (k.wrap (BitVec.ofInt k.bits (if k.signed then -1 else k.max) ^^^ BitVec.ofInt k.bits n).toNat))
  | .not, .bool b => some (.bool (!b))
  | _, _ => none
@[go_sem] theorem unF_not (b : Bool) : unF .not (.bool b) = some (.bool (!b)) := (rfl)
@[go_sem] theorem unF_neg (k : IntKind) (n : Int) : unF .neg (.int k n) = some (.int k (k.wrap (0 - n))) := (rfl)
@[go_sem] theorem unF_xor (k : IntKind) (n : Int) : unF .xor (.int k n) = some (.int k (k.wrap (BitVec.ofInt k.bits (if k.signed then -1 else k.max) ^^^ BitVec.ofInt k.bits n).toNat)) := (rfl)
def ptrV (v : Value) (F : Nat → Nat → Prop) (_t : Tag F := ⟨⟩) : Prop := match v with | .pointer (some ⟨b, o, none⟩) => F b o | _ => False
@[go_sem] theorem ptrV_mk (b o : Nat) (F : Nat → Nat → Prop) : ptrV (.pointer (some ⟨b, o, none⟩)) F = F b o := (rfl)
theorem ptrV_spec {v : Value} {F : Nat → Nat → Prop} (h : ptrV v F) : ∃ b o, v = .pointer (some ⟨b, o, none⟩) ∧ F b o := by
  unfold ptrV at h; split at h
  · exact ⟨_, _, rfl, h⟩
  · exact h.elim
def intV (v : Value) (F : Int → Prop) (_t : Tag F := ⟨⟩) : Prop := match v with | .int _ n => F n | _ => False
@[go_sem] theorem intV_mk (k : IntKind) (n : Int) (F : Int → Prop) : intV (.int k n) F = F n := (rfl)
theorem intV_spec {v : Value} {F : Int → Prop} (h : intV v F) : ∃ k n, v = .int k n ∧ F n := by
  unfold intV at h; split at h
  · exact ⟨_, _, rfl, h⟩
  · exact h.elim
def sliceV (v : Value) (F : Option Addr → Nat → Nat → Prop) (_t : Tag F := ⟨⟩) : Prop := match v with | .slice a n c => F a n c | _ => False
@[go_sem] theorem sliceV_mk (a : Option Addr) (n c : Nat) (F : Option Addr → Nat → Nat → Prop) : sliceV (.slice a n c) F = F a n c := (rfl)
theorem sliceV_spec {v : Value} {F : Option Addr → Nat → Nat → Prop} (h : sliceV v F) : ∃ a n c, v = .slice a n c ∧ F a n c := by
  unfold sliceV at h; split at h
  · exact ⟨_, _, _, rfl, h⟩
  · exact h.elim
def baseV (a : Option Addr) (F : Nat → Nat → Prop) (_t : Tag F := ⟨⟩) : Prop := match a with | some ⟨b, o, none⟩ => F b o | _ => False
@[go_sem] theorem baseV_mk (b o : Nat) (F : Nat → Nat → Prop) : baseV (some ⟨b, o, none⟩) F = F b o := (rfl)
theorem baseV_spec {a : Option Addr} {F : Nat → Nat → Prop} (h : baseV a F) : ∃ b o, a = some ⟨b, o, none⟩ ∧ F b o := by
  unfold baseV at h; split at h
  · exact ⟨_, _, rfl, h⟩
  · exact h.elim
def stringV (v : Value) (F : ByteArray → Prop) (_t : Tag F := ⟨⟩) : Prop := match v with | .string s => F s | _ => False
@[go_sem] theorem stringV_mk (s : ByteArray) (F : ByteArray → Prop) : stringV (.string s) F = F s := (rfl)
theorem stringV_spec {v : Value} {F : ByteArray → Prop} (h : stringV v F) : ∃ s, v = .string s ∧ F s := by
  unfold stringV at h; split at h
  · exact ⟨_, rfl, h⟩
  · exact h.elim
def tupV (v : Value) (F : List Value → Prop) (_t : Tag F := ⟨⟩) : Prop := match v with | .tuple vs => F vs.toList | _ => False
@[go_sem] theorem tupV_mk (l : List Value) (F : List Value → Prop) : tupV (.tuple l.toArray) F = F l := (rfl)
theorem tupV_spec {v : Value} {F : List Value → Prop} (h : tupV v F) : ∃ vs, v = .tuple vs ∧ F vs.toList := by
  unfold tupV at h; split at h
  · exact ⟨_, rfl, h⟩
  · exact h.elim
def aggV (v : Value) (F : List Value → Prop) (_t : Tag F := ⟨⟩) : Prop := match v with | .agg vs => F vs.toList | _ => False
@[go_sem] theorem aggV_mk (l : List Value) (F : List Value → Prop) : aggV (.agg l.toArray) F = F l := (rfl)
theorem aggV_spec {v : Value} {F : List Value → Prop} (h : aggV v F) : ∃ vs, v = .agg vs ∧ F vs.toList := by
  unfold aggV at h; split at h
  · exact ⟨_, rfl, h⟩
  · exact h.elim
def mapV (v : Value) (F : Option Nat → Prop) (_t : Tag F := ⟨⟩) : Prop := match v with | .map r => F r | _ => False
@[go_sem] theorem mapV_mk (r : Option Nat) (F : Option Nat → Prop) : mapV (.map r) F = F r := (rfl)
theorem mapV_spec {v : Value} {F : Option Nat → Prop} (h : mapV v F) : ∃ r, v = .map r ∧ F r := by
  unfold mapV at h; split at h
  · exact ⟨_, rfl, h⟩
  · exact h.elim
def evs (ev : Ev) : List Operand → (List Value → Prop) → Prop
  | [], F => F []
  | x :: xs, F => withO (ev x) fun v => evs ev xs fun vs => F (v :: vs)
@[go_sem ↓] theorem evs_nil (ev : Ev) (F : List Value → Prop) : evs ev [] F = F [] := (rfl)
@[go_sem ↓] theorem evs_cons (ev : Ev) (x : Operand) (xs : List Operand) (F : List Value → Prop) : evs ev (x :: xs) F = withO (ev x) fun v => evs ev xs fun vs => F (v :: vs) := (rfl)
theorem evs_spec {ev : Ev} {ρ : Operand → Value} (hev : ∀ x v, ev x = some v → ρ x = v) : ∀ {xs : List Operand} {F : List Value → Prop}, evs ev xs F → F (xs.map ρ) := by
  intro xs
  induction xs with
  | nil => intro F h; exact h
  | cons x xs ih =>
    intro F h
    obtain ⟨v, hv, h⟩ := withO_spec h
    have := ih h
    rw [List.map_cons, hev x v hv]
    exact this
def fillV (ev : Ev) : List Value → List (Nat × Nat × Operand) → (List Value → Prop) → Prop
  | z, [], K => K z
  | z, (off, size, x) :: r, K => withO (ev x) fun v => Also ((vcells v).length = size) (fillV ev (splice z off (vcells v)) r K)
@[go_sem ↓] theorem fillV_nil (ev : Ev) (z : List Value) (K : List Value → Prop) : fillV ev z [] K = K z := (rfl)
@[go_sem ↓] theorem fillV_cons (ev : Ev) (z : List Value) (off size : Nat) (x : Operand) (r : List (Nat × Nat × Operand)) (K : List Value → Prop) :
    fillV ev z ((off, size, x) :: r) K = withO (ev x) fun v => Also ((vcells v).length = size) (fillV ev (splice z off (vcells v)) r K) := (rfl)
def padZ (z : List Value) (k : Nat) : List Value := (List.replicate k z).flatten
def findK (s : Shape) (k : Value) : List MapEntry → Nat → Option (Option (Nat × Value))
  | [], _ => some none
  | e :: es, i =>
    match eqV s k e.key with
    | some true => some (some (i, e.val))
    | some false => findK s k es (i + 1)
    | none => none
def keyPart : Shape → Bool | .int | .str | .bool => true | _ => false
def keyOk : Shape → Value → Bool
  | .int, .int _ _ => true
  | .str, .string _ => true
  | .bool, .bool _ => true
  | .s fs, .agg xs => fs.all fun (off, agg, sh) => agg.isNone && keyPart sh && (match sh, xs[off]? with | .int, some (.int _ _) => true | .str, some (.string _) => true | .bool, some (.bool _) => true | _, _ => false)
  | _, _ => false
def lookV (H : Hp) (s : Shape) (r : Option Nat) (k : Value) (F : Option Value → Prop) (_t : Tag F := ⟨⟩) : Prop :=
  match r with
  | none => F none
  | some b => withO (H.mp b) fun m => withO (findK s k m.1 0) fun x => F (x.map (·.2))
def putE (es : List MapEntry) (x : Option (Nat × Value)) (k v : Value) (clock : Nat) : List MapEntry :=
  match x with
  | some (i, _) => es.modify i fun e => { e with key := k, val := v }
  | none => es ++ [{ key := k, val := v, born := clock }]
def clockE (x : Option (Nat × Value)) (clock : Nat) : Nat := match x with | some _ => clock | none => clock + 1
def staysOk (es : List MapEntry) (x : Option (Nat × Value)) (k : Value) : Bool :=
  match x with
  | some (i, _) => Instr.sameBits 10000 (((es[i]?).map (·.key)).getD k) k
  | none => true
@[go_sem] theorem staysOk_none (es : List MapEntry) (k : Value) : staysOk es none k = true := (rfl)
def dropE (es : List MapEntry) (x : Option (Nat × Value)) : List MapEntry := match x with | some (i, _) => es.eraseIdx i | none => es
def updV (H : Hp) (s : Shape) (b : Nat) (k v : Value) (F : Hp → Prop) (_t : Tag F := ⟨⟩) : Prop :=
  withO (H.mp b) fun es => withO (findK s k es.1 0) fun x => Also (staysOk es.1 x k = true) (F (H.wrm b (putE es.1 x k v es.2) (clockE x es.2)))
def delV (H : Hp) (s : Shape) (b : Nat) (k : Value) (F : Hp → Prop) (_t : Tag F := ⟨⟩) : Prop :=
  withO (H.mp b) fun es => withO (findK s k es.1 0) fun x => F (H.wrm b (dropE es.1 x) es.2)
def clearV (H : Hp) (z : List Value) (a : Option Addr) (n : Nat) (F : Hp → Prop) (_t : Tag F := ⟨⟩) : Prop :=
  (n = 0 ∧ F H) ∨ (n ≠ 0 ∧ ∃ b o l, a = some ⟨b, o, none⟩ ∧ orO (H.own b) (H.mrk b) = some l ∧ allOne (padZ z n) ∧ o + n * z.length ≤ l.length ∧ F (H.wr b (splice l o (padZ z n))))
@[go_sem] theorem keyOk_int (k : IntKind) (n : Int) : keyOk .int (.int k n) = true := (rfl)
@[go_sem] theorem keyOk_str (s : ByteArray) : keyOk .str (.string s) = true := (rfl)
def callable (P : Program) (f : FuncId) : Bool := match P.funcs[f]? with | some fn => fn.name != "runtime.NumGoroutine" && fn.body.isSome | none => false
def MethR (P : Program) (H : Hp) (T : TypeId) (v : Value) (name : String) (f : FuncId) (rv : Value) : Prop :=
  callable P f = true ∧ ∀ w, w.heap = H → (method (P.types.size + Made.depth) T v name).run P w = .ok (f, rv) w
def InvH (P : Program) (recv : Value) (name : String) (args : List Value) (H : Hp) (K : Value → Hp → Prop) (_t : Tag K := ⟨⟩) : Prop :=
  ∃ T v f rv, recv = .iface T v ∧ MethR P H T v name f rv ∧ CallH P f (rv :: args) H K
def DynH (P : Program) (fv : Value) (args : List Value) (H : Hp) (K : Value → Hp → Prop) (_t : Tag K := ⟨⟩) : Prop :=
  match fv with
  | .func (.func f) first captured => callable P f = true ∧ CallH P f (first.toList ++ args ++ captured.toList) H K
  | _ => False
def ExtV (P : Program) (f : FuncId) (vs : List Value) (H : Hp) (K : Value → Hp → Prop) (_t : Tag K := ⟨⟩) : Prop := ∃ v, (∀ w, (callFunc f vs.toArray).run P w = .ok (.value v) w) ∧ K v H
theorem ExtV.mk {P : Program} {f : FuncId} {vs : List Value} {H : Hp} {K : Value → Hp → Prop} {v : Value} (h : ∀ w, (callFunc f vs.toArray).run P w = .ok (.value v) w) (k : K v H) : ExtV P f vs H K := ⟨v, h, k⟩
def rowOf (H : Hp) (size : Nat) (v : Value) (F : Nat → List Value → Prop) (_t : Tag F := ⟨⟩) : Prop :=
  match v with
  | .slice a n _ => Cho (n == 0) (F 0 []) (baseV a fun b o => withO (H.rd b) fun l => Also (o + n * size ≤ l.length) (F n ((l.drop o).take (n * size))))
  | .string s => Also (size = 1) (F s.size (s.data.toList.map fun b => .int .u8 b.toNat))
  | _ => False
def AppendV (T size bytes : Nat) (z : List Value) (s x : Value) (H : Hp) (K : Value → Hp → Prop) (_t : Tag K := ⟨⟩) : Prop :=
  sliceV s fun base n c => rowOf H size x fun m new =>
    (n + m ≤ c → m = 0 → K (.slice base n c) H) ∧
    (n + m ≤ c → m ≠ 0 → baseV base fun b o => withO (orO (H.own b) (H.mrk b)) fun l => Also (o + (n + m) * size ≤ l.length ∧ allOne new) (K (.slice base (n + m) c) (H.wr b (splice l (o + n * size) new)))) ∧
    (c < n + m → Builtin.nextslicecap (n + m) c * bytes ≤ 2 ^ 48 ∧
      rowOf H size s fun _ old => ∀ c', n + m ≤ c' → K (.slice (some ⟨H.size, 0, none⟩) (n + m) c') (H.new T (old ++ new ++ padZ z (c' - (n + m)))))
def ToBytesV (T : TypeId) (s : ByteArray) (H : Hp) (K : Value → Hp → Prop) (_t : Tag K := ⟨⟩) : Prop :=
  ∀ c, s.size ≤ c → K (.slice (some ⟨H.size, 0, none⟩) s.size c) (H.newk T ((s.data.toList.map fun b => .int .u8 b.toNat) ++ List.replicate (c - s.size) (.int .u8 0)))
def assertV (T : TypeId) (v : Value) (F : Value → Prop) (_t : Tag F := ⟨⟩) : Prop := match v with | .iface t u => Also (t = T) (F u) | _ => False
@[go_sem] theorem assertV_mk (T t : TypeId) (u : Value) (F : Value → Prop) : assertV T (.iface t u) F = Also (t = T) (F u) := (rfl)
def ifcV (v : Value) (F : Bool → Prop) (_t : Tag F := ⟨⟩) : Prop := match v with | .nilIface => F true | .iface _ _ => F false | _ => False
@[go_sem] theorem ifcV_nil (F : Bool → Prop) : ifcV .nilIface F = F true := (rfl)
@[go_sem] theorem ifcV_mk (t : TypeId) (u : Value) (F : Bool → Prop) : ifcV (.iface t u) F = F false := (rfl)
theorem ifcV_spec {v : Value} {F : Bool → Prop} (h : ifcV v F) : (v = .nilIface ∧ F true) ∨ ∃ t u, v = .iface t u ∧ F false := by
  unfold ifcV at h; split at h
  · exact .inl ⟨rfl, h⟩
  · exact .inr ⟨_, _, rfl, h⟩
  · exact h.elim
def nilB (neg b : Bool) : Bool := bif neg then !b else b
@[go_sem] theorem nilB_ff : nilB false false = false := (rfl)
@[go_sem] theorem nilB_ft : nilB false true = true := (rfl)
@[go_sem] theorem nilB_tf : nilB true false = true := (rfl)
@[go_sem] theorem nilB_tt : nilB true true = false := (rfl)
theorem assertV_spec {T : TypeId} {v : Value} {F : Value → Prop} (h : assertV T v F) : ∃ u, v = .iface T u ∧ F u := by
  unfold assertV at h; split at h
  · obtain ⟨rfl, h⟩ := h; exact ⟨_, rfl, h⟩
  · exact h.elim
def bytesOf : List Value → Option (List UInt8)
  | [] => some []
  | .int .u8 n :: r => (bytesOf r).map (UInt8.ofNat n.toNat :: ·)
  | _ :: _ => none
@[go_sem] theorem bytesOf_nil : bytesOf [] = some [] := (rfl)
@[go_sem] theorem bytesOf_cons (n : Int) (r : List Value) : bytesOf (.int .u8 n :: r) = (bytesOf r).map (UInt8.ofNat n.toNat :: ·) := (rfl)
def bytesV (H : Hp) (v : Value) (F : List UInt8 → Prop) (_t : Tag F := ⟨⟩) : Prop :=
  match v with
  | .slice a n c => rowOf H 1 (.slice a n c) fun _ l => withO (bytesOf l) F
  | _ => False
@[go_sem] theorem bytesV_mk (H : Hp) (a : Option Addr) (n c : Nat) (F : List UInt8 → Prop) : bytesV H (.slice a n c) F = rowOf H 1 (.slice a n c) fun _ l => withO (bytesOf l) F := (rfl)
inductive Iop where
  | mov (x : Operand)
  | pick (c a b : Operand)
  | box (T : TypeId) (x : Operand)
  | zero (T : TypeId) (l : List Value)
  | build (z : List Value) (parts : List (Nat × Nat × Operand))
  | lit (T : TypeId) (n : Nat) (z : List Value) (parts : List (Nat × Nat × Operand))
  | load1 (x : Operand)
  | loadN (n : Nat) (x : Operand)
  | store (n : Nat) (x v : Operand)
  | nilCheck (x : Operand)
  | bin (op : BinOp) (s : Shape) (x y : Operand)
  | un (op : UnOp) (x : Operand)
  | conv (k : IntKind) (x : Operand)
  | iface (T : TypeId) (x : Operand)
  | func (fn : Fn) (first captured : List Operand)
  | newMap
  | makeSlice (T bytes size : Nat) (z : List Value) (n c : Operand)
  | slice (size : Nat) (x : Operand) (lo hi mx : Option Operand)
  | sliceS (x : Operand) (lo hi : Option Operand)
  | fieldAddr (off : Nat) (x : Operand)
  | field (off : Nat) (agg : Option Nat) (x : Operand)
  | indexAddr (size : Nat) (x i : Operand)
  | indexArr (len size : Nat) (x i : Operand)
  | indexS (x i : Operand)
  | lookup (s : Shape) (z : Value) (ok : Bool) (m k : Operand)
  | update (s : Shape) (m k v : Operand)
  | extract (i : Nat) (x : Operand)
  | call (f : FuncId) (args : List Operand)
  | dyn (f : Operand) (args : List Operand)
  | invoke (r : Operand) (name : String) (args : List Operand)
  | lenS (x : Operand)
  | lenT (x : Operand)
  | lenM (x : Operand)
  | append (T size bytes : Nat) (z : List Value) (x y : Operand)
  | delete (s : Shape) (m k : Operand)
  | clearS (z : List Value) (x : Operand)
  | minI (args : List Operand)
  | maxI (args : List Operand)
  | assert (T : TypeId) (x : Operand)
  | nilI (neg : Bool) (x : Operand)
  | toStr (x : Operand)
  | toBytes (T : TypeId) (x : Operand)
  | ext (f : FuncId) (args : List Operand)
  deriving Inhabited
def zeroT (P : Program) (t : TypeId) : Option Value := (P.info? t).bind (·.zero)
def depthT : Nat := 8
def partsBy (place : Nat → Option (Nat × Nat)) (zlen : Nat) : List (Nat × Operand) → Option (List (Nat × Nat × Operand))
  | [] => some []
  | (i, x) :: r =>
    match place i with
    | none => none
    | some (off, size) => if off + size ≤ zlen then (partsBy place zlen r).map ((off, size, x) :: ·) else none
def fieldsKnown (P : Program) (fs : Array Field) : Bool := fs.all fun f => (P.info? f.type).isSome
def placeOf (P : Program) (fs : Array Field) : Array (Nat × Nat) := fs.map fun f => (f.offset, P.cellsOf f.type)
def parts (P : Program) (t : TypeId) (zlen : Nat) (ps : List (Nat × Operand)) : Option (List (Nat × Nat × Operand)) :=
  match P.underlying t with
  | some (.struct fields) => if fieldsKnown P fields then partsBy ((placeOf P fields)[·]?) zlen ps else none
  | some (.array _ e) => if (P.info? e).isSome then partsBy (fun i => some (i * P.cellsOf e, P.cellsOf e)) zlen ps else none
  | _ => none
end Go.Vc
