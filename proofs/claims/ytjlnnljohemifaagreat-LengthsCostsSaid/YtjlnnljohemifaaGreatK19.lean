/-
  Texts put behind each other by a program: Args.
-/
import Derived.Test.YtjlnnljohemifaaGreatK10
import Derived.WideKeyArgs
import Derived.OpenShut
import Derived.ChangeArms
import Derived.ChangeOld
import Derived.Handed
import Derived.RowKit
import Derived.DataReads
set_option linter.unusedVariables false
namespace Go.Vc
open Go.ChangeShapes Go.WideShapes Go.RowKit
theorem Fresh.then {S : Nat → Prop} {A B C : Hp} (h : Fresh A B) (k : Ext S B C) (hs : ∀ z, S z → A.size ≤ z) : Fresh A C :=
  h.trans' k fun z hz hzs => absurd (hs z hzs) (by omega)
theorem Ext.then {S : Nat → Prop} {A B C : Hp} (h : Ext (fun _ => False) A B) (k : Ext S B C) (hs : ∀ z, S z → A.size ≤ z) : Fresh A C := Fresh.then h k hs
inductive Kd where
  | i (k : IntKind) | b | s
  deriving Inhabited
def fitK : Kd → Value → Prop
  | .i k, v => ∃ n, v = .int k n ∧ (Lit.int k n).wf = true
  | .b, v => ∃ b, v = .bool b
  | .s, v => ∃ s : ByteArray, v = .string s ∧ s.size ≤ maxLen
def fitL {α : Type} (φ : α → Value → Prop) : List α → List Value → Prop
  | [], cs => cs = []
  | k :: ks, cs => ∃ v r, cs = v :: r ∧ φ k v ∧ fitL φ ks r
theorem fitL_length {α : Type} {φ : α → Value → Prop} : ∀ {ks : List α} {cs : List Value}, fitL φ ks cs → cs.length = ks.length := by
  intro ks
  induction ks with
  | nil => intro cs h; simp [fitL] at h; simp [h]
  | cons k ks ih => intro cs h; obtain ⟨v, r, rfl, _, h⟩ := h; simp [ih h]
theorem fitL_append {α : Type} {φ : α → Value → Prop} : ∀ {ks ks' : List α} {cs cs' : List Value}, fitL φ ks cs → fitL φ ks' cs' → fitL φ (ks ++ ks') (cs ++ cs') := by
  intro ks
  induction ks with
  | nil => intro ks' cs cs' h h'; simp [fitL] at h; subst h; simpa using h'
  | cons k ks ih => intro ks' cs cs' h h'; obtain ⟨v, r, rfl, h1, h⟩ := h; exact ⟨v, r ++ cs', rfl, h1, ih h h'⟩
inductive Pc where
  | k (x : Kd)
  | sl (ks : List Kd)
  deriving Inhabited
def fitP (H : Hp) : Pc → Value → Prop
  | .k x, v => fitK x v
  | .sl ks, v => ∃ rows : List (List Value), RdS H ks.length v rows.length rows.flatten ∧ (∀ r ∈ rows, fitL fitK ks r) ∧ rows.length ≤ maxLen ∧ ∃ a c, v = .slice a rows.length c ∧ rows.length ≤ c
def fsT {α : Type} (P : Program) (go : TypeId → Option (List α)) (total : Nat) : Nat → List Field → Option (List α)
  | off, [] => if off = total then some [] else none
  | off, f :: fs => match go f.type with
    | some ks => if f.offset = off ∧ ks.length = P.cellsOf f.type then (fsT P go total (off + P.cellsOf f.type) fs).map (ks ++ ·) else none
    | none => none
def arT {α : Type} (P : Program) (go : TypeId → Option (List α)) (t : TypeId) (n : Nat) (e : TypeId) : Option (List α) :=
  match go e with
  | some ks => if ks.length = P.cellsOf e ∧ P.cellsOf t = n * P.cellsOf e then some (List.replicate n ks).flatten else none
  | none => none
def flatT (P : Program) : Nat → TypeId → Option (List Kd)
  | 0, _ => none
  | d + 1, t => match P.underlying t with
    | some (.int k) => some [.i k]
    | some .bool => some [.b]
    | some .string => some [.s]
    | some (.struct fs) => fsT P (flatT P d) (P.cellsOf t) 0 fs.toList
    | some (.array n e) => arT P (flatT P d) t n e
    | _ => none
def pcsT (P : Program) : Nat → TypeId → Option (List Pc)
  | 0, _ => none
  | d + 1, t => match P.underlying t with
    | some (.int k) => some [.k (.i k)]
    | some .bool => some [.k .b]
    | some .string => some [.k .s]
    | some (.slice e) => match flatT P d e with
      | some ks => if ks.length = P.cellsOf e ∧ ks.length ≠ 0 then some [.sl ks] else none
      | none => none
    | some (.struct fs) => fsT P (pcsT P d) (P.cellsOf t) 0 fs.toList
    | some (.array n e) => arT P (pcsT P d) t n e
    | _ => none
section
variable {H : Type} {enc : TypeId × Value → H} {P : Program} {w : World} {base : Nat} {spare : Nat → Bool} {held : Bool}
theorem fsT_fit {α : Type} {φ : α → Value → Prop} {go : TypeId → Option (List α)} {total n : Nat} {cs : List Value} (hgo : ∀ t ks cs x, go t = some ks → DataW.trod enc P w base spare held n t cs = some x → fitL φ ks cs) (hcs : cs.length = total) :
    ∀ (fs : List Field) (off : Nat) (ks : List α), fsT P go total off fs = some ks → (∀ f ∈ fs, ∃ y, DataW.trod enc P w base spare held n f.type ((cs.drop f.offset).take (P.cellsOf f.type)) = some y) → fitL φ ks (cs.drop off) := by
  intro fs
  induction fs with
  | nil =>
    intro off ks h _
    unfold fsT at h
    split at h
    · rename_i e
      injection h with h
      subst h
      show cs.drop off = []
      rw [e, ← hcs]; simp
    · cases h
  | cons f fs ih =>
    intro off ks h hf
    unfold fsT at h
    split at h
    · rename_i ks1 hk
      split at h
      · rename_i hc
        cases hr : fsT P go total (off + P.cellsOf f.type) fs with
        | none => rw [hr] at h; cases h
        | some ks2 =>
          rw [hr] at h
          simp only [Option.map_some, Option.some.injEq] at h
          subst h
          obtain ⟨y, hy⟩ := hf f List.mem_cons_self
          have h1 := hgo _ _ _ _ hk hy
          have h2 := ih _ _ hr fun g hg => hf g (List.mem_cons_of_mem _ hg)
          rw [hc.1] at h1
          have h3 := fitL_append h1 h2
          rw [show cs.drop (off + P.cellsOf f.type) = (cs.drop off).drop (P.cellsOf f.type) by rw [List.drop_drop], List.take_append_drop] at h3
          exact h3
      · cases h
    · cases h
theorem arT_fit {α : Type} {φ : α → Value → Prop} {go : TypeId → Option (List α)} {n m : Nat} {t e : TypeId} {cs : List Value} {ks : List α} (hgo : ∀ t ks cs x, go t = some ks → DataW.trod enc P w base spare held m t cs = some x → fitL φ ks cs)
    (h : arT P go t n e = some ks) (hcs : cs.length = P.cellsOf t) (hx : ∀ i, i < n → ∃ y, DataW.trod enc P w base spare held m e ((cs.drop (i * P.cellsOf e)).take (P.cellsOf e)) = some y) : fitL φ ks cs := by
  unfold arT at h
  split at h
  · rename_i ks1 hk
    split at h
    · rename_i hc
      injection h with h
      subst h
      have key : ∀ j, j ≤ n → fitL φ (List.replicate j ks1).flatten (cs.drop ((n - j) * P.cellsOf e)) := by
        intro j
        induction j with
        | zero =>
          intro _
          show cs.drop _ = []
          rw [Nat.sub_zero, ← hc.2, ← hcs]; simp
        | succ j ih =>
          intro hj
          obtain ⟨y, hy⟩ := hx (n - (j + 1)) (by omega)
          have h1 := hgo _ _ _ _ hk hy
          have h3 := fitL_append h1 (ih (by omega))
          have e1 : (n - j) * P.cellsOf e = (n - (j + 1)) * P.cellsOf e + P.cellsOf e := by
            rw [show n - j = (n - (j + 1)) + 1 by omega, Nat.add_mul, Nat.one_mul]
          rw [e1, ← List.drop_drop, List.take_append_drop] at h3
          rw [List.replicate_succ, List.flatten_cons]
          exact h3
      have := key n (Nat.le_refl _)
      simpa using this
    · cases h
  · cases h
theorem flatT_fit : ∀ (d : Nat) (fuel : Nat) (t : TypeId) (ks : List Kd) (cs : List Value) (x : DataW H × List MemPlace), flatT P d t = some ks → DataW.trod enc P w base spare held fuel t cs = some x → fitL fitK ks cs := by
  intro d
  induction d with
  | zero => intro fuel t ks cs x h; cases h
  | succ d ih =>
    intro fuel t ks cs x h hx
    unfold flatT at h
    split at h
    · rename_i k hu
      injection h with h; subst h
      obtain ⟨n, rfl, _, hw⟩ := DataW.trod_int hu hx
      exact ⟨_, [], rfl, ⟨n, rfl, hw⟩, rfl⟩
    · rename_i hu
      injection h with h; subst h
      obtain ⟨b, rfl, _⟩ := DataW.trod_bool hu hx
      exact ⟨_, [], rfl, ⟨b, rfl⟩, rfl⟩
    · rename_i hu
      injection h with h; subst h
      obtain ⟨s, rfl, _, hw⟩ := DataW.trod_string hu hx
      exact ⟨_, [], rfl, ⟨s, rfl, hw⟩, rfl⟩
    · rename_i fs hu
      obtain ⟨xs, m, _, _, hcs, hlen, hf⟩ := DataW.trod_struct hu hx
      have := fsT_fit (enc := enc) (w := w) (base := base) (spare := spare) (held := held) (n := m) (φ := fitK) (fun t ks cs x h1 h2 => ih m t ks cs x h1 h2) hcs fs.toList 0 ks h (fun f hf' => by
        obtain ⟨i, hi⟩ := List.getElem?_of_mem hf'
        have hi2 : fs[i]? = some f := by simpa using hi
        have hlt : i < fs.size := (Array.getElem?_eq_some_iff.1 hi2).1
        exact ⟨_, (hf i f hi2).trans (List.getElem?_eq_getElem (by omega))⟩)
      simpa using this
    · rename_i n e hu
      obtain ⟨xs, m, _, _, hcs, hlen, hf⟩ := DataW.trod_array hu hx
      exact arT_fit (enc := enc) (w := w) (base := base) (spare := spare) (held := held) (m := m) (fun t ks cs x h1 h2 => ih m t ks cs x h1 h2) h hcs (fun i hi => ⟨_, (hf i hi).trans (List.getElem?_eq_getElem (by omega))⟩)
    · cases h
theorem flatten_get {size : Nat} (hs : 0 < size) : ∀ (rows : List (List Value)), (∀ r ∈ rows, r.length = size) → ∀ (i j : Nat) (r : List Value), rows[i]? = some r → j < size → rows.flatten[i * size + j]? = r[j]? := by
  intro rows
  induction rows with
  | nil => intro _ i j r h; simp at h
  | cons q rows ih =>
    intro hl i j r hi hj
    have hq := hl q List.mem_cons_self
    rw [List.flatten_cons]
    cases i with
    | zero =>
      simp only [List.getElem?_cons_zero, Option.some.injEq] at hi
      subst hi
      rw [Nat.zero_mul, Nat.zero_add, List.getElem?_append_left (by omega)]
    | succ i =>
      have e : (i + 1) * size + j - q.length = i * size + j := by rw [Nat.add_mul, Nat.one_mul, hq]; omega
      rw [List.getElem?_append_right (by rw [Nat.add_mul, Nat.one_mul, hq]; omega), e]
      exact ih (fun x hx => hl x (List.mem_cons_of_mem _ hx)) i j r (by simpa using hi) hj
theorem flatten_len {size : Nat} : ∀ (rows : List (List Value)), (∀ r ∈ rows, r.length = size) → rows.flatten.length = rows.length * size := by
  intro rows
  induction rows with
  | nil => simp
  | cons q rows ih =>
    intro hl
    rw [List.flatten_cons, List.length_append, ih fun x hx => hl x (List.mem_cons_of_mem _ hx), hl q List.mem_cons_self, List.length_cons, Nat.add_mul, Nat.one_mul, Nat.add_comm]
theorem rd_of_cell {a : Addr} {v : Value} (h : w.cell? a = some v) : a.spot = none ∧ ∃ l, Hp.rd w.heap a.block = some l ∧ l[a.off]? = some v := by
  unfold World.cell? at h
  unfold Hp.rd
  split at h
  · rename_i c t fr hb
    split at h
    · cases h
    · rename_i hs
      refine ⟨by simpa using hs, c.toList, by rw [hb], by simpa using h⟩
  · cases h
theorem slice_fit {d fuel : Nat} {t e : TypeId} {ks : List Kd} {cs : List Value} {x : DataW H × List MemPlace} (hu : P.underlying t = some (.slice e)) (hk : flatT P d e = some ks) (hl : ks.length = P.cellsOf e) (h0 : ks.length ≠ 0)
    (hx : DataW.trod enc P w base spare held fuel t cs = some x) : ∃ v, cs = [v] ∧ fitP w.heap (.sl ks) v := by
  rcases DataW.trod_slice hu hx with ⟨rfl, _⟩ | ⟨a, len, cap, elems, rest, n, _, rfl, _, hb, hle, hm, hlen, hel, _, _⟩
  · exact ⟨_, rfl, [], ⟨by simp, .inl ⟨rfl, none, 0, rfl⟩⟩, (by intro r hr; cases hr), by simp, none, 0, rfl, by simp⟩
  · refine ⟨_, rfl, ?_⟩
    have each : ∀ i, i < len → ∃ r, fitL fitK ks r ∧ r.length = ks.length ∧ ∀ j, j < ks.length → w.cell? ((a.add (i * ks.length)).add j) = r[j]? := by
      intro i hi
      have h1 := hel i hi
      rw [List.getElem?_eq_getElem (by omega)] at h1
      obtain ⟨r, hr, hy⟩ := Option.bind_eq_some_iff.1 h1
      have hf := flatT_fit d n e ks r _ hk hy
      obtain ⟨_, h2, h3⟩ := World.cells?_some hr
      refine ⟨r, hf, fitL_length hf, fun j hj => ?_⟩
      rw [hl]
      exact h3 j (by omega)
    have rowsEx : ∀ m, m ≤ len → ∃ rows : List (List Value), rows.length = m ∧ ∀ i r, rows[i]? = some r → fitL fitK ks r ∧ r.length = ks.length ∧ ∀ j, j < ks.length → w.cell? ((a.add (i * ks.length)).add j) = r[j]? := by
      intro m
      induction m with
      | zero => intro _; exact ⟨[], rfl, fun i r h => by simp at h⟩
      | succ m ih =>
        intro hm'
        obtain ⟨rows, h1, h2⟩ := ih (by omega)
        obtain ⟨r, hr⟩ := each m (by omega)
        refine ⟨rows ++ [r], by simp [h1], fun i q hq => ?_⟩
        by_cases hi : i < m
        · rw [List.getElem?_append_left (by omega)] at hq
          exact h2 i q hq
        · rw [List.getElem?_append_right (by omega)] at hq
          have : i - rows.length = 0 := by
            rcases Nat.eq_zero_or_pos (i - rows.length) with h | h
            · exact h
            · rw [List.getElem?_eq_none (by simp; omega)] at hq; cases hq
          rw [this] at hq
          simp only [List.getElem?_cons_zero, Option.some.injEq] at hq
          subst hq
          rw [show i = m by omega]
          exact hr
    obtain ⟨rows, hrl, hrows⟩ := rowsEx len (Nat.le_refl _)
    have hlens : ∀ r ∈ rows, r.length = ks.length := fun r hr => by
      obtain ⟨i, hi⟩ := List.getElem?_of_mem hr
      exact (hrows i r hi).2.1
    refine ⟨rows, ?_, fun r hr => ?_, by omega, a, cap, by rw [hrl], by omega⟩
    · refine ⟨flatten_len rows hlens, ?_⟩
      rw [hrl]
      by_cases hz : len = 0
      · subst hz
        exact .inl ⟨rfl, _, _, rfl⟩
      · right
        have hpos : 0 < ks.length := Nat.pos_of_ne_zero h0
        obtain ⟨r0, hr0⟩ : ∃ r, rows[0]? = some r := ⟨_, List.getElem?_eq_getElem (by omega)⟩
        obtain ⟨_, hl0, hc0⟩ := hrows 0 r0 hr0
        have hc := hc0 0 hpos
        rw [List.getElem?_eq_getElem (by omega)] at hc
        obtain ⟨hs, l, hrd, _⟩ := rd_of_cell hc
        have hspot : a.spot = none := by
          simp only [Nat.zero_mul] at hs
          simpa [Addr.add] using hs
        have hblock : ∀ i j, ((a.add i).add j) = ⟨a.block, a.off + i + j, none⟩ := fun i j => by rw [add_spot hspot, add_mk]
        rw [hblock] at hrd
        have get : ∀ k, k < len * ks.length → l[a.off + k]? = rows.flatten[k]? := by
          intro k hk'
          obtain ⟨r, hr⟩ : ∃ r, rows[k / ks.length]? = some r := ⟨_, List.getElem?_eq_getElem (by
            rw [hrl]; exact Nat.div_lt_of_lt_mul (by rw [Nat.mul_comm]; exact hk'))⟩
          obtain ⟨_, hl1, hc1⟩ := hrows _ r hr
          have hmod := Nat.mod_lt k hpos
          have hcm := hc1 (k % ks.length) hmod
          rw [List.getElem?_eq_getElem (by omega)] at hcm
          rw [hblock] at hcm
          have hcr := cell_of_rd (w := w) (a := ⟨a.block, a.off + k / ks.length * ks.length + k % ks.length, none⟩) rfl hrd
          have hf := flatten_get hpos rows hlens _ _ r hr hmod
          have ek : k / ks.length * ks.length + k % ks.length = k := by rw [Nat.mul_comm]; exact Nat.div_add_mod k ks.length
          rw [ek] at hf
          have hcr2 := hcr.symm.trans hcm
          rw [hf]
          refine Eq.trans ?_ (hcr2.trans (List.getElem?_eq_getElem (by omega)).symm)
          exact congrArg (fun z => l[z]?) (by show a.off + k = a.off + k / ks.length * ks.length + k % ks.length; omega)
        have hfl := flatten_len rows hlens
        have hlast := get (len * ks.length - 1) (by
          have : 0 < len * ks.length := Nat.mul_pos (Nat.pos_of_ne_zero hz) hpos
          omega)
        have hpos2 : 0 < len * ks.length := Nat.mul_pos (Nat.pos_of_ne_zero hz) hpos
        have hll : a.off + (len * ks.length - 1) < l.length := by
          rcases Nat.lt_or_ge (a.off + (len * ks.length - 1)) l.length with h' | h'
          · exact h'
          · rw [List.getElem?_eq_none h', List.getElem?_eq_getElem (by rw [hfl, hrl]; omega)] at hlast; cases hlast
        refine ⟨a.block, a.off, cap, l, ?_, hrd, by omega, ?_⟩
        · cases a; simp_all
        · apply List.ext_getElem?
          intro k
          rw [List.getElem?_take]
          split
          · rename_i hk'
            rw [List.getElem?_drop]
            exact get k hk'
          · rw [List.getElem?_eq_none (by rw [hfl, hrl]; omega)]
    · obtain ⟨i, hi⟩ := List.getElem?_of_mem hr
      exact (hrows i r hi).1
theorem pcsT_fit : ∀ (d : Nat) (fuel : Nat) (t : TypeId) (ps : List Pc) (cs : List Value) (x : DataW H × List MemPlace), pcsT P d t = some ps → DataW.trod enc P w base spare held fuel t cs = some x → fitL (fitP w.heap) ps cs := by
  intro d
  induction d with
  | zero => intro fuel t ks cs x h; cases h
  | succ d ih =>
    intro fuel t ks cs x h hx
    unfold pcsT at h
    split at h
    · rename_i k hu
      injection h with h; subst h
      obtain ⟨n, rfl, _, hw⟩ := DataW.trod_int hu hx
      exact ⟨_, [], rfl, ⟨n, rfl, hw⟩, rfl⟩
    · rename_i hu
      injection h with h; subst h
      obtain ⟨b, rfl, _⟩ := DataW.trod_bool hu hx
      exact ⟨_, [], rfl, ⟨b, rfl⟩, rfl⟩
    · rename_i hu
      injection h with h; subst h
      obtain ⟨s, rfl, _, hw⟩ := DataW.trod_string hu hx
      exact ⟨_, [], rfl, ⟨s, rfl, hw⟩, rfl⟩
    · rename_i e hu
      split at h
      · rename_i ks1 hk
        split at h
        · rename_i hc
          injection h with h; subst h
          obtain ⟨v, rfl, hv⟩ := slice_fit hu hk hc.1 hc.2 hx
          exact ⟨v, [], rfl, hv, rfl⟩
        · cases h
      · cases h
    · rename_i fs hu
      obtain ⟨xs, m, _, _, hcs, hlen, hf⟩ := DataW.trod_struct hu hx
      have := fsT_fit (enc := enc) (w := w) (base := base) (spare := spare) (held := held) (n := m) (φ := fitP w.heap) (fun t ks cs x h1 h2 => ih m t ks cs x h1 h2) hcs fs.toList 0 ks h (fun f hf' => by
        obtain ⟨i, hi⟩ := List.getElem?_of_mem hf'
        have hi2 : fs[i]? = some f := by simpa using hi
        have hlt : i < fs.size := (Array.getElem?_eq_some_iff.1 hi2).1
        exact ⟨_, (hf i f hi2).trans (List.getElem?_eq_getElem (by omega))⟩)
      simpa using this
    · rename_i n e hu
      obtain ⟨xs, m, _, _, hcs, hlen, hf⟩ := DataW.trod_array hu hx
      exact arT_fit (enc := enc) (w := w) (base := base) (spare := spare) (held := held) (m := m) (fun t ks cs x h1 h2 => ih m t ks cs x h1 h2) h hcs (fun i hi => ⟨_, (hf i hi).trans (List.getElem?_eq_getElem (by omega))⟩)
    · cases h
def argT (P : Program) (t : TypeId) : Option (Bool × List Pc) :=
  match P.underlying t with
  | some (.struct _) | some (.array _ _) => (pcsT P 8 t).map (true, ·)
  | some (.int _) | some .bool | some .string | some (.slice _) => (pcsT P 8 t).map (false, ·)
  | _ => none
def fitA (Hh : Hp) : Bool × List Pc → Value → Prop
  | (true, ps), v => ∃ cs : List Value, v = .agg cs.toArray ∧ fitL (fitP Hh) ps cs
  | (false, ps), v => fitL (fitP Hh) ps [v]
def argsT (P : Program) : List TypeId → Option (List (Bool × List Pc))
  | [] => some []
  | t :: ts => match argT P t with
    | some a => (argsT P ts).map (a :: ·)
    | none => none
theorem argT_fit {r : Reach} {b0 : Nat} {t : TypeId} {v : Value} {d : DataW H} {ps : List MemPlace} {a : Bool × List Pc} (ha : argT P t = some a) (hok : Value.okWide P w r b0 t v) (h : DataW.Trod enc P w base spare held t v d ps) : fitA w.heap a v := by
  obtain ⟨fuel, hf⟩ := h
  unfold argT at ha
  cases hu : P.underlying t with
  | none => rw [hu] at ha; cases ha
  | some ty =>
    rw [hu] at ha
    have agg : (∃ cs, v = .agg cs ∧ cs.size = P.cellsOf t ∧ Row.okWide P w r b0 t cs) → (pcsT P 8 t).map (true, ·) = some a → fitA w.heap a v := by
      rintro ⟨cs, rfl, _⟩ ha
      cases hp : pcsT P 8 t with
      | none => rw [hp] at ha; cases ha
      | some ps =>
        rw [hp] at ha
        simp only [Option.map_some, Option.some.injEq] at ha
        subst ha
        exact ⟨cs.toList, rfl, pcsT_fit 8 fuel t ps _ _ hp hf⟩
    have one : v.cells.toList = [v] → (pcsT P 8 t).map (false, ·) = some a → fitA w.heap a v := by
      intro hv ha
      cases hp : pcsT P 8 t with
      | none => rw [hp] at ha; cases ha
      | some ps =>
        rw [hp] at ha
        simp only [Option.map_some, Option.some.injEq] at ha
        subst ha
        rw [hv] at hf
        exact pcsT_fit 8 fuel t ps _ _ hp hf
    cases ty with
    | struct fs => unfold Value.okWide at hok; rw [hu] at hok; exact agg hok ha
    | array n e => unfold Value.okWide at hok; rw [hu] at hok; exact agg hok ha
    | int k => obtain ⟨n, rfl⟩ := okWide_int hu hok; exact one rfl ha
    | bool => obtain ⟨n, rfl⟩ := okWide_bool hu hok; exact one rfl ha
    | string => obtain ⟨n, rfl⟩ := okWide_string hu hok; exact one rfl ha
    | slice e => obtain ⟨x, y, z, rfl⟩ := okWide_slice hu hok; exact one rfl ha
    | _ => cases ha
theorem argsT_fit {r : Reach} {b0 : Nat} : ∀ {ts : List TypeId} {vs : List Value} {ds : List (DataW H)} {ps : List MemPlace} {shs0 : List (Bool × List Pc)}, argsT P ts = some shs0 →
    (∀ (j : Nat) t v, ts[j]? = some t → vs[j]? = some v → Value.okWide P w r b0 t v) → DataW.TrodAll enc P w base spare held ts vs ds ps → fitL (fitA w.heap) shs0 vs := by
  intro ts
  induction ts with
  | nil =>
    intro vs ds ps shs0 ha _ h
    obtain ⟨rfl, rfl, rfl⟩ := trodAll_nil h
    simp only [argsT, Option.some.injEq] at ha
    subst ha
    rfl
  | cons t ts ih =>
    intro vs ds ps shs0 ha hok h
    obtain ⟨v, vs', d, ds', p, q, rfl, rfl, rfl, h1, h2⟩ := trodAll_cons h
    unfold argsT at ha
    split at ha
    · rename_i a ha1
      cases hr : argsT P ts with
      | none => rw [hr] at ha; cases ha
      | some shs' =>
        rw [hr] at ha
        simp only [Option.map_some, Option.some.injEq] at ha
        subst ha
        exact ⟨v, vs', rfl, argT_fit ha1 (hok 0 t v rfl rfl) h1, ih hr (fun j t' v' hj hv => hok (j + 1) t' v' (by simpa using hj) (by simpa using hv)) h2⟩
    · cases ha
theorem trodAll_len : ∀ {ts : List TypeId} {vs : List Value} {ds : List (DataW H)} {ps : List MemPlace}, DataW.TrodAll enc P w base spare held ts vs ds ps → ds.length = ts.length := by
  intro ts
  induction ts with
  | nil => intro vs ds ps h; obtain ⟨rfl, rfl, rfl⟩ := trodAll_nil h; rfl
  | cons t ts ih => intro vs ds ps h; obtain ⟨v, vs', d, ds', p, q, rfl, rfl, rfl, h1, h2⟩ := trodAll_cons h; simp [ih h2]
theorem trodAll_stays (hl : laidOutB P = true) : ∀ {ts : List TypeId} {vs : List Value} {ds : List (DataW H)} {ps : List MemPlace} {W W' : World} {sp' : Nat → Bool}, (∀ t ∈ ts, P.readableRec t = true ∧ t < P.types.size) →
    DataW.TrodAll enc P W base (fun _ => true) true ts vs ds ps → (∀ p ∈ ps, W.sameAt W' p) → (∀ p ∈ ps, sp' p.block = true) → DataW.TrodAll enc P W' base sp' true ts vs ds ps := by
  intro ts
  induction ts with
  | nil => intro vs ds ps W W' sp' _ h _ _; obtain ⟨rfl, rfl, rfl⟩ := trodAll_nil h; rfl
  | cons t ts ih =>
    intro vs ds ps W W' sp' ht h h1 h2
    obtain ⟨v, vs', d, ds', p, q, rfl, rfl, rfl, g1, g2⟩ := trodAll_cons h
    exact trodAll_cons_mk (WideElems.Trod_stays hl (ht t List.mem_cons_self).1 (ht t List.mem_cons_self).2 g1 (fun x hx => h1 x (List.mem_append_left _ hx)) (fun x hx => h2 x (List.mem_append_left _ hx)))
      (ih (fun t' ht' => ht t' (List.mem_cons_of_mem _ ht')) g2 (fun x hx => h1 x (List.mem_append_right _ hx)) (fun x hx => h2 x (List.mem_append_right _ hx)))
theorem same_of_fresh {W W' : World} (hf : Fresh W.heap W'.heap) {p : MemPlace} (hp : p.block < W.heap.size) : W.sameAt W' p := by
  cases p with
  | cell b o => exact World.cell?_of_block (w := W) (hf.keep b hp (fun h => h))
  | map b => exact hf.keep b hp (fun h => h)
end
theorem law_contract {C : Checked} {f : FuncId} {fn : Func} {s : ChangeSpec} {shs : List (Bool × List Pc)} {tb : TypeId} {H : Type} {enc : TypeId × Value → H} (hT : argsT C.prog fn.params.toList = some shs) (hvars : s.vars = [])
    (hspec : ∀ ds : List (DataW H), ds.length = fn.params.size → s.fn H ds = { results := [.lit (.bool true)], args := ds }) (hres : fn.resultTypes = #[tb]) (htb : C.prog.underlying tb = some .bool) (laid : laidOutB C.prog = true)
    (hread : (fn.params.toList.all fun t => C.prog.readableRec t && decide (t < C.prog.types.size)) = true)
    (walk : ∀ (args : List Value) (Hh : Hp), fitL (fitA Hh) shs args → CallH C.prog f args Hh fun v H' => Post (v = .bool true ∧ Fresh Hh H'))
    {W : World} {base : Nat} {args : Array Value} {ds gs : List (DataW H)} {before : List MemPlace} (hval : ∀ (j : Nat) t v, fn.params[j]? = some t → args[j]? = some v → Value.okWide C.prog W .any base t v)
    (hW : DataW.Whole enc C.prog fn.params.toList s.vars false W args.toList ds gs before) :
    Calls C.prog f args W fun e W' => ∃ v, e = .returned v ∧ s.post enc C.prog fn false true false false W args v W' := by
  have hW' := hW
  obtain ⟨p, q, hA, hV, rfl, hfz, hnd⟩ := hW
  have hV' := hV
  rw [hvars] at hV'
  obtain ⟨rfl, rfl⟩ := trodVars_none hV'
  have hfit := argsT_fit (b0 := base) (r := .any) hT (fun j t v hj hv => hval j t v (by simpa using hj) (by simpa using hv)) hA
  have hlen := trodAll_len hA
  have hlt := hW'.lt
  have hc := CallH.law (walk args.toList W.heap hfit)
  rw [Array.toArray_toList] at hc
  refine hc.mono fun e W' ⟨he, hs, hfr⟩ => ?_
  subst he
  have hsp : s.fn H (ds ++ []) = { results := [.lit (.bool true)], args := ds } := by rw [List.append_nil]; exact hspec ds (by simpa using hlen)
  have hread' : ∀ t ∈ fn.params.toList, C.prog.readableRec t = true ∧ t < C.prog.types.size := fun t ht => by
    have := (List.all_eq_true.1 hread) t ht
    simpa using this
  refine ⟨_, rfl, post_of_fresh (pa := p) (pv := []) hW' (fun b sp hd => ?_) (fun sp hsp' => ?_) (fun sp hsp' => by rw [hvars, hsp]; rfl) rfl hs hfr ?_⟩
  · rw [hsp, hres]
    exact trodAll_cons_mk (shut_bool htb _) trodAll_mk0
  · rw [hsp]
    exact trodAll_stays laid hread' hA (fun x hx => same_of_fresh hfr (hlt x (List.mem_append_left _ hx))) (fun x hx => hsp' x (List.mem_append_left _ hx))
  · exact ok_one hres rfl (okWide_bool_mk htb _)
theorem fitA_slc {H : Hp} {v : Value} {ks : List Kd} (h : fitA H (false, [.sl ks]) v) : ∃ rows : List (List Value), RdS H ks.length v rows.length rows.flatten ∧ (∀ r ∈ rows, fitL fitK ks r) ∧ rows.length ≤ maxLen ∧ ∃ a c, v = .slice a rows.length c ∧ rows.length ≤ c := by
  obtain ⟨_, _, e, h, rfl⟩ := h
  injection e with e _
  subst e
  exact h
theorem rows_ints {k : IntKind} : ∀ {rows : List (List Value)}, (∀ r ∈ rows, fitL fitK [.i k] r) → ∃ xs : List Int, rows.flatten = xs.map (Value.int k) ∧ xs.length = rows.length ∧ ∀ x ∈ xs, (Lit.int k x).wf = true := by
  intro rows
  induction rows with
  | nil => intro _; exact ⟨[], rfl, rfl, fun x hx => by cases hx⟩
  | cons r rows ih =>
    intro h
    obtain ⟨xs, e1, e2, e3⟩ := ih fun q hq => h q (List.mem_cons_of_mem _ hq)
    obtain ⟨_, _, rfl, ⟨n, rfl, hw⟩, rfl⟩ := h r List.mem_cons_self
    refine ⟨n :: xs, by simp [e1], by simp [e2], fun x hx => ?_⟩
    rcases List.mem_cons.1 hx with rfl | hx
    · exact hw
    · exact e3 x hx
end Go.Vc
