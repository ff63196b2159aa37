/-
  Texts put behind each other by a program: Hp.
-/
import Derived.Test.YtjlnnljohemifaaGreatK2
import Derived.Laws.Cells
set_option linter.unusedVariables false
namespace Go.Vc
def withO {α : Type} (o : Option α) (F : α → Prop) (_t : Tag F := ⟨⟩) : Prop := match o with | some v => F v | none => False
@[go_sem] theorem withO_some {α : Type} (v : α) (F : α → Prop) : withO (some v) F = F v := (rfl)
@[go_sem] theorem withO_none {α : Type} (F : α → Prop) : withO none F = False := (rfl)
theorem withO_spec {α : Type} {o : Option α} {F : α → Prop} (h : withO o F) : ∃ v, o = some v ∧ F v := by
  cases o with
  | none => exact h.elim
  | some v => exact ⟨v, rfl, h⟩
def now {α : Type} (x : α) (F : α → Prop) (_t : Tag F := ⟨⟩) : Prop := F x
@[go_sem] theorem now_eq {α : Type} (x : α) (F : α → Prop) : now x F = F x := (rfl)
def Both (b : Bool) (F : Bool → Prop) (_t : Tag F := ⟨⟩) : Prop := F b
@[go_sem] theorem Both_true (F : Bool → Prop) : Both true F = F true := (rfl)
@[go_sem] theorem Both_false (F : Bool → Prop) : Both false F = F false := (rfl)
theorem Both.intro {b : Bool} {F : Bool → Prop} (ht : b = true → F true) (hf : b = false → F false) : Both b F := by
  cases b
  · exact hf rfl
  · exact ht rfl
theorem Both.dec {p : Prop} [Decidable p] {F : Bool → Prop} (ht : p → F true) (hf : ¬ p → F false) : Both (decide p) F := by
  by_cases h : p
  · rw [decide_eq_true h]; exact ht h
  · rw [decide_eq_false h]; exact hf h
def Cho (b : Bool) (A B : Prop) (_ta : Tag A := ⟨⟩) (_tb : Tag B := ⟨⟩) : Prop := match b with | true => A | false => B
@[go_sem] theorem Cho_true (A B : Prop) : Cho true A B = A := (rfl)
@[go_sem] theorem Cho_false (A B : Prop) : Cho false A B = B := (rfl)
@[go_sem] theorem beq_tt : (true == true) = true := (rfl)
@[go_sem] theorem beq_tf : (true == false) = false := (rfl)
@[go_sem] theorem beq_ft : (false == true) = false := (rfl)
@[go_sem] theorem beq_ff : (false == false) = true := (rfl)
theorem Both.of_true {b : Bool} {F : Bool → Prop} (hb : b = true) (h : F true) : Both b F := by subst hb; exact h
theorem Both.of_false {b : Bool} {F : Bool → Prop} (hb : b = false) (h : F false) : Both b F := by subst hb; exact h
def Also (c : Prop) (F : Prop) (_t : Tag F := ⟨⟩) : Prop := c ∧ F
@[go_sem] theorem Also_true (F : Prop) : Also True F = F := by simp [Also]
@[go_sem] theorem Also_eq {α : Sort _} (a : α) (F : Prop) : Also (a = a) F = F := by simp [Also]
def Post (p : Prop) (_t : Tag p := ⟨⟩) : Prop := p
theorem Post.out {p : Prop} (h : Post p) : p := h
def boolV (v : Value) (F : Bool → Prop) (_t : Tag F := ⟨⟩) : Prop := match v with | .bool b => Both b F | _ => False
@[go_sem] theorem boolV_bool (b : Bool) (F : Bool → Prop) : boolV (.bool b) F = Both b F := (rfl)
def Hp.rd (H : Hp) (b : Nat) : Option (List Value) := match H[b]? with | some (.cells c _ _) => some c.toList | _ => none
def Hp.own (H : Hp) (b : Nat) : Option (List Value) := match H[b]? with | some (.cells c _ fr) => if fr = (0, 0) then some c.toList else none | _ => none
def Hp.mrk (H : Hp) (b : Nat) : Option (List Value) := match H[b]? with | some (.cells c _ fr) => if fr.2 = fr.1 + 1 ∧ c.size ≤ fr.1 then some c.toList else none | _ => none
def orO {α : Type} (x y : Option α) : Option α := match x with | some v => some v | none => y
@[go_sem] theorem orO_some {α : Type} (v : α) (y : Option α) : orO (some v) y = some v := (rfl)
@[go_sem] theorem orO_none {α : Type} (y : Option α) : orO none y = y := (rfl)
def Hp.wr (H : Hp) (b : Nat) (l : List Value) : Hp := H.modify b fun | .cells _ t fr => .cells l.toArray t fr | o => o
def Hp.mp (H : Hp) (b : Nat) : Option (List MapEntry × Nat) := match H[b]? with | some (.map es k) => some (es.toList, k) | _ => none
def Hp.wrm (H : Hp) (b : Nat) (es : List MapEntry) (k : Nat) : Hp := H.setIfInBounds b (.map es.toArray k)
def Hp.new (H : Hp) (T : TypeId) (l : List Value) : Hp := H.push (.cells l.toArray T)
def Hp.newk (H : Hp) (T : TypeId) (l : List Value) : Hp := H.push (.cells l.toArray T (l.length, l.length + 1))
def Hp.newm (H : Hp) : Hp := H.push (.map #[] 0)
theorem rd_of_own {H : Hp} {b : Nat} {l : List Value} (h : H.own b = some l) : H.rd b = some l := by
  unfold Hp.own at h
  unfold Hp.rd
  split at h
  · rename_i c t fr hb
    split at h
    · simpa using h
    · cases h
  · cases h
theorem own_lt {H : Hp} {b : Nat} {l : List Value} (h : H.own b = some l) : b < H.size := by
  rcases Nat.lt_or_ge b H.size with h' | h'
  · exact h'
  · simp [Hp.own, Array.getElem?_eq_none h'] at h
theorem rd_lt {H : Hp} {b : Nat} {l : List Value} (h : H.rd b = some l) : b < H.size := by
  rcases Nat.lt_or_ge b H.size with h' | h'
  · exact h'
  · simp [Hp.rd, Array.getElem?_eq_none h'] at h
theorem mp_lt {H : Hp} {b : Nat} {x : List MapEntry × Nat} (h : H.mp b = some x) : b < H.size := by
  rcases Nat.lt_or_ge b H.size with h' | h'
  · exact h'
  · simp [Hp.mp, Array.getElem?_eq_none h'] at h
theorem rd_of_mrk {H : Hp} {b : Nat} {l : List Value} (h : H.mrk b = some l) : H.rd b = some l := by
  unfold Hp.mrk at h
  unfold Hp.rd
  split at h
  · rename_i c t fr hb
    split at h
    · simpa using h
    · cases h
  · cases h
theorem own_of_mrk {H : Hp} {b : Nat} {l : List Value} (h : H.mrk b = some l) : H.own b = none := by
  unfold Hp.mrk at h
  unfold Hp.own
  split at h
  · rename_i c t fr hb
    split at h
    · rename_i hf
      refine if_neg fun e => ?_
      rw [e] at hf
      simp at hf
    · cases h
  · cases h
theorem orO_spec {H : Hp} {b : Nat} {l : List Value} (h : orO (H.own b) (H.mrk b) = some l) : H.own b = some l ∨ H.mrk b = some l := by
  cases ho : H.own b with
  | none => rw [ho, orO_none] at h; exact .inr h
  | some x => rw [ho, orO_some] at h; injection h with h; subst h; exact .inl rfl
theorem rd_of_orO {H : Hp} {b : Nat} {l : List Value} (h : orO (H.own b) (H.mrk b) = some l) : H.rd b = some l := by
  rcases orO_spec h with h | h
  · exact rd_of_own h
  · exact rd_of_mrk h
theorem orO_of_mrk {H : Hp} {b : Nat} {l : List Value} (h : H.mrk b = some l) : orO (H.own b) (H.mrk b) = some l := by rw [own_of_mrk h, h]; rfl
theorem orO_of_own {H : Hp} {b : Nat} {l : List Value} (h : H.own b = some l) : orO (H.own b) (H.mrk b) = some l := by rw [h]; rfl
@[go_sem] theorem size_wr (H : Hp) (b : Nat) (l : List Value) : (H.wr b l).size = H.size := by simp [Hp.wr]
@[go_sem] theorem size_wrm (H : Hp) (b : Nat) (es : List MapEntry) (k : Nat) : (H.wrm b es k).size = H.size := by simp [Hp.wrm]
@[go_sem] theorem size_new (H : Hp) (T : TypeId) (l : List Value) : (H.new T l).size = H.size + 1 := by simp [Hp.new]
@[go_sem] theorem size_newm (H : Hp) : H.newm.size = H.size + 1 := by simp [Hp.newm]
@[go_sem] theorem size_newk (H : Hp) (T : TypeId) (l : List Value) : (H.newk T l).size = H.size + 1 := by simp [Hp.newk]
theorem get_newk_lt (H : Hp) {c : Nat} (T : TypeId) (l : List Value) (h : c < H.size) : (H.newk T l)[c]? = H[c]? := by simp [Hp.newk, Array.getElem?_push, show c ≠ H.size by omega]
theorem get_wr_ne (H : Hp) {b c : Nat} (l : List Value) (h : b ≠ c) : (H.wr b l)[c]? = H[c]? := by simp [Hp.wr, Array.getElem?_modify, h]
theorem get_wrm_ne (H : Hp) {b c : Nat} (es : List MapEntry) (k : Nat) (h : b ≠ c) : (H.wrm b es k)[c]? = H[c]? := by simp [Hp.wrm, Array.getElem?_setIfInBounds_ne h]
theorem get_new_lt (H : Hp) {c : Nat} (T : TypeId) (l : List Value) (h : c < H.size) : (H.new T l)[c]? = H[c]? := by simp [Hp.new, Array.getElem?_push, show c ≠ H.size by omega]
theorem get_newm_lt (H : Hp) {c : Nat} (h : c < H.size) : H.newm[c]? = H[c]? := by simp [Hp.newm, Array.getElem?_push, show c ≠ H.size by omega]
theorem rd_congr {H H' : Hp} {b : Nat} (h : H'[b]? = H[b]?) : H'.rd b = H.rd b := by unfold Hp.rd; rw [h]
theorem own_congr {H H' : Hp} {b : Nat} (h : H'[b]? = H[b]?) : H'.own b = H.own b := by unfold Hp.own; rw [h]
theorem mp_congr {H H' : Hp} {b : Nat} (h : H'[b]? = H[b]?) : H'.mp b = H.mp b := by unfold Hp.mp; rw [h]
theorem rd_wr_ne {H : Hp} {b c : Nat} {l : List Value} (h : b ≠ c) : (H.wr b l).rd c = H.rd c := rd_congr (get_wr_ne H l h)
theorem own_wr_ne {H : Hp} {b c : Nat} {l : List Value} (h : b ≠ c) : (H.wr b l).own c = H.own c := own_congr (get_wr_ne H l h)
theorem mp_wr_ne {H : Hp} {b c : Nat} {l : List Value} (h : b ≠ c) : (H.wr b l).mp c = H.mp c := mp_congr (get_wr_ne H l h)
theorem rd_wrm_ne {H : Hp} {b c : Nat} {es : List MapEntry} {k : Nat} (h : b ≠ c) : (H.wrm b es k).rd c = H.rd c := rd_congr (get_wrm_ne H es k h)
theorem own_wrm_ne {H : Hp} {b c : Nat} {es : List MapEntry} {k : Nat} (h : b ≠ c) : (H.wrm b es k).own c = H.own c := own_congr (get_wrm_ne H es k h)
theorem mp_wrm_ne {H : Hp} {b c : Nat} {es : List MapEntry} {k : Nat} (h : b ≠ c) : (H.wrm b es k).mp c = H.mp c := mp_congr (get_wrm_ne H es k h)
theorem rd_new_lt {H : Hp} {c : Nat} {T : TypeId} {l : List Value} (h : c < H.size) : (H.new T l).rd c = H.rd c := rd_congr (get_new_lt H T l h)
theorem own_new_lt {H : Hp} {c : Nat} {T : TypeId} {l : List Value} (h : c < H.size) : (H.new T l).own c = H.own c := own_congr (get_new_lt H T l h)
theorem mp_new_lt {H : Hp} {c : Nat} {T : TypeId} {l : List Value} (h : c < H.size) : (H.new T l).mp c = H.mp c := mp_congr (get_new_lt H T l h)
theorem rd_newm_lt {H : Hp} {c : Nat} (h : c < H.size) : H.newm.rd c = H.rd c := rd_congr (get_newm_lt H h)
theorem own_newm_lt {H : Hp} {c : Nat} (h : c < H.size) : H.newm.own c = H.own c := own_congr (get_newm_lt H h)
theorem mp_newm_lt {H : Hp} {c : Nat} (h : c < H.size) : H.newm.mp c = H.mp c := mp_congr (get_newm_lt H h)
@[go_sem] theorem own_new (H : Hp) (T : TypeId) (l : List Value) : (H.new T l).own H.size = some l := by simp [Hp.own, Hp.new]
@[go_sem] theorem rd_new (H : Hp) (T : TypeId) (l : List Value) : (H.new T l).rd H.size = some l := by simp [Hp.rd, Hp.new]
@[go_sem] theorem mp_newm (H : Hp) : H.newm.mp H.size = some ([], 0) := by simp [Hp.mp, Hp.newm]
theorem rd_new_eq {H : Hp} {c : Nat} {T : TypeId} {l : List Value} (h : c = H.size) : (H.new T l).rd c = some l := by subst h; exact rd_new H T l
theorem own_new_eq {H : Hp} {c : Nat} {T : TypeId} {l : List Value} (h : c = H.size) : (H.new T l).own c = some l := by subst h; exact own_new H T l
theorem mp_newm_eq {H : Hp} {c : Nat} (h : c = H.size) : H.newm.mp c = some ([], 0) := by subst h; exact mp_newm H
theorem own_wr_same {H : Hp} {b : Nat} {l l' : List Value} (h : H.own b = some l') : (H.wr b l).own b = some l := by
  unfold Hp.own at h
  split at h
  · rename_i c t fr hb
    split at h
    · rename_i hf
      simp [Hp.own, Hp.wr, Array.getElem?_modify, hb, hf]
    · cases h
  · cases h
theorem mrk_wr_same {H : Hp} {b : Nat} {l l' : List Value} (h : H.mrk b = some l') (hl : l.length = l'.length) : (H.wr b l).mrk b = some l := by
  unfold Hp.mrk at h
  split at h
  · rename_i c t fr hb
    split at h
    · rename_i hf
      injection h with h
      have hc : c.size = l.length := by rw [hl, ← h]; simp
      simp [Hp.mrk, Hp.wr, Array.getElem?_modify, hb, hf.1]
      omega
    · cases h
  · cases h
theorem orO_wr_same {H : Hp} {b : Nat} {l l' : List Value} (h : orO (H.own b) (H.mrk b) = some l') (hl : l.length = l'.length) : orO ((H.wr b l).own b) ((H.wr b l).mrk b) = some l := by
  rcases orO_spec h with h | h
  · exact orO_of_own (own_wr_same h)
  · exact orO_of_mrk (mrk_wr_same h hl)
theorem rd_wr_same {H : Hp} {b : Nat} {l l' : List Value} (h : H.own b = some l') : (H.wr b l).rd b = some l := rd_of_own (own_wr_same h)
theorem mp_wrm_same {H : Hp} {b : Nat} {es : List MapEntry} {k : Nat} {x : List MapEntry × Nat} (h : H.mp b = some x) : (H.wrm b es k).mp b = some (es, k) := by
  have := mp_lt h
  simp [Hp.mp, Hp.wrm, this]
structure Ext (S : Nat → Prop) (H H' : Hp) : Prop where
  size : H.size ≤ H'.size
  keep : ∀ b, b < H.size → ¬ S b → H'[b]? = H[b]?
theorem Ext.refl (S : Nat → Prop) (H : Hp) : Ext S H H := ⟨Nat.le_refl _, fun _ _ _ => rfl⟩
theorem Ext.mono {S S' : Nat → Prop} {H H' : Hp} (h : Ext S H H') (hs : ∀ b, b < H.size → S b → S' b) : Ext S' H H' :=
  ⟨h.size, fun b hb hn => h.keep b hb fun s => hn (hs b hb s)⟩
theorem Ext.trans {S : Nat → Prop} {A B C : Hp} (h : Ext S A B) (k : Ext S B C) : Ext S A C :=
  ⟨Nat.le_trans h.size k.size, fun b hb hn => (k.keep b (Nat.lt_of_lt_of_le hb h.size) hn).trans (h.keep b hb hn)⟩
theorem Ext.trans' {S S' : Nat → Prop} {A B C : Hp} (h : Ext S A B) (k : Ext S' B C) (hs : ∀ b, b < A.size → S' b → S b) : Ext S A C :=
  ⟨Nat.le_trans h.size k.size, fun b hb hn => (k.keep b (Nat.lt_of_lt_of_le hb h.size) fun s => hn (hs b hb s)).trans (h.keep b hb hn)⟩
theorem Ext.wr {S : Nat → Prop} {A H : Hp} (h : Ext S A H) {b : Nat} (hb : b < A.size → S b) (l : List Value) : Ext S A (H.wr b l) :=
  ⟨by rw [size_wr]; exact h.size, fun c hc hn => (get_wr_ne H l fun e => hn (by subst e; exact hb hc)).trans (h.keep c hc hn)⟩
theorem Ext.wrm {S : Nat → Prop} {A H : Hp} (h : Ext S A H) {b : Nat} (hb : b < A.size → S b) (es : List MapEntry) (k : Nat) : Ext S A (H.wrm b es k) :=
  ⟨by rw [size_wrm]; exact h.size, fun c hc hn => (get_wrm_ne H es k fun e => hn (by subst e; exact hb hc)).trans (h.keep c hc hn)⟩
theorem Ext.new {S : Nat → Prop} {A H : Hp} (h : Ext S A H) (T : TypeId) (l : List Value) : Ext S A (H.new T l) :=
  ⟨by rw [size_new]; exact Nat.le_succ_of_le h.size, fun c hc hn => (get_new_lt H T l (Nat.lt_of_lt_of_le hc h.size)).trans (h.keep c hc hn)⟩
theorem Ext.newm {S : Nat → Prop} {A H : Hp} (h : Ext S A H) : Ext S A H.newm :=
  ⟨by rw [size_newm]; exact Nat.le_succ_of_le h.size, fun c hc hn => (get_newm_lt H (Nat.lt_of_lt_of_le hc h.size)).trans (h.keep c hc hn)⟩
theorem Ext.rd {S : Nat → Prop} {H H' : Hp} (h : Ext S H H') {b : Nat} {l : List Value} (hb : H.rd b = some l) (hn : ¬ S b) : H'.rd b = some l :=
  (rd_congr (h.keep b (rd_lt hb) hn)).trans hb
theorem Ext.own {S : Nat → Prop} {H H' : Hp} (h : Ext S H H') {b : Nat} {l : List Value} (hb : H.own b = some l) (hn : ¬ S b) : H'.own b = some l :=
  (own_congr (h.keep b (own_lt hb) hn)).trans hb
theorem Ext.mp {S : Nat → Prop} {H H' : Hp} (h : Ext S H H') {b : Nat} {x : List MapEntry × Nat} (hb : H.mp b = some x) (hn : ¬ S b) : H'.mp b = some x :=
  (mp_congr (h.keep b (mp_lt hb) hn)).trans hb
def Fresh (H H' : Hp) : Prop := Ext (fun _ => False) H H'
def splice (l : List Value) (off : Nat) : List Value → List Value
  | [] => l
  | v :: vs => splice (l.set off v) (off + 1) vs
@[go_sem] theorem splice_nil (l : List Value) (off : Nat) : splice l off [] = l := (rfl)
@[go_sem] theorem splice_cons (l : List Value) (off : Nat) (v : Value) (vs : List Value) : splice l off (v :: vs) = splice (l.set off v) (off + 1) vs := (rfl)
theorem length_splice (vs : List Value) : ∀ (l : List Value) (off : Nat), (splice l off vs).length = l.length := by
  induction vs with
  | nil => intro l off; rfl
  | cons v vs ih => intro l off; rw [splice_cons, ih]; simp
theorem getElem?_splice (vs : List Value) : ∀ (l : List Value) (off j : Nat), off + vs.length ≤ l.length →
    (splice l off vs)[j]? = if off ≤ j ∧ j < off + vs.length then vs[j - off]? else l[j]? := by
  induction vs with
  | nil => intro l off j _; rw [if_neg (by simp only [List.length_nil]; omega)]; rfl
  | cons v vs ih =>
    intro l off j h
    simp only [List.length_cons] at h
    rw [splice_cons, ih _ _ _ (by simp; omega)]
    by_cases h1 : off + 1 ≤ j ∧ j < off + 1 + vs.length
    · rw [if_pos h1, if_pos ⟨by omega, by simp; omega⟩, show j - off = (j - (off + 1)) + 1 by omega, List.getElem?_cons_succ]
    · rw [if_neg h1]
      by_cases h2 : off = j
      · subst h2
        rw [if_pos ⟨Nat.le_refl _, by simp⟩, List.getElem?_set_self (by omega)]
        simp
      · rw [List.getElem?_set_ne h2, if_neg (fun hx => h1 ⟨by omega, by simp at hx; omega⟩)]
def vcells : Value → List Value
  | .agg cs => cs.toList
  | v => [v]
theorem vcells_eq (v : Value) : v.cells.toList = vcells v := by cases v <;> rfl
@[go_sem] theorem vcells_agg (l : List Value) : vcells (.agg l.toArray) = l := (rfl)
@[go_sem] theorem vcells_bool (b : Bool) : vcells (.bool b) = [.bool b] := (rfl)
@[go_sem] theorem vcells_int (k : IntKind) (n : Int) : vcells (.int k n) = [.int k n] := (rfl)
@[go_sem] theorem vcells_string (s : ByteArray) : vcells (.string s) = [.string s] := (rfl)
@[go_sem] theorem vcells_pointer (a : Option Addr) : vcells (.pointer a) = [.pointer a] := (rfl)
@[go_sem] theorem vcells_slice (a : Option Addr) (n c : Nat) : vcells (.slice a n c) = [.slice a n c] := (rfl)
@[go_sem] theorem vcells_map (r : Option Nat) : vcells (.map r) = [.map r] := (rfl)
@[go_sem] theorem vcells_iface (t : TypeId) (v : Value) : vcells (.iface t v) = [.iface t v] := (rfl)
@[go_sem] theorem vcells_nilIface : vcells .nilIface = [.nilIface] := (rfl)
@[go_sem] theorem vcells_nilFunc : vcells .nilFunc = [.nilFunc] := (rfl)
@[go_sem] theorem vcells_func (f : Fn) (a b : Array Value) : vcells (.func f a b) = [.func f a b] := (rfl)
@[go_sem] theorem one_bool (b : Bool) : (Value.bool b).oneCell' = true := (rfl)
@[go_sem] theorem one_int (k : IntKind) (n : Int) : (Value.int k n).oneCell' = true := (rfl)
@[go_sem] theorem one_string (s : ByteArray) : (Value.string s).oneCell' = true := (rfl)
@[go_sem] theorem one_pointer (a : Option Addr) : (Value.pointer a).oneCell' = true := (rfl)
@[go_sem] theorem one_slice (a : Option Addr) (n c : Nat) : (Value.slice a n c).oneCell' = true := (rfl)
@[go_sem] theorem one_map (r : Option Nat) : (Value.map r).oneCell' = true := (rfl)
@[go_sem] theorem one_iface (t : TypeId) (v : Value) : (Value.iface t v).oneCell' = true := (rfl)
@[go_sem] theorem one_nilIface : Value.nilIface.oneCell' = true := (rfl)
@[go_sem] theorem one_nilFunc : Value.nilFunc.oneCell' = true := (rfl)
@[go_sem] theorem one_func (f : Fn) (a b : Array Value) : (Value.func f a b).oneCell' = true := (rfl)
def allOneB : List Value → Bool
  | [] => true
  | v :: l => v.oneCell' && allOneB l
@[go_sem] theorem allOneB_nil : allOneB [] = true := (rfl)
@[go_sem] theorem allOneB_cons (v : Value) (l : List Value) : allOneB (v :: l) = (v.oneCell' && allOneB l) := (rfl)
def allOne (l : List Value) : Prop := ∀ v ∈ l, v.oneCell' = true
@[go_sem] theorem allOne_nil : allOne [] = True := by simp [allOne]
@[go_sem] theorem allOne_cons (v : Value) (l : List Value) : allOne (v :: l) = (v.oneCell' = true ∧ allOne l) := by simp [allOne]
theorem allOne_of {l : List Value} (h : allOneB l = true) : allOne l := by
  induction l with
  | nil => intro v hv; cases hv
  | cons x l ih =>
    simp only [allOneB, Bool.and_eq_true] at h
    intro v hv
    rcases List.mem_cons.1 hv with rfl | hv
    · exact h.1
    · exact ih h.2 v hv
theorem cell_of_rd {w : World} {a : Addr} {l : List Value} (hs : a.spot = none) (h : Hp.rd w.heap a.block = some l) : w.cell? a = l[a.off]? := by
  unfold Hp.rd at h
  unfold World.cell?
  split at h
  · rename_i c t fr hb
    injection h with h
    rw [hb]
    simp [hs, ← h]
  · cases h
theorem add_spot {a : Addr} (hs : a.spot = none) (n : Nat) : a.add n = ⟨a.block, a.off + n, none⟩ := by
  unfold Addr.add
  split
  · rename_i h; subst h; cases a; simp_all
  · rfl
@[go_sem] theorem add_mk (b o n : Nat) : (⟨b, o, none⟩ : Addr).add n = ⟨b, o + n, none⟩ := add_spot rfl n
theorem run_loadCells_rd {P : Program} {w : World} {a : Addr} {l : List Value} {n : Nat} (hs : a.spot = none) (h : Hp.rd w.heap a.block = some l) (hn : a.off + n ≤ l.length) :
    (loadCells a n).run P w = .ok ((l.drop a.off).take n).toArray w := by
  have hl : ((l.drop a.off).take n).length = n := by simp; omega
  have h1 := run_loadCells_list (P := P) w a ((l.drop a.off).take n) fun j v hj => by
    rw [add_spot hs]
    refine (cell_of_rd (a := ⟨a.block, a.off + j, none⟩) (l := l) rfl h).trans ?_
    show l[a.off + j]? = some v
    have hjn : j < n := by
      rcases Nat.lt_or_ge j n with h' | h'
      · exact h'
      · rw [List.getElem?_eq_none (by omega)] at hj; cases hj
    rw [List.getElem?_take_of_lt hjn, List.getElem?_drop] at hj
    exact hj
  rw [hl] at h1
  exact h1
theorem heap_setCell (w : World) (b o : Nat) (v : Value) {l : List Value} (h : Hp.rd w.heap b = some l) : (w.setCell ⟨b, o, none⟩ v).heap = Hp.wr w.heap b (l.set o v) := by
  unfold Hp.rd at h
  split at h
  · rename_i c t fr hb
    injection h with h
    have hlt : b < w.heap.size := (Array.getElem?_eq_some_iff.1 hb).1
    simp only [World.setCell, Hp.wr]
    apply Array.ext_getElem?
    intro i
    rw [Array.getElem?_modify, Array.getElem?_modify]
    by_cases hi : b = i
    · subst hi
      rw [if_pos rfl, if_pos rfl, hb]
      simp [← h]
      exact Array.ext' (by simp)
    · rw [if_neg hi, if_neg hi]
  · cases h
theorem frozen_of_own {w : World} {b : Nat} {l : List Value} (h : Hp.own w.heap b = some l) (o : Nat) : w.frozen? ⟨b, o, none⟩ = false := by
  unfold Hp.own at h
  unfold World.frozen?
  split at h
  · rename_i c t fr hb
    split at h
    · rename_i hf; rw [hb]; simp [hf]
    · cases h
  · cases h
theorem frozen_of_orO {w : World} {b : Nat} {l : List Value} (h : orO (Hp.own w.heap b) (Hp.mrk w.heap b) = some l) {o : Nat} (ho : o < l.length) : w.frozen? ⟨b, o, none⟩ = false := by
  rcases orO_spec h with h | h
  · exact frozen_of_own h o
  · unfold Hp.mrk at h
    unfold World.frozen?
    split at h
    · rename_i c t fr hb
      split at h
      · rename_i hf
        injection h with h
        have hc : c.size = l.length := by rw [← h]; simp
        rw [hb]
        simp
        omega
      · cases h
    · cases h
@[go_sem] theorem wr_wr {H : Hp} {b : Nat} {l l' : List Value} : (H.wr b l).wr b l' = H.wr b l' := by
  unfold Hp.wr
  apply Array.ext_getElem?
  intro i
  rw [Array.getElem?_modify, Array.getElem?_modify, Array.getElem?_modify]
  by_cases hi : b = i
  · subst hi
    simp only [if_true]
    cases H[b]? with
    | none => rfl
    | some x => cases x <;> rfl
  · simp [hi]
theorem run_storeCells_own {P : Program} {b o : Nat} : ∀ (vs : List Value) (i : Nat) (w : World) (l : List Value), orO (Hp.own w.heap b) (Hp.mrk w.heap b) = some l → o + i + vs.length ≤ l.length → allOne vs →
    ∃ w', (storeCells ⟨b, o, none⟩ vs i).run P w = .ok () w' ∧ Same w w' ∧ (vs ≠ [] → w'.heap = Hp.wr w.heap b (splice l (o + i) vs)) ∧ (vs = [] → w'.heap = w.heap) := by
  intro vs
  induction vs with
  | nil => intro i w l _ _ _; exact ⟨w, rfl, Same.refl w, fun h => absurd rfl h, fun _ => rfl⟩
  | cons v vs ih =>
    intro i w l h hn h1
    have hv : v.oneCell' = true := h1 v List.mem_cons_self
    simp only [List.length_cons] at hn
    have hc : w.cell? ⟨b, o + i, none⟩ = some l[o + i] := by rw [cell_of_rd (l := l) rfl (rd_of_orO h)]; simp [show o + i < l.length by omega]
    have hst : (store ((⟨b, o, none⟩ : Addr).add i) v).run P w = .ok () (w.setCell ⟨b, o + i, none⟩ v) := by
      rw [add_mk, run_store P w _ v .plain hv, hc]
      simp [frozen_of_orO h (show o + i < l.length by omega)]
    have hh := heap_setCell w b (o + i) v (rd_of_orO h)
    have how : orO (Hp.own (w.setCell ⟨b, o + i, none⟩ v).heap b) (Hp.mrk (w.setCell ⟨b, o + i, none⟩ v).heap b) = some (l.set (o + i) v) := by rw [hh]; exact orO_wr_same h (by simp)
    obtain ⟨w', hr, hs, hk, hk0⟩ := ih (i + 1) (w.setCell ⟨b, o + i, none⟩ v) (l.set (o + i) v) how (by simp; omega) (fun x hx => h1 x (List.mem_cons_of_mem _ hx))
    refine ⟨w', ?_, ⟨hs.os, hs.output⟩, fun _ => ?_, fun h => by cases h⟩
    · simp only [storeCells, Sem.run_bind, hst, Result.andThen_ok]
      exact hr
    · rw [splice_cons]
      cases vs with
      | nil => rw [hk0 rfl, hh]; rfl
      | cons x xs => rw [hk (by simp), hh, wr_wr]; rfl
end Go.Vc
