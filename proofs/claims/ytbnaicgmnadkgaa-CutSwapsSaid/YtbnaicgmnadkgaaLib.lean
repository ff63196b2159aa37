/-
  Words for what lies in memory: slices of the call's own, maps with numbers as keys; and what the operations do to them.
-/
import Derived.Test.YtbnaicgmnadkgaaFun
set_option linter.unusedVariables false
set_option linter.unusedSimpArgs false
namespace Go.Vc

/-! ### Numbers -/

theorem wrap64 {n : Int} (h0 : -9223372036854775808 ≤ n) (h1 : n ≤ 9223372036854775807) : IntKind.i64.wrap n = n := by
  have e : (2 ^ IntKind.i64.bits : Int) = 18446744073709551616 := rfl
  have e' : (2 ^ (IntKind.i64.bits - 1) : Int) = 9223372036854775808 := rfl
  unfold IntKind.wrap
  simp only [e, e', IntKind.signed, Bool.true_and, decide_eq_true_eq]
  split <;> omega

theorem wrapU64 {n : Int} (h0 : 0 ≤ n) (h1 : n ≤ 18446744073709551615) : IntKind.u64.wrap n = n := by
  have e : (2 ^ IntKind.u64.bits : Int) = 18446744073709551616 := rfl
  unfold IntKind.wrap
  simp only [e, IntKind.signed, Bool.false_and]
  rw [if_neg (by simp)]; omega

theorem wrapU8 {n : Int} (h0 : 0 ≤ n) (h1 : n ≤ 255) : IntKind.u8.wrap n = n := by
  have e : (2 ^ IntKind.u8.bits : Int) = 256 := rfl
  unfold IntKind.wrap
  simp only [e, IntKind.signed, Bool.false_and]
  rw [if_neg (by simp)]; omega

theorem wrapU32 {n : Int} (h0 : 0 ≤ n) (h1 : n ≤ 4294967295) : IntKind.u32.wrap n = n := by
  have e : (2 ^ IntKind.u32.bits : Int) = 4294967296 := rfl
  unfold IntKind.wrap
  simp only [e, IntKind.signed, Bool.false_and]
  rw [if_neg (by simp)]; omega

/-! ### Slices -/

/-- A slice of n elements of some cells each, over a block of its own (or nil). -/
def Sl (H : Hp) (size : Nat) (v : Value) (n : Nat) (xs : List Value) (fp : Option Nat) : Prop :=
  xs.length = n * size ∧
  match fp with
  | none => n = 0 ∧ v = .slice none 0 0
  | some b => ∃ l c, v = .slice (some ⟨b, 0, none⟩) n c ∧ H.own b = some l ∧ n ≤ c ∧ c * size ≤ l.length ∧ l.take (n * size) = xs

theorem Sl.nil (H : Hp) (size : Nat) : Sl H size (.slice none 0 0) 0 [] none := ⟨by simp, rfl, rfl⟩

theorem Sl.ext {H H' : Hp} {size n : Nat} {v : Value} {xs : List Value} {fp : Option Nat} {S : Nat → Prop} (h : Sl H size v n xs fp) (e : Ext S H H') (hs : ∀ b, fp = some b → ¬ S b) : Sl H' size v n xs fp := by
  obtain ⟨hl, h⟩ := h
  refine ⟨hl, ?_⟩
  cases fp with
  | none => exact h
  | some b =>
    obtain ⟨l, c, h1, h2, h3⟩ := h
    exact ⟨l, c, h1, e.own h2 (hs b rfl), h3⟩

theorem Sl.lt {H : Hp} {size n : Nat} {v : Value} {xs : List Value} {b : Nat} (h : Sl H size v n xs (some b)) : b < H.size := by
  obtain ⟨_, l, c, _, h2, _⟩ := h
  exact own_lt h2

/-- A new literal. -/
theorem Sl.lit (H : Hp) (T : TypeId) (size n : Nat) (xs : List Value) (hx : xs.length = n * size) : Sl (H.new T xs) size (.slice (some ⟨H.size, 0, none⟩) n n) n xs (some H.size) :=
  ⟨hx, xs, n, rfl, own_new H T xs, Nat.le_refl _, by omega, by rw [← hx]; simp⟩

theorem Sl.lit_at {H : Hp} {T : TypeId} {size n b : Nat} {xs : List Value} (hx : xs.length = n * size) (hb : b = H.size) : Sl (H.new T xs) size (.slice (some ⟨b, 0, none⟩) n n) n xs (some b) :=
  hb ▸ Sl.lit H T size n xs hx

/-- A slice that is read: a block, an offset, its cells. -/
def RdS (H : Hp) (size : Nat) (v : Value) (n : Nat) (xs : List Value) : Prop :=
  xs.length = n * size ∧ ((n = 0 ∧ ∃ a c, v = .slice a 0 c) ∨ ∃ b o c l, v = .slice (some ⟨b, o, none⟩) n c ∧ H.rd b = some l ∧ o + n * size ≤ l.length ∧ (l.drop o).take (n * size) = xs)

theorem Sl.rd {H : Hp} {size n : Nat} {v : Value} {xs : List Value} {fp : Option Nat} (h : Sl H size v n xs fp) : RdS H size v n xs := by
  obtain ⟨hl, h⟩ := h
  refine ⟨hl, ?_⟩
  cases fp with
  | none => exact .inl ⟨h.1, none, 0, h.2⟩
  | some b =>
    obtain ⟨l, c, h1, h2, h3, h4, h5⟩ := h
    refine .inr ⟨b, 0, c, l, h1, rd_of_own h2, ?_, by simpa using h5⟩
    have := Nat.mul_le_mul_right size h3
    omega

theorem RdS.rowOf {H : Hp} {size n : Nat} {v : Value} {xs : List Value} {F : Nat → List Value → Prop} (h : RdS H size v n xs) (hf : F n xs) : rowOf H size v F := by
  obtain ⟨hl, ⟨rfl, a, c, rfl⟩ | ⟨b, o, c, l, rfl, h2, h3, h4⟩⟩ := h
  · have : xs = [] := List.length_eq_zero_iff.1 (by omega)
    subst this
    exact hf
  · by_cases hn : n = 0
    · subst hn
      have : xs = [] := List.length_eq_zero_iff.1 (by omega)
      subst this
      exact hf
    · have e0 : (n == 0) = false := by simpa using hn
      show Cho (n == 0) _ _
      rw [e0]
      show withO (H.rd b) _
      rw [h2]
      exact ⟨h3, by rw [h4]; exact hf⟩

theorem RdS.ext {H H' : Hp} {size n : Nat} {v : Value} {xs : List Value} {S : Nat → Prop} (h : RdS H size v n xs) (e : Ext S H H') (hs : ∀ b, b < H.size → ¬ S b) : RdS H' size v n xs := by
  obtain ⟨hl, h | ⟨b, o, c, l, rfl, h2, h3⟩⟩ := h
  · exact ⟨hl, .inl h⟩
  · exact ⟨hl, .inr ⟨b, o, c, l, rfl, e.rd h2 (hs b (rd_lt h2)), h3⟩⟩
theorem RdS.fresh {H H' : Hp} {size n : Nat} {v : Value} {xs : List Value} (h : RdS H size v n xs) (e : Fresh H H') : RdS H' size v n xs := h.ext e fun _ _ h => h

theorem take_splice {l xs new : List Value} {p : Nat} (hx : l.take p = xs) (hp : xs.length = p) (hn : p + new.length ≤ l.length) : (splice l p new).take (p + new.length) = xs ++ new := by
  apply List.ext_getElem?
  intro i
  by_cases hi : i < p + new.length
  · rw [List.getElem?_take_of_lt hi, getElem?_splice new l p i hn]
    by_cases h1 : p ≤ i
    · rw [if_pos ⟨h1, hi⟩, List.getElem?_append_right (by omega), hp]
    · rw [if_neg (fun h => h1 h.1), List.getElem?_append_left (by omega), ← hx, List.getElem?_take_of_lt (by omega)]
  · rw [List.getElem?_eq_none (by simp; omega), List.getElem?_eq_none (by simp; omega)]

/-- append onto a slice of the call's own. -/
theorem Sl.append {H : Hp} {T size bytes n m : Nat} {z : List Value} {s x : Value} {xs ys : List Value} {fp : Option Nat} {K : Value → Hp → Prop} (h : Sl H size s n xs fp) (hx : RdS H size x m ys)
    (hz : z.length = size) (h1 : allOne ys) (hb : (n + m) * bytes ≤ 2 ^ 47)
    (hk : ∀ v' H' fp', Sl H' size v' (n + m) (xs ++ ys) fp' → Ext (fun b => fp = some b) H H' → (fp' = fp ∨ ∃ b, fp' = some b ∧ H.size ≤ b ∧ b < H'.size) → K v' H') :
    AppendV T size bytes z s x H K := by
  obtain ⟨hl, h⟩ := h
  have key : ∀ base c, s = .slice base n c → (∀ b, base = some b → fp ≠ none) → AppendV T size bytes z s x H K := by
    intro base c hs hbase
    subst hs
    refine RdS.rowOf hx (F := fun m new => (n + m ≤ c → m = 0 → K (.slice base n c) H) ∧
      (n + m ≤ c → m ≠ 0 → baseV base fun b o => withO (orO (H.own b) (H.mrk b)) fun l => Also (o + (n + m) * size ≤ l.length ∧ allOne new) (K (.slice base (n + m) c) (H.wr b (splice l (o + n * size) new)))) ∧
      (c < n + m → Builtin.nextslicecap (n + m) c * bytes ≤ 2 ^ 48 ∧
        rowOf H size (.slice base n c) fun _ old => ∀ c', n + m ≤ c' → K (.slice (some ⟨H.size, 0, none⟩) (n + m) c') (H.new T (old ++ new ++ padZ z (c' - (n + m)))))) ?_
    refine ⟨fun hle hm => ?_, fun hle hm => ?_, fun hlt => ⟨?_, ?_⟩⟩
    · subst hm
      have hy : ys = [] := List.length_eq_zero_iff.1 (by have := hx.1; omega)
      subst hy
      exact hk _ _ fp (by rw [List.append_nil]; exact ⟨by simpa using hl, h⟩) (Ext.refl _ _) (.inl rfl)
    · cases fp with
      | none =>
        obtain ⟨rfl, hv⟩ := h
        injection hv with e1 e2 e3
        omega
      | some b =>
        obtain ⟨l, c', hv, h2, h3, h4, h5⟩ := h
        injection hv with e1 e2 e3
        subst e1; subst e3
        show withO (orO (H.own b) (H.mrk b)) _
        rw [h2]
        have h6 := Nat.mul_le_mul_right size hle
        refine ⟨⟨by omega, h1⟩, ?_⟩
        rw [Nat.zero_add]
        refine hk _ _ (some b) ⟨by simp [hl, hx.1, Nat.add_mul], _, c, rfl, own_wr_same h2, hle, by rw [length_splice]; exact h4, ?_⟩ ((Ext.refl (fun x => some b = some x) H).wr (fun _ => rfl) _) (.inl rfl)
        have := take_splice (new := ys) h5 hl (by rw [hx.1]; rw [Nat.add_mul] at h6; omega)
        rw [hx.1] at this
        rw [Nat.add_mul]; exact this
    · have h2 : Builtin.nextslicecap (n + m) c ≤ 2 * (n + m) := nextslicecap_le hlt
      have h3 := Nat.mul_le_mul_right bytes h2
      rw [Nat.mul_assoc] at h3
      omega
    · refine RdS.rowOf (n := n) (xs := xs) (Sl.rd (fp := fp) ⟨hl, h⟩) ?_
      intro c' hc'
      refine hk _ _ (some H.size) ⟨by simp [hl, hx.1, Nat.add_mul], _, c', rfl, own_new _ _ _, hc', ?_, ?_⟩ ((Ext.refl _ _).new _ _) (.inr ⟨_, rfl, Nat.le_refl _, by rw [size_new]; omega⟩)
      · simp only [List.length_append, hl, hx.1, length_padZ, hz]
        rw [← Nat.add_mul, ← Nat.add_mul]
        exact Nat.le_of_eq (by congr 1; omega)
      · rw [show (n + m) * size = (xs ++ ys).length by simp [hl, hx.1, Nat.add_mul]]
        exact List.take_left
  cases fp with
  | none => exact key none 0 (by obtain ⟨rfl, hv⟩ := h; exact hv) (fun b hb => by cases hb)
  | some b =>
    obtain ⟨l, c, hv, _⟩ := h
    exact key (some ⟨b, 0, none⟩) c hv (fun _ _ => by simp)

theorem take_set' (l : List Value) (i n : Nat) (x : Value) : (l.set i x).take n = (l.take n).set i x := by
  apply List.ext_getElem?
  intro k
  by_cases hk : k < n
  · rw [List.getElem?_take_of_lt hk]
    by_cases h : i = k
    · subst h
      by_cases hl : i < l.length
      · rw [List.getElem?_set_self hl, List.getElem?_set_self (by simp; omega)]
      · rw [List.getElem?_eq_none (by simp; omega), List.getElem?_eq_none (by simp; omega)]
    · rw [List.getElem?_set_ne h, List.getElem?_set_ne h, List.getElem?_take_of_lt hk]
  · rw [List.getElem?_eq_none (by simp; omega), List.getElem?_eq_none (by simp; omega)]

/-- One cell of a slice of the call's own, written. -/
theorem Sl.set1 {H : Hp} {n c s : Nat} {xs l : List Value} (h : Sl H 1 (.slice (some ⟨s, 0, none⟩) n c) n xs (some s)) (hl : H.own s = some l) (i : Nat) (x : Value) :
    Sl (H.wr s (l.set i x)) 1 (.slice (some ⟨s, 0, none⟩) n c) n (xs.set i x) (some s) := by
  obtain ⟨h1, l', c', hv, h2, h3, h4, h5⟩ := h
  rw [hl] at h2
  injection h2 with h2
  subst h2
  injection hv with _ _ hc
  subst hc
  exact ⟨by simpa using h1, _, c, rfl, own_wr_same hl, h3, by simpa using h4, by rw [take_set', h5]⟩

theorem Sl.get {H : Hp} {n c s size : Nat} {xs l : List Value} (h : Sl H size (.slice (some ⟨s, 0, none⟩) n c) n xs (some s)) (hl : H.own s = some l) {i : Nat} {x : Value} (hx : xs[i]? = some x) : l[i]? = some x := by
  obtain ⟨h1, l', c', hv, h2, h3, h4, h5⟩ := h
  rw [hl] at h2
  injection h2 with h2
  subst h2
  rw [← h5, List.getElem?_take] at hx
  split at hx
  · exact hx
  · cases hx

/-! ### Maps with numbers as keys -/

/-- What a map holds at a number. -/
def getI (es : List MapEntry) (i : Int) : Option Value := (es.find? fun e => match e.key with | .int .i64 j => i == j | _ => false).map (·.val)

/-- All keys are numbers, no two alike. -/
def keysI (es : List MapEntry) : Prop := ∃ ks : List Int, es.map (·.key) = ks.map (Value.int .i64) ∧ ks.Nodup

/-- A map of the call's own at block b: what it holds. -/
def IMap (H : Hp) (b : Nat) (f : Int → Option Value) : Prop := ∃ es k, H.mp b = some (es, k) ∧ keysI es ∧ ∀ i, getI es i = f i

theorem IMap.new (H : Hp) : IMap H.newm H.size (fun _ => none) := ⟨[], 0, mp_newm H, ⟨[], rfl, List.nodup_nil⟩, fun _ => rfl⟩
theorem IMap.ext {H H' : Hp} {b : Nat} {f : Int → Option Value} {S : Nat → Prop} (h : IMap H b f) (e : Ext S H H') (hs : ¬ S b) : IMap H' b f := by
  obtain ⟨es, k, h1, h2⟩ := h
  exact ⟨es, k, e.mp h1 hs, h2⟩
theorem IMap.lt {H : Hp} {b : Nat} {f : Int → Option Value} (h : IMap H b f) : b < H.size := by
  obtain ⟨es, k, h1, h2⟩ := h
  exact mp_lt h1

theorem getI_cons (e : MapEntry) (es : List MapEntry) (j i : Int) (he : e.key = .int .i64 j) : getI (e :: es) i = if i = j then some e.val else getI es i := by
  unfold getI
  rw [List.find?_cons]
  simp only [he]
  by_cases h : i = j
  · simp [h]
  · have : (i == j) = false := by simpa using h
    rw [this, if_neg h]

theorem keysI_cons {e : MapEntry} {es : List MapEntry} (h : keysI (e :: es)) : ∃ j, e.key = .int .i64 j ∧ keysI es ∧ ∀ x ∈ es, x.key ≠ .int .i64 j := by
  obtain ⟨ks, h1, h2⟩ := h
  cases ks with
  | nil => simp at h1
  | cons j ks =>
    simp only [List.map_cons, List.cons.injEq] at h1
    rw [List.nodup_cons] at h2
    refine ⟨j, h1.1, ⟨ks, h1.2, h2.2⟩, fun x hx hk => h2.1 ?_⟩
    have hm : x.key ∈ es.map (·.key) := List.mem_map.2 ⟨x, hx, rfl⟩
    rw [h1.2, hk] at hm
    obtain ⟨y, hy, e⟩ := List.mem_map.1 hm
    injection e with _ e
    exact e ▸ hy

/-- Looking a number up. -/
theorem findK_int (i : Int) : ∀ (es : List MapEntry), keysI es → ∀ n : Nat,
    (getI es i = none ∧ findK .int (.int .i64 i) es n = some none) ∨
    ∃ j e, es[j]? = some e ∧ e.key = .int .i64 i ∧ getI es i = some e.val ∧ findK .int (.int .i64 i) es n = some (some (n + j, e.val)) := by
  intro es
  induction es with
  | nil => intro _ n; exact .inl ⟨rfl, rfl⟩
  | cons e es ih =>
    intro h n
    obtain ⟨j, hj, hes, hne⟩ := keysI_cons h
    have hq : eqV .int (.int .i64 i) e.key = some (decide (i = j)) := by rw [hj]; simp [eqV, simpleEq]
    by_cases hij : i = j
    · subst hij
      refine .inr ⟨0, e, rfl, hj, by rw [getI_cons e es i i hj, if_pos rfl], ?_⟩
      unfold findK
      rw [hq]; simp
    · have h2 : findK .int (.int .i64 i) (e :: es) n = findK .int (.int .i64 i) es (n + 1) := by
        rw [findK, hq, decide_eq_false hij]
      have h3 : getI (e :: es) i = getI es i := by rw [getI_cons e es j i hj, if_neg hij]
      rw [h2, h3]
      rcases ih hes (n + 1) with ⟨h4, h5⟩ | ⟨k, e', h4, h5, h6, h7⟩
      · exact .inl ⟨h4, h5⟩
      · exact .inr ⟨k + 1, e', by simpa using h4, h5, h6, by rw [h7]; congr 3; omega⟩

theorem IMap.look {H : Hp} {b : Nat} {f : Int → Option Value} (h : IMap H b f) (i : Int) (F : Option Value → Prop) : lookV H .int (some b) (.int .i64 i) F = F (f i) := by
  obtain ⟨es, k, h1, h2, h3⟩ := h
  unfold lookV
  simp only [h1, withO_some]
  rcases findK_int i es h2 0 with ⟨h4, h5⟩ | ⟨j, e, h4, h5, h6, h7⟩
  · rw [h5, ← h3 i, h4]; rfl
  · rw [h7, ← h3 i, h6]; rfl

/-- What a map holds behind a store. -/
def setF (f : Int → Option Value) (i : Int) (v : Value) : Int → Option Value := fun j => if j = i then some v else f j
def delF (f : Int → Option Value) (i : Int) : Int → Option Value := fun j => if j = i then none else f j

theorem getI_append (es : List MapEntry) (e : MapEntry) (i j : Int) (hj : e.key = .int .i64 j) (hn : getI es j = none) : getI (es ++ [e]) i = if i = j then some e.val else getI es i := by
  unfold getI at *
  rw [List.find?_append]
  by_cases h : i = j
  · subst h
    have hx : (es.find? fun e => match e.key with | .int .i64 j => i == j | _ => false) = none := by simpa using hn
    rw [hx]
    simp [hj]
  · rw [if_neg h]
    have : ([e].find? fun e => match e.key with | .int .i64 j => i == j | _ => false) = none := by simp [hj, h]
    rw [this]
    simp

theorem getI_none {es : List MapEntry} {i : Int} (h : getI es i = none) : ∀ e ∈ es, e.key ≠ .int .i64 i := by
  intro e he hk
  unfold getI at h
  simp only [Option.map_eq_none_iff, List.find?_eq_none] at h
  have := h e he
  simp [hk] at this

theorem keysI_modify {es : List MapEntry} (h : keysI es) (j : Nat) (e : MapEntry) (hj : es[j]? = some e) (v : Value) (i : Int) (hk : e.key = .int .i64 i) :
    keysI (es.modify j fun x => { x with key := .int .i64 i, val := v }) := by
  obtain ⟨ks, h1, h2⟩ := h
  refine ⟨ks, ?_, h2⟩
  rw [← h1]
  apply List.ext_getElem?
  intro n
  rw [List.getElem?_map, List.getElem?_map, List.getElem?_modify]
  by_cases hn : j = n
  · subst hn; simp [hj, hk]
  · simp [hn]

theorem getI_modify : ∀ (es : List MapEntry), keysI es → ∀ (j : Nat) (e : MapEntry) (v : Value) (i : Int), es[j]? = some e → e.key = .int .i64 i → ∀ n,
    getI (es.modify j fun x => { x with key := .int .i64 i, val := v }) n = if n = i then some v else getI es n := by
  intro es
  induction es with
  | nil => intro _ j e v i hj; simp at hj
  | cons x es ih =>
    intro h j e v i hj hk n
    obtain ⟨q, hq, hes, hne⟩ := keysI_cons h
    cases j with
    | zero =>
      simp only [List.getElem?_cons_zero, Option.some.injEq] at hj
      subst hj
      have : q = i := by rw [hq] at hk; injection hk
      subst this
      rw [List.modify_zero_cons, getI_cons _ es q n rfl, getI_cons x es q n hq]
      split <;> rfl
    | succ j =>
      rw [List.modify_succ_cons, getI_cons x _ q n hq, getI_cons x es q n hq, ih hes j e v i (by simpa using hj) hk n]
      by_cases h1 : n = q
      · subst h1
        have hm : e ∈ es := List.mem_of_getElem? (by simpa using hj)
        have : n ≠ i := fun e' => hne e hm (by rw [hk, e'])
        simp [this]
      · simp [h1]

theorem getI_erase : ∀ (es : List MapEntry), keysI es → ∀ (j : Nat) (e : MapEntry) (i : Int), es[j]? = some e → e.key = .int .i64 i → keysI (es.eraseIdx j) ∧ ∀ n, getI (es.eraseIdx j) n = if n = i then none else getI es n := by
  intro es
  induction es with
  | nil => intro _ j e i hj; simp at hj
  | cons x es ih =>
    intro h j e i hj hk
    have h' := h
    obtain ⟨q, hq, hes, hne⟩ := keysI_cons h
    cases j with
    | zero =>
      simp only [List.getElem?_cons_zero, Option.some.injEq] at hj
      subst hj
      have : q = i := by rw [hq] at hk; injection hk
      subst this
      refine ⟨hes, fun n => ?_⟩
      rw [List.eraseIdx_zero, List.tail_cons, getI_cons x es q n hq]
      by_cases hn : n = q
      · subst hn
        rw [if_pos rfl]
        unfold getI
        simp only [Option.map_eq_none_iff, List.find?_eq_none]
        intro e' he'
        obtain ⟨ks, h1, _⟩ := hes
        have hm : e'.key ∈ es.map (·.key) := List.mem_map.2 ⟨e', he', rfl⟩
        rw [h1] at hm
        obtain ⟨y, _, ey⟩ := List.mem_map.1 hm
        have := hne e' he'
        rw [← ey] at this ⊢
        simp only [beq_iff_eq]
        intro e2
        exact this (by rw [e2])
      · simp [hn]
    | succ j =>
      obtain ⟨h1, h2⟩ := ih hes j e i (by simpa using hj) hk
      have hm : e ∈ es := List.mem_of_getElem? (by simpa using hj)
      have hqi : q ≠ i := fun e' => hne e hm (by rw [hk, e'])
      refine ⟨?_, fun n => ?_⟩
      · obtain ⟨ks, e1, e2⟩ := h1
        refine ⟨q :: ks, by rw [List.eraseIdx_cons_succ, List.map_cons, List.map_cons, hq, e1], ?_⟩
        rw [List.nodup_cons]
        refine ⟨fun hmem => ?_, e2⟩
        have : Value.int .i64 q ∈ (es.eraseIdx j).map (·.key) := by rw [e1]; exact List.mem_map.2 ⟨q, hmem, rfl⟩
        obtain ⟨y, hy, ey⟩ := List.mem_map.1 this
        exact hne y (List.mem_of_mem_eraseIdx hy) ey
      · rw [List.eraseIdx_cons_succ, getI_cons x _ q n hq, getI_cons x es q n hq, h2 n]
        by_cases h3 : n = q
        · subst h3; simp [hqi]
        · simp [h3]

theorem sameBits_int (n : Nat) (i : Int) : Instr.sameBits (n + 1) (.int .i64 i) (.int .i64 i) = true := by simp [Instr.sameBits]

theorem IMap.upd {H : Hp} {b : Nat} {f : Int → Option Value} (h : IMap H b f) {i : Int} {v : Value} {F : Hp → Prop} (hk : ∀ H', IMap H' b (setF f i v) → Ext (fun x => x = b) H H' → F H') :
    updV H .int b (.int .i64 i) v F := by
  obtain ⟨es, k, h1, h2, h3⟩ := h
  unfold updV
  simp only [h1, withO_some]
  have hext : ∀ es' k', Ext (fun x => x = b) H (H.wrm b es' k') := fun es' k' => (Ext.refl (fun x => x = b) H).wrm (fun _ => rfl) _ _
  rcases findK_int i es h2 0 with ⟨h4, h5⟩ | ⟨j, e, h4, h5, h6, h7⟩
  · rw [h5]
    refine ⟨rfl, hk _ ⟨_, _, mp_wrm_same h1, ?_, fun n => ?_⟩ (hext _ _)⟩
    · obtain ⟨ks, e1, e2⟩ := h2
      refine ⟨ks ++ [i], by simp [putE, e1], ?_⟩
      rw [List.nodup_append]
      refine ⟨e2, by simp, fun a ha c hc hac => ?_⟩
      simp only [List.mem_singleton] at hc
      subst hc; subst hac
      have : Value.int .i64 a ∈ es.map (·.key) := by rw [e1]; exact List.mem_map.2 ⟨a, ha, rfl⟩
      obtain ⟨y, hy, ey⟩ := List.mem_map.1 this
      exact getI_none h4 y hy ey
    · rw [putE, getI_append es _ n i rfl h4]
      unfold setF
      split <;> first | rfl | exact h3 n
  · rw [h7]
    refine ⟨?_, hk _ ⟨_, _, mp_wrm_same h1, keysI_modify h2 _ e (by simpa using h4) _ _ h5, fun n => ?_⟩ (hext _ _)⟩
    · simp only [staysOk, Nat.zero_add, h4, Option.map_some, Option.getD_some, h5]
      exact sameBits_int 9999 i
    · rw [putE, Nat.zero_add, getI_modify es h2 j e v i h4 h5 n]
      unfold setF
      split <;> first | rfl | exact h3 n

theorem IMap.del {H : Hp} {b : Nat} {f : Int → Option Value} (h : IMap H b f) {i : Int} {F : Hp → Prop} (hk : ∀ H', IMap H' b (delF f i) → Ext (fun x => x = b) H H' → F H') :
    delV H .int b (.int .i64 i) F := by
  obtain ⟨es, k, h1, h2, h3⟩ := h
  unfold delV
  simp only [h1, withO_some]
  have hext : ∀ es' k', Ext (fun x => x = b) H (H.wrm b es' k') := fun es' k' => (Ext.refl (fun x => x = b) H).wrm (fun _ => rfl) _ _
  rcases findK_int i es h2 0 with ⟨h4, h5⟩ | ⟨j, e, h4, h5, h6, h7⟩
  · rw [h5]
    refine hk _ ⟨_, _, mp_wrm_same h1, h2, fun n => ?_⟩ (hext _ _)
    rw [dropE, h3 n]
    unfold delF
    by_cases hn : n = i
    · subst hn; rw [if_pos rfl, ← h3 n]; exact h4
    · rw [if_neg hn]
  · rw [h7]
    obtain ⟨e1, e2⟩ := getI_erase es h2 j e i h4 h5
    refine hk _ ⟨_, _, mp_wrm_same h1, by rw [dropE, Nat.zero_add]; exact e1, fun n => ?_⟩ (hext _ _)
    rw [dropE, Nat.zero_add, e2 n]
    unfold delF
    split <;> first | rfl | exact h3 n

end Go.Vc
