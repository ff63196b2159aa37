/-
  Every operation that is read off does what is said of it; which are pure, which only read.
-/
import Derived.Test.YtbnaicgmnadkgaaAc2
set_option linter.unusedVariables false
set_option linter.unusedSimpArgs false
namespace Go.Vc

def Iop.cls : Iop → Cls
  | .mov _ | .pick .. | .build .. | .nilCheck _ | .bin .. | .un .. | .conv .. | .iface .. | .func .. | .slice .. | .sliceS .. | .fieldAddr .. | .field .. | .indexAddr .. | .indexArr .. | .indexS .. | .extract ..
  | .lenS _ | .lenT _ | .minI _ | .maxI _ | .assert .. | .nilI .. => .pure
  | .load1 _ | .loadN .. | .lookup .. | .lenM _ | .toStr _ => .quiet
  | _ => .acts

section
variable {P : Program} {o : Oper} {a : Act} {ev : Ev} {H : Hp} {K : Value → Hp → Prop}

theorem sound (i : Iop) (hd : decOp P o = some i) (hev : Tells ev a) (h : i.vc P ev H K) : (i.cls = .pure → Pures P o a H K) ∧ Does P o a H K := by
  have mk : Pures P o a H K → (i.cls = .pure → Pures P o a H K) ∧ Does P o a H K := fun hp => ⟨fun _ => hp, hp.does⟩
  have mk' : i.cls ≠ .pure → Does P o a H K → (i.cls = .pure → Pures P o a H K) ∧ Does P o a H K := fun hn hp => ⟨fun e => absurd e hn, hp⟩
  unfold decOp at hd
  split at hd
  · rename_i x ho; injection hd with hd; subst hd; exact mk (pure_mov hev (.inl ho) h)
  · rename_i x ho; injection hd with hd; subst hd; exact mk (pure_mov hev (.inr ho) h)
  · rename_i c x y ho; injection hd with hd; subst hd; exact mk (pure_pick hev ho h)
  · rename_i T x ho; injection hd with hd; subst hd; exact mk' (by simp [Iop.cls]) (does_box hev ho h)
  · rename_i T ho
    cases hz : zeroT P T with
    | none => rw [hz] at hd; cases hd
    | some z => rw [hz] at hd; injection hd with hd; subst hd; exact mk' (by simp [Iop.cls]) (does_zero hz ho h)
  · rename_i t ps ho
    cases hz : zeroT P t with
    | none => rw [hz] at hd; cases hd
    | some z =>
      rw [hz, Option.bind_some] at hd
      cases hq : parts P t (vcells z).length ps.toList with
      | none => rw [hq] at hd; cases hd
      | some qs => rw [hq] at hd; injection hd with hd; subst hd; exact mk (pure_build hev ho hz hq h)
  · rename_i t n ps ho
    split at hd
    · rename_i e hu
      cases hz : zeroT P e with
      | none => rw [hz] at hd; cases hd
      | some z =>
        rw [hz, Option.bind_some] at hd
        split at hd
        · rename_i hc
          cases hq : partsBy (fun i => some (i * P.cellsOf e, P.cellsOf e)) (n * P.cellsOf e) ps.toList with
          | none => rw [hq] at hd; cases hd
          | some qs => rw [hq] at hd; injection hd with hd; subst hd; exact mk' (by simp [Iop.cls]) (does_lit hev ho hu hz hc.1 hc.2.1 hc.2.2.1 hc.2.2.2 hq h)
        · cases hd
    · cases hd
  · rename_i t x ho
    split at hd
    · rename_i hc
      split at hd
      · rename_i hg; injection hd with hd; subst hd; exact mk' (by simp [Iop.cls]) (does_loadN hev ho hc.1 hc.2 hg h)
      · rename_i hg; injection hd with hd; subst hd; exact mk' (by simp [Iop.cls]) (does_load1 hev ho hc.1 hc.2 (by simpa using hg) h)
    · cases hd
  · rename_i t x y ho
    split at hd
    · rename_i hc; injection hd with hd; subst hd; exact mk' (by simp [Iop.cls]) (does_store hev ho hc.1 hc.2 h)
    · cases hd
  · rename_i x ho; injection hd with hd; subst hd; exact mk (pure_nilCheck hev ho h)
  · rename_i op t x y t' ho
    split at hd
    · split at hd
      · rename_i ms hu; injection hd with hd; subst hd; exact mk (pure_nilI hev ho hu (.inl ⟨rfl, rfl⟩) h)
      · cases hs : shapeOf P depthT t with
        | none => rw [hs] at hd; cases hd
        | some s =>
          rw [hs, Option.bind_some] at hd
          split at hd
          · rename_i hc; injection hd with hd; subst hd; exact mk (pure_bin hev ho (fun _ => ⟨hs, hc⟩) h)
          · cases hd
    · split at hd
      · rename_i ms hu; injection hd with hd; subst hd; exact mk (pure_nilI hev ho hu (.inr ⟨rfl, rfl⟩) h)
      · cases hs : shapeOf P depthT t with
        | none => rw [hs] at hd; cases hd
        | some s =>
          rw [hs, Option.bind_some] at hd
          split at hd
          · rename_i hc; injection hd with hd; subst hd; exact mk (pure_bin hev ho (fun _ => ⟨hs, hc⟩) h)
          · cases hd
    · rename_i h1 h2
      injection hd with hd; subst hd; exact mk (pure_bin hev ho (fun he => by rcases he with he | he <;> first | exact absurd he h1 | exact absurd he h2) h)
  · rename_i op t x ho; injection hd with hd; subst hd; exact mk (pure_un hev ho h)
  · rename_i s t x ho
    split at hd
    · rename_i k' k h1 h2; injection hd with hd; subst hd; exact mk (pure_conv hev ho h1 h2 h)
    · rename_i e h1 h2
      split at hd
      · rename_i h3; injection hd with hd; subst hd; exact mk' (by simp [Iop.cls]) (does_toStr hev ho h1 h2 h3 h)
      · cases hd
    · rename_i e h1 h2
      split at hd
      · rename_i h3; injection hd with hd; subst hd; exact mk' (by simp [Iop.cls]) (does_toBytes hev ho h1 h2 h3 h)
      · cases hd
    · cases hd
  · rename_i t x ho
    split at hd
    · cases hd
    · rename_i d hu hn; injection hd with hd; subst hd; exact mk (pure_iface hev ho hn (fun ms e => hu ms (by rw [e])) h)
    · cases hd
  · rename_i fn first captured ho; injection hd with hd; subst hd; exact mk (pure_func hev ho h)
  · rename_i t ho; injection hd with hd; subst hd; exact mk' (by simp [Iop.cls]) (does_newMap ho h)
  · rename_i t x y ho
    split at hd
    · rename_i e hu
      cases hz : zeroT P e with
      | none => rw [hz] at hd; cases hd
      | some z =>
        rw [hz, Option.bind_some] at hd
        split at hd
        · rename_i hc; injection hd with hd; subst hd; exact mk' (by simp [Iop.cls]) (does_makeSlice hev ho hu hz hc.1 hc.2.1 hc.2.2 h)
        · cases hd
    · cases hd
  · rename_i t x lo hi mx ho
    split at hd
    · rename_i e hu
      split at hd
      · rename_i hc; injection hd with hd; subst hd; exact mk (pure_slice hev ho hu hc.1 (fun hm => hc.2.elim (fun h1 => by cases mx <;> simp_all) id) h)
      · cases hd
    · rename_i hu
      split at hd
      · rename_i hc; injection hd with hd; subst hd
        cases mx with
        | none => exact mk (pure_sliceS hev ho hu h)
        | some m => simp at hc
      · cases hd
    · cases hd
  · rename_i s x f ho
    split at hd
    · rename_i fields hu
      cases hf : fields[f]? with
      | none => rw [hf] at hd; cases hd
      | some fd =>
        rw [hf, Option.bind_some] at hd
        split at hd
        · rename_i hc; injection hd with hd; subst hd; exact mk (pure_fieldAddr hev ho hu hf hc.1 hc.2 h)
        · cases hd
    · cases hd
  · rename_i t x f ho
    split at hd
    · rename_i fields hu
      cases hf : fields[f]? with
      | none => rw [hf] at hd; cases hd
      | some fd =>
        rw [hf, Option.bind_some] at hd
        split at hd
        · rename_i hc; injection hd with hd; subst hd; exact mk (pure_field hev ho hu hf hc.1 hc.2 h)
        · cases hd
    · cases hd
  · rename_i t x i' ho
    split at hd
    · rename_i e hu
      split at hd
      · rename_i hc; injection hd with hd; subst hd; exact mk (pure_indexAddr hev ho hu hc h)
      · cases hd
    · rename_i n e hu
      split at hd
      · rename_i hc; injection hd with hd; subst hd; exact mk (pure_indexArr hev ho hu hc h)
      · cases hd
    · cases hd
  · rename_i t x i' ho
    split at hd
    · rename_i hu; injection hd with hd; subst hd; exact mk (pure_indexS hev ho hu h)
    · cases hd
  · rename_i t x i' ok ho
    split at hd
    · rename_i k e hu
      cases hs : keyShape P k with
      | none => rw [hs] at hd; cases hd
      | some s =>
        rw [hs, Option.bind_some] at hd
        cases hz : zeroT P e with
        | none => rw [hz] at hd; cases hd
        | some z => rw [hz] at hd; injection hd with hd; subst hd; exact mk' (by simp [Iop.cls]) (does_lookup hev ho hu hs hz h)
    · cases hd
  · rename_i t m k v ho
    split at hd
    · rename_i kt e hu
      cases hs : keyShape P kt with
      | none => rw [hs] at hd; cases hd
      | some s => rw [hs] at hd; injection hd with hd; subst hd; exact mk' (by simp [Iop.cls]) (does_update hev ho hu hs h)
    · cases hd
  · rename_i x i' ho; injection hd with hd; subst hd; exact mk (pure_extract hev ho h)
  · rename_i x s T ho
    split at hd
    · cases hd
    · rename_i d hu hn; injection hd with hd; subst hd; exact mk (pure_assert hev ho hn (fun ms e => hu ms (by rw [e])) h)
    · cases hd
  · rename_i c ho
    split at hd
    · rename_i f hc
      split at hd
      · rename_i hb; injection hd with hd; subst hd; exact mk' (by simp [Iop.cls]) (does_call hev ho hc hb h)
      · injection hd with hd; subst hd; exact mk' (by simp [Iop.cls]) (does_ext hev ho hc h)
    · rename_i x hx hc; injection hd with hd; subst hd; exact mk' (by simp [Iop.cls]) (does_dyn hev ho hc h)
    · rename_i r name hc; injection hd with hd; subst hd; exact mk' (by simp [Iop.cls]) (does_invoke hev ho hc h)
    · rename_i hc
      split at hd
      · rename_i x e h1 h2; injection hd with hd; subst hd; exact mk (pure_lenS hev ho hc h1 h2 h)
      · rename_i x h1 h2; injection hd with hd; subst hd; exact mk (pure_lenT hev ho hc h1 h2 h)
      · rename_i x k e h1 h2; injection hd with hd; subst hd; exact mk' (by simp [Iop.cls]) (does_lenM hev ho hc h1 h2 h)
      · cases hd
    · rename_i hc
      split at hd
      · rename_i x y e d h1 h2 h3
        cases hz : zeroT P e with
        | none => rw [hz] at hd; cases hd
        | some z =>
          rw [hz, Option.bind_some] at hd
          split at hd
          · rename_i hq; injection hd with hd; subst hd; exact mk' (by simp [Iop.cls]) (does_append hev ho hc h1 h2 h3 hq.2.2.2.2 hz hq.1 hq.2.1 hq.2.2.1 hq.2.2.2.1 h)
          · cases hd
      · cases hd
    · rename_i hc
      split at hd
      · rename_i m k kt e h1 h2
        cases hs : keyShape P kt with
        | none => rw [hs] at hd; cases hd
        | some s => rw [hs] at hd; injection hd with hd; subst hd; exact mk' (by simp [Iop.cls]) (does_delete hev ho hc h1 h2 hs h)
      · cases hd
    · rename_i hc; injection hd with hd; subst hd; exact mk (pure_min hev ho hc h)
    · rename_i hc; injection hd with hd; subst hd; exact mk (pure_max hev ho hc h)
    · cases hd
  · cases hd

theorem withO_mono {α : Type} {o : Option α} {F G : α → Prop} (h : withO o F) (hk : ∀ v, F v → G v) : withO o G := by cases o; exact h; exact hk _ h
theorem Also_mono {c F G : Prop} (h : Also c F) (hk : F → G) : Also c G := ⟨h.1, hk h.2⟩
theorem boolV_mono {v : Value} {F G : Bool → Prop} (h : boolV v F) (hk : ∀ b, F b → G b) : boolV v G := by unfold boolV at *; split at h; exact hk _ h; exact h.elim
theorem evs_mono {F G : List Value → Prop} : ∀ {xs : List Operand}, evs ev xs F → (∀ l, F l → G l) → evs ev xs G := by
  intro xs
  induction xs generalizing F G with
  | nil => intro h hk; exact hk _ h
  | cons x xs ih => intro h hk; exact withO_mono h fun v h => ih h fun l => hk _
theorem fillV_mono {F G : List Value → Prop} : ∀ {r : List (Nat × Nat × Operand)} {z : List Value}, fillV ev z r F → (∀ l, F l → G l) → fillV ev z r G := by
  intro r
  induction r with
  | nil => intro z h hk; exact hk _ h
  | cons p r ih => obtain ⟨off, size, x⟩ := p; intro z h hk; exact withO_mono h fun v h => Also_mono h fun h => ih h hk
theorem ptrV_mono {v : Value} {F G : Nat → Nat → Prop} (h : ptrV v F) (hk : ∀ b o, F b o → G b o) : ptrV v G := by obtain ⟨b, o, rfl, h⟩ := ptrV_spec h; exact hk _ _ h
theorem intV_mono {v : Value} {F G : Int → Prop} (h : intV v F) (hk : ∀ b, F b → G b) : intV v G := by obtain ⟨b, o, rfl, h⟩ := intV_spec h; exact hk _ h
theorem sliceV_mono {v : Value} {F G : Option Addr → Nat → Nat → Prop} (h : sliceV v F) (hk : ∀ a n c, F a n c → G a n c) : sliceV v G := by obtain ⟨a, n, c, rfl, h⟩ := sliceV_spec h; exact hk _ _ _ h
theorem baseV_mono {v : Option Addr} {F G : Nat → Nat → Prop} (h : baseV v F) (hk : ∀ b o, F b o → G b o) : baseV v G := by obtain ⟨b, o, rfl, h⟩ := baseV_spec h; exact hk _ _ h
theorem stringV_mono {v : Value} {F G : ByteArray → Prop} (h : stringV v F) (hk : ∀ b, F b → G b) : stringV v G := by obtain ⟨b, rfl, h⟩ := stringV_spec h; exact hk _ h
theorem tupV_mono {v : Value} {F G : List Value → Prop} (h : tupV v F) (hk : ∀ b, F b → G b) : tupV v G := by obtain ⟨b, rfl, h⟩ := tupV_spec h; exact hk _ h
theorem aggV_mono {v : Value} {F G : List Value → Prop} (h : aggV v F) (hk : ∀ b, F b → G b) : aggV v G := by obtain ⟨b, rfl, h⟩ := aggV_spec h; exact hk _ h
theorem mapV_mono {v : Value} {F G : Option Nat → Prop} (h : mapV v F) (hk : ∀ b, F b → G b) : mapV v G := by obtain ⟨b, rfl, h⟩ := mapV_spec h; exact hk _ h
theorem ifcV_mono {v : Value} {F G : Bool → Prop} (h : ifcV v F) (hk : ∀ b, F b → G b) : ifcV v G := by
  rcases ifcV_spec h with ⟨e, h⟩ | ⟨t, u, e, h⟩ <;> subst e <;> exact hk _ h
theorem assertV_mono {T : TypeId} {v : Value} {F G : Value → Prop} (h : assertV T v F) (hk : ∀ b, F b → G b) : assertV T v G := by obtain ⟨b, e, h2⟩ := assertV_spec h; subst e; exact ⟨rfl, hk _ h2⟩
theorem rowOf_mono {H : Hp} {size : Nat} {v : Value} {F G : Nat → List Value → Prop} (h : rowOf H size v F) (hk : ∀ n l, F n l → G n l) : rowOf H size v G := by
  unfold rowOf at *
  split at h
  · rename_i a n c
    cases hn : n == 0
    · rw [hn] at h
      exact baseV_mono h fun b o h => withO_mono h fun l h => Also_mono h (hk _ _)
    · rw [hn] at h
      exact hk _ _ h
  · exact Also_mono h (hk _ _)
  · exact h.elim
theorem bytesV_mono {H : Hp} {v : Value} {F G : List UInt8 → Prop} (h : bytesV H v F) (hk : ∀ b, F b → G b) : bytesV H v G := by
  unfold bytesV at *
  split at h
  · exact rowOf_mono h fun n l h => withO_mono h hk
  · exact h.elim
theorem boundV_mono {x : Option Operand} {d : Nat} {F G : Int → Prop} (h : boundV ev x d F) (hk : ∀ b, F b → G b) : boundV ev x d G := by
  cases x with
  | none => exact hk _ h
  | some x => exact withO_mono h fun v h => intV_mono h hk

/-- A pure operation gives its value to whatever asks. -/
theorem vc_mono {K' : Value → Hp → Prop} (i : Iop) (hc : i.cls = .pure) (h : i.vc P ev H K) (hk : ∀ v H', K v H' → K' v H') : i.vc P ev H K' := by
  cases i <;> simp [Iop.cls] at hc <;> simp only [Iop.vc] at h ⊢
  · exact withO_mono h fun v => hk _ _
  · exact withO_mono h fun v h => boolV_mono h fun b h => withO_mono h fun v => hk _ _
  · exact fillV_mono h fun l => hk _ _
  · exact withO_mono h fun v h => Also_mono h (hk _ _)
  · exact withO_mono h fun v h => withO_mono h fun v h => withO_mono h fun v => hk _ _
  · exact withO_mono h fun v h => withO_mono h fun v => hk _ _
  · exact withO_mono h fun v h => intV_mono h fun v => hk _ _
  · exact withO_mono h fun v => hk _ _
  · exact evs_mono h fun l h => evs_mono h fun l => hk _ _
  · exact withO_mono h fun v h => sliceV_mono h fun a n c h => boundV_mono h fun m h => boundV_mono h fun m h => boundV_mono h fun m h => Also_mono h (hk _ _)
  · exact withO_mono h fun v h => stringV_mono h fun s h => boundV_mono h fun m h => boundV_mono h fun m h => Also_mono h (hk _ _)
  · exact withO_mono h fun v h => ptrV_mono h fun b o => hk _ _
  · exact withO_mono h fun v h => aggV_mono h fun l h => withO_mono h fun v => hk _ _
  · exact withO_mono h fun v h => withO_mono h fun v h => sliceV_mono h fun a n c h => intV_mono h fun i h => Also_mono h fun h => baseV_mono h fun b o => hk _ _
  · exact withO_mono h fun v h => withO_mono h fun v h => ptrV_mono h fun b o h => intV_mono h fun i h => Also_mono h (hk _ _)
  · exact withO_mono h fun v h => withO_mono h fun v h => stringV_mono h fun s h => intV_mono h fun i h => Also_mono h fun h => withO_mono h fun b => hk _ _
  · exact withO_mono h fun v h => tupV_mono h fun l h => withO_mono h fun v => hk _ _
  · exact withO_mono h fun v h => sliceV_mono h fun a n c => hk _ _
  · exact withO_mono h fun v h => stringV_mono h fun s => hk _ _
  · exact evs_mono h fun l h => withO_mono h fun v => hk _ _
  · exact evs_mono h fun l h => withO_mono h fun v => hk _ _
  · exact withO_mono h fun v h => assertV_mono h fun v => hk _ _
  · exact withO_mono h fun v h => ifcV_mono h fun v => hk _ _

/-- What only reads gives one value, and the heap as it was. -/
theorem reads_vc (i : Iop) (hc : i.cls = .quiet) (h : i.vc P ev H K) : ∃ v, i.vc P ev H (fun v' H' => v' = v ∧ H' = H) ∧ K v H := by
  cases i <;> simp [Iop.cls] at hc
  · obtain ⟨p, hp, h⟩ := withO_spec h
    obtain ⟨b, o, rfl, h⟩ := ptrV_spec h
    obtain ⟨l, hl, h⟩ := withO_spec h
    obtain ⟨v, hv, h⟩ := withO_spec h
    exact ⟨v, by simp only [Iop.vc, hp, withO, ptrV, hl, hv, and_self], h⟩
  · obtain ⟨p, hp, h⟩ := withO_spec h
    obtain ⟨b, o, rfl, h⟩ := ptrV_spec h
    obtain ⟨l, hl, h⟩ := withO_spec h
    obtain ⟨hn, h⟩ := h.out
    exact ⟨_, by simp only [Iop.vc, hp, withO, ptrV, hl, Also, hn, and_self], h⟩
  · rename_i s z ok m k
    obtain ⟨p, hp, h⟩ := withO_spec h
    obtain ⟨q, hq, h⟩ := withO_spec h
    obtain ⟨r, rfl, h⟩ := mapV_spec h
    obtain ⟨hn, h⟩ := h.out
    cases r with
    | none => exact ⟨_, by simp only [Iop.vc, hp, hq, withO, mapV, Also, hn, lookV, and_self], h⟩
    | some b =>
      obtain ⟨x, hx, h⟩ := withO_spec h
      obtain ⟨y, hy, h⟩ := withO_spec h
      exact ⟨_, by simp only [Iop.vc, hp, hq, withO, mapV, Also, hn, lookV, hx, hy, and_self], h⟩
  · obtain ⟨p, hp, h⟩ := withO_spec h
    obtain ⟨r, rfl, h⟩ := mapV_spec h
    cases r with
    | none => exact ⟨_, by simp only [Iop.vc, hp, withO, mapV, lenMV, and_self], h⟩
    | some b =>
      obtain ⟨x, hx, h⟩ := withO_spec h
      exact ⟨_, by simp only [Iop.vc, hp, withO, mapV, lenMV, hx, and_self], h⟩
  · obtain ⟨p, hp, h⟩ := withO_spec h
    have key : ∃ l, K (.string ⟨l.toArray⟩) H ∧ bytesV H p (fun l' => l' = l) := by
      unfold bytesV at *
      split at h
      · rename_i a n c
        unfold rowOf at *
        simp only at *
        cases hn : n == 0
        · rw [hn] at h
          obtain ⟨b, o, rfl, h⟩ := baseV_spec h
          obtain ⟨l, hl, h⟩ := withO_spec h
          obtain ⟨h1, h⟩ := h.out
          obtain ⟨bs, hb, h⟩ := withO_spec h
          exact ⟨bs, h, by simp only [Cho, baseV, withO, hl, Also, h1, hb, and_self]⟩
        · rw [hn] at h
          have h : withO (bytesOf []) fun l => K (.string ⟨l.toArray⟩) H := h
          obtain ⟨bs, hb, h⟩ := withO_spec h
          exact ⟨bs, h, by simp only [Cho, withO, hb]⟩
      · exact h.elim
    obtain ⟨l, h1, h2⟩ := key
    refine ⟨_, ?_, h1⟩
    simp only [Iop.vc, hp, withO]
    exact bytesV_mono h2 fun b e => by rw [e]; exact ⟨rfl, rfl⟩

end
end Go.Vc
