/-
  What a statement asks may be cut in two: what holds behind its first part is said, and goes into its second.
-/
import Derived.Test.YtbnaicgmnadkgaaLib
set_option linter.unusedVariables false
namespace Go.Vc

section
variable {P : Program} {ev : Ev} {H : Hp} {K K' : Value → Hp → Prop}

theorem lookV_mono {s : Shape} {r : Option Nat} {k : Value} {F G : Option Value → Prop} (h : lookV H s r k F) (hk : ∀ x, F x → G x) : lookV H s r k G := by
  unfold lookV at *
  cases r with
  | none => exact hk _ h
  | some b => exact withO_mono h fun m h => withO_mono h fun x => hk _

theorem AppendV_mono {T size bytes : Nat} {z : List Value} {s x : Value} (h : AppendV T size bytes z s x H K) (hk : ∀ v H', K v H' → K' v H') : AppendV T size bytes z s x H K' := by
  refine sliceV_mono h fun base n c h => rowOf_mono h fun m new h => ?_
  obtain ⟨h1, h2, h3⟩ := h
  exact ⟨fun a b => hk _ _ (h1 a b), fun a b => baseV_mono (h2 a b) fun b o h => withO_mono h fun l h => Also_mono h (hk _ _), fun a => ⟨(h3 a).1, rowOf_mono (h3 a).2 fun n l h c' hc => hk _ _ (h c' hc)⟩⟩

theorem iop_mono (i : Iop) (h : i.vc P ev H K) (hk : ∀ v H', K v H' → K' v H') : i.vc P ev H K' := by
  cases hc : i.cls with
  | pure => exact vc_mono i hc h hk
  | quiet =>
    cases i <;> simp [Iop.cls] at hc <;> simp only [Iop.vc] at h ⊢
    · exact withO_mono h fun v h => ptrV_mono h fun b o h => withO_mono h fun l h => withO_mono h fun v => hk _ _
    · exact withO_mono h fun v h => ptrV_mono h fun b o h => withO_mono h fun l h => Also_mono h (hk _ _)
    · exact withO_mono h fun v h => withO_mono h fun v h => mapV_mono h fun r h => Also_mono h fun h => lookV_mono h fun x => hk _ _
    · refine withO_mono h fun v h => mapV_mono h fun r h => ?_
      unfold lenMV at *
      cases r with
      | none => exact hk _ _ h
      | some b => exact withO_mono h fun m => hk _ _
    · exact withO_mono h fun v h => bytesV_mono h fun l => hk _ _
  | acts =>
    cases i <;> simp [Iop.cls] at hc <;> simp only [Iop.vc] at h ⊢
    · exact withO_mono h fun v => hk _ _
    · exact hk _ _ h
    · exact fillV_mono h fun l => hk _ _
    · exact withO_mono h fun v h => ptrV_mono h fun b o h => withO_mono h fun v h => withO_mono h fun l h => Also_mono h fun h => Also_mono h fun h => Also_mono h (hk _ _)
    · exact hk _ _ h
    · exact withO_mono h fun v h => withO_mono h fun v h => intV_mono h fun n h => intV_mono h fun c h => Also_mono h (hk _ _)
    · exact withO_mono h fun v h => withO_mono h fun v h => withO_mono h fun v h => mapV_mono h fun r h => withO_mono h fun b h => Also_mono h fun h => withO_mono h fun es h => withO_mono h fun x h => Also_mono h (hk _ _)
    · exact evs_mono h fun l h => CallH.mono h hk
    · refine withO_mono h fun v h => evs_mono h fun l h => ?_
      unfold DynH at *
      split at h
      · exact ⟨h.1, h.2.mono hk⟩
      · exact h.elim
    · refine withO_mono h fun v h => evs_mono h fun l h => ?_
      obtain ⟨T, v, f, rv, e, hm, hc⟩ := h
      exact ⟨T, v, f, rv, e, hm, hc.mono hk⟩
    · exact withO_mono h fun v h => withO_mono h fun v h => AppendV_mono h hk
    · exact withO_mono h fun v h => withO_mono h fun v h => mapV_mono h fun r h => withO_mono h fun b h => Also_mono h fun h => withO_mono h fun es h => withO_mono h fun x => hk _ _
    · refine withO_mono h fun v h => ?_
      unfold stringV at *
      split at h
      · exact fun c hc => hk _ _ (h c hc)
      · exact h.elim
    · exact evs_mono h fun l h => by obtain ⟨v, h1, h2⟩ := h; exact ⟨v, h1, hk _ _ h2⟩

theorem sop_mono (s : Sop) (h : s.vc P ev H K) (hk : ∀ v H', K v H' → K' v H') : s.vc P ev H K' := by
  unfold Sop.vc at *
  cases hq : s.quiet
  · rw [hq] at h; exact iop_mono s.op h hk
  · rw [hq] at h; obtain ⟨v, h1, h2⟩ := h; exact ⟨v, h1, hk _ _ h2⟩

theorem gV_mono {o : Option Value} {F F' : Bool → Prop} {N N' : Prop} (h : gV o F N) (hf : ∀ b, F b → F' b) (hn : N → N') : gV o F' N' := by
  rcases gV_spec h with ⟨b, rfl, h⟩ | ⟨vs, rfl, h⟩
  · exact hf b h
  · exact hn h

theorem Cho_mono {b : Bool} {A A' B B' : Prop} (h : Cho b A B) (ha : A → A') (hb : B → B') : Cho b A' B' := by
  cases b
  · exact hb h
  · exact ha h

theorem vcOps_mono {F F' : Env → Hp → Prop} (hk : ∀ e H, F e H → F' e H) : ∀ (l : List Sop) (env : Env) (H : Hp), vcOps P F l env H → vcOps P F' l env H := by
  intro l
  induction l with
  | nil => intro env H h; exact hk _ _ h
  | cons s l ih =>
    intro env H h
    unfold vcOps at h ⊢
    cases hg : s.guard with
    | none => rw [hg] at h; exact sop_mono s h fun v H' => ih _ _
    | some g =>
      rw [hg] at h
      exact gV_mono h (fun b h => Cho_mono h (fun h => sop_mono s h fun v H' => ih _ _) (ih _ _)) (ih _ _)

theorem grdV_mono {s : Sop} {env : Env} {F F' N N' : Env → Prop} (h : grdV s env F N) (hf : ∀ e, F e → F' e) (hn : ∀ e, N e → N' e) : grdV s env F' N' := by
  unfold grdV at *
  cases hg : s.guard with
  | none => rw [hg] at h; exact hf _ h
  | some g => rw [hg] at h; exact gV_mono h (fun b h => Cho_mono h (hf _) (hn _)) (hn _)

theorem vcT_mono {Inv : Hp → Prop} {F F' : Env → Hp → Prop} (hk : ∀ e H, F e H → F' e H) : ∀ (t : OtS) (env : Env) (H : Hp), vcT P Inv F t env H → vcT P Inv F' t env H := by
  intro t
  induction t with
  | done => intro env H h; exact hk _ _ h
  | stop => intro env H h; trivial
  | pur s t ih => intro env H h; exact grdV_mono h (fun e h => iop_mono s.op h fun v H' => ih _ _) (fun e => ih _ _)
  | stb s t ih => intro env H h; exact grdV_mono h (fun e h => by obtain ⟨v, h1, h2⟩ := h; exact ⟨v, h1, ih _ _ h2⟩) (fun e => ih _ _)
  | fork s t r ih ihr => intro env H h; exact ⟨grdV_mono h.1 (fun e h => iop_mono s.op h fun v H' h => Also_mono h (ih _ _)) (fun e => ih _ _), ihr _ _ h.2⟩

theorem vc_mono_all : ∀ (s : S) (env : Env) (H : Hp) (Kn Kn' : Env → Hp → Prop) (Kx Kx' : Nat → Env → Hp → Prop) (Kr Kr' : Env → Hp → Prop), (∀ e H, Kn e H → Kn' e H) → (∀ i e H, Kx i e H → Kx' i e H) → (∀ e H, Kr e H → Kr' e H) →
    vc P s env H Kn Kx Kr → vc P s env H Kn' Kx' Kr' := by
  intro s
  induction s with
  | skip => intro env H Kn Kn' Kx Kx' Kr Kr' hn hx hr h; exact hn _ _ h
  | reg ops keep => intro env H Kn Kn' Kx Kx' Kr Kr' hn hx hr h; exact vcOps_mono (fun e H h => hn _ _ h) ops env H h
  | regT t keep => intro env H Kn Kn' Kx Kx' Kr Kr' hn hx hr h; obtain ⟨Inv, hI, h⟩ := h; exact ⟨Inv, hI, vcT_mono (fun e H h => hn _ _ h) t env H h⟩
  | seq a b iha ihb => intro env H Kn Kn' Kx Kx' Kr Kr' hn hx hr h; exact iha env H _ _ _ _ _ _ (fun e H h => ihb e H _ _ _ _ _ _ hn hx hr h) hx hr h
  | cond c x y ihx ihy =>
    intro env H Kn Kn' Kx Kx' Kr Kr' hn hx hr h
    simp only [vc] at *
    unfold guardV at *
    split at h
    · exact boolV_mono h fun b h => Cho_mono h (ihx _ _ _ _ _ _ _ _ hn hx hr) (ihy _ _ _ _ _ _ _ _ hn hx hr)
    · exact h.elim
  | blk id b ih => intro env H Kn Kn' Kx Kx' Kr Kr' hn hx hr h; exact ih env H _ _ _ _ _ _ hn (fun i e H h => Cho_mono h (hn _ _) (hx _ _ _)) hr h
  | loop L b ih =>
    intro env H Kn Kn' Kx Kx' Kr Kr' hn hx hr h
    obtain ⟨I, h0, round⟩ := h
    exact ⟨I, h0, fun m env H hI => ih env H _ _ _ _ _ _ (fun e H h => h) hx hr (round m env H hI)⟩
  | exit id => intro env H Kn Kn' Kx Kx' Kr Kr' hn hx hr h; exact hx _ _ _ h
  | ret => intro env H Kn Kn' Kx Kx' Kr Kr' hn hx hr h; exact hr _ _ h
  | bad => intro env H Kn Kn' Kx Kx' Kr Kr' hn hx hr h; exact h.elim

/-- Two statements, the first of which goes different ways that meet again. -/
def cutS (a b : S) : S := .seq a b

theorem vc_cutS (a b : S) (env : Env) (H : Hp) (Kn : Env → Hp → Prop) (Kx : Nat → Env → Hp → Prop) (Kr : Env → Hp → Prop) : vc P (cutS a b) env H Kn Kx Kr = vc P a env H (fun env' H' => vc P b env' H' Kn Kx Kr) Kx Kr := rfl

theorem vc_cut {a b : S} {env : Env} {H : Hp} {Kn : Env → Hp → Prop} {Kx : Nat → Env → Hp → Prop} {Kr : Env → Hp → Prop} (M : Env → Hp → Prop) (h1 : vc P a env H M Kx Kr) (h2 : ∀ e H', M e H' → vc P b e H' Kn Kx Kr) : vc P (cutS a b) env H Kn Kx Kr :=
  vc_mono_all a env H _ _ _ _ _ _ h2 (fun _ _ _ h => h) (fun _ _ h => h) h1

end
end Go.Vc
