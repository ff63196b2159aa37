/-
  Calls of closures: the captured variables follow the arguments.
-/
import Derived.Test.YtbnaicgmnadkgaaBase
set_option linter.unusedVariables false
set_option linter.unusedSimpArgs false
namespace Go.Vc
open Go

theorem callH_ofC {P : Program} (hm : P.follows .mixedOrders = true) {f : FuncId} {an : List Ann} {F : Fn} (hd : decFn P f an = some F) {args : List Value} {H : Hp} {K : Value → Hp → Prop} {nt : Nat} (ht : (P.funcs[f]?).map (·.ntmps) = some nt) (hlen : args.length ≤ nt)
    (h : Go.Vc.vc P F.body (argsEnv 0 args) H (fun env H => resV env H F.res fun vs => K (tup vs) H) (fun _ _ _ => False) (fun env H => resV env H F.res fun vs => K (tup vs) H)) : CallH P f args H K := by
  unfold decFn at hd
  split at hd
  · cases hd
  · rename_i fn hf
    split at hd
    · cases hd
    · rename_i c hb
      split at hd
      · rename_i s hs
        split at hd
        · rename_i hle
          cases hr : decRes P fn.results.toList with
          | none => rw [hr] at hd; cases hd
          | some rs =>
            rw [hr] at hd
            simp only [Option.map_some, Option.some.injEq] at hd
            subst hd
            simp only at h
            rw [hf] at ht
            simp only [Option.map_some, Option.some.injEq] at ht
            intro w hw
            subst hw
            refine calls_of_wp hf hb ?_
            have hh : Holds (argsEnv 0 args) { tmps := args.toArray ++ Array.replicate (fn.ntmps - args.toArray.size) undef, defers := [] } fn.ntmps := by
              refine ⟨by simp; omega, rfl, fun k v hk => ?_⟩
              obtain ⟨_, h2⟩ := find_args args 0 k v hk
              have hlt : k < args.length := by
                rcases Nat.lt_or_ge k args.length with h' | h'
                · exact h'
                · simp [List.getElem?_eq_none h'] at h2
              rw [Array.getElem?_append_left (by simpa using hlt)]
              simpa using h2
            have hres : ∀ env' a' w', Same w w' → Holds env' a' fn.ntmps → resV env' w'.heap rs (fun vs => K (tup vs) w'.heap) →
                a'.defers = [] ∧ ∃ v, (results fn a'.tmps).run P w' = .ok v w' ∧ (∃ v_1, Ending.returned v = Ending.returned v_1 ∧ Same w w' ∧ K v_1 w'.heap) := by
              intro env' a' w' hsm hh' hk
              obtain ⟨vs, hF, hrun⟩ := runs_results (P := P) hh' fn.results.toList rs _ hr hk
              refine ⟨hh'.defers, tup vs, ?_, _, rfl, hsm, hF⟩
              change (do let vs ← fn.results.mapM (resSem a'.tmps); pure (if h : vs.size = 1 then vs[0] else .tuple vs) : Sem Value).run P w' = _
              rw [Array.mapM_eq_mapM_toList]
              simp only [Sem.run_bind, Sem.run_map, hrun, Result.andThen_ok, Sem.run_pure]
              congr 1
              cases vs with
              | nil => rfl
              | cons x r => cases r with
                | nil => rfl
                | cons y r => simp [tup]
            refine wp_of_vc hm c an s [] hs _ _ w _ _ _ _ hh h ?_ ?_ ?_
            · exact fun env' a' w' hsm hh' hk => hres env' a' w' hsm hh' hk
            · exact fun _ _ _ _ _ _ hk => hk.elim
            · exact fun env' a' w' hsm hh' hk => hres env' a' w' hsm hh' hk
        · cases hd
      · cases hd

end Go.Vc
