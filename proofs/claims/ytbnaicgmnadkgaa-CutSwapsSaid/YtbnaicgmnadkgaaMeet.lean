/-
  Two ways that meet: what holds behind both.
-/
import Derived.Test.YtbnaicgmnadkgaaCut
set_option linter.unusedVariables false
namespace Go.Vc

theorem Both.meet {P : Program} {b : Bool} {A B : S} {env : Env} {H : Hp} {Kn : Env → Hp → Prop} {Kx : Nat → Env → Hp → Prop} {Kr : Env → Hp → Prop} (I : Env → Hp → Prop)
    (ht : b = true → vc P A env H I Kx Kr) (hf : b = false → vc P B env H I Kx Kr) (k : ∀ e h, I e h → Kn e h) :
    Both b fun t => Cho t (vc P A env H Kn Kx Kr) (vc P B env H Kn Kx Kr) := by
  cases b
  · exact vc_mono_all B env H _ _ _ _ _ _ k (fun _ _ _ h => h) (fun _ _ h => h) (hf rfl)
  · exact vc_mono_all A env H _ _ _ _ _ _ k (fun _ _ _ h => h) (fun _ _ h => h) (ht rfl)

theorem Both.meetD {P : Program} {p : Prop} [d : Decidable p] {A B : S} {env : Env} {H : Hp} {Kn : Env → Hp → Prop} {Kx : Nat → Env → Hp → Prop} {Kr : Env → Hp → Prop} (I : Env → Hp → Prop)
    (ht : p → vc P A env H I Kx Kr) (hf : ¬ p → vc P B env H I Kx Kr) (k : ∀ e h, I e h → Kn e h) :
    Both (decide p) fun t => Cho t (vc P A env H Kn Kx Kr) (vc P B env H Kn Kx Kr) :=
  Both.meet I (fun h => ht (of_decide_eq_true h)) (fun h => hf (of_decide_eq_false h)) k

end Go.Vc
