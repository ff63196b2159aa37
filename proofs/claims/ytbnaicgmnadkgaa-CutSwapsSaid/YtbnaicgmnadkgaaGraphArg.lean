/-
  A graph handed to a law.
-/
import Derived.Test.YtbnaicgmnadkgaaGraphC
import Derived.Test.YtbnaicgmnadkgaaArgs
set_option linter.unusedVariables false
set_option linter.unusedSimpArgs false
namespace Go.Proofs.Ytbnaicgmnadkgaa
open Go Go.Vc

theorem wf_i64 {x : Int} (h : (Lit.int .i64 x).wf = true) : -9223372036854775808 ≤ x ∧ x ≤ 9223372036854775807 := by
  have e1 : IntKind.i64.min = -9223372036854775808 := rfl
  have e2 : IntKind.i64.max = 9223372036854775807 := rfl
  simp only [Lit.wf, e1, e2, Bool.and_eq_true, decide_eq_true_eq] at h
  omega

def EdOk (e : Ed) : Prop := (-9223372036854775808 ≤ e.f ∧ e.f ≤ 9223372036854775807) ∧ (-9223372036854775808 ≤ e.t ∧ e.t ≤ 9223372036854775807) ∧ (-9223372036854775808 ≤ e.w ∧ e.w ≤ 9223372036854775807)

theorem rows_eds : ∀ {rows : List (List Value)}, (∀ r ∈ rows, fitL fitK [.i .i64, .i .i64, .i .i64] r) → ∃ es : List Ed, rows.flatten = flatE es ∧ es.length = rows.length ∧ ∀ e ∈ es, EdOk e := by
  intro rows
  induction rows with
  | nil => intro _; exact ⟨[], rfl, rfl, fun x hx => by cases hx⟩
  | cons r rows ih =>
    intro h
    obtain ⟨es, e1, e2, e3⟩ := ih fun q hq => h q (List.mem_cons_of_mem _ hq)
    obtain ⟨_, _, rfl, ⟨a, rfl, ha⟩, _, _, rfl, ⟨b, rfl, hb⟩, _, _, rfl, ⟨c, rfl, hc⟩, rfl⟩ := h r List.mem_cons_self
    refine ⟨⟨a, b, c⟩ :: es, ?_, by simp [e2], fun x hx => ?_⟩
    · rw [List.flatten_cons, e1, flatE_cons]; rfl
    · rcases List.mem_cons.1 hx with rfl | hx
      · exact ⟨wf_i64 ha, wf_i64 hb, wf_i64 hc⟩
      · exact e3 x hx

theorem fitA_graph {H : Hp} {v : Value} (h : fitA H (true, [.k (.i .i64), .sl [.i .i64, .i .i64, .i .i64]]) v) : ∃ (n : Int) (es : List Ed) (a : Option Addr) (c : Nat), v = grV n (.slice a es.length c) ∧
    RdS H 3 (.slice a es.length c) es.length (flatE es) ∧ es.length ≤ c ∧ es.length ≤ maxLen ∧ (-9223372036854775808 ≤ n ∧ n ≤ 9223372036854775807) ∧ ∀ e ∈ es, EdOk e := by
  obtain ⟨cs, rfl, _, _, rfl, ⟨n, rfl, hn⟩, _, _, rfl, ⟨rows, hr, hrows, hmax, a, c, rfl, hac⟩, rfl⟩ := h
  obtain ⟨es, e1, e2, e3⟩ := rows_eds hrows
  rw [e1, ← e2] at hr
  rw [← e2] at hac hmax ⊢
  exact ⟨n, es, a, c, rfl, hr, hac, hmax, wf_i64 hn, e3⟩

end Go.Proofs.Ytbnaicgmnadkgaa
