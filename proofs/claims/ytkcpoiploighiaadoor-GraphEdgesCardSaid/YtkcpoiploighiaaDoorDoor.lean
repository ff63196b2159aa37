/-
  The frame of a law whose row lists tables; from what is listed to what a walk leans on.
-/
import Derived.Test.YtkcpoiploighiaaDoorTabsI
import Derived.Test.YtkcpoiploighiaaDoorArgs
import Derived.Test.YtkcpoiploighiaaDoorRows
import Derived.Lib.LaidTab
import Derived.DataReads
import Derived.RowKit
import Derived.Handed
import Derived.ChangeOld
import Derived.ChangeArms
import Derived.OpenShut
import Derived.WideKeyArgs
import Derived.Test.YtkcpoiploighiaaDoorLaw
import Derived.LaidMore
set_option linter.unusedVariables false
set_option linter.unusedSimpArgs false
namespace Go.Proofs.YtkcpoiploighiaaDoor
open Go Go.Vc Go.ChangeShapes Go.WideShapes Go.RowKit

theorem law_contract_at {C : Checked} {f : FuncId} {fn : Func} {s : ChangeSpec} {shs : List (Bool × List Pc)} {tb : TypeId} {H : Type} {enc : TypeId × Value → H} (hT : argsT C.prog fn.params.toList = some shs) (hvars : s.vars = [])
    (hspec : ∀ ds : List (DataW H), ds.length = fn.params.size → s.fn H ds = { results := [.lit (.bool true)], args := ds }) (hres : fn.resultTypes = #[tb]) (htb : C.prog.underlying tb = some .bool) (laid : laidOutB C.prog = true)
    (hread : (fn.params.toList.all fun t => C.prog.readableRec t && decide (t < C.prog.types.size)) = true)
    {W : World} {base : Nat} {args : Array Value} {ds gs : List (DataW H)} {before : List MemPlace} (hval : ∀ (j : Nat) t v, fn.params[j]? = some t → args[j]? = some v → Value.okWide C.prog W .any base t v)
    (hW : DataW.Whole enc C.prog fn.params.toList s.vars false W args.toList ds gs before)
    (walk : fitL (fitA W.heap) shs args.toList → CallH C.prog f args.toList W.heap fun v H' => Post (v = .bool true ∧ Fresh W.heap H')) :
    Calls C.prog f args W fun e W' => ∃ v, e = .returned v ∧ s.post enc C.prog fn false true false false W args v W' := by
  have hW' := hW
  obtain ⟨p, q, hA, hV, rfl, hfz, hnd⟩ := hW
  have hV' := hV
  rw [hvars] at hV'
  obtain ⟨rfl, rfl⟩ := trodVars_none hV'
  have hfit := argsT_fit (b0 := base) (r := .any) hT (fun j t v hj hv => hval j t v (by simpa using hj) (by simpa using hv)) hA
  have hlen := trodAll_len hA
  have hlt := hW'.lt
  have hc := CallH.law (walk hfit)
  rw [Array.toArray_toList] at hc
  refine hc.mono fun e W' ⟨he, hs, hfr⟩ => ?_
  subst he
  have hsp : s.fn H (ds ++ []) = { results := [.lit (.bool true)], args := ds } := by rw [List.append_nil]; exact hspec ds (by simpa using hlen)
  have hread' : ∀ t ∈ fn.params.toList, C.prog.readableRec t = true ∧ t < C.prog.types.size := fun t ht => by
    have := (List.all_eq_true.1 hread) t ht
    simpa using this
  refine ⟨_, rfl, post_of_fresh (pa := p) (pv := []) hW' (fun b sp hd => ?_) (fun sp hsp' => ?_) (fun sp hsp' => by rw [hvars, hsp]; rfl) rfl hs hfr ?_⟩
  · rw [hsp, hres]
    exact trodAll_cons_mk (shut_bool htb _) trodAll_mk0
  · rw [hsp]
    exact trodAll_stays laid hread' hA (fun x hx => same_of_fresh hfr (hlt x (List.mem_append_left _ hx))) (fun x hx => hsp' x (List.mem_append_left _ hx))
  · exact ok_one hres rfl (okWide_bool_mk htb _)

theorem tabData_pow : (Rows.laid_internal_strconv_uint64pow10 : DataW Unit) = Lib.tabData .u64 Lib.pow10Tab := by rfl

theorem gPow : Tryd.prog.globalNamed "internal/strconv.uint64pow10" = some 3 := by kernel_rfl
theorem tPow : (Tryd.prog.globals[3]?).map (·.type) = some 150 := by kernel_rfl

/-- The table stands third on the list. -/
theorem tab_of_laid {W : World} {x y : String × DataW Unit} {rest : List (String × DataW Unit)} (h : laidMet Tryd.prog (x :: y :: ("internal/strconv.uint64pow10", Rows.laid_internal_strconv_uint64pow10) :: rest) W) : TabH W.heap := by
  obtain ⟨ps, ⟨_, _, _, _, _, _, _, _, _, _, ⟨_, _, _, _, _, _, _, _, _, _, ⟨g, t, cs, fuel, p, q, hg, ht, hvar, hd, _, _⟩, _⟩, _⟩, _, _⟩ := h
  obtain rfl := Option.some.inj (gPow.symm.trans hg)
  obtain rfl := Option.some.inj (tPow.symm.trans ht)
  rw [tabData_pow] at hd
  have hcs := Lib.cells_of_tab (P := Tryd.prog) (t := 150) (e := 24) (n := 20) Tryd.underlying150 Tryd.underlying24 (by kernel_rfl) (by kernel_rfl) hd
  intro w hw
  have h0 : Lib.TabIs Tryd.prog W "internal/strconv.uint64pow10" .u64 Lib.pow10Tab := by
    unfold Lib.TabIs
    rw [hvar, ← hcs]
  exact var_keep (by rw [hw]; exact Ext.refl _ _) h0

end Go.Proofs.YtkcpoiploighiaaDoor
