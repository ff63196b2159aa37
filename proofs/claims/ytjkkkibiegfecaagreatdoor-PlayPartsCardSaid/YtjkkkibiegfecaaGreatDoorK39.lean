/- Texts put behind each other. -/
import Derived.Test.YtjkkkibiegfecaaGreatDoorK98
import Derived.Test.YtjkkkibiegfecaaGreatDoorK34
import Derived.Test.YtjkkkibiegfecaaGreatDoorK35
import Derived.Stop.LaidErr
import Derived.Stop.Joined
import Derived.LaidLaws
import Derived.HandedShaped
set_option maxRecDepth 100000
set_option maxHeartbeats 8000000
set_option linter.unusedVariables false
set_option linter.unusedSimpArgs false
namespace Go.Proofs.YtjkkkibiegfecaaGreatDoor
open Go Go.Vc Go.ChangeShapes Go.WideShapes Go.RowKit
theorem oU{H:Type}{enc:TypeId×Value→H}{a:Assume}{C:Checked}{os:Os}{f:FuncId}{fn:Func}{s:ChangeSpec}{conds:List PathCond}{apart fresh handsOn again:Bool}{X:World→Array Value→Prop}
  (hX:∀ (w w':World) (args:Array Value),w.heap=w'.heap→X w args→X w' args)
  (own:ownKnob C.prog.godebug=none)(started:os.Started)(Yq:C.prog.inits.idxOf? f=none)(hfn:C.prog.funcs[f]? =some fn)
  (witness:∃ (w:World) (tape:Tape) (i:Input),w.os=os∧(w.forCall tape i).Shaped C.prog∧i.vars=[]∧Input.okWide C.prog (w.forCall tape i) .any w.heap.size f i∧
   ((s.pre enc C.prog fn conds apart (w.forCall tape i).memory i.args∧X (w.forCall tape i).memory i.args)∧sizedMet enc C.prog fn (OpenSpec.ofChange s) apart (w.forCall tape i).memory i.args)∧a.holds C.prog (lone (Frame.enter C.prog f i.args .normal) [] (w.forCall tape i)))
  (TD:∀ (W:World) (base:Nat) (args:Array Value) (ds gs:List (DataW H)) (before:List MemPlace),
   (∀ (j:Nat) t v,fn.params[j]? =some t→args[j]? =some v→Value.okWide C.prog W .any base t v)→
   DataW.Whole enc C.prog fn.params.toList s.vars apart W args.toList ds gs before→
   conds.all (PathCond.test C.prog ⟨fn.params.toList,ds,s.plain.varTypes C.prog,gs⟩)=true→
   (DataW.weightsEach C.prog (fn.params.toList++s.plain.varTypes C.prog) (ds++gs)).all (· ≤reachBytes)=true→X W args→W.ShapedOpen C.prog→
   a.holds C.prog (lone (Frame.enter C.prog f args .normal) [] W)→
   Calls C.prog f args W fun e W'=>∃v,e= .returned v∧s.post enc C.prog fn apart fresh handsOn again W args v W'):
  ReturnsInHanded a C os f .any (fun w args=>(s.pre enc C.prog fn conds apart w args∧X w args)∧sizedMet enc C.prog fn (OpenSpec.ofChange s) apart w args) (s.post enc C.prog fn apart fresh handsOn again):=by
 refine returnsInHanded_of_calls own started Yq witness ?_
 intro w tape i _ FA _ pR agS Yr
 obtain⟨_,_,_,fn',agT,_,_,_,_,My⟩:=pR
 have e:fn'=fn:=Option.some.inj (agT.symm.trans hfn)
 subst e
 obtain⟨⟨⟨ds,gs,before,hw,hc⟩,hx⟩,hz⟩:=agS
 have JE:=DataW.Whole.of_heap (w':=w.forCall tape i) (by rfl) hw
 refine(TD (w.forCall tape i) w.heap.size i.args ds gs before My JE hc (hz.weights hw) (hX _ _ _ (by rfl) hx) FA Yr).mono fun e W' ⟨v,he,hp⟩=>?_
 subst he
 exact ChangeSpec.post_blind hp
theorem agU:Tryz.prog.globalNamed "strconv.ErrSyntax" =some 4:=by kernel_rfl
theorem agV:Tryz.prog.globalNamed "strconv.ErrRange" =some 5:=by kernel_rfl
theorem agW:(Tryz.prog.globals[4]?).map (·.type)=some 73:=by kernel_rfl
theorem agX:(Tryz.prog.globals[5]?).map (·.type)=some 73:=by kernel_rfl
theorem P9: "*" ++ "errors.errorString" = "*errors.errorString" :=by decide
theorem TE:∀u,Tryz.prog.typeName? 3 u=some "*errors.errorString" →u=346:=fun u h=>
 typeName_ptr_named (nm:= "errors.errorString") (by rw[P9];kernel_rfl) (by kernel_rfl) (by decide) u (by rw[P9];exact h)
end Go.Proofs.YtjkkkibiegfecaaGreatDoor

namespace Go.Proofs.YtjkkkibiegfecaaGreatDoor
open Go Go.Vc Go.ChangeShapes Go.WideShapes Go.RowKit
theorem Ja{W:World}{x y z u:String×DataW Unit}(h:laidMet Tryz.prog [x,y,("internal/strconv.uint64pow10",Rows.laid_internal_strconv_uint64pow10),z,("strconv.ErrRange",Rows.laid_strconv_ErrRange),("strconv.ErrSyntax",Rows.laid_strconv_ErrSyntax),u] W)(hs:W.ShapedOpen Tryz.prog):yk W.heap:=by
 have ht:=M2 h
 obtain⟨a1,s1,hr,_⟩:=laid_sentinel h.tail.tail.tail.tail agV agX Tryz.underlying73 TE Tryz.underlying346 Tryz.underlying348 rfl rfl Tryz.underlying9 (by kernel_rfl) (by kernel_rfl)
 obtain⟨a2,s2,hy,_⟩:=laid_sentinel h.tail.tail.tail.tail.tail agU agW Tryz.underlying73 TE Tryz.underlying346 Tryz.underlying348 rfl rfl Tryz.underlying9 (by kernel_rfl) (by kernel_rfl)
 obtain⟨m,hm⟩:=cell_of_shapedOpen_int (zero:= #[.int .i64 0]) (t:=3) (g:=1) hs (of_decide_eq_true (by kernel_rfl)) (by kernel_rfl) rfl (by kernel_rfl) (by kernel_rfl) Tryz.underlying3
 refine⟨ht,fun w hw=>?_,fun w hw=>?_,fun w hw=>?_⟩
 ·exact⟨_,_,rq (w:=W) (by rw[hw];exact ah.refl _ _) hy⟩
 ·exact⟨_,_,rq (w:=W) (by rw[hw];exact ah.refl _ _) hr⟩
 ·exact⟨m,JW (w:=W) (by rw[hw];exact ah.refl _ _) hm⟩
end Go.Proofs.YtjkkkibiegfecaaGreatDoor
