/- Texts put behind each other. -/
import Derived.Test.YtnanofhkpglbaaaGreatDoorK40
import Derived.Test.YtnanofhkpglbaaaGreatDoorK41
import Derived.Stop.LaidErr
import Derived.Stop.Joined
import Derived.LaidLaws
import Derived.HandedShaped
set_option linter.unusedSimpArgs false
set_option linter.unusedVariables false
set_option maxRecDepth 100000
set_option maxHeartbeats 80000000
namespace Go.Proofs.YtnanofhkpglbaaaGreatDoor
open Go Go.Vc Go.ChangeShapes Go.WideShapes Go.RowKit
theorem mc{H:Type}{enc:TypeId×Value->H}{a:Assume}{C:Checked}{os:Os}{f:FuncId}{fn:Func}{s:ChangeSpec}{conds:List PathCond}{apart fresh handsOn again:Bool}{X:World->Array Value->Prop}
  (c:∀ (w w':World) (args:Array Value),w.heap=w'.heap->X w args->X w' args)
  (own:ownKnob C.prog.godebug=none)(started:os.Started)(T:C.prog.inits.idxOf? f=none)(r:C.prog.funcs[f]? =some fn)
  (witness:∃ (w:World) (tape:Tape) (i:Input),w.os=os/\(w.forCall tape i).Shaped C.prog/\i.vars=[]/\Input.okWide C.prog (w.forCall tape i) .any w.heap.size f i/\
   ((s.pre enc C.prog fn conds apart (w.forCall tape i).memory i.args/\X (w.forCall tape i).memory i.args)/\sizedMet enc C.prog fn (OpenSpec.ofChange s) apart (w.forCall tape i).memory i.args)/\a.holds C.prog (lone (Frame.enter C.prog f i.args .normal) [] (w.forCall tape i)))
  (n:∀ (W:World) (base:Nat) (args:Array Value) (x h:List (DataW H)) (before:List MemPlace),
   (∀ (j:Nat) t v,fn.params[j]? =some t->args[j]? =some v->Value.okWide C.prog W .any base t v)->
   DataW.Whole enc C.prog fn.params.toList s.vars apart W args.toList x h before->
   conds.all (PathCond.test C.prog ⟨fn.params.toList,x,s.plain.varTypes C.prog,h⟩)=true->
   (DataW.weightsEach C.prog (fn.params.toList++s.plain.varTypes C.prog) (x++h)).all (· <=reachBytes)=true->X W args->W.ShapedOpen C.prog->
   a.holds C.prog (lone (Frame.enter C.prog f args .normal) [] W)->
   Calls C.prog f args W fun e z=>∃v,e= .returned v/\s.post enc C.prog fn apart fresh handsOn again W args v z):
  ReturnsInHanded a C os f .any (fun w args=>(s.pre enc C.prog fn conds apart w args/\X w args)/\sizedMet enc C.prog fn (OpenSpec.ofChange s) apart w args) (s.post enc C.prog fn apart fresh handsOn again):=by
 refine returnsInHanded_of_calls own started T witness ?_;intro w tape i _ B _ q u p;obtain⟨_,_,_,m,d,_,_,_,_,P⟩:=q;have e:m=fn:=Option.some.inj (d.symm.trans r);subst e;obtain⟨⟨⟨x,h,before,l,g⟩,A⟩,K⟩:=u;have L:=DataW.Whole.of_heap (w':=w.forCall tape i) (by rfl) l;refine(n (w.forCall tape i) w.heap.size i.args x h before P L g (K.weights l) (c _ _ _ (by rfl) A) B p).mono fun e z ⟨v,y,o⟩=>?_;subst y;exact ChangeSpec.post_blind o
theorem ac8:Tryz.prog.globalNamed "strconv.ErrSyntax" =some 3:=Y
theorem ac9:Tryz.prog.globalNamed "strconv.ErrRange" =some 4:=Y
theorem ada:(Tryz.prog.globals[3]?).map (·.type)=some 70:=Y
theorem adb:(Tryz.prog.globals[4]?).map (·.type)=some 70:=Y
theorem MB: "*" ++ "errors.errorString" = "*errors.errorString" :=by decide
theorem Qi:∀u,Tryz.prog.typeName? 3 u=some "*errors.errorString" ->u=436:=fun u h=>
 typeName_ptr_named (nm:= "errors.errorString") (by rw[MB];kernel_rfl) Y (by decide) u (by rw[MB];exact h)
theorem FP{W:World}{x y z u:String×DataW Unit}(h:laidMet Tryz.prog [x,y,("internal/strconv.uint64pow10",Rows.laid_internal_strconv_uint64pow10),z,("strconv.ErrRange",Rows.laid_strconv_ErrRange),("strconv.ErrSyntax",Rows.laid_strconv_ErrSyntax),u] W)(n:W.ShapedOpen Tryz.prog):kY W.heap:=by
 have c:=J1 h;obtain⟨a1,s1,a,_⟩:=laid_sentinel h.tail.tail.tail.tail ac9 adb Tryz.underlying70 Qi Tryz.underlying436 Tryz.underlying438 rfl rfl Tryz.underlying9 Y Y;obtain⟨a2,e,v,_⟩:=laid_sentinel h.tail.tail.tail.tail.tail ac8 ada Tryz.underlying70 Qi Tryz.underlying436 Tryz.underlying438 rfl rfl Tryz.underlying9 Y Y;obtain⟨m,hm⟩:=cell_of_shapedOpen_int (zero:= #[.int .i64 0]) (t:=3) (g:=0) n (of_decide_eq_true Y) Y rfl Y Y Tryz.underlying3;refine⟨c,fun w l=>?_,fun w l=>?_,fun w l=>?_⟩
 ·exact⟨_,_,oz (w:=W) (by rw[l];exact aj.refl _ _) v⟩
 ·exact⟨_,_,oz (w:=W) (by rw[l];exact aj.refl _ _) a⟩
 ·exact⟨m,GA (w:=W) (by rw[l];exact aj.refl _ _) hm⟩
end Go.Proofs.YtnanofhkpglbaaaGreatDoor
