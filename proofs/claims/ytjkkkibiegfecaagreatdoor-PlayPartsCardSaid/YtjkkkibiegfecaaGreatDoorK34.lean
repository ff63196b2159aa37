/- Texts put behind each other. -/
import Derived.Test.YtjkkkibiegfecaaGreatDoorK98
import Derived.Test.YtjkkkibiegfecaaGreatDoorK13
import Derived.Test.YtjkkkibiegfecaaGreatDoorK22
import Derived.Test.YtjkkkibiegfecaaGreatDoorK23
import Derived.Test.YtjkkkibiegfecaaGreatDoorRows
import Derived.Lib.LaidTab
import Derived.DataReads
import Derived.RowKit
import Derived.Handed
import Derived.ChangeOld
import Derived.ChangeArms
import Derived.OpenShut
import Derived.WideKeyArgs
import Derived.LaidMore
set_option maxRecDepth 100000
set_option maxHeartbeats 8000000
set_option linter.unusedVariables false
set_option linter.unusedSimpArgs false
namespace Go.Proofs.YtjkkkibiegfecaaGreatDoor
open Go Go.Vc Go.ChangeShapes Go.WideShapes Go.RowKit
theorem Fi{C:Checked}{f:FuncId}{fn:Func}{s:ChangeSpec}{shs:List (Bool×List Pc)}{tb:TypeId}{H:Type}{enc:TypeId×Value→H}(hT:GH C.prog fn.params.toList=some shs)(D5:s.vars=[])
  (Wi:∀ds:List (DataW H),ds.length=fn.params.size→s.fn H ds={results:=[.lit (.bool true)],args:=ds})(AT:fn.resultTypes= #[tb])(Sx:C.prog.underlying tb=some .bool)(laid:laidOutB C.prog=true)
  (Wj:(fn.params.toList.all fun t=>C.prog.readableRec t && decide (t<C.prog.types.size))=true)
  {W:World}{base:Nat}{args:Array Value}{ds gs:List (DataW H)}{before:List MemPlace}(My:∀ (j:Nat) t v,fn.params[j]? =some t→args[j]? =some v→Value.okWide C.prog W .any base t v)
  (hW:DataW.Whole enc C.prog fn.params.toList s.vars false W args.toList ds gs before)
  (walk:oB (EO W.heap) shs args.toList→ag C.prog f args.toList W.heap fun v H'=>ap (v= .bool true∧ai W.heap H')):
  Calls C.prog f args W fun e W'=>∃v,e= .returned v∧s.post enc C.prog fn false true false false W args v W':=by
 have hW':=hW
 obtain⟨p,q,hA,hV,rfl,hfz,jk⟩:=hW
 have hV':=hV
 rw[D5]at hV'
 obtain⟨rfl,rfl⟩:=trodVars_none hV'
 have Xj:=JD (b0:=base) (r:=.any) hT (fun j t v hj hv=>My j t v (by simpa using hj) (by simpa using hv)) hA
 have bu:=Eb hA
 have bf:=hW'.lt
 have hc:=ag.law (walk Xj)
 rw[apn]at hc
 refine hc.mono fun e W' ⟨he,hs,Xk⟩=>?_
 subst he
 have QO:s.fn H (ds++[])={results:=[.lit (.bool true)],args:=ds}:=by rw[aoO];exact Wi ds (by simpa using bu)
 have Oo:∀t∈fn.params.toList,C.prog.readableRec t=true∧t<C.prog.types.size:=fun t ht=>by
  have:=(apq.1 Wj) t ht
  simpa using this
 refine⟨_,rfl,yp (pa:=p) (pv:=[]) hW' (fun b sp hd=>?_) (fun sp U6=>?_) (fun sp U6=>by rw[D5,QO];rfl) rfl hs Xk ?_⟩
 ·rw[QO,AT]
  exact trodAll_cons_mk (shut_bool Sx _) trodAll_mk0
 ·rw[QO]
  exact yu laid Oo hA (fun x hx=>yw Xk (bf x (List.mem_append_left _ hx))) (fun x hx=>U6 x (List.mem_append_left _ hx))
 ·exact ok_one AT rfl (okWide_bool_mk Sx _)
theorem M1:(Rows.laid_internal_strconv_uint64pow10:DataW Unit)=Lib.tabData .u64 Lib.pow10Tab:=by rfl
theorem agO:Tryz.prog.globalNamed "internal/strconv.uint64pow10" =some 0:=by kernel_rfl
theorem agP:(Tryz.prog.globals[0]?).map (·.type)=some 312:=by kernel_rfl
theorem M2{W:World}{x y:String×DataW Unit}{rest:List (String×DataW Unit)}(h:laidMet Tryz.prog (x::y::("internal/strconv.uint64pow10",Rows.laid_internal_strconv_uint64pow10)::rest) W):IJ W.heap:=by
 obtain⟨ps,⟨_,_,_,_,_,_,_,_,_,_,⟨_,_,_,_,_,_,_,_,_,_,⟨g,t,cs,dk,p,q,hg,ht,agQ,hd,_,_⟩,_⟩,_⟩,_,_⟩:=h
 obtain rfl:=Option.some.inj (agO.symm.trans hg)
 obtain rfl:=Option.some.inj (agP.symm.trans ht)
 rw[M1]at hd
 have GF:=Lib.cells_of_tab (P:=Tryz.prog) (t:=312) (e:=63) (n:=20) Tryz.underlying312 Tryz.underlying63 (by kernel_rfl) (by kernel_rfl) hd
 intro w hw
 have h0:Lib.TabIs Tryz.prog W "internal/strconv.uint64pow10" .u64 Lib.pow10Tab:=by
  unfold Lib.TabIs
  rw[agQ,←GF]
 exact rq (by rw[hw];exact ah.refl _ _) h0
end Go.Proofs.YtjkkkibiegfecaaGreatDoor
