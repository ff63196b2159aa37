/- Texts put behind each other. -/
import Derived.Test.YtnanofhkpglbaaaGreatDoorK25
import Derived.Test.YtnanofhkpglbaaaGreatDoorK38
import Derived.Test.YtnanofhkpglbaaaGreatDoorRows
import Derived.Lib.LaidTab
import Derived.LaidMore
set_option linter.unusedSimpArgs false
set_option linter.unusedVariables false
set_option maxRecDepth 100000
set_option maxHeartbeats 80000000
namespace Go.Proofs.YtnanofhkpglbaaaGreatDoor
open Go Go.Vc Go.ChangeShapes Go.WideShapes Go.RowKit
theorem BV{C:Checked}{f:FuncId}{fn:Func}{s:ChangeSpec}{shs:List (Bool×List Pc)}{tb:TypeId}{H:Type}{enc:TypeId×Value->H}(L:Dd C.prog fn.params.toList=some shs)(u:s.vars=[])
  (G:∀h:List (DataW H),h.length=fn.params.size->s.fn H h={results:=[.lit (.bool true)],args:=h})(y:fn.resultTypes= #[tb])(o:C.prog.underlying tb=some .bool)(laid:laidOutB C.prog=true)
  (U:(fn.params.toList.all fun t=>C.prog.readableRec t && decide (t<C.prog.types.size))=true)
  {W:World}{base:Nat}{args:Array Value}{h P:List (DataW H)}{before:List MemPlace}(E:∀ (j:Nat) t v,fn.params[j]? =some t->args[j]? =some v->Value.okWide C.prog W .any base t v)
  (n:DataW.Whole enc C.prog fn.params.toList s.vars false W args.toList h P before)
  (walk:lG (zD W.heap) shs args.toList->dO C.prog f args.toList W.heap fun v J=>ak (v= .bool true/\af W.heap J)):
  Calls C.prog f args W fun e W'=>∃v,e= .returned v/\s.post enc C.prog fn false true false false W args v W':=by
 have m:=n;obtain⟨p,q,z,A,rfl,hfz,dZ⟩:=n;have a:=A;rw[u]at a;obtain⟨rfl,rfl⟩:=trodVars_none a;have T:=Gl (b0:=base) (r:=.any) L (fun j t v F M=>E j t v (by simpa using F) (by simpa using M)) z;have N:=AW z;have Q:=m.lt;have c:=dO.law (walk T);rw[amf]at c;refine c.mono fun e W' ⟨K,V,g⟩=>?_;subst K;have w:s.fn H (h++[])={results:=[.lit (.bool true)],args:=h}:=by rw[alE];exact G h (by simpa using N)
 have I:∀t∈fn.params.toList,C.prog.readableRec t=true/\t<C.prog.types.size:=fun t D=>by
  have:=(amm.1 U) t D;simpa using this
 refine⟨_,rfl,uK (pa:=p) (pv:=[]) m (fun b B X=>?_) (fun B d=>?_) (fun B d=>by rw[u,w];rfl) rfl V g ?_⟩
 ·rw[w,y];exact trodAll_cons_mk (shut_bool o _) trodAll_mk0
 ·rw[w];exact uO laid I z (fun x l=>uP g (Q x (List.mem_append_left _ l))) (fun x l=>d x (List.mem_append_left _ l))
 ·exact ok_one y rfl (okWide_bool_mk o _)
theorem J0:(Rows.laid_internal_strconv_uint64pow10:DataW Unit)=Lib.tabData .u64 Lib.pow10Tab:=by rfl
theorem ac6:Tryz.prog.globalNamed "internal/strconv.uint64pow10" =some 5:=Y
theorem ac7:(Tryz.prog.globals[5]?).map (·.type)=some 410:=Y
theorem J1{W:World}{x y:String×DataW Unit}{rest:List (String×DataW Unit)}(h:laidMet Tryz.prog (x::y::("internal/strconv.uint64pow10",Rows.laid_internal_strconv_uint64pow10)::rest) W):D5 W.heap:=by
 obtain⟨ps,⟨_,_,_,_,_,_,_,_,_,_,⟨_,_,_,_,_,_,_,_,_,_,⟨g,t,cs,j,p,q,m,c,v,z,_,_⟩,_⟩,_⟩,_,_⟩:=h;obtain rfl:=Option.some.inj (ac6.symm.trans m);obtain rfl:=Option.some.inj (ac7.symm.trans c);rw[J0]at z;have a:=Lib.cells_of_tab (P:=Tryz.prog) (t:=410) (e:=38) (n:=20) Tryz.underlying410 Tryz.underlying38 Y Y z;intro w r;have l:Lib.TabIs Tryz.prog W "internal/strconv.uint64pow10" .u64 Lib.pow10Tab:=by
  unfold Lib.TabIs;rw[v,<-a]
 exact oz (by rw[r];exact aj.refl _ _) l
end Go.Proofs.YtnanofhkpglbaaaGreatDoor
