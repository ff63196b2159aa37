/- Texts put behind each other. -/
import Derived.Test.YtjkkkibiegfecaaGreatDoorK22
import Derived.Test.YtjkkkibiegfecaaGreatDoorK23
import Derived.Test.YtjkkkibiegfecaaGreatDoorRows
import Derived.Lib.LaidTab
import Derived.LaidMore
set_option linter.unusedSimpArgs false
set_option linter.unusedVariables false
set_option maxRecDepth 100000
set_option maxHeartbeats 8000000
namespace Go.Proofs.YtjkkkibiegfecaaGreatDoor
open Go Go.Vc Go.ChangeShapes Go.WideShapes Go.RowKit
theorem BZ{C:Checked}{f:FuncId}{fn:Func}{s:ChangeSpec}{shs:List (Bool×List Pc)}{tb:TypeId}{H:Type}{enc:TypeId×Value->H}(L:C8 C.prog fn.params.toList=some shs)(u:s.vars=[])
  (G:∀h:List (DataW H),h.length=fn.params.size->s.fn H h={results:=[.lit (.bool true)],args:=h})(y:fn.resultTypes= #[tb])(o:C.prog.underlying tb=some .bool)(laid:laidOutB C.prog=true)
  (U:(fn.params.toList.all fun t=>C.prog.readableRec t && decide (t<C.prog.types.size))=true)
  {W:World}{base:Nat}{args:Array Value}{h P:List (DataW H)}{before:List MemPlace}(E:∀ (j:Nat) t v,fn.params[j]? =some t->args[j]? =some v->Value.okWide C.prog W .any base t v)
  (n:DataW.Whole enc C.prog fn.params.toList s.vars false W args.toList h P before)
  (walk:lP (zL W.heap) shs args.toList->ee C.prog f args.toList W.heap fun v J=>ak (v= .bool true/\af W.heap J)):
  Calls C.prog f args W fun e W'=>∃v,e= .returned v/\s.post enc C.prog fn false true false false W args v W':=by
 have m:=n;obtain⟨p,q,z,A,rfl,hfz,eU⟩:=n;have a:=A;rw[u]at a;obtain⟨rfl,rfl⟩:=trodVars_none a;have T:=F8 (b0:=base) (r:=.any) L (fun j t v F M=>E j t v (by simpa using F) (by simpa using M)) z;have N:=AU z;have Q:=m.lt;have c:=ee.law (walk T);rw[akQ]at c;refine c.mono fun e W' ⟨K,V,g⟩=>?_;subst K;have w:s.fn H (h++[])={results:=[.lit (.bool true)],args:=h}:=by rw[ake];exact G h (by simpa using N)
 have I:∀t∈fn.params.toList,C.prog.readableRec t=true/\t<C.prog.types.size:=fun t D=>by
  have:=(akV.1 U) t D;simpa using this
 refine⟨_,rfl,uR (pa:=p) (pv:=[]) m (fun b B X=>?_) (fun B d=>?_) (fun B d=>by rw[u,w];rfl) rfl V g ?_⟩
 ·rw[w,y];exact trodAll_cons_mk (shut_bool o _) trodAll_mk0
 ·rw[w];exact vj laid I z (fun x l=>vk g (Q x (List.mem_append_left _ l))) (fun x l=>d x (List.mem_append_left _ l))
 ·exact ok_one y rfl (okWide_bool_mk o _)
theorem Jv:(Rows.laid_internal_strconv_uint64pow10:DataW Unit)=Lib.tabData .u64 Lib.pow10Tab:=by rfl
theorem abS:Tryz.prog.globalNamed "internal/strconv.uint64pow10" =some 0:=Y
theorem abT:(Tryz.prog.globals[0]?).map (·.type)=some 312:=Y
theorem Jw{W:World}{x y:String×DataW Unit}{rest:List (String×DataW Unit)}(h:laidMet Tryz.prog (x::y::("internal/strconv.uint64pow10",Rows.laid_internal_strconv_uint64pow10)::rest) W):E3 W.heap:=by
 obtain⟨ps,⟨_,_,_,_,_,_,_,_,_,_,⟨_,_,_,_,_,_,_,_,_,_,⟨g,t,cs,j,p,q,m,c,v,z,_,_⟩,_⟩,_⟩,_,_⟩:=h;obtain rfl:=Option.some.inj (abS.symm.trans m);obtain rfl:=Option.some.inj (abT.symm.trans c);rw[Jv]at z;have a:=Lib.cells_of_tab (P:=Tryz.prog) (t:=312) (e:=63) (n:=20) Tryz.underlying312 Tryz.underlying63 Y Y z;intro w r;have l:Lib.TabIs Tryz.prog W "internal/strconv.uint64pow10" .u64 Lib.pow10Tab:=by
  unfold Lib.TabIs;rw[v,<-a]
 exact ol (by rw[r];exact aj.refl _ _) l
end Go.Proofs.YtjkkkibiegfecaaGreatDoor
