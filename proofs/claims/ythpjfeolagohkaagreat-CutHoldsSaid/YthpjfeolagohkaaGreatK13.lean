/- Texts put behind each other. -/
import Derived.Test.YthpjfeolagohkaaGreatK98
import Derived.Test.YthpjfeolagohkaaGreatK12
import Derived.ChangeSame
import Derived.Below
set_option maxRecDepth 100000
set_option maxHeartbeats 8000000
namespace Go.Vc
open Go.ChangeShapes Go.WideShapes
theorem cu.frame{W W':World}(h:cu W W')(hf:ah W.heap W'.heap)(may:MemPlace→Prop):W.keptBut W' may:=by
 refine⟨h.os,h.output,fun i hi=>?_⟩
 rw[hf.aM i hi (fun h=>h)]
 split<;>simp_all
theorem Ki{W W':World}(hf:ah W.heap W'.heap){p:Addr}(hp:p.block<W.heap.size):W'.frozen? p=W.frozen? p:=
 World.frozen?_of_block (w:=W) (hf.aM p.block hp (fun h=>h))
theorem Ib{H:Type}{enc:TypeId×Value→H}{P:Program}{f:Func}{s:ChangeSpec}{apart fresh handsOn again:Bool}{W W':World}{args:Array Value}{v:Value}{ds gs:List (DataW H)}{before pa pv:List MemPlace}
  (hW:DataW.Whole enc P f.params.toList s.vars apart W args.toList ds gs before)
  (CU:∀ (b:Nat) (sp:Nat→Bool) (hd:Bool),DataW.TrodAll enc P W' b sp hd f.resultTypes.toList (v.resultList f.resultTypes.size) (s.fn H (ds++gs)).results [])
  (kK:∀sp:Nat→Bool,(∀p∈before,sp p.block=true)→DataW.TrodAll enc P W' 0 sp true f.params.toList args.toList (s.fn H (ds++gs)).args pa)
  (Me:∀sp:Nat→Bool,(∀p∈before,sp p.block=true)→DataW.TrodVars enc P W' sp s.vars (s.fn H (ds++gs)).vars pv)
  (hps:before=pa++pv)(hs:cu W W')(hf:ah W.heap W'.heap)
  (tU:∀ (j:Nat) (t:TypeId) (r:Value),f.resultTypes[j]? =some t→(v.resultList f.resultTypes.size)[j]? =some r→Value.okWide P W' .any 0 t r):
  s.post enc P f apart fresh handsOn again W args v W':=by
 have hold:∀p∈before,(fun b=>decide (b<W.heap.size)) p.block=true:=fun p hp=>by simpa using hW.lt p hp
 refine⟨ds,gs,before,[],pa,pv,hW,CU _ _ _,kK _ hold,Me _ hold,hs.frame hf _,fun _=>?_⟩
 have aN:=hW.lt
 obtain⟨_,_,_,_,_,hz,hn⟩:=hW
 refine⟨tU,_,_,([]++pa)++pv,⟨[]++pa,pv,trodAll_append (kK _ (fun _ _=>rfl)) (CU _ _ _),Me _ (fun _ _=>rfl),rfl,?_,?_⟩,?_⟩
 ·intro b off hp
  have hm:MemPlace.cell b off∈before:=by rw[hps];simpa using hp
  rw[Ki hf (p:=⟨b,off,none⟩) (aN _ hm)]
  exact hz b off hm
 ·intro ha
  have:=hn ha
  rw[hps]at this
  simpa using this
 ·intro p hp _
  rw[hps]
  simpa using hp
theorem af.law{P:Program}{f:FuncId}{args:List Value}{W:World}(h:af P f args W.heap fun v H'=>ax (v= .bool true∧ah W.heap H')):
  Calls P f args.toArray W fun e w'=>e= .returned (.bool true)∧cu W w'∧ah W.heap w'.heap:=
 (h W rfl).mono fun _ _ ⟨_,e,s,k⟩=>⟨e.trans (by rw[k.out.1]),s,k.out.2⟩
end Go.Vc
