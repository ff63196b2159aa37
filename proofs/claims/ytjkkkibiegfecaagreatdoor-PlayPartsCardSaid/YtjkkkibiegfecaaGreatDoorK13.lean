/- Texts put behind each other. -/
import Derived.Test.YtjkkkibiegfecaaGreatDoorK98
import Derived.Test.YtjkkkibiegfecaaGreatDoorK12
import Derived.ChangeSame
import Derived.Below
set_option maxRecDepth 100000
set_option maxHeartbeats 8000000
namespace Go.Vc
open Go.ChangeShapes Go.WideShapes
theorem cz.frame{W W':World}(h:cz W W')(hf:ai W.heap W'.heap)(may:MemPlace→Prop):W.keptBut W' may:=by
 refine⟨h.os,h.output,fun i hi=>?_⟩
 rw[hf.aO i hi (fun h=>h)]
 grind
theorem Km{W W':World}(hf:ai W.heap W'.heap){p:Addr}(hp:p.block<W.heap.size):W'.frozen? p=W.frozen? p:=
 World.frozen?_of_block (w:=W) (hf.aO p.block hp (fun h=>h))
theorem yp{H:Type}{enc:TypeId×Value→H}{P:Program}{f:Func}{s:ChangeSpec}{apart fresh handsOn again:Bool}{W W':World}{args:Array Value}{v:Value}{ds gs:List (DataW H)}{before pa pv:List MemPlace}
  (hW:DataW.Whole enc P f.params.toList s.vars apart W args.toList ds gs before)
  (AT:∀ (b:Nat) (sp:Nat→Bool) (hd:Bool),DataW.TrodAll enc P W' b sp hd f.resultTypes.toList (v.resultList f.resultTypes.size) (s.fn H (ds++gs)).results [])
  (ly:∀sp:Nat→Bool,(∀p∈before,sp p.block=true)→DataW.TrodAll enc P W' 0 sp true f.params.toList args.toList (s.fn H (ds++gs)).args pa)
  (D5:∀sp:Nat→Bool,(∀p∈before,sp p.block=true)→DataW.TrodVars enc P W' sp s.vars (s.fn H (ds++gs)).vars pv)
  (hps:before=pa++pv)(hs:cz W W')(hf:ai W.heap W'.heap)
  (pR:∀ (j:Nat) (t:TypeId) (r:Value),f.resultTypes[j]? =some t→(v.resultList f.resultTypes.size)[j]? =some r→Value.okWide P W' .any 0 t r):
  s.post enc P f apart fresh handsOn again W args v W':=by
 have hold:∀p∈before,(fun b=>decide (b<W.heap.size)) p.block=true:=fun p hp=>by simpa using hW.lt p hp
 refine⟨ds,gs,before,[],pa,pv,hW,AT _ _ _,ly _ hold,D5 _ hold,hs.frame hf _,fun _=>?_⟩
 have bf:=hW.lt
 obtain⟨_,_,_,_,_,hz,hn⟩:=hW
 refine⟨pR,_,_,([]++pa)++pv,⟨[]++pa,pv,trodAll_append (ly _ (fun _ _=>rfl)) (AT _ _ _),D5 _ (fun _ _=>rfl),rfl,?_,?_⟩,?_⟩
 ·intro b off hp
  have hm:MemPlace.cell b off∈before:=by rw[hps];simpa using hp
  rw[Km hf (p:=⟨b,off,none⟩) (bf _ hm)]
  exact hz b off hm
 ·grind
 grind
theorem ag.law{P:Program}{f:FuncId}{args:List Value}{W:World}(h:ag P f args W.heap fun v H'=>ap (v= .bool true∧ai W.heap H')):
  Calls P f args.toArray W fun e w'=>e= .returned (.bool true)∧cz W w'∧ai W.heap w'.heap:=
 (h W rfl).mono fun _ _ ⟨_,e,s,k⟩=>⟨e.trans (by rw[k.out.1]),s,k.out.2⟩
end Go.Vc
