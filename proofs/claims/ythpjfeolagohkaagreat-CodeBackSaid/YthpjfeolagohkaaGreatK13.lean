/- Texts put behind each other. -/
import Derived.Test.YthpjfeolagohkaaGreatK98
import Derived.Test.YthpjfeolagohkaaGreatK12
import Derived.ChangeSame
import Derived.Below
set_option maxRecDepth 100000
set_option maxHeartbeats 8000000
namespace Go.Vc
open Go.ChangeShapes Go.WideShapes
theorem bW.frame{W W':World}(h:bW W W')(hf:am W.heap W'.heap)(may:MemPlace→Prop):W.keptBut W' may:=by
 refine⟨h.os,h.output,fun i hi=>?_⟩
 rw[hf.aG i hi (fun h=>h)]
 split<;>simp_all
theorem Js{W W':World}(hf:am W.heap W'.heap){p:Addr}(hp:p.block<W.heap.size):W'.frozen? p=W.frozen? p:=
 World.frozen?_of_block (w:=W) (hf.aG p.block hp (fun h=>h))
theorem He{H:Type}{enc:TypeId×Value→H}{P:Program}{f:Func}{s:ChangeSpec}{apart fresh handsOn again:Bool}{W W':World}{args:Array Value}{v:Value}{ds gs:List (DataW H)}{before pa pv:List MemPlace}
  (hW:DataW.Whole enc P f.params.toList s.vars apart W args.toList ds gs before)
  (Fw:∀ (b:Nat) (sp:Nat→Bool) (hd:Bool),DataW.TrodAll enc P W' b sp hd f.resultTypes.toList (v.resultList f.resultTypes.size) (s.fn H (ds++gs)).results [])
  (jP:∀sp:Nat→Bool,(∀p∈before,sp p.block=true)→DataW.TrodAll enc P W' 0 sp true f.params.toList args.toList (s.fn H (ds++gs)).args pa)
  (Lm:∀sp:Nat→Bool,(∀p∈before,sp p.block=true)→DataW.TrodVars enc P W' sp s.vars (s.fn H (ds++gs)).vars pv)
  (hps:before=pa++pv)(hs:bW W W')(hf:am W.heap W'.heap)
  (tR:∀ (j:Nat) (t:TypeId) (r:Value),f.resultTypes[j]? =some t→(v.resultList f.resultTypes.size)[j]? =some r→Value.okWide P W' .any 0 t r):
  s.post enc P f apart fresh handsOn again W args v W':=by
 have hold:∀p∈before,(fun b=>decide (b<W.heap.size)) p.block=true:=fun p hp=>by simpa using hW.lt p hp
 refine⟨ds,gs,before,[],pa,pv,hW,Fw _ _ _,jP _ hold,Lm _ hold,hs.frame hf _,fun _=>?_⟩
 have aK:=hW.lt
 obtain⟨_,_,_,_,_,hz,hn⟩:=hW
 refine⟨tR,_,_,([]++pa)++pv,⟨[]++pa,pv,trodAll_append (jP _ (fun _ _=>rfl)) (Fw _ _ _),Lm _ (fun _ _=>rfl),rfl,?_,?_⟩,?_⟩
 ·intro b off hp
  have hm:MemPlace.cell b off∈before:=by rw[hps];simpa using hp
  rw[Js hf (p:=⟨b,off,none⟩) (aK _ hm)]
  exact hz b off hm
 ·intro ha
  have:=hn ha
  rw[hps]at this
  simpa using this
 ·intro p hp _
  rw[hps]
  simpa using hp
theorem af.law{P:Program}{f:FuncId}{args:List Value}{W:World}(h:af P f args W.heap fun v H'=>ar (v= .bool true∧am W.heap H')):
  Calls P f args.toArray W fun e w'=>e= .returned (.bool true)∧bW W w'∧am W.heap w'.heap:=
 (h W rfl).mono fun _ _ ⟨_,e,s,k⟩=>⟨e.trans (by rw[k.out.1]),s,k.out.2⟩
end Go.Vc
