/- Texts put behind each other. -/
import Derived.Test.YtnanofhkpglbaaaGreatDoorK13
import Derived.ChangeSame
import Derived.Below
set_option maxRecDepth 100000
set_option maxHeartbeats 80000000
namespace Go.Vc
open Go.ChangeShapes Go.WideShapes
theorem bH.frame{W x:World}(h:bH W x)(z:af W.heap x.heap)(may:MemPlace->Prop):W.keptBut x may:=by
 refine⟨h.os,h.output,fun i hi=>?_⟩;rw[z.aW i hi (fun h=>h)];grind
theorem G3{W x:World}(z:af W.heap x.heap){p:Addr}(l:p.block<W.heap.size):x.frozen? p=W.frozen? p:=
 World.frozen?_of_block (w:=W) (z.aW p.block l (fun h=>h))
theorem uK{H:Type}{enc:TypeId×Value->H}{P:Program}{f:Func}{s:ChangeSpec}{apart fresh handsOn again:Bool}{W W':World}{args:Array Value}{v:Value}{h z:List (DataW H)}{before pa pv:List MemPlace}
  (w:DataW.Whole enc P f.params.toList s.vars apart W args.toList h z before)
  (m:∀ (b:Nat) (x:Nat->Bool) (e:Bool),DataW.TrodAll enc P W' b x e f.resultTypes.toList (v.resultList f.resultTypes.size) (s.fn H (h++z)).results [])
  (a:∀x:Nat->Bool,(∀p∈before,x p.block=true)->DataW.TrodAll enc P W' 0 x true f.params.toList args.toList (s.fn H (h++z)).args pa)
  (c:∀x:Nat->Bool,(∀p∈before,x p.block=true)->DataW.TrodVars enc P W' x s.vars (s.fn H (h++z)).vars pv)
  (d:before=pa++pv)(q:bH W W')(n:af W.heap W'.heap)
  (y:∀ (j:Nat) (t:TypeId) (r:Value),f.resultTypes[j]? =some t->(v.resultList f.resultTypes.size)[j]? =some r->Value.okWide P W' .any 0 t r):
  s.post enc P f apart fresh handsOn again W args v W':=by
 have hold:∀p∈before,(fun b=>decide (b<W.heap.size)) p.block=true:=fun p l=>by simpa using w.lt p l
 refine⟨h,z,before,[],pa,pv,w,m _ _ _,a _ hold,c _ hold,q.frame n _,fun _=>?_⟩;have g:=w.lt;obtain⟨_,_,_,_,_,o,u⟩:=w;refine⟨y,_,_,([]++pa)++pv,⟨[]++pa,pv,trodAll_append (a _ (fun _ _=>rfl)) (m _ _ _),c _ (fun _ _=>rfl),rfl,?_,?_⟩,?_⟩
 ·intro b off l;have hm:MemPlace.cell b off∈before:=by rw[d];simpa using l
  rw[G3 n (p:=⟨b,off,none⟩) (g _ hm)];exact o b off hm
 ·grind
 grind
theorem dO.law{P:Program}{f:FuncId}{args:List Value}{W:World}(h:dO P f args W.heap fun v J=>ak (v= .bool true/\af W.heap J)):
  Calls P f args.toArray W fun e w'=>e= .returned (.bool true)/\bH W w'/\af W.heap w'.heap:=
 (h W rfl).mono fun _ _ ⟨_,e,s,k⟩=>⟨e.trans (by rw[k.out.1]),s,k.out.2⟩
end Go.Vc
