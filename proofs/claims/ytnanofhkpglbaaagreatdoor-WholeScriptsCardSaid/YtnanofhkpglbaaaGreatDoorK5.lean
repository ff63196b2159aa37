/- Texts put behind each other. -/
import Derived.Test.YtnanofhkpglbaaaGreatDoorK98
import Derived.RangeFuncNested
import Derived.RangeFuncBound
import Derived.RangeFuncCalls
import Derived.RangeFuncLeaves
set_option linter.unusedSimpArgs false
set_option linter.unusedVariables false
set_option maxRecDepth 100000
set_option maxHeartbeats 80000000
namespace Go.Proofs.YtnanofhkpglbaaaGreatDoor
open Go Go.RowKit
def U6(B:Nat)(W x:World):Prop:=∀ (j:Nat) (o:Obj),B<=j->W.heap[j]? =some o->o.isCells=false->x.heap[j]? =some o
theorem AJ{F:Fence}{n:Nat}{P:Program}{g:Operand}{ps:Array Tmp}{assign body:Code}{Q:Exit->Act->World->Prop}{a:Act}{w:World}(Ys:F.round=none)(D:1<=n){gf:Nat}{lb:Array Value}(hg:a.eval g= .func (.func gf) #[] lb)(X:F.fn gf)
  (V:∀args w,(callFunc gf args).run P w= .ok (.enter gf args) w){M b0:Nat}(N9:b0<w.heap.size){encs:Nat->Array Value}(hps:∀k,k<M->(encs k).size=ps.size)
  (adE:∀ (l:Nat) (ak5:Nat->World->Prop) (W:World),W.heap[b0]? =w.heap[b0]? ->(∀k A v,ak5 k A->ak5 k (A.setCell ⟨b0,0,none⟩ v).drew)->
   (∀k A,ak5 k A->k<M->YieldAt F (n - 1 - 1) P l (encs k) A fun e B=>e= .returned (.bool true)/\ak5 (k+1) B/\B.heap[b0]? =A.heap[b0]?)->ak5 0 W->
   CallsIn F (n - 1) P gf (#[.func (.yield l) #[] #[]]++lb) W fun e B=>(∃v,e= .returned v)/\ak5 M B)
  (I:Nat->World->Prop)(G:I 0 w)(hIS:∀k A v,I k A->I k (A.setCell ⟨b0,0,none⟩ v).drew)(L:∀k A o,I k A->I k (A.alloc o))(r:∀k A j o o',w.heap.size<=j->A.heap[j]? =some o->o.isCells=false->I k A->I k (A.putObj j o'))
  (H:Nat->Act)(Sj:∀ (l k:Nat) (W:World) (K:Act->World->Prop),k<M->K (H k) W->assign.wpIn (F.inRound l) (n - 1 - 1) P (Exit.then K (fun _ _ _=>False)) {tmps:=(ps.zip (encs k)).foldl (fun t (p,v)=>t.setIfInBounds p v) a.tmps,defers:=[]} W)
  (Zd:∀ (l k:Nat) (W:World),I k W->k<M->body.wpIn (F.inRound l) (n - 1 - 1) P (fun e _ y=>e= .normal/\U6 w.heap.size W y/\I (k+1) y/\y.heap[b0]? =W.heap[b0]?) (H k) W)
  (Ze:∀W,I M W->W.heap[w.heap.size]? =some (.deferred (some []))->Q .normal {a with defers:={target:=.collected w.heap.size,args:= #[]}::a.defers} W):
  (Code.rangeFunc g ps assign body).wpIn F n P Q a w:=by
 refine wpIn_rangeFunc fun fn hfn=>?_;rw[Ys];obtain⟨rec,z⟩:∃rec:LoopState->Loop,rec=fun st=>{state:=st,pending:=none,fn,tmps:=a.tmps,params:=ps,assign,body,defers:=w.heap.size}:=⟨_,rfl⟩;obtain⟨W1,m⟩:∃W1,(w.alloc (.deferred (some []))).alloc (.loop (rec .ready))=W1:=⟨_,rfl⟩;have hL1:W1.heap[w.heap.size+1]? =some (.loop (rec .ready)):=by
  rw[<-m];have:=World.alloc_heap_new (w.alloc (.deferred (some []))) (.loop (rec .ready));rwa[World.size_alloc]at this
 have Tg:W1.heap[w.heap.size]? =some (.deferred (some [])):=by
  rw[<-m];exact(Below.heap_alloc _ _ _ (by simp)).trans (World.alloc_heap_new w _)
 have E:W1.heap[b0]? =w.heap[b0]? :=by
  rw[<-m];exact(Below.heap_alloc _ _ _ (by simp;omega)).trans (Below.heap_alloc _ _ _ N9)
 have hI1:I 0 W1:=by rw[<-m];exact L _ _ _ (L _ _ _ G)
 have U:∀ (A:World) (v:Value) (j:Nat),b0≠j->(A.setCell ⟨b0,0,none⟩ v).heap[j]? =A.heap[j]? :=fun A v j hj=>Below.heap_setCell _ _ _ _ (fun e=>hj e.symm);refine⟨w.heap.size+1,[{target:=.collected w.heap.size,args:= #[]}],W1,{target:=.fn (.func gf) lb,args:= #[.func (.yield (w.heap.size+1)) #[] #[]]},W1,gf, #[.func (.yield (w.heap.size+1)) #[] #[]]++lb,W1,?_,?_,?_,?_,fun _=>D,?_⟩
 ·rw[<-m,z];exact run_enterLoop_outer _ _ _ _ _
 ·simp only[resolve,hg];simp[go_sem]
 ·intro f' T;simp[Target.leads]at T;subst T;exact X
 ·simp[invoke,go_sem,V]
 refine(adE (w.heap.size+1) (fun k W=>I k W/\W.heap[w.heap.size+1]? =some (.loop (rec .ready))/\W.heap[w.heap.size]? =some (.deferred (some []))) W1 E
  (fun k A v h=>⟨hIS k A v h.1,(U A v _ O).trans h.2.1,(U A v _ O).trans h.2.2⟩) ?_ ⟨hI1,hL1,Tg⟩).mono ?_
 ·rintro k W ⟨hi,x,d⟩ f;have UW:=(amu.1 x).1;have u:=run_yield (P:=P) (args:=encs k) x (by rw[z];exact hps k f);rw[z]at u;refine⟨fn,_,assign,body,u,roundIn_of_wpIn hfn (Sj _ k W _ f ?_)⟩;clear u;refine⟨_,run_beginRound x (by rw[z]),?_⟩;obtain⟨W2,c⟩:∃W2,W.putObj (w.heap.size+1) (.loop {rec .ready with state:=.busy})=W2:=⟨_,rfl⟩;have Oe:W2.heap[w.heap.size+1]? =some (.loop {rec .ready with state:=.busy}):=by rw[<-c];exact World.putObj_heap_same UW
  have hk2:W2.heap[w.heap.size]? =some (.deferred (some [])):=by rw[<-c];exact(World.putObj_heap_other O).trans d
  have RC:W2.heap[b0]? =W.heap[b0]? :=by rw[<-c];exact World.putObj_heap_other O
  have Kk:I k W2:=by rw[<-c];exact r k W _ _ _ O x rfl hi
  rw[c];refine wpIn_mono (Zd _ k W2 Kk f) ?_;rintro e a3 W3 ⟨rfl,N,Og,Rn⟩;have q:=N _ _ O Oe rfl;have hk3:=N _ _ (alj _) hk2 rfl;have hr:=run_endRound (P:=P) none q;refine⟨_,_,hr,rfl,⟨r _ _ _ _ _ O q rfl Og,?_,(World.putObj_heap_other O).trans hk3⟩,(World.putObj_heap_other O).trans (Rn.trans RC)⟩;rw[World.putObj_heap_same (amu.1 q).1,z];rfl
 ·rintro e W2 ⟨⟨v,rfl⟩,hi,x,d⟩;have C:=run_endLoop (P:=P) x (by rw[z];simp);rw[show(rec .ready).pending=none by rw[z]]at C;exact⟨none,_,C,Ze _ (r _ _ _ _ _ O x rfl hi) ((World.putObj_heap_other O).trans d)⟩
end Go.Proofs.YtnanofhkpglbaaaGreatDoor
