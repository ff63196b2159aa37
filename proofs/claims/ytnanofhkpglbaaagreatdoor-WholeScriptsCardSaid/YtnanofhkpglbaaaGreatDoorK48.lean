/- Texts put behind each other. -/
import Derived.Test.YtnanofhkpglbaaaGreatDoorK42
import Derived.Tactics
import Derived.Tactics2
import Derived.Defers
import Derived.Recover
import Derived.Laws.Pointers
import Derived.WalkKit
import Derived.Deep.RegionWith
set_option linter.unusedSimpArgs false
set_option linter.unusedVariables false
set_option maxRecDepth 100000
set_option maxHeartbeats 80000000
namespace Go.Proofs.YtnanofhkpglbaaaGreatDoor
open Go Go.Vc Go.Lib Go.RowKit
section
variable{H:Hp}{d:Nat}
theorem MD(p:Addr)(w:World):
  CallsD Tryz.prog 71 #[.pointer (some p)] .returning w fun e z w'=>e= .returned (.tuple #[])/\z= .returning/\w'=w:=by
 refine callsD_of_wpS Tryz.func71 rfl fun x cs h=>?_;apply wpS_seq;apply wpS_region;simp[wpOpsS,go_sem,recoverD,h,Tryz.ntmps71,Exit.thenS];refine wpS_of_wp ?_;go_wp2;cases x;simp_all[bodyPostS,results,Tryz.results71]
theorem Et{P:Program}{c:Code}{K:Act->World->Prop}{Q:Exit->Act->World->Prop}{a:Act}{w:World}(h:c.wp P (Exit.then K fun _ _ _=>False) a w):c.wp P (Exit.then K Q) a w:=
 wp_mono h fun e a w h=>by cases e<;>first|exact h|exact h.elim
theorem uH(G:kY H){l m x y o:List UInt8}{U D:List Value}(hl:l.length<=1000)(hp:pieces 32 l=[m,x,y])(kV: []∉ [m,x,y])(ho:H.own d=some U)
  (hv:∀g,aD 72 [ptr d,aA m] g fun v J=>v= .func (.func 126) #[ptr d] #[]/\J=g)
  (W:∀ (g:Hp) (a:Option Addr) (c:Nat),af H g->bD g 1 (.slice a 2 c) 2 ([x,y].map aA)->aD 126 [ptr d,.slice a 2 c] g fun v J=>v=aA o/\aj (fun z=>z=d) g J/\J.own d=some D):
  aD 28 [ptr d,aA l] H fun v J=>v=aA o/\aj (fun z=>z=d) H J/\J.own d=some D:=by
 intro w hw;subst hw;have mixed:=Tryz.checked.mixed;have hmf:∀ (fn:Fn) (first cap:Array Value) (w:World),(Instr.makeFunc fn first cap).run Tryz.prog w= .ok (.func fn first cap) w:=fun _ _ _ _=>rfl;have j:af w.heap (w.alloc (.cells #[.string ⟨#[]⟩] 9)).heap:=(aj.refl _ _).new 9 [.string ⟨#[]⟩];obtain⟨W1,p⟩:∃W1,w.alloc (.cells #[.string ⟨#[]⟩] 9)=W1:=⟨_,rfl⟩;have A:W1.heap.size=w.heap.size+1:=by rw[<-p];simp
 have o1:Hp.own W1.heap w.heap.size=some [.string ⟨#[]⟩]:=by rw[<-p];exact am w.heap 9 [.string ⟨#[]⟩]
 rw[p]at j;have P:=hM (G.fresh j) 32 l O;rw[hp,A]at P;obtain⟨H2,t⟩:∃H2,Hp.new W1.heap 9 ([m,x,y].map aA)=H2:=⟨_,rfl⟩;have B:af W1.heap H2:=by rw[<-t];exact bm
 have r2:bD H2 1 (.slice (some ⟨w.heap.size+1,0,none⟩) 3 3) 3 ([m,x,y].map aA):=by rw[<-t,<-A];exact(Sl.bs (size:=1) (n:=3) (xs:=[m,x,y].map aA) (by simp) rfl).rd
 have o2:Hp.own H2 w.heap.size=some [.string ⟨#[]⟩]:=B.own o1 (fun h=>h);have N:Hp.rd H2 (w.heap.size+1)=some ([m,x,y].map aA):=by rw[<-t,<-A];exact ae (am _ _ _)
 rw[t]at P;have V:aD 70 [.slice (some ⟨w.heap.size+1,0,none⟩) 3 3,aA []] H2 fun v J=>ak (v= .bool false/\J=H2):=jp (ws:=[m,x,y]) r2 (by simp) kV;clear t;have r3:bD H2 1 (.slice (some ⟨w.heap.size+1,1,none⟩) 2 2) 2 ([x,y].map aA):=⟨rfl,.inr ⟨_,_,_,_,rfl,N,by simp,rfl⟩⟩;have K:¬w.heap.size=d:=fun e=>by have:=aB ho;omega
 have I:=W H2 _ _ (j.trans B) r3;go_enter_defers Tryz.func28,Tryz.ntmps28;go_wp2_with (first| (go_at_call 18;refine(P W1 rfl).mono ?_;rintro e w1 ⟨_,rfl,Ik,rfl,hh1⟩)| (go_at_call 70;refine(V w1 ‹_›).mono ?_;rintro e L ⟨_,rfl,T0,rfl,T⟩));have c2:L.cell? ⟨w.heap.size+1,0,none⟩=some (aA m):=by rw[cJ (l:=[m,x,y].map aA) rfl (by rw[T];exact N)];rfl
 refine Et ?_;go_region_with (first| (go_at_call 72;refine(hv _ _ rfl).mono ?_;rintro e w3 ⟨_,rfl,Mq,rfl,M⟩)| (go_at_call 126;refine(I _ ?_).mono ?_;exact M.trans T;rintro e w4 ⟨_,rfl,Lj,rfl,C,o4⟩;have r:=C.own o2 K;have c4:w4.cell? ⟨w.heap.size,0,none⟩=some (.string ⟨#[]⟩):=cJ (l:=[.string ⟨#[]⟩]) rfl (ae r);have z4:w4.frozen? ⟨w.heap.size,0,none⟩=false:=jI r 0));go_wp2;refine leaves_cons (f:=71) (args:= #[.pointer (some ⟨w.heap.size,0,none⟩)]) (by simp) (by simp[go_sem]) ?_;refine(MD _ _).mono ?_;rintro e u' w5 ⟨rfl,rfl,rfl⟩;simp[Leaves,settle,results,Tryz.results28,go_sem];have F:(w4.setCell ⟨w.heap.size,0,none⟩ (.string ⟨o.toArray⟩)).heap=Hp.wr w4.heap w.heap.size [aA o]:=heap_setCell w4 _ 0 _ (ae r);have c5:(w4.setCell ⟨w.heap.size,0,none⟩ (.string ⟨o.toArray⟩)).cell? ⟨w.heap.size,0,none⟩=some (aA o):=by rw[cJ (l:=[aA o]) rfl (by rw[F];exact ae (ah r))];rfl
 have s1:bH w W1:=by rw[<-p];exact⟨rfl,rfl⟩
 have Q:bH w w4:=((s1.trans Ik).trans T0).trans (bH.trans (a:=L) (b:=L.drew) ⟨rfl,rfl⟩ (Mq.trans Lj));have q:aj (fun z=>z=d) w.heap w4.heap:=((j.trans B).mono fun z _ h=>h.elim).trans C;have u:aj (fun z=>z=w.heap.size) w4.heap (Hp.wr w4.heap w.heap.size [aA o]):=(aj.refl (fun z=>z=w.heap.size) _).wr (fun _=>rfl) _;rw[c5,F];refine⟨aA o,rfl,⟨Q.os,Q.output⟩,rfl,⟨alw q.size u.size,fun k E X=>?_⟩,u.own o4 (fun e=>K e.symm)⟩;have:=q.size;rw[u.aW k O O,q.aW k E X]
theorem uI(V:kY H){l m x o:List UInt8}{Q D:List Value}(hl:l.length<=1000)(hp:pieces 32 l=[m,x])(X: []∉ [m,x])(ho:H.own d=some Q)
  (hv:∀g,aD 72 [ptr d,aA m] g fun v J=>v= .func (.func 123) #[ptr d] #[]/\J=g)
  (U:∀ (g:Hp) (a:Option Addr) (c:Nat),af H g->bD g 1 (.slice a 1 c) 1 ([x].map aA)->aD 123 [ptr d,.slice a 1 c] g fun v J=>v=aA o/\aj (fun z=>z=d) g J/\J.own d=some D):
  aD 28 [ptr d,aA l] H fun v J=>v=aA o/\aj (fun z=>z=d) H J/\J.own d=some D:=by
 intro w hw;subst hw;have mixed:=Tryz.checked.mixed;have hmf:∀ (fn:Fn) (first cap:Array Value) (w:World),(Instr.makeFunc fn first cap).run Tryz.prog w= .ok (.func fn first cap) w:=fun _ _ _ _=>rfl;have r:af w.heap (w.alloc (.cells #[.string ⟨#[]⟩] 9)).heap:=(aj.refl _ _).new 9 [.string ⟨#[]⟩];obtain⟨W1,j⟩:∃W1,w.alloc (.cells #[.string ⟨#[]⟩] 9)=W1:=⟨_,rfl⟩;have L:W1.heap.size=w.heap.size+1:=by rw[<-j];simp
 have o1:Hp.own W1.heap w.heap.size=some [.string ⟨#[]⟩]:=by rw[<-j];exact am w.heap 9 [.string ⟨#[]⟩]
 rw[j]at r;have B:=hM (V.fresh r) 32 l O;rw[hp,L]at B;obtain⟨H2,y⟩:∃H2,Hp.new W1.heap 9 ([m,x].map aA)=H2:=⟨_,rfl⟩;have u:af W1.heap H2:=by rw[<-y];exact bm
 have r2:bD H2 1 (.slice (some ⟨w.heap.size+1,0,none⟩) 2 2) 2 ([m,x].map aA):=by rw[<-y,<-L];exact(Sl.bs (size:=1) (n:=2) (xs:=[m,x].map aA) (by simp) rfl).rd
 have o2:Hp.own H2 w.heap.size=some [.string ⟨#[]⟩]:=u.own o1 (fun h=>h);have F:Hp.rd H2 (w.heap.size+1)=some ([m,x].map aA):=by rw[<-y,<-L];exact ae (am _ _ _)
 rw[y]at B;have I:aD 70 [.slice (some ⟨w.heap.size+1,0,none⟩) 2 2,aA []] H2 fun v J=>ak (v= .bool false/\J=H2):=jp (ws:=[m,x]) r2 (by simp) X;clear y;have r3:bD H2 1 (.slice (some ⟨w.heap.size+1,1,none⟩) 1 1) 1 ([x].map aA):=⟨rfl,.inr ⟨_,_,_,_,rfl,F,by simp,rfl⟩⟩;have C:¬w.heap.size=d:=fun e=>by have:=aB ho;omega
 have W:=U H2 _ _ (r.trans u) r3;go_enter_defers Tryz.func28,Tryz.ntmps28;go_wp2_with (first| (go_at_call 18;refine(B W1 rfl).mono ?_;rintro e w1 ⟨_,rfl,Ik,rfl,hh1⟩)| (go_at_call 70;refine(I w1 ‹_›).mono ?_;rintro e P ⟨_,rfl,T0,rfl,K⟩));have c2:P.cell? ⟨w.heap.size+1,0,none⟩=some (aA m):=by rw[cJ (l:=[m,x].map aA) rfl (by rw[K];exact F)];rfl
 refine Et ?_;go_region_with (first| (go_at_call 72;refine(hv _ _ rfl).mono ?_;rintro e w3 ⟨_,rfl,Mq,rfl,G⟩)| (go_at_call 123;refine(W _ ?_).mono ?_;exact G.trans K;rintro e w4 ⟨_,rfl,Lj,rfl,A,o4⟩;have t:=A.own o2 C;have c4:w4.cell? ⟨w.heap.size,0,none⟩=some (.string ⟨#[]⟩):=cJ (l:=[.string ⟨#[]⟩]) rfl (ae t);have z4:w4.frozen? ⟨w.heap.size,0,none⟩=false:=jI t 0));go_wp2;refine leaves_cons (f:=71) (args:= #[.pointer (some ⟨w.heap.size,0,none⟩)]) (by simp) (by simp[go_sem]) ?_;refine(MD _ _).mono ?_;rintro e u' w5 ⟨rfl,rfl,rfl⟩;simp[Leaves,settle,results,Tryz.results28,go_sem];have T:(w4.setCell ⟨w.heap.size,0,none⟩ (.string ⟨o.toArray⟩)).heap=Hp.wr w4.heap w.heap.size [aA o]:=heap_setCell w4 _ 0 _ (ae t);have c5:(w4.setCell ⟨w.heap.size,0,none⟩ (.string ⟨o.toArray⟩)).cell? ⟨w.heap.size,0,none⟩=some (aA o):=by rw[cJ (l:=[aA o]) rfl (by rw[T];exact ae (ah t))];rfl
 have s1:bH w W1:=by rw[<-j];exact⟨rfl,rfl⟩
 have N:bH w w4:=((s1.trans Ik).trans T0).trans (bH.trans (a:=P) (b:=P.drew) ⟨rfl,rfl⟩ (Mq.trans Lj));have p:aj (fun z=>z=d) w.heap w4.heap:=((r.trans u).mono fun z _ h=>h.elim).trans A;have q:aj (fun z=>z=w.heap.size) w4.heap (Hp.wr w4.heap w.heap.size [aA o]):=(aj.refl (fun z=>z=w.heap.size) _).wr (fun _=>rfl) _;rw[c5,T];refine⟨aA o,rfl,⟨N.os,N.output⟩,rfl,⟨alw p.size q.size,fun k M E=>?_⟩,q.own o4 (fun e=>C e.symm)⟩;have:=p.size;rw[q.aW k O O,p.aW k M E]
end
end Go.Proofs.YtnanofhkpglbaaaGreatDoor
namespace Go.Proofs.YtnanofhkpglbaaaGreatDoor
open Go Go.Vc Go.Lib
section
variable{H:Hp}{d:Nat}{kd dd:Int}
theorem J9(n:Nat)(h:n<=1000000):IntKind.i64.wrap (((n+1:Nat):Int) - ((1:Nat):Int))=(n:Int):=by
 rw[show((n+1:Nat):Int) - ((1:Nat):Int)=(n:Int) by omega];exact wrap64 O O
theorem Ka(l:List UInt8)(w:l.length<=1000000)(H:Hp):aD 136 [aA (l++[10]),aA [10]] H fun v J=>ak (v= .bool true/\H=J):=by
 have x:(#[10]:Array UInt8).size=1:=rfl;have z:(l++[10]).toArray.size=l.length+1:=by simp
 refine aL iI ?_;refine v2 x z ?_;refine ai.dec (fun _=>?_) (fun h=>O);refine v2 x z ?_;rw[J9 l.length w];refine⟨O,?_⟩;refine v2 Int.toNat_natCast kU ?_;rw[show List.drop l.length (List.take (Array.size (List.toArray (l++[10]))) (l++[10]))=[10] by rw[alW (by simp),List.drop_left]];exact⟨ald Value.bool (US (a:=[10]) (b:=[10]) (by decide)),rfl⟩
theorem If(l:List UInt8)(x:l.length<=1000000)(H:Hp):aD 29 [aA (l++[10]),aA [10]] H fun v J=>ak (v=aA l/\H=J):=by
 have h:(#[10]:Array UInt8).size=1:=rfl;have z:(l++[10]).toArray.size=l.length+1:=by simp
 refine aL rE ?_;refine vs ?_;refine dO.mono (K:=fun v J=>v=aA l/\H=J) ?_ ?_
 ·refine aL iv ?_;refine vs ?_;refine(Ka l x H).mono ?_;rintro _ _ ⟨rfl,rfl⟩;refine v2 h z ?_;rw[J9 l.length x];refine⟨O,?_⟩;refine v2 Int.toNat_natCast kU ?_;exact⟨by rw[List.take_left],trivial⟩
 rintro _ _ ⟨rfl,rfl⟩;refine vs ?_;exact⟨rfl,rfl⟩
def Wy:List UInt8:=[115,111,114,116,32,50,32,49]
def lnK:List UInt8:=[107,105,110,100,32,115,107,101,119]
def U4:List UInt8:=[115,111,114,116,32,49,32,48]
theorem Y8:itoa 2=[50]:=Y
theorem Tj:itoa 1=[49]:=Y
theorem Y9:itoa 0=[48]:=Y
theorem ME(m:kY H){st:Value}(e:H.own d=some [i64 kd,i64 dd,st])(t:dP kd dd):
  aD 28 [ptr d,aA Wy] H fun v J=>v=aA U4/\aj (fun z=>z=d) H J/\J.own d=some [i64 kd,i64 dd,st]:=by
 refine uH (x:=[50]) (y:=[49]) m (by decide) (by decide) (by decide) e (fun w=>Ec d w) fun w a c l r=>?_;have g:=l.own e (fun h=>h);refine(Aw (m.fresh l) g t (by unfold pR;simp only[alM,amS,Y8,Tj];exact r)).mono ?_;rintro _ j ⟨rfl,n⟩;refine⟨?_,n.mono fun z _ h=>h.elim,n.own g (fun h=>h)⟩;unfold qx U4;simp only[List.foldl_cons,List.foldl_nil,Tj,Y9];rfl
theorem Sh(e:kY H){st:Value}(l:H.own d=some [i64 kd,i64 dd,st]):
  aD 28 [ptr d,aA lnK] H fun v J=>v=aA [111,107]/\aj (fun z=>z=d) H J/\J.own d=some [i64 7,i64 0,st]:=by
 refine uI (x:=[115,107,101,119]) e (by decide) (by decide) (by decide) l (fun w=>Eb d w) fun w a c m y=>?_;refine(Ax (m.own l (fun h=>h)) y).mono ?_;rintro _ t ⟨rfl,g,n⟩;exact⟨rfl,n,g⟩
end
end Go.Proofs.YtnanofhkpglbaaaGreatDoor
