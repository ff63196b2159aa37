/- Texts put behind each other. -/
import Derived.Test.YtnanofhkpglbaaaGreatDoorK39
import Derived.Test.YtnanofhkpglbaaaGreatDoorK48
set_option linter.unusedSimpArgs false
set_option linter.unusedVariables false
set_option maxRecDepth 100000
set_option maxHeartbeats 80000000
namespace Go.Proofs.YtnanofhkpglbaaaGreatDoor
open Go Go.Vc Go.Lib Go.RowKit Go.Shelf
section
variable{k:Nat}{H:Hp}
attribute [local go_sem] Oper.semAt_some
def QO:ByteArray:=⟨(Wy++[10]++(lnK++[10]++(Wy++[10]))).toArray⟩
def txB:ByteArray:=⟨(lnK++[10]++(Wy++[10])).toArray⟩
def txC:ByteArray:=⟨(Wy++[10]).toArray⟩
def txT(k:Nat):ByteArray:=if k=0 then QO else if k=1 then txB else txC
def Za(k:Nat):List UInt8:=if k=1 then lnK else Wy
def txL(k:Nat):ByteArray:=⟨(Za k++[10]).toArray⟩
theorem Zb:Tx txT txL:=⟨rfl,rfl,rfl,by decide,by decide,by decide,by rfl,by rfl,by rfl,by rfl,by rfl⟩
def LQ(k:Nat):List UInt8:=if k=0 then[]else if k=1 then U4++[10]else if k=2 then U4++[10]++([111,107]++[10])else U4++[10]++([111,107]++[10])++(U4++[10])
def NQ(k:Nat):List UInt8:=if k=1 then[111,107]else U4
def MF(k:Nat):List Value:=[i64 (if k<=1 then 1 else 7),i64 0,.pointer none]
theorem NR(h:k<3):LQ (k+1)=LQ k++(NQ k++[10]):=by
 grind [LQ,NQ]
theorem Si(x:kY H){d:Nat}(w:k<3)(h:H.own d=some (MF k)):
  aD 28 [ptr d,aA (Za k)] H fun v J=>v=aA (NQ k)/\aj (fun z=>z=d) H J/\J.own d=some (MF (k+1)):=by
 have:k=0\/k=1\/k=2:=O;rcases this with rfl|rfl|rfl
 ·exact ME x h (by unfold dP;omega)
 ·exact Sh x h
 ·exact ME x h (by unfold dP;omega)
theorem wN(t:ByteArray)(H:Hp):aD 27 [.string t] H fun v J=>v= .func (.func 68) #[] #[ptr H.size]/\J=H.new 9 [.string t]:=by
 refine aL A8 ?_;refine vs ?_;grind
structure Zc(w:World)(k:Nat)(W:World):Prop where
 same:bH w W
 fr:af w.heap W.heap
 sz:w.heap.size+4<=W.heap.size
 dk:Hp.own W.heap w.heap.size=some (MF k)
 bx:Hp.own W.heap (w.heap.size+1)=some [ptr w.heap.size]
 bd:∃fp,Gz (w.heap.size+2) (LQ k) fp W.heap/\∀g,fp=some g->w.heap.size+4<=g
theorem Zc.step{w W W':World}{j:Nat}(h:Zc w k W)(d:bH W W')(q:W.heap.size<=W'.heap.size)(H:∀i,i≠j->i<W.heap.size->W'.heap[i]? =W.heap[i]?)(t:j=w.heap.size+3\/(w.heap.size+4<=j/\∀o,W.heap[j]? =some o->o.isCells=false)):Zc w k W':=by
 have e:aj (fun z=>z=j) W.heap W'.heap:=⟨q,Z⟩;obtain⟨fp,l,n⟩:=h.bd;refine⟨h.same.trans d,h.fr.then e O,by have:=h.sz;omega,e.own h.dk O,e.own h.bx O,fp,l.ext e O (fun g m y=>?_),n⟩;have u:=n g m;rcases t with x| ⟨_,x⟩
 ·omega
 ·obtain⟨p,v,_,_,r,_⟩:=l;obtain⟨_,c,f,a⟩:=r.ty g m;rw[y]at a;exact absurd (x _ a) (by simp[Obj.isCells])
theorem B5(he:kY H):aD 8 [.string QO] H fun v J=>v=aA (LQ 3)/\af H J:=by
 intro w hw;subst hw;have mixed:=Tryz.checked.mixed;have Wc:QO.size=28:=rfl;refine(callsIn_wide (n:=3)).1 ?_;refine callsIn_of_wp_marks Tryz.func8 rfl trivial ?_ rfl;simp only[Tryz.ntmps8,amh,alk,alP,Nat.reduceAdd,Nat.reduceSub,Array.replicate_succ,Array.replicate_zero,List.push_toArray,List.append_toArray,alH,alX];gi_wp2_with (first
  | (refine⟨trivial,?_⟩;gi_at_call 26;refine(callsIn_wide.2 ((BW _) _ rfl)).mono ?_;rintro e w1 ⟨_,rfl,Ik,rfl,hh1⟩)
  | (refine⟨trivial,?_⟩;gi_at_call 27;refine(callsIn_wide.2 ((wN QO _) _ rfl)).mono ?_;rintro e w4 ⟨_,rfl,Lj,rfl,hh4⟩))
 have t:w4.heap=((Hp.new (Hp.new (Hp.new w.heap 130 [i64 1,i64 0,.pointer none]) 76 [ptr w.heap.size]) 66 [.pointer none,.slice none 0 0])).new 9 [.string QO]:=by
  rw[hh4];show Hp.new (Hp.new (Hp.new w1.heap _ _) _ _) _ _=_;rw[hh1]
 have z4:w4.heap.size=w.heap.size+4:=by rw[t];simp only[ag]
 obtain⟨A1,u⟩:∃A1,Hp.new w.heap 130 [i64 1,i64 0,.pointer none]=A1:=⟨_,rfl⟩;have za:A1.size=w.heap.size+1:=by rw[<-u];exact ag _ _ _
 have fa:af w.heap A1:=by rw[<-u];exact bm
 have oa:A1.own w.heap.size=some (MF 0):=by rw[<-u];exact am _ _ _
 rw[u]at t;obtain⟨A2,B⟩:∃A2,A1.new 76 [ptr w.heap.size]=A2:=⟨_,rfl⟩;have zb:A2.size=w.heap.size+2:=by rw[<-B,ag,za]
 have G:af A1 A2:=by rw[<-B];exact bm
 have ob:A2.own (w.heap.size+1)=some [ptr w.heap.size]:=by rw[<-B,<-za];exact am _ _ _
 rw[B]at t;obtain⟨A3,P⟩:∃A3,A2.new 66 [.pointer none,.slice none 0 0]=A3:=⟨_,rfl⟩;have zc:A3.size=w.heap.size+3:=by rw[<-P,ag,zb]
 have L:af A2 A3:=by rw[<-P];exact bm
 have bc:Gz (w.heap.size+2) [] none A3:=by rw[<-P,<-zb];exact Gz.new A2
 rw[P]at t;have f:af A3 w4.heap:=by rw[t];exact bm
 have od:Hp.own w4.heap (w.heap.size+3)=some [.string QO]:=by rw[t,<-zc];exact am _ _ _
 have hI:Zc w 0 w4:=⟨Ik.trans (bH.trans (b:=(w1.alloc (.cells #[.pointer (some ⟨w.heap.size,0,none⟩)] 76)).alloc (.cells #[.pointer none,.slice none 0 0] 66)) ⟨rfl,rfl⟩ Lj),((fa.trans G).trans L).trans f,O,((G.trans L).trans f).own oa (fun h=>h),(L.trans f).own ob (fun h=>h),none,bc.ext f (fun h=>h) (fun _ _ h=>h),Z⟩;have hc4:w4.cell? ⟨w.heap.size+1+1+1,0,none⟩=some (.string (txT 0)):=cJ (l:=[.string QO]) rfl (ae od);have Wg:w4.frozen? ⟨w.heap.size+1+1+1,0,none⟩=false:=jI od 0;refine AJ (M:=3) (b0:=w.heap.size+1+1+1) rfl O (gf:=68) (lb:= #[ptr (w.heap.size+1+1+1)]) rfl trivial (enters_of Tryz.func68 (by rfl) rfl) O (encs:=fun k=> #[.string (txL k)]) (fun _ _=>rfl)
  (fun l ak5 W x hJ hy D=>Qe Zb l _ ak5 W ((World.cell?_of_block x).trans hc4) ((World.frozen?_of_block x).trans Wg) hJ hy D) (Zc w) hI (fun k A v h=>h.step (j:=w.heap.size+3) ⟨rfl,rfl⟩ (by simp_all) (fun i hi _=>Below.heap_setCell _ _ _ _ hi) (.inl rfl)) (fun k A o h=>h.step (j:=w.heap.size+3) ⟨rfl,rfl⟩ (by simp) (fun i hi hl=>Below.heap_alloc _ _ _ hl) (.inl rfl)) (fun k A j o o' F r m h=>h.step (j:=j) ⟨rfl,rfl⟩ (by simp) (fun i hi _=>World.putObj_heap_other hi) Z) (fun k=>{tmps:= #[.string QO,undef,.string ⟨#[]⟩,.pointer (some ⟨w.heap.size+1,0,none⟩),.pointer (some ⟨w.heap.size+1+1,0,none⟩),.string (txL k),.string QO,.int .i64 28,.bool false,undef,undef,ptr w.heap.size,.string QO,.func (.func 68) #[] #[ptr (w.heap.size+1+1+1)],.string (txL k),undef,undef,undef,undef,undef,undef,undef],defers:=[]})
  ?assign ?body ?done
 case assign=>
  intro l k W K N hK;gi_wp2;exact hK
 case body=>
  intro l k W hi N;gi_wp2;obtain⟨fp,x,T⟩:=hi.bd;have YB:=hi.sz;have cb:W.cell? ⟨w.heap.size+1,0,none⟩=some (ptr w.heap.size):=cJ (l:=[ptr w.heap.size]) rfl (ae hi.bx);have wT:(Za k).length<=1000000:=by unfold Za;split<;>decide
  have C:1<=3 - 1 - 1:=O;have UW:(LQ k).length+(NQ k++[10]).length<=1000000000000:=by
   have:k=0\/k=1\/k=2:=O;rcases this with rfl|rfl|rfl<;>decide
  have hdl:=Si (H:=W.heap) (he.fresh hi.fr) N hi.dk;have Nf:(NQ k).length<=8:=by
   have:k=0\/k=1\/k=2:=O;rcases this with rfl|rfl|rfl<;>decide
  obtain⟨A,X⟩:∃A,NQ k=A:=⟨_,rfl⟩;rw[X]at hdl Nf UW;have q1:¬ (9223372036854775807<A.length+1):=O;have q2:¬ (9223372036854775807<A.toArray.size+1):=by simp;omega
  have q3:¬ (9223372036854775807< (⟨A.toArray⟩:ByteArray).size+1):=q2;have q4:¬ (9223372036854775807< (⟨A.toArray⟩:ByteArray).size+(⟨#[10]⟩:ByteArray).size):=q2;gi_region_with_o (first
   | (refine⟨trivial,?_⟩;gi_at_call 29;refine(CallsIn.inRound l (callsIn_wide.2 ((If (Za k) wT _) _ rfl))).mono ?_;rintro e W1 ⟨_,rfl,hsT,rfl,hhT⟩;have cT:W1.cell? ⟨w.heap.size+1,0,none⟩=some (ptr w.heap.size):=cJ (l:=[ptr w.heap.size]) rfl (by rw[<-hhT];exact ae hi.bx))
   | (refine⟨trivial,?_⟩;gi_at_call 28;refine(CallsIn.inRound l (callsIn_wide.2 (hdl _ hhT.symm))).mono ?_;rintro e W2 ⟨_,rfl,hsD,rfl,q,oD⟩;have bW:=x.ext q O Z)
   | (refine⟨trivial,?_⟩;gi_at_call 20;refine(CallsIn.inRound l (callsIn_wide.2 ((nq bW (A++[10]) UW) _ rfl))).mono ?_;rintro e W3 ⟨_,rfl,hsW,rfl,hY⟩))
  all_goals
   have s3:bH W W3:=(bH.trans (a:=W) (b:=W.drew) ⟨rfl,rfl⟩ hsT).trans (hsD.trans hsW);obtain⟨Ii,U,d,ww⟩:=hY;rw[<-X,<-NR N]at U;have y5:=q.size;have Pj:=d.size;have aW:∀j,j<W.heap.size->j≠w.heap.size->j≠w.heap.size+2->fp≠some j->W3.heap[j]? =W.heap[j]? :=fun j D C h2 E=>by
    cases q;cases d;grind
   have hnf:∀j,j<w.heap.size+4->fp≠some j:=Z;refine⟨rfl,fun j o F r m=>?_,⟨hi.same.trans s3,(hi.fr.then q O).then d (fun z hz=>?_),O,d.own oD Z,d.own (q.own hi.bx O) Z,Ii,U,fun g y=>?_⟩,Z⟩
   ·rw[aW j Z O O (fun h=>?_)]
    ·exact r
    ·obtain⟨p,v,_,_,Q,_⟩:=x;obtain⟨_,c,fr,hcj⟩:=Q.ty j h;rw[hcj]at r;injection r with r;rw[<-r]at m;cases m
   ·grind
   ·rcases ww with h| ⟨g',h,C,_⟩
    ·exact T g (by rw[<-h];exact y)
    ·rw[h]at y;injection y with y;omega
 case done=>
  intro W hi hD;obtain⟨fp,x,T⟩:=hi.bd;obtain⟨g,rfl⟩:∃g,fp=some g:=by
   cases fp with
   |some g=>exact⟨g,rfl⟩
   |none=>
    obtain⟨p,v,_,_,⟨⟨h6,E,_⟩,_⟩,_⟩:=x;exact absurd E (by decide)
  have y:w4.heap.size+1<=g:=by
   have C:=T g rfl;obtain⟨p,v,_,_,Q,_⟩:=x;obtain⟨_,c,fr,m⟩:=Q.ty g rfl;have:g≠w4.heap.size:=fun e=>by rw[e,hD]at m;cases m
   omega
  gi_wp2_with (refine⟨trivial,?_⟩;gi_at_call 24;refine(callsIn_wide.2 ((vi x y (by decide)) W rfl)).mono ?_;rintro e w5 ⟨_,rfl,SR,rfl,I⟩);have hD5:w5.heap[w.heap.size+1+1+1+1]? =some (.deferred (some [])):=by
   rw[show w.heap.size+1+1+1+1=w4.heap.size from z4.symm];exact(I.aW _ Z O).trans hD
  refine⟨by simp,.inl ⟨_,_,rfl,run_takeDeferred hD5,?_⟩⟩;have hs6:bH w w5:=hi.same.trans SR;refine⟨_,results_tmp rfl _ _ _,_,rfl,⟨hs6.os,hs6.output⟩,rfl,?_⟩;have YB:=hi.sz;have V:=hi.fr.then I O;refine⟨?_,fun j F _=>(World.putObj_heap_other O).trans (V.aW j F (fun h=>h))⟩;have:=V.size;simp_all
end
end Go.Proofs.YtnanofhkpglbaaaGreatDoor
namespace Go.Proofs.YtnanofhkpglbaaaGreatDoor
open Go Go.Vc Go.Lib
theorem Eu{H:Hp}(w:kY H):aD 4 [] H fun v J=>ak (v= .bool true/\af H J):=by
 refine aL IZ ?_;refine vs ?_;refine(B5 w).mono ?_;rintro _ x ⟨rfl,h⟩;refine vs ?_;refine ai.bK (US (a:=LQ 3) (b:=[115,111,114,116,32,49,32,48,10,111,107,10,115,111,114,116,32,49,32,48,10]) (by decide)) ?_;refine vs ?_;refine(Ap x).mono ?_;rintro _ l ⟨a,c,rfl,z⟩;refine vs ?_;exact⟨rfl,h.trans z⟩
end Go.Proofs.YtnanofhkpglbaaaGreatDoor
