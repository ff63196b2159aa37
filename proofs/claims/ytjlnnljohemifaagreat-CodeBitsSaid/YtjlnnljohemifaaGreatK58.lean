/- Texts put behind each other. -/
import Derived.Test.YtjlnnljohemifaaGreatK98
import Derived.Test.YtjlnnljohemifaaGreatK0
import Derived.Test.YtjlnnljohemifaaGreatK2
import Derived.Test.YtjlnnljohemifaaGreatK3
import Derived.Test.YtjlnnljohemifaaGreatK4
import Derived.Test.YtjlnnljohemifaaGreatK5
import Derived.Test.YtjlnnljohemifaaGreatK6
import Derived.Test.YtjlnnljohemifaaGreatK7
import Derived.Test.YtjlnnljohemifaaGreatK8
import Derived.Test.YtjlnnljohemifaaGreatK9
import Derived.Test.YtjlnnljohemifaaGreatK10
import Derived.Test.YtjlnnljohemifaaGreatK11
import Derived.Test.YtjlnnljohemifaaGreatK12
import Derived.Test.YtjlnnljohemifaaGreatK13
import Derived.Test.YtjlnnljohemifaaGreatK14
import Derived.Test.YtjlnnljohemifaaGreatK15
import Derived.Test.YtjlnnljohemifaaGreatK16
import Derived.Test.YtjlnnljohemifaaGreatK17
import Derived.Test.YtjlnnljohemifaaGreatK18
import Derived.Test.YtjlnnljohemifaaGreatK19
import Derived.Test.YtjlnnljohemifaaGreatK20
import Derived.Test.YtjlnnljohemifaaGreatK21
import Derived.Test.YtjlnnljohemifaaGreatK22
import Derived.Test.YtjlnnljohemifaaGreatK23
import Derived.Test.YtjlnnljohemifaaGreatK24
import Derived.Test.YtjlnnljohemifaaGreatK25
import Derived.Test.YtjlnnljohemifaaGreatK26
import Derived.Test.YtjlnnljohemifaaGreatK27
import Derived.Test.YtjlnnljohemifaaGreatK28
import Derived.Test.YtjlnnljohemifaaGreatK29
import Derived.Test.YtjlnnljohemifaaGreatK30
import Derived.Test.YtjlnnljohemifaaGreatK31
import Derived.Test.YtjlnnljohemifaaGreatK32
import Derived.Test.YtjlnnljohemifaaGreatK33
import Derived.Test.YtjlnnljohemifaaGreatK34
import Derived.Test.YtjlnnljohemifaaGreatK35
import Derived.Test.YtjlnnljohemifaaGreatK36
import Derived.Test.YtjlnnljohemifaaGreatK38
import Derived.Test.YtjlnnljohemifaaGreatK39
import Derived.Test.YtjlnnljohemifaaGreatK40
import Derived.Test.YtjlnnljohemifaaGreatK41
import Derived.Test.YtjlnnljohemifaaGreatK42
import Derived.Test.YtjlnnljohemifaaGreatK43
import Derived.Test.YtjlnnljohemifaaGreatK48
import Derived.Test.YtjlnnljohemifaaGreatK49
import Derived.Test.YtjlnnljohemifaaGreatK50
import Derived.Test.YtjlnnljohemifaaGreatK51
import Derived.Test.YtjlnnljohemifaaGreatK52
import Derived.Test.YtjlnnljohemifaaGreatK53
import Derived.Test.YtjlnnljohemifaaGreatK54
import Derived.Test.YtjlnnljohemifaaGreatK55
import Derived.Test.YtjlnnljohemifaaGreatK56
import Derived.Test.YtjlnnljohemifaaGreatK57
import Derived.Shelf.SlSortCmp.Whole1
import Derived.Deep.RegionWith
set_option maxRecDepth 100000
set_option maxHeartbeats 8000000
set_option linter.unusedVariables false
set_option linter.unusedSimpArgs false
namespace Go.Proofs.YtjlnnljohemifaaGreat
open Go Go.Vc Go.Sort Go.RowKit
theorem ait(g:Nat)(x:Int)(hx:¬x=0)(w:World)(h0:w.cell? ⟨g,0,none⟩=some (.int .i64 x)):
  Calls Tryz.prog 65 #[.slice (some ⟨g,0,none⟩) 2 2] w fun e w'=>e= .returned (.int .i64 x)∧w'=w:=by
 have mixed:=Tryz.checked.mixed
 have t3:=Tryz.underlying3;have a3:=Tryz.isAgg3;have z3:=Tryz.sizeOf3;have v3:=Tryz.zeroValue3;have u3:=run_underlying Tryz.underlying3
 have t4:=Tryz.underlying4;have a4:=Tryz.isAgg4;have z4:=Tryz.sizeOf4;have v4:=Tryz.zeroValue4;have u4:=run_underlying Tryz.underlying4
 have t25:=Tryz.underlying24;have a25:=Tryz.isAgg24;have z25:=Tryz.sizeOf24;have v25:=Tryz.zeroValue24;have u25:=run_underlying Tryz.underlying24
 go_enter Tryz.func65,Tryz.ntmps65
 go_wp2
 refine wp_loop_rounds 1 ?_
 rw[rounds_succ]
 go_wp2
 go_ret
 exact⟨rfl,rfl⟩
theorem aiu(g:Nat)(y:Int)(w:World)(h0:w.cell? ⟨g,0,none⟩=some (.int .i64 0))(h1:w.cell? ⟨g,1,none⟩=some (.int .i64 y))(hy:¬y=0):
  Calls Tryz.prog 65 #[.slice (some ⟨g,0,none⟩) 2 2] w fun e w'=>e= .returned (.int .i64 y)∧w'=w:=by
 have mixed:=Tryz.checked.mixed
 have t3:=Tryz.underlying3;have a3:=Tryz.isAgg3;have z3:=Tryz.sizeOf3;have v3:=Tryz.zeroValue3;have u3:=run_underlying Tryz.underlying3
 have t4:=Tryz.underlying4;have a4:=Tryz.isAgg4;have z4:=Tryz.sizeOf4;have v4:=Tryz.zeroValue4;have u4:=run_underlying Tryz.underlying4
 have t25:=Tryz.underlying24;have a25:=Tryz.isAgg24;have z25:=Tryz.sizeOf24;have v25:=Tryz.zeroValue24;have u25:=run_underlying Tryz.underlying24
 go_enter Tryz.func65,Tryz.ntmps65
 go_wp2
 refine wp_loop_rounds 2 ?_
 rw[rounds_succ]
 go_wp2
 rw[rounds_succ]
 go_wp2
 go_ret
 exact⟨rfl,rfl⟩
theorem ah8(g:Nat)(w:World)(h0:w.cell? ⟨g,0,none⟩=some (.int .i64 0))(h1:w.cell? ⟨g,1,none⟩=some (.int .i64 0)):
  Calls Tryz.prog 65 #[.slice (some ⟨g,0,none⟩) 2 2] w fun e w'=>e= .returned (.int .i64 0)∧w'=w:=by
 have mixed:=Tryz.checked.mixed
 have t3:=Tryz.underlying3;have a3:=Tryz.isAgg3;have z3:=Tryz.sizeOf3;have v3:=Tryz.zeroValue3;have u3:=run_underlying Tryz.underlying3
 have t4:=Tryz.underlying4;have a4:=Tryz.isAgg4;have z4:=Tryz.sizeOf4;have v4:=Tryz.zeroValue4;have u4:=run_underlying Tryz.underlying4
 have t25:=Tryz.underlying24;have a25:=Tryz.isAgg24;have z25:=Tryz.sizeOf24;have v25:=Tryz.zeroValue24;have u25:=run_underlying Tryz.underlying24
 go_enter Tryz.func65,Tryz.ntmps65
 go_wp2
 refine wp_loop_rounds 3 ?_
 rw[rounds_succ]
 go_wp2
 rw[rounds_succ]
 go_wp2
 rw[rounds_succ]
 go_wp2
 go_ret
 exact⟨rfl,rfl⟩
theorem ahz(w:World)(a b:Value)(T:TypeId):((w.alloc (Obj.cells #[a,b] T)).drew).cell? ⟨w.heap.size,0,none⟩=some a:=by
 show World.cell? (w.alloc (Obj.cells #[a,b] T)) ⟨w.heap.size,0,none⟩=some a
 unfold World.cell?
 have:(w.alloc (Obj.cells #[a,b] T)).heap[w.heap.size]? =some (Obj.cells #[a,b] T):=by
  show(w.heap.push _)[w.heap.size]? =_
  simp
 rw[this]
 rfl
theorem ahA(w:World)(a b:Value)(T:TypeId):((w.alloc (Obj.cells #[a,b] T)).drew).cell? ⟨w.heap.size,1,none⟩=some b:=by
 show World.cell? (w.alloc (Obj.cells #[a,b] T)) ⟨w.heap.size,1,none⟩=some b
 unfold World.cell?
 have:(w.alloc (Obj.cells #[a,b] T)).heap[w.heap.size]? =some (Obj.cells #[a,b] T):=by
  show(w.heap.push _)[w.heap.size]? =_
  simp
 rw[this]
 rfl
def ah9(x y:Int):Int:=if x=0 then y else x
theorem ai6(g:Nat)(x y:Int)(w:World)(h0:w.cell? ⟨g,0,none⟩=some (.int .i64 x))(h1:w.cell? ⟨g,1,none⟩=some (.int .i64 y)):
  Calls Tryz.prog 65 #[.slice (some ⟨g,0,none⟩) 2 2] w fun e w'=>e= .returned (.int .i64 (ah9 x y))∧w'=w:=by
 unfold ah9
 by_cases hx:x=0
 ·subst hx
  rw[if_pos rfl]
  by_cases hy:y=0
  ·subst hy
   exact ah8 g w h0 h1
  ·exact aiu g y w h0 h1 hy
 ·rw[if_neg hx]
  exact ait g x hx w h0
theorem aia(p bl o n c i k:Nat)(x y:Int)(w:World)(hp:w.cell? ⟨p,0,none⟩=some (.slice (some ⟨bl,o,none⟩) n c))(hi:i<n)(hk:k<n)(hx:w.cell? ⟨bl,o+i,none⟩=some (.int .i64 x))(hy:w.cell? ⟨bl,o+k,none⟩=some (.int .i64 y))
  (bx:0≤x∧x≤1000)(by_:0≤y∧y≤1000)(hn:n≤1000000):
  Calls Tryz.prog 119 #[.int .i64 (i:Int),.int .i64 (k:Int),.pointer (some ⟨p,0,none⟩)] w fun e w'=>e= .returned (.int .i64 (ah9 (x - y) ((i:Int) - (k:Int))))∧∃q os',w'=grow (w.drewN q) os':=by
 have mixed:=Tryz.checked.mixed
 have t3:=Tryz.underlying3;have a3:=Tryz.isAgg3;have z3:=Tryz.sizeOf3;have v3:=Tryz.zeroValue3;have u3:=run_underlying Tryz.underlying3
 have t4:=Tryz.underlying4;have a4:=Tryz.isAgg4;have z4:=Tryz.sizeOf4;have v4:=Tryz.zeroValue4;have u4:=run_underlying Tryz.underlying4
 have t25:=Tryz.underlying24;have a25:=Tryz.isAgg24;have z25:=Tryz.sizeOf24;have v25:=Tryz.zeroValue24;have u25:=run_underlying Tryz.underlying24
 go_enter Tryz.func119,Tryz.ntmps119
 go_wp2
 have tB:IntKind.i64.wrap (x - y)=x - y:=wrap64 (by omega) (by omega)
 have rl:IntKind.i64.wrap ((i:Int) - (k:Int))=(i:Int) - (k:Int):=wrap64 (by omega) (by omega)
 go_region_with (go_at_call 65;refine(ai6 _ (x - y) ((i:Int) - (k:Int)) _ (ahz _ _ _ _) (ahA _ _ _ _)).mono ?_;rintro e w' ⟨rfl,rfl⟩)
 all_goals go_wp2
 all_goals go_ret
 all_goals exact⟨rfl,1, #[_],by rw[alloc_eq_grow];rfl⟩
theorem afl{α:Type}[Inhabited α](enc:α→Value)(d:List α)(l:List Value)(h:d.length≤l.length):(putCells enc 0 d.toArray l.toArray).toList=d.map enc++l.drop d.length:=by
 apply aoo
 intro k
 rw[Array.getElem?_toList]
 simp only[putCells,Array.getElem?_mapIdx,apf,List.size_toArray]
 by_cases h2:k<d.length
 ·rw[anJ (by simp;omega),anR,ans (by omega),ans (by omega)]
  simp only[Option.map_some]
  rw[if_pos ⟨by omega,by omega⟩]
  congr 2
  simp[h2]
 ·rw[anX (by simp;omega),aob]
  simp only[anQ]
  rw[show d.length+(k - d.length)=k by omega]
  cases hk:l[k]? with
  |none=>rfl
  |some x=>simp;omega
def abp(n:Nat)(i:Fin n):Value:=.int .i64 ((i.val:Nat):Int)
def cfF(l:List Nat)(n:Nat)(i k:Fin n):Int:=ah9 (((l.getD i.val 0:Nat):Int) - ((l.getD k.val 0:Nat):Int)) ((i.val:Int) - (k.val:Int))
theorem adQ(l:List Nat)(n:Nat)(i k:Fin n):ltOf (cfF l n) i k=true↔aax l i.val k.val:=by
 unfold ltOf cfF ah9 aax
 rw[anU]
 split<;>omega
theorem anf(l:List Nat)(n:Nat):SWO (ltOf (cfF l n)):=by
 refine⟨fun x=>?_,fun x y z h1 h2=>?_,fun x y z h1 h2=>?_⟩
 ·rw[←Bool.not_eq_true,adQ]
  unfold aax;omega
 ·rw[adQ]at*
  unfold aax at*;omega
 ·rw[←Bool.not_eq_true,adQ]at*
  unfold aax at*;omega
theorem aaK{α:Type}[Inhabited α](enc:α→Value)(w:World)(b m:Nat)(lw:Array α)(os:Array Obj){z:Nat}(hz:z<w.heap.size)(aP:z≠b):(sortWorld enc w b 0 m lw os).heap[z]? =w.heap[z]? :=by
 show((w.heap.modify b (onCells (putCells enc 0 lw)))++os)[z]? =_
 rw[aoY (by simpa using hz),aoz,if_neg (fun e=>aP e.symm)]
theorem aet{w w':World}{b o:Nat}(h:w'.heap[b]? =w.heap[b]?):w'.cell? ⟨b,o,none⟩=w.cell? ⟨b,o,none⟩:=by
 unfold World.cell?
 rw[h]
theorem aeL{H:Hp}{p b bl o lc c:Nat}{l:List Nat}(hn:0<l.length)(Dg:l.length≤1000000)(hb:∀x∈l,x≤1000)(hp:H.own p=some [.slice (some ⟨bl,o,none⟩) l.length lc])(hl:dc H 1 (.slice (some ⟨bl,o,none⟩) l.length lc) l.length ((l.map fun(x:Nat)=>(x:Int)).map i64))(h1:bl≠b)(h2:p≠b)
  (s:Sl H 1 (.slice (some ⟨b,0,none⟩) l.length c) l.length (((List.range l.length).map fun(x:Nat)=>(x:Int)).map i64) (some b)):
  af Tryz.prog aaw [.slice (some ⟨b,0,none⟩) l.length c,.func (.func aaI) #[] #[ptr p]] H fun v H'=>aw (v= .tuple [].toArray∧∃od:List Nat,od.Perm (List.range l.length)∧od.Pairwise (aax l)∧Sl H' 1 (.slice (some ⟨b,0,none⟩) l.length c) l.length ((od.map fun(x:Nat)=>(x:Int)).map i64) (some b)∧ag (fun z=>z=b) H H'):=fun w hw=>by
 haveI:Inhabited (Fin l.length):=⟨⟨0,hn⟩⟩
 obtain⟨hx,lb,c',xJ,ho,hc,oY,ht⟩:=s
 injection xJ with _ _ Ht
 subst Ht
 rw[anw]at ht oY
 obtain⟨T,fr,hbk⟩:=Pv ho
 have hd:∀j (hj:j<l.length),(Array.ofFn (n:=l.length) (fun i=>i))[j]! =⟨j,hj⟩:=fun j hj=>by simp[hj]
 have Pp:(Array.ofFn (n:=l.length) (fun i=>i)).size=l.length:=by simp
 have hH:Holds (abp l.length) w b 0 (Array.ofFn (n:=l.length) (fun i=>i)):=fun j hj=>by
  rw[Pp]at hj
  refine⟨?_,xG (by rw[hw];exact ho) _⟩
  rw[nq (l:=lb) rfl (ae (by rw[hw];exact ho))]
  simp only[ant]
  have:(((List.range l.length).map fun(x:Nat)=>(x:Int)).map i64)[j]? =some (i64 (j:Int)):=by rw[anR,anR,List.getElem?_range hj];rfl
  rw[←ht,an9,if_pos hj]at this
  rw[this,hd j hj]
  rfl
 have akr:∀i (hi:i<l.length),bl<H.size∧∃ll,H.rd bl=some ll∧ll[o+i]? =some (i64 ((l.getD i 0:Nat):Int)):=fun i hi=>by
  have hli:(l.map fun(x:Nat)=>(x:Int))[i]? =some ((l.getD i 0:Nat):Int):=by rw[anR,anx,ans hi];rfl
  have Ez:=hl
  rw[show l.length=(l.map fun(x:Nat)=>(x:Int)).length by simp]at Ez
  obtain⟨_,b3,o3,ll,e3,fA,bX⟩:=dc.num Ez hli
  injection e3 with e3
  injection e3 with e4 e5 _
  subst e4;subst e5
  exact⟨NY fA,ll,fA,bX⟩
 have Uo:∀i (hi:i<l.length),l.getD i 0≤1000:=fun i hi=>by
  rw[anx,ans hi]
  exact hb _ (List.getElem_mem hi)
 have aiV:CmpLays1 Tryz.prog aaI #[ptr p] (abp l.length) (cfF l l.length) b 0 (Array.ofFn (n:=l.length) (fun i=>i)).size w:=by
  intro m os lw hs x y
  obtain⟨We,ll,fA,_⟩:=akr x.val x.isLt
  have hps:=aA hp
  have k1:=aaK (abp l.length) w b m lw os (z:=p) (by rw[hw];exact hps) h2
  have k2:=aaK (abp l.length) w b m lw os (z:=bl) (by rw[hw];exact We) h1
  have rdc:∀i (hi:i<l.length),(sortWorld (abp l.length) w b 0 m lw os).cell? ⟨bl,o+i,none⟩=some (i64 ((l.getD i 0:Nat):Int)):=fun i hi=>by
   obtain⟨_,ll',PV,Kl⟩:=akr i hi
   rw[aet k2,nq (l:=ll') rfl (by rw[hw];exact PV)]
   exact Kl
  have Py:=Uo x.val x.isLt
  have rR:=Uo y.val y.isLt
  exact aia p bl o l.length lc x.val y.val _ _ (sortWorld (abp l.length) w b 0 m lw os)
   (by rw[aet k1,nq (l:=[.slice (some ⟨bl,o,none⟩) l.length lc]) rfl (ae (by rw[hw];exact hp))];rfl)
   x.isLt y.isLt (rdc x.val x.isLt) (rdc y.val y.isLt) (by omega) (by omega) Dg
 have key:=Tryz.slices_SortFunc (abp l.length) (fun x=>rfl) (cfF l l.length) (anf l l.length) aaI #[ptr p] b 0 c (Array.ofFn (n:=l.length) (fun i=>i)) w
  (fun args w=>enters_of Tryz.func119 (by kernel_rfl) rfl args w) aiV hH (by rw[hw];exact aA ho) (by rw[Pp];omega)
 rw[Pp]at key
 refine key.mono ?_
 rintro e w' ⟨rfl,d',n',os,ZL,afJ,rfl⟩
 obtain⟨YQ,_,vw⟩:=ZL
 rw[Pp]at YQ
 have sM:∀ (d:Array (Fin l.length)),d.size=l.length→d.extract 0 l.length=d:=fun d h=>by
  have:d.extract 0 d.size=d:=by simp
  rw[h]at this
  exact this
 rw[sM d' YQ,sM _ Pp]at vw
 have hr:(Array.ofFn (n:=l.length) (fun i=>i)).toList.map Fin.val=List.range l.length:=by
  apply aoo
  intro k
  by_cases hk:k<l.length
  ·rw[List.getElem?_range hk,anR,Array.getElem?_toList]
   simp[hk]
  ·rw[anK (by simp;omega),anK (by simp;omega)]
 have hod:=vw.map Fin.val
 rw[hr]at hod
 have akt:(d'.toList.map Fin.val).length=l.length:=by rw[hod.length_eq,List.length_range]
 have gk:(d'.toList.map Fin.val).Nodup:=List.Nodup.perm List.nodup_range hod.symm
 have bW:∀i (hi:i<l.length),(d'.toList.map Fin.val)[i]'(by omega)=(d'[i]!).val:=fun i hi=>by simp[YQ,hi]
 have aO:=aA ho
 have iB:(sortWorld (abp l.length) w b 0 n' d' os).heap=(H.modify b (onCells (putCells (abp l.length) 0 d')))++os:=by rw[←hw];rfl
 have cK:=afl (abp l.length) d'.toList lb (by simp[YQ];omega)
 have hdt:d'.toList.toArray=d':=by simp
 rw[hdt]at cK
 have aku:((H.modify b (onCells (putCells (abp l.length) 0 d')))++os)[b]? =some (.cells (putCells (abp l.length) 0 d' lb.toArray) T fr):=by
  rw[aoY (by simpa using aO),aoz,if_pos rfl,hbk]
  rfl
 refine⟨_,rfl,⟨rfl,rfl⟩,rfl,d'.toList.map Fin.val,hod,?_,⟨by simp[YQ],d'.toList.map (abp l.length)++lb.drop d'.toList.length,c,rfl,?_,hc,?_,?_⟩,?_⟩
 ·rw[List.pairwise_iff_getElem]
  intro i j hi hj JT
  rw[akt]at hi hj
  have h3:=afJ i j (ao2 _) JT hj
  rw[←Bool.not_eq_true,adQ,←bW i hi,←bW j hj]at h3
  have aP:(d'.toList.map Fin.val)[i]'(by omega)≠(d'.toList.map Fin.val)[j]'(by omega):=fun e=>by
   have:=(List.nodup_iff_pairwise_ne.1 gk)
   exact List.pairwise_iff_getElem.1 this i j (by omega) (by omega) JT e
  unfold aax at h3 ⊢
  omega
 ·show Hp.own (sortWorld (abp l.length) w b 0 n' d' os).heap b=_
  rw[iB,←cK]
  unfold Hp.own at ho ⊢
  rw[hbk]at ho
  rw[aku]
  simp only at ho ⊢
  split at ho
  ·rename_i hf
   simp only[hf,if_true]
  ·cases ho
 ·simp[YQ];omega
 ·rw[anw,List.take_left' (by simp[YQ]),List.map_map,List.map_map]
  rfl
 ·refine⟨?_,fun k hk Jr=>?_⟩
  ·show _≤(sortWorld (abp l.length) w b 0 n' d' os).heap.size
   rw[iB];simp
  ·show(sortWorld (abp l.length) w b 0 n' d' os).heap[k]? =_
   rw[iB,aoY (by simpa using hk),aoz,if_neg (fun e=>Jr (by rw[e]))]
end Go.Proofs.YtjlnnljohemifaaGreat

namespace Go.Proofs.YtjlnnljohemifaaGreat
open Go Go.Vc
theorem adO(H:Hp)(x:Int):af Tryz.prog ada [i64 x] H fun v H'=>aw (v= .bool (decide (x<1∨128<x))∧H'=H):=by
 refine bm ae7 ?_
 refine vs ?_
 refine am.dec (fun h=>?_) (fun h=>?_)<;>refine vs ?_
 ·exact⟨anP Value.bool (anI (.inl h)).symm,rfl⟩
 ·exact⟨anP Value.bool (by rw[decide_eq_decide];omega),rfl⟩
abbrev aai(l:List Int):List (List Bool):=(aaG (l.map Int.toNat) (af5 (l.map Int.toNat))).2
theorem toNat_cast{l:List Int}(h:∀x∈l,1≤x∧x≤128):(l.map Int.toNat).map (fun(x:Nat)=>(x:Int))=l:=by
 rw[List.map_map]
 refine(apn fun x hx=>?_).trans (List.map_id _)
 have:=h x hx
 simp only[Function.comp_apply,id_eq]
 omega
theorem aaF{l:List Int}(h:aa2 l):af7 (l.map Int.toNat):=by
 refine⟨fun n hn=>?_,?_⟩
 ·obtain⟨x,hx,rfl⟩:=anS.1 hn
  have:=h.low x hx
  omega
 ·have hr:=h.room
  have e:krN l=l.map Int.toNat:=by
   unfold krN
   apply apn
   intro x hx
   have:=h.low x hx
   unfold aah
   omega
  rw[e]at hr
  unfold krS at hr
  split at hr
  ·omega
  ·split at hr
   ·omega
   ·omega
theorem S8.ang{H:Hp}{x wb tb:Nat}{ws:List (List Bool)}{tr:List be}(h:S8 H x wb tb ws tr)(s:Nat)(w:List Bool):S8 (H.wr wb ((ws.map aav).set s (aav w))) x wb tb (ws.set s w) tr:=by
 obtain⟨n1,n2,n3⟩:=h.ne
 obtain⟨tv,h1,h2⟩:=h.TE
 have e:ag (fun z=>z=wb) H (H.wr wb ((ws.map aav).set s (aav w))):=(ag.refl (fun z=>z=wb) _).wr (fun _=>rfl) _
 refine⟨⟨tv,by rw[anv];exact e.own h1 n1,h2.ext e (fun b hb hz=>by injection hb with hb;omega)⟩,?_,h.ne⟩
 rw[aoh]
 exact ah h.words
theorem afp(w:List Bool):Go.Vc.bytesOf (w.map fw)=some (w.map bt):=by
 rw[←agv,aaW,List.map_map]
 congr 1
 refine(apn fun c _=>?_).trans (List.map_id _)
 simp
theorem aic(n j:Nat)(hj:j<n):((((List.range j).map fun(x:Nat)=>(x:Int))++List.replicate (n - j) (0:Int)).map i64).set j (i64 (j:Int))=((((List.range (j+1)).map fun(x:Nat)=>(x:Int))++List.replicate (n - (j+1)) (0:Int)).map i64):=by
 rw[←aoh,apt _ _ (by simp)]
 rw[show j - ((List.range j).map fun(x:Nat)=>(x:Int)).length=0 by simp,show n - j=(n - (j+1))+1 by omega,aoc,aoS,apA]
 simp
theorem ahB(n:Nat):cA [Value.int .i64 0] n=(List.replicate n (0:Int)).map i64:=by
 unfold cA
 induction n with
 |zero=>rfl
 |succ n ih=>rw[aoc,aos,ih,aoc];rfl
def stC(lN od:List Nat)(j:Nat):List Bool×List (List Bool):=(od.take j).foldl (aaB lN) ([],List.replicate lN.length [])
theorem afM{lN od:List Nat}{j s:Nat}(h:od[j]? =some s):stC lN od (j+1)=aaB lN (stC lN od j) s:=by
 unfold stC
 rw[aoa,h,List.foldl_append]
 rfl
theorem aiv(lN od:List Nat)(j:Nat):(stC lN od j).2.length=lN.length:=by
 unfold stC
 rw[aht,aog]
theorem afR{lN od:List Nat}(h:∀n∈lN,1≤n∧n≤128):∀j,(stC lN od j).1.length≤128:=by
 intro j
 induction j with
 |zero=>exact ao2 _
 |succ j ih=>
  cases hs:od[j]? with
  |none=>
   have hl:=List.getElem?_eq_none_iff.1 hs
   have:stC lN od (j+1)=stC lN od j:=by unfold stC;rw[List.take_of_length_le (by omega),List.take_of_length_le (by omega)]
   rw[this];exact ih
  |some s=>
   rw[afM hs]
   show(Hr (lN.getD s 0) (w9 (stC lN od j).1)).length≤128
   unfold Hr
   rw[anD,aog,aaM]
   have:lN.getD s 0≤128:=by
    rw[anx]
    cases hg:lN[s]? with
    |none=>exact ao2 _
    |some v=>exact(h v (anz hg)).2
   omega
theorem abH{H:Hp}{a:Option Addr}{c:Nat}{l:List Int}(h:dc H 1 (.slice a l.length c) l.length (l.map i64))(hl:l.length≤9223372036854775807):
  af Tryz.prog agr [.slice a l.length c] H fun v H'=>aw (ai H H'∧
   ((¬aa2 l∧v= .tuple [.pointer none,i64 201].toArray)∨(aa2 l∧∃x S,v= .tuple [ptr x,i64 0].toArray∧aaX H' x S (aai l)∧∀z,S z→H.size≤z))):=by
 refine bm ags ?_
 refine vs ?_
 have f0:ai H (H.new 24 [.slice a l.length c]):=(ag.refl _ _).new _ _
 have o0:(H.new 24 [.slice a l.length c]).own H.size=some [.slice a l.length c]:=aB _ _ _
 generalize H.new 24 [.slice a l.length c]=H0 at*
 have h0:=h.fresh f0
 refine am.dec (fun g1=>?_) (fun g1=>?_)<;>refine v1 (ae o0) ?_
 ·exact⟨f0,.inl ⟨fun hr=>by have:=hr.len;omega,rfl⟩⟩
 refine am.dec (fun g2=>?_) (fun g2=>?_)<;>refine v1 (ae o0) ?_
 ·exact⟨f0,.inl ⟨fun hr=>by have:=hr.len;omega,rfl⟩⟩
 refine(zv ada [] (fun x=>decide (x<1∨128<x)) (fun H'=>H'=H0) rfl (fun H' hI=>by rw[hI];exact h0) (by kernel_rfl) (fun H' x _ hI=>by rw[hI];exact adO H0 x) (by omega)).mono ?_
 rintro _ _ ⟨rfl,rfl⟩
 refine vs ?_
 have abq:(l.any fun x=>decide (x<1∨128<x))=true↔¬ ∀x∈l,1≤x∧x≤128:=by
  rw[List.any_eq_true]
  constructor
  ·rintro⟨x,hx,hd⟩ db
   have:=db x hx
   have:=of_decide_eq_true hd
   omega
  ·intro hn
   apply anW
   intro bK
   refine hn fun x hx=>?_
   apply anW
   intro Iq
   exact bK ⟨x,hx,anI (by omega)⟩
 cases hb:l.any fun x=>decide (x<1∨128<x)
 rotate_left
 ·refine vs ?_
  exact⟨f0,.inl ⟨fun hr=>abq.1 hb hr.low,rfl⟩⟩
 have PU:∀x∈l,1≤x∧x≤128:=anW fun hn=>by have:=abq.2 hn;rw[hb]at this;cases this
 refine v1 (ae o0) ?_
 refine(acM h0 (by omega) (afi PU) (by decide)).mono ?_
 rintro _ H1 ⟨rfl,f1⟩
 refine vs ?_
 refine am.dec (fun g3=>?_) (fun g3=>?_)<;>refine vs ?_
 ·exact⟨f0.trans f1,.inl ⟨fun hr=>by have:=hr.room;omega,rfl⟩⟩
 have hR:aa2 l:=⟨PU,⟨by omega,by omega⟩,by omega⟩
 have hRL:=aaF hR
 have o1:=f1.own o0 (fun h=>h)
 have h1:=h0.fresh f1
 have z0:=f0.size
 have z1:=f1.size
 have Hy:=aA o0
 refine v1 (ae o1) ?_
 refine⟨⟨by omega,by omega,by omega,by omega⟩,?_⟩
 refine v1 Int.toNat_natCast ?_
 obtain⟨x0,fZ⟩:∃x,l[0]? =some x:=⟨_,ans (by omega)⟩
 obtain⟨_,bl,lo,llb,rfl,anh,_⟩:=dc.num h fZ
 have U5:=NY anh
 rw[ahB]
 have f2:ai H1 (H1.new 3 ((List.replicate l.length (0:Int)).map i64)):=(ag.refl _ _).new _ _
 have b2:(H1.new 3 ((List.replicate l.length (0:Int)).map i64)).own H1.size=some ((List.replicate l.length (0:Int)).map i64):=aB _ _ _
 generalize H1.new 3 ((List.replicate l.length (0:Int)).map i64)=H2 at*
 have Y0:=(f0.trans f1).trans f2
 have z2:=f2.size
 have ho2:=aA b2
 refine bk.intro (fun m env H'=>∃j:Nat,m=l.length - j∧j≤l.length∧ag (fun z=>z=H1.size) H2 H'∧H'.own H1.size=some ((((List.range j).map fun(x:Nat)=>(x:Int))++List.replicate (l.length - j) (0:Int)).map i64)∧
  env=[(1,ptr H.size),(4,.slice (some ⟨H1.size,0,none⟩) l.length l.length),(31,i64 l.length),(32,i64 j)]) l.length ⟨0,by omega,by omega,ag.refl _ _,b2,rfl⟩ ?_
 rintro m env H3 ⟨j,rfl,hj,e3,b3,rfl⟩
 refine vs ?_
 refine am.dec (fun aO=>?_) (fun aO=>?_)<;>refine vs ?_
 ·refine⟨⟨by omega,by omega⟩,?_⟩
  refine v4 b3 Int.toNat_natCast anw ant ?_
  refine⟨by simp;omega,?_⟩
  have e4:=e3.wr (b:=H1.size) (l:=((((List.range (j+1)).map fun(x:Nat)=>(x:Int))++List.replicate (l.length - (j+1)) (0:Int)).map i64)) (fun _=>rfl)
  refine vs ?_
  rw[aic _ _ (by omega),wrap64 (n:=(j:Int)+1) (by omega) (by omega)]
  exact⟨l.length - (j+1),by omega,j+1,rfl,by omega,e4,ah b3,rfl⟩
 have gD:j=l.length:=by omega
 subst gD
 rw[aoI,apz,aon]at b3
 have hlN:(l.map Int.toNat).length=l.length:=anQ ..
 have htc:=toNat_cast PU
 have s3:Sl H3 1 (.slice (some ⟨H1.size,0,none⟩) (l.map Int.toNat).length l.length) (l.map Int.toNat).length (((List.range (l.map Int.toNat).length).map fun(x:Nat)=>(x:Int)).map i64) (some H1.size):=by
  rw[hlN]
  exact⟨by simp,_,l.length,rfl,b3,anG _,by simp,by rw[anw];exact List.take_of_length_le (by simp)⟩
 have f13:ai H1 H3:=f2.then e3 (fun z hz=>by omega)
 have f03:=(f0.trans f1).trans f13
 have o3:=f13.own o1 (fun h=>h)
 have h3:=h1.fresh f13
 have TI:=aA b3
 generalize akw:l.map Int.toNat=lN at*
 have bL:∀x∈lN,1≤x∧x≤128:=hRL.low
 have ZF:=aeL (H:=H3) (p:=H.size) (b:=H1.size) (bl:=bl) (o:=lo) (lc:=c) (c:=l.length) (l:=lN) (by omega) (by omega) (fun x hx=>by have:=bL x hx;omega) (by rw[hlN];exact o3) (by rw[hlN,htc];exact h3) (by omega) (by omega) s3
 rw[hlN]at ZF
 refine ZF.mono ?_
 clear ZF
 rintro _ H4 ⟨rfl,od,ZL,hpw,s4,e4⟩
 have f14:ai H1 H4:=f13.then e4 (fun z hz=>by omega)
 have f04:=(f0.trans f1).trans f14
 have o4:=f14.own o1 (fun h=>h)
 have h4:=h1.fresh f14
 have z4:=f14.size
 have akt:od.length=l.length:=by rw[ZL.length_eq,List.length_range]
 have gk:od.Nodup:=List.Nodup.perm List.nodup_range ZL.symm
 have hoe:=aiR bL (by rw[hlN];exact ZL) hpw
 refine v1 (ae o4) ?_
 refine⟨⟨by omega,by omega,by omega,by omega⟩,?_⟩
 refine v1 Int.toNat_natCast ?_
 rw[ahY]
 have f5:ai H4 (((H4.new 9 ((List.replicate l.length ([]:List Bool)).map aav)).new 137 [i64 0,i64 0,i64 (-1)]).new 141 [.slice (some ⟨H4.size,0,none⟩) l.length l.length,.slice (some ⟨H4.size+1,0,none⟩) 1 1]):=(((ag.refl _ _).new _ _).new _ _).new _ _
 have m5:S8 (((H4.new 9 ((List.replicate l.length ([]:List Bool)).map aav)).new 137 [i64 0,i64 0,i64 (-1)]).new 141 [.slice (some ⟨H4.size,0,none⟩) l.length l.length,.slice (some ⟨H4.size+1,0,none⟩) 1 1]) (H4.size+1+1) H4.size (H4.size+1) (List.replicate l.length []) [⟨0,0, -1⟩]:=by
  refine⟨⟨.slice (some ⟨H4.size+1,0,none⟩) 1 1,?_,?_⟩,?_,by omega⟩
  ·rw[aog]
   exact aV (by simp only[aq])
  ·exact(Sl.cf (size:=3) (n:=1) (xs:=[i64 0,i64 0,i64 (-1)]) rfl (by simp only[aq])).ext ((ag.refl (fun _=>False) _).new _ _) (fun _ _ h=>h)
  ·rw[ci (by simp only[aq];omega),ci (by simp only[aq];omega),aB]
 have z5:(((H4.new 9 ((List.replicate l.length ([]:List Bool)).map aav)).new 137 [i64 0,i64 0,i64 (-1)]).new 141 [.slice (some ⟨H4.size,0,none⟩) l.length l.length,.slice (some ⟨H4.size+1,0,none⟩) 1 1]).size=H4.size+1+1+1:=by simp only[aq]
 generalize ((H4.new 9 ((List.replicate l.length ([]:List Bool)).map aav)).new 137 [i64 0,i64 0,i64 (-1)]).new 141 [.slice (some ⟨H4.size,0,none⟩) l.length l.length,.slice (some ⟨H4.size+1,0,none⟩) 1 1]=H5 at*
 have f05:=f04.trans f5
 have hb4:=s4.lt
 clear b3 s3 e3 h3 o3 f13 f03 e4
 refine bk.intro (fun m env H'=>∃ (j tb:Nat) (tr:List be) (G9:List (List Bool)) (P:List (Nat×List Bool)) (wv:Value),m=l.length - j∧j≤l.length∧ag (fun z=>H4.size≤z) H5 H'∧S8 H' (H4.size+1+1) H4.size tb (stC lN od j).2 tr∧aao tr G9 P []∧H4.size<tb∧
  (∀s w,(s,w)∈P↔s∈od.take j∧(stC lN od j).2[s]? =some w)∧tr.length≤1+j*128∧(j=0∨∃wb,WdS H' wv (stC lN od j).1 wb∧H5.size≤wb∧wb≠tb)∧
  env=[(1,ptr H.size),(6,ptr (H4.size+1+1)),(7,wv),(50,.slice (some ⟨H1.size,0,none⟩) l.length l.length),(51,i64 l.length),(52,i64 j)]) l.length
  ⟨0,H4.size+1,_,_,[],_,rfl,by omega,ag.refl _ _,by rw[←hlN]at m5;exact m5,aao.new,by omega,fun s w=>by simp,by simp,.inl rfl,rfl⟩ ?_
 rintro m env H6 ⟨j,tb,tr,G9,P,wv,rfl,hj,e6,m6,t6,UY,hP,Mc,hw6,rfl⟩
 have uc:=e6.size
 have e46:ag (fun z=>H4.size≤z) H4 H6:=(f5.mono fun _ _ h=>h.elim).trans e6
 have s6:=s4.ext e46 (fun b hb hz=>by injection hb with hb;omega)
 have h6:=h4.ext e46 (fun b hb hz=>by omega)
 have o6:=e46.own o4 (fun hz=>by omega)
 have f06:ai H H6:=f04.then e46 (fun z hz=>by omega)
 have ani:=aiv lN od j
 refine vs ?_
 refine am.dec (fun CL=>?_) (fun CL=>?_)<;>refine vs ?_
 rotate_left
 ·have gD:j=l.length:=by omega
  subst gD
  have tK:(stC lN od l.length).2=aai l:=by
   unfold stC aai
   rw[List.take_of_length_le (by omega),akw,hoe]
   rfl
  obtain⟨w1,w2,w3⟩:=aeR hRL (by rw[hlN];exact ZL) hpw
  have anj:(aaG lN od).2=aai l:=by unfold aai;rw[akw,hoe]
  rw[anj]at w1 w2 w3
  rw[tK]at m6 hP
  refine⟨f06,.inr ⟨hR,H4.size+1+1,fun z=>z=H4.size+1+1∨z=H4.size∨z=tb,rfl,⟨⟨H4.size,tb,tr,G9,m6,⟨P,t6,fun s w=>?_⟩,.inl rfl,.inr (.inl rfl),.inr (.inr rfl),by have:=hR.len;omega⟩,fun z hz=>?_,w3,by omega,fun w hw=>?_⟩,fun z hz=>by omega⟩⟩
  ·rw[hP,List.take_of_length_le (by omega)]
   constructor
   ·exact fun h=>h.2
   ·intro h
    refine⟨ZL.mem_iff.2 (aoy.2 ?_),h⟩
    have:=(anu.1 h).1
    omega
  ·have:=m6.lt
   omega
  ·obtain⟨s,hs⟩:=an6 hw
   rw[w2 s w hs,anx]
   cases hg:lN[s]? with
   |none=>exact ao2 _
   |some v=>
    have:=(bL v (anz hg)).2
    show v≤1000
    omega
 obtain⟨s,hs⟩:∃s,od[j]? =some s:=⟨_,ans (by omega)⟩
 have hsr:=aoy.1 (ZL.mem_iff.1 (anz hs))
 have hsc:(od.map fun(x:Nat)=>(x:Int))[j]? =some (s:Int):=by rw[anR,hs];rfl
 obtain⟨_,hsa,lb6,ank,ai9⟩:=Sl.num s6 hsc
 obtain⟨ns,WI⟩:∃ns,lN[s]? =some ns:=⟨_,ans (by omega)⟩
 have anl:lN.getD s 0=ns:=by rw[anx,WI];rfl
 have at5:=bL ns (anz WI)
 have hls:l[s]? =some (ns:Int):=by rw[←htc,anR,WI];rfl
 obtain⟨_,bl6,lo6,at7,e7,aiK,ag7⟩:=dc.num h6 hls
 injection e7 with e7
 injection e7 with e8 e9 _
 subst e8;subst e9
 refine⟨⟨by omega,by omega⟩,?_⟩
 refine v5 (ae ank) Int.toNat_natCast anw ant ai9 ?_
 have iY:=afR (od:=od) bL j
 have afS:=afM (lN:=lN) hs
 have hnw:aaB lN (stC lN od j) s=(Hr ns (w9 (stC lN od j).1),(stC lN od j).2.set s (Hr ns (w9 (stC lN od j).1))):=by unfold aaB;rw[anl]
 rw[hnw]at afS
 have aub:(Hr ns (w9 (stC lN od j).1)).length≤128:=by have:=afR (od:=od) bL (j+1);rw[afS]at this;exact this
 refine am.aj9 (fun e h=>∃wv' wb',e.find 1=some (ptr H.size)∧e.find 6=some (ptr (H4.size+1+1))∧e.find 7=some wv'∧e.find 9=some (i64 s)∧e.find 50=some (.slice (some ⟨H1.size,0,none⟩) l.length l.length)∧e.find 51=some (i64 l.length)∧e.find 52=some (i64 j)∧
  WdS h wv' (Hr ns (w9 (stC lN od j).1)) wb'∧H5.size≤wb'∧wb'≠tb∧ag (fun z=>H5.size≤z∧z≠tb) H6 h) (fun g=>?_) (fun g=>?_) ?_<;>refine vs ?_
 ·have hj0:j=0:=by omega
  subst hj0
  refine v1 (ae o6) ?_
  refine⟨⟨by omega,by omega⟩,?_⟩
  refine v4 aiK Int.toNat_natCast anw ag7 ?_
  refine(adF H6 [48] ns (by simp) (by omega)).mono ?_
  rintro _ H7 ⟨rfl,f7⟩
  refine vs ?_
  have Wj:(List.replicate ns (48:UInt8))=(List.replicate ns false).map bt:=by rw[apC];rfl
  rw[ad4,Wj]
  intro cc Ht
  rw[E2,anQ,aog]at Ht ⊢
  rw[acJ]
  have hpz:Hr ns (w9 (stC lN od 0).1)=List.replicate ns false:=by
   show Hr ns (w9 [])=_
   rw[afs]
   unfold Hr
   simp
  rw[hpz]
  have e8:ai H7 (H7.Mt 5 ((List.replicate ns false).map fw++List.replicate (cc - ns) (.int .u8 0))):=(ag.refl _ _).Mt _ _
  have hmk:(H7.Mt 5 ((List.replicate ns false).map fw++List.replicate (cc - ns) (.int .u8 0))).BD H7.size=some _:=ac7 _ _ _
  refine vs ?_
  have vd:=f7.size
  have:=m6.lt
  refine⟨_,H7.size,(by trivial),(by trivial),rfl,(by trivial),(by trivial),(by trivial),(by trivial),⟨_,cc,by rw[aog],NL hmk,by simpa using Ht,by simp;omega,by rw[aog];exact List.take_left' (by simp)⟩,by omega,by omega,(f7.trans e8).mono fun _ _ h=>h.elim⟩
 ·have hj0:j≠0:=by omega
  obtain⟨wd,hwd,aue,auf⟩:=hw6.resolve_left hj0
  refine v1 (ae o6) ?_
  refine⟨⟨by omega,by omega⟩,?_⟩
  refine v4 aiK Int.toNat_natCast anw ag7 ?_
  refine(adt hwd ns (by omega) (by omega)).mono ?_
  rintro v7 H7 ⟨wd',hw7,e7,hb7⟩
  refine vs ?_
  have:=m6.lt
  exact⟨_,wd',(by trivial),(by trivial),rfl,(by trivial),(by trivial),(by trivial),(by trivial),hw7,by omega,by omega,e7.mono fun z _ hz=>by omega⟩
 rintro e H7 ⟨wv',wb',q1,q2,q3,q4,q5,q6,q7,re,ann,aui,e7⟩
 have m7:=m6.ext e7 (fun hz=>by omega) (fun hz=>by omega) (fun hz=>by omega)
 obtain⟨tv7,x7,_⟩:=m7.TE
 obtain⟨a7,fz,rfl⟩:=afb re.rd
 refine v8 q1 q2 q3 q4 q5 q6 q7 (ae x7) ?_
 refine dc.rowOf re.rd ?_
 rw[afp]
 refine vs ?_
 rw[ani]
 refine⟨⟨by omega,by omega⟩,?_⟩
 refine v4 m7.words Int.toNat_natCast anw ant ?_
 refine⟨by rw[anQ];omega,?_⟩
 have m8:=m7.ang s (Hr ns (w9 (stC lN od j).1))
 have vd:=e7.size
 have e8:ag (fun z=>H4.size≤z) H7 (H7.wr H4.size (((stC lN od j).2.map aav).set s (aav (Hr ns (w9 (stC lN od j).1))))):=(ag.refl (fun z=>H4.size≤z) _).wr (fun _=>anG _) _
 have z8:=e8.size
 generalize auj:Hr ns (w9 (stC lN od j).1)=pA at*
 refine v7 q1 q2 q3 q4 q5 q6 q7 ?_
 have w8:=re.ext ((ag.refl (fun z=>z=H4.size) H7).wr (fun _=>rfl) (((stC lN od j).2.map aav).set s (aav pA))) (fun hz=>by omega)
 generalize H7.wr H4.size (((stC lN od j).2.map aav).set s (aav pA))=H8 at*
 have Ln:((stC lN od j).2.set s pA)[s]? =some pA:=anB (by omega)
 refine(adI m8 t6 Ln (by omega) (by omega) (by rw[anv];omega)).mono ?_
 rintro v9 H9 ⟨tr9,ano,tb9,m9,t9,hl9,e9,hb9⟩
 refine vs ?_
 rw[wrap64 (n:=(j:Int)+1) (by omega) (by omega)]
 have z9:=e9.size
 have aum:=m8.lt
 have ara:=w8.lt
 have hsn:s∉od.take j:=fun hm=>by
  obtain⟨i,hi⟩:=an6 hm
  rw[an9]at hi
  split at hi
  ·have:=ac1 gk hi hs
   omega
  ·cases hi
 refine⟨l.length - (j+1),by omega,j+1,tb9,tr9,ano,(s,pA)::P,_,rfl,by omega,?_,by rw[afS];exact m9,t9,by omega,fun s' w'=>?_,by omega,.inr ⟨wb',by rw[afS];exact w8.ext e9 (fun hz=>by omega),ann,by omega⟩,rfl⟩
 ·exact((e6.trans (e7.mono fun z _ hz=>by omega)).trans e8).trans (e9.mono fun z _ hz=>by omega)
 ·rw[anF,hP,aoa,hs,afS]
  simp only[Prod.mk.injEq,Option.toList_some,anH,anC]
  constructor
  ·rintro(⟨rfl,rfl⟩| ⟨h1,h2⟩)
   ·exact⟨.inr rfl,Ln⟩
   ·have aP:s≠s':=fun e=>hsn (e▸h1)
    exact⟨.inl h1,by rw[anA aP];exact h2⟩
  ·rintro⟨h1,h2⟩
   by_cases e:s'=s
   ·subst e
    rw[Ln]at h2
    injection h2 with h2
    exact .inl ⟨rfl,h2.symm⟩
   ·rw[anA (Ne.symm e)]at h2
    exact .inr ⟨h1.resolve_right e,h2⟩
theorem agH{H:Hp}{v:Value}(h:Cm H (false,[.k .s]) v):∃l:List UInt8,v=abl l∧l.length≤maxLen:=by
 obtain⟨v',r,e,⟨s,rfl,hs⟩,h2⟩:=h
 simp[lz]at h2
 subst h2
 injection e with e _
 exact⟨s.data.toList,by rw[e],hs⟩
theorem aeW{l:List Int}(h:aa2 l):(aai l).length=l.length∧(∀s w,(aai l)[s]? =some w→w.length=(l.map Int.toNat).getD s 0)∧aaN (aai l):=by
 have ZL:(af5 (l.map Int.toNat)).Perm (List.range (l.map Int.toNat).length):=by
  refine(List.perm_ext_iff_of_nodup ?_ List.nodup_range).2 fun a=>?_
  ·rw[List.nodup_iff_pairwise_ne]
   refine List.Pairwise.imp (fun{a b} (zI:aax _ a b) (e:a=b)=>?_) (aap (l.map Int.toNat) 128)
   subst e
   exact adV _ _ zI
  ·unfold af5
   rw[ac3,aoy]
   exact⟨fun ha=>ha.1,fun ha=>⟨ha,(aaF h).low _ (aay ha)⟩⟩
 obtain⟨h1,h2,h3⟩:=aeR (aaF h) ZL (aap _ 128)
 rw[anQ]at h1
 exact⟨h1,h2,h3⟩
theorem afq{l:List Int}(h:aa2 l):∀w∈aai l,w.length≤128:=fun w hw=>by
 obtain⟨s,hs⟩:=an6 hw
 obtain⟨h1,h2,_⟩:=aeW h
 rw[h2 s w hs]
 have aO:=(anu.1 hs).1
 exact((aaF h).low _ (aay (by rw[anQ];omega))).2
theorem afT:aa2 [2,1,2]:=⟨by intro x hx;simp at hx;omega,by decide,by decide⟩
theorem afU:aai [2,1,2]=[[true,false],[false],[true,true]]:=by decide
theorem agI:adW [true,false,true]=[5,160]:=by decide
theorem aa4(H:Hp):af Tryz.prog ac9 [] H fun v H'=>aw (v= .bool true∧ai H H'):=by
 refine bm adf ?_
 refine vs ?_
 have f0:ai H (H.new 3 [i64 2,i64 1,i64 2]):=(ag.refl _ _).new _ _
 have r0:dc (H.new 3 [i64 2,i64 1,i64 2]) 1 (.slice (some ⟨H.size,0,none⟩) 3 3) 3 (([2,1,2]:List Int).map i64):=(Sl.cf (size:=1) (n:=3) (xs:=([2,1,2]:List Int).map i64) rfl rfl).rd
 generalize H.new 3 [i64 2,i64 1,i64 2]=H0 at*
 refine(abH (l:=[2,1,2]) r0 (by decide)).mono ?_
 rintro _ H1 ⟨f1,⟨hn,_⟩| ⟨_,x,S,rfl,hG,hS⟩⟩
 ·exact absurd afT hn
 rw[afU]at hG
 have f01:=f0.trans f1
 refine vs ?_
 refine(aen (H:=H1) (bits:=[49,48,49]) (by decide)).mono ?_
 rintro _ H2 ⟨f2,⟨hb,_⟩| ⟨w,a,c,hw,hwl,rfl,r2⟩⟩
 ·exact absurd ⟨by decide,by decide⟩ hb
 have Er:w=[true,false,true]:=abb hw.symm
 subst Er
 rw[agI]at r2
 have cw2:=hG.fresh f2
 refine v1 aoi ?_
 refine(S9 cw2 0).mono ?_
 rintro _ H' ⟨rfl,e⟩
 obtain rfl:=e.symm
 refine v1 aoi ?_
 repeat(refine am.cF (by first|decide|exact(aaU _ _).trans (by decide)) ?_;refine v1 aoi ?_)
 refine(S9 cw2 1).mono ?_
 rintro _ H' ⟨rfl,e⟩
 obtain rfl:=e.symm
 refine v1 aoi ?_
 repeat(refine am.cF (by first|decide|exact(aaU _ _).trans (by decide)) ?_;refine v1 aoi ?_)
 refine(S9 cw2 2).mono ?_
 rintro _ H' ⟨rfl,e⟩
 obtain rfl:=e.symm
 refine v1 aoi ?_
 repeat(refine am.cF (by first|decide|exact(aaU _ _).trans (by decide)) ?_;refine v1 aoi ?_)
 refine dc.rowOf r2 ?_
 rw[aaW]
 refine vs ?_
 have f3:ai H2 (H2.new 5 [.int .u8 5,.int .u8 160]):=(ag.refl _ _).new _ _
 have r3:dc (H2.new 5 [.int .u8 5,.int .u8 160]) 1 (.slice (some ⟨H2.size,0,none⟩) 2 2) 2 (u8s [5,160]):=(Sl.cf (size:=1) (n:=2) (xs:=u8s [5,160]) rfl rfl).rd
 refine dc.rowOf r3 ?_
 rw[aaW]
 refine vs ?_
 exact⟨anP Value.bool ((aaU _ _).trans (by decide)),(f01.trans f2).trans f3⟩
def akA(ws ls:List Int):Prop:=ws.length=ls.length∧ws.length≤4096∧∀i,i<ws.length→1≤ws.getD i 0∧0≤ls.getD i 0∧ls.getD i 0≤4096
instance(ws ls:List Int):Decidable (akA ws ls):=by unfold akA;exact inferInstance
def aiL(ws ls:List Int):Int:=xT ws.length fun i=>ws.getD i 0*ls.getD i 0
theorem aiw{ws:List Int}(h:G0 ws):∀x∈L9 ws,1≤x∧x≤4096:=by
 have h1:=h.n1
 have h2:=h.n2
 intro x hx
 unfold L9 at hx
 split at hx
 ·have:x=1:=by simpa using hx
  omega
 ·obtain⟨n,hn,rfl⟩:=anS.1 hx
  have:=ae0 h1 n hn
  have:=afv (by omega) n hn
  omega
def aid(ws ls:List Int):Prop:=G0 ws∧ws.length=ls.length∧(∀x∈ls,1≤x∧x≤4096)∧krS 4096 (krN ls)≤0∧aiL ws ls=aiL ws (L9 ws)
instance(ws ls:List Int):Decidable (aid ws ls):=by unfold aid;exact inferInstance
theorem aix{ws:List Int}(h1:2≤ws.length):krN (L9 ws)=adX ws:=by
 unfold L9
 rw[if_neg (by omega)]
 unfold krN
 rw[List.map_map]
 conv=>rhs;rw[←List.map_id (adX ws)]
 refine apn fun n hn=>?_
 have:=afv h1 n hn
 show(aah (n:Int)).toNat=n
 unfold aah
 omega
theorem ag8{ws:List Int}(hF:G0 ws){M:Nat}(hM:∀n∈krN (L9 ws),n≤M):krS M (krN (L9 ws))≤0∧(2≤ws.length→krS M (krN (L9 ws))=0):=by
 have h1:=hF.n1
 by_cases h2:2≤ws.length
 ·have:krS M (krN (L9 ws))=0:=by
   rw[aix h2]at hM ⊢
   rw[agL (M':=ws.length) hM (fun n hn=>by have:=ae0 h1 n hn;omega)]
   unfold krS
   rw[ahl h1,if_neg (by omega),if_pos rfl]
  exact⟨by omega,fun _=>this⟩
 ·refine⟨?_,fun h=>absurd h h2⟩
  have e:krN (L9 ws)=[1]:=by unfold L9;rw[if_pos (by omega)];rfl
  rw[e]at hM ⊢
  rw[agL (M':=1) hM (by simp)]
  decide
theorem adl{ws:List Int}(h:G0 ws)(hl:ws.length≤128):∀x∈L9 ws,1≤x∧x≤128:=by
 have h1:=h.n1
 intro x hx
 refine⟨(aiw h x hx).1,?_⟩
 unfold L9 at hx
 split at hx
 ·have:x=1:=by simpa using hx
  omega
 ·obtain⟨n,hn,rfl⟩:=anS.1 hx
  have:=ae0 h1 n hn
  omega
theorem ady{ws:List Int}(h:G0 ws)(hl:ws.length≤128):aa2 (L9 ws):=
 ⟨adl h hl,by rw[ad3];exact⟨h.n1,h.n2⟩,(ag8 h (afi (adl h hl))).1⟩
theorem aiy{l:List Int}(h:∀x∈l,1≤x∧x≤128):krN l=l.map Int.toNat:=by
 unfold krN
 apply apn
 intro x hx
 have:=h x hx
 unfold aah
 omega
theorem aie{ws:List Int}(h:G0 ws)(hl:ws.length≤128)(h2:2≤ws.length):lB 128 ((L9 ws).map Int.toNat)=2^128:=by
 have hk:=(ag8 h (afi (adl h hl))).2 h2
 rw[aiy (adl h hl)]at hk
 unfold krS at hk
 split at hk
 ·cases hk
 ·split at hk
  ·assumption
  ·cases hk
theorem afV{ws:List Int}(h:G0 ws)(hl:ws.length≤128)(h2:2≤ws.length)(b:List Bool)(hb:b.length=128):∃ (s:Nat) (w:List Bool),(aai (L9 ws))[s]? =some w∧w<+:b:=by
 have hR:=ady h hl
 have hL:=aaF hR
 have ZL:(af5 ((L9 ws).map Int.toNat)).Perm (List.range ((L9 ws).map Int.toNat).length):=by
  refine(List.perm_ext_iff_of_nodup ?_ List.nodup_range).2 fun a=>?_
  ·rw[List.nodup_iff_pairwise_ne]
   refine List.Pairwise.imp (fun{a b} (zI:aax _ a b) (e:a=b)=>?_) (aap ((L9 ws).map Int.toNat) 128)
   subst e
   exact adV _ _ zI
  ·unfold af5
   rw[ac3,aoy]
   exact⟨fun ha=>ha.1,fun ha=>⟨ha,hL.low _ (aay ha)⟩⟩
 exact agh hL (aie h hl h2) ZL (aap _ 128) hb
theorem aif{ws:List (List Bool)}:∀ (out:List Nat) (fe:List Bool),InW ws out→fe.length+(bitsOf ws out).length≤1048576→afH ws (ad2 out) fe=some (fe++bitsOf ws out):=by
 intro out
 induction out with
 |nil=>intro fe _ _;show some fe=_;simp[bitsOf]
 |cons s r ih=>
  intro fe bJ hl
  have hs:s<ws.length:=bJ s (by simp)
  rw[A4]at hl ⊢
  rw[anD]at hl
  show afH ws ((s:Int)::ad2 r) fe=_
  rw[aeV,if_neg (by rw[Int.toNat_natCast];omega),Int.toNat_natCast,ih _ (fun t ht=>bJ t (anZ _ ht)) (by rw[anD];omega),apq]
theorem aeB{H:Hp}{kd dd:Int}(hK:jk kd dd)(Db:jk kd dd→R4 kd dd){a:Option Addr}{c:Nat}{ws:List Int}(h:dc H 1 (.slice a ws.length c) ws.length (ws.map i64))(hb:∀x∈ws,x≤9223372036854775807)(hF:G0 ws)(hl:ws.length≤128):
  af Tryz.prog afz [Nf kd dd,.slice a ws.length c] H fun v H'=>aw (ai H H'∧∃x S,v= .tuple [ptr x,i64 0].toArray∧aaX H' x S (aai (L9 ws))∧∀z,S z→H.size≤z):=by
 refine bm afB ?_
 refine vs ?_
 have f0:ai H (H.new 23 [i64 kd,i64 dd]):=(ag.refl _ _).new _ _
 have o0:(H.new 23 [i64 kd,i64 dd]).own H.size=some [i64 kd,i64 dd]:=aB _ _ _
 generalize H.new 23 [i64 kd,i64 dd]=H0 at*
 have hA:aeK kd dd ws=(0,L9 ws):=by unfold aeK;rw[if_neg (by have:=PH hK;omega),if_pos hF]
 have oK:=ad3 ws
 refine v1 (ae o0) ?_
 refine(aa0 kd dd Db (h.fresh f0) hb).mono ?_
 rw[hA]
 rintro _ H1 ⟨sv,rfl,⟨a1,c1,rfl,r1⟩,f1⟩
 dsimp only at r1
 refine v1 aoi ?_
 refine(abH r1 (by rw[oK];omega)).mono ?_
 rintro v3 H3 ⟨f3,⟨hn,_⟩| ⟨_,x,S,rfl,hG,hS⟩⟩
 ·exact absurd (ady hF hl) hn
 have g3:=(f0.trans f1).trans f3
 have hz:=(f0.trans f1).size
 refine vs ?_
 exact⟨g3,x,S,rfl,hG,fun z dM=>by have:=hS z dM;omega⟩
theorem aiZ.anq{ws:List (List Bool)}{bits:List UInt8}{H:Hp}{v:Value}(h:aiZ ws bits H v):∃ (ks:List Int) (e:Int) (a:Option Addr) (c:Nat),v= .tuple [.slice a ks.length c,i64 e].toArray∧dc H 1 (.slice a ks.length c) ks.length (ks.map i64)∧
  ((e=0∧∃out:List Nat,ks=ad2 out∧InW ws out∧(bitsOf ws out).map bt=bits∧bits.length≤1048576)∨(e=201∧ks=[]∧∀out,InW ws out→(bitsOf ws out).map bt=bits→1048576<bits.length)):=by
 rcases h with ⟨out,h1,h2,h3,a,c,rfl,hr⟩| ⟨hn,rfl⟩
 ·refine⟨ad2 out,0,a,c,?_,?_,.inl ⟨rfl,out,rfl,h1,h2,h3⟩⟩
  ·rw[anQ]
  ·rw[anQ];exact hr
 ·exact⟨[],201,none,0,rfl,⟨rfl,.inl ⟨rfl,_,_,rfl⟩⟩,.inr ⟨rfl,rfl,hn⟩⟩
theorem aiz{ws:List (List Bool)}(aP:∀w∈ws,w≠[]):∀out:List Nat,InW ws out→out.length≤(bitsOf ws out).length:=by
 intro out
 induction out with
 |nil=>intro _;simp
 |cons s r ih=>
  intro h
  have h1:=ih fun t ht=>h t (anZ _ ht)
  have hs:=h s (by simp)
  have h2:0< (ws.getD s []).length:=List.length_pos_iff.2 (aP _ (anz (adT hs)))
  rw[A4,anD,anO]
  omega
theorem abc{Hh:Hp}{v0 v1 v2:Value}(h0:Cm Hh (true,[.k (.i .i64),.k (.i .i64)]) v0)(h1:Cm Hh (false,[.sl [.i .i64]]) v1)(h2:Cm Hh (false,[.k .s]) v2):
  af Tryz.prog adn [v0,v1,v2] Hh fun v H'=>aw (v= .bool true∧ai Hh H'):=by
 obtain⟨kd,dd,rfl⟩:=NE h0
 obtain⟨ws,a,c,rfl,hr,hm,hw⟩:=LS h1
 obtain⟨bits,rfl,EN⟩:=agH h2
 clear h0 h1 h2
 have hb:∀x∈ws,x≤9223372036854775807:=fun x hx=>(hw x hx).2
 refine bm adq ?_
 refine vs ?_
 have f0:ai Hh (Hh.new 23 [i64 kd,i64 dd]):=(ag.refl _ _).new _ _
 have o0:(Hh.new 23 [i64 kd,i64 dd]).own Hh.size=some [i64 kd,i64 dd]:=aB _ _ _
 generalize Hh.new 23 [i64 kd,i64 dd]=H0 at*
 refine(aa4 H0).mono ?_
 rintro _ H1 ⟨rfl,f1⟩
 have g1:=f0.trans f1
 have o1:=f1.own o0 (fun h=>h)
 refine vs ?_
 refine am.dec (fun c1=>?_) (fun c1=>?_)<;>refine vs ?_
 ·exact⟨rfl,g1⟩
 refine am.dec (fun c2=>?_) (fun c2=>?_)<;>refine vs ?_
 ·exact⟨rfl,g1⟩
 rw[List.size_toArray]
 refine am.dec (fun c3=>?_) (fun c3=>?_)<;>refine v1 (ae o1) ?_
 ·exact⟨rfl,g1⟩
 refine(FO kd dd H1).mono ?_
 rintro _ H2 ⟨rfl,f2⟩
 have g2:=g1.trans f2
 have o2:=f2.own o1 (fun h=>h)
 refine vs ?_
 refine am.dec (fun c4=>?_) (fun c4=>?_)<;>refine vs ?_
 rotate_left
 ·exact⟨rfl,g2⟩
 have hK:=Lu.1 c4
 refine(adv (hr.fresh g2) hb (by omega)).mono ?_
 rintro _ H2' ⟨rfl,e⟩
 obtain rfl:=e.symm
 refine vs ?_
 by_cases hF:G0 ws
 rotate_left
 ·rw[anV hF]
  refine v1 aoi ?_
  exact⟨rfl,g2⟩
 rw[anI hF]
 refine v1 aoi ?_
 refine(adJ H2 bits (by omega)).mono ?_
 rintro _ H2' ⟨rfl,e⟩
 obtain rfl:=e
 cases db:bits.all LL
 ·refine v2 apr ao8 ?_
  exact⟨rfl,g2⟩
 rw[anI (show bits.length≤1048576 by omega)]
 refine v4 aoO Bool.and_true api (ae o2) ?_
 obtain⟨bs,rfl⟩:=afd db
 rw[anQ]at c3
 refine(aeB hK (fun h=>LP h) (hr.fresh g2) hb hF (by omega)).mono ?_
 rintro _ H3 ⟨f3,x,S,rfl,hG,hS⟩
 have g3:=g2.trans f3
 simp(disch:=(first|omega| (simp only[Zs]<;>omega)|fail)) only[go_sem, ↓reduceIte,Zv,Option.isNone_some,aoi]
 have hR:=ady hF (by omega)
 obtain⟨hwl,hwo,BA⟩:=aeW hR
 have EW:=afq hR
 obtain⟨k0,ss,Uj,hss,akB⟩:=ahj BA.ne EW (fun b hb=>afV hF (by omega) (by omega) b hb) bs.length bs (anG _)
 generalize aai (L9 ws)=W at*
 refine bk.intro (fun mm env H'=>∃i:Nat,mm=130 - i∧i≤k0∧ai H3 H'∧env=[(2,abl ((bs++List.replicate i false).map bt)),(7,ptr x),(55,i64 i)]) 130 ⟨0,by omega,by omega,ag.refl _ _,?_⟩ ?_
 ·simp
 rintro mm env H4 ⟨i,rfl,hi,f4,rfl⟩
 have g4:=g3.trans f4
 have cw4:=hG.fresh f4
 refine vs ?_
 refine am.dec (fun aO=>?_) (fun aO=>by omega)<;>refine vs ?_
 have U5:((bs++List.replicate i false).map bt).length≤2000:=by simp;omega
 refine(adu cw4 (bits:=(bs++List.replicate i false).map bt) (by omega)).mono ?_
 rintro v5 H5 ⟨f5,hD⟩
 obtain⟨ks,er,ii,ix,rfl,hks,aiM⟩:=hD.anq
 have g5:=g4.trans f5
 refine vs ?_
 refine am.dec (fun he=>?_) (fun he=>?_)<;>refine vs ?_
 ·rcases aiM with ⟨_,out,rfl,bJ,akC,_⟩| ⟨h1,_⟩
  ·have ZN:=aiz BA.ne out bJ
   have hbo:(bitsOf W out).length=(bs++List.replicate i false).length:=by have:=anP List.length akC;simpa using this
   have aP:bitsOf W out=bs++List.replicate i false:=by
    exact abb akC
   have aur:(bs++List.replicate i false).length≤2000:=by rw[anQ]at U5;exact U5
   refine(adx (cw4.fresh f5) hks (by simp[ad2];omega)).mono ?_
   rintro _ H6 ⟨rfl,f6⟩
   rw[aif out [] bJ (by simp only[aoH];omega),aoB,aP]
   have g6:=g5.trans f6
   simp(disch:=(first|omega| (simp only[Zs]<;>omega)|fail)) only[go_sem, ↓reduceIte,Zv,ake,aoi]
   rw[beq_self_eq_true]
   exact⟨rfl,g6⟩
  ·omega
 ·rcases aiM with ⟨h1,_⟩| ⟨_,_,bK⟩
  ·exact absurd h1 he
  have hik:i<k0:=by
   apply anW
   intro hc
   have:i=k0:=by omega
   subst this
   have:=bK ss hss (by rw[akB])
   omega
  rw[agN ((bs++List.replicate i false).map bt) [48] (by simp;omega)]
  refine vs ?_
  rw[wrap64 (n:=(i:Int)+1) (by omega) (by omega)]
  refine⟨130 - (i+1),by omega,i+1,rfl,by omega,f4.trans f5,?_⟩
  have e1:(bs++List.replicate i false).map bt++[48]=(bs++List.replicate (i+1) false).map bt:=by
   simp[apx,bt]
  rw[e1]
  rfl
end Go.Proofs.YtjlnnljohemifaaGreat
