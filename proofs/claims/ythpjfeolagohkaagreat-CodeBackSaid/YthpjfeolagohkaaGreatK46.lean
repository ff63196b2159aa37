/- Texts put behind each other. -/
import Derived.Test.YthpjfeolagohkaaGreatK98
import Derived.Test.YthpjfeolagohkaaGreatK0
import Derived.Test.YthpjfeolagohkaaGreatK22
import Derived.Test.YthpjfeolagohkaaGreatK23
import Derived.Test.YthpjfeolagohkaaGreatK45
import Derived.Shelf.SlSortCmp.Whole1
import Derived.Deep.RegionWith
set_option maxRecDepth 100000
set_option maxHeartbeats 8000000
set_option linter.unusedVariables false
set_option linter.unusedSimpArgs false
namespace Go.Proofs.YthpjfeolagohkaaGreat
open Go Go.Vc Go.Sort Go.RowKit
theorem Vw(g:Nat)(x:Int)(hx:¬x=0)(w:World)(h0:w.cell? ⟨g,0,none⟩=some (.int .i64 x)):
  Calls Tryz.prog 69 #[.slice (some ⟨g,0,none⟩) 2 2] w fun e w'=>e= .returned (.int .i64 x)∧w'=w:=by
 have mixed:=Tryz.checked.mixed
 have t3:=Tryz.underlying3;have a3:=Tryz.isAgg3;have z3:=Tryz.sizeOf3;have v3:=Tryz.zeroValue3;have u3:=run_underlying Tryz.underlying3
 have t4:=Tryz.underlying4;have a4:=Tryz.isAgg4;have z4:=Tryz.sizeOf4;have v4:=Tryz.zeroValue4;have u4:=run_underlying Tryz.underlying4
 have t25:=Tryz.underlying30;have a25:=Tryz.isAgg30;have z25:=Tryz.sizeOf30;have v25:=Tryz.zeroValue30;have u25:=run_underlying Tryz.underlying30
 go_enter Tryz.func69,Tryz.ntmps69
 go_wp2
 refine wp_loop_rounds 1 ?_
 rw[rounds_succ]
 go_wp2
 go_ret
 exact⟨rfl,rfl⟩
theorem Vx(g:Nat)(y:Int)(w:World)(h0:w.cell? ⟨g,0,none⟩=some (.int .i64 0))(h1:w.cell? ⟨g,1,none⟩=some (.int .i64 y))(hy:¬y=0):
  Calls Tryz.prog 69 #[.slice (some ⟨g,0,none⟩) 2 2] w fun e w'=>e= .returned (.int .i64 y)∧w'=w:=by
 have mixed:=Tryz.checked.mixed
 have t3:=Tryz.underlying3;have a3:=Tryz.isAgg3;have z3:=Tryz.sizeOf3;have v3:=Tryz.zeroValue3;have u3:=run_underlying Tryz.underlying3
 have t4:=Tryz.underlying4;have a4:=Tryz.isAgg4;have z4:=Tryz.sizeOf4;have v4:=Tryz.zeroValue4;have u4:=run_underlying Tryz.underlying4
 have t25:=Tryz.underlying30;have a25:=Tryz.isAgg30;have z25:=Tryz.sizeOf30;have v25:=Tryz.zeroValue30;have u25:=run_underlying Tryz.underlying30
 go_enter Tryz.func69,Tryz.ntmps69
 go_wp2
 refine wp_loop_rounds 2 ?_
 rw[rounds_succ]
 go_wp2
 rw[rounds_succ]
 go_wp2
 go_ret
 exact⟨rfl,rfl⟩
theorem TC(g:Nat)(w:World)(h0:w.cell? ⟨g,0,none⟩=some (.int .i64 0))(h1:w.cell? ⟨g,1,none⟩=some (.int .i64 0)):
  Calls Tryz.prog 69 #[.slice (some ⟨g,0,none⟩) 2 2] w fun e w'=>e= .returned (.int .i64 0)∧w'=w:=by
 have mixed:=Tryz.checked.mixed
 have t3:=Tryz.underlying3;have a3:=Tryz.isAgg3;have z3:=Tryz.sizeOf3;have v3:=Tryz.zeroValue3;have u3:=run_underlying Tryz.underlying3
 have t4:=Tryz.underlying4;have a4:=Tryz.isAgg4;have z4:=Tryz.sizeOf4;have v4:=Tryz.zeroValue4;have u4:=run_underlying Tryz.underlying4
 have t25:=Tryz.underlying30;have a25:=Tryz.isAgg30;have z25:=Tryz.sizeOf30;have v25:=Tryz.zeroValue30;have u25:=run_underlying Tryz.underlying30
 go_enter Tryz.func69,Tryz.ntmps69
 go_wp2
 refine wp_loop_rounds 3 ?_
 rw[rounds_succ]
 go_wp2
 rw[rounds_succ]
 go_wp2
 rw[rounds_succ]
 go_wp2
 go_ret
 exact⟨rfl,rfl⟩
theorem QW(w:World)(a b:Value)(T:TypeId):((w.alloc (Obj.cells #[a,b] T)).drew).cell? ⟨w.heap.size,0,none⟩=some a:=by
 show World.cell? (w.alloc (Obj.cells #[a,b] T)) ⟨w.heap.size,0,none⟩=some a
 unfold World.cell?
 have:(w.alloc (Obj.cells #[a,b] T)).heap[w.heap.size]? =some (Obj.cells #[a,b] T):=by
  show(w.heap.push _)[w.heap.size]? =_
  simp
 rw[this]
 rfl
theorem QX(w:World)(a b:Value)(T:TypeId):((w.alloc (Obj.cells #[a,b] T)).drew).cell? ⟨w.heap.size,1,none⟩=some b:=by
 show World.cell? (w.alloc (Obj.cells #[a,b] T)) ⟨w.heap.size,1,none⟩=some b
 unfold World.cell?
 have:(w.alloc (Obj.cells #[a,b] T)).heap[w.heap.size]? =some (Obj.cells #[a,b] T):=by
  show(w.heap.push _)[w.heap.size]? =_
  simp
 rw[this]
 rfl
def TD(x y:Int):Int:=if x=0 then y else x
theorem YZ(g:Nat)(x y:Int)(w:World)(h0:w.cell? ⟨g,0,none⟩=some (.int .i64 x))(h1:w.cell? ⟨g,1,none⟩=some (.int .i64 y)):
  Calls Tryz.prog 69 #[.slice (some ⟨g,0,none⟩) 2 2] w fun e w'=>e= .returned (.int .i64 (TD x y))∧w'=w:=by
 unfold TD
 by_cases hx:x=0
 ·subst hx
  rw[if_pos rfl]
  by_cases hy:y=0
  ·subst hy
   exact TC g w h0 h1
  ·exact Vx g y w h0 h1 hy
 ·rw[if_neg hx]
  exact Vw g x hx w h0
theorem TE(p bl o n c i k:Nat)(x y:Int)(w:World)(hp:w.cell? ⟨p,0,none⟩=some (.slice (some ⟨bl,o,none⟩) n c))(hi:i<n)(hk:k<n)(hx:w.cell? ⟨bl,o+i,none⟩=some (.int .i64 x))(hy:w.cell? ⟨bl,o+k,none⟩=some (.int .i64 y))
  (bx:0≤x∧x≤1000)(by_:0≤y∧y≤1000)(hn:n≤1000000):
  Calls Tryz.prog 68 #[.int .i64 (i:Int),.int .i64 (k:Int),.pointer (some ⟨p,0,none⟩)] w fun e w'=>e= .returned (.int .i64 (TD (x - y) ((i:Int) - (k:Int))))∧∃q os',w'=grow (w.drewN q) os':=by
 have mixed:=Tryz.checked.mixed
 have t3:=Tryz.underlying3;have a3:=Tryz.isAgg3;have z3:=Tryz.sizeOf3;have v3:=Tryz.zeroValue3;have u3:=run_underlying Tryz.underlying3
 have t4:=Tryz.underlying4;have a4:=Tryz.isAgg4;have z4:=Tryz.sizeOf4;have v4:=Tryz.zeroValue4;have u4:=run_underlying Tryz.underlying4
 have t25:=Tryz.underlying30;have a25:=Tryz.isAgg30;have z25:=Tryz.sizeOf30;have v25:=Tryz.zeroValue30;have u25:=run_underlying Tryz.underlying30
 go_enter Tryz.func68,Tryz.ntmps68
 go_wp2
 have wx:IntKind.i64.wrap (x - y)=x - y:=wrap64 (by omega) (by omega)
 have wk:IntKind.i64.wrap ((i:Int) - (k:Int))=(i:Int) - (k:Int):=wrap64 (by omega) (by omega)
 go_region_with (go_at_call 69;refine(YZ _ (x - y) ((i:Int) - (k:Int)) _ (QW _ _ _ _) (QX _ _ _ _)).mono ?_;rintro e w' ⟨rfl,rfl⟩)
 all_goals go_wp2
 all_goals go_ret
 all_goals exact⟨rfl,1, #[_],by rw[alloc_eq_grow];rfl⟩
theorem Kl{α:Type}[Inhabited α](enc:α→Value)(d:List α)(l:List Value)(h:d.length≤l.length):(putCells enc 0 d.toArray l.toArray).toList=d.map enc++l.drop d.length:=by
 apply ao7
 intro k
 rw[aqt]
 simp only[putCells,Array.getElem?_mapIdx,ap0,apP]
 by_cases h2:k<d.length
 ·rw[aoF (by simp;omega),aoG,aop (by omega),aop (by omega)]
  simp only[Option.map_some]
  rw[if_pos ⟨by omega,by omega⟩]
  congr 2
  simp[h2]
 ·rw[aoP (by simp;omega),aoX]
  simp only[aoA]
  rw[show d.length+(k - d.length)=k by omega]
  cases hk:l[k]? with
  |none=>rfl
  |some x=>simp;omega
def xk(n:Nat)(i:Fin n):Value:=.int .i64 ((i.val:Nat):Int)
def cfF(l:List Nat)(n:Nat)(i k:Fin n):Int:=TD (((l.getD i.val 0:Nat):Int) - ((l.getD k.val 0:Nat):Int)) ((i.val:Int) - (k.val:Int))
theorem E8(l:List Nat)(n:Nat)(i k:Fin n):ltOf (cfF l n) i k=true↔sD l i.val k.val:=by
 unfold ltOf cfF TD sD
 rw[ao0]
 split<;>omega
theorem ahu(l:List Nat)(n:Nat):SWO (ltOf (cfF l n)):=by
 refine⟨fun x=>?_,fun x y z h1 h2=>?_,fun x y z h1 h2=>?_⟩
 ·rw[←aqx,E8]
  unfold sD;omega
 ·rw[E8]at*
  unfold sD at*;omega
 ·rw[←aqx,E8]at*
  unfold sD at*;omega
theorem sA{α:Type}[Inhabited α](enc:α→Value)(w:World)(b m:Nat)(dk:Array α)(os:Array Obj){z:Nat}(hz:z<w.heap.size)(aQ:z≠b):(sortWorld enc w b 0 m dk os).heap[z]? =w.heap[z]? :=by
 show((w.heap.modify b (onCells (putCells enc 0 dk)))++os)[z]? =_
 rw[apA (by simpa using hz),apj,if_neg (fun e=>aQ e.symm)]
theorem GM{w w':World}{b o:Nat}(h:w'.heap[b]? =w.heap[b]?):w'.cell? ⟨b,o,none⟩=w.cell? ⟨b,o,none⟩:=by
 unfold World.cell?
 rw[h]
theorem Is{H:Hp}{p b bl o lc c:Nat}{l:List Nat}(hn:0<l.length)(CG:l.length≤1000000)(hb:∀x∈l,x≤1000)(hp:H.own p=some [.slice (some ⟨bl,o,none⟩) l.length lc])(hl:cK H 1 (.slice (some ⟨bl,o,none⟩) l.length lc) l.length ((l.map fun(x:Nat)=>(x:Int)).map i64))(h1:bl≠b)(h2:p≠b)
  (s:Sl H 1 (.slice (some ⟨b,0,none⟩) l.length c) l.length (((List.range l.length).map fun(x:Nat)=>(x:Int)).map i64) (some b)):
  af Tryz.prog nF [.slice (some ⟨b,0,none⟩) l.length c,.func (.func qH) #[] #[ptr p]] H fun v H'=>ar (v= .tuple [].toArray∧∃od:List Nat,od.Perm (List.range l.length)∧od.Pairwise (sD l)∧Sl H' 1 (.slice (some ⟨b,0,none⟩) l.length c) l.length ((od.map fun(x:Nat)=>(x:Int)).map i64) (some b)∧ag (fun z=>z=b) H H'):=fun w hw=>by
 haveI:Inhabited (Fin l.length):=⟨⟨0,hn⟩⟩
 obtain⟨hx,lb,c',IL,ho,hc,rS,ht⟩:=s
 injection IL with _ _ CE
 subst CE
 rw[aos]at ht rS
 obtain⟨T,fr,XN⟩:=IR ho
 have hd:∀j (hj:j<l.length),(Array.ofFn (n:=l.length) (fun i=>i))[j]! =⟨j,hj⟩:=fun j hj=>by simp[hj]
 have HG:(Array.ofFn (n:=l.length) (fun i=>i)).size=l.length:=by simp
 have hH:Holds (xk l.length) w b 0 (Array.ofFn (n:=l.length) (fun i=>i)):=fun j hj=>by
  rw[HG]at hj
  refine⟨?_,oM (by rw[hw];exact ho) _⟩
  rw[fK (l:=lb) rfl (ae (by rw[hw];exact ho))]
  simp only[aor]
  have:(((List.range l.length).map fun(x:Nat)=>(x:Int)).map i64)[j]? =some (i64 (j:Int)):=by rw[aoG,aoG,apz hj];rfl
  rw[←ht,aoU,if_pos hj]at this
  rw[this,hd j hj]
  rfl
 have ac5:∀i (hi:i<l.length),bl<H.size∧∃ll,H.rd bl=some ll∧ll[o+i]? =some (i64 ((l.getD i 0:Nat):Int)):=fun i hi=>by
  have hli:(l.map fun(x:Nat)=>(x:Int))[i]? =some ((l.getD i 0:Nat):Int):=by rw[aoG,aou,aop hi];rfl
  have Ku:=hl
  rw[show l.length=(l.map fun(x:Nat)=>(x:Int)).length by simp]at Ku
  obtain⟨_,b3,o3,ll,e3,fw,aV⟩:=cK.num Ku hli
  injection e3 with e3
  injection e3 with e4 e5 _
  subst e4;subst e5
  exact⟨zX fw,ll,fw,aV⟩
 have hbd:∀i (hi:i<l.length),l.getD i 0≤1000:=fun i hi=>by
  rw[aou,aop hi]
  exact hb _ (aqj hi)
 have Y0:CmpLays1 Tryz.prog qH #[ptr p] (xk l.length) (cfF l l.length) b 0 (Array.ofFn (n:=l.length) (fun i=>i)).size w:=by
  intro m os dk hs x y
  obtain⟨Uy,ll,fw,_⟩:=ac5 x.val x.isLt
  have hps:=aB hp
  have k1:=sA (xk l.length) w b m dk os (z:=p) (by rw[hw];exact hps) h2
  have k2:=sA (xk l.length) w b m dk os (z:=bl) (by rw[hw];exact Uy) h1
  have rdc:∀i (hi:i<l.length),(sortWorld (xk l.length) w b 0 m dk os).cell? ⟨bl,o+i,none⟩=some (i64 ((l.getD i 0:Nat):Int)):=fun i hi=>by
   obtain⟨_,ll',Sx,GW⟩:=ac5 i hi
   rw[GM k2,fK (l:=ll') rfl (by rw[hw];exact Sx)]
   exact GW
  have FU:=hbd x.val x.isLt
  have qv:=hbd y.val y.isLt
  exact TE p bl o l.length lc x.val y.val _ _ (sortWorld (xk l.length) w b 0 m dk os)
   (by rw[GM k1,fK (l:=[.slice (some ⟨bl,o,none⟩) l.length lc]) rfl (ae (by rw[hw];exact hp))];rfl)
   x.isLt y.isLt (rdc x.val x.isLt) (rdc y.val y.isLt) (by omega) (by omega) CG
 have key:=Tryz.slices_SortFunc (xk l.length) (fun x=>rfl) (cfF l l.length) (ahu l l.length) qH #[ptr p] b 0 c (Array.ofFn (n:=l.length) (fun i=>i)) w
  (fun args w=>enters_of Tryz.func68 (by kernel_rfl) rfl args w) Y0 hH (by rw[hw];exact aB ho) (by rw[HG];omega)
 rw[HG]at key
 refine key.mono ?_
 rintro e w' ⟨rfl,d',n',os,kP,Mq,rfl⟩
 obtain⟨O8,_,tC⟩:=kP
 rw[HG]at O8
 have ou:∀ (d:Array (Fin l.length)),d.size=l.length→d.extract 0 l.length=d:=fun d h=>by
  have:d.extract 0 d.size=d:=by simp
  rw[h]at this
  exact this
 rw[ou d' O8,ou _ HG]at tC
 have hr:(Array.ofFn (n:=l.length) (fun i=>i)).toList.map Fin.val=List.range l.length:=by
  apply ao7
  intro k
  by_cases hk:k<l.length
  ·rw[apz hk,aoG,aqt]
   simp[hk]
  ·rw[aoC (by simp;omega),aoC (by simp;omega)]
 have Tk:=tC.map Fin.val
 rw[hr]at Tk
 have ac6:(d'.toList.map Fin.val).length=l.length:=by rw[Tk.length_eq,List.length_range]
 have gU:(d'.toList.map Fin.val).Nodup:=List.Nodup.perm List.nodup_range Tk.symm
 have bQ:∀i (hi:i<l.length),(d'.toList.map Fin.val)[i]'(by omega)=(d'[i]!).val:=fun i hi=>by simp[O8,hi]
 have aK:=aB ho
 have fy:(sortWorld (xk l.length) w b 0 n' d' os).heap=(H.modify b (onCells (putCells (xk l.length) 0 d')))++os:=by rw[←hw];rfl
 have cG:=Kl (xk l.length) d'.toList lb (by simp[O8];omega)
 have hdt:d'.toList.toArray=d':=by simp
 rw[hdt]at cG
 have ac7:((H.modify b (onCells (putCells (xk l.length) 0 d')))++os)[b]? =some (.cells (putCells (xk l.length) 0 d' lb.toArray) T fr):=by
  rw[apA (by simpa using aK),apj,if_pos rfl,XN]
  rfl
 refine⟨_,rfl,⟨rfl,rfl⟩,rfl,d'.toList.map Fin.val,Tk,?_,⟨by simp[O8],d'.toList.map (xk l.length)++lb.drop d'.toList.length,c,rfl,?_,hc,?_,?_⟩,?_⟩
 ·rw[apl]
  intro i j hi hj Hd
  rw[ac6]at hi hj
  have h3:=Mq i j (apG _) Hd hj
  rw[←aqx,E8,←bQ i hi,←bQ j hj]at h3
  have aQ:(d'.toList.map Fin.val)[i]'(by omega)≠(d'.toList.map Fin.val)[j]'(by omega):=fun e=>by
   have:=(aqf.1 gU)
   exact apl.1 this i j (by omega) (by omega) Hd e
  unfold sD at h3 ⊢
  omega
 ·show Hp.own (sortWorld (xk l.length) w b 0 n' d' os).heap b=_
  rw[fy,←cG]
  unfold Hp.own at ho ⊢
  rw[XN]at ho
  rw[ac7]
  simp only at ho ⊢
  split at ho
  ·rename_i hf
   simp only[hf,if_true]
  ·cases ho
 ·simp[O8];omega
 ·rw[aos,aqk (by simp[O8]),apE,apE]
  rfl
 ·refine⟨?_,fun k hk E1=>?_⟩
  ·show _≤(sortWorld (xk l.length) w b 0 n' d' os).heap.size
   rw[fy];simp
  ·show(sortWorld (xk l.length) w b 0 n' d' os).heap[k]? =_
   rw[fy,apA (by simpa using hk),apj,if_neg (fun e=>E1 (by rw[e]))]
end Go.Proofs.YthpjfeolagohkaaGreat

namespace Go.Proofs.YthpjfeolagohkaaGreat
open Go Go.Vc
theorem ER(H:Hp)(x:Int):af Tryz.prog Ac [i64 x] H fun v H'=>ar (v= .bool (decide (x<1∨128<x))∧H'=H):=by
 refine aZ JC ?_
 refine vs ?_
 refine ai.dec (fun h=>?_) (fun h=>?_)<;>refine vs ?_
 ·exact⟨aoD Value.bool (aoE (.inl h)).symm,rfl⟩
 ·exact⟨aoD Value.bool (by rw[decide_eq_decide];omega),rfl⟩
abbrev lB(l:List Int):List (List Bool):=(tH (l.map Int.toNat) (RC (l.map Int.toNat))).2
theorem toNat_cast{l:List Int}(h:∀x∈l,1≤x∧x≤128):(l.map Int.toNat).map (fun(x:Nat)=>(x:Int))=l:=by
 rw[apE]
 refine(apu fun x hx=>?_).trans (List.map_id _)
 have:=h x hx
 simp only[Function.comp_apply,id_eq]
 omega
theorem vA{l:List Int}(h:ve l):RE (l.map Int.toNat):=by
 refine⟨fun n hn=>?_,?_⟩
 ·obtain⟨x,hx,rfl⟩:=ao8.1 hn
  have:=h.low x hx
  omega
 ·have hr:=h.room
  have e:On l=l.map Int.toNat:=by
   unfold On
   apply apu
   intro x hx
   have:=h.low x hx
   unfold kR
   omega
  rw[e]at hr
  unfold Iv at hr
  split at hr
  ·omega
  ·split at hr
   ·omega
   ·omega
theorem ij.ahv{H:Hp}{x wb tb:Nat}{ws:List (List Bool)}{tr:List Lf}(h:ij H x wb tb ws tr)(s:Nat)(w:List Bool):ij (H.wr wb ((ws.map jc).set s (jc w))) x wb tb (ws.set s w) tr:=by
 obtain⟨n1,n2,n3⟩:=h.ne
 obtain⟨tv,h1,h2⟩:=h.NC
 have e:ag (fun z=>z=wb) H (H.wr wb ((ws.map jc).set s (jc w))):=(ag.refl (fun z=>z=wb) _).wr (fun _=>rfl) _
 refine⟨⟨tv,by rw[aot];exact e.own h1 n1,h2.ext e (fun b hb hz=>by injection hb with hb;omega)⟩,?_,h.ne⟩
 rw[ao9]
 exact ah h.words
theorem Km(w:List Bool):Go.Vc.bytesOf (w.map bv)=some (w.map bt):=by
 rw[←NG,og,apE]
 congr 1
 refine(apu fun c _=>?_).trans (List.map_id _)
 simp
theorem TF(n j:Nat)(hj:j<n):((((List.range j).map fun(x:Nat)=>(x:Int))++List.replicate (n - j) (0:Int)).map i64).set j (i64 (j:Int))=((((List.range (j+1)).map fun(x:Nat)=>(x:Int))++List.replicate (n - (j+1)) (0:Int)).map i64):=by
 rw[←ao9,apS _ _ (by simp)]
 rw[show j - ((List.range j).map fun(x:Nat)=>(x:Int)).length=0 by simp,show n - j=(n - (j+1))+1 by omega,aoZ,apM,aqc]
 simp
theorem QY(n:Nat):ce [Value.int .i64 0] n=(List.replicate n (0:Int)).map i64:=by
 unfold ce
 induction n with
 |zero=>rfl
 |succ n ih=>rw[aoZ,apr,ih,aoZ];rfl
def BH(lN od:List Nat)(j:Nat):List Bool×List (List Bool):=(od.take j).foldl (rP lN) ([],List.replicate lN.length [])
theorem Mr{lN od:List Nat}{j s:Nat}(h:od[j]? =some s):BH lN od (j+1)=rP lN (BH lN od j) s:=by
 unfold BH
 rw[aoM,h,List.foldl_append]
 rfl
theorem Vy(lN od:List Nat)(j:Nat):(BH lN od j).2.length=lN.length:=by
 unfold BH
 rw[Qn,aoY]
theorem Ms{lN od:List Nat}(h:∀n∈lN,1≤n∧n≤128):∀j,(BH lN od j).1.length≤128:=by
 intro j
 induction j with
 |zero=>exact apG _
 |succ j ih=>
  cases hs:od[j]? with
  |none=>
   have hl:=List.getElem?_eq_none_iff.1 hs
   have:BH lN od (j+1)=BH lN od j:=by unfold BH;rw[apn (by omega),apn (by omega)]
   rw[this];exact ih
  |some s=>
   rw[Mr hs]
   show(is (lN.getD s 0) (dM (BH lN od j).1)).length≤128
   unfold is
   rw[aoy,aoY,tF]
   have:lN.getD s 0≤128:=by
    rw[aou]
    cases hg:lN[s]? with
    |none=>exact apG _
    |some v=>exact(h v (aow hg)).2
   omega
theorem xD{H:Hp}{a:Option Addr}{c:Nat}{l:List Int}(h:cK H 1 (.slice a l.length c) l.length (l.map i64))(hl:l.length≤9223372036854775807):
  af Tryz.prog Nk [.slice a l.length c] H fun v H'=>ar (am H H'∧
   ((¬ve l∧v= .tuple [.pointer none,i64 201].toArray)∨(ve l∧∃x S,v= .tuple [ptr x,i64 0].toArray∧sf H' x S (lB l)∧∀z,S z→H.size≤z))):=by
 refine aZ Nr ?_
 refine vs ?_
 have f0:am H (H.new 30 [.slice a l.length c]):=(ag.refl _ _).new _ _
 have o0:(H.new 30 [.slice a l.length c]).own H.size=some [.slice a l.length c]:=aD _ _ _
 generalize H.new 30 [.slice a l.length c]=H0 at*
 have h0:=h.fresh f0
 refine ai.dec (fun g1=>?_) (fun g1=>?_)<;>refine v1 (ae o0) ?_
 ·exact⟨f0,.inl ⟨fun hr=>by have:=hr.len;omega,rfl⟩⟩
 refine ai.dec (fun g2=>?_) (fun g2=>?_)<;>refine v1 (ae o0) ?_
 ·exact⟨f0,.inl ⟨fun hr=>by have:=hr.len;omega,rfl⟩⟩
 refine(mY Ac [] (fun x=>decide (x<1∨128<x)) (fun H'=>H'=H0) rfl (fun H' hI=>by rw[hI];exact h0) (by kernel_rfl) (fun H' x _ hI=>by rw[hI];exact ER H0 x) (by omega)).mono ?_
 rintro _ _ ⟨rfl,rfl⟩
 refine vs ?_
 have Tr:(l.any fun x=>decide (x<1∨128<x))=true↔¬ ∀x∈l,1≤x∧x≤128:=by
  rw[List.any_eq_true]
  constructor
  ·rintro⟨x,hx,hd⟩ dJ
   have:=dJ x hx
   have:=of_decide_eq_true hd
   omega
  ·intro hn
   apply aoJ
   intro bS
   refine hn fun x hx=>?_
   apply aoJ
   intro DG
   exact bS ⟨x,hx,aoE (by omega)⟩
 cases hb:l.any fun x=>decide (x<1∨128<x)
 rotate_left
 ·refine vs ?_
  exact⟨f0,.inl ⟨fun hr=>Tr.1 hb hr.low,rfl⟩⟩
 have Ka:∀x∈l,1≤x∧x≤128:=aoJ fun hn=>by have:=Tr.2 hn;rw[hb]at this;cases this
 refine v1 (ae o0) ?_
 refine(zu h0 (by omega) (Pg Ka) (by decide)).mono ?_
 rintro _ H1 ⟨rfl,f1⟩
 refine vs ?_
 refine ai.dec (fun g3=>?_) (fun g3=>?_)<;>refine vs ?_
 ·exact⟨f0.trans f1,.inl ⟨fun hr=>by have:=hr.room;omega,rfl⟩⟩
 have hR:ve l:=⟨Ka,⟨by omega,by omega⟩,by omega⟩
 have hRL:=vA hR
 have o1:=f1.own o0 (fun h=>h)
 have h1:=h0.fresh f1
 have z0:=f0.size
 have z1:=f1.size
 have IY:=aB o0
 refine v1 (ae o1) ?_
 refine⟨⟨by omega,by omega,by omega,by omega⟩,?_⟩
 refine v1 Int.toNat_natCast ?_
 obtain⟨x0,fL⟩:∃x,l[0]? =some x:=⟨_,aop (by omega)⟩
 obtain⟨_,bl,lo,llb,rfl,ahw,_⟩:=cK.num h fL
 have TW:=zX ahw
 rw[QY]
 have f2:am H1 (H1.new 3 ((List.replicate l.length (0:Int)).map i64)):=(ag.refl _ _).new _ _
 have b2:(H1.new 3 ((List.replicate l.length (0:Int)).map i64)).own H1.size=some ((List.replicate l.length (0:Int)).map i64):=aD _ _ _
 generalize H1.new 3 ((List.replicate l.length (0:Int)).map i64)=H2 at*
 have f02:=(f0.trans f1).trans f2
 have z2:=f2.size
 have ho2:=aB b2
 refine aS.intro (fun m env H'=>∃j:Nat,m=l.length - j∧j≤l.length∧ag (fun z=>z=H1.size) H2 H'∧H'.own H1.size=some ((((List.range j).map fun(x:Nat)=>(x:Int))++List.replicate (l.length - j) (0:Int)).map i64)∧
  env=[(1,ptr H.size),(4,.slice (some ⟨H1.size,0,none⟩) l.length l.length),(31,i64 l.length),(32,i64 j)]) l.length ⟨0,by omega,by omega,ag.refl _ _,b2,rfl⟩ ?_
 rintro m env H3 ⟨j,rfl,hj,e3,b3,rfl⟩
 refine vs ?_
 refine ai.dec (fun aK=>?_) (fun aK=>?_)<;>refine vs ?_
 ·refine⟨⟨by omega,by omega⟩,?_⟩
  refine v4 b3 Int.toNat_natCast aos aor ?_
  refine⟨by simp;omega,?_⟩
  have e4:=e3.wr (b:=H1.size) (l:=((((List.range (j+1)).map fun(x:Nat)=>(x:Int))++List.replicate (l.length - (j+1)) (0:Int)).map i64)) (fun _=>rfl)
  refine vs ?_
  rw[TF _ _ (by omega),wrap64 (n:=(j:Int)+1) (by omega) (by omega)]
  exact⟨l.length - (j+1),by omega,j+1,rfl,by omega,e4,ah b3,rfl⟩
 have gf:j=l.length:=by omega
 subst gf
 rw[apq,apQ,ao3]at b3
 have Y1:(l.map Int.toNat).length=l.length:=aoA ..
 have htc:=toNat_cast Ka
 have s3:Sl H3 1 (.slice (some ⟨H1.size,0,none⟩) (l.map Int.toNat).length l.length) (l.map Int.toNat).length (((List.range (l.map Int.toNat).length).map fun(x:Nat)=>(x:Int)).map i64) (some H1.size):=by
  rw[Y1]
  exact⟨by simp,_,l.length,rfl,b3,aoB _,by simp,by rw[aos];exact apn (by simp)⟩
 have f13:am H1 H3:=f2.then e3 (fun z hz=>by omega)
 have f03:=(f0.trans f1).trans f13
 have o3:=f13.own o1 (fun h=>h)
 have h3:=h1.fresh f13
 have Q9:=aB b3
 generalize ac8:l.map Int.toNat=lN at*
 have bF:∀x∈lN,1≤x∧x≤128:=hRL.low
 have Ua:=Is (H:=H3) (p:=H.size) (b:=H1.size) (bl:=bl) (o:=lo) (lc:=c) (c:=l.length) (l:=lN) (by omega) (by omega) (fun x hx=>by have:=bF x hx;omega) (by rw[Y1];exact o3) (by rw[Y1,htc];exact h3) (by omega) (by omega) s3
 rw[Y1]at Ua
 refine Ua.mono ?_
 clear Ua
 rintro _ H4 ⟨rfl,od,kP,hpw,s4,e4⟩
 have f14:am H1 H4:=f13.then e4 (fun z hz=>by omega)
 have f04:=(f0.trans f1).trans f14
 have o4:=f14.own o1 (fun h=>h)
 have h4:=h1.fresh f14
 have z4:=f14.size
 have ac6:od.length=l.length:=by rw[kP.length_eq,List.length_range]
 have gU:od.Nodup:=List.Nodup.perm List.nodup_range kP.symm
 have ZZ:=Xc bF (by rw[Y1];exact kP) hpw
 refine v1 (ae o4) ?_
 refine⟨⟨by omega,by omega,by omega,by omega⟩,?_⟩
 refine v1 Int.toNat_natCast ?_
 rw[SA]
 have f5:am H4 (((H4.new 9 ((List.replicate l.length ([]:List Bool)).map jc)).new 106 [i64 0,i64 0,i64 (-1)]).new 91 [.slice (some ⟨H4.size,0,none⟩) l.length l.length,.slice (some ⟨H4.size+1,0,none⟩) 1 1]):=(((ag.refl _ _).new _ _).new _ _).new _ _
 have m5:ij (((H4.new 9 ((List.replicate l.length ([]:List Bool)).map jc)).new 106 [i64 0,i64 0,i64 (-1)]).new 91 [.slice (some ⟨H4.size,0,none⟩) l.length l.length,.slice (some ⟨H4.size+1,0,none⟩) 1 1]) (H4.size+1+1) H4.size (H4.size+1) (List.replicate l.length []) [⟨0,0, -1⟩]:=by
  refine⟨⟨.slice (some ⟨H4.size+1,0,none⟩) 1 1,?_,?_⟩,?_,by omega⟩
  ·rw[aoY]
   exact be (by simp only[aq])
  ·exact(Sl.cB (size:=3) (n:=1) (xs:=[i64 0,i64 0,i64 (-1)]) rfl (by simp only[aq])).ext ((ag.refl (fun _=>False) _).new _ _) (fun _ _ h=>h)
  ·rw[bL (by simp only[aq];omega),bL (by simp only[aq];omega),aD]
 have z5:(((H4.new 9 ((List.replicate l.length ([]:List Bool)).map jc)).new 106 [i64 0,i64 0,i64 (-1)]).new 91 [.slice (some ⟨H4.size,0,none⟩) l.length l.length,.slice (some ⟨H4.size+1,0,none⟩) 1 1]).size=H4.size+1+1+1:=by simp only[aq]
 generalize ((H4.new 9 ((List.replicate l.length ([]:List Bool)).map jc)).new 106 [i64 0,i64 0,i64 (-1)]).new 91 [.slice (some ⟨H4.size,0,none⟩) l.length l.length,.slice (some ⟨H4.size+1,0,none⟩) 1 1]=H5 at*
 have f05:=f04.trans f5
 have hb4:=s4.lt
 clear b3 s3 e3 h3 o3 f13 f03 e4
 refine aS.intro (fun m env H'=>∃ (j tb:Nat) (tr:List Lf) (fD:List (List Bool)) (P:List (Nat×List Bool)) (wv:Value),m=l.length - j∧j≤l.length∧ag (fun z=>H4.size≤z) H5 H'∧ij H' (H4.size+1+1) H4.size tb (BH lN od j).2 tr∧jN tr fD P []∧H4.size<tb∧
  (∀s w,(s,w)∈P↔s∈od.take j∧(BH lN od j).2[s]? =some w)∧tr.length≤1+j*128∧(j=0∨∃wb,FK H' wv (BH lN od j).1 wb∧H5.size≤wb∧wb≠tb)∧
  env=[(1,ptr H.size),(6,ptr (H4.size+1+1)),(7,wv),(50,.slice (some ⟨H1.size,0,none⟩) l.length l.length),(51,i64 l.length),(52,i64 j)]) l.length
  ⟨0,H4.size+1,_,_,[],_,rfl,by omega,ag.refl _ _,by rw[←Y1]at m5;exact m5,jN.new,by omega,fun s w=>by simp,by simp,.inl rfl,rfl⟩ ?_
 rintro m env H6 ⟨j,tb,tr,fD,P,wv,rfl,hj,e6,m6,t6,UI,hP,HF,ZW,rfl⟩
 have z6:=e6.size
 have e46:ag (fun z=>H4.size≤z) H4 H6:=(f5.mono fun _ _ h=>h.elim).trans e6
 have s6:=s4.ext e46 (fun b hb hz=>by injection hb with hb;omega)
 have h6:=h4.ext e46 (fun b hb hz=>by omega)
 have o6:=e46.own o4 (fun hz=>by omega)
 have f06:am H H6:=f04.then e46 (fun z hz=>by omega)
 have ahx:=Vy lN od j
 refine vs ?_
 refine ai.dec (fun tw=>?_) (fun tw=>?_)<;>refine vs ?_
 rotate_left
 ·have gf:j=l.length:=by omega
  subst gf
  have ma:(BH lN od l.length).2=lB l:=by
   unfold BH lB
   rw[apn (by omega),ac8,ZZ]
   rfl
  obtain⟨w1,w2,w3⟩:=Ix hRL (by rw[Y1];exact kP) hpw
  have ahy:(tH lN od).2=lB l:=by unfold lB;rw[ac8,ZZ]
  rw[ahy]at w1 w2 w3
  rw[ma]at m6 hP
  refine⟨f06,.inr ⟨hR,H4.size+1+1,fun z=>z=H4.size+1+1∨z=H4.size∨z=tb,rfl,⟨⟨H4.size,tb,tr,fD,m6,⟨P,t6,fun s w=>?_⟩,.inl rfl,.inr (.inl rfl),.inr (.inr rfl),by have:=hR.len;omega⟩,fun z hz=>?_,w3,by omega,fun w hw=>?_⟩,fun z hz=>by omega⟩⟩
  ·rw[hP,apn (by omega)]
   constructor
   ·exact fun h=>h.2
   ·intro h
    refine⟨kP.mem_iff.2 (apx.2 ?_),h⟩
    have:=(aoq.1 h).1
    omega
  ·have:=m6.lt
   omega
  ·obtain⟨s,hs⟩:=aoN hw
   rw[w2 s w hs,aou]
   cases hg:lN[s]? with
   |none=>exact apG _
   |some v=>
    have:=(bF v (aow hg)).2
    show v≤1000
    omega
 obtain⟨s,hs⟩:∃s,od[j]? =some s:=⟨_,aop (by omega)⟩
 have hsr:=apx.1 (kP.mem_iff.1 (aow hs))
 have hsc:(od.map fun(x:Nat)=>(x:Int))[j]? =some (s:Int):=by rw[aoG,hs];rfl
 obtain⟨_,hsa,lb6,ahz,Y2⟩:=Sl.num s6 hsc
 obtain⟨ns,G4⟩:∃ns,lN[s]? =some ns:=⟨_,aop (by omega)⟩
 have ahA:lN.getD s 0=ns:=by rw[aou,G4];rfl
 have amz:=bF ns (aow G4)
 have hls:l[s]? =some (ns:Int):=by rw[←htc,aoG,G4];rfl
 obtain⟨_,bl6,lo6,amB,e7,WA,Pj⟩:=cK.num h6 hls
 injection e7 with e7
 injection e7 with e8 e9 _
 subst e8;subst e9
 refine⟨⟨by omega,by omega⟩,?_⟩
 refine v5 (ae ahz) Int.toNat_natCast aos aor Y2 ?_
 have eT:=Ms (od:=od) bF j
 have Mt:=Mr (lN:=lN) hs
 have hnw:rP lN (BH lN od j) s=(is ns (dM (BH lN od j).1),(BH lN od j).2.set s (is ns (dM (BH lN od j).1))):=by unfold rP;rw[ahA]
 rw[hnw]at Mt
 have amD:(is ns (dM (BH lN od j).1)).length≤128:=by have:=Ms (od:=od) bF (j+1);rw[Mt]at this;exact this
 refine ai.abj (fun e h=>∃wv' wb',e.find 1=some (ptr H.size)∧e.find 6=some (ptr (H4.size+1+1))∧e.find 7=some wv'∧e.find 9=some (i64 s)∧e.find 50=some (.slice (some ⟨H1.size,0,none⟩) l.length l.length)∧e.find 51=some (i64 l.length)∧e.find 52=some (i64 j)∧
  FK h wv' (is ns (dM (BH lN od j).1)) wb'∧H5.size≤wb'∧wb'≠tb∧ag (fun z=>H5.size≤z∧z≠tb) H6 h) (fun g=>?_) (fun g=>?_) ?_<;>refine vs ?_
 ·have Z2:j=0:=by omega
  subst Z2
  refine v1 (ae o6) ?_
  refine⟨⟨by omega,by omega⟩,?_⟩
  refine v4 WA Int.toNat_natCast aos Pj ?_
  refine(DE H6 [48] ns (by simp) (by omega)).mono ?_
  rintro _ H7 ⟨rfl,f7⟩
  refine vs ?_
  have UG:(List.replicate ns (48:UInt8))=(List.replicate ns false).map bt:=by rw[aqn];rfl
  rw[FR,UG]
  intro cc CE
  rw[iI,aoA,aoY]at CE ⊢
  rw[za]
  have JJ:is ns (dM (BH lN od 0).1)=List.replicate ns false:=by
   show is ns (dM [])=_
   rw[KI]
   unfold is
   simp
  rw[JJ]
  have e8:am H7 (H7.jR 5 ((List.replicate ns false).map bv++List.replicate (cc - ns) (.int .u8 0))):=(ag.refl _ _).jR _ _
  have hmk:(H7.jR 5 ((List.replicate ns false).map bv++List.replicate (cc - ns) (.int .u8 0))).nX H7.size=some _:=AS _ _ _
  refine vs ?_
  have z7:=f7.size
  have:=m6.lt
  refine⟨_,H7.size,(by trivial),(by trivial),rfl,(by trivial),(by trivial),(by trivial),(by trivial),⟨_,cc,by rw[aoY],yZ hmk,by simpa using CE,by simp;omega,by rw[aoY];exact aqk (by simp)⟩,by omega,by omega,(f7.trans e8).mono fun _ _ h=>h.elim⟩
 ·have Z2:j≠0:=by omega
  obtain⟨wd,hwd,amG,amH⟩:=ZW.resolve_left Z2
  refine v1 (ae o6) ?_
  refine⟨⟨by omega,by omega⟩,?_⟩
  refine v4 WA Int.toNat_natCast aos Pj ?_
  refine(CC hwd ns (by omega) (by omega)).mono ?_
  rintro v7 H7 ⟨wd',hw7,e7,hb7⟩
  refine vs ?_
  have:=m6.lt
  exact⟨_,wd',(by trivial),(by trivial),rfl,(by trivial),(by trivial),(by trivial),(by trivial),hw7,by omega,by omega,e7.mono fun z _ hz=>by omega⟩
 rintro e H7 ⟨wv',wb',q1,q2,q3,q4,q5,q6,q7,w7,ahC,amK,e7⟩
 have m7:=m6.ext e7 (fun hz=>by omega) (fun hz=>by omega) (fun hz=>by omega)
 obtain⟨tv7,x7,_⟩:=m7.NC
 obtain⟨a7,c7,rfl⟩:=JL w7.rd
 refine v8 q1 q2 q3 q4 q5 q6 q7 (ae x7) ?_
 refine cK.rowOf w7.rd ?_
 rw[Km]
 refine vs ?_
 rw[ahx]
 refine⟨⟨by omega,by omega⟩,?_⟩
 refine v4 m7.words Int.toNat_natCast aos aor ?_
 refine⟨by rw[aoA];omega,?_⟩
 have m8:=m7.ahv s (is ns (dM (BH lN od j).1))
 have z7:=e7.size
 have e8:ag (fun z=>H4.size≤z) H7 (H7.wr H4.size (((BH lN od j).2.map jc).set s (jc (is ns (dM (BH lN od j).1))))):=(ag.refl (fun z=>H4.size≤z) _).wr (fun _=>aoB _) _
 have z8:=e8.size
 generalize amL:is ns (dM (BH lN od j).1)=nw at*
 refine v7 q1 q2 q3 q4 q5 q6 q7 ?_
 have w8:=w7.ext ((ag.refl (fun z=>z=H4.size) H7).wr (fun _=>rfl) (((BH lN od j).2.map jc).set s (jc nw))) (fun hz=>by omega)
 generalize H7.wr H4.size (((BH lN od j).2.map jc).set s (jc nw))=H8 at*
 have AR:((BH lN od j).2.set s nw)[s]? =some nw:=aox (by omega)
 refine(Ed m8 t6 AR (by omega) (by omega) (by rw[aot];omega)).mono ?_
 rintro v9 H9 ⟨tr9,ahD,tb9,m9,t9,hl9,e9,hb9⟩
 refine vs ?_
 rw[wrap64 (n:=(j:Int)+1) (by omega) (by omega)]
 have z9:=e9.size
 have amO:=m8.lt
 have ajx:=w8.lt
 have hsn:s∉od.take j:=fun hm=>by
  obtain⟨i,hi⟩:=aoN hm
  rw[aoU]at hi
  split at hi
  ·have:=zE gU hi hs
   omega
  ·cases hi
 refine⟨l.length - (j+1),by omega,j+1,tb9,tr9,ahD,(s,nw)::P,_,rfl,by omega,?_,by rw[Mt];exact m9,t9,by omega,fun s' w'=>?_,by omega,.inr ⟨wb',by rw[Mt];exact w8.ext e9 (fun hz=>by omega),ahC,by omega⟩,rfl⟩
 ·exact((e6.trans (e7.mono fun z _ hz=>by omega)).trans e8).trans (e9.mono fun z _ hz=>by omega)
 ·rw[apa,hP,aoM,hs,Mt]
  simp only[Prod.mk.injEq,Option.toList_some,aoL,aoH]
  constructor
  ·rintro(⟨rfl,rfl⟩| ⟨h1,h2⟩)
   ·exact⟨.inr rfl,AR⟩
   ·have aQ:s≠s':=fun e=>hsn (e▸h1)
    exact⟨.inl h1,by rw[aov aQ];exact h2⟩
  ·rintro⟨h1,h2⟩
   by_cases e:s'=s
   ·subst e
    rw[AR]at h2
    injection h2 with h2
    exact .inl ⟨rfl,h2.symm⟩
   ·rw[aov (Ne.symm e)]at h2
    exact .inr ⟨h1.resolve_right e,h2⟩
theorem I5{l:List Int}(h:ve l):(lB l).length=l.length∧(∀s w,(lB l)[s]? =some w→w.length=(l.map Int.toNat).getD s 0)∧pg (lB l):=by
 have kP:(RC (l.map Int.toNat)).Perm (List.range (l.map Int.toNat).length):=by
  refine(List.perm_ext_iff_of_nodup ?_ List.nodup_range).2 fun a=>?_
  ·rw[aqf]
   refine List.Pairwise.imp (fun{a b} (BP:sD _ a b) (e:a=b)=>?_) (tG (l.map Int.toNat) 128)
   subst e
   exact KJ _ _ BP
  ·unfold RC
   rw[Fb,apx]
   exact⟨fun ha=>ha.1,fun ha=>⟨ha,(vA h).low _ (zG ha)⟩⟩
 obtain⟨h1,h2,h3⟩:=Ix (vA h) kP (tG _ 128)
 rw[aoA]at h1
 exact⟨h1,h2,h3⟩
theorem Ko{l:List Int}(h:ve l):∀w∈lB l,w.length≤128:=fun w hw=>by
 obtain⟨s,hs⟩:=aoN hw
 obtain⟨h1,h2,_⟩:=I5 h
 rw[h2 s w hs]
 have aK:=(aoq.1 hs).1
 exact((vA h).low _ (zG (by rw[aoA];omega))).2
theorem Mu:ve [2,1,2]:=⟨by intro x hx;simp at hx;omega,by decide,by decide⟩
theorem Mv:lB [2,1,2]=[[true,false],[false],[true,true]]:=by decide
theorem Oq:nS [true,false,true]=[5,160]:=by decide
theorem Vz(a b:List Bool):((⟨(a.map bt).toArray⟩:ByteArray).toList== (⟨(b.map bt).toArray⟩:ByteArray).toList)=decide (a=b):=by
 rw[pR,decide_eq_decide]
 exact⟨jF,fun h=>by rw[h]⟩
theorem vg(H:Hp):af Tryz.prog Aa [] H fun v H'=>ar (v= .bool true∧am H H'):=by
 refine aZ Av ?_
 refine vs ?_
 have f0:am H (H.new 3 [i64 2,i64 1,i64 2]):=(ag.refl _ _).new _ _
 have r0:cK (H.new 3 [i64 2,i64 1,i64 2]) 1 (.slice (some ⟨H.size,0,none⟩) 3 3) 3 (([2,1,2]:List Int).map i64):=(Sl.cB (size:=1) (n:=3) (xs:=([2,1,2]:List Int).map i64) rfl rfl).rd
 generalize H.new 3 [i64 2,i64 1,i64 2]=H0 at*
 refine(xD (l:=[2,1,2]) r0 (by decide)).mono ?_
 rintro _ H1 ⟨f1,⟨hn,_⟩| ⟨_,x,S,rfl,cw,hS⟩⟩
 ·exact absurd Mu hn
 rw[Mv]at cw
 have f01:=f0.trans f1
 refine vs ?_
 refine(vf (H:=H1) (bits:=[49,48,49]) (by decide)).mono ?_
 rintro _ H2 ⟨f2,⟨hb,_⟩| ⟨w,a,c,hw,TT,rfl,r2⟩⟩
 ·exact absurd ⟨by decide,by decide⟩ hb
 have GG:w=[true,false,true]:=jF hw.symm
 subst GG
 rw[Oq]at r2
 have cw2:=cw.fresh f2
 refine v1 aoW ?_
 refine(fM cw2 0).mono ?_
 rintro _ H' ⟨rfl,e⟩
 obtain rfl:=e.symm
 refine v1 aoW ?_
 repeat(refine ai.bI (by first|decide|exact(pR _ _).trans (by decide)) ?_;refine v1 aoW ?_)
 refine(fM cw2 1).mono ?_
 rintro _ H' ⟨rfl,e⟩
 obtain rfl:=e.symm
 refine v1 aoW ?_
 repeat(refine ai.bI (by first|decide|exact(pR _ _).trans (by decide)) ?_;refine v1 aoW ?_)
 refine(fM cw2 2).mono ?_
 rintro _ H' ⟨rfl,e⟩
 obtain rfl:=e.symm
 refine v1 aoW ?_
 repeat(refine ai.bI (by first|decide|exact(pR _ _).trans (by decide)) ?_;refine v1 aoW ?_)
 refine cK.rowOf r2 ?_
 rw[og]
 refine vs ?_
 have f3:am H2 (H2.new 5 [.int .u8 5,.int .u8 160]):=(ag.refl _ _).new _ _
 have r3:cK (H2.new 5 [.int .u8 5,.int .u8 160]) 1 (.slice (some ⟨H2.size,0,none⟩) 2 2) 2 (nJ [5,160]):=(Sl.cB (size:=1) (n:=2) (xs:=nJ [5,160]) rfl rfl).rd
 refine cK.rowOf r3 ?_
 rw[og]
 refine vs ?_
 exact⟨aoD Value.bool ((pR _ _).trans (by decide)),(f01.trans f2).trans f3⟩
end Go.Proofs.YthpjfeolagohkaaGreat
