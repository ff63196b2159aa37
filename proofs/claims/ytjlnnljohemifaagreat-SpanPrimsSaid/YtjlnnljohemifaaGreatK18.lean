/- Texts put behind each other. -/
import Derived.Test.YtjlnnljohemifaaGreatK98
import Derived.Test.YtjlnnljohemifaaGreatK3
import Derived.Test.YtjlnnljohemifaaGreatK17
import Derived.Shelf.Sort.Plain
import Derived.Shelf.Slices.In.SortNone
set_option maxRecDepth 100000
set_option maxHeartbeats 8000000
set_option linter.unusedVariables false
set_option linter.unusedSimpArgs false
namespace Go.Proofs.YtjlnnljohemifaaGreat
open Go Go.Vc Go.Sort
def iO(xs:List Int):List Int:=xs.mergeSort fun x y=>decide (x≤y)
theorem lQ(xs:List Int):(iO xs).length=xs.length:=List.length_mergeSort _
theorem Og{H:Hp}{b:Nat}{l:List Value}(h:H.own b=some l):∃T fr,H[b]? =some (.cells l.toArray T fr):=by
 unfold Hp.own at h
 split at h
 ·rename_i c t fr hb
  split at h
  ·injection h with h
   exact⟨t,fr,by rw[hb,←h]⟩
  ·cases h
 ·cases h
theorem Gd(off:Nat)(d:List Int)(l:List Value)(h:off+d.length≤l.length):(putCells (Value.int .i64) off d.toArray l.toArray).toList=l.take off++d.map i64++l.drop (off+d.length):=by
 apply an5
 intro k
 rw[Array.getElem?_toList]
 simp only[putCells,Array.getElem?_mapIdx,ao3,List.size_toArray]
 by_cases h1:k<off
 ·rw[aoQ,anq (by rw[anR];omega),anP,if_pos h1,am8 (by omega)]
  simp;omega
 ·by_cases h2:k<off+d.length
  ·rw[anq (by simp;omega),anE (by rw[anR];omega),anR,aoA (by omega),anA,am8 (by omega),am8 (by omega)]
   simp only[Option.map_some]
   rw[if_pos ⟨by omega,h2⟩]
   congr 2
   simp[show k - off<d.length by omega]
  ·rw[anE (by simp;omega),anQ]
   simp only[ank,anR,anz,aoA (show off≤l.length by omega)]
   rw[show off+d.length+(k - (off+d.length))=k by omega]
   cases hk:l[k]? with
   |none=>rfl
   |some x=>simp;omega
theorem oG{H:Hp}{sv:Value}{xs:List Int}{fp:Option Nat}(h:Sl H 1 sv xs.length (xs.map i64) fp)(hl:xs.length≤1000000000):
  af Tryz.prog rB [sv] H fun v H'=>ar (v= .tuple [].toArray∧Sl H' 1 sv xs.length ((iO xs).map i64) fp∧ag (fun z=>fp=some z) H H'):=fun w hw=>by
 obtain⟨hx,h⟩:=h
 cases fp with
 |none=>
  obtain⟨h0,rfl⟩:=h
  have fO:xs=[]:=anL.1 h0
  subst fO
  refine(Tryz.slices_Sort_int_none none 0 w).mono ?_
  rintro e w' ⟨rfl,rfl⟩
  exact⟨_,rfl,bX.refl _,rfl,⟨by simp[iO],h0,rfl⟩,by rw[←hw];exact ag.refl _ _⟩
 |some b=>
  obtain⟨l,c,rfl,ho,hc,mJ,ht⟩:=h
  obtain⟨T,fr,hb⟩:=Og ho
  rw[ane]at ht
  have bS:∀j,j<xs.length→l[j]? =some (i64 xs[j]!):=fun j hj=>by
   have:(xs.map i64)[j]? =some (i64 xs[j]!):=by rw[anA,am8 hj];simp[hj]
   rw[←ht,anP,if_pos hj]at this
   exact this
  have hH:Holds (Value.int .i64) w b 0 xs.toArray:=fun j hj=>by
   rw[List.size_toArray]at hj
   refine⟨?_,wz (by rw[hw];exact ho) _⟩
   rw[mi (l:=l) rfl (ae (by rw[hw];exact ho))]
   simp only[am9]
   rw[bS j hj]
   simp[hj]
  refine(Tryz.slices_Sort_int b 0 c xs w hH (by rw[hw];exact az ho) (by omega)).mono ?_
  rintro e w' ⟨rfl,n,os,rfl⟩
  have cH:=Gd 0 (iO xs) l (by rw[lQ];omega)
  have aK:=az ho
  have ic:(grow (putRow (Value.int .i64) (Sort.ahead w n) b 0 (iO xs).toArray) os).heap=(H.modify b (onCells (putCells (Value.int .i64) 0 (iO xs).toArray)))++os:=by
   rw[←hw];rfl
  have bV:((H.modify b (onCells (putCells (Value.int .i64) 0 (iO xs).toArray)))++os)[b]? =some (.cells (putCells (Value.int .i64) 0 (iO xs).toArray l.toArray) T fr):=by
   rw[aoJ (by simpa using aK),aoj,if_pos rfl,hb]
   rfl
  refine⟨_,rfl,⟨rfl,rfl⟩,rfl,⟨by simp[lQ],l.take 0++(iO xs).map i64++l.drop (0+(iO xs).length),c,rfl,?_,hc,?_,?_⟩,?_⟩
  ·show Hp.own (grow (putRow (Value.int .i64) (Sort.ahead w n) b 0 (iO xs).toArray) os).heap b=_
   rw[ic,←cH]
   unfold Hp.own at ho ⊢
   rw[hb]at ho
   rw[bV]
   simp only at ho ⊢
   split at ho
   ·rename_i hf
    simp only[hf,if_true]
   ·cases ho
  ·simp only[List.take_zero,aoh,ank,anz,aoW,lQ]
   omega
  ·rw[ane,List.take_zero,aoh]
   exact List.take_left' (by simp[lQ])
  ·refine⟨?_,fun k hk hn=>?_⟩
   ·show _≤(grow (putRow (Value.int .i64) (Sort.ahead w n) b 0 (iO xs).toArray) os).heap.size
    rw[ic];simp
   ·show(grow (putRow (Value.int .i64) (Sort.ahead w n) b 0 (iO xs).toArray) os).heap[k]? =_
    rw[ic,aoJ (by simpa using hk),aoj,if_neg (fun e=>hn (by rw[e]))]
end Go.Proofs.YtjlnnljohemifaaGreat
