/- Texts put behind each other. -/
import Derived.Test.YtjlnnljohemifaaGreatK98
import Derived.Test.YtjlnnljohemifaaGreatK7
import Derived.Test.YtjlnnljohemifaaGreatK21
import Derived.Shelf.Sort.Plain
import Derived.Shelf.Slices.In.SortNone
set_option maxRecDepth 100000
set_option maxHeartbeats 8000000
set_option linter.unusedVariables false
set_option linter.unusedSimpArgs false
namespace Go.Proofs.YtjlnnljohemifaaGreat
open Go Go.Vc Go.Sort
def iZ(xs:List Int):List Int:=xs.mergeSort fun x y=>decide (x≤y)
theorem mL(xs:List Int):(iZ xs).length=xs.length:=List.length_mergeSort _
theorem Pv{H:Hp}{b:Nat}{l:List Value}(h:H.own b=some l):∃T fr,H[b]? =some (.cells l.toArray T fr):=by
 unfold Hp.own at h
 split at h
 ·rename_i c t fr hb
  split at h
  ·injection h with h
   exact⟨t,fr,by rw[hb,←h]⟩
  ·cases h
 ·cases h
theorem Hn(off:Nat)(d:List Int)(l:List Value)(h:off+d.length≤l.length):(putCells (Value.int .i64) off d.toArray l.toArray).toList=l.take off++d.map i64++l.drop (off+d.length):=by
 apply aoo
 intro k
 rw[Array.getElem?_toList]
 simp only[putCells,Array.getElem?_mapIdx,apf,List.size_toArray]
 by_cases h1:k<off
 ·rw[apq,anJ (by rw[aoj];omega),an9,if_pos h1,ans (by omega)]
  simp;omega
 ·by_cases h2:k<off+d.length
  ·rw[anJ (by simp;omega),anX (by rw[aoj];omega),aoj,aoQ (by omega),anR,ans (by omega),ans (by omega)]
   simp only[Option.map_some]
   rw[if_pos ⟨by omega,h2⟩]
   congr 2
   simp[show k - off<d.length by omega]
  ·rw[anX (by simp;omega),aob]
   simp only[anD,aoj,anQ,aoQ (show off≤l.length by omega)]
   rw[show off+d.length+(k - (off+d.length))=k by omega]
   cases hk:l[k]? with
   |none=>rfl
   |some x=>simp;omega
theorem pZ{H:Hp}{sv:Value}{xs:List Int}{fp:Option Nat}(h:Sl H 1 sv xs.length (xs.map i64) fp)(hl:xs.length≤1000000000):
  af Tryz.prog sO [sv] H fun v H'=>aw (v= .tuple [].toArray∧Sl H' 1 sv xs.length ((iZ xs).map i64) fp∧ag (fun z=>fp=some z) H H'):=fun w hw=>by
 obtain⟨hx,h⟩:=h
 cases fp with
 |none=>
  obtain⟨h0,rfl⟩:=h
  have fZ:xs=[]:=an5.1 h0
  subst fZ
  refine(Tryz.slices_Sort_int_none none 0 w).mono ?_
  rintro e w' ⟨rfl,rfl⟩
  exact⟨_,rfl,bZ.refl _,rfl,⟨by simp[iZ],h0,rfl⟩,by rw[←hw];exact ag.refl _ _⟩
 |some b=>
  obtain⟨l,c,rfl,ho,hc,oY,ht⟩:=h
  obtain⟨T,fr,hb⟩:=Pv ho
  rw[anw]at ht
  have bX:∀j,j<xs.length→l[j]? =some (i64 xs[j]!):=fun j hj=>by
   have:(xs.map i64)[j]? =some (i64 xs[j]!):=by rw[anR,ans hj];simp[hj]
   rw[←ht,an9,if_pos hj]at this
   exact this
  have hH:Holds (Value.int .i64) w b 0 xs.toArray:=fun j hj=>by
   rw[List.size_toArray]at hj
   refine⟨?_,xG (by rw[hw];exact ho) _⟩
   rw[nq (l:=l) rfl (ae (by rw[hw];exact ho))]
   simp only[ant]
   rw[bX j hj]
   simp[hj]
  refine(Tryz.slices_Sort_int b 0 c xs w hH (by rw[hw];exact aA ho) (by omega)).mono ?_
  rintro e w' ⟨rfl,n,os,rfl⟩
  have cK:=Hn 0 (iZ xs) l (by rw[mL];omega)
  have aO:=aA ho
  have iB:(grow (putRow (Value.int .i64) (Sort.ahead w n) b 0 (iZ xs).toArray) os).heap=(H.modify b (onCells (putCells (Value.int .i64) 0 (iZ xs).toArray)))++os:=by
   rw[←hw];rfl
  have bW:((H.modify b (onCells (putCells (Value.int .i64) 0 (iZ xs).toArray)))++os)[b]? =some (.cells (putCells (Value.int .i64) 0 (iZ xs).toArray l.toArray) T fr):=by
   rw[aoY (by simpa using aO),aoz,if_pos rfl,hb]
   rfl
  refine⟨_,rfl,⟨rfl,rfl⟩,rfl,⟨by simp[mL],l.take 0++(iZ xs).map i64++l.drop (0+(iZ xs).length),c,rfl,?_,hc,?_,?_⟩,?_⟩
  ·show Hp.own (grow (putRow (Value.int .i64) (Sort.ahead w n) b 0 (iZ xs).toArray) os).heap b=_
   rw[iB,←cK]
   unfold Hp.own at ho ⊢
   rw[hb]at ho
   rw[bW]
   simp only at ho ⊢
   split at ho
   ·rename_i hf
    simp only[hf,if_true]
   ·cases ho
  ·simp only[List.take_zero,aoB,anD,anQ,List.length_drop,mL]
   omega
  ·rw[anw,List.take_zero,aoB]
   exact List.take_left' (by simp[mL])
  ·refine⟨?_,fun k hk hn=>?_⟩
   ·show _≤(grow (putRow (Value.int .i64) (Sort.ahead w n) b 0 (iZ xs).toArray) os).heap.size
    rw[iB];simp
   ·show(grow (putRow (Value.int .i64) (Sort.ahead w n) b 0 (iZ xs).toArray) os).heap[k]? =_
    rw[iB,aoY (by simpa using hk),aoz,if_neg (fun e=>hn (by rw[e]))]
end Go.Proofs.YtjlnnljohemifaaGreat
