/- Texts put behind each other. -/
import Derived.Test.YthpjfeolagohkaaGreatK98
import Derived.Test.YthpjfeolagohkaaGreatK6
import Derived.Test.YthpjfeolagohkaaGreatK19
import Derived.Shelf.Sort.Plain
import Derived.Shelf.Slices.In.SortNone
set_option maxRecDepth 100000
set_option maxHeartbeats 8000000
set_option linter.unusedVariables false
set_option linter.unusedSimpArgs false
namespace Go.Proofs.YthpjfeolagohkaaGreat
open Go Go.Vc Go.Sort
def jm(xs:List Int):List Int:=xs.mergeSort fun x y=>decide (x≤y)
theorem nj(xs:List Int):(jm xs).length=xs.length:=List.length_mergeSort _
theorem QN{H:Hp}{b:Nat}{l:List Value}(h:H.own b=some l):∃T fr,H[b]? =some (.cells l.toArray T fr):=by
 unfold Hp.own at h
 split at h
 ·rename_i c t fr hb
  split at h
  ·injection h with h
   exact⟨t,fr,by rw[hb,←h]⟩
  ·cases h
 ·cases h
theorem IJ(off:Nat)(d:List Int)(l:List Value)(h:off+d.length≤l.length):(putCells (Value.int .i64) off d.toArray l.toArray).toList=l.take off++d.map i64++l.drop (off+d.length):=by
 apply aqX
 intro k
 rw[Array.getElem?_toList]
 simp only[putCells,Array.getElem?_mapIdx,arW,List.size_toArray]
 by_cases h1:k<off
 ·rw[arz,aqs (by rw[aqO];omega),aqG,if_pos h1,aqb (by omega)]
  simp;omega
 ·by_cases h2:k<off+d.length
  ·rw[aqs (by simp;omega),aqD (by rw[aqO];omega),aqO,arJ (by omega),aqz,aqb (by omega),aqb (by omega)]
   simp only[Option.map_some]
   rw[if_pos ⟨by omega,h2⟩]
   congr 2
   simp[show k - off<d.length by omega]
  ·rw[aqD (by simp;omega),aqJ]
   simp only[aqj,aqO,aqr,arJ (show off≤l.length by omega)]
   rw[show off+d.length+(k - (off+d.length))=k by omega]
   cases hk:l[k]? with
   |none=>rfl
   |some x=>simp;omega
theorem qU{H:Hp}{sv:Value}{xs:List Int}{fp:Option Nat}(h:Sl H 1 sv xs.length (xs.map i64) fp)(hl:xs.length≤1000000000):
  af Tryz.prog tV [sv] H fun v H'=>ax (v= .tuple [].toArray∧Sl H' 1 sv xs.length ((jm xs).map i64) fp∧ag (fun z=>fp=some z) H H'):=fun w hw=>by
 obtain⟨hx,h⟩:=h
 cases fp with
 |none=>
  obtain⟨h0,rfl⟩:=h
  have gB:xs=[]:=aqN.1 h0
  subst gB
  refine(Tryz.slices_Sort_int_none none 0 w).mono ?_
  rintro e w' ⟨rfl,rfl⟩
  exact⟨_,rfl,cu.refl _,rfl,⟨by simp[jm],h0,rfl⟩,by rw[←hw];exact ag.refl _ _⟩
 |some b=>
  obtain⟨l,c,rfl,ho,hc,oP,ht⟩:=h
  obtain⟨T,fr,hb⟩:=QN ho
  rw[aqd]at ht
  have cj:∀j,j<xs.length→l[j]? =some (i64 xs[j]!):=fun j hj=>by
   have:(xs.map i64)[j]? =some (i64 xs[j]!):=by rw[aqz,aqb hj];simp[hj]
   rw[←ht,aqG,if_pos hj]at this
   exact this
  have hH:Holds (Value.int .i64) w b 0 xs.toArray:=fun j hj=>by
   rw[List.size_toArray]at hj
   refine⟨?_,yK (by rw[hw];exact ho) _⟩
   rw[nS (l:=l) rfl (ae (by rw[hw];exact ho))]
   simp only[aqa]
   rw[cj j hj]
   simp[hj]
  refine(Tryz.slices_Sort_int b 0 c xs w hH (by rw[hw];exact aB ho) (by omega)).mono ?_
  rintro e w' ⟨rfl,n,os,rfl⟩
  have cU:=IJ 0 (jm xs) l (by rw[nj];omega)
  have aN:=aB ho
  have iK:(grow (putRow (Value.int .i64) (Sort.ahead w n) b 0 (jm xs).toArray) os).heap=(H.modify b (onCells (putCells (Value.int .i64) 0 (jm xs).toArray)))++os:=by
   rw[←hw];rfl
  have ci:((H.modify b (onCells (putCells (Value.int .i64) 0 (jm xs).toArray)))++os)[b]? =some (.cells (putCells (Value.int .i64) 0 (jm xs).toArray l.toArray) T fr):=by
   rw[arC (by simpa using aN),arb,if_pos rfl,hb]
   rfl
  refine⟨_,rfl,⟨rfl,rfl⟩,rfl,⟨by simp[nj],l.take 0++(jm xs).map i64++l.drop (0+(jm xs).length),c,rfl,?_,hc,?_,?_⟩,?_⟩
  ·show Hp.own (grow (putRow (Value.int .i64) (Sort.ahead w n) b 0 (jm xs).toArray) os).heap b=_
   rw[iK,←cU]
   unfold Hp.own at ho ⊢
   rw[hb]at ho
   rw[ci]
   simp only at ho ⊢
   split at ho
   ·rename_i hf
    simp only[hf,if_true]
   ·cases ho
  ·simp only[List.take_zero,aq3,aqj,aqr,arD,nj]
   omega
  ·rw[aqd,List.take_zero,aq3]
   exact List.take_left' (by simp[nj])
  ·refine⟨?_,fun k hk hn=>?_⟩
   ·show _≤(grow (putRow (Value.int .i64) (Sort.ahead w n) b 0 (jm xs).toArray) os).heap.size
    rw[iK];simp
   ·show(grow (putRow (Value.int .i64) (Sort.ahead w n) b 0 (jm xs).toArray) os).heap[k]? =_
    rw[iK,arC (by simpa using hk),arb,if_neg (fun e=>hn (by rw[e]))]
end Go.Proofs.YthpjfeolagohkaaGreat
