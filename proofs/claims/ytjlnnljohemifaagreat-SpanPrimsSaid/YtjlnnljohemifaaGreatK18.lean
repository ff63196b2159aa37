/- Texts put behind each other. -/
import Derived.Test.YtjlnnljohemifaaGreatK98
import Derived.Test.YtjlnnljohemifaaGreatK3
import Derived.Test.YtjlnnljohemifaaGreatK17
import Derived.Shelf.Sort.Plain
import Derived.Shelf.Slices.In.SortNone
set_option maxRecDepth 100000
set_option maxHeartbeats 8000000
set_option linter.unusedVariables false
set_option linter.unusedSimpArgs false
namespace Go.Proofs.YtjlnnljohemifaaGreat
open Go Go.Vc Go.Sort
def je(xs:List Int):List Int:=xs.mergeSort fun x y=>decide (x≤y)
theorem mP(xs:List Int):(je xs).length=xs.length:=List.length_mergeSort _
theorem PE{H:Hp}{b:Nat}{l:List Value}(h:H.own b=some l):∃T fr,H[b]? =some (.cells l.toArray T fr):=by
 unfold Hp.own at h
 split at h
 ·rename_i c t fr hb
  split at h
  ·injection h with h
   exact⟨t,fr,by rw[hb,←h]⟩
  ·cases h
 ·cases h
theorem HC(off:Nat)(d:List Int)(l:List Value)(h:off+d.length≤l.length):(putCells (Value.int .i64) off d.toArray l.toArray).toList=l.take off++d.map i64++l.drop (off+d.length):=by
 apply ao8
 intro k
 rw[Array.getElem?_toList]
 simp only[putCells,Array.getElem?_mapIdx,ap7,List.size_toArray]
 by_cases h1:k<off
 ·rw[apU,aox (by rw[aoX];omega),aoV,if_pos h1,aoh (by omega)]
  simp;omega
 ·by_cases h2:k<off+d.length
  ·rw[aox (by simp;omega),aoK (by rw[aoX];omega),aoX,apE (by omega),aoG,aoh (by omega),aoh (by omega)]
   simp only[Option.map_some]
   rw[if_pos ⟨by omega,h2⟩]
   congr 2
   simp[show k - off<d.length by omega]
  ·rw[aoK (by simp;omega),aoW]
   simp only[aor,aoX,aoF,apE (show off≤l.length by omega)]
   rw[show off+d.length+(k - (off+d.length))=k by omega]
   cases hk:l[k]? with
   |none=>rfl
   |some x=>simp;omega
theorem qj{H:Hp}{sv:Value}{xs:List Int}{fp:Option Nat}(h:Sl H 1 sv xs.length (xs.map i64) fp)(hl:xs.length≤1000000000):
  af Tryz.prog sZ [sv] H fun v H'=>aw (v= .tuple [].toArray∧Sl H' 1 sv xs.length ((je xs).map i64) fp∧ag (fun z=>fp=some z) H H'):=fun w hw=>by
 obtain⟨hx,h⟩:=h
 cases fp with
 |none=>
  obtain⟨h0,rfl⟩:=h
  have gf:xs=[]:=aoR.1 h0
  subst gf
  refine(Tryz.slices_Sort_int_none none 0 w).mono ?_
  rintro e w' ⟨rfl,rfl⟩
  exact⟨_,rfl,cf.refl _,rfl,⟨by simp[je],h0,rfl⟩,by rw[←hw];exact ag.refl _ _⟩
 |some b=>
  obtain⟨l,c,rfl,ho,hc,nT,ht⟩:=h
  obtain⟨T,fr,hb⟩:=PE ho
  rw[aol]at ht
  have bX:∀j,j<xs.length→l[j]? =some (i64 xs[j]!):=fun j hj=>by
   have:(xs.map i64)[j]? =some (i64 xs[j]!):=by rw[aoG,aoh hj];simp[hj]
   rw[←ht,aoV,if_pos hj]at this
   exact this
  have hH:Holds (Value.int .i64) w b 0 xs.toArray:=fun j hj=>by
   rw[List.size_toArray]at hj
   refine⟨?_,ya (by rw[hw];exact ho) _⟩
   rw[nA (l:=l) rfl (ae (by rw[hw];exact ho))]
   simp only[aoi]
   rw[bX j hj]
   simp[hj]
  refine(Tryz.slices_Sort_int b 0 c xs w hH (by rw[hw];exact aB ho) (by omega)).mono ?_
  rintro e w' ⟨rfl,n,os,rfl⟩
  have cN:=HC 0 (je xs) l (by rw[mP];omega)
  have aO:=aB ho
  have iD:(grow (putRow (Value.int .i64) (Sort.ahead w n) b 0 (je xs).toArray) os).heap=(H.modify b (onCells (putCells (Value.int .i64) 0 (je xs).toArray)))++os:=by
   rw[←hw];rfl
  have cd:((H.modify b (onCells (putCells (Value.int .i64) 0 (je xs).toArray)))++os)[b]? =some (.cells (putCells (Value.int .i64) 0 (je xs).toArray l.toArray) T fr):=by
   rw[apN (by simpa using aO),apm,if_pos rfl,hb]
   rfl
  refine⟨_,rfl,⟨rfl,rfl⟩,rfl,⟨by simp[mP],l.take 0++(je xs).map i64++l.drop (0+(je xs).length),c,rfl,?_,hc,?_,?_⟩,?_⟩
  ·show Hp.own (grow (putRow (Value.int .i64) (Sort.ahead w n) b 0 (je xs).toArray) os).heap b=_
   rw[iD,←cN]
   unfold Hp.own at ho ⊢
   rw[hb]at ho
   rw[cd]
   simp only at ho ⊢
   split at ho
   ·rename_i hf
    simp only[hf,if_true]
   ·cases ho
  ·simp only[List.take_zero,apk,aor,aoF,ap0,mP]
   omega
  ·rw[aol,List.take_zero,apk]
   exact List.take_left' (by simp[mP])
  ·refine⟨?_,fun k hk hn=>?_⟩
   ·show _≤(grow (putRow (Value.int .i64) (Sort.ahead w n) b 0 (je xs).toArray) os).heap.size
    rw[iD];simp
   ·show(grow (putRow (Value.int .i64) (Sort.ahead w n) b 0 (je xs).toArray) os).heap[k]? =_
    rw[iD,apN (by simpa using hk),apm,if_neg (fun e=>hn (by rw[e]))]
end Go.Proofs.YtjlnnljohemifaaGreat
