/- Texts put behind each other. -/
import Derived.Test.YtjlnnljohemifaaGreatK98
import Derived.Test.YtjlnnljohemifaaGreatK3
import Derived.Test.YtjlnnljohemifaaGreatK17
import Derived.Shelf.Sort.Plain
import Derived.Shelf.Slices.In.SortNone
set_option linter.unusedVariables false
set_option linter.unusedSimpArgs false
namespace Go.Proofs.YtjlnnljohemifaaGreat
open Go Go.Vc Go.Sort
def lO(xs:List Int):List Int:=xs.mergeSort fun x y=>decide (x≤y)
theorem th(xs:List Int):(lO xs).length=xs.length:=List.length_mergeSort _
theorem PF{H:Hp}{b:Nat}{l:List Value}(h:H.own b=some l):∃T fr,H[b]? =some (.cells l.toArray T fr):=by
 unfold Hp.own at h
 split at h
 ·rename_i c t fr hb
  split at h
  ·injection h with h
   exact⟨t,fr,by rw[hb,←h]⟩
  ·cases h
 ·cases h
theorem IB(off:Nat)(d:List Int)(l:List Value)(h:off+d.length≤l.length):(putCells (Value.int .i64) off d.toArray l.toArray).toList=l.take off++d.map i64++l.drop (off+d.length):=by
 apply amN
 intro k
 rw[Array.getElem?_toList]
 simp only[putCells,Array.getElem?_mapIdx,anL,List.size_toArray]
 by_cases h1:k<off
 ·rw[an5,amn (by rw[amS];omega),amE,if_pos h1,al5 (by omega)]
  simp;omega
 ·by_cases h2:k<off+d.length
  ·rw[amn (by simp;omega),amw (by rw[amS];omega),amS,an4 (by omega),amo,al5 (by omega),al5 (by omega)]
   simp only[Option.map_some]
   rw[if_pos ⟨by omega,h2⟩]
   congr 2
   simp[show k - off<d.length by omega]
  ·rw[amw (by simp;omega),amF]
   simp only[amh,amS,amu,an4 (show off≤l.length by omega)]
   rw[show off+d.length+(k - (off+d.length))=k by omega]
   cases hk:l[k]? with
   |none=>rfl
   |some x=>simp;omega
set_option maxHeartbeats 1000000 in
theorem DP{H:Hp}{sv:Value}{xs:List Int}{fp:Option Nat}(h:Sl H 1 sv xs.length (xs.map i64) fp)(hl:xs.length≤1000000000):
  ah Tryz.prog vx [sv] H fun v H'=>ay (v= .tuple [].toArray∧Sl H' 1 sv xs.length ((lO xs).map i64) fp∧ai (fun z=>fp=some z) H H'):=fun w hw=>by
 obtain⟨hx,h⟩:=h
 cases fp with
 |none=>
  obtain⟨h0,rfl⟩:=h
  have iq:xs=[]:=amD.1 h0
  subst iq
  refine(Tryz.slices_Sort_int_none none 0 w).mono ?_
  rintro e w' ⟨rfl,rfl⟩
  exact⟨_,rfl,bZ.refl _,rfl,⟨by simp[lO],h0,rfl⟩,by rw[←hw];exact ai.refl _ _⟩
 |some b=>
  obtain⟨l,c,rfl,ho,hc,zU,ht⟩:=h
  obtain⟨T,fr,hb⟩:=PF ho
  rw[ama]at ht
  have bE:∀j,j<xs.length→l[j]? =some (i64 xs[j]!):=fun j hj=>by
   have:(xs.map i64)[j]? =some (i64 xs[j]!):=by rw[amo,al5 hj];simp[hj]
   rw[←ht,amE,if_pos hj]at this
   exact this
  have hH:Holds (Value.int .i64) w b 0 xs.toArray:=fun j hj=>by
   rw[List.size_toArray]at hj
   refine⟨?_,zE (by rw[hw];exact ho) _⟩
   rw[qw (l:=l) rfl (ae (by rw[hw];exact ho))]
   simp only[al6]
   rw[bE j hj]
   simp[hj]
  refine(Tryz.slices_Sort_int b 0 c xs w hH (by rw[hw];exact aO ho) (by omega)).mono ?_
  rintro e w' ⟨rfl,n,os,rfl⟩
  have cU:=IB 0 (lO xs) l (by rw[th];omega)
  have aR:=aO ho
  have kD:(grow (putRow (Value.int .i64) (Sort.ahead w n) b 0 (lO xs).toArray) os).heap=(H.modify b (onCells (putCells (Value.int .i64) 0 (lO xs).toArray)))++os:=by
   rw[←hw];rfl
  have ce:((H.modify b (onCells (putCells (Value.int .i64) 0 (lO xs).toArray)))++os)[b]? =some (.cells (putCells (Value.int .i64) 0 (lO xs).toArray l.toArray) T fr):=by
   rw[ans (by simpa using aR),am5,if_pos rfl,hb]
   rfl
  refine⟨_,rfl,⟨rfl,rfl⟩,rfl,⟨by simp[th],l.take 0++(lO xs).map i64++l.drop (0+(lO xs).length),c,rfl,?_,hc,?_,?_⟩,?_⟩
  ·show Hp.own (grow (putRow (Value.int .i64) (Sort.ahead w n) b 0 (lO xs).toArray) os).heap b=_
   rw[kD,←cU]
   unfold Hp.own at ho ⊢
   rw[hb]at ho
   rw[ce]
   simp only at ho ⊢
   split at ho
   ·rename_i hf
    simp only[hf,if_true]
   ·cases ho
  ·simp only[List.take_zero,ano,amh,amu,List.length_drop,th]
   omega
  ·rw[ama,List.take_zero,ano]
   exact List.take_left' (by simp[th])
  ·refine⟨?_,fun k hk hn=>?_⟩
   ·show _≤(grow (putRow (Value.int .i64) (Sort.ahead w n) b 0 (lO xs).toArray) os).heap.size
    rw[kD];simp
   ·show(grow (putRow (Value.int .i64) (Sort.ahead w n) b 0 (lO xs).toArray) os).heap[k]? =_
    rw[kD,ans (by simpa using hk),am5,if_neg (fun e=>hn (by rw[e]))]
end Go.Proofs.YtjlnnljohemifaaGreat
