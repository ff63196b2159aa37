/- Texts put behind each other. -/
import Derived.Test.YthpjfeolagohkaaGreatK98
import Derived.Test.YthpjfeolagohkaaGreatK6
import Derived.Test.YthpjfeolagohkaaGreatK19
import Derived.Shelf.Sort.Plain
import Derived.Shelf.Slices.In.SortNone
import Derived.Shelf.Strings.Repeat
import Derived.Shelf.Strings.Builder1
set_option maxRecDepth 100000
set_option maxHeartbeats 8000000
set_option linter.unusedVariables false
set_option linter.unusedSimpArgs false
namespace Go.Proofs.YthpjfeolagohkaaGreat
open Go Go.Vc Go.Sort
def iM(xs:List Int):List Int:=xs.mergeSort fun x y=>decide (x≤y)
theorem pW(xs:List Int):(iM xs).length=xs.length:=List.length_mergeSort _
theorem IR{H:Hp}{b:Nat}{l:List Value}(h:H.own b=some l):∃T fr,H[b]? =some (.cells l.toArray T fr):=by
 unfold Hp.own at h
 split at h
 ·rename_i c t fr hb
  split at h
  ·injection h with h
   exact⟨t,fr,by rw[hb,←h]⟩
  ·cases h
 ·cases h
theorem HM(off:Nat)(d:List Int)(l:List Value)(h:off+d.length≤l.length):(putCells (Value.int .i64) off d.toArray l.toArray).toList=l.take off++d.map i64++l.drop (off+d.length):=by
 apply ao7
 intro k
 rw[aqt]
 simp only[putCells,Array.getElem?_mapIdx,ap0,apP]
 by_cases h1:k<off
 ·rw[apk,aoF (by rw[aoS];omega),aoU,if_pos h1,aop (by omega)]
  simp;omega
 ·by_cases h2:k<off+d.length
  ·rw[aoF (by simp;omega),aoP (by rw[aoS];omega),aoS,aqd (by omega),aoG,aop (by omega),aop (by omega)]
   simp only[Option.map_some]
   rw[if_pos ⟨by omega,h2⟩]
   congr 2
   simp[show k - off<d.length by omega]
  ·rw[aoP (by simp;omega),aoX]
   simp only[aoy,aoS,aoA,aqd (show off≤l.length by omega)]
   rw[show off+d.length+(k - (off+d.length))=k by omega]
   cases hk:l[k]? with
   |none=>rfl
   |some x=>simp;omega
theorem CI{H:Hp}{sv:Value}{xs:List Int}{fp:Option Nat}(h:Sl H 1 sv xs.length (xs.map i64) fp)(hl:xs.length≤1000000000):
  af Tryz.prog sK [sv] H fun v H'=>ar (v= .tuple [].toArray∧Sl H' 1 sv xs.length ((iM xs).map i64) fp∧ag (fun z=>fp=some z) H H'):=fun w hw=>by
 obtain⟨hx,h⟩:=h
 cases fp with
 |none=>
  obtain⟨h0,rfl⟩:=h
  have fL:xs=[]:=ao4.1 h0
  subst fL
  refine(Tryz.slices_Sort_int_none none 0 w).mono ?_
  rintro e w' ⟨rfl,rfl⟩
  exact⟨_,rfl,bW.refl _,rfl,⟨by simp[iM],h0,rfl⟩,by rw[←hw];exact ag.refl _ _⟩
 |some b=>
  obtain⟨l,c,rfl,ho,hc,rS,ht⟩:=h
  obtain⟨T,fr,hb⟩:=IR ho
  rw[aos]at ht
  have aV:∀j,j<xs.length→l[j]? =some (i64 xs[j]!):=fun j hj=>by
   have:(xs.map i64)[j]? =some (i64 xs[j]!):=by rw[aoG,aop hj];simp[hj]
   rw[←ht,aoU,if_pos hj]at this
   exact this
  have hH:Holds (Value.int .i64) w b 0 xs.toArray:=fun j hj=>by
   rw[apP]at hj
   refine⟨?_,oM (by rw[hw];exact ho) _⟩
   rw[fK (l:=l) rfl (ae (by rw[hw];exact ho))]
   simp only[aor]
   rw[aV j hj]
   simp[hj]
  refine(Tryz.slices_Sort_int b 0 c xs w hH (by rw[hw];exact aB ho) (by omega)).mono ?_
  rintro e w' ⟨rfl,n,os,rfl⟩
  have cG:=HM 0 (iM xs) l (by rw[pW];omega)
  have aK:=aB ho
  have fy:(grow (putRow (Value.int .i64) (Sort.ahead w n) b 0 (iM xs).toArray) os).heap=(H.modify b (onCells (putCells (Value.int .i64) 0 (iM xs).toArray)))++os:=by
   rw[←hw];rfl
  have bQ:((H.modify b (onCells (putCells (Value.int .i64) 0 (iM xs).toArray)))++os)[b]? =some (.cells (putCells (Value.int .i64) 0 (iM xs).toArray l.toArray) T fr):=by
   rw[apA (by simpa using aK),apj,if_pos rfl,hb]
   rfl
  refine⟨_,rfl,⟨rfl,rfl⟩,rfl,⟨by simp[pW],l.take 0++(iM xs).map i64++l.drop (0+(iM xs).length),c,rfl,?_,hc,?_,?_⟩,?_⟩
  ·show Hp.own (grow (putRow (Value.int .i64) (Sort.ahead w n) b 0 (iM xs).toArray) os).heap b=_
   rw[fy,←cG]
   unfold Hp.own at ho ⊢
   rw[hb]at ho
   rw[bQ]
   simp only at ho ⊢
   split at ho
   ·rename_i hf
    simp only[hf,if_true]
   ·cases ho
  ·simp only[ap1,apD,aoy,aoA,apV,pW]
   omega
  ·rw[aos,ap1,apD]
   exact aqk (by simp[pW])
  ·refine⟨?_,fun k hk hn=>?_⟩
   ·show _≤(grow (putRow (Value.int .i64) (Sort.ahead w n) b 0 (iM xs).toArray) os).heap.size
    rw[fy];simp
   ·show(grow (putRow (Value.int .i64) (Sort.ahead w n) b 0 (iM xs).toArray) os).heap[k]? =_
    rw[fy,apA (by simpa using hk),apj,if_neg (fun e=>hn (by rw[e]))]
end Go.Proofs.YthpjfeolagohkaaGreat

namespace Go.Proofs.YthpjfeolagohkaaGreat
open Go Go.Vc Go.Shelf Go.RowKit
theorem DE(H:Hp)(s:List UInt8)(c:Nat)(hl:s.length≤1000)(hc:c≤1000000):
  af Tryz.prog 45 [CB s,i64 (c:Int)] H fun v H'=>ar (v=CB (Lib.repeatL s c)∧am H H'):=fun w hw=>by
 have hs:(⟨s.toArray⟩:ByteArray).size=s.length:=by simp[ByteArray.size]
 have hm:s.length*c≤1000*1000000:=Nat.mul_le_mul hl hc
 refine(Tryz.strings_Repeat ⟨s.toArray⟩ c w (by omega) (by rw[hs];omega)).mono ?_
 rintro e w' ⟨rfl,hb⟩
 refine⟨_,rfl,⟨hb.os,hb.output⟩,rfl,?_⟩
 rw[←hw]
 exact⟨hb.size,fun k hk _=>hb.block k hk⟩
theorem FR(b:UInt8)(c:Nat):Lib.repeatL [b] c=List.replicate c b:=by
 induction c with
 |zero=>rfl
 |succ c ih=>rw[Lib.repeatL,ih,aoZ];rfl
end Go.Proofs.YthpjfeolagohkaaGreat

namespace Go.Proofs.YthpjfeolagohkaaGreat
open Go Go.Vc Go.Shelf Go.RowKit
theorem sizeBuilder:(Tryz.prog.info? 94).map (·.size)=some 2:=by kernel_rfl
theorem liesBuilder:liesAt Tryz.prog Tryz.prog.depth 94 (2 / Tryz.prog.cellsOf 94) 0 94 1=true:=by kernel_rfl
theorem FS(b:Nat)(w:World)(h0:w.cell? ⟨b,0,none⟩=some (.pointer (some ⟨b,0,none⟩))):
  Calls Tryz.prog 74 #[.pointer (some ⟨b,0,none⟩)] w fun e w'=>e= .returned (.tuple #[])∧w'=w:=by
 obtain⟨j,hj,_⟩:=Option.map_eq_some_iff.1 sizeBuilder
 have mixed:=Tryz.checked.mixed
 have t72:=Tryz.underlying94;have a72:=Tryz.isAgg94;have z72:=Tryz.sizeOf94;have v72:=Tryz.zeroValue94;have u72:=run_underlying Tryz.underlying94
 have t70:=Tryz.underlying92;have a70:=Tryz.isAgg92;have z70:=Tryz.sizeOf92;have v70:=Tryz.zeroValue92;have u70:=run_underlying Tryz.underlying92
 have t4:=Tryz.underlying4;have a4:=Tryz.isAgg4;have z4:=Tryz.sizeOf4;have v4:=Tryz.zeroValue4;have u4:=run_underlying Tryz.underlying4
 have t164:=Tryz.underlying202;have a164:=Tryz.isAgg202;have z164:=Tryz.sizeOf202;have v164:=Tryz.zeroValue202;have abE:=run_underlying Tryz.underlying202
 go_enter Tryz.func74,Tryz.ntmps74
 go_wp2
 rw[Lib.run_neq_ptr_same w _ t70 hj]
 go_wp2
 go_end0
 exact⟨rfl,rfl⟩
theorem Ej(b:Nat)(w:World)(h0:w.cell? ⟨b,0,none⟩=some (.pointer none))(zb:w.shape? b=some (94,2))(hfz:w.frozen? ⟨b,0,none⟩=false):
  Calls Tryz.prog 74 #[.pointer (some ⟨b,0,none⟩)] w fun e w'=>e= .returned (.tuple #[])∧w'=w.setCell ⟨b,0,none⟩ (.pointer (some ⟨b,0,none⟩)):=by
 obtain⟨j,hj,hjs⟩:=Option.map_eq_some_iff.1 sizeBuilder
 have mixed:=Tryz.checked.mixed
 have t72:=Tryz.underlying94;have a72:=Tryz.isAgg94;have z72:=Tryz.sizeOf94;have v72:=Tryz.zeroValue94;have u72:=run_underlying Tryz.underlying94
 have t70:=Tryz.underlying92;have a70:=Tryz.isAgg92;have z70:=Tryz.sizeOf92;have v70:=Tryz.zeroValue92;have u70:=run_underlying Tryz.underlying92
 have t4:=Tryz.underlying4;have a4:=Tryz.isAgg4;have z4:=Tryz.sizeOf4;have v4:=Tryz.zeroValue4;have u4:=run_underlying Tryz.underlying4
 have t164:=Tryz.underlying202;have a164:=Tryz.isAgg202;have z164:=Tryz.sizeOf202;have v164:=Tryz.zeroValue202;have abE:=run_underlying Tryz.underlying202
 go_enter Tryz.func74,Tryz.ntmps74
 go_wp2
 rw[Lib.run_to_unsafe w ⟨b,0,none⟩ t70 t164 hj (by rw[hjs];decide) zb (Nat.zero_lt_succ 1)]
 simp only[Result.andThen]
 rw[Oper.upon_value]
 go_wp2
 rw[run_callFunc_extern Tryz.func117 (by kernel_rfl) (by kernel_rfl) (by kernel_rfl) (e:=Extern.AbiNoEscape.same) (by kernel_rfl)]
 rw[Lib.run_noEscape]
 simp only[Result.andThen]
 rw[Oper.upon_value]
 go_wp2
 rw[Lib.run_from_unsafe w ⟨b,0,none⟩ t164 t70 hj zb liesBuilder]
 simp only[Result.andThen]
 rw[Oper.upon_value]
 go_wp2
 go_end0
 exact⟨rfl,rfl⟩
theorem FT(B b:Nat)(bs:List Value)(w:World)(h:Lib.IsBuilder 94 5 B b bs w):
  Calls Tryz.prog 74 #[.pointer (some ⟨b,0,none⟩)] w fun e w'=>e= .returned (.tuple #[])∧(Lib.BuilderAt 94 5 B b (.pointer (some ⟨b,0,none⟩)) bs w'∧Below B w w'):=by
 rcases h with h|h
 ·refine(Ej b w h.cell0 h.shape h.frozen0).mono ?_
  rintro e w' ⟨rfl,rfl⟩
  exact⟨rfl,h.used _,(Below.refl B w).setCell (p:=⟨b,0,none⟩) h.1 _⟩
 ·refine(FS b w h.cell0).mono ?_
  rintro e w' ⟨rfl,rfl⟩
  exact⟨rfl,h,Below.refl B _⟩
theorem Su:(Tryz.prog.info? 5).map (fun i=>(i.zero,i.size,i.bytes))=some (some (.int .u8 0),1,1):=by kernel_rfl
theorem neB5:94≠5:=by decide
theorem Ek(B b:Nat)(bs:List Value)(s:ByteArray)(w:World)(h:Lib.IsBuilder 94 5 B b bs w)(aR:bs.length+s.size≤140737488355328)(hBw:B≤w.heap.size):
  Calls Tryz.prog 42 #[.pointer (some ⟨b,0,none⟩),.string s] w fun e w'=>e= .returned (.tuple #[.int .i64 s.size,.nilIface])∧(Lib.BuilderAt 94 5 B b (.pointer (some ⟨b,0,none⟩)) (bs++Lib.strCells s) w'∧Below B w w'):=by
 obtain⟨i0,hi,IB,El,dP⟩:=info_parts Su
 have mixed:=Tryz.checked.mixed
 have t72:=Tryz.underlying94;have a72:=Tryz.isAgg94;have z72:=Tryz.sizeOf94;have v72:=Tryz.zeroValue94;have u72:=run_underlying Tryz.underlying94
 have t70:=Tryz.underlying92;have a70:=Tryz.isAgg92;have z70:=Tryz.sizeOf92;have v70:=Tryz.zeroValue92;have u70:=run_underlying Tryz.underlying92
 have t37:=Tryz.underlying44;have a37:=Tryz.isAgg44;have z37:=Tryz.sizeOf44;have v37:=Tryz.zeroValue44;have u37:=run_underlying Tryz.underlying44
 have t3:=Tryz.underlying3;have a3:=Tryz.isAgg3;have z3:=Tryz.sizeOf3;have v3:=Tryz.zeroValue3;have u3:=run_underlying Tryz.underlying3
 have t9:=Tryz.underlying9;have a9:=Tryz.isAgg9;have z9:=Tryz.sizeOf9;have v9:=Tryz.zeroValue9;have u9:=run_underlying Tryz.underlying9
 have t4:=Tryz.underlying4;have a4:=Tryz.isAgg4;have z4:=Tryz.sizeOf4;have v4:=Tryz.zeroValue4;have u4:=run_underlying Tryz.underlying4
 have t164:=Tryz.underlying202;have a164:=Tryz.isAgg202;have z164:=Tryz.sizeOf202;have v164:=Tryz.zeroValue202;have abE:=run_underlying Tryz.underlying202
 have t5:=Tryz.underlying5;have a5:=Tryz.isAgg5;have z5:=Tryz.sizeOf5;have v5:=Tryz.zeroValue5;have u5:=run_underlying Tryz.underlying5
 have aj3:∀args w,(callFunc 74 args).run Tryz.prog w= .ok (.enter 74 args) w:=enters_of Tryz.func74 (by kernel_rfl) rfl
 go_enter Tryz.func42,Tryz.ntmps42
 go_wp2_with (go_at_fn 74;refine(FT B b bs _ h).mono ?_)
 rintro e w1 ⟨rfl,h1,FU⟩
 obtain⟨hB,v,XN,Qj,aQ⟩:=h1
 have c0:w1.cell? ⟨b,0,none⟩=some (.pointer (some ⟨b,0,none⟩)):=by rw[Lib.cell_of_heap XN];rfl
 have c1:w1.cell? ⟨b,1,none⟩=some v:=by rw[Lib.cell_of_heap XN];rfl
 go_wp2_with (at_builtin;refine Lib.wpList_append_own_string _ rfl _ _ 44 9 rfl B 5 i0 t37 t9 hi IB El dP _ _ _ rfl Qj s rfl ?c3 ?c4 ?c5 ?_)
 case c3=>unfold maxLen;omega
 case c4=>omega
 case c5=>have:=FU.size;omega
 intro v' w2 Wa Wb _
 have aK:b<w1.heap.size:=by
  rcases apK b w1.heap.size with h'|h'
  ·exact h'
  ·simp[apB h']at XN
 have qv:w2.heap[b]? =some (.cells #[.pointer (some ⟨b,0,none⟩),v] 94 (0,0)):=by
  rw[Wb.block b aK (fun e=>aQ e.symm)]
  exact XN
 have d0:w2.cell? ⟨b,0,none⟩=some (.pointer (some ⟨b,0,none⟩)):=by rw[Lib.cell_of_heap qv];rfl
 have d1:w2.cell? ⟨b,1,none⟩=some v:=by rw[Lib.cell_of_heap qv];rfl
 have f1:w2.frozen? ⟨b,1,none⟩=false:=Lib.frozen_of_heap qv 1
 obtain⟨ao,n',cap,rfl⟩:∃ao n' cap,v'= .slice ao n' cap:=by
  rcases Wa.2 with ⟨hv,_⟩| ⟨g,cap,vE,hv,_⟩
  ·exact⟨_,_,_,hv⟩
  ·exact⟨_,_,_,hv⟩
 go_wp2
 go_ret2
 refine⟨rfl,?_,?_⟩
 ·exact Lib.BuilderAt.put (T:=94) (e:=5) hB qv (bs':=bs++Lib.strCells s) (by simpa[Lib.strCells_length]using Wa) neB5
 ·exact(FU.grown Wb (by have:=FU.size;omega) (fun k hk=>(Qj.lt k hk).1)).setCell (p:=⟨b,1,none⟩) hB _
theorem FV{T e:TypeId}{B b:Nat}{bs:List Value}{w w':World}(h:Lib.IsBuilder T e B b bs w)(hh:w'.heap=w.heap):Lib.IsBuilder T e B b bs w':=by
 unfold Lib.IsBuilder Lib.BuilderAt World.ownsRow at*
 rw[hh]
 exact h
def FW(B b:Nat)(s:List UInt8)(H:Hp):Prop:=B≤H.size∧∀w:World,w.heap=H→Lib.IsBuilder 94 5 B b (Lib.byteCells s) w
theorem FW.of{B b:Nat}{s:List UInt8}{w:World}(hB:B≤w.heap.size)(h:Lib.IsBuilder 94 5 B b (Lib.byteCells s) w):FW B b s w.heap:=⟨hB,fun w' hw=>FV h hw⟩
theorem FW.new{B:Nat}(H:Hp)(hB:B≤H.size):FW B H.size [] (H.new 94 [.pointer none,.slice none 0 0]):=by
 refine⟨by rw[aq];omega,fun w hw=>.inl ⟨hB,.slice none 0 0,?_,⟨by simp[Lib.byteCells],.inl ⟨rfl,rfl⟩⟩,by simp[Value.ownBlock]⟩⟩
 rw[hw]
 simp[Hp.new]
theorem AX{B:Nat}{w w':World}(h:Below B w w'):bW w w'∧ag (fun z=>B≤z) w.heap w'.heap:=⟨⟨h.os,h.output⟩,h.size,fun k _ hk=>h.block k (Nat.lt_of_not_le hk)⟩
theorem CJ{B b:Nat}{s:List UInt8}{H:Hp}(h:FW B b s H)(t:List UInt8)(hl:s.length+t.length≤1000000000000):
  af Tryz.prog jZ [ptr b,CB t] H fun v H'=>ar (v= .tuple [i64 t.length,.nilIface].toArray∧FW B b (s++t) H'∧ag (fun z=>B≤z) H H'):=fun w hw=>by
 obtain⟨hB,h⟩:=h
 have hs:(⟨t.toArray⟩:ByteArray).size=t.length:=by simp[ByteArray.size]
 refine(Ek B b (Lib.byteCells s) ⟨t.toArray⟩ w (h w hw) (by rw[hs,Lib.byteCells_length];omega) (by rw[hw];exact hB)).mono ?_
 rintro e w' ⟨rfl,hb,UK⟩
 obtain⟨s1,s2⟩:=AX UK
 refine⟨_,rfl,s1,by rw[hs],?_,by rw[←hw];exact s2⟩
 have e1:Lib.byteCells s++Lib.strCells ⟨t.toArray⟩=Lib.byteCells (s++t):=by simp[Lib.byteCells,Lib.strCells]
 rw[e1]at hb
 exact FW.of (by have:=UK.size;rw[hw]at this;omega) (.inr hb)
theorem JO{B b:Nat}{s:List UInt8}{H:Hp}(h:FW B b s H):
  af Tryz.prog 43 [ptr b] H fun v H'=>ar (v=CB s∧ag (fun z=>B≤z) H H'):=fun w hw=>by
 obtain⟨hB,h⟩:=h
 refine(Tryz.Builder_String_any B b s w (h w hw) (by rw[hw];exact hB)).mono ?_
 rintro e w' ⟨rfl,UK⟩
 obtain⟨s1,s2⟩:=AX UK
 exact⟨_,rfl,s1,rfl,by rw[←hw];exact s2⟩
end Go.Proofs.YthpjfeolagohkaaGreat
