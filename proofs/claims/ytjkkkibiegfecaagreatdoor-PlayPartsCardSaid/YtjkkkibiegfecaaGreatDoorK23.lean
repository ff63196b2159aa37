/- Texts put behind each other. -/
import Derived.Test.YtjkkkibiegfecaaGreatDoorK98
import Derived.Test.YtjkkkibiegfecaaGreatDoorK9
import Derived.Test.YtjkkkibiegfecaaGreatDoorK21
import Derived.Shelf.Strings.Builder1
set_option maxRecDepth 100000
set_option maxHeartbeats 8000000
set_option linter.unusedVariables false
set_option linter.unusedSimpArgs false
namespace Go.Proofs.YtjkkkibiegfecaaGreatDoor
open Go Go.Vc Go.RowKit Go.Sort
def IJ(H:Hp):Prop:=∀w:World,w.heap=H→Lib.TabIs Tryz.prog w "internal/strconv.uint64pow10" .u64 Lib.pow10Tab
theorem rq{w w':World}(e:ai w.heap w'.heap){name:String}{cs:Array Value}(h:w.var? Tryz.prog name=some cs):w'.var? Tryz.prog name=some cs:=by
 unfold World.var? at*
 cases hg:Program.globalNamed Tryz.prog name with
 |none=>rw[hg]at h;cases h
 |some g=>
  rw[hg]at h
  simp only[Option.bind_some]at h ⊢
  have bf:g<w.heap.size:=by
   rcases ao3 g w.heap.size with h'|h'
   ·exact h'
   ·rw[apf h']at h;cases h
  rw[show w'.heap[g]? =w.heap[g]? from e.aO g bf (fun h=>h)]
  exact h
theorem IJ.fresh{H H':Hp}(h:IJ H)(e:ai H H'):IJ H':=fun w hw=>by
 have h0:=h {w with heap:=H} rfl
 exact rq (w:={w with heap:=H}) (w':=w) (by rw[hw];exact e) h0
theorem Oq(w:World)(k:Nat)(os:Array Obj):cz w (grow (w.drewN k) os)∧ai w.heap (grow (w.drewN k) os).heap:=by
 refine⟨⟨rfl,rfl⟩,⟨?_,fun b hb _=>?_⟩⟩
 ·show w.heap.size≤(w.heap++os).size
  rw[Array.size_append];omega
 ·show(w.heap++os)[b]? =w.heap[b]?
  rw[apr hb]
theorem Ou{f:FuncId}{args:List Value}{H:Hp}{v:Value}(h:∀w:World,w.heap=H→Calls Tryz.prog f args.toArray w fun e w'=>e= .returned v∧∃k os,w'=grow (w.drewN k) os):
  ag Tryz.prog f args H fun v' H'=>ap (v'=v∧ai H H'):=fun w hw=>by
 refine(h w hw).mono ?_
 rintro e w' ⟨rfl,k,os,rfl⟩
 obtain⟨h1,h2⟩:=Oq w k os
 exact⟨v,rfl,h1,rfl,by rw[←hw];exact h2⟩
theorem sP{H:Hp}(ht:IJ H){n:Int}(h0: -9223372036854775808≤n)(h1:n≤9223372036854775807):ag Tryz.prog wW [i64 n,i64 10] H fun v H'=>ap (v=aW (Lib.itoa n)∧ai H H'):=
 Ou fun w hw=>Tryz.strconv_FormatInt_10 n h0 h1 w (ht w hw)
theorem fI{u:Nat}(h:u<18446744073709551616):(Lib.decDigits u).length≤20:=by
 rw[Lib.decDigits_length]
 rcases Nat.eq_zero_or_pos u with h0|h0
 ·subst h0;rw[Lib.nDigits_small (by omega)];omega
 ·have:=Lib.numDigits_eq u h0 h
  split at this<;>omega
theorem ez{n:Int}(h0: -9223372036854775808≤n)(h1:n≤9223372036854775807):(Lib.itoa n).length≤21:=by
 unfold Lib.itoa
 split
 ·have:=fI (u:=n.natAbs) (by omega)
  simp only[aop];omega
 ·have:=fI (u:=n.toNat) (by omega)
  omega
theorem bA{H:Hp}(ht:IJ H){n:Int}(h0: -9223372036854775808≤n)(h1:n≤9223372036854775807):ag Tryz.prog F8 [i64 n] H fun v H'=>ap (v=aW (Lib.itoa n)∧ai H H'):=by
 refine aU Gl ?_
 refine vs ?_
 refine(sP ht h0 h1).mono ?_
 rintro _ H1 ⟨rfl,f1⟩
 refine vs ?_
 exact⟨rfl,f1⟩
end Go.Proofs.YtjkkkibiegfecaaGreatDoor

namespace Go.Proofs.YtjkkkibiegfecaaGreatDoor
open Go Go.Vc Go.Shelf Go.RowKit
theorem sizeBuilder:(Tryz.prog.info? 69).map (·.size)=some 2:=by kernel_rfl
theorem liesBuilder:liesAt Tryz.prog Tryz.prog.depth 69 (2 / Tryz.prog.cellsOf 69) 0 69 1=true:=by kernel_rfl
theorem vI(b:Nat)(w:World)(h0:w.cell? ⟨b,0,none⟩=some (.pointer (some ⟨b,0,none⟩))):
  Calls Tryz.prog 52 #[.pointer (some ⟨b,0,none⟩)] w fun e w'=>e= .returned (.tuple #[])∧w'=w:=by
 obtain⟨j,hj,_⟩:=Option.map_eq_some_iff.1 sizeBuilder
 have mixed:=Tryz.checked.mixed
 have t72:=Tryz.underlying69;have a72:=Tryz.isAgg69;have z72:=Tryz.sizeOf69;have v72:=Tryz.zeroValue69;have u72:=run_underlying Tryz.underlying69
 have t70:=Tryz.underlying67;have a70:=Tryz.isAgg67;have z70:=Tryz.sizeOf67;have v70:=Tryz.zeroValue67;have u70:=run_underlying Tryz.underlying67
 have t4:=Tryz.underlying4;have a4:=Tryz.isAgg4;have z4:=Tryz.sizeOf4;have v4:=Tryz.zeroValue4;have u4:=run_underlying Tryz.underlying4
 have t164:=Tryz.underlying178;have a164:=Tryz.isAgg178;have z164:=Tryz.sizeOf178;have v164:=Tryz.zeroValue178;have abc:=run_underlying Tryz.underlying178
 go_enter Tryz.func52,Tryz.ntmps52
 go_wp2
 rw[Lib.run_neq_ptr_same w _ t70 hj]
 go_wp2
 go_end0
 grind
theorem tI(b:Nat)(w:World)(h0:w.cell? ⟨b,0,none⟩=some (.pointer none))(FA:w.shape? b=some (69,2))(hfz:w.frozen? ⟨b,0,none⟩=false):
  Calls Tryz.prog 52 #[.pointer (some ⟨b,0,none⟩)] w fun e w'=>e= .returned (.tuple #[])∧w'=w.setCell ⟨b,0,none⟩ (.pointer (some ⟨b,0,none⟩)):=by
 obtain⟨j,hj,hjs⟩:=Option.map_eq_some_iff.1 sizeBuilder
 have mixed:=Tryz.checked.mixed
 have t72:=Tryz.underlying69;have a72:=Tryz.isAgg69;have z72:=Tryz.sizeOf69;have v72:=Tryz.zeroValue69;have u72:=run_underlying Tryz.underlying69
 have t70:=Tryz.underlying67;have a70:=Tryz.isAgg67;have z70:=Tryz.sizeOf67;have v70:=Tryz.zeroValue67;have u70:=run_underlying Tryz.underlying67
 have t4:=Tryz.underlying4;have a4:=Tryz.isAgg4;have z4:=Tryz.sizeOf4;have v4:=Tryz.zeroValue4;have u4:=run_underlying Tryz.underlying4
 have t164:=Tryz.underlying178;have a164:=Tryz.isAgg178;have z164:=Tryz.sizeOf178;have v164:=Tryz.zeroValue178;have abc:=run_underlying Tryz.underlying178
 go_enter Tryz.func52,Tryz.ntmps52
 go_wp2
 rw[Lib.run_to_unsafe w ⟨b,0,none⟩ t70 t164 hj (by omega) FA (by grind)]
 simp only[Result.andThen]
 rw[Oper.upon_value]
 go_wp2
 rw[run_callFunc_extern Tryz.func108 (by rfl) (by rfl) (by rfl) (e:=Extern.AbiNoEscape.same) (by rfl)]
 rw[Lib.run_noEscape]
 simp only[Result.andThen]
 rw[Oper.upon_value]
 go_wp2
 rw[Lib.run_from_unsafe w ⟨b,0,none⟩ t164 t70 hj FA liesBuilder]
 simp only[Result.andThen]
 rw[Oper.upon_value]
 go_wp2
 go_end0
 grind
theorem GI(B b:Nat)(bs:List Value)(w:World)(h:Lib.IsBuilder 69 5 B b bs w):
  Calls Tryz.prog 52 #[.pointer (some ⟨b,0,none⟩)] w fun e w'=>e= .returned (.tuple #[])∧(Lib.BuilderAt 69 5 B b (.pointer (some ⟨b,0,none⟩)) bs w'∧Below B w w'):=by
 rcases h with h|h
 ·refine(tI b w h.cell0 h.shape h.frozen0).mono ?_
  rintro e w' ⟨rfl,rfl⟩
  exact⟨rfl,h.used _,(Below.refl B w).setCell (p:=⟨b,0,none⟩) h.1 _⟩
 ·refine(vI b w h.cell0).mono ?_
  rintro e w' ⟨rfl,rfl⟩
  exact⟨rfl,h,Below.refl B _⟩
theorem Sy:(Tryz.prog.info? 5).map (fun i=>(i.zero,i.size,i.bytes))=some (some (.int .u8 0),1,1):=by kernel_rfl
theorem neB5:69≠5:=by decide
theorem EP(B b:Nat)(bs:List Value)(s:ByteArray)(w:World)(h:Lib.IsBuilder 69 5 B b bs w)(bu:bs.length+s.size≤140737488355328)(hBw:B≤w.heap.size):
  Calls Tryz.prog 30 #[.pointer (some ⟨b,0,none⟩),.string s] w fun e w'=>e= .returned (.tuple #[.int .i64 s.size,.nilIface])∧(Lib.BuilderAt 69 5 B b (.pointer (some ⟨b,0,none⟩)) (bs++Lib.strCells s) w'∧Below B w w'):=by
 obtain⟨i0,hi,UF,RJ,jH⟩:=info_parts Sy
 have mixed:=Tryz.checked.mixed
 have t72:=Tryz.underlying69;have a72:=Tryz.isAgg69;have z72:=Tryz.sizeOf69;have v72:=Tryz.zeroValue69;have u72:=run_underlying Tryz.underlying69
 have t70:=Tryz.underlying67;have a70:=Tryz.isAgg67;have z70:=Tryz.sizeOf67;have v70:=Tryz.zeroValue67;have u70:=run_underlying Tryz.underlying67
 have t37:=Tryz.underlying55;have a37:=Tryz.isAgg55;have z37:=Tryz.sizeOf55;have v37:=Tryz.zeroValue55;have u37:=run_underlying Tryz.underlying55
 have t3:=Tryz.underlying3;have a3:=Tryz.isAgg3;have z3:=Tryz.sizeOf3;have v3:=Tryz.zeroValue3;have u3:=run_underlying Tryz.underlying3
 have t9:=Tryz.underlying9;have a9:=Tryz.isAgg9;have z9:=Tryz.sizeOf9;have v9:=Tryz.zeroValue9;have u9:=run_underlying Tryz.underlying9
 have t4:=Tryz.underlying4;have a4:=Tryz.isAgg4;have z4:=Tryz.sizeOf4;have v4:=Tryz.zeroValue4;have u4:=run_underlying Tryz.underlying4
 have t164:=Tryz.underlying178;have a164:=Tryz.isAgg178;have z164:=Tryz.sizeOf178;have v164:=Tryz.zeroValue178;have abc:=run_underlying Tryz.underlying178
 have t5:=Tryz.underlying5;have a5:=Tryz.isAgg5;have z5:=Tryz.sizeOf5;have v5:=Tryz.zeroValue5;have u5:=run_underlying Tryz.underlying5
 have ajW:∀args w,(callFunc 52 args).run Tryz.prog w= .ok (.enter 52 args) w:=enters_of Tryz.func52 (by rfl) rfl
 go_enter Tryz.func30,Tryz.ntmps30
 go_wp2_with (go_at_fn 52;refine(GI B b bs _ h).mono ?_)
 rintro e w1 ⟨rfl,h1,Mz⟩
 obtain⟨hB,v,Xl,QP,bN⟩:=h1
 have c0:w1.cell? ⟨b,0,none⟩=some (.pointer (some ⟨b,0,none⟩)):=by rw[Lib.cell_of_heap Xl];rfl
 have c1:w1.cell? ⟨b,1,none⟩=some v:=by rw[Lib.cell_of_heap Xl];rfl
 go_wp2_with (at_builtin;refine Lib.wpList_append_own_string _ rfl _ _ 55 9 rfl B 5 i0 t37 t9 hi UF RJ jH _ _ _ rfl QP s rfl ?c3 ?c4 ?c5 ?_)
 case c3=>unfold maxLen;omega
 case c4=>omega
 case c5=>grind
 intro v' w2 Wk Wl _
 have bf:b<w1.heap.size:=by
  rcases ao3 b w1.heap.size with h'|h'
  ·exact h'
  ·grind
 have yt:w2.heap[b]? =some (.cells #[.pointer (some ⟨b,0,none⟩),v] 69 (0,0)):=by
  rw[Wl.block b bf (by grind)]
  exact Xl
 have d0:w2.cell? ⟨b,0,none⟩=some (.pointer (some ⟨b,0,none⟩)):=by rw[Lib.cell_of_heap yt];rfl
 have d1:w2.cell? ⟨b,1,none⟩=some v:=by rw[Lib.cell_of_heap yt];rfl
 have f1:w2.frozen? ⟨b,1,none⟩=false:=Lib.frozen_of_heap yt 1
 obtain⟨ao,n',cap,rfl⟩:∃ao n' cap,v'= .slice ao n' cap:=by
  rcases Wk.2 with ⟨hv,_⟩| ⟨g,cap,Xm,hv,_⟩
  ·grind
  grind
 go_wp2
 go_ret2
 refine⟨rfl,?_,?_⟩
 ·exact Lib.BuilderAt.put (T:=69) (e:=5) hB yt (bs':=bs++Lib.strCells s) (by simpa[Lib.strCells_length]using Wk) neB5
 ·exact(Mz.grown Wl (by omega) (fun k hk=>(QP.lt k hk).1)).setCell (p:=⟨b,1,none⟩) hB _
theorem vJ{T e:TypeId}{B b:Nat}{bs:List Value}{w w':World}(h:Lib.IsBuilder T e B b bs w)(hh:w'.heap=w.heap):Lib.IsBuilder T e B b bs w':=by
 unfold Lib.IsBuilder Lib.BuilderAt World.ownsRow at*
 simp_all
def QQ(B b:Nat)(s:List UInt8)(H:Hp):Prop:=B≤H.size∧∀w:World,w.heap=H→Lib.IsBuilder 69 5 B b (Lib.byteCells s) w
theorem QQ.of{B b:Nat}{s:List UInt8}{w:World}(hB:B≤w.heap.size)(h:Lib.IsBuilder 69 5 B b (Lib.byteCells s) w):QQ B b s w.heap:=⟨hB,fun w' hw=>vJ h hw⟩
theorem sQ{B:Nat}{w w':World}(h:Below B w w'):cz w w'∧ah (fun z=>B≤z) w.heap w'.heap:=⟨⟨h.os,h.output⟩,h.size,fun k _ hk=>h.block k (by omega)⟩
theorem QR{B b:Nat}{s:List UInt8}{H:Hp}(h:QQ B b s H)(t:List UInt8)(hl:s.length+t.length≤1000000000000):
  ag Tryz.prog dm [ptr b,aW t] H fun v H'=>ap (v= .tuple [i64 t.length,.nilIface].toArray∧QQ B b (s++t) H'∧ah (fun z=>B≤z) H H'):=fun w hw=>by
 obtain⟨hB,h⟩:=h
 have hs:(⟨t.toArray⟩:ByteArray).size=t.length:=by simp[ByteArray.size]
 refine(EP B b (Lib.byteCells s) ⟨t.toArray⟩ w (h w hw) (by rw[hs,Lib.byteCells_length];omega) (by grind)).mono ?_
 rintro e w' ⟨rfl,hb,QS⟩
 obtain⟨s1,s2⟩:=sQ QS
 refine⟨_,rfl,s1,by rw[hs],?_,by grind⟩
 have e1:Lib.byteCells s++Lib.strCells ⟨t.toArray⟩=Lib.byteCells (s++t):=by simp[Lib.byteCells,Lib.strCells]
 rw[e1]at hb
 exact QQ.of (by have:=QS.size;grind) (.inr hb)
theorem KH{B b:Nat}{s:List UInt8}{H:Hp}(h:QQ B b s H):
  ag Tryz.prog 32 [ptr b] H fun v H'=>ap (v=aW s∧ah (fun z=>B≤z) H H'):=fun w hw=>by
 obtain⟨hB,h⟩:=h
 refine(Tryz.Builder_String_any B b s w (h w hw) (by grind)).mono ?_
 rintro e w' ⟨rfl,QS⟩
 obtain⟨s1,s2⟩:=sQ QS
 exact⟨_,rfl,s1,rfl,by grind⟩
end Go.Proofs.YtjkkkibiegfecaaGreatDoor

namespace Go.Proofs.YtjkkkibiegfecaaGreatDoor
open Go Go.Vc Go.Shelf Go.RowKit
structure GJ(H:Hp)(v:Value)(s:List UInt8)(fp:Option Nat):Prop where
 sl:Sl H 1 v s.length (Lib.byteCells s) fp
 ty:∀g,fp=some g→s≠[]∧∃c fr,H[g]? =some (.cells c 5 fr)
theorem GJ.ext{H H':Hp}{v:Value}{s:List UInt8}{fp:Option Nat}{Q:Nat→Prop}(h:GJ H v s fp)(e:ah Q H H')(hq:∀b,fp=some b→¬Q b):GJ H' v s fp:=
 ⟨h.sl.ext e hq,fun g hg=>by
  obtain⟨h0,c,fr,h1⟩:=h.ty g hg
  refine⟨h0,c,fr,?_⟩
  rw[e.aO g ?_ (hq g hg)]
  ·exact h1
  ·subst hg;exact h.sl.lt⟩
theorem GJ.val{H:Hp}{v:Value}{s:List UInt8}{fp:Option Nat}(h:GJ H v s fp):∃a c,v= .slice a s.length c:=by
 obtain⟨⟨_,h⟩,_⟩:=h
 cases fp with
 |none=>exact⟨none,0,by rw[h.2,h.1]⟩
 |some b=>
  obtain⟨l,c,rfl,_⟩:=h
  exact⟨_,_,rfl⟩
theorem Xn(l:List UInt8):fK (Lib.byteCells l):=fun v hv=>by
 obtain⟨x,_,rfl⟩:=apj.1 hv
 rfl
theorem abd{H:Hp}{b g:Nat}{c:Array Value}{T:TypeId}{fr:Nat×Nat}(h:H[g]? =some (.cells c T fr))(l:List Value):∃c' fr',(H.wr b l)[g]? =some (.cells c' T fr'):=by
 by_cases e:b=g
 ·subst e
  refine⟨l.toArray,fr,?_⟩
  simp[Hp.wr,ao4,h]
 ·exact⟨c,fr,by rw[nK H l e];exact h⟩
theorem GJ.append{H:Hp}{v x:Value}{s t:List UInt8}{fp:Option Nat}{K:Value→Hp→Prop}(h:GJ H v s fp)(hx:∀F:Nat→List Value→Prop,F t.length (Lib.byteCells t)→rowOf H 1 x F)(hb:s.length+t.length≤2^47)
  (hk:∀v' H' di,GJ H' v' (s++t) di→ah (fun b=>fp=some b) H H'→(di=fp∨∃b,di=some b∧H.size≤b∧b<H'.size)→K v' H'):
  gH 5 1 1 [.int .u8 0] v x H K:=by
 obtain⟨⟨hl,h⟩,hty⟩:=h
 have e1:Lib.byteCells s++Lib.byteCells t=Lib.byteCells (s++t):=by simp[Lib.byteCells]
 have e2:(Lib.byteCells t).length=t.length:=Lib.byteCells_length ..
 have e3:(Lib.byteCells s).length=s.length:=Lib.byteCells_length ..
 obtain⟨base,c,rfl,aa0⟩:∃base c,v= .slice base s.length c∧∀b,base=some b→fp≠none:=by
  cases fp with
  |none=>
   obtain⟨h1,h2⟩:=h
   exact⟨none,0,by rw[h2,h1],fun b h=>(by cases h)⟩
  |some g=>
   obtain⟨l,c,h1,_⟩:=h
   exact⟨_,c,h1,fun _ _ h=>(by cases h)⟩
 refine hx (fun m new=>(s.length+m≤c→m=0→K (.slice base s.length c) H)∧
   (s.length+m≤c→m≠0→tq base fun b o=>aD (Ie (H.own b) (H.Az b)) fun l=>eo (o+(s.length+m)*1≤l.length∧fK new) (K (.slice base (s.length+m) c) (H.wr b (aX l (o+s.length*1) new))))∧
   (c<s.length+m→Builtin.nextslicecap (s.length+m) c*1≤2^48∧
    rowOf H 1 (.slice base s.length c) fun _ Qn=>∀c',s.length+m≤c'→K (.slice (some ⟨H.size,0,none⟩) (s.length+m) c') (H.new 5 (Qn++new++dE [.int .u8 0] (c' - (s.length+m)))))) ?_
 refine⟨fun AB hm=>?_,fun AB hm=>?_,fun bf=>⟨?_,?_⟩⟩
 ·have ht:t=[]:=aoI.1 hm
  subst ht
  refine hk _ _ fp ?_ (ah.refl _ _) (.inl rfl)
  rw[aoO]
  exact⟨⟨hl,h⟩,hty⟩
 ·cases fp with
  |none=>
   obtain⟨h0,hv⟩:=h
   injection hv with _ _ hc
   omega
  |some g=>
   obtain⟨l,c',hv,h2,h3,h4,h5⟩:=h
   injection hv with ea en ec
   subst ea;subst ec
   show aD (Ie (H.own g) (H.Az g)) _
   rw[GK h2]
   refine⟨⟨by omega,Xn t⟩,?_⟩
   rw[aoi]
   refine hk _ _ (some g) ⟨⟨by rw[Lib.byteCells_length,aok],_,c,by rw[aos],af h2,by rw[aos];exact AB,by rw[gZ];exact h4,?_⟩,fun b hb=>?_⟩ ((ah.refl (fun x=>some g=some x) H).wr (fun _=>rfl) _) (.inl rfl)
   ·have:=D3 (new:=Lib.byteCells t) h5 hl (by rw[e2];omega)
    rw[e2]at this
    rw[←e1,aos,api]
    rw[aok t.length]
    exact this
   ·injection hb with hb
    subst hb
    obtain⟨h0,c2,fr,yO⟩:=hty g rfl
    exact⟨by simp[h0],abd yO _⟩
 ·have h2:Builtin.nextslicecap (s.length+t.length) c≤2*(s.length+t.length):=nextslicecap_le bf
  omega
 ·refine fh.rowOf (n:=s.length) (xs:=Lib.byteCells s) (Sl.rd (fp:=fp) ⟨hl,h⟩) ?_
  intro c' Ni
  have yO:(s++t).length≤c':=by rw[aos];exact Ni
  refine hk _ _ (some H.size) ⟨⟨by rw[Lib.byteCells_length,aok],_,c',by rw[aos],aA _ _ _,yO,?_,?_⟩,fun b hb=>?_⟩ ((ah.refl _ _).new _ _) (.inr ⟨_,rfl,aox _,by rw[ak];omega⟩)
  ·simp only[aos,e2,e3,uS,aoV]
   omega
  ·rw[aok,←Lib.byteCells_length,←e1]
   grind
  ·injection hb with hb
   subst hb
   refine⟨fun h=>?_,_,_,by simp[Hp.new];exact⟨rfl,rfl⟩⟩
   have:=aoo List.length h
   rw[aos,aoH]at this
   omega
def Nl(b:Nat)(s:List UInt8)(fp:Option Nat)(H:Hp):Prop:=∃p v,H[b]? =some (.cells #[p,v] 69 (0,0))∧(p= .pointer none∨p=ptr b)∧GJ H v s fp∧fp≠some b
theorem iJ{H:Hp}{b:Nat}{p v:Value}{T:TypeId}(h:H[b]? =some (.cells #[p,v] T (0,0))):H.own b=some [p,v]:=by
 unfold Hp.own
 rw[h]
 rfl
theorem Nl.lt{b:Nat}{s:List UInt8}{fp:Option Nat}{H:Hp}(h:Nl b s fp H):b<H.size:=by
 obtain⟨p,v,h1,_⟩:=h
 exact aE (iJ h1)
theorem Nl.new(H:Hp):Nl H.size [] none (H.new 69 [.pointer none,.slice none 0 0]):=
 ⟨_,_,by simp[Hp.new],.inl rfl,⟨Sl.nil _ _,fun g h=>(by cases h)⟩,fun h=>(by cases h)⟩
theorem Nl.ext{b:Nat}{s:List UInt8}{fp:Option Nat}{H H':Hp}{Q:Nat→Prop}(h:Nl b s fp H)(e:ah Q H H')(hb:¬Q b)(hq:∀g,fp=some g→¬Q g):Nl b s fp H':=by
 have bf:=h.lt
 obtain⟨p,v,h1,h2,h3,h4⟩:=h
 exact⟨p,v,by rw[e.aO b bf hb];exact h1,h2,h3.ext e hq,h4⟩
theorem Nl.fpl{b:Nat}{s:List UInt8}{fp:Option Nat}{H:Hp}(h:Nl b s fp H):∀g,fp=some g→g<H.size:=fun g hg=>by
 subst hg
 obtain⟨p,v,h1,h2,h3,h4⟩:=h
 exact h3.sl.lt
theorem Ec{b:Nat}{s:List UInt8}{fp:Option Nat}{H:Hp}(h:Nl b s fp H):
  ag Tryz.prog 52 [ptr b] H fun r H'=>ap (r= .tuple #[]∧ah (fun z=>z=b) H H'∧∃v,H'[b]? =some (.cells #[ptr b,v] 69 (0,0))∧GJ H' v s fp∧fp≠some b):=fun w hw=>by
 have bf:=h.lt
 obtain⟨p,v,h1,h2,h3,h4⟩:=h
 subst hw
 rcases h2 with rfl|rfl
 ·refine(tI b w (by rw[Lib.cell_of_heap h1];rfl) (by simp[World.shape?,h1]) (Lib.frozen_of_heap h1 0)).mono ?_
  rintro e w' ⟨rfl,rfl⟩
  have e1:ah (fun z=>z=b) w.heap (w.setCell ⟨b,0,none⟩ (.pointer (some ⟨b,0,none⟩))).heap:=⟨by simp[World.setCell],fun k _ hk=>Below.heap_setCell _ _ _ _ hk⟩
  refine⟨_,rfl,⟨rfl,rfl⟩,rfl,e1,v,?_,h3.ext e1 (fun g hg e=>h4 (by rw[hg,e])),h4⟩
  simp[World.setCell,ao4,h1]
 ·refine(vI b w (by rw[Lib.cell_of_heap h1];rfl)).mono ?_
  rintro e w' ⟨rfl,rfl⟩
  exact⟨_,rfl,⟨rfl,rfl⟩,rfl,ah.refl _ _,v,h1,h3,h4⟩
def Xo(b:Nat)(s:List UInt8)(fp:Option Nat)(H H':Hp):Prop:=∃di,Nl b s di H'∧ah (fun z=>z=b∨fp=some z) H H'∧(di=fp∨∃g,di=some g∧H.size≤g∧g<H'.size)
theorem Xo.of{b:Nat}{s:List UInt8}{fp di:Option Nat}{H H1 H2:Hp}{v v':Value}(bf:b<H.size)(hb:fp≠some b)(hf:∀g,fp=some g→g<H.size)(e1:ah (fun z=>z=b) H H1)(h1:H1[b]? =some (.cells #[ptr b,v] 69 (0,0)))
  (e2:ah (fun z=>fp=some z) H1 H2)(h2:GJ H2 v' s di)(hp:di=fp∨∃g,di=some g∧H1.size≤g∧g<H2.size):Xo b s fp H (H2.wr b [ptr b,v']):=by
 have z1:=e1.size
 have bN:di≠some b:=by
  rcases hp with rfl| ⟨g,rfl,h3,_⟩
  ·exact hb
  ·intro h
   injection h with h
   omega
 have eW:ah (fun z=>z=b) H2 (H2.wr b [ptr b,v']):=(ah.refl (fun x=>x=b) _).wr (fun _=>rfl) _
 have hg:H2[b]? =some (.cells #[ptr b,v] 69 (0,0)):=by
  rw[e2.aO b (by omega) hb]
  exact h1
 refine⟨di,⟨ptr b,v',?_,.inr rfl,h2.ext eW (fun g hg e=>bN (by rw[hg,e])),bN⟩,?_,?_⟩
 ·simp[Hp.wr,ao4,hg]
 ·refine⟨by rw[eR];have:=e2.size;omega,fun k hk hn=>?_⟩
  rw[nK _ _ (fun e=>hn (.inl e.symm)),e2.aO k (by omega) (fun e=>hn (.inr e)),e1.aO k hk (fun e=>hn (.inl e))]
 ·rcases hp with rfl| ⟨g,rfl,h3,h4⟩
  ·exact .inl rfl
  ·exact .inr ⟨g,rfl,by omega,by rw[eR];exact h4⟩
theorem yx{b:Nat}{s:List UInt8}{fp:Option Nat}{H:Hp}(h:Nl b s fp H)(t:List UInt8)(hl:s.length+t.length≤1000000000000):
  ag Tryz.prog dm [ptr b,aW t] H fun r H'=>ap (r= .tuple [i64 t.length,.nilIface].toArray∧Xo b (s++t) fp H H'):=by
 have bf:=h.lt
 have hf:=h.fpl
 refine aU lN ?_
 refine vs ?_
 refine(Ec h).mono ?_
 rintro _ H1 ⟨rfl,e1,v,h1,h2,h3⟩
 refine v1 (ae (iJ h1)) ?_
 refine h2.append (t:=t) (fun F hF=>⟨rfl,by simpa[Lib.byteCells,Ms]using hF⟩) (by omega) fun v' H2 di h4 e2 hp=>?_
 have hg:H2[b]? =some (.cells #[ptr b,v] 69 (0,0)):=by
  rw[e2.aO b (by have:=e1.size;omega) h3]
  exact h1
 obtain⟨a',c',rfl⟩:=h4.val
 refine v1 (iJ hg) ?_
 exact⟨by simp[Kf,Ms],Xo.of bf h3 hf e1 h1 e2 h4 hp⟩
theorem MA{b:Nat}{s:List UInt8}{fp:Option Nat}{H:Hp}(h:Nl b s fp H)(c:UInt8)(hl:s.length+1≤1000000000000):
  ag Tryz.prog fP [ptr b,.int .u8 (c.toNat:Int)] H fun r H'=>ap (r= .nilIface∧Xo b (s++[c]) fp H H'):=by
 have bf:=h.lt
 have hf:=h.fpl
 refine aU ny ?_
 refine vs ?_
 refine(Ec h).mono ?_
 rintro _ H1 ⟨rfl,e1,v,h1,h2,h3⟩
 refine v1 (ae (iJ h1)) ?_
 have fN:ai H1 (H1.new 5 [.int .u8 (c.toNat:Int)]):=(ah.refl _ _).new _ _
 have hr:fh (H1.new 5 [.int .u8 (c.toNat:Int)]) 1 (.slice (some ⟨H1.size,0,none⟩) 1 1) [c].length (Lib.byteCells [c]):=Sl.rd (fp:=some H1.size) ⟨rfl,_,1,rfl,aA _ _ _,by simp,by simp,rfl⟩
 have e1:ah (fun z=>z=b) H (H1.new 5 [.int .u8 (c.toNat:Int)]):=e1.new _ _
 have hN:(H1.new 5 [.int .u8 (c.toNat:Int)])[b]? =some (.cells #[ptr b,v] 69 (0,0)):=by
  rw[oD _ _ _ (by have:=aE (iJ h1);omega)]
  exact h1
 have hlz:b< (H1.new 5 [.int .u8 (c.toNat:Int)]).size:=aE (iJ hN)
 refine(h2.ext fN (fun _ _ h=>h)).append (t:=[c]) (fun F hF=>hr.rowOf hF) (by simp;omega) fun v' H2 di h4 e2 hp=>?_
 have hg:H2[b]? =some (.cells #[ptr b,v] 69 (0,0)):=by
  rw[e2.aO b hlz h3]
  exact hN
 obtain⟨a',c',rfl⟩:=h4.val
 refine v1 (iJ hg) ?_
 exact⟨rfl,Xo.of bf h3 hf e1 hN e2 h4 hp⟩
theorem Ov{B b g cap:Nat}{p:Value}{l:List UInt8}{Xm:Array Value}{w:World}(hB:B≤g)(h0:l≠[])(hl:l.length≤1000000000000)(Xl:w.heap[b]? =some (.cells #[p,.slice (some ⟨g,0,none⟩) l.length cap] 69 (0,0)))
  (hg:w.heap[g]? =some (.cells Xm 5 (0,0)))(hc:cap≠0)(GF:l.length≤Xm.size)(ht:Xm.toList.take l.length=Lib.byteCells l):
  Calls Tryz.prog 32 #[.pointer (some ⟨b,0,none⟩)] w fun e w'=>e= .returned (.string ⟨l.toArray⟩)∧Below B w w':=by
 have c1:w.drew.cell? ⟨b,1,none⟩=some (.slice (some ⟨g,0,none⟩) l.length cap):=by
  have:w.drew.heap[b]? =some (.cells #[p,.slice (some ⟨g,0,none⟩) l.length cap] 69 (0,0)):=Xl
  rw[Lib.cell_of_heap this];rfl
 have hg':w.drew.heap[g]? =some (.cells Xm 5 (0,0)):=hg
 have hSD:(Builtin.unsafeSliceData_ #[55] 123 #[.slice (some ⟨g,0,none⟩) l.length cap]).run Tryz.prog w.drew= .ok (.pointer (some ⟨g,0,none⟩)) w.drew:=
  Lib.run_unsafeSliceData_row _ _ _ _ _ _ hc
 have hUS:(Builtin.unsafeString_ #[123,3] 9 #[.pointer (some ⟨g,0,none⟩),.int .i64 l.length]).run Tryz.prog w.drew= .ok (.string ⟨l.toArray⟩) (w.drew.freeze ⟨g,0,none⟩ l.length):=by
  refine Lib.run_unsafeString_row w.drew 123 3 9 5 Tryz.underlying123 (by kernel_rfl) g Xm.size (by simp[World.shape?,hg']) l h0 GF (by omega) ?_
  intro j x hx
  have hj:=(aoj.1 hx).1
  have e1:Xm.toList[j]? =some (.int .u8 x.toNat):=by
   rw[←aoX hj,ht]
   simp[Lib.byteCells,hx]
  have e2:(⟨g,0,none⟩:Addr).add j=⟨g,j,none⟩:=by rw[Addr.add_lit,aoi]
  rw[e2,Lib.cell_of_heap hg']
  simpa using e1
 have mixed:=Tryz.checked.mixed
 have t72:=Tryz.underlying69;have a72:=Tryz.isAgg69;have z72:=Tryz.sizeOf69;have v72:=Tryz.zeroValue69;have u72:=run_underlying Tryz.underlying69
 have t70:=Tryz.underlying67;have a70:=Tryz.isAgg67;have z70:=Tryz.sizeOf67;have v70:=Tryz.zeroValue67;have u70:=run_underlying Tryz.underlying67
 have t37:=Tryz.underlying55;have a37:=Tryz.isAgg55;have z37:=Tryz.sizeOf55;have v37:=Tryz.zeroValue55;have u37:=run_underlying Tryz.underlying55
 have t127:=Tryz.underlying123;have a127:=Tryz.isAgg123;have z127:=Tryz.sizeOf123;have v127:=Tryz.zeroValue123;have ajX:=run_underlying Tryz.underlying123
 have t3:=Tryz.underlying3;have a3:=Tryz.isAgg3;have z3:=Tryz.sizeOf3;have v3:=Tryz.zeroValue3;have u3:=run_underlying Tryz.underlying3
 have t9:=Tryz.underlying9;have a9:=Tryz.isAgg9;have z9:=Tryz.sizeOf9;have v9:=Tryz.zeroValue9;have u9:=run_underlying Tryz.underlying9
 have t5:=Tryz.underlying5;have a5:=Tryz.isAgg5;have z5:=Tryz.sizeOf5;have v5:=Tryz.zeroValue5;have u5:=run_underlying Tryz.underlying5
 go_enter Tryz.func32,Tryz.ntmps32
 go_wp2
 go_region_o
 all_goals(go_wp2;go_ret;exact⟨rfl,Lib.below_freeze (Below.drew (Below.refl B w)) (p:=⟨g,0,none⟩) hB _⟩)
theorem IK{B b:Nat}{s:List UInt8}{fp:Option Nat}{H:Hp}(h:Nl b s fp H)(hB:B≤b)(hf:∀g,fp=some g→B≤g)(hl:s.length≤1000000000000):
  ag Tryz.prog 32 [ptr b] H fun v H'=>ap (v=aW s∧ah (fun z=>B≤z) H H'):=fun w hw=>by
 have bf:=h.lt
 obtain⟨p,v,h1,h2,⟨⟨h6,h3⟩,h5⟩,h4⟩:=h
 subst hw
 cases fp with
 |none=>
  obtain⟨e1,rfl⟩:=h3
  have hs:s=[]:=aoI.1 e1
  subst hs
  have key:Lib.BuilderAt 69 5 B b p (Lib.byteCells []) w:=⟨hB,_,h1,⟨rfl,.inl ⟨rfl,rfl⟩⟩,fun h=>(by cases h)⟩
  refine KH (B:=B) (b:=b) (s:=[]) (H:=w.heap) ⟨by omega,fun w' JE=>vJ (w:=w) ?_ JE⟩ w rfl
  rcases h2 with rfl|rfl
  ·exact .inl key
  ·exact .inr key
 |some g=>
  obtain⟨l,c,rfl,e2,e3,e4,e5⟩:=h3
  obtain⟨h0,c2,fr,e6⟩:=h5 g rfl
  have e7:fr=(0,0)∧c2.toList=l:=by
   unfold Hp.own at e2
   rw[e6]at e2
   dsimp only at e2
   split at e2
   ·rename_i e
    injection e2 with e2
    exact⟨e,e2⟩
   ·cases e2
  obtain⟨rfl,rfl⟩:=e7
  have hs0:s.length≠0:=fun h=>h0 (aoI.1 h)
  refine(Ov (B:=B) (hf g rfl) h0 hl h1 e6 (by omega) (by simp at e4;omega) (by rw[aok]at e5;exact e5)).mono ?_
  rintro e w' ⟨rfl,QS⟩
  obtain⟨s1,s2⟩:=sQ QS
  exact⟨_,rfl,s1,rfl,s2⟩
end Go.Proofs.YtjkkkibiegfecaaGreatDoor

namespace Go.Proofs.YtjkkkibiegfecaaGreatDoor
open Go Go.Vc
theorem EQ{u:Nat}(h:u<10):Lib.decDigits u=[UInt8.ofNat (48+u)]:=by rw[Lib.decDigits,dif_pos h]
end Go.Proofs.YtjkkkibiegfecaaGreatDoor
