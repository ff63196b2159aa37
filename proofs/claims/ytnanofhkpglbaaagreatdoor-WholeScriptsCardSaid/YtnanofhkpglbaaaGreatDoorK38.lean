/- Texts put behind each other. -/
import Derived.Test.YtnanofhkpglbaaaGreatDoorK10
import Derived.Test.YtnanofhkpglbaaaGreatDoorK24
set_option linter.unusedSimpArgs false
set_option linter.unusedVariables false
set_option maxRecDepth 100000
set_option maxHeartbeats 80000000
namespace Go.Proofs.YtnanofhkpglbaaaGreatDoor
open Go Go.Vc Go.RowKit Go.Sort
section
variable{H:Hp}{n:Int}
def D5(H:Hp):Prop:=∀w:World,w.heap=H->Lib.TabIs Tryz.prog w "internal/strconv.uint64pow10" .u64 Lib.pow10Tab
theorem oz{w w':World}(e:af w.heap w'.heap){name:String}{cs:Array Value}(h:w.var? Tryz.prog name=some cs):w'.var? Tryz.prog name=some cs:=by
 unfold World.var? at*;cases z:Program.globalNamed Tryz.prog name with
 |none=>grind
 |some g=>
  rw[z]at h;simp only[Option.bind_some]at h ⊢;have l:g<w.heap.size:=by
   rcases al1 g w.heap.size with x|x
   ·exact x
   ·grind
  rw[show w'.heap[g]? =w.heap[g]? from e.aW g l (fun h=>h)];exact h
theorem D5.fresh{J:Hp}(h:D5 H)(e:af H J):D5 J:=fun w z=>by
 have x:=h {w with heap:=H} rfl;exact oz (w:={w with heap:=H}) (w':=w) Z x
theorem LC(w:World)(k:Nat)(os:Array Obj):bH w (grow (w.drewN k) os)/\af w.heap (grow (w.drewN k) os).heap:=by
 refine⟨⟨rfl,rfl⟩,⟨?_,fun b x _=>?_⟩⟩
 ·simp_all
 ·show(w.heap++os)[b]? =w.heap[b]?;grind
theorem LD{f:FuncId}{args:List Value}{v:Value}(h:∀w:World,w.heap=H->Calls Tryz.prog f args.toArray w fun e w'=>e= .returned v/\∃k os,w'=grow (w.drewN k) os):
  aD f args H fun l J=>ak (l=v/\af H J):=fun w z=>by
 refine(h w z).mono ?_;rintro e w' ⟨rfl,k,os,rfl⟩;obtain⟨x,a⟩:=LC w k os;exact⟨v,rfl,x,rfl,Z⟩
theorem pM(z:D5 H)(x: -9223372036854775808<=n)(h:n<=9223372036854775807):aD 109 [i64 n,i64 10] H fun v J=>ak (v=aA (Lib.itoa n)/\af H J):=
 LD fun w l=>Tryz.strconv_FormatInt_10 n x h w (z w l)
theorem cF{u:Nat}(h:u<18446744073709551616):(Lib.decDigits u).length<=20:=by
 rw[Lib.decDigits_length];rcases Nat.eq_zero_or_pos u with x|x
 ·subst x;rw[Lib.nDigits_small O];omega
 ·have:=Lib.numDigits_eq u x h;grind
theorem bU(x: -9223372036854775808<=n)(h:n<=9223372036854775807):(Lib.itoa n).length<=21:=by
 unfold Lib.itoa;grind [cF]
theorem bi(w:D5 H)(h: -9223372036854775808<=n)(z:n<=9223372036854775807):aD 65 [i64 n] H fun v J=>ak (v=aA (Lib.itoa n)/\af H J):=by
 refine aL CV ?_;refine vs ?_;refine(pM w h z).mono ?_;rintro _ l ⟨rfl,x⟩;refine vs ?_;exact⟨rfl,x⟩
end
end Go.Proofs.YtnanofhkpglbaaaGreatDoor
namespace Go.Proofs.YtnanofhkpglbaaaGreatDoor
open Go Go.Vc Go.Shelf Go.RowKit
section
variable{B b:Nat}{w:World}{H:Hp}
theorem sizeBuilder:(Tryz.prog.info? 66).map (·.size)=some 2:=Y
theorem liesBuilder:liesAt Tryz.prog Tryz.prog.depth 66 (2 / Tryz.prog.cellsOf 66) 0 66 1=true:=Y
theorem sT(b:Nat)(w:World)(h:w.cell? ⟨b,0,none⟩=some (.pointer (some ⟨b,0,none⟩))):
  Calls Tryz.prog 64 #[.pointer (some ⟨b,0,none⟩)] w fun e w'=>e= .returned (.tuple #[])/\w'=w:=by
 obtain⟨j,x,_⟩:=Option.map_eq_some_iff.1 sizeBuilder;have mixed:=Tryz.checked.mixed;have t72:=Tryz.underlying66;have a72:=Tryz.isAgg66;have z72:=Tryz.sizeOf66;have v72:=Tryz.zeroValue66;have m:=run_underlying Tryz.underlying66;have t70:=Tryz.underlying63;have a70:=Tryz.isAgg63;have z70:=Tryz.sizeOf63;have v70:=Tryz.zeroValue63;have n:=run_underlying Tryz.underlying63;have z:=Tryz.underlying4;have a4:=Tryz.isAgg4;have c:=Tryz.sizeOf4;have v4:=Tryz.zeroValue4;have a:=run_underlying Tryz.underlying4;have t164:=Tryz.underlying198;have a164:=Tryz.isAgg198;have z164:=Tryz.sizeOf198;have v164:=Tryz.zeroValue198;have l:=run_underlying Tryz.underlying198;go_enter Tryz.func64,Tryz.ntmps64;go_wp2;rw[Lib.run_neq_ptr_same w _ t70 x];go_wp2;go_end0;grind
theorem qw(b:Nat)(w:World)(z:w.cell? ⟨b,0,none⟩=some (.pointer none))(h:w.shape? b=some (66,2))(l:w.frozen? ⟨b,0,none⟩=false):
  Calls Tryz.prog 64 #[.pointer (some ⟨b,0,none⟩)] w fun e w'=>e= .returned (.tuple #[])/\w'=w.setCell ⟨b,0,none⟩ (.pointer (some ⟨b,0,none⟩)):=by
 obtain⟨j,x,a⟩:=Option.map_eq_some_iff.1 sizeBuilder;have mixed:=Tryz.checked.mixed;have t72:=Tryz.underlying66;have a72:=Tryz.isAgg66;have z72:=Tryz.sizeOf66;have v72:=Tryz.zeroValue66;have g:=run_underlying Tryz.underlying66;have t70:=Tryz.underlying63;have a70:=Tryz.isAgg63;have z70:=Tryz.sizeOf63;have v70:=Tryz.zeroValue63;have v:=run_underlying Tryz.underlying63;have n:=Tryz.underlying4;have a4:=Tryz.isAgg4;have y:=Tryz.sizeOf4;have v4:=Tryz.zeroValue4;have c:=run_underlying Tryz.underlying4;have t164:=Tryz.underlying198;have a164:=Tryz.isAgg198;have z164:=Tryz.sizeOf198;have v164:=Tryz.zeroValue198;have m:=run_underlying Tryz.underlying198;go_enter Tryz.func64,Tryz.ntmps64;go_wp2;rw[Lib.run_to_unsafe w ⟨b,0,none⟩ t70 t164 x O h Z];simp only[Result.andThen];rw[Oper.upon_value];go_wp2;rw[run_callFunc_extern Tryz.func108 (by rfl) (by rfl) (by rfl) (e:=Extern.AbiNoEscape.same) (by rfl)];rw[Lib.run_noEscape];simp only[Result.andThen];rw[Oper.upon_value];go_wp2;rw[Lib.run_from_unsafe w ⟨b,0,none⟩ t164 t70 x h liesBuilder];simp only[Result.andThen];rw[Oper.upon_value];go_wp2;go_end0;grind
theorem D6(B b:Nat)(x:List Value)(w:World)(h:Lib.IsBuilder 66 5 B b x w):
  Calls Tryz.prog 64 #[.pointer (some ⟨b,0,none⟩)] w fun e w'=>e= .returned (.tuple #[])/\(Lib.BuilderAt 66 5 B b (.pointer (some ⟨b,0,none⟩)) x w'/\Below B w w'):=by
 rcases h with h|h
 ·refine(qw b w h.cell0 h.shape h.frozen0).mono ?_;rintro e w' ⟨rfl,rfl⟩;exact⟨rfl,h.used _,(Below.refl B w).setCell (p:=⟨b,0,none⟩) h.1 _⟩
 ·refine(sT b w h.cell0).mono ?_;rintro e w' ⟨rfl,rfl⟩;exact⟨rfl,h,Below.refl B _⟩
theorem Qd:(Tryz.prog.info? 5).map (fun i=>(i.zero,i.size,i.bytes))=some (some (.int .u8 0),1,1):=Y
theorem neB5:66≠5:=by decide
theorem BU(B b:Nat)(x:List Value)(s:ByteArray)(w:World)(h:Lib.IsBuilder 66 5 B b x w)(M:x.length+s.size<=140737488355328)(D:B<=w.heap.size):
  Calls Tryz.prog 20 #[.pointer (some ⟨b,0,none⟩),.string s] w fun e w'=>e= .returned (.tuple #[.int .i64 s.size,.nilIface])/\(Lib.BuilderAt 66 5 B b (.pointer (some ⟨b,0,none⟩)) (x++Lib.strCells s) w'/\Below B w w'):=by
 obtain⟨i0,hi,H,P,L⟩:=info_parts Qd;have mixed:=Tryz.checked.mixed;have t72:=Tryz.underlying66;have a72:=Tryz.isAgg66;have z72:=Tryz.sizeOf66;have v72:=Tryz.zeroValue66;have u72:=run_underlying Tryz.underlying66;have t70:=Tryz.underlying63;have a70:=Tryz.isAgg63;have z70:=Tryz.sizeOf63;have v70:=Tryz.zeroValue63;have u70:=run_underlying Tryz.underlying63;have t37:=Tryz.underlying64;have a37:=Tryz.isAgg64;have z37:=Tryz.sizeOf64;have v37:=Tryz.zeroValue64;have u37:=run_underlying Tryz.underlying64;have X:=Tryz.underlying3;have a3:=Tryz.isAgg3;have z3:=Tryz.sizeOf3;have v3:=Tryz.zeroValue3;have u3:=run_underlying Tryz.underlying3;have A:=Tryz.underlying9;have F:=Tryz.isAgg9;have z9:=Tryz.sizeOf9;have v9:=Tryz.zeroValue9;have u9:=run_underlying Tryz.underlying9;have t4:=Tryz.underlying4;have a4:=Tryz.isAgg4;have z4:=Tryz.sizeOf4;have v4:=Tryz.zeroValue4;have u4:=run_underlying Tryz.underlying4;have t164:=Tryz.underlying198;have a164:=Tryz.isAgg198;have z164:=Tryz.sizeOf198;have v164:=Tryz.zeroValue198;have ail:=run_underlying Tryz.underlying198;have t5:=Tryz.underlying5;have K:=Tryz.isAgg5;have z5:=Tryz.sizeOf5;have v5:=Tryz.zeroValue5;have u5:=run_underlying Tryz.underlying5;have V:∀args w,(callFunc 64 args).run Tryz.prog w= .ok (.enter 64 args) w:=enters_of Tryz.func64 (by rfl) rfl;go_enter Tryz.func20,Tryz.ntmps20;go_wp2_with (go_at_fn 64;refine(D6 B b x _ h).mono ?_);rintro e w1 ⟨rfl,d,q⟩;obtain⟨c,v,a,t,E⟩:=d;have N:w1.cell? ⟨b,0,none⟩=some (.pointer (some ⟨b,0,none⟩)):=by rw[Lib.cell_of_heap a];rfl
 have Q:w1.cell? ⟨b,1,none⟩=some v:=by rw[Lib.cell_of_heap a];rfl
 go_wp2_with (at_builtin;refine Lib.wpList_append_own_string _ rfl _ _ 64 9 rfl B 5 i0 t37 A hi H P L _ _ _ rfl t s rfl ?c3 ?c4 ?c5 ?_);case c3=>unfold maxLen;omega
 case c4=>omega
 case c5=>grind
 intro C l r y _;have f:b<w1.heap.size:=by
  rcases al1 b w1.heap.size with m|m
  ·exact m
  ·grind
 have z:l.heap[b]? =some (.cells #[.pointer (some ⟨b,0,none⟩),v] 66 (0,0)):=by
  rw[y.block b f Z];exact a
 have W:l.cell? ⟨b,0,none⟩=some (.pointer (some ⟨b,0,none⟩)):=by rw[Lib.cell_of_heap z];rfl
 have I:l.cell? ⟨b,1,none⟩=some v:=by rw[Lib.cell_of_heap z];rfl
 have G:l.frozen? ⟨b,1,none⟩=false:=Lib.frozen_of_heap z 1;obtain⟨n,j,cap,rfl⟩:∃n j cap,C= .slice n j cap:=by
  rcases r.2 with ⟨u,_⟩| ⟨g,cap,U,u,_⟩
  ·grind
  grind
 go_wp2;go_ret2;refine⟨rfl,?_,?_⟩
 ·exact Lib.BuilderAt.put (T:=66) (e:=5) c z (bs':=x++Lib.strCells s) (by simpa[Lib.strCells_length]using r) neB5
 ·exact(q.grown y O (fun k o=>(t.lt k o).1)).setCell (p:=⟨b,1,none⟩) c _
theorem sU{T e:TypeId}{x:List Value}{w':World}(h:Lib.IsBuilder T e B b x w)(z:w'.heap=w.heap):Lib.IsBuilder T e B b x w':=by
 unfold Lib.IsBuilder Lib.BuilderAt World.ownsRow at*;simp_all
def NI(B b:Nat)(s:List UInt8)(H:Hp):Prop:=B<=H.size/\∀w:World,w.heap=H->Lib.IsBuilder 66 5 B b (Lib.byteCells s) w
theorem NI.of{s:List UInt8}(x:B<=w.heap.size)(h:Lib.IsBuilder 66 5 B b (Lib.byteCells s) w):NI B b s w.heap:=⟨x,fun w' z=>sU h z⟩
theorem pN{w':World}(h:Below B w w'):bH w w'/\aj (fun z=>B<=z) w.heap w'.heap:=⟨⟨h.os,h.output⟩,h.size,fun k _ x=>h.block k O⟩
theorem NJ{s:List UInt8}(h:NI B b s H)(t:List UInt8)(g:s.length+t.length<=1000000000000):
  aD 20 [ptr b,aA t] H fun v J=>ak (v= .tuple [i64 t.length,.nilIface].toArray/\NI B b (s++t) J/\aj (fun z=>B<=z) H J):=fun w m=>by
 obtain⟨c,h⟩:=h;have a:(⟨t.toArray⟩:ByteArray).size=t.length:=by simp[ByteArray.size]
 refine(BU B b (Lib.byteCells s) ⟨t.toArray⟩ w (h w m) (by rw[a,Lib.byteCells_length];omega) Z).mono ?_;rintro e w' ⟨rfl,x,l⟩;obtain⟨s1,y⟩:=pN l;refine⟨_,rfl,s1,by rw[a],?_,Z⟩;have n:Lib.byteCells s++Lib.strCells ⟨t.toArray⟩=Lib.byteCells (s++t):=by simp[Lib.byteCells,Lib.strCells]
 rw[n]at x;exact NI.of (by have:=l.size;grind) (.inr x)
theorem HX{s:List UInt8}(h:NI B b s H):
  aD 24 [ptr b] H fun v J=>ak (v=aA s/\aj (fun z=>B<=z) H J):=fun w l=>by
 obtain⟨a,h⟩:=h;refine(Tryz.Builder_String_any B b s w (h w l) Z).mono ?_;rintro e w' ⟨rfl,x⟩;obtain⟨s1,n⟩:=pN x;exact⟨_,rfl,s1,rfl,Z⟩
end
section
variable{H J:Hp}{b g B:Nat}{fp:Option Nat}{v:Value}
structure D7(H:Hp)(v:Value)(s:List UInt8)(fp:Option Nat):Prop where
 sl:Sl H 1 v s.length (Lib.byteCells s) fp
 ty:∀g,fp=some g->s≠[]/\∃c fr,H[g]? =some (.cells c 5 fr)
theorem D7.ext{s:List UInt8}{Q:Nat->Prop}(h:D7 H v s fp)(e:aj Q H J)(z:∀b,fp=some b->¬Q b):D7 J v s fp:=
 ⟨h.sl.ext e z,fun g x=>by
  obtain⟨l,c,w,a⟩:=h.ty g x;refine⟨l,c,w,?_⟩;rw[e.aW g ?_ (z g x)]
  ·exact a
  grind⟩
theorem D7.val{s:List UInt8}(h:D7 H v s fp):∃a c,v= .slice a s.length c:=by
 obtain⟨⟨_,h⟩,_⟩:=h;grind
theorem UN(l:List UInt8):dK (Lib.byteCells l):=fun v h=>by
 obtain⟨x,_,rfl⟩:=alQ.1 h;rfl
theorem YK{c:Array Value}{T:TypeId}{x:Nat×Nat}(h:H[g]? =some (.cells c T x))(l:List Value):∃c' z,(H.wr b l)[g]? =some (.cells c' T z):=by
 by_cases e:b=g
 ·subst e;refine⟨l.toArray,x,?_⟩;simp[Hp.wr,al3,h]
 ·exact⟨c,x,by rw[ld H l e];exact h⟩
theorem D7.append{x:Value}{s t:List UInt8}{K:Value->Hp->Prop}(h:D7 H v s fp)(U:∀F:Nat->List Value->Prop,F t.length (Lib.byteCells t)->rowOf H 1 x F)(z:s.length+t.length<=2^47)
  (y:∀q J w,D7 J q (s++t) w->aj (fun b=>fp=some b) H J->(w=fp\/∃b,w=some b/\H.size<=b/\b<J.size)->K q J):
  eh 5 1 1 [.int .u8 0] v x H K:=by
 obtain⟨⟨r,h⟩,p⟩:=h;have V:Lib.byteCells s++Lib.byteCells t=Lib.byteCells (s++t):=by simp[Lib.byteCells]
 have f:(Lib.byteCells t).length=t.length:=Lib.byteCells_length ..
 have u:(Lib.byteCells s).length=s.length:=O;obtain⟨base,c,rfl,E⟩:∃base c,v= .slice base s.length c/\∀b,base=some b->fp≠none:=by
  grind
 refine U (fun m new=>(s.length+m<=c->m=0->K (.slice base s.length c) H)/\
   (s.length+m<=c->m≠0->p9 base fun b o=>aF (EO (H.own b) (H.wQ b)) fun l=>dW (o+(s.length+m)*1<=l.length/\dK new) (K (.slice base (s.length+m) c) (H.wr b (aQ l (o+s.length*1) new))))/\
   (c<s.length+m->Builtin.nextslicecap (s.length+m) c*1<=2^48/\
    rowOf H 1 (.slice base s.length c) fun _ W=>∀c',s.length+m<=c'->K (.slice (some ⟨H.size,0,none⟩) (s.length+m) c') (H.new 5 (W++new++dm [.int .u8 0] (c' - (s.length+m)))))) ?_
 refine⟨fun T hm=>?_,fun T hm=>?_,fun N=>⟨?_,?_⟩⟩
 ·have Q:t=[]:=Z;subst Q;refine y _ _ fp ?_ (aj.refl _ _) (.inl rfl);rw[alE];exact⟨⟨r,h⟩,p⟩
 ·cases fp with
  |none=>
   obtain⟨d,j⟩:=h;injection j with _ _ X;omega
  |some g=>
   obtain⟨l,c',j,a,M,L,A⟩:=h;injection j with B G P;subst B;subst P;show aF (EO (H.own g) (H.wQ g)) _;rw[D8 a];refine⟨⟨O,UN t⟩,?_⟩;rw[ak7];refine y _ _ (some g) ⟨⟨Z,_,c,Z,ah a,Z,by rw[ew];exact L,?_⟩,fun b z=>?_⟩ ((aj.refl (fun x=>some g=some x) H).wr (fun _=>rfl) _) (.inl rfl)
   ·have:=AP (new:=Lib.byteCells t) A r O;grind
   ·injection z with z;subst z;obtain⟨d,I,D,e⟩:=p g rfl;exact⟨by simp[d],YK e _⟩
 ·have a:Builtin.nextslicecap (s.length+t.length) c<=2*(s.length+t.length):=nextslicecap_le N;omega
 ·refine bD.rowOf (n:=s.length) (xs:=Lib.byteCells s) (Sl.rd (fp:=fp) ⟨r,h⟩) ?_;intro c' C;have e:(s++t).length<=c':=by rw[alm];exact C
  refine y _ _ (some H.size) ⟨⟨Z,_,c',Z,am _ _ _,e,?_,?_⟩,fun b z=>?_⟩ bm (.inr ⟨_,rfl,alj _,by rw[ag];omega⟩)
  ·simp only[alm,f,u,rz,alR];omega
  ·grind
  ·injection z with z;subst z;refine⟨fun h=>?_,_,_,by simp[Hp.new];exact⟨rfl,rfl⟩⟩;grind
def Gz(b:Nat)(s:List UInt8)(fp:Option Nat)(H:Hp):Prop:=∃p v,H[b]? =some (.cells #[p,v] 66 (0,0))/\(p= .pointer none\/p=ptr b)/\D7 H v s fp/\fp≠some b
theorem pO{p:Value}{T:TypeId}(h:H[b]? =some (.cells #[p,v] T (0,0))):H.own b=some [p,v]:=by
 unfold Hp.own;grind
theorem Gz.lt{s:List UInt8}(h:Gz b s fp H):b<H.size:=by
 obtain⟨p,v,x,_⟩:=h;grind
theorem Gz.new(H:Hp):Gz H.size [] none (H.new 66 [.pointer none,.slice none 0 0]):=
 ⟨_,_,by simp[Hp.new],.inl rfl,⟨Sl.nil _ _,Z⟩,Z⟩
theorem Gz.ext{s:List UInt8}{Q:Nat->Prop}(h:Gz b s fp H)(e:aj Q H J)(a:¬Q b)(m:∀g,fp=some g->¬Q g):Gz b s fp J:=by
 have n:=h.lt;obtain⟨p,v,x,z,w,l⟩:=h;exact⟨p,v,by rw[e.aW b n a];exact x,z,w.ext e m,l⟩
theorem Gz.UO{s:List UInt8}(h:Gz b s fp H):∀g,fp=some g->g<H.size:=fun g z=>by
 subst z;obtain⟨p,v,w,l,x,a⟩:=h;exact x.sl.lt
theorem AZ{s:List UInt8}(h:Gz b s fp H):
  aD 64 [ptr b] H fun r J=>ak (r= .tuple #[]/\aj (fun z=>z=b) H J/\∃v,J[b]? =some (.cells #[ptr b,v] 66 (0,0))/\D7 J v s fp/\fp≠some b):=fun w g=>by
 have y:=h.lt;obtain⟨p,v,x,m,a,n⟩:=h;subst g;rcases m with rfl|rfl
 ·refine(qw b w (by rw[Lib.cell_of_heap x];rfl) (by simp[World.shape?,x]) (Lib.frozen_of_heap x 0)).mono ?_;rintro e w' ⟨rfl,rfl⟩;have l:aj (fun z=>z=b) w.heap (w.setCell ⟨b,0,none⟩ (.pointer (some ⟨b,0,none⟩))).heap:=⟨by simp_all,fun k _ c=>Below.heap_setCell _ _ _ _ c⟩;refine⟨_,rfl,⟨rfl,rfl⟩,rfl,l,v,?_,a.ext l Z,n⟩;simp[World.setCell,al3,x]
 ·refine(sT b w (by rw[Lib.cell_of_heap x];rfl)).mono ?_;rintro e w' ⟨rfl,rfl⟩;exact⟨_,rfl,⟨rfl,rfl⟩,rfl,aj.refl _ _,v,x,a,n⟩
def UP(b:Nat)(s:List UInt8)(fp:Option Nat)(H J:Hp):Prop:=∃x,Gz b s x J/\aj (fun z=>z=b\/fp=some z) H J/\(x=fp\/∃g,x=some g/\H.size<=g/\g<J.size)
theorem UP.of{s:List UInt8}{w:Option Nat}{l h:Hp}{a:Value}(u:b<H.size)(c:fp≠some b)(f:∀g,fp=some g->g<H.size)(m:aj (fun z=>z=b) H l)(t:l[b]? =some (.cells #[ptr b,v] 66 (0,0)))
  (n:aj (fun z=>fp=some z) l h)(r:D7 h a s w)(e:w=fp\/∃g,w=some g/\l.size<=g/\g<h.size):UP b s fp H (h.wr b [ptr b,a]):=by
 have P:=m.size;have o:w≠some b:=by
  rcases e with rfl| ⟨g,rfl,j,_⟩
  ·exact c
  ·grind
 have y:aj (fun z=>z=b) h (h.wr b [ptr b,a]):=(aj.refl (fun x=>x=b) _).wr (fun _=>rfl) _;have p:h[b]? =some (.cells #[ptr b,v] 66 (0,0)):=by
  rw[n.aW b O c];exact t
 refine⟨w,⟨ptr b,a,?_,.inr rfl,r.ext y Z,o⟩,?_,?_⟩
 ·simp[Hp.wr,al3,p]
 ·refine⟨by rw[bE];have:=n.size;omega,fun k q B=>?_⟩;rw[ld _ _ O,n.aW k O Z,m.aW k q O]
 ·rcases e with rfl| ⟨g,rfl,j,d⟩
  ·grind
  ·exact .inr ⟨g,rfl,O,by rw[bE];exact d⟩
theorem nq{s:List UInt8}(h:Gz b s fp H)(t:List UInt8)(o:s.length+t.length<=1000000000000):
  aD 20 [ptr b,aA t] H fun r J=>ak (r= .tuple [i64 t.length,.nilIface].toArray/\UP b (s++t) fp H J):=by
 have y:=h.lt;have e:=h.UO;refine aL jR ?_;refine vs ?_;refine(AZ h).mono ?_;rintro _ d ⟨rfl,n,v,x,m,w⟩;refine v1 (ae (pO x)) ?_;refine m.append (t:=t) (fun F c=>⟨rfl,by simpa[Lib.byteCells,C7]using c⟩) O fun f a q l z j=>?_;have g:a[b]? =some (.cells #[ptr b,v] 66 (0,0)):=by
  rw[z.aW b Z w];exact x
 obtain⟨p,c',rfl⟩:=l.val;refine v1 (pO g) ?_;exact⟨by rfl,UP.of y w e n x z l j⟩
theorem JZ{s:List UInt8}(h:Gz b s fp H)(c:UInt8)(A:s.length+1<=1000000000000):
  aD 23 [ptr b,.int .u8 (c.toNat:Int)] H fun r J=>ak (r= .nilIface/\UP b (s++[c]) fp H J):=by
 have o:=h.lt;have p:=h.UO;refine aL kS ?_;refine vs ?_;refine(AZ h).mono ?_;rintro _ x ⟨rfl,w,v,a,j,n⟩;refine v1 (ae (pO a)) ?_;have y:af x (x.new 5 [.int .u8 (c.toNat:Int)]):=bm;have B:bD (x.new 5 [.int .u8 (c.toNat:Int)]) 1 (.slice (some ⟨x.size,0,none⟩) 1 1) [c].length (Lib.byteCells [c]):=Sl.rd (fp:=some x.size) ⟨rfl,_,1,rfl,am _ _ _,by simp,by simp,rfl⟩;have w:aj (fun z=>z=b) H (x.new 5 [.int .u8 (c.toNat:Int)]):=w.new _ _;have e:(x.new 5 [.int .u8 (c.toNat:Int)])[b]? =some (.cells #[ptr b,v] 66 (0,0)):=by
  rw[ma _ _ _ Z];exact a
 have f:b< (x.new 5 [.int .u8 (c.toNat:Int)]).size:=Z;refine(j.ext y (fun _ _ h=>h)).append (t:=[c]) (fun F d=>B.rowOf d) Z fun C g L m l u=>?_;have q:g[b]? =some (.cells #[ptr b,v] 66 (0,0)):=by
  rw[l.aW b f n];exact e
 obtain⟨P,c',rfl⟩:=m.val;refine v1 (pO q) ?_;exact⟨rfl,UP.of o n p w e l m u⟩
theorem LF{cap:Nat}{p:Value}{l:List UInt8}{h:Array Value}{w:World}(v:B<=g)(c:l≠[])(A:l.length<=1000000000000)(y:w.heap[b]? =some (.cells #[p,.slice (some ⟨g,0,none⟩) l.length cap] 66 (0,0)))
  (d:w.heap[g]? =some (.cells h 5 (0,0)))(t:cap≠0)(r:l.length<=h.size)(o:h.toList.take l.length=Lib.byteCells l):
  Calls Tryz.prog 24 #[.pointer (some ⟨b,0,none⟩)] w fun e w'=>e= .returned (.string ⟨l.toArray⟩)/\Below B w w':=by
 have H:w.drew.cell? ⟨b,1,none⟩=some (.slice (some ⟨g,0,none⟩) l.length cap):=by
  have:w.drew.heap[b]? =some (.cells #[p,.slice (some ⟨g,0,none⟩) l.length cap] 66 (0,0)):=y;rw[Lib.cell_of_heap this];rfl
 have z:w.drew.heap[g]? =some (.cells h 5 (0,0)):=d;have P:(Builtin.unsafeSliceData_ #[64] 128 #[.slice (some ⟨g,0,none⟩) l.length cap]).run Tryz.prog w.drew= .ok (.pointer (some ⟨g,0,none⟩)) w.drew:=
  Lib.run_unsafeSliceData_row _ _ _ _ _ _ t
 have L:(Builtin.unsafeString_ #[128,3] 9 #[.pointer (some ⟨g,0,none⟩),.int .i64 l.length]).run Tryz.prog w.drew= .ok (.string ⟨l.toArray⟩) (w.drew.freeze ⟨g,0,none⟩ l.length):=by
  refine Lib.run_unsafeString_row w.drew 128 3 9 5 Tryz.underlying128 (by rfl) g h.size (by simp[World.shape?,z]) l c r O ?_;intro j x a;have q:=(ak8.1 a).1;have n:h.toList[j]? =some (.int .u8 x.toNat):=by
   rw[<-al2 q,o];simp[Lib.byteCells,a]
  have m:(⟨g,0,none⟩:Addr).add j=⟨g,j,none⟩:=by rw[Addr.add_lit,ak7]
  rw[m,Lib.cell_of_heap z];simpa using n
 have mixed:=Tryz.checked.mixed;have t72:=Tryz.underlying66;have a72:=Tryz.isAgg66;have z72:=Tryz.sizeOf66;have v72:=Tryz.zeroValue66;have I:=run_underlying Tryz.underlying66;have t70:=Tryz.underlying63;have a70:=Tryz.isAgg63;have z70:=Tryz.sizeOf63;have v70:=Tryz.zeroValue63;have W:=run_underlying Tryz.underlying63;have t37:=Tryz.underlying64;have a37:=Tryz.isAgg64;have z37:=Tryz.sizeOf64;have v37:=Tryz.zeroValue64;have Q:=run_underlying Tryz.underlying64;have t127:=Tryz.underlying128;have a127:=Tryz.isAgg128;have z127:=Tryz.sizeOf128;have v127:=Tryz.zeroValue128;have F:=run_underlying Tryz.underlying128;have C:=Tryz.underlying3;have a3:=Tryz.isAgg3;have G:=Tryz.sizeOf3;have v3:=Tryz.zeroValue3;have N:=run_underlying Tryz.underlying3;have T:=Tryz.underlying9;have u:=Tryz.isAgg9;have M:=Tryz.sizeOf9;have v9:=Tryz.zeroValue9;have V:=run_underlying Tryz.underlying9;have K:=Tryz.underlying5;have f:=Tryz.isAgg5;have D:=Tryz.sizeOf5;have v5:=Tryz.zeroValue5;have U:=run_underlying Tryz.underlying5;go_enter Tryz.func24,Tryz.ntmps24;go_wp2;go_region_o;all_goals(go_wp2;go_ret;exact⟨rfl,Lib.below_freeze (Below.drew (Below.refl B w)) (p:=⟨g,0,none⟩) v _⟩)
theorem vi{s:List UInt8}(h:Gz b s (some g) H)(o:B<=g)(f:s.length<=1000000000000):
  aD 24 [ptr b] H fun v J=>ak (v=aA s/\aj (fun z=>B<=z) H J):=fun w u=>by
 obtain⟨p,v,r,K,⟨⟨F,j⟩,d⟩,T⟩:=h;subst u;obtain⟨l,c,rfl,x,L,A,C⟩:=j;obtain⟨t,n,y,a⟩:=d g rfl;have m:y=(0,0)/\n.toList=l:=by
  unfold Hp.own at x;rw[a]at x;dsimp only at x;split at x
  ·grind
  ·cases x
 obtain⟨rfl,rfl⟩:=m;have N:s.length≠0:=Z;refine(LF (B:=B) o t f r a O Z Z).mono ?_;rintro e w' ⟨rfl,q⟩;obtain⟨s1,P⟩:=pN q;exact⟨_,rfl,s1,rfl,P⟩
theorem FJ{s:List UInt8}(h:Gz b s fp H)(m:B<=b)(c:∀g,fp=some g->B<=g)(e:s.length<=1000000000000):
  aD 24 [ptr b] H fun v J=>ak (v=aA s/\aj (fun z=>B<=z) H J):=fun w x=>by
 have o:=h.lt;cases fp with
 |none=>
  obtain⟨p,v,l,a,⟨⟨q,n⟩,d⟩,j⟩:=h;subst x;obtain⟨r,rfl⟩:=n;have y:s=[]:=Z;subst y;have key:Lib.BuilderAt 66 5 B b p (Lib.byteCells []) w:=⟨m,_,l,⟨rfl,.inl ⟨rfl,rfl⟩⟩,fun h=>(by cases h)⟩;refine HX (B:=B) (b:=b) (s:=[]) (H:=w.heap) ⟨O,fun w' t=>sU (w:=w) ?_ t⟩ w rfl;rcases a with rfl|rfl
  ·exact .inl key
  ·exact .inr key
 |some g=>exact vi h (c g rfl) e w x
end
end Go.Proofs.YtnanofhkpglbaaaGreatDoor
namespace Go.Proofs.YtnanofhkpglbaaaGreatDoor
open Go Go.Vc
section
variable{u:Nat}
theorem kF(h:u<10):Lib.decDigits u=[UInt8.ofNat (48+u)]:=by rw[Lib.decDigits,dif_pos h]
theorem vj(h:¬u<10):Lib.decDigits u=Lib.decDigits (u / 10)++[UInt8.ofNat (48+u%10)]:=by rw[Lib.decDigits,dif_neg h]
theorem eJ(H:Hp)(y:u<18446744073709551616):aD 54 [u64 u] H fun v J=>ak (v=aA (Lib.decDigits u)/\af H J):=by
 refine aL zi ?_;refine vs ?_;have r:=cF y;refine ba.intro (fun k env J=>∃ (s:List UInt8),env=[(0,u64 (k:Nat)),(3,aA s)]/\k<=u/\Lib.decDigits k++s=Lib.decDigits u/\af H J) u ⟨[],rfl,alj _,by simp,aj.refl _ _⟩ ?_;rintro m env x ⟨s,rfl,hm,h,w⟩;have t:s.length<=20:=by
  have:=ald List.length h;rw[alm]at this;omega
 refine vs ?_;refine ai.dec (fun c=>?_) (fun c=>?_)<;>refine vs ?_
 ·have g:(m:Int).tmod 10=((m%10:Nat):Int):=by rw[amt O];omega
  have a:(m:Int).tdiv 10=((m / 10:Nat):Int):=by rw[ams O];omega
  have l:¬ ((10:Int)=0):=by decide
  simp(disch:=(first|exact aV|fail)) only[go_sem, ↓reduceIte,Zv,g,a,if_neg l];rw[eG (n:=48+((m%10:Nat):Int)) O O,ON (n:=48+((m%10:Nat):Int)) O O];have z:af x (x.new 5 [.int .u8 (48+((m%10:Nat):Int))]):=bm;refine bD.rowOf (Sl.bs (size:=1) (n:=1) (xs:=[.int .u8 (48+((m%10:Nat):Int))]) rfl rfl).rd ?_;refine vs ?_;rw[show(48+((m%10:Nat):Int)).toNat=48+m%10 by omega];simp(disch:=(first|exact aV|fail)) only[go_sem, ↓reduceIte,Zv,Option.map_some];rw[bI [UInt8.ofNat (48+m%10)] s (by simp only[alR];omega)];simp(disch:=(first|exact aV|fail)) only[go_sem, ↓reduceIte,Zv,a,if_neg l];rw[eG (n:=((m / 10:Nat):Int)) O O];refine⟨m / 10,O,_,rfl,O,?_,w.trans z⟩;rw[<-amg,<-vj O];exact h
 ·have e:m<10:=O;rw[eG (n:=48+(m:Int)) O O,ON (n:=48+(m:Int)) O O];have z:af x (x.new 5 [.int .u8 (48+(m:Int))]):=bm;refine bD.rowOf (Sl.bs (size:=1) (n:=1) (xs:=[.int .u8 (48+(m:Int))]) rfl rfl).rd ?_;refine vs ?_;rw[show(48+(m:Int)).toNat=48+m by omega];simp(disch:=(first|exact aV|fail)) only[go_sem, ↓reduceIte,Zv,Option.map_some];rw[bI [UInt8.ofNat (48+m)] s (by simp only[alR];omega)];refine vs ?_;rw[kF e]at h;exact⟨by rw[h];rfl,w.trans z⟩
theorem mG(H:Hp){n:Int}(g: -9223372036854775808<=n)(y:n<=9223372036854775807):aD 34 [i64 n] H fun v J=>ak (v=aA (Lib.itoa n)/\af H J):=by
 refine aL CL ?_;refine vs ?_;refine ai.dec (fun c=>?_) (fun c=>?_)<;>refine vs ?_
 ·obtain⟨u,rfl⟩:∃u:Nat,n=u:=⟨n.toNat,O⟩;rw[eG (n:=(u:Int)) O O];refine(eJ H (u:=u) O).mono ?_;rintro _ h ⟨rfl,x⟩;refine vs ?_;exact⟨by rfl,x⟩
 ·obtain⟨u,rfl⟩:∃u:Nat,n= -(u:Int):=⟨n.natAbs,O⟩;have l:(-(u:Int)).tmod 10= -((u%10:Nat):Int):=by rw[Int.neg_tmod,amt O];omega
  have w:(-(u:Int)).tdiv 10= -((u / 10:Nat):Int):=by rw[Int.neg_tdiv,ams O];omega
  have z:¬ ((10:Int)=0):=by decide
  simp(disch:=(first|exact aV|fail)) only[go_sem, ↓reduceIte,Zv,l,w,if_neg z];rw[wrap64 (n:=0 - -((u%10:Nat):Int)) O O,show(0:Int) - -((u%10:Nat):Int)=((u%10:Nat):Int) by omega,eG (n:=((u%10:Nat):Int)) O O];refine(eJ H (u:=u%10) O).mono ?_;rintro _ h ⟨rfl,x⟩;have l1:=cF (u:=u%10) O;have l2:=cF (u:=u / 10) O;refine vs ?_;refine ai.dec (fun m=>?_) (fun m=>?_)<;>refine vs ?_
  ·rw[bI [45] _ Z];refine vs ?_;refine⟨?_,x⟩;rw[Lib.itoa_neg u O,Nat.mod_eq_of_lt O];rfl
  ·simp(disch:=(first|exact aV|fail)) only[go_sem, ↓reduceIte,Zv,l,w,if_neg z];rw[wrap64 (n:= -((u / 10:Nat):Int)) O O,wrap64 (n:=0 - -((u / 10:Nat):Int)) O O,show(0:Int) - -((u / 10:Nat):Int)=((u / 10:Nat):Int) by omega,eG (n:=((u / 10:Nat):Int)) O O];refine(eJ h (u:=u / 10) O).mono ?_;rintro _ e ⟨rfl,a⟩;refine vs ?_;rw[bI [45] _ Z];refine vs ?_;rw[bI ([45]++Lib.decDigits (u / 10)) _ Z];refine vs ?_;refine⟨?_,x.trans a⟩;rw[Lib.itoa_neg u O,vj (u:=u) O,kF (u:=u%10) O];rfl
end
end Go.Proofs.YtnanofhkpglbaaaGreatDoor
