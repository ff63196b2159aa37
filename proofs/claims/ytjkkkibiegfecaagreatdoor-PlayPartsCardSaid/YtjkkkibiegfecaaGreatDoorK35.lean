/- Texts put behind each other. -/
import Derived.Test.YtjkkkibiegfecaaGreatDoorK98
import Derived.Test.YtjkkkibiegfecaaGreatDoorK2
import Derived.Test.YtjkkkibiegfecaaGreatDoorK21
import Derived.Test.YtjkkkibiegfecaaGreatDoorK22
import Derived.Test.YtjkkkibiegfecaaGreatDoorK23
set_option maxRecDepth 100000
set_option maxHeartbeats 8000000
set_option linter.unusedVariables false
set_option linter.unusedSimpArgs false
namespace Go.Proofs.YtjkkkibiegfecaaGreatDoor
open Go Go.Vc Go.RowKit Go.Sort
structure yk(H:Hp):Prop where
 wP:IJ H
 syn:∀w:World,w.heap=H→∃tp p,w.var? Tryz.prog "strconv.ErrSyntax" =some #[.iface tp p]
 rng:∀w:World,w.heap=H→∃tp p,w.var? Tryz.prog "strconv.ErrRange" =some #[.iface tp p]
 lim:∀w:World,w.heap=H→∃m,w.cell? ⟨1,0,none⟩=some (.int .i64 m)
theorem JW{w w':World}(e:ai w.heap w'.heap){a:Addr}{v:Value}(h:w.cell? a=some v):w'.cell? a=some v:=by
 have bf:=Lib.lt_of_cell h
 have hb:w'.heap[a.block]? =w.heap[a.block]? :=e.aO a.block bf (fun h=>h)
 rw[←h]
 unfold World.cell?
 rw[hb]
theorem yk.fresh{H H':Hp}(h:yk H)(e:ai H H'):yk H':=by
 refine⟨h.wP.fresh e,fun w hw=>?_,fun w hw=>?_,fun w hw=>?_⟩
 ·obtain⟨tp,p,h0⟩:=h.syn {w with heap:=H} rfl
  exact⟨tp,p,rq (w:={w with heap:=H}) (w':=w) (by rw[hw];exact e) h0⟩
 ·obtain⟨tp,p,h0⟩:=h.rng {w with heap:=H} rfl
  exact⟨tp,p,rq (w:={w with heap:=H}) (w':=w) (by rw[hw];exact e) h0⟩
 ·obtain⟨m,h0⟩:=h.lim {w with heap:=H} rfl
  exact⟨m,JW (w:={w with heap:=H}) (w':=w) (by rw[hw];exact e) h0⟩
theorem tg{w w':World}(h:Below w.heap.size w w'):cz w w'∧ai w.heap w'.heap:=
 ⟨⟨h.os,h.output⟩,⟨h.size,fun b hb _=>h.block b hb⟩⟩
theorem uE{H:Hp}(he:yk H)(l:List UInt8)(hl:l.length≤1000000):ag Tryz.prog yZ [aW l,i64 10,i64 64] H fun v H'=>ap (ai H H'∧
  ((∃n,Lib.parseIntB 64 l= .ok n∧v= .tuple [i64 n,.nilIface].toArray)∨((∀n,Lib.parseIntB 64 l≠ .ok n)∧∃x t u,v= .tuple [i64 x,.iface t u].toArray))):=fun w hw=>by
 have hs:(⟨l.toArray⟩:ByteArray).size=l.length:=by simp[ByteArray.size]
 have hd:(⟨l.toArray⟩:ByteArray).data.toList=l:=rfl
 rcases hp:Lib.parseIntB 64 l with n|_|_
 ·refine(Tryz.strconv_ParseInt_10_at64_ok ⟨l.toArray⟩ (by rw[hs];omega) n (by rw[hd];exact hp) w).mono ?_
  rintro e w' ⟨rfl,JE⟩
  have hb:Below w.heap.size w w':=by
   rcases JE with rfl| ⟨t,rfl⟩
   ·exact Below.refl _ _
   ·exact Lib.bytesWorld_below _ _ _
  obtain⟨s1,s2⟩:=tg hb
  exact⟨_,rfl,s1,by rw[←hw];exact s2,.inl ⟨n,rfl,rfl⟩⟩
 ·obtain⟨tp,p,hv⟩:=he.syn w hw
  refine(Any.strconv_ParseInt_10_at64_syntax_var Tryz.Hx ⟨l.toArray⟩ (by rw[hs];omega) (by rw[hd];exact hp) tp p w hv).mono ?_
  rintro e w' ⟨N,rfl,_,_,hb⟩
  obtain⟨s1,s2⟩:=tg hb
  exact⟨_,rfl,s1,by rw[←hw];exact s2,.inr ⟨fun n h=>(by cases h),_,_,_,rfl⟩⟩
 ·obtain⟨tp,p,hv⟩:=he.rng w hw
  refine(Any.strconv_ParseInt_10_at64_range_var Tryz.Hx ⟨l.toArray⟩ (by rw[hs];omega) (by rw[hd];exact hp) tp p w hv).mono ?_
  rintro e w' ⟨N,rfl,_,_,hb⟩
  obtain⟨s1,s2⟩:=tg hb
  exact⟨_,rfl,s1,by rw[←hw];exact s2,.inr ⟨fun n h=>(by cases h),_,_,_,rfl⟩⟩
theorem Cs{H:Hp}(he:yk H)(l:List UInt8)(hl:l.length≤1000000):ag Tryz.prog uU [aW l] H fun v H'=>ap (ai H H'∧
  ((∃n:Int, -9223372036854775808≤n∧n≤9223372036854775807∧l=Lib.itoa n∧v= .tuple [i64 n,.bool true].toArray)∨
   ((∀n:Int, -9223372036854775808≤n→n≤9223372036854775807→l≠Lib.itoa n)∧v= .tuple [i64 0,.bool false].toArray))):=by
 refine aU Gr ?_
 refine vs ?_
 refine(uE he l hl).mono ?_
 rintro _ H1 ⟨f1,⟨n,hn,rfl⟩| ⟨hn,x,t,u,rfl⟩⟩
 ·obtain⟨h0,h1⟩:=Dd hn
  refine vs ?_
  refine(bA (he.wP.fresh f1) h0 h1).mono ?_
  rintro _ H2 ⟨rfl,f2⟩
  refine v1 rj ?_
  refine ar.dec (fun hq=>?_) (fun hq=>?_)<;>refine vs ?_
  ·exact⟨f1.trans f2,.inl ⟨n,h0,h1,hq.symm,rfl⟩⟩
  ·refine⟨f1.trans f2,.inr ⟨fun m g0 g1 hm=>hq ?_,rfl⟩⟩
   rw[hm,zZ g0 g1]at hn
   injection hn with hn
   rw[hm,hn]
 ·refine vs ?_
  exact⟨f1,.inr ⟨fun m g0 g1 hm=>hn m (by rw[hm];exact zZ g0 g1),rfl⟩⟩
end Go.Proofs.YtjkkkibiegfecaaGreatDoor

namespace Go.Proofs.YtjkkkibiegfecaaGreatDoor
open Go Go.Vc
end Go.Proofs.YtjkkkibiegfecaaGreatDoor
