/- Texts put behind each other. -/
import Derived.Test.YtnanofhkpglbaaaGreatDoorK5
import Derived.Test.YtnanofhkpglbaaaGreatDoorK10
import Derived.Test.YtnanofhkpglbaaaGreatDoorK24
import Derived.Shelf.Abstract
import Derived.Shelf.RegionOpen
import Derived.WalkKit
import Derived.OwnWalkIn
import Derived.TacticsInMore
import Derived.LoopNIn
import Derived.LoopIn
set_option linter.unusedSimpArgs false
set_option linter.unusedVariables false
set_option maxRecDepth 100000
set_option maxHeartbeats 80000000
namespace Go.Proofs.YtnanofhkpglbaaaGreatDoor
open Go Go.RowKit Go.Shelf
structure Tx(T:Nat->ByteArray)(L:Nat->ByteArray):Prop where
 s0:(T 0).size=28
 s1:(T 1).size=19
 s2:(T 2).size=9
 i0:Lib.indexByte (T 0).data.toList 10=8
 i1:Lib.indexByte (T 1).data.toList 10=9
 i2:Lib.indexByte (T 2).data.toList 10=8
 x0:(T 0).extract 0 9=L 0
 x1:(T 1).extract 0 10=L 1
 x2:(T 2).extract 0 9=L 2
 y0:(T 0).extract 9 28=T 1
 y1:(T 1).extract 10 19=T 2
theorem Qe{T L:Nat->ByteArray}(h:Tx T L)(l b0:Nat)(ak5:Nat->World->Prop)(W:World)(q:W.cell? ⟨b0,0,none⟩=some (.string (T 0)))(C:W.frozen? ⟨b0,0,none⟩=false)
  (a:∀k A v,ak5 k A->ak5 k (A.setCell ⟨b0,0,none⟩ v).drew)
  (n:∀k A,ak5 k A->k<3->YieldAt Fence.wide 1 Tryz.prog l #[.string (L k)] A fun e B=>e= .returned (.bool true)/\ak5 (k+1) B/\B.heap[b0]? =A.heap[b0]?)(r:ak5 0 W):
  CallsIn Fence.wide 2 Tryz.prog 68 (#[.func (.yield l) #[] #[]]++ #[.pointer (some ⟨b0,0,none⟩)]) W fun e B=>(∃v,e= .returned v)/\ak5 3 B:=by
 have mixed:=Tryz.checked.mixed;obtain⟨s0,s1,s2,i0,i1,i2,x0,x1,x2,y0,y1⟩:=h;have m:∀ (s:ByteArray) (w:World),Calls Tryz.prog 69 #[.string s,.int .u8 10] w fun e w'=>e= .returned (.int .i64 (Lib.indexByte s.data.toList 10))/\w=w':=fun s w=>(Tryz.strings_IndexByte s 10 w).mono fun e w' h=>⟨h.1,h.2.symm⟩;refine callsIn_of_wp Tryz.func68 rfl trivial ?_ rfl;simp only[Tryz.ntmps68,amh,alk,alP,Nat.reduceAdd,Nat.reduceSub,Array.replicate_succ,Array.replicate_zero,List.push_toArray,List.append_toArray,alH,alX];gi_wp2;refine wpIn_loop_rounds 4 ?_;obtain⟨D,tm0,N,I,hy0,j⟩:=n 0 ((W.setCell ⟨b0,0,none⟩ (.string (T 1))).drew) (a _ _ _ r) O;rw[roundsIn_succ];gi_wp2_with (first| (refine⟨trivial,?_⟩;gi_at_call 69;refine(callsIn_wide.2 (m (T 0) _)).mono ?_;rintro e w' ⟨rfl,rfl⟩));gi_region;gi_wp2;refine j.mono ?_;rintro e x ⟨rfl,u,g⟩;have o:x.cell? ⟨b0,0,none⟩=some (.string (T 1)):=(World.cell?_of_block g).trans (World.cell?_setCell_same' _ _ _ (by rw[q];rfl));have K:x.frozen? ⟨b0,0,none⟩=false:=(World.frozen?_of_block g).trans (by show(World.setCell _ _ _).frozen? _=_;rw[World.frozen?_setCell];exact C);gi_wp2;obtain⟨M,tm1,Q,V,hy1,d⟩:=n 1 ((x.setCell ⟨b0,0,none⟩ (.string (T 2))).drew) (a _ _ _ u) O;rw[roundsIn_succ];gi_wp2_with (first| (refine⟨trivial,?_⟩;gi_at_call 69;refine(callsIn_wide.2 (m (T 1) _)).mono ?_;rintro e w' ⟨rfl,rfl⟩));gi_region;gi_wp2;refine d.mono ?_;rintro e z ⟨rfl,H,y⟩;have f:z.cell? ⟨b0,0,none⟩=some (.string (T 2)):=(World.cell?_of_block y).trans (World.cell?_setCell_same' _ _ _ (by rw[o];rfl));have F:z.frozen? ⟨b0,0,none⟩=false:=(World.frozen?_of_block y).trans (by show(World.setCell _ _ _).frozen? _=_;rw[World.frozen?_setCell];exact K);gi_wp2;obtain⟨E,tm2,U,G,VS,p⟩:=n 2 ((z.setCell ⟨b0,0,none⟩ (.string ByteArray.empty)).drew) (a _ _ _ H) O;rw[roundsIn_succ];gi_wp2_with (first| (refine⟨trivial,?_⟩;gi_at_call 69;refine(callsIn_wide.2 (m (T 2) _)).mono ?_;rintro e w' ⟨rfl,rfl⟩));gi_region;gi_wp2;refine p.mono ?_;rintro e c ⟨rfl,P,t⟩;have X:c.cell? ⟨b0,0,none⟩=some (.string ByteArray.empty):=(World.cell?_of_block t).trans (World.cell?_setCell_same' _ _ _ (by rw[f];rfl));have SN:c.frozen? ⟨b0,0,none⟩=false:=(World.frozen?_of_block t).trans (by show(World.setCell _ _ _).frozen? _=_;rw[World.frozen?_setCell];exact F);gi_wp2;rw[roundsIn_succ];gi_wp2;go_end0;exact⟨⟨_,rfl⟩,P⟩
end Go.Proofs.YtnanofhkpglbaaaGreatDoor
