import Derived.Test.YtjkkkibiegfecaaGreatDoorK98
import Derived.Test.YtjkkkibiegfecaaGreatDoorK0
import Derived.Test.YtjkkkibiegfecaaGreatDoorK1
import Derived.Test.YtjkkkibiegfecaaGreatDoorK2
import Derived.Test.YtjkkkibiegfecaaGreatDoorK3
import Derived.Test.YtjkkkibiegfecaaGreatDoorK4
import Derived.Test.YtjkkkibiegfecaaGreatDoorK5
import Derived.Test.YtjkkkibiegfecaaGreatDoorK6
import Derived.Test.YtjkkkibiegfecaaGreatDoorK7
import Derived.Test.YtjkkkibiegfecaaGreatDoorK8
import Derived.Test.YtjkkkibiegfecaaGreatDoorK9
import Derived.Test.YtjkkkibiegfecaaGreatDoorK10
import Derived.Test.YtjkkkibiegfecaaGreatDoorK11
import Derived.Test.YtjkkkibiegfecaaGreatDoorK12
import Derived.Test.YtjkkkibiegfecaaGreatDoorK13
import Derived.Test.YtjkkkibiegfecaaGreatDoorK15
import Derived.Test.YtjkkkibiegfecaaGreatDoorK16
import Derived.Test.YtjkkkibiegfecaaGreatDoorK17
import Derived.Test.YtjkkkibiegfecaaGreatDoorK18
import Derived.Test.YtjkkkibiegfecaaGreatDoorK19
import Derived.Test.YtjkkkibiegfecaaGreatDoorK20
import Derived.Test.YtjkkkibiegfecaaGreatDoorK21
import Derived.Test.YtjkkkibiegfecaaGreatDoorK22
import Derived.Test.YtjkkkibiegfecaaGreatDoorK23
import Derived.Test.YtjkkkibiegfecaaGreatDoorK24
import Derived.Test.YtjkkkibiegfecaaGreatDoorK25
import Derived.Test.YtjkkkibiegfecaaGreatDoorK26
import Derived.Test.YtjkkkibiegfecaaGreatDoorK27
import Derived.Test.YtjkkkibiegfecaaGreatDoorK28
import Derived.Test.YtjkkkibiegfecaaGreatDoorK29
import Derived.Test.YtjkkkibiegfecaaGreatDoorK30
import Derived.Test.YtjkkkibiegfecaaGreatDoorK31
import Derived.Test.YtjkkkibiegfecaaGreatDoorK32
import Derived.Test.YtjkkkibiegfecaaGreatDoorK33
import Derived.Test.YtjkkkibiegfecaaGreatDoorK34
import Derived.Test.YtjkkkibiegfecaaGreatDoorK35
import Derived.Test.YtjkkkibiegfecaaGreatDoorK37
import Derived.Test.YtjkkkibiegfecaaGreatDoorK39
import Derived.Test.YtjkkkibiegfecaaGreatDoorK40
import Derived.Test.YtjkkkibiegfecaaGreatDoorK41
import Derived.Test.YtjkkkibiegfecaaGreatDoorK42
import Derived.Test.YtjkkkibiegfecaaGreatDoorK43
import Derived.Test.YtjkkkibiegfecaaGreatDoorK44
import Derived.Test.YtjkkkibiegfecaaGreatDoorK45
import Derived.Test.YtjkkkibiegfecaaGreatDoorK46
import Derived.Test.YtjkkkibiegfecaaGreatDoorK47
import Derived.Test.YtjkkkibiegfecaaGreatDoorK48
import Derived.Test.YtjkkkibiegfecaaGreatDoorCards
import Derived.Test.YtjkkkibiegfecaaGreatDoorTie
import Derived.WalkKit
import Derived.ProofKit
import Derived.OpenShut
import Derived.LaidMore
import Derived.Stop.Joined
import Derived.SevenTiedAt
import Derived.Lay
set_option maxRecDepth 100000
set_option maxHeartbeats 8000000
namespace Go.Proofs.YtjkkkibiegfecaaGreatDoor.playParts
open Go Go.Vc Go.ChangeShapes Go.WideShapes Go.ChangeAt Go.RowKit
theorem own:ownKnob Tryz.prog.godebug=none:=by kernel_rfl
theorem laidOut:laidOutB Tryz.prog=true:=by kernel_rfl
def T5:List (Bool×List Vc.Pc):=[(true,[.k (.i .i64),.k (.i .i64),.k (.i .u8),.k (.i .u32)]),(false,[.sl [.i .i64,.i .u32,.i .u32,.i .i64]]),(false,[.sl [.i .i64,.i .u32,.i .u32,.i .i64]])]
theorem walk(args:List Value)(W:World)(hL:laidMetH Tryz.prog Rows.playPartsRow.laid W)(FA:W.ShapedOpen Tryz.prog)(h:oB (EO W.heap) T5 args):ag Tryz.prog 6 args W.heap fun v H'=>ap (v= .bool true∧ai W.heap H'):=by
 rw[MakeChecks.laidMetH_plain _ _ _ (by kernel_rfl)]at hL
 obtain⟨v0,r0,rfl,h0,v1,r1,rfl,h1,v2,r2,rfl,h2,rfl⟩:=h
 exact abz (Ja hL FA) h0 h1 h2
theorem lifted(os:Os)(started:os.Started)(H:Type)(enc:TypeId×Value→H):
  ReturnsInHanded {} Tryz.checked os 6 .any (fun w args=>(Rows.playPartsSpec.pre enc Tryz.prog Tryz.f6 [] false w args∧laidMetH Tryz.prog Rows.playPartsRow.laid w)∧sizedMet enc Tryz.prog Tryz.f6 (OpenSpec.ofChange Rows.playPartsSpec) false w args)
   (Rows.playPartsSpec.post enc Tryz.prog Tryz.f6 false true false false):=by
 refine oU (C:=Tryz.checked) (X:=fun w _=>laidMetH Tryz.prog Rows.playPartsRow.laid w) (fun _ _ _ hh h=>h.of_heap hh) own started (by kernel_rfl) Tryz.func6
  (ChangeSpec.witness_shaped (enc:=enc) (C:=Tryz.checked) (os:=os) (X:=fun w _=>laidMetH Tryz.prog Rows.playPartsRow.laid w) false (World.laidAll Tryz.prog os Rows.playPartsRow.laid) #[.agg #[.int .i64 0,.int .i64 0,.int .u8 0,.int .u32 0],.slice none 0 0,.slice none 0 0] 8 (World.laidAll_os _ _ _)
   (World.shaped_of_ZipB (by kernel_rfl) (by kernel_rfl)) (by kernel_rfl) (by kernel_rfl) (by kernel_rfl) (by rw[MakeChecks.laidMetH_plain _ _ _ (by kernel_rfl)];exact laidMet_laidAll _ (by kernel_rfl) (by kernel_rfl))) ?_
 intro W base args ds gs before My hW _ _ hL FA _
 exact Fi (C:=Tryz.checked) (shs:=T5) (tb:=4) (by kernel_rfl) rfl (fun ds h=>by match ds,h with| [_,_,_],_=>rfl) rfl (by kernel_rfl) laidOut (by kernel_rfl) My hW (walk args.toList W hL FA)
theorem ac0:(Rows.playPartsRow.wf (OpenSpec.ofChange Rows.playPartsSpec))=true:=by kernel_rfl
theorem ac1:(laidOutB Tryz.prog)=true:=by kernel_rfl
theorem ac2:(mapsRowed Tryz.prog)=true:=by kernel_rfl
theorem ac3:(Tryz.f6.params.all (Tryz.prog.readableRec ·))=true:=by kernel_rfl
theorem ac4:(namedTie Tryz.prog Rows.playPartsRow.named Rows.playPartsSpec.vars)=true:=by kernel_rfl
theorem ac5:((Rows.playPartsRow.stops== []))=true:=by kernel_rfl
theorem ac6:((Tryz.prog.stops== []))=true:=by kernel_rfl
theorem ac7:((Rows.playPartsRow.knobs== []))=true:=by kernel_rfl
theorem ac8:((Tryz.prog.stopKnobs== []))=true:=by kernel_rfl
theorem ac9:((Rows.playPartsRow.inPlace==Tryz.prog.inPlace 6))=true:=by kernel_rfl
theorem YV:((Rows.playPartsRow.unfollowed==Tryz.prog.unfollowed 6))=true:=by kernel_rfl
theorem YW:((Rows.playPartsRow.recurses==Tryz.prog.recurses 6))=true:=by kernel_rfl
theorem YX:((Rows.playPartsRow.named==Tryz.prog.varsNamed 6))=true:=by kernel_rfl
theorem YY:((Rows.playPartsRow.maps== (Tryz.f6.params.toList++Rows.playPartsSpec.plain.varTypes Tryz.prog).any (Tryz.prog.mapsRec ·)))=true:=by kernel_rfl
theorem YZ:((Rows.playPartsRow.ifaces== (Tryz.f6.params.toList++Rows.playPartsSpec.plain.varTypes Tryz.prog).any (Tryz.prog.ifacesRec ·)))=true:=by kernel_rfl
theorem Y0:((Rows.playPartsRow.mapsOut==Tryz.prog.mapsAmong Tryz.f6.resultTypes.toList))=true:=by kernel_rfl
theorem Y1:((Rows.playPartsRow.loops== (Tryz.f6.params.toList++Rows.playPartsSpec.plain.varTypes Tryz.prog).any (Tryz.prog.loopsFrom ·)))=true:=by kernel_rfl
theorem Y2:((Rows.playPartsRow.wideKeys== (Tryz.f6.params.toList++Rows.playPartsSpec.plain.varTypes Tryz.prog++Tryz.f6.resultTypes.toList).any (Tryz.prog.wideKeysFrom ·)))=true:=by kernel_rfl
theorem Y3:(Rows.playPartsSpec.vars.all (Tryz.prog.varReadable ·))=true:=by kernel_rfl
theorem Y4:(Tryz.f6.resultTypes.all (fun t=>Tryz.prog.readableRec t && decide (t<Tryz.prog.types.size)))=true:=by kernel_rfl
theorem Y5:((Rows.playPartsRow.ifacesOut==Tryz.f6.resultTypes.toList.any (Tryz.prog.ifacesRec ·)))=true:=by kernel_rfl
theorem Y6:((Rows.playPartsRow.loopsOut==Tryz.f6.resultTypes.toList.any (Tryz.prog.loopsFrom ·)))=true:=by kernel_rfl
theorem Y7:((Rows.playPartsRow.plainKeys==Tryz.prog.plainKeys))=true:=by kernel_rfl
theorem Y8:(Rows.playPartsRow.shortTexts.isNone)=true:=by kernel_rfl
theorem Y9:(Tryz.prog.stopsHeard)=true:=by kernel_rfl
theorem Za:(Tryz.prog.mayEnter)=true:=by kernel_rfl
theorem Zb:((Rows.playPartsRow.lifted==Tryz.prog.liftsFinal))=true:=by kernel_rfl
theorem Zc:((Tryz.prog.make==some Rows.playPartsRow.make))=true:=by kernel_rfl
theorem Zd:((Rows.playPartsRow.kinds== (if Rows.playPartsRow.domain.isEmpty then[]else Tryz.f6.params.toList.map fun t=>match Tryz.prog.underlying t with|some (.int k)=>some k|_=>none)))=true:=by kernel_rfl
theorem Ze:((Rows.playPartsRow.pinned==Rows.playPartsRow.pinnedBy))=true:=by kernel_rfl
theorem Zf:((Rows.playPartsRow.veiled== (Tryz.f6.params.toList++Rows.playPartsSpec.plain.varTypes Tryz.prog++Tryz.f6.resultTypes.toList).any (Tryz.prog.veiledRec ·)))=true:=by kernel_rfl
theorem Zg:(Rows.playPartsRow.veiledFits Tryz.prog Tryz.f6.params.toList (Tryz.f6.params.toList++Rows.playPartsSpec.plain.varTypes Tryz.prog++Tryz.f6.resultTypes.toList))=true:=by kernel_rfl
theorem a2{a b:Bool}(h1:a=true)(h2:b=true):(a && b)=true:=by rw[h1,h2];rfl
theorem closed:joinedFacts Tryz.prog 6 Tryz.f6 Rows.playPartsSpec Rows.playPartsRow=true:=by
 unfold joinedFacts
 exact a2 (a2 (a2 (a2 (a2 (a2 (a2 (a2 (a2 (a2 (a2 (a2 (a2 (a2 (a2 (a2 (a2 (a2 (a2 (a2 (a2 (a2 (a2 (a2 (a2 (a2 (a2 (a2 (a2 (a2 (a2 ac0 ac1) ac2) ac3) ac4) ac5) ac6) ac7) ac8) ac9) YV) YW) YX) YY) YZ) Y0) Y1) Y2) Y3) Y4) Y5) Y6) Y7) Y8) Y9) Za) Zb) Zc) Zd) Ze) Zf) Zg
theorem over:Rows.playPartsRow.holds Tryz.pinned (OpenSpec.ofChange Rows.playPartsSpec):=
 OpenClaim.holds_of_wide 6 Tryz.f6 rfl rfl rfl rfl rfl rfl rfl ⟨rfl,rfl,rfl,rfl,rfl⟩ rfl rfl rfl rfl rfl (by kernel_rfl) Tryz.func6 closed
  (of_decide_eq_true (by kernel_rfl)) (by unfold Func.isWrapper;first| (rw[if_pos (by decide+kernel)];kernel_rfl)| (rw[if_neg (by decide+kernel)];exact⟨rfl,rfl⟩))
  (fun os started H enc _=>lifted os started H enc)
theorem proved:Rows.PlayPartsCardSaid:=
 Claim7.holds_tied_plain_at .later [] [.data,.data,.data,.data,.sentinel,.sentinel,.pinned] true (true, "f168c620f95e308897a1e5646805e86aba7dc5416026d7d61109e452dc96a7e8") true
  over (fun _ h=>by cases h) (by kernel_rfl) (fun _ h=>by cases h) playParts_row_tie rfl ⟨rfl,rfl⟩ (by kernel_rfl) rfl
  (fun f fn hf hfn=>by
   obtain rfl:f=6:=Option.some.inj ((show Tryz.prog.funcNamed "haycock/haycocklaw19.PlayParts" =some 6 by kernel_rfl).symm.trans hf)|>.symm
   obtain rfl:fn=Tryz.f6:=(Option.some.inj (Tryz.func6.symm.trans hfn)).symm
   exact⟨by kernel_rfl,fun j t ht=>by
    rw[Tryz.params6]at ht
    rcases j with _|_|_|j
    ·obtain rfl:t=26:=by simpa using ht.symm
     exact(show Tryz.prog.wantsStandIn 26=false by kernel_rfl)
    ·obtain rfl:t=40:=by simpa using ht.symm
     exact(show Tryz.prog.wantsStandIn 40=false by kernel_rfl)
    ·obtain rfl:t=40:=by simpa using ht.symm
     exact(show Tryz.prog.wantsStandIn 40=false by kernel_rfl)
    ·simp at ht⟩)
  (by kernel_rfl)
#print axioms proved
end Go.Proofs.YtjkkkibiegfecaaGreatDoor.playParts
