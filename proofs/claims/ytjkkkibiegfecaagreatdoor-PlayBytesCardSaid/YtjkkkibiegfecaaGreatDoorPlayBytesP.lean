import Derived.Test.YtjkkkibiegfecaaGreatDoorK41
import Derived.Test.YtjkkkibiegfecaaGreatDoorK50
import Derived.Test.YtjkkkibiegfecaaGreatDoorCards
import Derived.Test.YtjkkkibiegfecaaGreatDoorTie
import Derived.ProofKit
import Derived.SevenTiedAt
import Derived.Lay
set_option maxRecDepth 100000
set_option maxHeartbeats 8000000
namespace Go.Proofs.YtjkkkibiegfecaaGreatDoor.playBytes
open Go Go.Vc Go.ChangeShapes Go.WideShapes Go.ChangeAt Go.RowKit
theorem own:ownKnob Tryz.prog.godebug=none:=by kernel_rfl
theorem laidOut:laidOutB Tryz.prog=true:=by kernel_rfl
def PL:List (Bool×List Vc.Pc):=[(true,[.k (.i .i64),.k (.i .i64),.k (.i .u8),.k (.i .u32)]),(false,[.sl [.i .u8]])]
theorem walk(args:List Value)(W:World)(hL:laidMetH Tryz.prog Rows.playBytesRow.laid W)(hsh:W.ShapedOpen Tryz.prog)(h:lP (zL W.heap) PL args):ee Tryz.prog 7 args W.heap fun v J=>ak (v= .bool true/\af W.heap J):=by
 rw[MakeChecks.laidMetH_plain _ _ _ (by kernel_rfl)]at hL
 obtain⟨v0,r0,rfl,h0,v1,r1,rfl,h1,rfl⟩:=h
 exact r9 (FF hL hsh) h0 h1
theorem lifted(os:Os)(started:os.Started)(H:Type)(enc:TypeId×Value->H):
  ReturnsInHanded {} Tryz.checked os 7 .any (fun w args=>(Rows.playBytesSpec.pre enc Tryz.prog Tryz.f7 [] false w args/\laidMetH Tryz.prog Rows.playBytesRow.laid w)/\sizedMet enc Tryz.prog Tryz.f7 (OpenSpec.ofChange Rows.playBytesSpec) false w args)
   (Rows.playBytesSpec.post enc Tryz.prog Tryz.f7 false true false false):=by
 refine ms (C:=Tryz.checked) (X:=fun w _=>laidMetH Tryz.prog Rows.playBytesRow.laid w) (fun _ _ _ hh h=>h.of_heap hh) own started (by kernel_rfl) Tryz.func7
  (ChangeSpec.witness_shaped (enc:=enc) (C:=Tryz.checked) (os:=os) (X:=fun w _=>laidMetH Tryz.prog Rows.playBytesRow.laid w) false (World.laidAll Tryz.prog os Rows.playBytesRow.laid) #[.agg #[.int .i64 0,.int .i64 0,.int .u8 0,.int .u32 0],.slice none 0 0] 8 (World.laidAll_os _ _ _)
   (World.shaped_of_ZipB (by kernel_rfl) (by kernel_rfl)) (by kernel_rfl) (by kernel_rfl) (by kernel_rfl) (by rw[MakeChecks.laidMetH_plain _ _ _ (by kernel_rfl)];exact laidMet_laidAll _ (by kernel_rfl) (by kernel_rfl))) ?_
 intro W base args ds gs before TA hW _ _ hL hsh _
 exact BZ (C:=Tryz.checked) (shs:=PL) (tb:=4) (by kernel_rfl) rfl (fun ds h=>by match ds,h with| [_,_],_=>rfl) rfl (by kernel_rfl) laidOut (by kernel_rfl) TA hW (walk args.toList W hL hsh)
theorem Yt:(Rows.playBytesRow.wf (OpenSpec.ofChange Rows.playBytesSpec))=true:=by kernel_rfl
theorem Yu:(laidOutB Tryz.prog)=true:=by kernel_rfl
theorem Yv:(mapsRowed Tryz.prog)=true:=by kernel_rfl
theorem Yw:(Tryz.f7.params.all (Tryz.prog.readableRec ·))=true:=by kernel_rfl
theorem Yx:(namedTie Tryz.prog Rows.playBytesRow.named Rows.playBytesSpec.vars)=true:=by kernel_rfl
theorem Yy:((Rows.playBytesRow.stops== []))=true:=by kernel_rfl
theorem Yz:((Tryz.prog.stops== []))=true:=by kernel_rfl
theorem YA:((Rows.playBytesRow.knobs== []))=true:=by kernel_rfl
theorem YB:((Tryz.prog.stopKnobs== []))=true:=by kernel_rfl
theorem YC:((Rows.playBytesRow.inPlace==Tryz.prog.inPlace 7))=true:=by kernel_rfl
theorem Ur:((Rows.playBytesRow.unfollowed==Tryz.prog.unfollowed 7))=true:=by kernel_rfl
theorem Us:((Rows.playBytesRow.recurses==Tryz.prog.recurses 7))=true:=by kernel_rfl
theorem Ut:((Rows.playBytesRow.named==Tryz.prog.varsNamed 7))=true:=by kernel_rfl
theorem Uu:((Rows.playBytesRow.maps== (Tryz.f7.params.toList++Rows.playBytesSpec.plain.varTypes Tryz.prog).any (Tryz.prog.mapsRec ·)))=true:=by kernel_rfl
theorem Uv:((Rows.playBytesRow.ifaces== (Tryz.f7.params.toList++Rows.playBytesSpec.plain.varTypes Tryz.prog).any (Tryz.prog.ifacesRec ·)))=true:=by kernel_rfl
theorem Uw:((Rows.playBytesRow.mapsOut==Tryz.prog.mapsAmong Tryz.f7.resultTypes.toList))=true:=by kernel_rfl
theorem Ux:((Rows.playBytesRow.loops== (Tryz.f7.params.toList++Rows.playBytesSpec.plain.varTypes Tryz.prog).any (Tryz.prog.loopsFrom ·)))=true:=by kernel_rfl
theorem Uy:((Rows.playBytesRow.wideKeys== (Tryz.f7.params.toList++Rows.playBytesSpec.plain.varTypes Tryz.prog++Tryz.f7.resultTypes.toList).any (Tryz.prog.wideKeysFrom ·)))=true:=by kernel_rfl
theorem Uz:(Rows.playBytesSpec.vars.all (Tryz.prog.varReadable ·))=true:=by kernel_rfl
theorem UA:(Tryz.f7.resultTypes.all (fun t=>Tryz.prog.readableRec t && decide (t<Tryz.prog.types.size)))=true:=by kernel_rfl
theorem UB:((Rows.playBytesRow.ifacesOut==Tryz.f7.resultTypes.toList.any (Tryz.prog.ifacesRec ·)))=true:=by kernel_rfl
theorem UC:((Rows.playBytesRow.loopsOut==Tryz.f7.resultTypes.toList.any (Tryz.prog.loopsFrom ·)))=true:=by kernel_rfl
theorem UD:((Rows.playBytesRow.plainKeys==Tryz.prog.plainKeys))=true:=by kernel_rfl
theorem UE:(Rows.playBytesRow.shortTexts.isNone)=true:=by kernel_rfl
theorem UF:(Tryz.prog.stopsHeard)=true:=by kernel_rfl
theorem UG:(Tryz.prog.mayEnter)=true:=by kernel_rfl
theorem UH:((Rows.playBytesRow.lifted==Tryz.prog.liftsFinal))=true:=by kernel_rfl
theorem UI:((Tryz.prog.make==some Rows.playBytesRow.make))=true:=by kernel_rfl
theorem UJ:((Rows.playBytesRow.kinds== (if Rows.playBytesRow.domain.isEmpty then[]else Tryz.f7.params.toList.map fun t=>match Tryz.prog.underlying t with|some (.int k)=>some k|_=>none)))=true:=by kernel_rfl
theorem UK:((Rows.playBytesRow.pinned==Rows.playBytesRow.pinnedBy))=true:=by kernel_rfl
theorem UL:((Rows.playBytesRow.veiled== (Tryz.f7.params.toList++Rows.playBytesSpec.plain.varTypes Tryz.prog++Tryz.f7.resultTypes.toList).any (Tryz.prog.veiledRec ·)))=true:=by kernel_rfl
theorem UM:(Rows.playBytesRow.veiledFits Tryz.prog Tryz.f7.params.toList (Tryz.f7.params.toList++Rows.playBytesSpec.plain.varTypes Tryz.prog++Tryz.f7.resultTypes.toList))=true:=by kernel_rfl
theorem a2{a b:Bool}(h1:a=true)(h2:b=true):(a && b)=true:=by rw[h1,h2];rfl
theorem closed:joinedFacts Tryz.prog 7 Tryz.f7 Rows.playBytesSpec Rows.playBytesRow=true:=by
 unfold joinedFacts
 exact a2 (a2 (a2 (a2 (a2 (a2 (a2 (a2 (a2 (a2 (a2 (a2 (a2 (a2 (a2 (a2 (a2 (a2 (a2 (a2 (a2 (a2 (a2 (a2 (a2 (a2 (a2 (a2 (a2 (a2 (a2 Yt Yu) Yv) Yw) Yx) Yy) Yz) YA) YB) YC) Ur) Us) Ut) Uu) Uv) Uw) Ux) Uy) Uz) UA) UB) UC) UD) UE) UF) UG) UH) UI) UJ) UK) UL) UM
theorem over:Rows.playBytesRow.holds Tryz.pinned (OpenSpec.ofChange Rows.playBytesSpec):=
 OpenClaim.holds_of_wide 7 Tryz.f7 rfl rfl rfl rfl rfl rfl rfl ⟨rfl,rfl,rfl,rfl,rfl⟩ rfl rfl rfl rfl rfl (by kernel_rfl) Tryz.func7 closed
  (of_decide_eq_true (by kernel_rfl)) (by unfold Func.isWrapper;first| (rw[if_pos (by decide+kernel)];kernel_rfl)| (rw[if_neg (by decide+kernel)];exact⟨rfl,rfl⟩))
  (fun os started H enc _=>lifted os started H enc)
theorem proved:Rows.PlayBytesCardSaid:=
 Claim7.holds_tied_plain_at .later [] [.data,.data,.data,.data,.sentinel,.sentinel,.pinned] true (true, "f168c620f95e308897a1e5646805e86aba7dc5416026d7d61109e452dc96a7e8") true
  over (fun _ h=>by cases h) (by kernel_rfl) (fun _ h=>by cases h) playBytes_row_tie rfl ⟨rfl,rfl⟩ (by kernel_rfl) rfl
  (fun f fn hf hfn=>by
   obtain rfl:f=7:=Option.some.inj ((show Tryz.prog.funcNamed "haycock/haycocklaw19.PlayBytes" =some 7 by kernel_rfl).symm.trans hf)|>.symm
   obtain rfl:fn=Tryz.f7:=(Option.some.inj (Tryz.func7.symm.trans hfn)).symm
   exact⟨by kernel_rfl,fun j t ht=>by
    rw[Tryz.params7]at ht
    rcases j with _|_|j
    ·obtain rfl:t=26:=by simpa using ht.symm
     exact(show Tryz.prog.wantsStandIn 26=false by kernel_rfl)
    ·obtain rfl:t=55:=by simpa using ht.symm
     exact(show Tryz.prog.wantsStandIn 55=false by kernel_rfl)
    ·simp at ht⟩)
  (by kernel_rfl)
#print axioms proved
end Go.Proofs.YtjkkkibiegfecaaGreatDoor.playBytes
