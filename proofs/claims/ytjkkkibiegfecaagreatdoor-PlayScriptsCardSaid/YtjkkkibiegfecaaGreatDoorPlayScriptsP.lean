import Derived.Test.YtjkkkibiegfecaaGreatDoorK41
import Derived.Test.YtjkkkibiegfecaaGreatDoorK44
import Derived.Test.YtjkkkibiegfecaaGreatDoorCards
import Derived.Test.YtjkkkibiegfecaaGreatDoorTie
import Derived.ProofKit
import Derived.SevenTiedAt
import Derived.Lay
set_option maxRecDepth 100000
set_option maxHeartbeats 8000000
namespace Go.Proofs.YtjkkkibiegfecaaGreatDoor.playScripts
open Go Go.Vc Go.ChangeShapes Go.WideShapes Go.ChangeAt Go.RowKit
theorem own:ownKnob Tryz.prog.godebug=none:=by kernel_rfl
theorem laidOut:laidOutB Tryz.prog=true:=by kernel_rfl
def PL:List (Bool×List Vc.Pc):=[(true,[.k (.i .i64),.k (.i .i64),.k (.i .u8),.k (.i .u32)]),(false,[.k .s]),(true,[.k (.i .i64),.k (.i .i64),.k (.i .i64),.k (.i .u32),.k (.i .i64),.k (.i .i64)])]
theorem walk(args:List Value)(W:World)(hL:laidMetH Tryz.prog Rows.playScriptsRow.laid W)(hsh:W.ShapedOpen Tryz.prog)(h:lP (zL W.heap) PL args):ee Tryz.prog 3 args W.heap fun v J=>ak (v= .bool true/\af W.heap J):=by
 rw[MakeChecks.laidMetH_plain _ _ _ (by kernel_rfl)]at hL
 obtain⟨v0,r0,rfl,h0,v1,r1,rfl,h1,v2,r2,rfl,h2,rfl⟩:=h
 exact qi (FF hL hsh) h0 h1 h2
theorem lifted(os:Os)(started:os.Started)(H:Type)(enc:TypeId×Value->H):
  ReturnsInHanded {} Tryz.checked os 3 .any (fun w args=>(Rows.playScriptsSpec.pre enc Tryz.prog Tryz.f3 [] false w args/\laidMetH Tryz.prog Rows.playScriptsRow.laid w)/\sizedMet enc Tryz.prog Tryz.f3 (OpenSpec.ofChange Rows.playScriptsSpec) false w args)
   (Rows.playScriptsSpec.post enc Tryz.prog Tryz.f3 false true false false):=by
 refine ms (C:=Tryz.checked) (X:=fun w _=>laidMetH Tryz.prog Rows.playScriptsRow.laid w) (fun _ _ _ hh h=>h.of_heap hh) own started (by kernel_rfl) Tryz.func3
  (ChangeSpec.witness_shaped (enc:=enc) (C:=Tryz.checked) (os:=os) (X:=fun w _=>laidMetH Tryz.prog Rows.playScriptsRow.laid w) false (World.laidAll Tryz.prog os Rows.playScriptsRow.laid) #[.agg #[.int .i64 0,.int .i64 0,.int .u8 0,.int .u32 0],.string ⟨#[]⟩,.agg #[.int .i64 0,.int .i64 0,.int .i64 0,.int .u32 0,.int .i64 0,.int .i64 0]] 8 (World.laidAll_os _ _ _)
   (World.shaped_of_ZipB (by kernel_rfl) (by kernel_rfl)) (by kernel_rfl) (by kernel_rfl) (by kernel_rfl) (by rw[MakeChecks.laidMetH_plain _ _ _ (by kernel_rfl)];exact laidMet_laidAll _ (by kernel_rfl) (by kernel_rfl))) ?_
 intro W base args ds gs before TA hW _ _ hL hsh _
 exact BZ (C:=Tryz.checked) (shs:=PL) (tb:=4) (by kernel_rfl) rfl (fun ds h=>by match ds,h with| [_,_,_],_=>rfl) rfl (by kernel_rfl) laidOut (by kernel_rfl) TA hW (walk args.toList W hL hsh)
theorem Yt:(Rows.playScriptsRow.wf (OpenSpec.ofChange Rows.playScriptsSpec))=true:=by kernel_rfl
theorem Yu:(laidOutB Tryz.prog)=true:=by kernel_rfl
theorem Yv:(mapsRowed Tryz.prog)=true:=by kernel_rfl
theorem Yw:(Tryz.f3.params.all (Tryz.prog.readableRec ·))=true:=by kernel_rfl
theorem Yx:(namedTie Tryz.prog Rows.playScriptsRow.named Rows.playScriptsSpec.vars)=true:=by kernel_rfl
theorem Yy:((Rows.playScriptsRow.stops== []))=true:=by kernel_rfl
theorem Yz:((Tryz.prog.stops== []))=true:=by kernel_rfl
theorem YA:((Rows.playScriptsRow.knobs== []))=true:=by kernel_rfl
theorem YB:((Tryz.prog.stopKnobs== []))=true:=by kernel_rfl
theorem YC:((Rows.playScriptsRow.inPlace==Tryz.prog.inPlace 3))=true:=by kernel_rfl
theorem Ur:((Rows.playScriptsRow.unfollowed==Tryz.prog.unfollowed 3))=true:=by kernel_rfl
theorem Us:((Rows.playScriptsRow.recurses==Tryz.prog.recurses 3))=true:=by kernel_rfl
theorem Ut:((Rows.playScriptsRow.named==Tryz.prog.varsNamed 3))=true:=by kernel_rfl
theorem Uu:((Rows.playScriptsRow.maps== (Tryz.f3.params.toList++Rows.playScriptsSpec.plain.varTypes Tryz.prog).any (Tryz.prog.mapsRec ·)))=true:=by kernel_rfl
theorem Uv:((Rows.playScriptsRow.ifaces== (Tryz.f3.params.toList++Rows.playScriptsSpec.plain.varTypes Tryz.prog).any (Tryz.prog.ifacesRec ·)))=true:=by kernel_rfl
theorem Uw:((Rows.playScriptsRow.mapsOut==Tryz.prog.mapsAmong Tryz.f3.resultTypes.toList))=true:=by kernel_rfl
theorem Ux:((Rows.playScriptsRow.loops== (Tryz.f3.params.toList++Rows.playScriptsSpec.plain.varTypes Tryz.prog).any (Tryz.prog.loopsFrom ·)))=true:=by kernel_rfl
theorem Uy:((Rows.playScriptsRow.wideKeys== (Tryz.f3.params.toList++Rows.playScriptsSpec.plain.varTypes Tryz.prog++Tryz.f3.resultTypes.toList).any (Tryz.prog.wideKeysFrom ·)))=true:=by kernel_rfl
theorem Uz:(Rows.playScriptsSpec.vars.all (Tryz.prog.varReadable ·))=true:=by kernel_rfl
theorem UA:(Tryz.f3.resultTypes.all (fun t=>Tryz.prog.readableRec t && decide (t<Tryz.prog.types.size)))=true:=by kernel_rfl
theorem UB:((Rows.playScriptsRow.ifacesOut==Tryz.f3.resultTypes.toList.any (Tryz.prog.ifacesRec ·)))=true:=by kernel_rfl
theorem UC:((Rows.playScriptsRow.loopsOut==Tryz.f3.resultTypes.toList.any (Tryz.prog.loopsFrom ·)))=true:=by kernel_rfl
theorem UD:((Rows.playScriptsRow.plainKeys==Tryz.prog.plainKeys))=true:=by kernel_rfl
theorem UE:(Rows.playScriptsRow.shortTexts.isNone)=true:=by kernel_rfl
theorem UF:(Tryz.prog.stopsHeard)=true:=by kernel_rfl
theorem UG:(Tryz.prog.mayEnter)=true:=by kernel_rfl
theorem UH:((Rows.playScriptsRow.lifted==Tryz.prog.liftsFinal))=true:=by kernel_rfl
theorem UI:((Tryz.prog.make==some Rows.playScriptsRow.make))=true:=by kernel_rfl
theorem UJ:((Rows.playScriptsRow.kinds== (if Rows.playScriptsRow.domain.isEmpty then[]else Tryz.f3.params.toList.map fun t=>match Tryz.prog.underlying t with|some (.int k)=>some k|_=>none)))=true:=by kernel_rfl
theorem UK:((Rows.playScriptsRow.pinned==Rows.playScriptsRow.pinnedBy))=true:=by kernel_rfl
theorem UL:((Rows.playScriptsRow.veiled== (Tryz.f3.params.toList++Rows.playScriptsSpec.plain.varTypes Tryz.prog++Tryz.f3.resultTypes.toList).any (Tryz.prog.veiledRec ·)))=true:=by kernel_rfl
theorem UM:(Rows.playScriptsRow.veiledFits Tryz.prog Tryz.f3.params.toList (Tryz.f3.params.toList++Rows.playScriptsSpec.plain.varTypes Tryz.prog++Tryz.f3.resultTypes.toList))=true:=by kernel_rfl
theorem a2{a b:Bool}(h1:a=true)(h2:b=true):(a && b)=true:=by rw[h1,h2];rfl
theorem closed:joinedFacts Tryz.prog 3 Tryz.f3 Rows.playScriptsSpec Rows.playScriptsRow=true:=by
 unfold joinedFacts
 exact a2 (a2 (a2 (a2 (a2 (a2 (a2 (a2 (a2 (a2 (a2 (a2 (a2 (a2 (a2 (a2 (a2 (a2 (a2 (a2 (a2 (a2 (a2 (a2 (a2 (a2 (a2 (a2 (a2 (a2 (a2 Yt Yu) Yv) Yw) Yx) Yy) Yz) YA) YB) YC) Ur) Us) Ut) Uu) Uv) Uw) Ux) Uy) Uz) UA) UB) UC) UD) UE) UF) UG) UH) UI) UJ) UK) UL) UM
theorem over:Rows.playScriptsRow.holds Tryz.pinned (OpenSpec.ofChange Rows.playScriptsSpec):=
 OpenClaim.holds_of_wide 3 Tryz.f3 rfl rfl rfl rfl rfl rfl rfl ⟨rfl,rfl,rfl,rfl,rfl⟩ rfl rfl rfl rfl rfl (by kernel_rfl) Tryz.func3 closed
  (of_decide_eq_true (by kernel_rfl)) (by unfold Func.isWrapper;first| (rw[if_pos (by decide+kernel)];kernel_rfl)| (rw[if_neg (by decide+kernel)];exact⟨rfl,rfl⟩))
  (fun os started H enc _=>lifted os started H enc)
theorem proved:Rows.PlayScriptsCardSaid:=
 Claim7.holds_tied_plain_at .later [] [.data,.data,.data,.data,.sentinel,.sentinel,.pinned] true (true, "f168c620f95e308897a1e5646805e86aba7dc5416026d7d61109e452dc96a7e8") true
  over (fun _ h=>by cases h) (by kernel_rfl) (fun _ h=>by cases h) playScripts_row_tie rfl ⟨rfl,rfl⟩ (by kernel_rfl) rfl
  (fun f fn hf hfn=>by
   obtain rfl:f=3:=Option.some.inj ((show Tryz.prog.funcNamed "haycock/haycocklaw19.PlayScripts" =some 3 by kernel_rfl).symm.trans hf)|>.symm
   obtain rfl:fn=Tryz.f3:=(Option.some.inj (Tryz.func3.symm.trans hfn)).symm
   exact⟨by kernel_rfl,fun j t ht=>by
    rw[Tryz.params3]at ht
    rcases j with _|_|_|j
    ·obtain rfl:t=26:=by simpa using ht.symm
     exact(show Tryz.prog.wantsStandIn 26=false by kernel_rfl)
    ·obtain rfl:t=9:=by simpa using ht.symm
     exact(show Tryz.prog.wantsStandIn 9=false by kernel_rfl)
    ·obtain rfl:t=31:=by simpa using ht.symm
     exact(show Tryz.prog.wantsStandIn 31=false by kernel_rfl)
    ·simp at ht⟩)
  (by kernel_rfl)
#print axioms proved
end Go.Proofs.YtjkkkibiegfecaaGreatDoor.playScripts
