import Derived.Test.YtnanofhkpglbaaaGreatDoorK45
import Derived.Test.YtnanofhkpglbaaaGreatDoorK50
import Derived.Test.YtnanofhkpglbaaaGreatDoorCards
import Derived.Test.YtnanofhkpglbaaaGreatDoorTie
import Derived.ProofKit
import Derived.SevenTiedAt
import Derived.Lay
set_option maxRecDepth 100000
set_option maxHeartbeats 80000000
namespace Go.Proofs.YtnanofhkpglbaaaGreatDoor.wholeScripts
open Go Go.Vc Go.ChangeShapes Go.WideShapes Go.ChangeAt Go.RowKit
theorem own:ownKnob Tryz.prog.godebug=none:=by kernel_rfl
theorem laidOut:laidOutB Tryz.prog=true:=by kernel_rfl
def QC:List (Bool×List Vc.Pc):=[(false,[.k (.i .u8)]),(false,[.k (.i .u32)]),(false,[.k .s])]
theorem walk(args:List Value)(W:World)(hL:laidMetH Tryz.prog Rows.wholeScriptsRow.laid W)(hsh:W.ShapedOpen Tryz.prog)(h:lG (zD W.heap) QC args):dO Tryz.prog 3 args W.heap fun v J=>ak (v= .bool true/\af W.heap J):=by
 rw[MakeChecks.laidMetH_plain _ _ _ (by kernel_rfl)]at hL
 obtain⟨v0,r0,rfl,h0,v1,r1,rfl,h1,v2,r2,rfl,h2,rfl⟩:=h
 exact qY (FP hL hsh) h0 h1 h2
theorem lifted(os:Os)(started:os.Started)(H:Type)(enc:TypeId×Value->H):
  ReturnsInHanded {} Tryz.checked os 3 .any (fun w args=>(Rows.wholeScriptsSpec.pre enc Tryz.prog Tryz.f3 [] false w args/\laidMetH Tryz.prog Rows.wholeScriptsRow.laid w)/\sizedMet enc Tryz.prog Tryz.f3 (OpenSpec.ofChange Rows.wholeScriptsSpec) false w args)
   (Rows.wholeScriptsSpec.post enc Tryz.prog Tryz.f3 false true false false):=by
 refine mc (C:=Tryz.checked) (X:=fun w _=>laidMetH Tryz.prog Rows.wholeScriptsRow.laid w) (fun _ _ _ hh h=>h.of_heap hh) own started (by kernel_rfl) Tryz.func3
  (ChangeSpec.witness_shaped (enc:=enc) (C:=Tryz.checked) (os:=os) (X:=fun w _=>laidMetH Tryz.prog Rows.wholeScriptsRow.laid w) false (World.laidAll Tryz.prog os Rows.wholeScriptsRow.laid) #[.int .u8 0,.int .u32 0,.string ⟨#[]⟩] 8 (World.laidAll_os _ _ _)
   (World.shaped_of_ZipB (by kernel_rfl) (by kernel_rfl)) (by kernel_rfl) (by kernel_rfl) (by kernel_rfl) (by rw[MakeChecks.laidMetH_plain _ _ _ (by kernel_rfl)];exact laidMet_laidAll _ (by kernel_rfl) (by kernel_rfl))) ?_
 intro W base args ds gs before Ur hW _ _ hL hsh _
 exact BV (C:=Tryz.checked) (shs:=QC) (tb:=4) (by kernel_rfl) rfl (fun ds h=>by match ds,h with| [_,_,_],_=>rfl) rfl (by kernel_rfl) laidOut (by kernel_rfl) Ur hW (walk args.toList W hL hsh)
theorem ZJ:(Rows.wholeScriptsRow.wf (OpenSpec.ofChange Rows.wholeScriptsSpec))=true:=by kernel_rfl
theorem ZK:(laidOutB Tryz.prog)=true:=by kernel_rfl
theorem ZL:(mapsRowed Tryz.prog)=true:=by kernel_rfl
theorem ZM:(Tryz.f3.params.all (Tryz.prog.readableRec ·))=true:=by kernel_rfl
theorem ZN:(namedTie Tryz.prog Rows.wholeScriptsRow.named Rows.wholeScriptsSpec.vars)=true:=by kernel_rfl
theorem ZO:((Rows.wholeScriptsRow.stops== []))=true:=by kernel_rfl
theorem ZP:((Tryz.prog.stops== []))=true:=by kernel_rfl
theorem ZQ:((Rows.wholeScriptsRow.knobs== []))=true:=by kernel_rfl
theorem ZR:((Tryz.prog.stopKnobs== []))=true:=by kernel_rfl
theorem ZS:((Rows.wholeScriptsRow.inPlace==Tryz.prog.inPlace 3))=true:=by kernel_rfl
theorem Vu:((Rows.wholeScriptsRow.unfollowed==Tryz.prog.unfollowed 3))=true:=by kernel_rfl
theorem Vv:((Rows.wholeScriptsRow.recurses==Tryz.prog.recurses 3))=true:=by kernel_rfl
theorem Vw:((Rows.wholeScriptsRow.named==Tryz.prog.varsNamed 3))=true:=by kernel_rfl
theorem Vx:((Rows.wholeScriptsRow.maps== (Tryz.f3.params.toList++Rows.wholeScriptsSpec.plain.varTypes Tryz.prog).any (Tryz.prog.mapsRec ·)))=true:=by kernel_rfl
theorem Vy:((Rows.wholeScriptsRow.ifaces== (Tryz.f3.params.toList++Rows.wholeScriptsSpec.plain.varTypes Tryz.prog).any (Tryz.prog.ifacesRec ·)))=true:=by kernel_rfl
theorem Vz:((Rows.wholeScriptsRow.mapsOut==Tryz.prog.mapsAmong Tryz.f3.resultTypes.toList))=true:=by kernel_rfl
theorem VA:((Rows.wholeScriptsRow.loops== (Tryz.f3.params.toList++Rows.wholeScriptsSpec.plain.varTypes Tryz.prog).any (Tryz.prog.loopsFrom ·)))=true:=by kernel_rfl
theorem VB:((Rows.wholeScriptsRow.wideKeys== (Tryz.f3.params.toList++Rows.wholeScriptsSpec.plain.varTypes Tryz.prog++Tryz.f3.resultTypes.toList).any (Tryz.prog.wideKeysFrom ·)))=true:=by kernel_rfl
theorem VC:(Rows.wholeScriptsSpec.vars.all (Tryz.prog.varReadable ·))=true:=by kernel_rfl
theorem VD:(Tryz.f3.resultTypes.all (fun t=>Tryz.prog.readableRec t && decide (t<Tryz.prog.types.size)))=true:=by kernel_rfl
theorem VE:((Rows.wholeScriptsRow.ifacesOut==Tryz.f3.resultTypes.toList.any (Tryz.prog.ifacesRec ·)))=true:=by kernel_rfl
theorem VF:((Rows.wholeScriptsRow.loopsOut==Tryz.f3.resultTypes.toList.any (Tryz.prog.loopsFrom ·)))=true:=by kernel_rfl
theorem VG:((Rows.wholeScriptsRow.plainKeys==Tryz.prog.plainKeys))=true:=by kernel_rfl
theorem VH:(Rows.wholeScriptsRow.shortTexts.isNone)=true:=by kernel_rfl
theorem VI:(Tryz.prog.stopsHeard)=true:=by kernel_rfl
theorem VJ:(Tryz.prog.mayEnter)=true:=by kernel_rfl
theorem VK:((Rows.wholeScriptsRow.lifted==Tryz.prog.liftsFinal))=true:=by kernel_rfl
theorem VL:((Tryz.prog.make==some Rows.wholeScriptsRow.make))=true:=by kernel_rfl
theorem VM:((Rows.wholeScriptsRow.kinds== (if Rows.wholeScriptsRow.domain.isEmpty then[]else Tryz.f3.params.toList.map fun t=>match Tryz.prog.underlying t with|some (.int k)=>some k|_=>none)))=true:=by kernel_rfl
theorem VN:((Rows.wholeScriptsRow.pinned==Rows.wholeScriptsRow.pinnedBy))=true:=by kernel_rfl
theorem VO:((Rows.wholeScriptsRow.veiled== (Tryz.f3.params.toList++Rows.wholeScriptsSpec.plain.varTypes Tryz.prog++Tryz.f3.resultTypes.toList).any (Tryz.prog.veiledRec ·)))=true:=by kernel_rfl
theorem VP:(Rows.wholeScriptsRow.veiledFits Tryz.prog Tryz.f3.params.toList (Tryz.f3.params.toList++Rows.wholeScriptsSpec.plain.varTypes Tryz.prog++Tryz.f3.resultTypes.toList))=true:=by kernel_rfl
theorem a2{a b:Bool}(h1:a=true)(h2:b=true):(a && b)=true:=by rw[h1,h2];rfl
theorem closed:joinedFacts Tryz.prog 3 Tryz.f3 Rows.wholeScriptsSpec Rows.wholeScriptsRow=true:=by
 unfold joinedFacts
 exact a2 (a2 (a2 (a2 (a2 (a2 (a2 (a2 (a2 (a2 (a2 (a2 (a2 (a2 (a2 (a2 (a2 (a2 (a2 (a2 (a2 (a2 (a2 (a2 (a2 (a2 (a2 (a2 (a2 (a2 (a2 ZJ ZK) ZL) ZM) ZN) ZO) ZP) ZQ) ZR) ZS) Vu) Vv) Vw) Vx) Vy) Vz) VA) VB) VC) VD) VE) VF) VG) VH) VI) VJ) VK) VL) VM) VN) VO) VP
theorem over:Rows.wholeScriptsRow.holds Tryz.pinned (OpenSpec.ofChange Rows.wholeScriptsSpec):=
 OpenClaim.holds_of_wide 3 Tryz.f3 rfl rfl rfl rfl rfl rfl rfl ⟨rfl,rfl,rfl,rfl,rfl⟩ rfl rfl rfl rfl rfl (by kernel_rfl) Tryz.func3 closed
  (of_decide_eq_true (by kernel_rfl)) (by unfold Func.isWrapper;first| (rw[if_pos (by decide+kernel)];kernel_rfl)| (rw[if_neg (by decide+kernel)];exact⟨rfl,rfl⟩))
  (fun os started H enc _=>lifted os started H enc)
theorem NZ{P:Program}(h:P.funcs.any Func.goes=false)(f:FuncId):P.goes f=false:=by
 unfold Program.goes
 rw[h,Bool.and_false,Bool.or_false,List.any_eq_false]
 rw[Array.any_eq_false]at h
 intro g _
 cases hg:P.funcs[g]? with
 |none=>simp
 |some fn=>
  obtain⟨hi,rfl⟩:=amu.1 hg
  simpa using h g hi
theorem SA{P:Program}(h:P.funcs.any Func.goes=false){c:OpenClaim}(hs:c.start= .entering):false=c.goesBy P:=by
 unfold OpenClaim.goesBy Program.goesAt Program.goesFrom
 rw[hs]
 cases P.funcNamed c.func<;>simp[NZ h]
theorem proved:Rows.WholeScriptsCardSaid:=
 Claim7.holds_tied_plain_at .later [] [.data,.data,.data,.data,.sentinel,.sentinel,.pinned] true (true, "16c44521c61b027e622d99afd10d4d4afd50568ed3c9e4600b323c678c73382c") true
  over (fun _ h=>by cases h) (by kernel_rfl) (fun _ h=>by cases h) wholeScripts_row_tie rfl ⟨rfl,rfl⟩ (by kernel_rfl) rfl
  (fun f fn hf hfn=>by
   obtain rfl:f=3:=Option.some.inj ((show Tryz.prog.funcNamed "haycock/haycocktop.WholeScripts" =some 3 by kernel_rfl).symm.trans hf)|>.symm
   obtain rfl:fn=Tryz.f3:=(Option.some.inj (Tryz.func3.symm.trans hfn)).symm
   exact⟨by kernel_rfl,fun j t ht=>by
    rw[Tryz.params3]at ht
    rcases j with _|_|_|j
    ·obtain rfl:t=5:=by simpa using ht.symm
     exact(show Tryz.prog.wantsStandIn 5=false by kernel_rfl)
    ·obtain rfl:t=22:=by simpa using ht.symm
     exact(show Tryz.prog.wantsStandIn 22=false by kernel_rfl)
    ·obtain rfl:t=9:=by simpa using ht.symm
     exact(show Tryz.prog.wantsStandIn 9=false by kernel_rfl)
    ·simp at ht⟩)
  (SA (P:=Tryz.prog) (by kernel_rfl) rfl)
#print axioms proved
end Go.Proofs.YtnanofhkpglbaaaGreatDoor.wholeScripts
