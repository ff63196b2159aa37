import Derived.Test.YtjlnnljohemifaaGreatK98
import Derived.Test.YtjlnnljohemifaaGreatK19
import Derived.Test.YtjlnnljohemifaaGreatK27
import Derived.Test.YtjlnnljohemifaaGreatRows
import Derived.WalkKit
import Derived.ProofKit
import Derived.OpenShut
namespace Go.Proofs.YtjlnnljohemifaaGreat.lengthsTells
open Go Go.Vc Go.ChangeShapes Go.WideShapes Go.ChangeAt Go.RowKit
theorem own:ownKnob Tryz.prog.godebug=none:=by kernel_rfl
theorem laidOut:laidOutB Tryz.prog=true:=by kernel_rfl
def T0:List (Bool×List Vc.Pc):=[(true,[.k (.i .i64),.k (.i .i64)]),(false,[.sl [.i .i64]])]
theorem walk(args:List Value)(Hh:Hp)(h:pL (GO Hh) T0 args):ai Tryz.prog 4 args Hh fun v H'=>ay (v= .bool true∧aq Hh H'):=by
 obtain⟨v0,r0,rfl,h0,v1,r1,rfl,h1,rfl⟩:=h
 exact tM h0 h1
set_option maxRecDepth 100000 in
theorem lifted(os:Os)(started:os.Started)(H:Type)(enc:TypeId×Value→H):
  ReturnsInHanded {} Tryz.checked os 4 .any (Rows.lengthsTellsSpec.pre6 enc Tryz.prog Tryz.f4 Rows.lengthsTellsRow.domain false) (Rows.lengthsTellsSpec.post enc Tryz.prog Tryz.f4 false true false false):=by
 refine returnsInHanded_of_change (C:=Tryz.checked) own started (by kernel_rfl) Tryz.func4
  (ChangeSpec.witness6 (enc:=enc) (C:=Tryz.checked) false ⟨#[], #[.agg #[.int .i64 0,.int .i64 0],.slice none 0 0],[]⟩ 8 (by kernel_rfl) (by kernel_rfl) (by kernel_rfl) (by kernel_rfl)) ?_
 intro W base args ds gs before Sp hW _ _
 exact Kv (C:=Tryz.checked) (shs:=T0) (tb:=4) (by kernel_rfl) rfl (fun ds h=>by match ds,h with| [_,_],_=>rfl) rfl (by kernel_rfl) laidOut (by kernel_rfl) walk Sp hW
theorem ac1:(Rows.lengthsTellsRow.wf (OpenSpec.ofChange Rows.lengthsTellsSpec))=true:=by kernel_rfl
theorem ac2:(laidOutB Tryz.prog)=true:=by kernel_rfl
theorem ac3:(mapsRowed Tryz.prog)=true:=by kernel_rfl
theorem ac4:(Tryz.f4.params.all (Tryz.prog.readableRec ·))=true:=by kernel_rfl
theorem ac5:(namedTie Tryz.prog Rows.lengthsTellsRow.named Rows.lengthsTellsSpec.vars)=true:=by kernel_rfl
theorem ac6:((Rows.lengthsTellsRow.stops== []))=true:=by kernel_rfl
theorem ac7:((Tryz.prog.stops== []))=true:=by kernel_rfl
theorem ac8:((Rows.lengthsTellsRow.knobs== []))=true:=by kernel_rfl
theorem ac9:((Tryz.prog.stopKnobs== []))=true:=by kernel_rfl
theorem ada:((Rows.lengthsTellsRow.inPlace==Tryz.prog.inPlace 4))=true:=by kernel_rfl
theorem YJ:((Rows.lengthsTellsRow.unfollowed==Tryz.prog.unfollowed 4))=true:=by kernel_rfl
theorem YK:((Rows.lengthsTellsRow.recurses==Tryz.prog.recurses 4))=true:=by kernel_rfl
theorem YL:((Rows.lengthsTellsRow.named==Tryz.prog.varsNamed 4))=true:=by kernel_rfl
theorem YM:((Rows.lengthsTellsRow.maps== (Tryz.f4.params.toList++Rows.lengthsTellsSpec.plain.varTypes Tryz.prog).any (Tryz.prog.mapsRec ·)))=true:=by kernel_rfl
theorem YN:((Rows.lengthsTellsRow.ifaces== (Tryz.f4.params.toList++Rows.lengthsTellsSpec.plain.varTypes Tryz.prog).any (Tryz.prog.ifacesRec ·)))=true:=by kernel_rfl
theorem YO:((Rows.lengthsTellsRow.mapsOut==Tryz.prog.mapsAmong Tryz.f4.resultTypes.toList))=true:=by kernel_rfl
theorem YP:((Rows.lengthsTellsRow.loops== (Tryz.f4.params.toList++Rows.lengthsTellsSpec.plain.varTypes Tryz.prog).any (Tryz.prog.loopsFrom ·)))=true:=by kernel_rfl
theorem YQ:((Rows.lengthsTellsRow.wideKeys== (Tryz.f4.params.toList++Rows.lengthsTellsSpec.plain.varTypes Tryz.prog++Tryz.f4.resultTypes.toList).any (Tryz.prog.wideKeysFrom ·)))=true:=by kernel_rfl
theorem YR:(Rows.lengthsTellsSpec.vars.all (Tryz.prog.varReadable ·))=true:=by kernel_rfl
theorem YS:(Tryz.f4.resultTypes.all (fun t=>Tryz.prog.readableRec t && decide (t<Tryz.prog.types.size)))=true:=by kernel_rfl
theorem YT:((Rows.lengthsTellsRow.ifacesOut==Tryz.f4.resultTypes.toList.any (Tryz.prog.ifacesRec ·)))=true:=by kernel_rfl
theorem YU:((Rows.lengthsTellsRow.loopsOut==Tryz.f4.resultTypes.toList.any (Tryz.prog.loopsFrom ·)))=true:=by kernel_rfl
theorem YV:((Rows.lengthsTellsRow.plainKeys==Tryz.prog.plainKeys))=true:=by kernel_rfl
theorem YW:(Rows.lengthsTellsRow.shortTexts.isNone)=true:=by kernel_rfl
theorem YX:(Tryz.prog.stopsHeard)=true:=by kernel_rfl
theorem YY:(Tryz.prog.mayEnter)=true:=by kernel_rfl
theorem YZ:((Rows.lengthsTellsRow.lifted==Tryz.prog.liftsFinal))=true:=by kernel_rfl
theorem Y0:((Tryz.prog.make==some Rows.lengthsTellsRow.make))=true:=by kernel_rfl
theorem Y1:((Rows.lengthsTellsRow.kinds== (if Rows.lengthsTellsRow.domain.isEmpty then[]else Tryz.f4.params.toList.map fun t=>match Tryz.prog.underlying t with|some (.int k)=>some k|_=>none)))=true:=by kernel_rfl
theorem Y2:((Rows.lengthsTellsRow.pinned==Rows.lengthsTellsRow.pinnedBy))=true:=by kernel_rfl
theorem Y3:((Rows.lengthsTellsRow.veiled== (Tryz.f4.params.toList++Rows.lengthsTellsSpec.plain.varTypes Tryz.prog++Tryz.f4.resultTypes.toList).any (Tryz.prog.veiledRec ·)))=true:=by kernel_rfl
theorem Y4:(Rows.lengthsTellsRow.veiledFits Tryz.prog Tryz.f4.params.toList (Tryz.f4.params.toList++Rows.lengthsTellsSpec.plain.varTypes Tryz.prog++Tryz.f4.resultTypes.toList))=true:=by kernel_rfl
theorem a2{a b:Bool}(h1:a=true)(h2:b=true):(a && b)=true:=by rw[h1,h2];rfl
set_option maxRecDepth 100000 in
theorem closed:joinedFacts Tryz.prog 4 Tryz.f4 Rows.lengthsTellsSpec Rows.lengthsTellsRow=true:=by
 unfold joinedFacts
 exact a2 (a2 (a2 (a2 (a2 (a2 (a2 (a2 (a2 (a2 (a2 (a2 (a2 (a2 (a2 (a2 (a2 (a2 (a2 (a2 (a2 (a2 (a2 (a2 (a2 (a2 (a2 (a2 (a2 (a2 (a2 ac1 ac2) ac3) ac4) ac5) ac6) ac7) ac8) ac9) ada) YJ) YK) YL) YM) YN) YO) YP) YQ) YR) YS) YT) YU) YV) YW) YX) YY) YZ) Y0) Y1) Y2) Y3) Y4
theorem over:Rows.lengthsTellsRow.holds Tryz.pinned (OpenSpec.ofChange Rows.lengthsTellsSpec):=
 OpenClaim.holds_of_wide 4 Tryz.f4 rfl rfl rfl rfl rfl rfl rfl ⟨rfl,rfl,rfl,rfl,rfl⟩ rfl rfl rfl rfl rfl (by kernel_rfl) Tryz.func4 closed
  (of_decide_eq_true (by kernel_rfl)) (by unfold Func.isWrapper;first| (rw[if_pos (by decide+kernel)];kernel_rfl)| (rw[if_neg (by decide+kernel)];exact⟨rfl,rfl⟩))
  (fun os started H enc _=>lifted os started H enc)
theorem proved:Rows.LengthsTellsSaid:=
 over
#print axioms proved
end Go.Proofs.YtjlnnljohemifaaGreat.lengthsTells
