import Derived.Test.YtjlnnljohemifaaGreatK19
import Derived.Test.YtjlnnljohemifaaGreatK27
import Derived.Test.YtjlnnljohemifaaGreatRows
import Derived.WalkKit
import Derived.ProofKit
import Derived.OpenShut
namespace Go.Proofs.YtjlnnljohemifaaGreat.lengthsRises
open Go Go.Vc Go.ChangeShapes Go.WideShapes Go.ChangeAt Go.RowKit
theorem own:ownKnob Tryz.prog.godebug=none:=by kernel_rfl
theorem laidOut:laidOutB Tryz.prog=true:=by kernel_rfl
def S9:List (Bool×List Vc.Pc):=[(true,[.k (.i .i64),.k (.i .i64),.k (.i .i64),.k (.i .i64)]),(false,[.sl [.i .i64]])]
theorem walk(args:List Value)(Hh:Hp)(h:pA (Gf Hh) S9 args):ah Tryz.prog 6 args Hh fun v H'=>ax (v= .bool true∧ay Hh H'):=by
 obtain⟨v0,r0,rfl,h0,v1,r1,rfl,h1,rfl⟩:=h
 exact tw h0 h1
set_option maxRecDepth 100000 in
theorem lifted(os:Os)(started:os.Started)(H:Type)(enc:TypeId×Value→H):
  ReturnsInHanded {} Tryz.checked os 6 .any (Rows.lengthsRisesSpec.pre6 enc Tryz.prog Tryz.f6 Rows.lengthsRisesRow.domain false) (Rows.lengthsRisesSpec.post enc Tryz.prog Tryz.f6 false true false false):=by
 refine returnsInHanded_of_change (C:=Tryz.checked) own started (by kernel_rfl) Tryz.func6
  (ChangeSpec.witness6 (enc:=enc) (C:=Tryz.checked) false ⟨#[], #[.agg #[.int .i64 0,.int .i64 0,.int .i64 0,.int .i64 0],.slice none 0 0],[]⟩ 8 (by kernel_rfl) (by kernel_rfl) (by kernel_rfl) (by kernel_rfl)) ?_
 intro W base args ds gs before Rt hW _ _
 exact JR (C:=Tryz.checked) (shs:=S9) (tb:=4) (by kernel_rfl) rfl (fun ds h=>by match ds,h with| [_,_],_=>rfl) rfl (by kernel_rfl) laidOut (by kernel_rfl) walk Rt hW
theorem abO:(Rows.lengthsRisesRow.wf (OpenSpec.ofChange Rows.lengthsRisesSpec))=true:=by kernel_rfl
theorem abP:(laidOutB Tryz.prog)=true:=by kernel_rfl
theorem abQ:(mapsRowed Tryz.prog)=true:=by kernel_rfl
theorem abR:(Tryz.f6.params.all (Tryz.prog.readableRec ·))=true:=by kernel_rfl
theorem abS:(namedTie Tryz.prog Rows.lengthsRisesRow.named Rows.lengthsRisesSpec.vars)=true:=by kernel_rfl
theorem abT:((Rows.lengthsRisesRow.stops== []))=true:=by kernel_rfl
theorem abU:((Tryz.prog.stops== []))=true:=by kernel_rfl
theorem abV:((Rows.lengthsRisesRow.knobs== []))=true:=by kernel_rfl
theorem abW:((Tryz.prog.stopKnobs== []))=true:=by kernel_rfl
theorem abX:((Rows.lengthsRisesRow.inPlace==Tryz.prog.inPlace 6))=true:=by kernel_rfl
theorem XH:((Rows.lengthsRisesRow.unfollowed==Tryz.prog.unfollowed 6))=true:=by kernel_rfl
theorem XI:((Rows.lengthsRisesRow.recurses==Tryz.prog.recurses 6))=true:=by kernel_rfl
theorem XJ:((Rows.lengthsRisesRow.named==Tryz.prog.varsNamed 6))=true:=by kernel_rfl
theorem XK:((Rows.lengthsRisesRow.maps== (Tryz.f6.params.toList++Rows.lengthsRisesSpec.plain.varTypes Tryz.prog).any (Tryz.prog.mapsRec ·)))=true:=by kernel_rfl
theorem XL:((Rows.lengthsRisesRow.ifaces== (Tryz.f6.params.toList++Rows.lengthsRisesSpec.plain.varTypes Tryz.prog).any (Tryz.prog.ifacesRec ·)))=true:=by kernel_rfl
theorem XM:((Rows.lengthsRisesRow.mapsOut==Tryz.prog.mapsAmong Tryz.f6.resultTypes.toList))=true:=by kernel_rfl
theorem XN:((Rows.lengthsRisesRow.loops== (Tryz.f6.params.toList++Rows.lengthsRisesSpec.plain.varTypes Tryz.prog).any (Tryz.prog.loopsFrom ·)))=true:=by kernel_rfl
theorem XO:((Rows.lengthsRisesRow.wideKeys== (Tryz.f6.params.toList++Rows.lengthsRisesSpec.plain.varTypes Tryz.prog++Tryz.f6.resultTypes.toList).any (Tryz.prog.wideKeysFrom ·)))=true:=by kernel_rfl
theorem XP:(Rows.lengthsRisesSpec.vars.all (Tryz.prog.varReadable ·))=true:=by kernel_rfl
theorem XQ:(Tryz.f6.resultTypes.all (fun t=>Tryz.prog.readableRec t && decide (t<Tryz.prog.types.size)))=true:=by kernel_rfl
theorem XR:((Rows.lengthsRisesRow.ifacesOut==Tryz.f6.resultTypes.toList.any (Tryz.prog.ifacesRec ·)))=true:=by kernel_rfl
theorem XS:((Rows.lengthsRisesRow.loopsOut==Tryz.f6.resultTypes.toList.any (Tryz.prog.loopsFrom ·)))=true:=by kernel_rfl
theorem XT:((Rows.lengthsRisesRow.plainKeys==Tryz.prog.plainKeys))=true:=by kernel_rfl
theorem XU:(Rows.lengthsRisesRow.shortTexts.isNone)=true:=by kernel_rfl
theorem XV:(Tryz.prog.stopsHeard)=true:=by kernel_rfl
theorem XW:(Tryz.prog.mayEnter)=true:=by kernel_rfl
theorem XX:((Rows.lengthsRisesRow.lifted==Tryz.prog.liftsFinal))=true:=by kernel_rfl
theorem XY:((Tryz.prog.make==some Rows.lengthsRisesRow.make))=true:=by kernel_rfl
theorem XZ:((Rows.lengthsRisesRow.kinds== (if Rows.lengthsRisesRow.domain.isEmpty then[]else Tryz.f6.params.toList.map fun t=>match Tryz.prog.underlying t with|some (.int k)=>some k|_=>none)))=true:=by kernel_rfl
theorem X0:((Rows.lengthsRisesRow.pinned==Rows.lengthsRisesRow.pinnedBy))=true:=by kernel_rfl
theorem X1:((Rows.lengthsRisesRow.veiled== (Tryz.f6.params.toList++Rows.lengthsRisesSpec.plain.varTypes Tryz.prog++Tryz.f6.resultTypes.toList).any (Tryz.prog.veiledRec ·)))=true:=by kernel_rfl
theorem X2:(Rows.lengthsRisesRow.veiledFits Tryz.prog Tryz.f6.params.toList (Tryz.f6.params.toList++Rows.lengthsRisesSpec.plain.varTypes Tryz.prog++Tryz.f6.resultTypes.toList))=true:=by kernel_rfl
theorem a2{a b:Bool}(h1:a=true)(h2:b=true):(a && b)=true:=by rw[h1,h2];rfl
set_option maxRecDepth 100000 in
theorem closed:joinedFacts Tryz.prog 6 Tryz.f6 Rows.lengthsRisesSpec Rows.lengthsRisesRow=true:=by
 unfold joinedFacts
 exact a2 (a2 (a2 (a2 (a2 (a2 (a2 (a2 (a2 (a2 (a2 (a2 (a2 (a2 (a2 (a2 (a2 (a2 (a2 (a2 (a2 (a2 (a2 (a2 (a2 (a2 (a2 (a2 (a2 (a2 (a2 abO abP) abQ) abR) abS) abT) abU) abV) abW) abX) XH) XI) XJ) XK) XL) XM) XN) XO) XP) XQ) XR) XS) XT) XU) XV) XW) XX) XY) XZ) X0) X1) X2
theorem over:Rows.lengthsRisesRow.holds Tryz.pinned (OpenSpec.ofChange Rows.lengthsRisesSpec):=
 OpenClaim.holds_of_wide 6 Tryz.f6 rfl rfl rfl rfl rfl rfl rfl ⟨rfl,rfl,rfl,rfl,rfl⟩ rfl rfl rfl rfl rfl (by kernel_rfl) Tryz.func6 closed
  (of_decide_eq_true (by kernel_rfl)) (by unfold Func.isWrapper;first| (rw[if_pos (by decide+kernel)];kernel_rfl)| (rw[if_neg (by decide+kernel)];exact⟨rfl,rfl⟩))
  (fun os started H enc _=>lifted os started H enc)
theorem proved:Rows.LengthsRisesSaid:=
 over
#print axioms proved
end Go.Proofs.YtjlnnljohemifaaGreat.lengthsRises
