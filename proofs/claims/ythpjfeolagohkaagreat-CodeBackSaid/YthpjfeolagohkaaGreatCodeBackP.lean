import Derived.Test.YthpjfeolagohkaaGreatK98
import Derived.Test.YthpjfeolagohkaaGreatK21
import Derived.Test.YthpjfeolagohkaaGreatK48
import Derived.Test.YthpjfeolagohkaaGreatRows
import Derived.WalkKit
import Derived.ProofKit
import Derived.OpenShut
set_option maxRecDepth 100000
set_option maxHeartbeats 8000000
namespace Go.Proofs.YthpjfeolagohkaaGreat.codeBack
open Go Go.Vc Go.ChangeShapes Go.WideShapes Go.ChangeAt Go.RowKit
theorem own:ownKnob Tryz.prog.godebug=none:=by kernel_rfl
theorem laidOut:laidOutB Tryz.prog=true:=by kernel_rfl
def Rs:List (Bool×List Vc.Pc):=[(true,[.k (.i .i64),.k (.i .i64)]),(false,[.sl [.i .i64]]),(false,[.sl [.i .i64]])]
theorem walk(args:List Value)(Hh:Hp)(h:lZ (DR Hh) Rs args):af Tryz.prog 4 args Hh fun v H'=>ar (v= .bool true∧am Hh H'):=by
 obtain⟨v0,r0,rfl,h0,v1,r1,rfl,h1,v2,r2,rfl,h2,rfl⟩:=h
 exact vD h0 h1 h2
theorem lifted(os:Os)(started:os.Started)(H:Type)(enc:TypeId×Value→H):
  ReturnsInHanded {} Tryz.checked os 4 .any (Rows.codeBackSpec.pre6 enc Tryz.prog Tryz.f4 Rows.codeBackRow.domain false) (Rows.codeBackSpec.post enc Tryz.prog Tryz.f4 false true false false):=by
 refine returnsInHanded_of_change (C:=Tryz.checked) own started (by kernel_rfl) Tryz.func4
  (ChangeSpec.witness6 (enc:=enc) (C:=Tryz.checked) false ⟨#[], #[.agg #[.int .i64 0,.int .i64 0],.slice none 0 0,.slice none 0 0],[]⟩ 8 (by kernel_rfl) (by kernel_rfl) (by kernel_rfl) (by kernel_rfl)) ?_
 intro W base args ds gs before Rt hW _ _
 exact I7 (C:=Tryz.checked) (shs:=Rs) (tb:=4) (by kernel_rfl) rfl (fun ds h=>by match ds,h with| [_,_,_],_=>rfl) rfl (by kernel_rfl) laidOut (by kernel_rfl) walk Rt hW
theorem aax:(Rows.codeBackRow.wf (OpenSpec.ofChange Rows.codeBackSpec))=true:=by kernel_rfl
theorem aay:(laidOutB Tryz.prog)=true:=by kernel_rfl
theorem aaz:(mapsRowed Tryz.prog)=true:=by kernel_rfl
theorem aaA:(Tryz.f4.params.all (Tryz.prog.readableRec ·))=true:=by kernel_rfl
theorem aaB:(namedTie Tryz.prog Rows.codeBackRow.named Rows.codeBackSpec.vars)=true:=by kernel_rfl
theorem aaC:((Rows.codeBackRow.stops== []))=true:=by kernel_rfl
theorem aaD:((Tryz.prog.stops== []))=true:=by kernel_rfl
theorem aaE:((Rows.codeBackRow.knobs== []))=true:=by kernel_rfl
theorem aaF:((Tryz.prog.stopKnobs== []))=true:=by kernel_rfl
theorem aaG:((Rows.codeBackRow.inPlace==Tryz.prog.inPlace 4))=true:=by kernel_rfl
theorem WN:((Rows.codeBackRow.unfollowed==Tryz.prog.unfollowed 4))=true:=by kernel_rfl
theorem WO:((Rows.codeBackRow.recurses==Tryz.prog.recurses 4))=true:=by kernel_rfl
theorem WP:((Rows.codeBackRow.named==Tryz.prog.varsNamed 4))=true:=by kernel_rfl
theorem WQ:((Rows.codeBackRow.maps== (Tryz.f4.params.toList++Rows.codeBackSpec.plain.varTypes Tryz.prog).any (Tryz.prog.mapsRec ·)))=true:=by kernel_rfl
theorem WR:((Rows.codeBackRow.ifaces== (Tryz.f4.params.toList++Rows.codeBackSpec.plain.varTypes Tryz.prog).any (Tryz.prog.ifacesRec ·)))=true:=by kernel_rfl
theorem WS:((Rows.codeBackRow.mapsOut==Tryz.prog.mapsAmong Tryz.f4.resultTypes.toList))=true:=by kernel_rfl
theorem WT:((Rows.codeBackRow.loops== (Tryz.f4.params.toList++Rows.codeBackSpec.plain.varTypes Tryz.prog).any (Tryz.prog.loopsFrom ·)))=true:=by kernel_rfl
theorem WU:((Rows.codeBackRow.wideKeys== (Tryz.f4.params.toList++Rows.codeBackSpec.plain.varTypes Tryz.prog++Tryz.f4.resultTypes.toList).any (Tryz.prog.wideKeysFrom ·)))=true:=by kernel_rfl
theorem WV:(Rows.codeBackSpec.vars.all (Tryz.prog.varReadable ·))=true:=by kernel_rfl
theorem WW:(Tryz.f4.resultTypes.all (fun t=>Tryz.prog.readableRec t && decide (t<Tryz.prog.types.size)))=true:=by kernel_rfl
theorem WX:((Rows.codeBackRow.ifacesOut==Tryz.f4.resultTypes.toList.any (Tryz.prog.ifacesRec ·)))=true:=by kernel_rfl
theorem WY:((Rows.codeBackRow.loopsOut==Tryz.f4.resultTypes.toList.any (Tryz.prog.loopsFrom ·)))=true:=by kernel_rfl
theorem WZ:((Rows.codeBackRow.plainKeys==Tryz.prog.plainKeys))=true:=by kernel_rfl
theorem W1:(Rows.codeBackRow.shortTexts.isNone)=true:=by kernel_rfl
theorem W2:(Tryz.prog.stopsHeard)=true:=by kernel_rfl
theorem W3:(Tryz.prog.mayEnter)=true:=by kernel_rfl
theorem W4:((Rows.codeBackRow.lifted==Tryz.prog.liftsFinal))=true:=by kernel_rfl
theorem W5:((Tryz.prog.make==some Rows.codeBackRow.make))=true:=by kernel_rfl
theorem W6:((Rows.codeBackRow.kinds== (if Rows.codeBackRow.domain.isEmpty then[]else Tryz.f4.params.toList.map fun t=>match Tryz.prog.underlying t with|some (.int k)=>some k|_=>none)))=true:=by kernel_rfl
theorem W7:((Rows.codeBackRow.pinned==Rows.codeBackRow.pinnedBy))=true:=by kernel_rfl
theorem W8:((Rows.codeBackRow.veiled== (Tryz.f4.params.toList++Rows.codeBackSpec.plain.varTypes Tryz.prog++Tryz.f4.resultTypes.toList).any (Tryz.prog.veiledRec ·)))=true:=by kernel_rfl
theorem W9:(Rows.codeBackRow.veiledFits Tryz.prog Tryz.f4.params.toList (Tryz.f4.params.toList++Rows.codeBackSpec.plain.varTypes Tryz.prog++Tryz.f4.resultTypes.toList))=true:=by kernel_rfl
theorem a2{a b:Bool}(h1:a=true)(h2:b=true):(a && b)=true:=by rw[h1,h2];rfl
theorem closed:joinedFacts Tryz.prog 4 Tryz.f4 Rows.codeBackSpec Rows.codeBackRow=true:=by
 unfold joinedFacts
 exact a2 (a2 (a2 (a2 (a2 (a2 (a2 (a2 (a2 (a2 (a2 (a2 (a2 (a2 (a2 (a2 (a2 (a2 (a2 (a2 (a2 (a2 (a2 (a2 (a2 (a2 (a2 (a2 (a2 (a2 (a2 aax aay) aaz) aaA) aaB) aaC) aaD) aaE) aaF) aaG) WN) WO) WP) WQ) WR) WS) WT) WU) WV) WW) WX) WY) WZ) W1) W2) W3) W4) W5) W6) W7) W8) W9
theorem over:Rows.codeBackRow.holds Tryz.pinned (OpenSpec.ofChange Rows.codeBackSpec):=
 OpenClaim.holds_of_wide 4 Tryz.f4 rfl rfl rfl rfl rfl rfl rfl ⟨rfl,rfl,rfl,rfl,rfl⟩ rfl rfl rfl rfl rfl (by kernel_rfl) Tryz.func4 closed
  (of_decide_eq_true (by kernel_rfl)) (by unfold Func.isWrapper;first| (rw[if_pos (by decide+kernel)];kernel_rfl)| (rw[if_neg (by decide+kernel)];exact⟨rfl,rfl⟩))
  (fun os started H enc _=>lifted os started H enc)
theorem proved:Rows.CodeBackSaid:=
 over
#print axioms proved
end Go.Proofs.YthpjfeolagohkaaGreat.codeBack
