import Derived.Test.YtjlnnljohemifaaGreatK98
import Derived.Test.YtjlnnljohemifaaGreatK19
import Derived.Test.YtjlnnljohemifaaGreatK25
import Derived.Test.YtjlnnljohemifaaGreatRows
import Derived.WalkKit
import Derived.ProofKit
import Derived.OpenShut
set_option maxRecDepth 100000
set_option maxHeartbeats 8000000
namespace Go.Proofs.YtjlnnljohemifaaGreat.spanPrims
open Go Go.Vc Go.ChangeShapes Go.WideShapes Go.ChangeAt Go.RowKit
theorem own:ownKnob Tryz.prog.godebug=none:=by kernel_rfl
theorem laidOut:laidOutB Tryz.prog=true:=by kernel_rfl
def Tf:List (Bool×List Vc.Pc):=[(true,[.k (.i .i64),.k (.i .i64)]),(true,[.k (.i .i64),.sl [.i .i64,.i .i64,.i .i64]])]
theorem walk(args:List Value)(Hh:Hp)(h:nB (HE Hh) Tf args):af Tryz.prog 8 args Hh fun v H'=>aw (v= .bool true∧ah Hh H'):=by
 obtain⟨v0,r0,rfl,h0,v1,r1,rfl,h1,rfl⟩:=h
 exact vf h0 h1
theorem lifted(os:Os)(started:os.Started)(H:Type)(enc:TypeId×Value→H):
  ReturnsInHanded {} Tryz.checked os 8 .any (Rows.spanPrimsSpec.pre6 enc Tryz.prog Tryz.f8 Rows.spanPrimsRow.domain false) (Rows.spanPrimsSpec.post enc Tryz.prog Tryz.f8 false true false false):=by
 refine returnsInHanded_of_change (C:=Tryz.checked) own started (by kernel_rfl) Tryz.func8
  (ChangeSpec.witness6 (enc:=enc) (C:=Tryz.checked) false ⟨#[], #[.agg #[.int .i64 0,.int .i64 0],.agg #[.int .i64 0,.slice none 0 0]],[]⟩ 8 (by kernel_rfl) (by kernel_rfl) (by kernel_rfl) (by kernel_rfl)) ?_
 intro W base args ds gs before Rs hW _ _
 exact Jw (C:=Tryz.checked) (shs:=Tf) (tb:=4) (by kernel_rfl) rfl (fun ds h=>by match ds,h with| [_,_],_=>rfl) rfl (by kernel_rfl) laidOut (by kernel_rfl) walk Rs hW
theorem adg:(Rows.spanPrimsRow.wf (OpenSpec.ofChange Rows.spanPrimsSpec))=true:=by kernel_rfl
theorem adh:(laidOutB Tryz.prog)=true:=by kernel_rfl
theorem adi:(mapsRowed Tryz.prog)=true:=by kernel_rfl
theorem adj:(Tryz.f8.params.all (Tryz.prog.readableRec ·))=true:=by kernel_rfl
theorem adk:(namedTie Tryz.prog Rows.spanPrimsRow.named Rows.spanPrimsSpec.vars)=true:=by kernel_rfl
theorem adl:((Rows.spanPrimsRow.stops== []))=true:=by kernel_rfl
theorem adm:((Tryz.prog.stops== []))=true:=by kernel_rfl
theorem adn:((Rows.spanPrimsRow.knobs== []))=true:=by kernel_rfl
theorem ado:((Tryz.prog.stopKnobs== []))=true:=by kernel_rfl
theorem adp:((Rows.spanPrimsRow.inPlace==Tryz.prog.inPlace 8))=true:=by kernel_rfl
theorem YA:((Rows.spanPrimsRow.unfollowed==Tryz.prog.unfollowed 8))=true:=by kernel_rfl
theorem YB:((Rows.spanPrimsRow.recurses==Tryz.prog.recurses 8))=true:=by kernel_rfl
theorem YC:((Rows.spanPrimsRow.named==Tryz.prog.varsNamed 8))=true:=by kernel_rfl
theorem YD:((Rows.spanPrimsRow.maps== (Tryz.f8.params.toList++Rows.spanPrimsSpec.plain.varTypes Tryz.prog).any (Tryz.prog.mapsRec ·)))=true:=by kernel_rfl
theorem YE:((Rows.spanPrimsRow.ifaces== (Tryz.f8.params.toList++Rows.spanPrimsSpec.plain.varTypes Tryz.prog).any (Tryz.prog.ifacesRec ·)))=true:=by kernel_rfl
theorem YF:((Rows.spanPrimsRow.mapsOut==Tryz.prog.mapsAmong Tryz.f8.resultTypes.toList))=true:=by kernel_rfl
theorem YG:((Rows.spanPrimsRow.loops== (Tryz.f8.params.toList++Rows.spanPrimsSpec.plain.varTypes Tryz.prog).any (Tryz.prog.loopsFrom ·)))=true:=by kernel_rfl
theorem YH:((Rows.spanPrimsRow.wideKeys== (Tryz.f8.params.toList++Rows.spanPrimsSpec.plain.varTypes Tryz.prog++Tryz.f8.resultTypes.toList).any (Tryz.prog.wideKeysFrom ·)))=true:=by kernel_rfl
theorem YI:(Rows.spanPrimsSpec.vars.all (Tryz.prog.varReadable ·))=true:=by kernel_rfl
theorem YJ:(Tryz.f8.resultTypes.all (fun t=>Tryz.prog.readableRec t && decide (t<Tryz.prog.types.size)))=true:=by kernel_rfl
theorem YK:((Rows.spanPrimsRow.ifacesOut==Tryz.f8.resultTypes.toList.any (Tryz.prog.ifacesRec ·)))=true:=by kernel_rfl
theorem YL:((Rows.spanPrimsRow.loopsOut==Tryz.f8.resultTypes.toList.any (Tryz.prog.loopsFrom ·)))=true:=by kernel_rfl
theorem YM:((Rows.spanPrimsRow.plainKeys==Tryz.prog.plainKeys))=true:=by kernel_rfl
theorem YN:(Rows.spanPrimsRow.shortTexts.isNone)=true:=by kernel_rfl
theorem YO:(Tryz.prog.stopsHeard)=true:=by kernel_rfl
theorem YP:(Tryz.prog.mayEnter)=true:=by kernel_rfl
theorem YQ:((Rows.spanPrimsRow.lifted==Tryz.prog.liftsFinal))=true:=by kernel_rfl
theorem YR:((Tryz.prog.make==some Rows.spanPrimsRow.make))=true:=by kernel_rfl
theorem YS:((Rows.spanPrimsRow.kinds== (if Rows.spanPrimsRow.domain.isEmpty then[]else Tryz.f8.params.toList.map fun t=>match Tryz.prog.underlying t with|some (.int k)=>some k|_=>none)))=true:=by kernel_rfl
theorem YT:((Rows.spanPrimsRow.pinned==Rows.spanPrimsRow.pinnedBy))=true:=by kernel_rfl
theorem YU:((Rows.spanPrimsRow.veiled== (Tryz.f8.params.toList++Rows.spanPrimsSpec.plain.varTypes Tryz.prog++Tryz.f8.resultTypes.toList).any (Tryz.prog.veiledRec ·)))=true:=by kernel_rfl
theorem YV:(Rows.spanPrimsRow.veiledFits Tryz.prog Tryz.f8.params.toList (Tryz.f8.params.toList++Rows.spanPrimsSpec.plain.varTypes Tryz.prog++Tryz.f8.resultTypes.toList))=true:=by kernel_rfl
theorem a2{a b:Bool}(h1:a=true)(h2:b=true):(a && b)=true:=by rw[h1,h2];rfl
theorem closed:joinedFacts Tryz.prog 8 Tryz.f8 Rows.spanPrimsSpec Rows.spanPrimsRow=true:=by
 unfold joinedFacts
 exact a2 (a2 (a2 (a2 (a2 (a2 (a2 (a2 (a2 (a2 (a2 (a2 (a2 (a2 (a2 (a2 (a2 (a2 (a2 (a2 (a2 (a2 (a2 (a2 (a2 (a2 (a2 (a2 (a2 (a2 (a2 adg adh) adi) adj) adk) adl) adm) adn) ado) adp) YA) YB) YC) YD) YE) YF) YG) YH) YI) YJ) YK) YL) YM) YN) YO) YP) YQ) YR) YS) YT) YU) YV
theorem over:Rows.spanPrimsRow.holds Tryz.pinned (OpenSpec.ofChange Rows.spanPrimsSpec):=
 OpenClaim.holds_of_wide 8 Tryz.f8 rfl rfl rfl rfl rfl rfl rfl ⟨rfl,rfl,rfl,rfl,rfl⟩ rfl rfl rfl rfl rfl (by kernel_rfl) Tryz.func8 closed
  (of_decide_eq_true (by kernel_rfl)) (by unfold Func.isWrapper;first| (rw[if_pos (by decide+kernel)];kernel_rfl)| (rw[if_neg (by decide+kernel)];exact⟨rfl,rfl⟩))
  (fun os started H enc _=>lifted os started H enc)
theorem proved:Rows.SpanPrimsSaid:=
 over
#print axioms proved
end Go.Proofs.YtjlnnljohemifaaGreat.spanPrims
