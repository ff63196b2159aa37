import Derived.Test.YtjlnnljohemifaaGreatK98
import Derived.Test.YtjlnnljohemifaaGreatK19
import Derived.Test.YtjlnnljohemifaaGreatK25
import Derived.Test.YtjlnnljohemifaaGreatRows
import Derived.WalkKit
import Derived.ProofKit
import Derived.OpenShut
set_option maxRecDepth 100000
set_option maxHeartbeats 8000000
namespace Go.Proofs.YtjlnnljohemifaaGreat.spanPrims
open Go Go.Vc Go.ChangeShapes Go.WideShapes Go.ChangeAt Go.RowKit
theorem own:ownKnob Tryz.prog.godebug=none:=by kernel_rfl
theorem laidOut:laidOutB Tryz.prog=true:=by kernel_rfl
def RQ:List (Bool×List Vc.Pc):=[(true,[.k (.i .i64),.k (.i .i64)]),(true,[.k (.i .i64),.sl [.i .i64,.i .i64,.i .i64]])]
theorem walk(args:List Value)(Hh:Hp)(h:mj (Gf Hh) RQ args):af Tryz.prog 8 args Hh fun v H'=>ar (v= .bool true∧ah Hh H'):=by
 obtain⟨v0,r0,rfl,h0,v1,r1,rfl,h1,rfl⟩:=h
 exact tL h0 h1
theorem lifted(os:Os)(started:os.Started)(H:Type)(enc:TypeId×Value→H):
  ReturnsInHanded {} Tryz.checked os 8 .any (Rows.spanPrimsSpec.pre6 enc Tryz.prog Tryz.f8 Rows.spanPrimsRow.domain false) (Rows.spanPrimsSpec.post enc Tryz.prog Tryz.f8 false true false false):=by
 refine returnsInHanded_of_change (C:=Tryz.checked) own started (by kernel_rfl) Tryz.func8
  (ChangeSpec.witness6 (enc:=enc) (C:=Tryz.checked) false ⟨#[], #[.agg #[.int .i64 0,.int .i64 0],.agg #[.int .i64 0,.slice none 0 0]],[]⟩ 8 (by kernel_rfl) (by kernel_rfl) (by kernel_rfl) (by kernel_rfl)) ?_
 intro W base args ds gs before Qd hW _ _
 exact Ie (C:=Tryz.checked) (shs:=RQ) (tb:=4) (by kernel_rfl) rfl (fun ds h=>by match ds,h with| [_,_],_=>rfl) rfl (by kernel_rfl) laidOut (by kernel_rfl) walk Qd hW
theorem ab7:(Rows.spanPrimsRow.wf (OpenSpec.ofChange Rows.spanPrimsSpec))=true:=by kernel_rfl
theorem ab8:(laidOutB Tryz.prog)=true:=by kernel_rfl
theorem ab9:(mapsRowed Tryz.prog)=true:=by kernel_rfl
theorem aca:(Tryz.f8.params.all (Tryz.prog.readableRec ·))=true:=by kernel_rfl
theorem acb:(namedTie Tryz.prog Rows.spanPrimsRow.named Rows.spanPrimsSpec.vars)=true:=by kernel_rfl
theorem acc:((Rows.spanPrimsRow.stops== []))=true:=by kernel_rfl
theorem acd:((Tryz.prog.stops== []))=true:=by kernel_rfl
theorem ace:((Rows.spanPrimsRow.knobs== []))=true:=by kernel_rfl
theorem acf:((Tryz.prog.stopKnobs== []))=true:=by kernel_rfl
theorem acg:((Rows.spanPrimsRow.inPlace==Tryz.prog.inPlace 8))=true:=by kernel_rfl
theorem Xq:((Rows.spanPrimsRow.unfollowed==Tryz.prog.unfollowed 8))=true:=by kernel_rfl
theorem Xr:((Rows.spanPrimsRow.recurses==Tryz.prog.recurses 8))=true:=by kernel_rfl
theorem Xs:((Rows.spanPrimsRow.named==Tryz.prog.varsNamed 8))=true:=by kernel_rfl
theorem Xt:((Rows.spanPrimsRow.maps== (Tryz.f8.params.toList++Rows.spanPrimsSpec.plain.varTypes Tryz.prog).any (Tryz.prog.mapsRec ·)))=true:=by kernel_rfl
theorem Xu:((Rows.spanPrimsRow.ifaces== (Tryz.f8.params.toList++Rows.spanPrimsSpec.plain.varTypes Tryz.prog).any (Tryz.prog.ifacesRec ·)))=true:=by kernel_rfl
theorem Xv:((Rows.spanPrimsRow.mapsOut==Tryz.prog.mapsAmong Tryz.f8.resultTypes.toList))=true:=by kernel_rfl
theorem Xw:((Rows.spanPrimsRow.loops== (Tryz.f8.params.toList++Rows.spanPrimsSpec.plain.varTypes Tryz.prog).any (Tryz.prog.loopsFrom ·)))=true:=by kernel_rfl
theorem Xx:((Rows.spanPrimsRow.wideKeys== (Tryz.f8.params.toList++Rows.spanPrimsSpec.plain.varTypes Tryz.prog++Tryz.f8.resultTypes.toList).any (Tryz.prog.wideKeysFrom ·)))=true:=by kernel_rfl
theorem Xy:(Rows.spanPrimsSpec.vars.all (Tryz.prog.varReadable ·))=true:=by kernel_rfl
theorem Xz:(Tryz.f8.resultTypes.all (fun t=>Tryz.prog.readableRec t && decide (t<Tryz.prog.types.size)))=true:=by kernel_rfl
theorem XA:((Rows.spanPrimsRow.ifacesOut==Tryz.f8.resultTypes.toList.any (Tryz.prog.ifacesRec ·)))=true:=by kernel_rfl
theorem XB:((Rows.spanPrimsRow.loopsOut==Tryz.f8.resultTypes.toList.any (Tryz.prog.loopsFrom ·)))=true:=by kernel_rfl
theorem XC:((Rows.spanPrimsRow.plainKeys==Tryz.prog.plainKeys))=true:=by kernel_rfl
theorem XD:(Rows.spanPrimsRow.shortTexts.isNone)=true:=by kernel_rfl
theorem XE:(Tryz.prog.stopsHeard)=true:=by kernel_rfl
theorem XF:(Tryz.prog.mayEnter)=true:=by kernel_rfl
theorem XG:((Rows.spanPrimsRow.lifted==Tryz.prog.liftsFinal))=true:=by kernel_rfl
theorem XH:((Tryz.prog.make==some Rows.spanPrimsRow.make))=true:=by kernel_rfl
theorem XI:((Rows.spanPrimsRow.kinds== (if Rows.spanPrimsRow.domain.isEmpty then[]else Tryz.f8.params.toList.map fun t=>match Tryz.prog.underlying t with|some (.int k)=>some k|_=>none)))=true:=by kernel_rfl
theorem XJ:((Rows.spanPrimsRow.pinned==Rows.spanPrimsRow.pinnedBy))=true:=by kernel_rfl
theorem XK:((Rows.spanPrimsRow.veiled== (Tryz.f8.params.toList++Rows.spanPrimsSpec.plain.varTypes Tryz.prog++Tryz.f8.resultTypes.toList).any (Tryz.prog.veiledRec ·)))=true:=by kernel_rfl
theorem XL:(Rows.spanPrimsRow.veiledFits Tryz.prog Tryz.f8.params.toList (Tryz.f8.params.toList++Rows.spanPrimsSpec.plain.varTypes Tryz.prog++Tryz.f8.resultTypes.toList))=true:=by kernel_rfl
theorem a2{a b:Bool}(h1:a=true)(h2:b=true):(a && b)=true:=by rw[h1,h2];rfl
theorem closed:joinedFacts Tryz.prog 8 Tryz.f8 Rows.spanPrimsSpec Rows.spanPrimsRow=true:=by
 unfold joinedFacts
 exact a2 (a2 (a2 (a2 (a2 (a2 (a2 (a2 (a2 (a2 (a2 (a2 (a2 (a2 (a2 (a2 (a2 (a2 (a2 (a2 (a2 (a2 (a2 (a2 (a2 (a2 (a2 (a2 (a2 (a2 (a2 ab7 ab8) ab9) aca) acb) acc) acd) ace) acf) acg) Xq) Xr) Xs) Xt) Xu) Xv) Xw) Xx) Xy) Xz) XA) XB) XC) XD) XE) XF) XG) XH) XI) XJ) XK) XL
theorem over:Rows.spanPrimsRow.holds Tryz.pinned (OpenSpec.ofChange Rows.spanPrimsSpec):=
 OpenClaim.holds_of_wide 8 Tryz.f8 rfl rfl rfl rfl rfl rfl rfl ⟨rfl,rfl,rfl,rfl,rfl⟩ rfl rfl rfl rfl rfl (by kernel_rfl) Tryz.func8 closed
  (of_decide_eq_true (by kernel_rfl)) (by unfold Func.isWrapper;first| (rw[if_pos (by decide+kernel)];kernel_rfl)| (rw[if_neg (by decide+kernel)];exact⟨rfl,rfl⟩))
  (fun os started H enc _=>lifted os started H enc)
theorem proved:Rows.SpanPrimsSaid:=
 over
#print axioms proved
end Go.Proofs.YtjlnnljohemifaaGreat.spanPrims
