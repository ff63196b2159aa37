import Derived.Test.YthpjfeolagohkaaGreatK98
import Derived.Test.YthpjfeolagohkaaGreatK20
import Derived.Test.YthpjfeolagohkaaGreatK46
import Derived.Test.YthpjfeolagohkaaGreatRows
import Derived.WalkKit
import Derived.ProofKit
import Derived.OpenShut
set_option maxRecDepth 100000
set_option maxHeartbeats 8000000
namespace Go.Proofs.YthpjfeolagohkaaGreat.cutHolds
open Go Go.Vc Go.ChangeShapes Go.WideShapes Go.ChangeAt Go.RowKit
theorem own:ownKnob Tryz.prog.godebug=none:=by kernel_rfl
theorem laidOut:laidOutB Tryz.prog=true:=by kernel_rfl
def RT:List (Bool×List Vc.Pc):=[(true,[.k (.i .i64),.k (.i .i64)]),(true,[.k (.i .i64),.sl [.i .i64,.i .i64,.i .i64]]),(false,[.k (.i .u8)])]
theorem walk(args:List Value)(Hh:Hp)(h:nk (EG Hh) RT args):af Tryz.prog 3 args Hh fun v H'=>ax (v= .bool true∧ah Hh H'):=by
 obtain⟨v0,r0,rfl,h0,v1,r1,rfl,h1,v2,r2,rfl,h2,rfl⟩:=h
 exact wM h0 h1 h2
theorem lifted(os:Os)(started:os.Started)(H:Type)(enc:TypeId×Value→H):
  ReturnsInHanded {} Tryz.checked os 3 .any (Rows.cutHoldsSpec.pre6 enc Tryz.prog Tryz.f3 Rows.cutHoldsRow.domain false) (Rows.cutHoldsSpec.post enc Tryz.prog Tryz.f3 false true false false):=by
 refine returnsInHanded_of_change (C:=Tryz.checked) own started (by kernel_rfl) Tryz.func3
  (ChangeSpec.witness6 (enc:=enc) (C:=Tryz.checked) false ⟨#[], #[.agg #[.int .i64 0,.int .i64 0],.agg #[.int .i64 0,.slice none 0 0],.int .u8 0],[]⟩ 8 (by kernel_rfl) (by kernel_rfl) (by kernel_rfl) (by kernel_rfl)) ?_
 intro W base args ds gs before RU hW _ _
 exact JW (C:=Tryz.checked) (shs:=RT) (tb:=4) (by kernel_rfl) rfl (fun ds h=>by match ds,h with| [_,_,_],_=>rfl) rfl (by kernel_rfl) laidOut (by kernel_rfl) walk RU hW
theorem abg:(Rows.cutHoldsRow.wf (OpenSpec.ofChange Rows.cutHoldsSpec))=true:=by kernel_rfl
theorem abh:(laidOutB Tryz.prog)=true:=by kernel_rfl
theorem abi:(mapsRowed Tryz.prog)=true:=by kernel_rfl
theorem abj:(Tryz.f3.params.all (Tryz.prog.readableRec ·))=true:=by kernel_rfl
theorem abk:(namedTie Tryz.prog Rows.cutHoldsRow.named Rows.cutHoldsSpec.vars)=true:=by kernel_rfl
theorem abl:((Rows.cutHoldsRow.stops== []))=true:=by kernel_rfl
theorem abm:((Tryz.prog.stops== []))=true:=by kernel_rfl
theorem abn:((Rows.cutHoldsRow.knobs== []))=true:=by kernel_rfl
theorem abo:((Tryz.prog.stopKnobs== []))=true:=by kernel_rfl
theorem abp:((Rows.cutHoldsRow.inPlace==Tryz.prog.inPlace 3))=true:=by kernel_rfl
theorem Xa:((Rows.cutHoldsRow.unfollowed==Tryz.prog.unfollowed 3))=true:=by kernel_rfl
theorem Xb:((Rows.cutHoldsRow.recurses==Tryz.prog.recurses 3))=true:=by kernel_rfl
theorem Xc:((Rows.cutHoldsRow.named==Tryz.prog.varsNamed 3))=true:=by kernel_rfl
theorem Xd:((Rows.cutHoldsRow.maps== (Tryz.f3.params.toList++Rows.cutHoldsSpec.plain.varTypes Tryz.prog).any (Tryz.prog.mapsRec ·)))=true:=by kernel_rfl
theorem Xe:((Rows.cutHoldsRow.ifaces== (Tryz.f3.params.toList++Rows.cutHoldsSpec.plain.varTypes Tryz.prog).any (Tryz.prog.ifacesRec ·)))=true:=by kernel_rfl
theorem Xf:((Rows.cutHoldsRow.mapsOut==Tryz.prog.mapsAmong Tryz.f3.resultTypes.toList))=true:=by kernel_rfl
theorem Xg:((Rows.cutHoldsRow.loops== (Tryz.f3.params.toList++Rows.cutHoldsSpec.plain.varTypes Tryz.prog).any (Tryz.prog.loopsFrom ·)))=true:=by kernel_rfl
theorem Xh:((Rows.cutHoldsRow.wideKeys== (Tryz.f3.params.toList++Rows.cutHoldsSpec.plain.varTypes Tryz.prog++Tryz.f3.resultTypes.toList).any (Tryz.prog.wideKeysFrom ·)))=true:=by kernel_rfl
theorem Xi:(Rows.cutHoldsSpec.vars.all (Tryz.prog.varReadable ·))=true:=by kernel_rfl
theorem Xj:(Tryz.f3.resultTypes.all (fun t=>Tryz.prog.readableRec t && decide (t<Tryz.prog.types.size)))=true:=by kernel_rfl
theorem Xk:((Rows.cutHoldsRow.ifacesOut==Tryz.f3.resultTypes.toList.any (Tryz.prog.ifacesRec ·)))=true:=by kernel_rfl
theorem Xl:((Rows.cutHoldsRow.loopsOut==Tryz.f3.resultTypes.toList.any (Tryz.prog.loopsFrom ·)))=true:=by kernel_rfl
theorem Xm:((Rows.cutHoldsRow.plainKeys==Tryz.prog.plainKeys))=true:=by kernel_rfl
theorem Xn:(Rows.cutHoldsRow.shortTexts.isNone)=true:=by kernel_rfl
theorem Xo:(Tryz.prog.stopsHeard)=true:=by kernel_rfl
theorem Xp:(Tryz.prog.mayEnter)=true:=by kernel_rfl
theorem Xq:((Rows.cutHoldsRow.lifted==Tryz.prog.liftsFinal))=true:=by kernel_rfl
theorem Xr:((Tryz.prog.make==some Rows.cutHoldsRow.make))=true:=by kernel_rfl
theorem Xs:((Rows.cutHoldsRow.kinds== (if Rows.cutHoldsRow.domain.isEmpty then[]else Tryz.f3.params.toList.map fun t=>match Tryz.prog.underlying t with|some (.int k)=>some k|_=>none)))=true:=by kernel_rfl
theorem Xt:((Rows.cutHoldsRow.pinned==Rows.cutHoldsRow.pinnedBy))=true:=by kernel_rfl
theorem Xu:((Rows.cutHoldsRow.veiled== (Tryz.f3.params.toList++Rows.cutHoldsSpec.plain.varTypes Tryz.prog++Tryz.f3.resultTypes.toList).any (Tryz.prog.veiledRec ·)))=true:=by kernel_rfl
theorem Xv:(Rows.cutHoldsRow.veiledFits Tryz.prog Tryz.f3.params.toList (Tryz.f3.params.toList++Rows.cutHoldsSpec.plain.varTypes Tryz.prog++Tryz.f3.resultTypes.toList))=true:=by kernel_rfl
theorem a2{a b:Bool}(h1:a=true)(h2:b=true):(a && b)=true:=by rw[h1,h2];rfl
theorem closed:joinedFacts Tryz.prog 3 Tryz.f3 Rows.cutHoldsSpec Rows.cutHoldsRow=true:=by
 unfold joinedFacts
 exact a2 (a2 (a2 (a2 (a2 (a2 (a2 (a2 (a2 (a2 (a2 (a2 (a2 (a2 (a2 (a2 (a2 (a2 (a2 (a2 (a2 (a2 (a2 (a2 (a2 (a2 (a2 (a2 (a2 (a2 (a2 abg abh) abi) abj) abk) abl) abm) abn) abo) abp) Xa) Xb) Xc) Xd) Xe) Xf) Xg) Xh) Xi) Xj) Xk) Xl) Xm) Xn) Xo) Xp) Xq) Xr) Xs) Xt) Xu) Xv
theorem over:Rows.cutHoldsRow.holds Tryz.pinned (OpenSpec.ofChange Rows.cutHoldsSpec):=
 OpenClaim.holds_of_wide 3 Tryz.f3 rfl rfl rfl rfl rfl rfl rfl ⟨rfl,rfl,rfl,rfl,rfl⟩ rfl rfl rfl rfl rfl (by kernel_rfl) Tryz.func3 closed
  (of_decide_eq_true (by kernel_rfl)) (by unfold Func.isWrapper;first| (rw[if_pos (by decide+kernel)];kernel_rfl)| (rw[if_neg (by decide+kernel)];exact⟨rfl,rfl⟩))
  (fun os started H enc _=>lifted os started H enc)
theorem proved:Rows.CutHoldsSaid:=
 over
#print axioms proved
end Go.Proofs.YthpjfeolagohkaaGreat.cutHolds
