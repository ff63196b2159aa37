import Derived.Test.YtjlnnljohemifaaGreatK98
import Derived.Test.YtjlnnljohemifaaGreatK22
import Derived.Test.YtjlnnljohemifaaGreatK47
import Derived.Test.YtjlnnljohemifaaGreatRows
import Derived.WalkKit
import Derived.ProofKit
import Derived.OpenShut
set_option maxRecDepth 100000
set_option maxHeartbeats 8000000
namespace Go.Proofs.YtjlnnljohemifaaGreat.spanBest
open Go Go.Vc Go.ChangeShapes Go.WideShapes Go.ChangeAt Go.RowKit
theorem own:ownKnob Tryz.prog.godebug=none:=by kernel_rfl
theorem laidOut:laidOutB Tryz.prog=true:=by kernel_rfl
def SN:List (Bool×List Vc.Pc):=[(true,[.k (.i .i64),.k (.i .i64)]),(true,[.k (.i .i64),.sl [.i .i64,.i .i64,.i .i64]]),(false,[.sl [.i .i64]])]
theorem walk(args:List Value)(Hh:Hp)(h:lz (Cm Hh) SN args):af Tryz.prog 9 args Hh fun v H'=>aw (v= .bool true∧ai Hh H'):=by
 obtain⟨v0,r0,rfl,h0,v1,r1,rfl,h1,v2,r2,rfl,h2,rfl⟩:=h
 exact xm h0 h1 h2
theorem lifted(os:Os)(started:os.Started)(H:Type)(enc:TypeId×Value→H):
  ReturnsInHanded {} Tryz.checked os 9 .any (Rows.spanBestSpec.pre6 enc Tryz.prog Tryz.f9 Rows.spanBestRow.domain false) (Rows.spanBestSpec.post enc Tryz.prog Tryz.f9 false true false false):=by
 refine returnsInHanded_of_change (C:=Tryz.checked) own started (by kernel_rfl) Tryz.func9
  (ChangeSpec.witness6 (enc:=enc) (C:=Tryz.checked) false ⟨#[], #[.agg #[.int .i64 0,.int .i64 0],.agg #[.int .i64 0,.slice none 0 0],.slice none 0 0],[]⟩ 8 (by kernel_rfl) (by kernel_rfl) (by kernel_rfl) (by kernel_rfl)) ?_
 intro W base args ds gs before Rm hW _ _
 exact Jm (C:=Tryz.checked) (shs:=SN) (tb:=4) (by kernel_rfl) rfl (fun ds h=>by match ds,h with| [_,_,_],_=>rfl) rfl (by kernel_rfl) laidOut (by kernel_rfl) walk Rm hW
theorem acy:(Rows.spanBestRow.wf (OpenSpec.ofChange Rows.spanBestSpec))=true:=by kernel_rfl
theorem acz:(laidOutB Tryz.prog)=true:=by kernel_rfl
theorem acA:(mapsRowed Tryz.prog)=true:=by kernel_rfl
theorem acB:(Tryz.f9.params.all (Tryz.prog.readableRec ·))=true:=by kernel_rfl
theorem acC:(namedTie Tryz.prog Rows.spanBestRow.named Rows.spanBestSpec.vars)=true:=by kernel_rfl
theorem acD:((Rows.spanBestRow.stops== []))=true:=by kernel_rfl
theorem acE:((Tryz.prog.stops== []))=true:=by kernel_rfl
theorem acF:((Rows.spanBestRow.knobs== []))=true:=by kernel_rfl
theorem acG:((Tryz.prog.stopKnobs== []))=true:=by kernel_rfl
theorem acH:((Rows.spanBestRow.inPlace==Tryz.prog.inPlace 9))=true:=by kernel_rfl
theorem X6:((Rows.spanBestRow.unfollowed==Tryz.prog.unfollowed 9))=true:=by kernel_rfl
theorem X7:((Rows.spanBestRow.recurses==Tryz.prog.recurses 9))=true:=by kernel_rfl
theorem X8:((Rows.spanBestRow.named==Tryz.prog.varsNamed 9))=true:=by kernel_rfl
theorem X9:((Rows.spanBestRow.maps== (Tryz.f9.params.toList++Rows.spanBestSpec.plain.varTypes Tryz.prog).any (Tryz.prog.mapsRec ·)))=true:=by kernel_rfl
theorem Ya:((Rows.spanBestRow.ifaces== (Tryz.f9.params.toList++Rows.spanBestSpec.plain.varTypes Tryz.prog).any (Tryz.prog.ifacesRec ·)))=true:=by kernel_rfl
theorem Yb:((Rows.spanBestRow.mapsOut==Tryz.prog.mapsAmong Tryz.f9.resultTypes.toList))=true:=by kernel_rfl
theorem Yc:((Rows.spanBestRow.loops== (Tryz.f9.params.toList++Rows.spanBestSpec.plain.varTypes Tryz.prog).any (Tryz.prog.loopsFrom ·)))=true:=by kernel_rfl
theorem Yd:((Rows.spanBestRow.wideKeys== (Tryz.f9.params.toList++Rows.spanBestSpec.plain.varTypes Tryz.prog++Tryz.f9.resultTypes.toList).any (Tryz.prog.wideKeysFrom ·)))=true:=by kernel_rfl
theorem Ye:(Rows.spanBestSpec.vars.all (Tryz.prog.varReadable ·))=true:=by kernel_rfl
theorem Yf:(Tryz.f9.resultTypes.all (fun t=>Tryz.prog.readableRec t && decide (t<Tryz.prog.types.size)))=true:=by kernel_rfl
theorem Yg:((Rows.spanBestRow.ifacesOut==Tryz.f9.resultTypes.toList.any (Tryz.prog.ifacesRec ·)))=true:=by kernel_rfl
theorem Yh:((Rows.spanBestRow.loopsOut==Tryz.f9.resultTypes.toList.any (Tryz.prog.loopsFrom ·)))=true:=by kernel_rfl
theorem Yi:((Rows.spanBestRow.plainKeys==Tryz.prog.plainKeys))=true:=by kernel_rfl
theorem Yj:(Rows.spanBestRow.shortTexts.isNone)=true:=by kernel_rfl
theorem Yk:(Tryz.prog.stopsHeard)=true:=by kernel_rfl
theorem Yl:(Tryz.prog.mayEnter)=true:=by kernel_rfl
theorem Ym:((Rows.spanBestRow.lifted==Tryz.prog.liftsFinal))=true:=by kernel_rfl
theorem Yn:((Tryz.prog.make==some Rows.spanBestRow.make))=true:=by kernel_rfl
theorem Yo:((Rows.spanBestRow.kinds== (if Rows.spanBestRow.domain.isEmpty then[]else Tryz.f9.params.toList.map fun t=>match Tryz.prog.underlying t with|some (.int k)=>some k|_=>none)))=true:=by kernel_rfl
theorem Yp:((Rows.spanBestRow.pinned==Rows.spanBestRow.pinnedBy))=true:=by kernel_rfl
theorem Yq:((Rows.spanBestRow.veiled== (Tryz.f9.params.toList++Rows.spanBestSpec.plain.varTypes Tryz.prog++Tryz.f9.resultTypes.toList).any (Tryz.prog.veiledRec ·)))=true:=by kernel_rfl
theorem Yr:(Rows.spanBestRow.veiledFits Tryz.prog Tryz.f9.params.toList (Tryz.f9.params.toList++Rows.spanBestSpec.plain.varTypes Tryz.prog++Tryz.f9.resultTypes.toList))=true:=by kernel_rfl
theorem a2{a b:Bool}(h1:a=true)(h2:b=true):(a && b)=true:=by rw[h1,h2];rfl
theorem closed:joinedFacts Tryz.prog 9 Tryz.f9 Rows.spanBestSpec Rows.spanBestRow=true:=by
 unfold joinedFacts
 exact a2 (a2 (a2 (a2 (a2 (a2 (a2 (a2 (a2 (a2 (a2 (a2 (a2 (a2 (a2 (a2 (a2 (a2 (a2 (a2 (a2 (a2 (a2 (a2 (a2 (a2 (a2 (a2 (a2 (a2 (a2 acy acz) acA) acB) acC) acD) acE) acF) acG) acH) X6) X7) X8) X9) Ya) Yb) Yc) Yd) Ye) Yf) Yg) Yh) Yi) Yj) Yk) Yl) Ym) Yn) Yo) Yp) Yq) Yr
theorem over:Rows.spanBestRow.holds Tryz.pinned (OpenSpec.ofChange Rows.spanBestSpec):=
 OpenClaim.holds_of_wide 9 Tryz.f9 rfl rfl rfl rfl rfl rfl rfl ⟨rfl,rfl,rfl,rfl,rfl⟩ rfl rfl rfl rfl rfl (by kernel_rfl) Tryz.func9 closed
  (of_decide_eq_true (by kernel_rfl)) (by unfold Func.isWrapper;first| (rw[if_pos (by decide+kernel)];kernel_rfl)| (rw[if_neg (by decide+kernel)];exact⟨rfl,rfl⟩))
  (fun os started H enc _=>lifted os started H enc)
theorem proved:Rows.SpanBestSaid:=
 over
#print axioms proved
end Go.Proofs.YtjlnnljohemifaaGreat.spanBest
