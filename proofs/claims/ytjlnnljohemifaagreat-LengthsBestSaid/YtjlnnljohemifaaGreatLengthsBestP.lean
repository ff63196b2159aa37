import Derived.Test.YtjlnnljohemifaaGreatK98
import Derived.Test.YtjlnnljohemifaaGreatK19
import Derived.Test.YtjlnnljohemifaaGreatK27
import Derived.Test.YtjlnnljohemifaaGreatRows
import Derived.WalkKit
import Derived.ProofKit
import Derived.OpenShut
namespace Go.Proofs.YtjlnnljohemifaaGreat.lengthsBest
open Go Go.Vc Go.ChangeShapes Go.WideShapes Go.ChangeAt Go.RowKit
theorem own:ownKnob Tryz.prog.godebug=none:=by kernel_rfl
theorem laidOut:laidOutB Tryz.prog=true:=by kernel_rfl
def Tw:List (Bool×List Vc.Pc):=[(true,[.k (.i .i64),.k (.i .i64)]),(false,[.sl [.i .i64]]),(false,[.sl [.i .i64]])]
theorem walk(args:List Value)(Hh:Hp)(h:pK (Fq Hh) Tw args):ah Tryz.prog 7 args Hh fun v H'=>ay (v= .bool true∧ax Hh H'):=by
 obtain⟨v0,r0,rfl,h0,v1,r1,rfl,h1,v2,r2,rfl,h2,rfl⟩:=h
 exact uJ h0 h1 h2
set_option maxRecDepth 100000 in
theorem lifted(os:Os)(started:os.Started)(H:Type)(enc:TypeId×Value→H):
  ReturnsInHanded {} Tryz.checked os 7 .any (Rows.lengthsBestSpec.pre6 enc Tryz.prog Tryz.f7 Rows.lengthsBestRow.domain false) (Rows.lengthsBestSpec.post enc Tryz.prog Tryz.f7 false true false false):=by
 refine returnsInHanded_of_change (C:=Tryz.checked) own started (by kernel_rfl) Tryz.func7
  (ChangeSpec.witness6 (enc:=enc) (C:=Tryz.checked) false ⟨#[], #[.agg #[.int .i64 0,.int .i64 0],.slice none 0 0,.slice none 0 0],[]⟩ 8 (by kernel_rfl) (by kernel_rfl) (by kernel_rfl) (by kernel_rfl)) ?_
 intro W base args ds gs before RP hW _ _
 exact J9 (C:=Tryz.checked) (shs:=Tw) (tb:=4) (by kernel_rfl) rfl (fun ds h=>by match ds,h with| [_,_,_],_=>rfl) rfl (by kernel_rfl) laidOut (by kernel_rfl) walk RP hW
theorem acl:(Rows.lengthsBestRow.wf (OpenSpec.ofChange Rows.lengthsBestSpec))=true:=by kernel_rfl
theorem acm:(laidOutB Tryz.prog)=true:=by kernel_rfl
theorem acn:(mapsRowed Tryz.prog)=true:=by kernel_rfl
theorem aco:(Tryz.f7.params.all (Tryz.prog.readableRec ·))=true:=by kernel_rfl
theorem acp:(namedTie Tryz.prog Rows.lengthsBestRow.named Rows.lengthsBestSpec.vars)=true:=by kernel_rfl
theorem acq:((Rows.lengthsBestRow.stops== []))=true:=by kernel_rfl
theorem acr:((Tryz.prog.stops== []))=true:=by kernel_rfl
theorem acs:((Rows.lengthsBestRow.knobs== []))=true:=by kernel_rfl
theorem acu:((Tryz.prog.stopKnobs== []))=true:=by kernel_rfl
theorem acv:((Rows.lengthsBestRow.inPlace==Tryz.prog.inPlace 7))=true:=by kernel_rfl
theorem X8:((Rows.lengthsBestRow.unfollowed==Tryz.prog.unfollowed 7))=true:=by kernel_rfl
theorem X9:((Rows.lengthsBestRow.recurses==Tryz.prog.recurses 7))=true:=by kernel_rfl
theorem Ya:((Rows.lengthsBestRow.named==Tryz.prog.varsNamed 7))=true:=by kernel_rfl
theorem Yb:((Rows.lengthsBestRow.maps== (Tryz.f7.params.toList++Rows.lengthsBestSpec.plain.varTypes Tryz.prog).any (Tryz.prog.mapsRec ·)))=true:=by kernel_rfl
theorem Yc:((Rows.lengthsBestRow.ifaces== (Tryz.f7.params.toList++Rows.lengthsBestSpec.plain.varTypes Tryz.prog).any (Tryz.prog.ifacesRec ·)))=true:=by kernel_rfl
theorem Yd:((Rows.lengthsBestRow.mapsOut==Tryz.prog.mapsAmong Tryz.f7.resultTypes.toList))=true:=by kernel_rfl
theorem Ye:((Rows.lengthsBestRow.loops== (Tryz.f7.params.toList++Rows.lengthsBestSpec.plain.varTypes Tryz.prog).any (Tryz.prog.loopsFrom ·)))=true:=by kernel_rfl
theorem Yf:((Rows.lengthsBestRow.wideKeys== (Tryz.f7.params.toList++Rows.lengthsBestSpec.plain.varTypes Tryz.prog++Tryz.f7.resultTypes.toList).any (Tryz.prog.wideKeysFrom ·)))=true:=by kernel_rfl
theorem Yg:(Rows.lengthsBestSpec.vars.all (Tryz.prog.varReadable ·))=true:=by kernel_rfl
theorem Yh:(Tryz.f7.resultTypes.all (fun t=>Tryz.prog.readableRec t && decide (t<Tryz.prog.types.size)))=true:=by kernel_rfl
theorem Yi:((Rows.lengthsBestRow.ifacesOut==Tryz.f7.resultTypes.toList.any (Tryz.prog.ifacesRec ·)))=true:=by kernel_rfl
theorem Yj:((Rows.lengthsBestRow.loopsOut==Tryz.f7.resultTypes.toList.any (Tryz.prog.loopsFrom ·)))=true:=by kernel_rfl
theorem Yk:((Rows.lengthsBestRow.plainKeys==Tryz.prog.plainKeys))=true:=by kernel_rfl
theorem Yl:(Rows.lengthsBestRow.shortTexts.isNone)=true:=by kernel_rfl
theorem Ym:(Tryz.prog.stopsHeard)=true:=by kernel_rfl
theorem Yn:(Tryz.prog.mayEnter)=true:=by kernel_rfl
theorem Yo:((Rows.lengthsBestRow.lifted==Tryz.prog.liftsFinal))=true:=by kernel_rfl
theorem Yp:((Tryz.prog.make==some Rows.lengthsBestRow.make))=true:=by kernel_rfl
theorem Yq:((Rows.lengthsBestRow.kinds== (if Rows.lengthsBestRow.domain.isEmpty then[]else Tryz.f7.params.toList.map fun t=>match Tryz.prog.underlying t with|some (.int k)=>some k|_=>none)))=true:=by kernel_rfl
theorem Yr:((Rows.lengthsBestRow.pinned==Rows.lengthsBestRow.pinnedBy))=true:=by kernel_rfl
theorem Ys:((Rows.lengthsBestRow.veiled== (Tryz.f7.params.toList++Rows.lengthsBestSpec.plain.varTypes Tryz.prog++Tryz.f7.resultTypes.toList).any (Tryz.prog.veiledRec ·)))=true:=by kernel_rfl
theorem Yt:(Rows.lengthsBestRow.veiledFits Tryz.prog Tryz.f7.params.toList (Tryz.f7.params.toList++Rows.lengthsBestSpec.plain.varTypes Tryz.prog++Tryz.f7.resultTypes.toList))=true:=by kernel_rfl
theorem a2{a b:Bool}(h1:a=true)(h2:b=true):(a && b)=true:=by rw[h1,h2];rfl
set_option maxRecDepth 100000 in
theorem closed:joinedFacts Tryz.prog 7 Tryz.f7 Rows.lengthsBestSpec Rows.lengthsBestRow=true:=by
 unfold joinedFacts
 exact a2 (a2 (a2 (a2 (a2 (a2 (a2 (a2 (a2 (a2 (a2 (a2 (a2 (a2 (a2 (a2 (a2 (a2 (a2 (a2 (a2 (a2 (a2 (a2 (a2 (a2 (a2 (a2 (a2 (a2 (a2 acl acm) acn) aco) acp) acq) acr) acs) acu) acv) X8) X9) Ya) Yb) Yc) Yd) Ye) Yf) Yg) Yh) Yi) Yj) Yk) Yl) Ym) Yn) Yo) Yp) Yq) Yr) Ys) Yt
theorem over:Rows.lengthsBestRow.holds Tryz.pinned (OpenSpec.ofChange Rows.lengthsBestSpec):=
 OpenClaim.holds_of_wide 7 Tryz.f7 rfl rfl rfl rfl rfl rfl rfl ⟨rfl,rfl,rfl,rfl,rfl⟩ rfl rfl rfl rfl rfl (by kernel_rfl) Tryz.func7 closed
  (of_decide_eq_true (by kernel_rfl)) (by unfold Func.isWrapper;first| (rw[if_pos (by decide+kernel)];kernel_rfl)| (rw[if_neg (by decide+kernel)];exact⟨rfl,rfl⟩))
  (fun os started H enc _=>lifted os started H enc)
theorem proved:Rows.LengthsBestSaid:=
 over
#print axioms proved
end Go.Proofs.YtjlnnljohemifaaGreat.lengthsBest
