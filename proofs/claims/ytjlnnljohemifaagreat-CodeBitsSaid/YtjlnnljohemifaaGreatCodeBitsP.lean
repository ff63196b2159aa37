import Derived.Test.YtjlnnljohemifaaGreatK98
import Derived.Test.YtjlnnljohemifaaGreatK0
import Derived.Test.YtjlnnljohemifaaGreatK2
import Derived.Test.YtjlnnljohemifaaGreatK3
import Derived.Test.YtjlnnljohemifaaGreatK4
import Derived.Test.YtjlnnljohemifaaGreatK5
import Derived.Test.YtjlnnljohemifaaGreatK6
import Derived.Test.YtjlnnljohemifaaGreatK7
import Derived.Test.YtjlnnljohemifaaGreatK8
import Derived.Test.YtjlnnljohemifaaGreatK9
import Derived.Test.YtjlnnljohemifaaGreatK10
import Derived.Test.YtjlnnljohemifaaGreatK11
import Derived.Test.YtjlnnljohemifaaGreatK12
import Derived.Test.YtjlnnljohemifaaGreatK13
import Derived.Test.YtjlnnljohemifaaGreatK14
import Derived.Test.YtjlnnljohemifaaGreatK15
import Derived.Test.YtjlnnljohemifaaGreatK16
import Derived.Test.YtjlnnljohemifaaGreatK17
import Derived.Test.YtjlnnljohemifaaGreatK18
import Derived.Test.YtjlnnljohemifaaGreatK19
import Derived.Test.YtjlnnljohemifaaGreatK20
import Derived.Test.YtjlnnljohemifaaGreatK21
import Derived.Test.YtjlnnljohemifaaGreatK22
import Derived.Test.YtjlnnljohemifaaGreatK23
import Derived.Test.YtjlnnljohemifaaGreatK24
import Derived.Test.YtjlnnljohemifaaGreatK25
import Derived.Test.YtjlnnljohemifaaGreatK26
import Derived.Test.YtjlnnljohemifaaGreatK27
import Derived.Test.YtjlnnljohemifaaGreatK28
import Derived.Test.YtjlnnljohemifaaGreatK29
import Derived.Test.YtjlnnljohemifaaGreatK30
import Derived.Test.YtjlnnljohemifaaGreatK31
import Derived.Test.YtjlnnljohemifaaGreatK32
import Derived.Test.YtjlnnljohemifaaGreatK33
import Derived.Test.YtjlnnljohemifaaGreatK34
import Derived.Test.YtjlnnljohemifaaGreatK35
import Derived.Test.YtjlnnljohemifaaGreatK36
import Derived.Test.YtjlnnljohemifaaGreatK38
import Derived.Test.YtjlnnljohemifaaGreatK39
import Derived.Test.YtjlnnljohemifaaGreatK40
import Derived.Test.YtjlnnljohemifaaGreatK41
import Derived.Test.YtjlnnljohemifaaGreatK42
import Derived.Test.YtjlnnljohemifaaGreatK43
import Derived.Test.YtjlnnljohemifaaGreatK48
import Derived.Test.YtjlnnljohemifaaGreatK49
import Derived.Test.YtjlnnljohemifaaGreatK50
import Derived.Test.YtjlnnljohemifaaGreatK51
import Derived.Test.YtjlnnljohemifaaGreatK52
import Derived.Test.YtjlnnljohemifaaGreatK53
import Derived.Test.YtjlnnljohemifaaGreatK54
import Derived.Test.YtjlnnljohemifaaGreatK55
import Derived.Test.YtjlnnljohemifaaGreatK56
import Derived.Test.YtjlnnljohemifaaGreatK57
import Derived.Test.YtjlnnljohemifaaGreatK58
import Derived.Test.YtjlnnljohemifaaGreatRows
import Derived.WalkKit
import Derived.ProofKit
import Derived.OpenShut
set_option maxRecDepth 100000
set_option maxHeartbeats 8000000
namespace Go.Proofs.YtjlnnljohemifaaGreat.codeBits
open Go Go.Vc Go.ChangeShapes Go.WideShapes Go.ChangeAt Go.RowKit
theorem own:ownKnob Tryz.prog.godebug=none:=by kernel_rfl
theorem laidOut:laidOutB Tryz.prog=true:=by kernel_rfl
def SN:List (Bool×List Vc.Pc):=[(true,[.k (.i .i64),.k (.i .i64)]),(false,[.sl [.i .i64]]),(false,[.k .s])]
theorem walk(args:List Value)(Hh:Hp)(h:lz (Cm Hh) SN args):af Tryz.prog 12 args Hh fun v H'=>aw (v= .bool true∧ai Hh H'):=by
 obtain⟨v0,r0,rfl,h0,v1,r1,rfl,h1,v2,r2,rfl,h2,rfl⟩:=h
 exact abc h0 h1 h2
theorem lifted(os:Os)(started:os.Started)(H:Type)(enc:TypeId×Value→H):
  ReturnsInHanded {} Tryz.checked os 12 .any (Rows.codeBitsSpec.pre6 enc Tryz.prog Tryz.f12 Rows.codeBitsRow.domain false) (Rows.codeBitsSpec.post enc Tryz.prog Tryz.f12 false true false false):=by
 refine returnsInHanded_of_change (C:=Tryz.checked) own started (by kernel_rfl) Tryz.func12
  (ChangeSpec.witness6 (enc:=enc) (C:=Tryz.checked) false ⟨#[], #[.agg #[.int .i64 0,.int .i64 0],.slice none 0 0,.string ⟨#[]⟩],[]⟩ 8 (by kernel_rfl) (by kernel_rfl) (by kernel_rfl) (by kernel_rfl)) ?_
 intro W base args ds gs before Rm hW _ _
 exact Jm (C:=Tryz.checked) (shs:=SN) (tb:=4) (by kernel_rfl) rfl (fun ds h=>by match ds,h with| [_,_,_],_=>rfl) rfl (by kernel_rfl) laidOut (by kernel_rfl) walk Rm hW
theorem acy:(Rows.codeBitsRow.wf (OpenSpec.ofChange Rows.codeBitsSpec))=true:=by kernel_rfl
theorem acz:(laidOutB Tryz.prog)=true:=by kernel_rfl
theorem acA:(mapsRowed Tryz.prog)=true:=by kernel_rfl
theorem acB:(Tryz.f12.params.all (Tryz.prog.readableRec ·))=true:=by kernel_rfl
theorem acC:(namedTie Tryz.prog Rows.codeBitsRow.named Rows.codeBitsSpec.vars)=true:=by kernel_rfl
theorem acD:((Rows.codeBitsRow.stops== []))=true:=by kernel_rfl
theorem acE:((Tryz.prog.stops== []))=true:=by kernel_rfl
theorem acF:((Rows.codeBitsRow.knobs== []))=true:=by kernel_rfl
theorem acG:((Tryz.prog.stopKnobs== []))=true:=by kernel_rfl
theorem acH:((Rows.codeBitsRow.inPlace==Tryz.prog.inPlace 12))=true:=by kernel_rfl
theorem X6:((Rows.codeBitsRow.unfollowed==Tryz.prog.unfollowed 12))=true:=by kernel_rfl
theorem X7:((Rows.codeBitsRow.recurses==Tryz.prog.recurses 12))=true:=by kernel_rfl
theorem X8:((Rows.codeBitsRow.named==Tryz.prog.varsNamed 12))=true:=by kernel_rfl
theorem X9:((Rows.codeBitsRow.maps== (Tryz.f12.params.toList++Rows.codeBitsSpec.plain.varTypes Tryz.prog).any (Tryz.prog.mapsRec ·)))=true:=by kernel_rfl
theorem Ya:((Rows.codeBitsRow.ifaces== (Tryz.f12.params.toList++Rows.codeBitsSpec.plain.varTypes Tryz.prog).any (Tryz.prog.ifacesRec ·)))=true:=by kernel_rfl
theorem Yb:((Rows.codeBitsRow.mapsOut==Tryz.prog.mapsAmong Tryz.f12.resultTypes.toList))=true:=by kernel_rfl
theorem Yc:((Rows.codeBitsRow.loops== (Tryz.f12.params.toList++Rows.codeBitsSpec.plain.varTypes Tryz.prog).any (Tryz.prog.loopsFrom ·)))=true:=by kernel_rfl
theorem Yd:((Rows.codeBitsRow.wideKeys== (Tryz.f12.params.toList++Rows.codeBitsSpec.plain.varTypes Tryz.prog++Tryz.f12.resultTypes.toList).any (Tryz.prog.wideKeysFrom ·)))=true:=by kernel_rfl
theorem Ye:(Rows.codeBitsSpec.vars.all (Tryz.prog.varReadable ·))=true:=by kernel_rfl
theorem Yf:(Tryz.f12.resultTypes.all (fun t=>Tryz.prog.readableRec t && decide (t<Tryz.prog.types.size)))=true:=by kernel_rfl
theorem Yg:((Rows.codeBitsRow.ifacesOut==Tryz.f12.resultTypes.toList.any (Tryz.prog.ifacesRec ·)))=true:=by kernel_rfl
theorem Yh:((Rows.codeBitsRow.loopsOut==Tryz.f12.resultTypes.toList.any (Tryz.prog.loopsFrom ·)))=true:=by kernel_rfl
theorem Yi:((Rows.codeBitsRow.plainKeys==Tryz.prog.plainKeys))=true:=by kernel_rfl
theorem Yj:(Rows.codeBitsRow.shortTexts.isNone)=true:=by kernel_rfl
theorem Yk:(Tryz.prog.stopsHeard)=true:=by kernel_rfl
theorem Yl:(Tryz.prog.mayEnter)=true:=by kernel_rfl
theorem Ym:((Rows.codeBitsRow.lifted==Tryz.prog.liftsFinal))=true:=by kernel_rfl
theorem Yn:((Tryz.prog.make==some Rows.codeBitsRow.make))=true:=by kernel_rfl
theorem Yo:((Rows.codeBitsRow.kinds== (if Rows.codeBitsRow.domain.isEmpty then[]else Tryz.f12.params.toList.map fun t=>match Tryz.prog.underlying t with|some (.int k)=>some k|_=>none)))=true:=by kernel_rfl
theorem Yp:((Rows.codeBitsRow.pinned==Rows.codeBitsRow.pinnedBy))=true:=by kernel_rfl
theorem Yq:((Rows.codeBitsRow.veiled== (Tryz.f12.params.toList++Rows.codeBitsSpec.plain.varTypes Tryz.prog++Tryz.f12.resultTypes.toList).any (Tryz.prog.veiledRec ·)))=true:=by kernel_rfl
theorem Yr:(Rows.codeBitsRow.veiledFits Tryz.prog Tryz.f12.params.toList (Tryz.f12.params.toList++Rows.codeBitsSpec.plain.varTypes Tryz.prog++Tryz.f12.resultTypes.toList))=true:=by kernel_rfl
theorem a2{a b:Bool}(h1:a=true)(h2:b=true):(a && b)=true:=by rw[h1,h2];rfl
theorem closed:joinedFacts Tryz.prog 12 Tryz.f12 Rows.codeBitsSpec Rows.codeBitsRow=true:=by
 unfold joinedFacts
 exact a2 (a2 (a2 (a2 (a2 (a2 (a2 (a2 (a2 (a2 (a2 (a2 (a2 (a2 (a2 (a2 (a2 (a2 (a2 (a2 (a2 (a2 (a2 (a2 (a2 (a2 (a2 (a2 (a2 (a2 (a2 acy acz) acA) acB) acC) acD) acE) acF) acG) acH) X6) X7) X8) X9) Ya) Yb) Yc) Yd) Ye) Yf) Yg) Yh) Yi) Yj) Yk) Yl) Ym) Yn) Yo) Yp) Yq) Yr
theorem over:Rows.codeBitsRow.holds Tryz.pinned (OpenSpec.ofChange Rows.codeBitsSpec):=
 OpenClaim.holds_of_wide 12 Tryz.f12 rfl rfl rfl rfl rfl rfl rfl ⟨rfl,rfl,rfl,rfl,rfl⟩ rfl rfl rfl rfl rfl (by kernel_rfl) Tryz.func12 closed
  (of_decide_eq_true (by kernel_rfl)) (by unfold Func.isWrapper;first| (rw[if_pos (by decide+kernel)];kernel_rfl)| (rw[if_neg (by decide+kernel)];exact⟨rfl,rfl⟩))
  (fun os started H enc _=>lifted os started H enc)
theorem proved:Rows.CodeBitsSaid:=
 over
#print axioms proved
end Go.Proofs.YtjlnnljohemifaaGreat.codeBits
