/- Texts put behind each other. -/
import Derived.Test.YtjlnnljohemifaaGreatK98
import Derived.Shelf.Strings.Builder1
import Derived.Shelf.Sort.Plain
import Derived.Shelf.Bits.Mul64
import Derived.Shelf.Strings.Repeat
import Derived.Shelf.Slices.In.SortNone
import Derived.Shelf.SlSortCmp.Whole1
import Derived.Test.YtjlnnljohemifaaGreatProg
set_option maxRecDepth 100000
set_option maxHeartbeats 8000000
set_option linter.unusedVariables false
namespace Go.Proofs
open Go.Shelf
def Tryz.LW:Go.Shelf.Ren:=⟨fun|189=>62|125=>101|257=>100|128=>153|129=>154|294=>144|295=>145|296=>146|297=>147|298=>148|299=>149|216=>150|300=>151|301=>152|328=>172|329=>173|330=>174|331=>175|332=>176|215=>177|343=>189|n=>n,fun|28=>24|3=>3|46=>151|0=>0|51=>84|53=>34|4=>4|183=>227|182=>226|131=>122|5=>5|9=>9|218=>287|222=>291|228=>323|229=>324|n=>n,fun|n=>n⟩
theorem Tryz.OI:Go.Proofs.Lays.n189 Tryz.prog Tryz.LW:={
 mixed:=by kernel_rfl
 f125:=Tryz.func101.trans (anP some (by kernel_rfl))
 f128:=Tryz.func153.trans (anP some (by kernel_rfl))
 f129:=Tryz.func154.trans (anP some (by kernel_rfl))
 f189:=Tryz.func62.trans (anP some (by kernel_rfl))
 f215:=Tryz.func177.trans (anP some (by kernel_rfl))
 f216:=Tryz.func150.trans (anP some (by kernel_rfl))
 f257:=Tryz.func100.trans (anP some (by kernel_rfl))
 f294:=Tryz.func144.trans (anP some (by kernel_rfl))
 f295:=Tryz.func145.trans (anP some (by kernel_rfl))
 f296:=Tryz.func146.trans (anP some (by kernel_rfl))
 f297:=Tryz.func147.trans (anP some (by kernel_rfl))
 f298:=Tryz.func148.trans (anP some (by kernel_rfl))
 f299:=Tryz.func149.trans (anP some (by kernel_rfl))
 f300:=Tryz.func151.trans (anP some (by kernel_rfl))
 f301:=Tryz.func152.trans (anP some (by kernel_rfl))
 f328:=Tryz.func172.trans (anP some (by kernel_rfl))
 f329:=Tryz.func173.trans (anP some (by kernel_rfl))
 f330:=Tryz.func174.trans (anP some (by kernel_rfl))
 f331:=Tryz.func175.trans (anP some (by kernel_rfl))
 f332:=Tryz.func176.trans (anP some (by kernel_rfl))
 f343:=Tryz.func189.trans (anP some (by kernel_rfl))
 t0:=Tryz.underlying0
 a0:=Tryz.isAgg0
 z0:=Tryz.sizeOf0
 v0:=Tryz.zeroValue0
 t3:=Tryz.underlying3
 a3:=Tryz.isAgg3
 z3:=Tryz.sizeOf3
 v3:=Tryz.zeroValue3
 t4:=Tryz.underlying4
 a4:=Tryz.isAgg4
 z4:=Tryz.sizeOf4
 v4:=Tryz.zeroValue4
 t5:=Tryz.underlying5
 a5:=Tryz.isAgg5
 z5:=Tryz.sizeOf5
 v5:=Tryz.zeroValue5
 t9:=Tryz.underlying9
 a9:=Tryz.isAgg9
 z9:=Tryz.sizeOf9
 v9:=Tryz.zeroValue9
 t28:=Tryz.underlying24
 a28:=Tryz.isAgg24
 z28:=Tryz.sizeOf24
 v28:=Tryz.zeroValue24
 t46:=Tryz.underlying151
 a46:=Tryz.isAgg151
 z46:=Tryz.sizeOf151
 v46:=Tryz.zeroValue151
 t51:=Tryz.underlying84
 a51:=Tryz.isAgg84
 z51:=Tryz.sizeOf84
 v51:=Tryz.zeroValue84
 t53:=Tryz.underlying34
 a53:=Tryz.isAgg34
 z53:=Tryz.sizeOf34
 v53:=Tryz.zeroValue34
 t131:=Tryz.underlying122
 a131:=Tryz.isAgg122
 z131:=Tryz.sizeOf122
 v131:=Tryz.zeroValue122
 t182:=Tryz.underlying226
 a182:=Tryz.isAgg226
 z182:=Tryz.sizeOf226
 v182:=Tryz.zeroValue226
 t183:=Tryz.underlying227
 a183:=Tryz.isAgg227
 z183:=Tryz.sizeOf227
 v183:=Tryz.zeroValue227
 t218:=Tryz.underlying287
 a218:=Tryz.isAgg287
 z218:=Tryz.sizeOf287
 v218:=Tryz.zeroValue287
 t222:=Tryz.underlying291
 a222:=Tryz.isAgg291
 z222:=Tryz.sizeOf291
 v222:=Tryz.zeroValue291
 t228:=Tryz.underlying323
 a228:=Tryz.isAgg323
 z228:=Tryz.sizeOf323
 v228:=Tryz.zeroValue323
 t229:=Tryz.underlying324
 a229:=Tryz.isAgg324
 z229:=Tryz.sizeOf324
 v229:=Tryz.zeroValue324}
open Go.Sort Go.RowKit in
theorem Tryz.slices_Sort_int(Dy off cap:Nat)(zs:List Int)(w:World)(hH:Holds (Value.int .i64) w Dy off zs.toArray)(agZ:Dy<w.heap.size)(Pp:zs.length<4611686018427387904):
  Calls Tryz.prog 62 #[.slice (some ⟨Dy,off,none⟩) zs.length cap] w fun e w'=>
   e= .returned (.tuple #[])∧∃n os,w'=grow (putRow (Value.int .i64) (Sort.ahead w n) Dy off (zs.mergeSort fun x y=>decide (x≤y)).toArray) os:=Any.slices_Sort_int Tryz.OI Dy off cap zs w hH agZ Pp
open Go.RowKit Go.Sort in
theorem Tryz.slices_Sort_int_none(p:Option Addr)(cap:Nat)(w:World):
  Calls Tryz.prog 62 #[.slice p 0 cap] w fun e w'=>e= .returned (.tuple #[])∧w'=w:=Any.slices_Sort_int_none Tryz.OI p cap w
end Go.Proofs
