/- Texts put behind each other. -/
import Derived.Test.YthpjfeolagohkaaGreatK98
import Derived.Shelf.Strings.Builder1
import Derived.Shelf.Sort.Plain
import Derived.Shelf.Bits.Mul64
import Derived.Shelf.Strings.Repeat
import Derived.Shelf.Slices.In.SortNone
import Derived.Shelf.SlSortCmp.Whole1
import Derived.Test.YthpjfeolagohkaaGreatProg
set_option maxRecDepth 100000
set_option maxHeartbeats 8000000
set_option linter.unusedVariables false
namespace Go.Proofs
open Go.Shelf
def Tryz.Ng:Go.Shelf.Ren:=⟨fun|189=>29|125=>56|257=>55|128=>109|129=>110|294=>100|295=>101|296=>102|297=>103|298=>104|299=>105|216=>106|300=>107|301=>108|328=>131|329=>132|330=>133|331=>134|332=>135|215=>136|343=>148|n=>n,fun|28=>30|3=>3|46=>102|0=>0|51=>59|53=>115|4=>4|183=>190|182=>189|131=>119|5=>5|9=>9|218=>255|222=>259|228=>287|229=>288|n=>n,fun|n=>n⟩
theorem Tryz.P9:Go.Proofs.Lays.n189 Tryz.prog Tryz.Ng:={
 mixed:=by kernel_rfl
 f125:=Tryz.func56.trans (aqv some (by kernel_rfl))
 f128:=Tryz.func109.trans (aqv some (by kernel_rfl))
 f129:=Tryz.func110.trans (aqv some (by kernel_rfl))
 f189:=Tryz.func29.trans (aqv some (by kernel_rfl))
 f215:=Tryz.func136.trans (aqv some (by kernel_rfl))
 f216:=Tryz.func106.trans (aqv some (by kernel_rfl))
 f257:=Tryz.func55.trans (aqv some (by kernel_rfl))
 f294:=Tryz.func100.trans (aqv some (by kernel_rfl))
 f295:=Tryz.func101.trans (aqv some (by kernel_rfl))
 f296:=Tryz.func102.trans (aqv some (by kernel_rfl))
 f297:=Tryz.func103.trans (aqv some (by kernel_rfl))
 f298:=Tryz.func104.trans (aqv some (by kernel_rfl))
 f299:=Tryz.func105.trans (aqv some (by kernel_rfl))
 f300:=Tryz.func107.trans (aqv some (by kernel_rfl))
 f301:=Tryz.func108.trans (aqv some (by kernel_rfl))
 f328:=Tryz.func131.trans (aqv some (by kernel_rfl))
 f329:=Tryz.func132.trans (aqv some (by kernel_rfl))
 f330:=Tryz.func133.trans (aqv some (by kernel_rfl))
 f331:=Tryz.func134.trans (aqv some (by kernel_rfl))
 f332:=Tryz.func135.trans (aqv some (by kernel_rfl))
 f343:=Tryz.func148.trans (aqv some (by kernel_rfl))
 t0:=Tryz.underlying0
 a0:=Tryz.isAgg0
 z0:=Tryz.sizeOf0
 v0:=Tryz.zeroValue0
 t3:=Tryz.underlying3
 a3:=Tryz.isAgg3
 z3:=Tryz.sizeOf3
 v3:=Tryz.zeroValue3
 t4:=Tryz.underlying4
 a4:=Tryz.isAgg4
 z4:=Tryz.sizeOf4
 v4:=Tryz.zeroValue4
 t5:=Tryz.underlying5
 a5:=Tryz.isAgg5
 z5:=Tryz.sizeOf5
 v5:=Tryz.zeroValue5
 t9:=Tryz.underlying9
 a9:=Tryz.isAgg9
 z9:=Tryz.sizeOf9
 v9:=Tryz.zeroValue9
 t28:=Tryz.underlying30
 a28:=Tryz.isAgg30
 z28:=Tryz.sizeOf30
 v28:=Tryz.zeroValue30
 t46:=Tryz.underlying102
 a46:=Tryz.isAgg102
 z46:=Tryz.sizeOf102
 v46:=Tryz.zeroValue102
 t51:=Tryz.underlying59
 a51:=Tryz.isAgg59
 z51:=Tryz.sizeOf59
 v51:=Tryz.zeroValue59
 t53:=Tryz.underlying115
 a53:=Tryz.isAgg115
 z53:=Tryz.sizeOf115
 v53:=Tryz.zeroValue115
 t131:=Tryz.underlying119
 a131:=Tryz.isAgg119
 z131:=Tryz.sizeOf119
 v131:=Tryz.zeroValue119
 t182:=Tryz.underlying189
 a182:=Tryz.isAgg189
 z182:=Tryz.sizeOf189
 v182:=Tryz.zeroValue189
 t183:=Tryz.underlying190
 a183:=Tryz.isAgg190
 z183:=Tryz.sizeOf190
 v183:=Tryz.zeroValue190
 t218:=Tryz.underlying255
 a218:=Tryz.isAgg255
 z218:=Tryz.sizeOf255
 v218:=Tryz.zeroValue255
 t222:=Tryz.underlying259
 a222:=Tryz.isAgg259
 z222:=Tryz.sizeOf259
 v222:=Tryz.zeroValue259
 t228:=Tryz.underlying287
 a228:=Tryz.isAgg287
 z228:=Tryz.sizeOf287
 v228:=Tryz.zeroValue287
 t229:=Tryz.underlying288
 a229:=Tryz.isAgg288
 z229:=Tryz.sizeOf288
 v229:=Tryz.zeroValue288}
open Go.Sort Go.RowKit in
theorem Tryz.slices_Sort_int(tS off cap:Nat)(zs:List Int)(w:World)(hH:Holds (Value.int .i64) w tS off zs.toArray)(hblk:tS<w.heap.size)(QJ:zs.length<4611686018427387904):
  Calls Tryz.prog 29 #[.slice (some ⟨tS,off,none⟩) zs.length cap] w fun e w'=>
   e= .returned (.tuple #[])∧∃n os,w'=grow (putRow (Value.int .i64) (Sort.ahead w n) tS off (zs.mergeSort fun x y=>decide (x≤y)).toArray) os:=Any.slices_Sort_int Tryz.P9 tS off cap zs w hH hblk QJ
open Go.RowKit Go.Sort in
theorem Tryz.slices_Sort_int_none(p:Option Addr)(cap:Nat)(w:World):
  Calls Tryz.prog 29 #[.slice p 0 cap] w fun e w'=>e= .returned (.tuple #[])∧w'=w:=Any.slices_Sort_int_none Tryz.P9 p cap w
end Go.Proofs
