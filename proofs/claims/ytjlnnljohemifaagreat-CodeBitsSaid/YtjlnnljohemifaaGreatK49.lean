/- Texts put behind each other. -/
import Derived.Test.YtjlnnljohemifaaGreatK98
import Derived.Test.YtjlnnljohemifaaGreatK7
import Derived.Shelf.Strings.Builder1
import Derived.Shelf.Sort.Plain
import Derived.Shelf.Bits.Mul64
import Derived.Shelf.Strings.Repeat
import Derived.Shelf.Slices.In.SortNone
import Derived.Shelf.SlSortCmp.Whole1
import Derived.Test.YtjlnnljohemifaaGreatProg
set_option maxRecDepth 100000
set_option maxHeartbeats 8000000
set_option linter.unusedVariables false
namespace Go.Proofs
open Go.Shelf
def Tryz.adB:Go.Shelf.Ren:=⟨fun|169=>92|n=>n,fun|70=>142|9=>9|0=>0|72=>144|37=>75|127=>186|3=>3|5=>5|n=>n,fun|n=>n⟩
theorem Tryz.aik:Go.Proofs.Lays.n169 Tryz.prog Tryz.adB:={
 mixed:=by kernel_rfl
 f169:=Tryz.func92.trans (anP some (by kernel_rfl))
 t0:=Tryz.underlying0
 a0:=Tryz.isAgg0
 z0:=Tryz.sizeOf0
 v0:=Tryz.zeroValue0
 t3:=Tryz.underlying3
 a3:=Tryz.isAgg3
 z3:=Tryz.sizeOf3
 v3:=Tryz.zeroValue3
 t9:=Tryz.underlying9
 a9:=Tryz.isAgg9
 z9:=Tryz.sizeOf9
 v9:=Tryz.zeroValue9
 t37:=Tryz.underlying75
 a37:=Tryz.isAgg75
 z37:=Tryz.sizeOf75
 v37:=Tryz.zeroValue75
 t70:=Tryz.underlying142
 a70:=Tryz.isAgg142
 z70:=Tryz.sizeOf142
 v70:=Tryz.zeroValue142
 t72:=Tryz.underlying144
 a72:=Tryz.isAgg144
 z72:=Tryz.sizeOf144
 v72:=Tryz.zeroValue144
 t127:=Tryz.underlying186
 a127:=Tryz.isAgg186
 z127:=Tryz.sizeOf186
 v127:=Tryz.zeroValue186}
theorem Tryz.ac4:Builder.Extra Tryz.prog Tryz.adB:={
 sizeBuilder:=by kernel_rfl
 liesBuilder:=by kernel_rfl
 t5:=Tryz.underlying5
 a5:=Tryz.isAgg5
 z5:=Tryz.sizeOf5
 v5:=Tryz.zeroValue5
 infoByte:=by kernel_rfl
 cellsByte:=by kernel_rfl
 sizeByte:=by kernel_rfl
 neB5:=by decide}
open Go.RowKit in
theorem Tryz.Builder_String_any(B b:Nat)(l:List UInt8)(w:World)(h:Lib.IsBuilder 144 5 B b (Lib.byteCells l) w)(hBw:B≤w.heap.size):
  Calls Tryz.prog 92 #[.pointer (some ⟨b,0,none⟩)] w fun e w'=>e= .returned (.string ⟨l.toArray⟩)∧Below B w w':=Any.Builder_String_any Tryz.aik Tryz.ac4 B b l w h hBw
def Tryz.adC:Go.Shelf.Ren:=⟨fun|105=>93|212=>125|99=>126|165=>127|166=>91|170=>90|169=>92|263=>162|264=>57|206=>163|240=>124|241=>164|276=>161|277=>187|n=>n,fun|9=>9|3=>3|4=>4|20=>20|0=>0|46=>151|109=>187|5=>5|72=>144|76=>147|51=>84|146=>245|53=>34|148=>91|70=>142|37=>75|75=>146|127=>186|164=>243|80=>149|n=>n,fun|n=>n⟩
theorem Tryz.ail:Go.Proofs.Lays.n105 Tryz.prog Tryz.adC:={
 mixed:=by kernel_rfl
 f99:=Tryz.func126.trans (anP some (by kernel_rfl))
 f105:=Tryz.func93.trans (anP some (by kernel_rfl))
 f165:=Tryz.func127.trans (anP some (by kernel_rfl))
 f166:=Tryz.func91.trans (anP some (by kernel_rfl))
 f169:=Tryz.func92.trans (anP some (by kernel_rfl))
 f170:=Tryz.func90.trans (anP some (by kernel_rfl))
 f206:=Tryz.func163.trans (anP some (by kernel_rfl))
 f212:=Tryz.func125.trans (anP some (by kernel_rfl))
 f240:=Tryz.func124.trans (anP some (by kernel_rfl))
 f241:=Tryz.func164.trans (anP some (by kernel_rfl))
 f263:=Tryz.func162.trans (anP some (by kernel_rfl))
 f264:=Tryz.func57.trans (anP some (by kernel_rfl))
 f276:=Tryz.func161.trans (anP some (by kernel_rfl))
 f277:=Tryz.func187.trans (anP some (by kernel_rfl))
 t0:=Tryz.underlying0
 a0:=Tryz.isAgg0
 z0:=Tryz.sizeOf0
 v0:=Tryz.zeroValue0
 t3:=Tryz.underlying3
 a3:=Tryz.isAgg3
 z3:=Tryz.sizeOf3
 v3:=Tryz.zeroValue3
 t4:=Tryz.underlying4
 a4:=Tryz.isAgg4
 z4:=Tryz.sizeOf4
 v4:=Tryz.zeroValue4
 t5:=Tryz.underlying5
 a5:=Tryz.isAgg5
 z5:=Tryz.sizeOf5
 v5:=Tryz.zeroValue5
 t9:=Tryz.underlying9
 a9:=Tryz.isAgg9
 z9:=Tryz.sizeOf9
 v9:=Tryz.zeroValue9
 t20:=Tryz.underlying20
 a20:=Tryz.isAgg20
 z20:=Tryz.sizeOf20
 v20:=Tryz.zeroValue20
 t37:=Tryz.underlying75
 a37:=Tryz.isAgg75
 z37:=Tryz.sizeOf75
 v37:=Tryz.zeroValue75
 t46:=Tryz.underlying151
 a46:=Tryz.isAgg151
 z46:=Tryz.sizeOf151
 v46:=Tryz.zeroValue151
 t51:=Tryz.underlying84
 a51:=Tryz.isAgg84
 z51:=Tryz.sizeOf84
 v51:=Tryz.zeroValue84
 t53:=Tryz.underlying34
 a53:=Tryz.isAgg34
 z53:=Tryz.sizeOf34
 v53:=Tryz.zeroValue34
 t70:=Tryz.underlying142
 a70:=Tryz.isAgg142
 z70:=Tryz.sizeOf142
 v70:=Tryz.zeroValue142
 t72:=Tryz.underlying144
 a72:=Tryz.isAgg144
 z72:=Tryz.sizeOf144
 v72:=Tryz.zeroValue144
 t75:=Tryz.underlying146
 a75:=Tryz.isAgg146
 z75:=Tryz.sizeOf146
 v75:=Tryz.zeroValue146
 t76:=Tryz.underlying147
 a76:=Tryz.isAgg147
 z76:=Tryz.sizeOf147
 v76:=Tryz.zeroValue147
 t109:=Tryz.underlying187
 a109:=Tryz.isAgg187
 z109:=Tryz.sizeOf187
 v109:=Tryz.zeroValue187
 t127:=Tryz.underlying186
 a127:=Tryz.isAgg186
 z127:=Tryz.sizeOf186
 v127:=Tryz.zeroValue186
 t146:=Tryz.underlying245
 a146:=Tryz.isAgg245
 z146:=Tryz.sizeOf245
 v146:=Tryz.zeroValue245
 t148:=Tryz.underlying91
 a148:=Tryz.isAgg91
 z148:=Tryz.sizeOf91
 v148:=Tryz.zeroValue91
 t164:=Tryz.underlying243
 a164:=Tryz.isAgg243
 z164:=Tryz.sizeOf243
 v164:=Tryz.zeroValue243}
theorem Tryz.ac5:Builder.Extra Tryz.prog Tryz.adC:={
 sizeBuilder:=by kernel_rfl
 liesBuilder:=by kernel_rfl
 t5:=Tryz.underlying5
 a5:=Tryz.isAgg5
 z5:=Tryz.sizeOf5
 v5:=Tryz.zeroValue5
 infoByte:=by kernel_rfl
 cellsByte:=by kernel_rfl
 sizeByte:=by kernel_rfl
 neB5:=by decide}
open Go.RowKit Go.Lib in
theorem Tryz.strings_Repeat(s:ByteArray)(c:Nat)(w:World)(hc:c≤9223372036854775807)(aX:s.size*c≤140737488355328):
  Calls Tryz.prog 93 #[.string s,.int .i64 c] w fun e w'=>e= .returned (.string ⟨(Lib.repeatL s.data.toList c).toArray⟩)∧Below w.heap.size w w':=Any.strings_Repeat Tryz.ail Tryz.ac5 s c w hc aX
def Tryz.ac6:Go.Shelf.Ren:=⟨fun|6=>118|15=>101|14=>159|28=>153|29=>154|20=>179|21=>180|22=>181|23=>182|24=>183|25=>184|26=>185|27=>186|46=>190|47=>173|48=>174|49=>191|50=>192|57=>193|n=>n,fun|22=>24|24=>3|25=>181|3=>3|39=>151|0=>0|53=>84|55=>34|4=>4|46=>227|45=>226|50=>122|5=>5|9=>9|66=>287|70=>291|76=>323|77=>324|n=>n,fun|n=>n⟩
theorem Tryz.aeD:Go.Proofs.SlLaysF.n6 Tryz.prog Tryz.ac6:={
 mixed:=by kernel_rfl
 f6:=⟨Tryz.f118.name,by decide,Tryz.func118.trans (anP some (by kernel_rfl))⟩
 f14:=⟨Tryz.f159.name,by decide,Tryz.func159.trans (anP some (by kernel_rfl))⟩
 f15:=Tryz.func101.trans (anP some (by kernel_rfl))
 f20:=⟨Tryz.f179.name,by decide,Tryz.func179.trans (anP some (by kernel_rfl))⟩
 f21:=⟨Tryz.f180.name,by decide,Tryz.func180.trans (anP some (by kernel_rfl))⟩
 f22:=⟨Tryz.f181.name,by decide,Tryz.func181.trans (anP some (by kernel_rfl))⟩
 f23:=⟨Tryz.f182.name,by decide,Tryz.func182.trans (anP some (by kernel_rfl))⟩
 f24:=⟨Tryz.f183.name,by decide,Tryz.func183.trans (anP some (by kernel_rfl))⟩
 f25:=⟨Tryz.f184.name,by decide,Tryz.func184.trans (anP some (by kernel_rfl))⟩
 f26:=⟨Tryz.f185.name,by decide,Tryz.func185.trans (anP some (by kernel_rfl))⟩
 f27:=⟨Tryz.f186.name,by decide,Tryz.func186.trans (anP some (by kernel_rfl))⟩
 f28:=Tryz.func153.trans (anP some (by kernel_rfl))
 f29:=Tryz.func154.trans (anP some (by kernel_rfl))
 f46:=⟨Tryz.f190.name,by decide,Tryz.func190.trans (anP some (by kernel_rfl))⟩
 f47:=Tryz.func173.trans (anP some (by kernel_rfl))
 f48:=Tryz.func174.trans (anP some (by kernel_rfl))
 f49:=⟨Tryz.f191.name,by decide,Tryz.func191.trans (anP some (by kernel_rfl))⟩
 f50:=⟨Tryz.f192.name,by decide,Tryz.func192.trans (anP some (by kernel_rfl))⟩
 f57:=⟨Tryz.f193.name,by decide,Tryz.func193.trans (anP some (by kernel_rfl))⟩
 t0:=Tryz.underlying0
 a0:=Tryz.isAgg0
 z0:=Tryz.sizeOf0
 v0:=Tryz.zeroValue0
 t3:=Tryz.underlying3
 a3:=Tryz.isAgg3
 z3:=Tryz.sizeOf3
 v3:=Tryz.zeroValue3
 t4:=Tryz.underlying4
 a4:=Tryz.isAgg4
 z4:=Tryz.sizeOf4
 v4:=Tryz.zeroValue4
 t5:=Tryz.underlying5
 a5:=Tryz.isAgg5
 z5:=Tryz.sizeOf5
 v5:=Tryz.zeroValue5
 t9:=Tryz.underlying9
 a9:=Tryz.isAgg9
 z9:=Tryz.sizeOf9
 v9:=Tryz.zeroValue9
 t22:=Tryz.underlying24
 a22:=Tryz.isAgg24
 z22:=Tryz.sizeOf24
 v22:=Tryz.zeroValue24
 a24:=Tryz.isAgg3
 z24:=Tryz.sizeOf3
 t25:=Tryz.underlying181
 a25:=Tryz.isAgg181
 z25:=Tryz.sizeOf181
 v25:=Tryz.zeroValue181
 t39:=Tryz.underlying151
 a39:=Tryz.isAgg151
 z39:=Tryz.sizeOf151
 v39:=Tryz.zeroValue151
 t45:=Tryz.underlying226
 a45:=Tryz.isAgg226
 z45:=Tryz.sizeOf226
 v45:=Tryz.zeroValue226
 t46:=Tryz.underlying227
 a46:=Tryz.isAgg227
 z46:=Tryz.sizeOf227
 v46:=Tryz.zeroValue227
 t50:=Tryz.underlying122
 a50:=Tryz.isAgg122
 z50:=Tryz.sizeOf122
 v50:=Tryz.zeroValue122
 t53:=Tryz.underlying84
 a53:=Tryz.isAgg84
 z53:=Tryz.sizeOf84
 v53:=Tryz.zeroValue84
 t55:=Tryz.underlying34
 a55:=Tryz.isAgg34
 z55:=Tryz.sizeOf34
 v55:=Tryz.zeroValue34
 t66:=Tryz.underlying287
 a66:=Tryz.isAgg287
 z66:=Tryz.sizeOf287
 v66:=Tryz.zeroValue287
 t70:=Tryz.underlying291
 a70:=Tryz.isAgg291
 z70:=Tryz.sizeOf291
 v70:=Tryz.zeroValue291
 t76:=Tryz.underlying323
 a76:=Tryz.isAgg323
 z76:=Tryz.sizeOf323
 v76:=Tryz.zeroValue323
 t77:=Tryz.underlying324
 a77:=Tryz.isAgg324
 z77:=Tryz.sizeOf324
 v77:=Tryz.zeroValue324}
open Go.RowKit Go.Lib Go.Sort in
theorem Tryz.slices_SortFunc{α:Type}[Inhabited α](enc:α→Value)(h1:OneCell enc)(fH:α→α→Int)(hO:SWO (ltOf fH))(g:Nat)(cb:Array Value)(Dy off cap:Nat)(d:Array α)(w:World)(eg:∀args w,(callFunc g args).run Tryz.prog w= .ok (.enter g args) w)(aiV:CmpLays1 Tryz.prog g cb enc fH Dy off d.size w)(hH:Holds enc w Dy off d)(agZ:Dy<w.heap.size)(Pp:d.size<4611686018427387904):
  Calls Tryz.prog 118 #[.slice (some ⟨Dy,off,none⟩) d.size cap,.func (.func g) #[] cb] w fun e w'=>
   e= .returned (.tuple #[])∧∃d' n os,PermIn 0 d.size d d'∧SortedIn (ltOf fH) 0 d.size d'∧w'=sortWorld enc w Dy off n d' os:=Any.slices_SortFunc Tryz.aeD enc h1 fH hO g cb Dy off cap d w eg aiV hH agZ Pp
end Go.Proofs
