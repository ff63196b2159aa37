/- Texts put behind each other. -/
import Derived.Test.YtjlnnljohemifaaGreatK98
import Derived.Test.YtjlnnljohemifaaGreatK5
import Derived.Test.YtjlnnljohemifaaGreatK6
import Derived.Test.YtjlnnljohemifaaGreatK8
import Derived.Test.YtjlnnljohemifaaGreatK9
import Derived.Test.YtjlnnljohemifaaGreatK10
import Derived.Test.YtjlnnljohemifaaGreatK11
import Derived.Test.YtjlnnljohemifaaGreatK12
import Derived.Test.YtjlnnljohemifaaGreatK13
import Derived.Test.YtjlnnljohemifaaGreatK15
import Derived.Test.YtjlnnljohemifaaGreatK50
import Derived.Test.YtjlnnljohemifaaGreatProg
import Derived.Test.YtjlnnljohemifaaGreatChecked
import Derived.Eval
import Derived.KernelRfl
set_option maxRecDepth 100000
set_option maxHeartbeats 8000000
namespace Go.Vc
end Go.Vc
namespace Go.Proofs.YtjlnnljohemifaaGreat
open Go Go.Vc
abbrev adn:Nat:=12
abbrev ac8:Nat:=14
abbrev adG:Nat:=20
abbrev aeE:Nat:=25
abbrev ac9:Nat:=42
abbrev ae1:Nat:=43
abbrev afz:Nat:=44
abbrev abT:Nat:=45
abbrev abU:Nat:=46
abbrev adD:Nat:=48
abbrev ado:Nat:=50
abbrev adY:Nat:=52
abbrev adp:Nat:=54
abbrev agr:Nat:=88
abbrev ae2:Nat:=89
abbrev aae:Nat:=90
abbrev aar:Nat:=91
abbrev L8:Nat:=97
abbrev ada:Nat:=117
abbrev aaw:Nat:=118
abbrev aaI:Nat:=119
abbrev aeF:Nat:=120
abbrev adb:Nat:=121
abbrev T0:Nat:=122
abbrev aaT:Nat:=123
abbrev aat:Nat:=160
def adq:=bA [[1,2,3],[1,2,3,14],[6],[1,2,3,42],[6],[2,7,8],[2,7,54],[6],[2,7,55],[2,7,55],[2,7,55,56],[2,7,9,10,55],[2,7,9,55,64],[2,11,12],[6],[2,7,55],[2,7,55],[6]]
def ade:=bA [[1,2],[1,2,6],[1,2,6,16],[4,5],[1,2,20],[4,5],[1,2,7],[1,2,7,24],[4,5],[1,7,8,9],[1,7,8,9,33],[4,5],[7,10],[7,10,11],[7,10,11,12],[7,10,11,12],[7,10,11,12,45],[7,10,11,12],[7,10,11,12],[4,5]]
def adH:=bA [[0],[3],[3,12,13],[3,12,13],[3,12,13,14],[3,4,12,13],[3,12,13],[3,12,13],[3],[3,5,6],[3,5,6,27,28,29],[3,5,6,27,28,29],[3,5,6,27,28,29,30],[3,5,6,8,27,28,29],[3,5,6,8,27,28,29],[3,5,6,8,27,28,29,45],[3,5,6,8,27,28,29],[3,5,6,8,27,28,29],[3,5,6,27,28,29],[3,5,6,27,28,29,52],[2],[3,5,6,27,28,29],[3,5,6,27,28,29],[57],[2],[2]]
def aeG:=bA [[0],[0,3],[0,3,6,7,8],[0,3,6,7,8],[0,3,6,7,8,9],[0,3,5,6,7,8],[0,3,5,6,7,8,18],[2],[0,3,6,7,8],[0,3,6,7,8],[2]]
end Go.Proofs.YtjlnnljohemifaaGreat
