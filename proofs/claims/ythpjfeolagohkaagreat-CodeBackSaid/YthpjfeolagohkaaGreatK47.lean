/- Texts put behind each other. -/
import Derived.Test.YthpjfeolagohkaaGreatK98
import Derived.Test.YthpjfeolagohkaaGreatK6
import Derived.Test.YthpjfeolagohkaaGreatK20
import Derived.Test.YthpjfeolagohkaaGreatK23
import Derived.Test.YthpjfeolagohkaaGreatK37
import Derived.Test.YthpjfeolagohkaaGreatK44
import Derived.Test.YthpjfeolagohkaaGreatK45
set_option maxRecDepth 100000
set_option maxHeartbeats 8000000
set_option linter.unusedVariables false
set_option linter.unusedSimpArgs false
namespace Go.Proofs.YthpjfeolagohkaaGreat
open Go Go.Vc
def ada(ws ls:List Int):Prop:=ws.length=ls.length∧ws.length≤4096∧∀i,i<ws.length→1≤ws.getD i 0∧0≤ls.getD i 0∧ls.getD i 0≤4096
instance(ws ls:List Int):Decidable (ada ws ls):=by unfold ada;exact inferInstance
def WB(ws ls:List Int):Int:=kW ws.length fun i=>ws.getD i 0*ls.getD i 0
theorem VA{ws:List Int}(h:gG ws):∀x∈kQ ws,1≤x∧x≤4096:=by
 have h1:=h.n1
 have h2:=h.n2
 intro x hx
 unfold kQ at hx
 split at hx
 ·have:x=1:=by simpa using hx
  omega
 ·obtain⟨n,hn,rfl⟩:=ao8.1 hx
  have:=Jc h1 n hn
  have:=KM (by omega) n hn
  omega
def TG(ws ls:List Int):Prop:=gG ws∧ws.length=ls.length∧(∀x∈ls,1≤x∧x≤4096)∧Iv 4096 (On ls)≤0∧WB ws ls=WB ws (kQ ws)
instance(ws ls:List Int):Decidable (TG ws ls):=by unfold TG;exact inferInstance
theorem VB{ws:List Int}(h1:2≤ws.length):On (kQ ws)=Fc ws:=by
 unfold kQ
 rw[if_neg (by omega)]
 unfold On
 rw[apE]
 conv=>rhs;rw[←List.map_id (Fc ws)]
 refine apu fun n hn=>?_
 have:=KM h1 n hn
 show(kR (n:Int)).toNat=n
 unfold kR
 omega
theorem VC{ws:List Int}(hF:gG ws){M:Nat}(hM:∀n∈On (kQ ws),n≤M):Iv M (On (kQ ws))≤0∧(2≤ws.length→Iv M (On (kQ ws))=0):=by
 have h1:=hF.n1
 by_cases h2:2≤ws.length
 ·have:Iv M (On (kQ ws))=0:=by
   rw[VB h2]at hM ⊢
   rw[Oz (M':=ws.length) hM (fun n hn=>by have:=Jc h1 n hn;omega)]
   unfold Iv
   rw[Pv h1,if_neg (by omega),if_pos rfl]
  exact⟨by omega,fun _=>this⟩
 ·refine⟨?_,fun h=>absurd h h2⟩
  have e:On (kQ ws)=[1]:=by unfold kQ;rw[if_pos (by omega)];rfl
  rw[e]at hM ⊢
  rw[Oz (M':=1) hM (by simp)]
  decide
end Go.Proofs.YthpjfeolagohkaaGreat
