/- Texts put behind each other. -/
import Derived.Test.YtjlnnljohemifaaGreatK98
import Derived.Test.YtjlnnljohemifaaGreatK5
import Derived.Test.YtjlnnljohemifaaGreatK6
import Derived.Test.YtjlnnljohemifaaGreatK8
import Derived.Test.YtjlnnljohemifaaGreatK9
import Derived.Test.YtjlnnljohemifaaGreatK10
import Derived.Test.YtjlnnljohemifaaGreatK11
import Derived.Test.YtjlnnljohemifaaGreatK12
import Derived.Test.YtjlnnljohemifaaGreatK13
import Derived.Laws.Cells
set_option maxRecDepth 100000
set_option maxHeartbeats 8000000
set_option linter.unusedVariables false
namespace Go.Vc
theorem ac7(H:Hp)(T:TypeId)(l:List Value):(H.Mt T l).BD H.size=some l:=by simp[Hp.BD,Hp.Mt]
theorem ahm{H H':Hp}{b:Nat}(h:H'[b]? =H[b]?):H'.BD b=H.BD b:=by unfold Hp.BD;rw[h]
theorem ag.Mt{S:Nat→Prop}{A H:Hp}(h:ag S A H)(T:TypeId)(l:List Value):ag S A (H.Mt T l):=
 ⟨by rw[OY];exact Nat.le_succ_of_le h.size,fun c hc hn=>(Kj H T l (anT hc h.size)).trans (h.aM c hc hn)⟩
theorem ag.BD{S:Nat→Prop}{H H':Hp}(h:ag S H H'){b:Nat}{l:List Value}(hb:H.BD b=some l)(hn:¬S b):H'.BD b=some l:=
 (ahm (h.aM b (NY (Qn hb)) hn)).trans hb
end Go.Vc

set_option linter.unusedSimpArgs false
namespace Go.Vc
theorem agq{n:Int}(h0:0≤n)(h1:n≤255):IntKind.u8.wrap n=n:=by
 have e:(2^IntKind.u8.bits:Int)=256:=rfl
 unfold IntKind.wrap
 simp only[e,IntKind.signed,apr]
 rw[if_neg (by simp)];omega
end Go.Vc

namespace Go.Vc
theorem am.amY{P:Program}{b:Bool}{A B:S}{env:Env}{H:Hp}{Kn:Env→Hp→Prop}{Kx:Nat→Env→Hp→Prop}{Kr:Env→Hp→Prop}(I:Env→Hp→Prop)
  (ht:b=true→vc P A env H I Kx Kr)(hf:b=false→vc P B env H I Kx Kr)(k:∀e h,I e h→Kn e h):
  am b fun t=>E9 t (vc P A env H Kn Kx Kr) (vc P B env H Kn Kx Kr):=by
 cases b
 ·exact Dd B env H _ _ _ _ _ _ k (fun _ _ _ h=>h) (fun _ _ h=>h) (hf rfl)
 ·exact Dd A env H _ _ _ _ _ _ k (fun _ _ _ h=>h) (fun _ _ h=>h) (ht rfl)
theorem am.aj9{P:Program}{p:Prop}[d:Decidable p]{A B:S}{env:Env}{H:Hp}{Kn:Env→Hp→Prop}{Kx:Nat→Env→Hp→Prop}{Kr:Env→Hp→Prop}(I:Env→Hp→Prop)
  (ht:p→vc P A env H I Kx Kr)(hf:¬p→vc P B env H I Kx Kr)(k:∀e h,I e h→Kn e h):
  am (decide p) fun t=>E9 t (vc P A env H Kn Kx Kr) (vc P B env H Kn Kx Kr):=
 am.amY I (fun h=>ht (of_decide_eq_true h)) (fun h=>hf (of_decide_eq_false h)) k
end Go.Vc
