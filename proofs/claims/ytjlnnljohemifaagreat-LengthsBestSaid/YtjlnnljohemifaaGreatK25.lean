/- Texts put behind each other. -/
import Derived.Test.YtjlnnljohemifaaGreatK98
import Derived.Test.YtjlnnljohemifaaGreatK19
import Derived.Test.YtjlnnljohemifaaGreatK20
import Derived.Test.YtjlnnljohemifaaGreatK23
import Derived.Shelf.Spec.BitsCarry
set_option linter.unusedVariables false
set_option linter.unusedSimpArgs false
namespace Go.Proofs.YtjlnnljohemifaaGreat
open Go Go.Vc
theorem Qw(x y c:Nat)(hc:c≤1)(hx:x<18446744073709551616)(hy:y<18446744073709551616)(w:World):
  (callFunc 58 [u64 (x:Int),u64 (y:Int),u64 (c:Int)].toArray).run Tryz.prog w=
   .ok (.value (.tuple [u64 (((x+y+c)%18446744073709551616:Nat):Int),u64 (((x+y+c) / 18446744073709551616:Nat):Int)].toArray)) w:=by
 show(callFunc 58 #[.int .u64 x,.int .u64 y,.int .u64 c]).run Tryz.prog w=_
 rw[run_callFunc_extern Tryz.func58 (by kernel_rfl) (by kernel_rfl) (by kernel_rfl) (e:=add64Entry) (by kernel_rfl),run_add64 x y c (by omega) (by omega) (by omega) (by omega)]
 simp only[Result.andThen]
 congr 5<;>omega
theorem Bl(s t:Int×Nat)(H:Hp):ah Tryz.prog E4 [I4 s,I4 t] H fun v H'=>ay (v=i64 (Fs s.1 s.2 t.1 t.2)∧ax H H'):=by
 refine be Fb ⟨rfl,?_⟩
 simp(disch:=(first|omega| (simp only[Zs]<;>omega)|fail)) only[go_sem, ↓reduceIte,Zv,oz,I4]
 refine⟨_,(lS s.1 t.1 _).mono fun _ _ h=>⟨h.out.1,h.out.2.symm⟩,?_⟩
 refine(kG s.2 t.2 _).mono ?_
 rintro _ _ ⟨rfl,rfl⟩
 refine vs ?_
 refine(vh (n:=2) (xs:=[xg s.1 t.1,xg s.2 t.2]) (Sl.dE (size:=1) rfl (by simp only[au])).rd (by omega) ⟨_,_,rfl⟩).mono ?_
 rintro _ _ ⟨rfl,rfl⟩
 exact⟨rfl,(((ai.refl _ _).new _ _).new _ _).new _ _⟩
end Go.Proofs.YtjlnnljohemifaaGreat
