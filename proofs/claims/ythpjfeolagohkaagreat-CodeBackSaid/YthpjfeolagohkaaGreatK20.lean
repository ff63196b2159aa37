/- Texts put behind each other. -/
import Derived.Test.YthpjfeolagohkaaGreatK98
import Derived.Test.YthpjfeolagohkaaGreatK19
set_option maxRecDepth 100000
set_option maxHeartbeats 8000000
set_option linter.unusedVariables false
set_option linter.unusedSimpArgs false
namespace Go.Proofs.YthpjfeolagohkaaGreat
open Go Go.Vc
def cQ(d:Int):Prop:=2≤d∧d≤16
instance(d:Int):Decidable (cQ d):=inferInstanceAs (Decidable (_∧_))
theorem mX(d:Int)(H:Hp):af Tryz.prog Ls [i64 d] H fun v H'=>ar (v= .bool (decide (cQ d))∧H=H'):=by
 refine aZ LA ?_
 refine vs ?_
 refine ai.dec (fun h=>?_) (fun h=>?_)<;>refine vs ?_
 ·exact⟨aoD Value.bool (by rw[decide_eq_decide];unfold cQ;omega),rfl⟩
 ·exact⟨aoD Value.bool (aoK (by unfold cQ;omega)).symm,rfl⟩
def aW(d i:Int):Option Int:=if cQ d∧1≤i then some ((i - 1) / d)else none
def NE(o:Option Int):Value:=match o with|some n=>.tuple [i64 n,.bool true].toArray|none=>.tuple [i64 0,.bool false].toArray
theorem eQ{d i p:Int}(h:aW d i=some p):0≤p∧p<i:=by
 unfold aW at h
 split at h
 ·rename_i hc
  injection h with h
  have h0:=hc.1.1
  have:0≤(i - 1) / d:=Int.ediv_nonneg (by omega) (by omega)
  have h1:(i - 1) / d≤i - 1:=Int.ediv_le_self _ (by omega)
  omega
 ·cases h
theorem Sh{d i:Int}(hd:2≤d)(h1:1≤i)(hi:i≤9223372036854775807):IntKind.i64.wrap ((i - 1).tdiv d)=(i - 1) / d:=by
 rw[Int.tdiv_eq_ediv_of_nonneg (by omega)]
 have:0≤(i - 1) / d:=Int.ediv_nonneg (by omega) (by omega)
 have h1:(i - 1) / d≤i - 1:=Int.ediv_le_self _ (by omega)
 exact wrap64 (by omega) (by omega)
theorem CH(d i:Int)(hi:i≤9223372036854775807)(H:Hp):af Tryz.prog Hr [i64 d,i64 i] H fun v H'=>ar (v=NE (aW d i)∧H=H'):=by
 refine aZ HD ?_
 refine vs ?_
 refine(mX d H).mono ?_
 rintro _ _ ⟨rfl,rfl⟩
 refine vs ?_
 refine ai.dec (fun hf=>?_) (fun hf=>?_)<;>refine vs ?_
 ·refine ai.dec (fun h1=>?_) (fun h1=>?_)<;>refine vs ?_
  ·exact⟨by rw[aW,if_neg (by omega)];rfl,rfl⟩
  ·have h0:=hf.1
   rw[if_neg (by omega),wrap64 (n:=i - 1) (by omega) (by omega),Sh hf.1 (by omega) hi]
   refine vs ?_
   exact⟨by rw[aW,if_pos ⟨hf,by omega⟩];rfl,rfl⟩
 ·exact⟨by rw[aW,if_neg (fun h=>hf h.1)];rfl,rfl⟩
def rl(d i k:Int):Option Int:=if cQ d∧0≤i∧i≤1099511627776∧1≤k∧k≤d then some (d*i+k)else none
theorem rq{d i k:Int}(hf:cQ d)(h0:0≤i)(h1:i≤1099511627776)(hk:1≤k)(hd:k≤d):0≤d*i∧d*i≤17592186044416:=by
 obtain⟨a,b⟩:=hf
 refine⟨ap9 (by omega) h0,?_⟩
 have:d*i≤16*i:=ap4 b h0
 omega
theorem r7(d i k:Int)(H:Hp):af Tryz.prog Jx [i64 d,i64 i,i64 k] H fun v H'=>ar (v=NE (rl d i k)∧H=H'):=by
 refine aZ JF ?_
 refine vs ?_
 refine(mX d H).mono ?_
 rintro _ _ ⟨rfl,rfl⟩
 refine vs ?_
 refine ai.dec (fun hf=>?_) (fun hf=>?_)<;>refine vs ?_
 ·refine ai.dec (fun h1=>?_) (fun h1=>?_)<;>refine vs ?_
  ·exact⟨by rw[rl,if_neg (by omega)];rfl,rfl⟩
  ·refine ai.dec (fun h2=>?_) (fun h2=>?_)<;>refine vs ?_
   ·exact⟨by rw[rl,if_neg (by omega)];rfl,rfl⟩
   ·refine ai.dec (fun h3=>?_) (fun h3=>?_)<;>refine vs ?_
    ·exact⟨by rw[rl,if_neg (by omega)];rfl,rfl⟩
    ·refine ai.dec (fun h4=>?_) (fun h4=>?_)<;>refine vs ?_
     ·exact⟨by rw[rl,if_neg (by omega)];rfl,rfl⟩
     ·have hb:=rq (i:=i) hf (by omega) (by omega) (by omega:1≤k) (by omega:k≤d)
      have hd:=hf.2
      rw[wrap64 (n:=d*i) (by omega) (by omega),wrap64 (by omega) (by omega)]
      exact⟨by rw[rl,if_pos ⟨hf,by omega,by omega,by omega,by omega⟩];rfl,rfl⟩
 ·exact⟨by rw[rl,if_neg (fun h=>hf h.1)];rfl,rfl⟩
def MG(d:Int):Nat→Int→Nat
 |0,_=>0
 |m+1,i=>match aW d i with|some p=>MG d m p+1|none=>0
theorem Si(d:Int):∀ (m m':Nat) (i:Int),i.toNat≤m→i.toNat≤m'→MG d m i=MG d m' i:=by
 intro m
 induction m with
 |zero=>
  intro m' i h _
  have hn:aW d i=none:=by unfold aW;rw[if_neg (by omega)]
  cases m'<;>simp[MG,hn]
 |succ m ih=>
  intro m' i h h'
  cases hp:aW d i with
  |none=>cases m'<;>simp[MG,hp]
  |some p=>
   have hb:=eQ hp
   cases m' with
   |zero=>omega
   |succ m'=>simp only[MG,hp];rw[ih m' p (by omega) (by omega)]
theorem Sj{d i p:Int}(h:aW d i=some p)(m:Nat)(hm:i.toNat≤m):MG d m i=MG d p.toNat p+1:=by
 have hb:=eQ h
 obtain⟨q,hq⟩:∃q,m=q+1:=⟨m - 1,by omega⟩
 subst hq
 simp only[MG,h]
 rw[Si d q p.toNat p (by omega) (by omega)]
theorem r9{d i j:Int}(hd:2≤d)(hi:0≤i)(h1:1≤j)(h2:j≤d):(d*i+j - 1) / d=i:=by
 rw[show d*i+j - 1=(j - 1)+d*i by omega,Int.add_mul_ediv_left _ _ (by omega),Int.ediv_eq_zero_of_lt (by omega) (by omega)]
 omega
theorem UF(o:Option Int):NE o= .tuple [i64 (o.getD 0),.bool o.isSome].toArray:=by cases o<;>rfl
end Go.Proofs.YthpjfeolagohkaaGreat

namespace Go.Vc
open Go
theorem vr{P:Program}(hm:P.follows .mixedOrders=true){f:FuncId}{an:List GZ}{F:Fn}(hd:fk P f an=some F){args:List Value}{H:Hp}{K:Value→Hp→Prop}{nt:Nat}(ht:(P.funcs[f]?).map (·.ntmps)=some nt)(aR:args.length≤nt)
  (h:Go.Vc.vc P F.body (iy 0 args) H (fun env H=>qF env H F.Zw fun vs=>K (Lg vs) H) (fun _ _ _=>False) (fun env H=>qF env H F.Zw fun vs=>K (Lg vs) H)):af P f args H K:=by
 unfold fk at hd
 split at hd
 ·cases hd
 ·rename_i fn hf
  split at hd
  ·cases hd
  ·rename_i c hb
   split at hd
   ·rename_i s hs
    split at hd
    ·rename_i rS
     cases hr:mH P fn.results.toList with
     |none=>rw[hr]at hd;cases hd
     |some rs=>
      rw[hr]at hd
      simp only[Option.map_some,aoz]at hd
      subst hd
      simp only at h
      rw[hf]at ht
      simp only[Option.map_some,aoz]at ht
      intro w hw
      subst hw
      refine calls_of_wp hf hb ?_
      have hh:Holds (iy 0 args) {tmps:=args.toArray++Array.replicate (fn.ntmps - args.toArray.size) undef,defers:=[]} fn.ntmps:=by
       refine⟨by simp;omega,rfl,fun k v hk=>?_⟩
       obtain⟨_,h2⟩:=IJ args 0 k v hk
       have aK:k<args.length:=by
        rcases apK k args.length with h'|h'
        ·exact h'
        ·simp[aoC h']at h2
       rw[apA (by simpa using aK)]
       simpa using h2
      have Fw:∀aU a' w',bW w w'→Holds aU a' fn.ntmps→qF aU w'.heap rs (fun vs=>K (Lg vs) w'.heap)→
        a'.defers=[]∧∃v,(results fn a'.tmps).run P w'= .ok v w'∧(∃v_1,Ending.returned v=Ending.returned v_1∧bW w w'∧K v_1 w'.heap):=by
       intro aU a' w' MY nV hk
       obtain⟨vs,hF,ot⟩:=zW (P:=P) nV fn.results.toList rs _ hr hk
       refine⟨nV.defers,Lg vs,?_,_,rfl,MY,hF⟩
       change (do let vs ←fn.results.mapM (B4 a'.tmps);pure (if h:vs.size=1 then vs[0]else .tuple vs):Sem Value).run P w'=_
       rw[Array.mapM_eq_mapM_toList]
       simp only[Sem.run_bind,Sem.run_map,ot,Result.andThen_ok,Sem.run_pure]
       congr 1
       cases vs with
       |nil=>rfl
       |cons x r=>cases r with
        |nil=>rfl
        |cons y r=>simp[Lg]
      refine Le hm c an s [] hs _ _ w _ _ _ _ hh h ?_ ?_ ?_
      ·exact fun aU a' w' MY nV hk=>Fw aU a' w' MY nV hk
      ·exact fun _ _ _ _ _ _ hk=>hk.elim
      ·exact fun aU a' w' MY nV hk=>Fw aU a' w' MY nV hk
    ·cases hd
   ·cases hd
end Go.Vc
