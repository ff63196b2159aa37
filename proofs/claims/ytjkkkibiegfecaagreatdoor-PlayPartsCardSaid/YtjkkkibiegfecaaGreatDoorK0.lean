/- Texts put behind each other. -/
import Derived.Test.YtjkkkibiegfecaaGreatDoorK98
set_option maxRecDepth 100000
set_option maxHeartbeats 8000000
set_option linter.unusedVariables false
set_option linter.unusedSimpArgs false
namespace Go.Proofs.YtjkkkibiegfecaaGreatDoor
structure Ar where
 g:List (Nat×Bool)
 wt:List Int
 nx:Nat
 ct:Int
 mo:Nat
def Ar.cB(A:Ar)(x:Int):Nat:=(A.g.getD x.toNat (0,false)).1
def Ar.live(A:Ar)(x:Int):Prop:=0≤x∧(A.g[x.toNat]?).map (·.2)=some true
instance(A:Ar)(x:Int):Decidable (A.live x):=by unfold Ar.live;exact inferInstance
def Ar.pick(A:Ar):Option (Int×Ar):=
 if A.wt≠[]then some (A.wt.getLastD 0,{A with wt:=A.wt.dropLast})else if A.nx=A.g.length then none else some ((A.nx:Int),{A with nx:=A.nx+1})
def Ar.out(A:Ar)(x:Int):Ar:={A with g:=A.g.set x.toNat (A.cB x+1,true),ct:=A.ct+1}
def Ar.back(A:Ar)(x:Int):Ar:={A with g:=A.g.set x.toNat (A.cB x,false),ct:=A.ct - 1,wt:=if A.cB x<A.mo then A.wt++[x]else A.wt}
def Ar.aQ(A:Ar):Nat:=A.g.countP (·.2)
theorem count_set{L:List (Nat×Bool)}{i:Nat}{y:Nat×Bool}(h:L[i]? =some y)(v:Nat)(b:Bool):(L.set i (v,b)).countP (·.2)+y.2.toNat=L.countP (·.2)+b.toNat:=by
 grind
structure CL(A:Ar):Prop where
 wl:∀x∈A.wt,¬A.live x∧x<A.nx∧0≤x
 wd:A.wt.Nodup
 fr:∀x:Int,A.nx≤x→¬A.live x
 ct:A.ct=A.aQ
 nx:A.nx≤A.g.length
theorem Ar.get{A:Ar}{x:Int}(hx:0≤x∧x<A.g.length):∃b,A.g[x.toNat]? =some (A.cB x,b)∧(A.live x↔b=true):=by
 obtain⟨y,hy⟩:∃y,A.g[x.toNat]? =some y:=⟨_,aol (by omega)⟩
 refine⟨y.2,?_,?_⟩
 ·unfold Ar.cB
  grind
 ·unfold Ar.live
  grind
theorem Ar.rT{A:Ar}{x:Int}(h:A.live x):0≤x∧x<A.g.length:=by
 obtain⟨h0,h1⟩:=h
 grind
theorem Ar.JZ{A A':Ar}{x:Int}(h:A.pick=some (x,A'))(ok:CL A):(0≤x∧x<A.g.length)∧¬A.live x∧x∉A'.wt∧x<A'.nx∧A'.g=A.g∧A'.ct=A.ct∧A'.mo=A.mo:=by
 have Ns:=ok.nx
 unfold Ar.pick at h
 split at h
 ·rename_i bN
  injection h with h
  injection h with h1 h2
  subst h1 h2
  have hw:A.wt=A.wt.dropLast++[A.wt.getLastD 0]:=by
   conv=>lhs;rw[←List.dropLast_concat_getLast bN]
   rw[apt,List.getLast?_eq_some_getLast bN]
   rfl
  have hm:A.wt.getLastD 0∈A.wt:=by rw[hw];simp
  have h5:=ok.wl _ hm
  refine⟨by omega,h5.1,fun hd=>?_,h5.2.1,rfl,rfl,rfl⟩
  have jk:=ok.wd
  grind
 ·split at h
  ·cases h
  ·rename_i h1 h2
   injection h with h
   injection h with h3 h4
   subst h3 h4
   refine⟨by omega,ok.fr _ (Int.le_refl _),fun hm=>?_,by grind,rfl,rfl,rfl⟩
   grind
theorem Ar.uK{A A':Ar}{x y:Int}{v:Nat}{b:Bool}(hx:0≤x∧x<A.g.length)(h:A'.g=A.g.set x.toNat (v,b))(hy:0≤y):A'.live y↔if y=x then b=true else A.live y:=by
 unfold Ar.live
 grind
theorem CL.out{A A':Ar}{x:Int}(ok:CL A')(hg:A'.g=A.g)(hx:0≤x∧x<A'.g.length)(hl:¬A'.live x)(hw:x∉A'.wt)(hn:x<A'.nx):CL (A'.out x):=by
 obtain⟨b,hb,uF⟩:=Ar.get hx
 have hbf:b=false:=by cases b;rfl;exact(by grind)
 refine⟨fun y hy=>?_,ok.wd,fun y hy uG=>?_,?_,?_⟩
 ·obtain⟨h1,h2,h3⟩:=ok.wl y hy
  refine⟨fun h=>?_,h2,h3⟩
  rw[Ar.uK (A:=A') hx rfl h3,if_neg (fun e=>hw (by rw[←e];exact hy))]at h
  grind
 ·have hy0:=uG.1
  have HV:(A'.nx:Int)≤y:=hy
  rw[Ar.uK (A:=A') hx rfl hy0,if_neg (by omega)]at uG
  exact ok.fr y HV uG
 ·have:=count_set hb (A'.cB x+1) true
  rw[hbf]at this
  have h2:=ok.ct
  show A'.ct+1=(((A'.g.set x.toNat (A'.cB x+1,true)).countP (·.2):Nat):Int)
  unfold Ar.aQ at h2
  grind
 ·show A'.nx≤(A'.g.set x.toNat _).length
  rw[aom];exact ok.nx
theorem CL.back{A:Ar}{x:Int}(ok:CL A)(hl:A.live x):CL (A.back x):=by
 have hx:=Ar.rT hl
 obtain⟨b,hb,uF⟩:=Ar.get hx
 have hbt:=uF.1 hl
 have Lx:x<A.nx:=aoA fun h=>ok.fr x (by omega) hl
 have hxw:x∉A.wt:=fun h=>(ok.wl x h).1 hl
 have hnl:¬ (A.back x).live x:=fun h=>by
  rw[Ar.uK (A:=A) hx rfl hx.1,if_pos rfl]at h
  cases h
 have RV:∀y,0≤y→(A.back x).live y→A.live y:=fun y h0 h=>by
  rw[Ar.uK (A:=A) hx rfl h0]at h
  grind
 refine⟨fun y hy=>?_,?_,fun y hy uG=>ok.fr y hy (by grind),?_,?_⟩
 ·have HV:y∈(if A.cB x<A.mo then A.wt++[x]else A.wt):=hy
  have Ly:y∈A.wt∨y=x:=by
   split at HV
   ·grind
   ·grind
  rcases Ly with h|h
  ·obtain⟨h1,h2,h3⟩:=ok.wl y h
   exact⟨by grind,h2,h3⟩
  ·rw[h];exact⟨hnl,Lx,hx.1⟩
 ·show(if A.cB x<A.mo then A.wt++[x]else A.wt).Nodup
  split
  ·rw[aoS]
   refine⟨ok.wd,by simp,fun u hu v hv e=>hxw ?_⟩
   rw[aoB.1 hv]at e
   rw[←e];exact hu
  ·exact ok.wd
 ·have:=count_set hb (A.cB x) false
  rw[hbt]at this
  have h2:=ok.ct
  show A.ct - 1=(((A.g.set x.toNat (A.cB x,false)).countP (·.2):Nat):Int)
  unfold Ar.aQ at h2
  grind
 ·show A.nx≤(A.g.set x.toNat _).length
  rw[aom];exact ok.nx
theorem Ar.Ps(A:Ar):A.aQ≤A.g.length:=List.countP_le_length
end Go.Proofs.YtjkkkibiegfecaaGreatDoor

namespace Go.Proofs.YtjkkkibiegfecaaGreatDoor
def RW:List (Int×Nat)→Int→Nat→Nat
 | [],_,g=>g
 |h::r,x,g=>RW r x (if h.1=x then h.2 else g)
structure ArR(A:Ar)(T G:List (Int×Nat)):Prop where
 mem:∀x g,(x,g)∈T↔(0≤x∧x<A.g.length)∧1≤g∧g≤A.cB x
 lst:∀x,0≤x→RW T x 0=A.cB x
 gv:∀x g,(x,g)∈G↔(x,g)∈T∧¬ (A.live x∧g=A.cB x)
 pos:∀x,A.live x→1≤A.cB x
 wt:A.wt=(G.filter fun h=>decide (h.2<A.mo) && (RW T h.1 0==h.2)).map (·.1)
 fr:A.nx=T.countP fun h=>h.2==1
 un:∀x:Int,A.nx≤x→A.cB x=0
theorem ArR.live{A:Ar}{T G:List (Int×Nat)}(r:ArR A T G)(x:Int)(g:Nat):((x,g)∈T∧(x,g)∉G)↔(A.live x∧g=A.cB x):=by
 have h1:=r.gv x g
 have h2:=r.mem x g
 have h3:=r.pos x
 have h4:=@Ar.rT A x
 grind
end Go.Proofs.YtjkkkibiegfecaaGreatDoor
