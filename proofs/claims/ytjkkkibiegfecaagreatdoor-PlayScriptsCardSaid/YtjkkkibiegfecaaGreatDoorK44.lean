/- Texts put behind each other. -/
import Derived.Test.YtjkkkibiegfecaaGreatDoorK43
set_option linter.unusedSimpArgs false
set_option linter.unusedVariables false
set_option maxRecDepth 100000
set_option maxHeartbeats 8000000
namespace Go.Proofs.YtjkkkibiegfecaaGreatDoor
open Go Go.Vc
theorem qi{x:Hp}(p:uP x){v0 v1 v2:Value}(U:zL x (true,[.k (.i .i64),.k (.i .i64),.k (.i .u8),.k (.i .u32)]) v0)(W:zL x (false,[.k .s]) v1)(I:zL x (true,[.k (.i .i64),.k (.i .i64),.k (.i .i64),.k (.i .u32),.k (.i .i64),.k (.i .i64)]) v2):aF 3 [v0,v1,v2] x fun v J=>ak (v= .bool true/\af x J):=by
 obtain⟨kd,dd,z,mo,rfl,E,X⟩:=Lm U;obtain⟨l,rfl⟩:=Nf W;obtain⟨r,rfl,P⟩:=Ln I;have hz:l.toArray.size=l.length:=Z;refine aT tS ?_;refine vs ?_;have u:af x ((x.new 26 [i64 kd,i64 dd,.int .u8 (z:Int),.int .u32 (mo:Int)]).new 31 (BF r)):=bD.new _ _;have T:((x.new 26 [i64 kd,i64 dd,.int .u8 (z:Int),.int .u32 (mo:Int)]).new 31 (BF r)).own x.size=some [i64 kd,i64 dd,.int .u8 (z:Int),.int .u32 (mo:Int)]:=by rw[ay (by simp only[ag];omega)];exact am _ _ _
 have F:((x.new 26 [i64 kd,i64 dd,.int .u8 (z:Int),.int .u32 (mo:Int)]).new 31 (BF r)).own (x.size+1)=some (BF r):=az (by simp only[ag]);generalize (x.new 26 [i64 kd,i64 dd,.int .u8 (z:Int),.int .u32 (mo:Int)]).new 31 (BF r)=H0 at*;refine(to (p.fresh u)).mono ?_;rintro _ L ⟨rfl,y⟩;have c3:=y.own T (fun h=>h);have c4:=y.own F (fun h=>h);have g:=u.trans y;refine vs ?_;refine ai.dec (fun V=>?A) (fun V=>?B);case' A=>
  refine vs ?_;refine ai.dec (fun G=>?C) (fun G=>?D);case C=>
   refine vs ?_;exact⟨rfl,g⟩
  refine vs ?_
 case' B=>refine vs ?_
 all_goals
  refine ai.dec (fun D=>?_) (fun D=>?_)<;>refine vs ?_
  ·exact⟨rfl,g⟩
  refine bj.intro (fun m env J=>∃k:Int,m=(12 - k).toNat/\ -1<=k/\k<=12/\af L J/\env=[(1,aL l),(3,ptr x.size),(5,ptr (x.size+1)),(7,i64 k)]) 13
   ⟨-1,O,O,O,aj.refl _ _,rfl⟩ ?_
  rintro m env K ⟨k,rfl,hk0,hk1,c,rfl⟩;have N:=c.own c3 (fun h=>h);have n:=c.own c4 (fun h=>h);have q:=g.trans c;refine vs ?_;refine ai.dec (fun M=>?_) (fun M=>?_)<;>refine vs ?_
  ·refine cZ.intro (fun J=>J.own (x.size+1)=some (BF r)) n ?_;refine vs ?_;refine bG.intro (MK r) (fun J d=>?_) ?_
   ·refine v1 (ae d) ?_;trivial
   refine v1 (ae n) ?_;refine And.intro n ?_;refine vs ?_;refine(mw (p.fresh q).sN k P).mono ?_;rintro _ H3 ⟨rfl,t⟩;refine And.intro (t.own n (fun h=>h)) ?_;refine vs ?_;refine(qJ k P).mono ?_;rintro _ w ⟨rfl,e⟩;refine And.intro (e.own (t.own n (fun h=>h)) (fun h=>h)) ?_;refine v2 iK ajZ ?_;rw[wrap64 O O];exact⟨(12 - (k+1)).toNat,O,k+1,rfl,O,O,(c.trans t).trans e,rfl⟩
  ·refine v1 (ae N) ?_;refine(AJ K kd dd E X).mono ?_;rintro _ w ⟨rfl,e⟩;refine vs ?_;obtain⟨Q,a,z5⟩:=oz w 23 [.int .i64 0,.int .i64 0] [i64 kd,i64 dd];generalize (w.new 23 [.int .i64 0,.int .i64 0]).wr w.size [i64 kd,i64 dd]=H5 at*;have f:=(q.trans e).trans Q;refine cZ.intro (fun J=>J.own w.size=some [i64 kd,i64 dd]) a ?_;refine vs ?_;refine bG.intro (BO kd dd) (fun J d=>?_) ?_
   ·refine v1 (ae d) ?_;trivial
   refine v1 (ae a) ?_;refine And.intro a ?_;refine vs ?_;refine(oL (p.fresh f) (kd:=kd) (dd:=dd) (cap:=((z%30:Nat):Int)) (mo:=mo) O O l O).mono ?_;rintro _ H6 ⟨j,rfl⟩;refine And.intro (j.own a (fun h=>h)) ?_;refine vs ?_;refine(y7 (kd:=kd) (dd:=dd) (cap:=((z%30:Nat):Int)) (mo:=mo) O O l O).mono ?_;rintro _ H7 ⟨H,rfl⟩;refine And.intro (H.own (j.own a (fun h=>h)) (fun h=>h)) ?_;generalize (if 65536<l.length then dm 0 (er 31)++[10]else _)=o;refine v2 iK ajZ ?_;exact⟨rfl,(f.trans j).trans H⟩
end Go.Proofs.YtjkkkibiegfecaaGreatDoor
