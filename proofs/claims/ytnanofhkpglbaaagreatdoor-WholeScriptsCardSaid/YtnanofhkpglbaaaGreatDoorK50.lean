/- Texts put behind each other. -/
import Derived.Test.YtnanofhkpglbaaaGreatDoorK47
import Derived.Test.YtnanofhkpglbaaaGreatDoorK49
set_option linter.unusedSimpArgs false
set_option linter.unusedVariables false
set_option maxRecDepth 100000
set_option maxHeartbeats 80000000
namespace Go.Proofs.YtnanofhkpglbaaaGreatDoor
open Go Go.Vc Go.Lib
section
variable{H:Hp}{n i:Nat}
theorem NT{v:Value}(h:zD H (false,[.k (.i .u32)]) v):∃n:Nat,v= .int .u32 (n:Int)/\n<=4294967295:=by
 obtain⟨_,_,e,⟨n,rfl,x⟩,rfl⟩:=h;injection e with e _;subst e;have z:IntKind.u32.min=0:=rfl;have w:IntKind.u32.max=4294967295:=rfl;simp only[Lit.wf,alJ,amv,z,w]at x;exact⟨n.toNat,by rw[Int.toNat_of_nonneg x.1],O⟩
theorem NU{v:Value}(h:zD H (false,[.k .s]) v):∃l:List UInt8,v=aA l:=by
 obtain⟨_,_,e,⟨s,rfl,_⟩,rfl⟩:=h;injection e with e _;subst e;exact⟨s.data.toList,rfl⟩
theorem Sk(n:Nat):(PU n).length=n*2:=by
 induction n with
 |zero=>rfl
 |succ n x=>rw[yB,alm,x];simp;omega
theorem U7(h:i<n):((PU n).drop (i*2)).take 2=[i64 (nj i).1,i64 (nj i).2]:=by
 induction n with
 |zero=>omega
 |succ n z=>
  have x:=Sk n;rw[yB];by_cases e:i=n
  ·subst e;rw[List.drop_left' x];rfl
  ·rw[List.drop_append_of_le_length O,List.take_append_of_le_length (by rw[List.length_drop];omega)];exact z O
theorem bD.kd{a:Option Addr}{c:Nat}(h:bD H 2 (.slice a n c) n (PU n))(hi:i<n):
  ∃b o lb,a=some ⟨b,o,none⟩/\H.rd b=some lb/\o+i*2+2<=lb.length/\(lb.drop (o+i*2)).take 2=[i64 (nj i).1,i64 (nj i).2]:=by
 obtain⟨y,e⟩:=h;rcases e with ⟨r,_⟩| ⟨b,o,g,l,w,z,t,v⟩
 ·omega
 ·injection w with m j d;refine⟨b,o,l,m,z,O,?_⟩;have x:=U7 hi;rw[<-v,List.drop_take,amz,List.drop_drop,Nat.min_eq_left O]at x;exact x
theorem qY{z:Hp}(j:kY z){v0 v1 v2:Value}(A:zD z (false,[.k (.i .u8)]) v0)(C:zD z (false,[.k (.i .u32)]) v1)(K:zD z (false,[.k .s]) v2):aD 3 [v0,v1,v2] z fun v J=>ak (v= .bool true/\af z J):=by
 obtain⟨y,rfl,X,Dx⟩:=Rm A;obtain⟨x,rfl⟩:∃x:Nat,y=(x:Int):=⟨y.toNat,O⟩;obtain⟨mo,rfl,hmo⟩:=NT C;obtain⟨l,rfl⟩:=NU K;have I:l.toArray.size=l.length:=by simp
 refine aL vx ?_;refine vs ?_;refine(Eu j).mono ?_;rintro _ G ⟨rfl,t⟩;refine v1 I ?_;refine ai.dec (fun T=>?_) (fun T=>?_)<;>refine vs ?_
 ·exact⟨rfl,t⟩
 have p:(IntKind.i64.wrap (x:Int)).tmod 30=((x%30:Nat):Int):=by
  rw[wrap64 O O,amt O];omega
 have U:∀ {kd dd:Int},dP kd dd->wW kd dd mo=wW 1 0 mo:=fun h=>by unfold wW;rw[Hz h,Hz (show dP 1 0 by unfold dP;omega)]
 rw[if_neg (by decide),p];refine vs ?_;refine(yU (kd:=1) (dd:=0) (cap:=((x%30:Nat):Int)) (mo:=mo) O O l O).mono ?_;rintro _ u ⟨B,rfl⟩;refine vs ?_;refine(Ao u).mono ?_;rintro _ g ⟨fp,q,E,P⟩;obtain⟨a,c,rfl,_⟩:=Ch q;have V:bD g 2 (.slice a 22 c) 22 (PU 22):=q.rd;have e:=(t.trans B).trans P;refine vs ?_;generalize Q:(if 65536<l.length then eW 0 (er 31)++[10]else if wW 1 0 mo≠0 then eW 0 (er (wW 1 0 mo))++[10]else nu ⟨iU ((x%30:Nat):Int),sM ((x%30:Nat):Int) mo,0⟩ (dM l))=o;refine ba.intro (fun mm env J=>∃i:Nat,mm=22 - i/\i<=22/\af g J/\env=[(0,.int .u8 (x:Int)),(1,.int .u32 (mo:Int)),(2,aA l),(7,aA o),(22,.slice a 22 c),(23,i64 22),(24,i64 i)]) 22 ⟨0,rfl,O,aj.refl _ _,rfl⟩ ?_;rintro mm env m ⟨i,rfl,hi,w,rfl⟩;refine vs ?_;refine ai.dec (fun N=>?_) (fun N=>?_)<;>refine vs ?_
 ·have d:i<22:=O;obtain⟨b,of,lb,rfl,W,hle,F⟩:=bD.kd (bD.fresh V w) d;refine⟨O,?_⟩;refine v2 W Int.toNat_natCast ?_;refine⟨O,?_⟩;rw[F];refine vs ?_;obtain⟨r,H,z5⟩:=lR m 26 [.int .i64 0,.int .i64 0] [i64 (nj i).1,i64 (nj i).2];generalize (m.new 26 [.int .i64 0,.int .i64 0]).wr m.size [i64 (nj i).1,i64 (nj i).2]=D at*;have f:=(e.trans w).trans r;refine v1 (ae H) ?_;rw[if_neg (by decide),p];refine vs ?_;refine(AI (j.fresh f) (kd:=(nj i).1) (dd:=(nj i).2) (cap:=((x%30:Nat):Int)) (mo:=mo) O O l O).mono ?_;rintro _ M ⟨L,rfl⟩;rw[U (NF d),Q];refine v1 iK ?_;refine ai.dec (fun _=>?_) (fun h=>absurd trivial h);refine vs ?_;rw[wrap64 (n:=(i:Int)+1) O O];exact⟨22 - (i+1),O,i+1,rfl,O,(w.trans r).trans L,rfl⟩
 ·exact⟨rfl,e.trans w⟩
end
end Go.Proofs.YtnanofhkpglbaaaGreatDoor
