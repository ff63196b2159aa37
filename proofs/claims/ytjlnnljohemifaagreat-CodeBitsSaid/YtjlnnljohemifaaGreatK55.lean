/- Texts put behind each other. -/
import Derived.Test.YtjlnnljohemifaaGreatK98
import Derived.Test.YtjlnnljohemifaaGreatK5
import Derived.Test.YtjlnnljohemifaaGreatK6
import Derived.Test.YtjlnnljohemifaaGreatK8
import Derived.Test.YtjlnnljohemifaaGreatK9
import Derived.Test.YtjlnnljohemifaaGreatK10
import Derived.Test.YtjlnnljohemifaaGreatK11
import Derived.Test.YtjlnnljohemifaaGreatK12
import Derived.Test.YtjlnnljohemifaaGreatK13
import Derived.Test.YtjlnnljohemifaaGreatK15
import Derived.Test.YtjlnnljohemifaaGreatK16
import Derived.Test.YtjlnnljohemifaaGreatK17
import Derived.Test.YtjlnnljohemifaaGreatK18
import Derived.Test.YtjlnnljohemifaaGreatK19
import Derived.Test.YtjlnnljohemifaaGreatK20
import Derived.Test.YtjlnnljohemifaaGreatK21
import Derived.Test.YtjlnnljohemifaaGreatK48
import Derived.Test.YtjlnnljohemifaaGreatK50
import Derived.Test.YtjlnnljohemifaaGreatK51
import Derived.Test.YtjlnnljohemifaaGreatK52
import Derived.Test.YtjlnnljohemifaaGreatK53
import Derived.Test.YtjlnnljohemifaaGreatK54
set_option maxRecDepth 100000
set_option maxHeartbeats 8000000
set_option linter.unusedVariables false
set_option linter.unusedSimpArgs false
namespace Go.Proofs.YtjlnnljohemifaaGreat
open Go Go.Vc
abbrev abl(l:List UInt8):Value:=.string ⟨l.toArray⟩
theorem ahn(a b:List UInt8):(⟨a.toArray⟩:ByteArray)++⟨b.toArray⟩=⟨(a++b).toArray⟩:=by
 apply ByteArray.ext
 rw[ByteArray.data_append]
 simp
theorem agN(a b:List UInt8)(h:a.length+b.length≤1000000000000):(if((a.toArray.size+b.toArray.size:Nat):Int)>IntKind.i64.max then none else some (Value.string ((⟨a.toArray⟩:ByteArray)++⟨b.toArray⟩)))=some (abl (a++b)):=by
 have e1:IntKind.i64.max=9223372036854775807:=rfl
 rw[if_neg (by rw[e1];simp only[List.size_toArray];omega),ahn]
theorem aaU(a b:List UInt8):((⟨a.toArray⟩:ByteArray).toList== (⟨b.toArray⟩:ByteArray).toList)=decide (a=b):=by
 rw[←beq_toListBytes]
 show(a.toArray==b.toArray)=_
 by_cases h:a=b
 ·subst h;simp
 ·have h2:¬a.toArray=b.toArray:=fun e=>h (by simpa using e)
  simp[h]
theorem E2(l:List UInt8):(⟨l.toArray⟩:ByteArray).size=l.length:=by simp[ByteArray.size]
theorem agP(l:List UInt8)(i:Nat):(⟨l.toArray⟩:ByteArray)[i]? =l[i]? :=by
 by_cases h:i<l.length
 ·rw[ans h,getElem?_pos _ i (by rw[E2];exact h)]
  rfl
 ·rw[anK (by omega),getElem?_neg _ i (by rw[E2];exact h)]
theorem agR(a:List UInt8):((⟨a.toArray⟩:ByteArray).toList== (⟨#[]⟩:ByteArray).toList)=decide (a=[]):=aaU a []
theorem aim(l:List UInt8)(a b:Nat):(⟨l.toArray⟩:ByteArray).extract a b=⟨((l.take b).drop a).toArray⟩:=by
 apply ByteArray.ext
 rw[ByteArray.data_extract]
 simp[List.drop_take]
def bt(b:Bool):UInt8:=if b then 49 else 48
abbrev aav(w:List Bool):Value:=abl (w.map bt)
abbrev fw(x:Bool):Value:=.int .u8 (bt x).toNat
theorem aka:fw true= .int .u8 49:=rfl
def WdS(H:Hp)(v:Value)(w:List Bool)(b:Nat):Prop:=
 ∃l c,v= .slice (some ⟨b,0,none⟩) w.length c∧I0 (H.own b) (H.BD b)=some l∧w.length≤c∧c≤l.length∧l.take w.length=w.map fw
theorem WdS.lt{H:Hp}{v:Value}{w:List Bool}{b:Nat}(h:WdS H v w b):b<H.size:=by
 obtain⟨l,c,_,h2,_⟩:=h
 exact NY (IG h2)
theorem agS{S:Nat→Prop}{H H':Hp}(e:ag S H H'){b:Nat}{l:List Value}(h:I0 (H.own b) (H.BD b)=some l)(hb:¬S b):I0 (H'.own b) (H'.BD b)=some l:=by
 rcases Gp h with h|h
 ·exact NM (e.own h hb)
 ·exact NL (e.BD h hb)
theorem WdS.ext{S:Nat→Prop}{H H':Hp}{v:Value}{w:List Bool}{b:Nat}(h:WdS H v w b)(e:ag S H H')(hb:¬S b):WdS H' v w b:=by
 obtain⟨l,c,h1,h2,h3⟩:=h
 exact⟨l,c,h1,agS e h2 hb,h3⟩
theorem WdS.rd{H:Hp}{v:Value}{w:List Bool}{b:Nat}(h:WdS H v w b):dc H 1 v w.length (w.map fw):=by
 obtain⟨l,c,h1,h2,h3,h4,h5⟩:=h
 refine⟨by simp,.inr ⟨b,0,c,l,h1,IG h2,by omega,by simpa using h5⟩⟩
theorem WdS.set{H:Hp}{c:Nat}{w:List Bool}{b:Nat}{l:List Value}(hl:I0 (H.own b) (H.BD b)=some l)(h3:w.length≤c)(h4:c≤l.length)(h5:l.take w.length=w.map fw)(i:Nat)(x:Bool):
  WdS (H.wr b (l.set i (fw x))) (.slice (some ⟨b,0,none⟩) w.length c) (w.set i x) b:=
 ⟨l.set i (fw x),c,by rw[anv],LV hl (by rw[anv]),by rw[anv];exact h3,by rw[anv];exact h4,by rw[anv,vj,h5,aoh]⟩
theorem WdS.append{H:Hp}{T:TypeId}{v:Value}{w:List Bool}{b:Nat}{K:Value→Hp→Prop}(h:WdS H v w b)(hl:w.length≤1000000)
  (hk:∀v' H' b',WdS H' v' (w++[false]) b'→ag (fun z=>z=b) H H'→(b'=b∨H.size≤b')→K v' H'):
  fW T 1 1 [.int .u8 0] v (.slice (some ⟨H.size,0,none⟩) 1 1) (H.new T [.int .u8 48]) K:=by
 have aO:=h.lt
 obtain⟨l,c,rfl,h2,h3,h4,h5⟩:=h
 have e1:ag (fun z=>z=b) H (H.new T [.int .u8 48]):=(ag.refl _ _).new _ _
 have f1:ai H (H.new T [.int .u8 48]):=(ag.refl _ _).new _ _
 have Rr:=agS f1 h2 (fun h=>h)
 have hr:dc (H.new T [.int .u8 48]) 1 (.slice (some ⟨H.size,0,none⟩) 1 1) 1 [.int .u8 48]:=(Sl.cf (size:=1) (n:=1) (xs:=[Value.int .u8 48]) rfl rfl).rd
 refine dc.rowOf hr (F:=fun m new=>(w.length+m≤c→m=0→K (.slice (some ⟨b,0,none⟩) w.length c) (H.new T [.int .u8 48]))∧
   (w.length+m≤c→m≠0→tM (some ⟨b,0,none⟩) fun b o=>aC (I0 ((H.new T [.int .u8 48]).own b) ((H.new T [.int .u8 48]).BD b)) fun l=>dm (o+(w.length+m)*1≤l.length∧gz new) (K (.slice (some ⟨b,0,none⟩) (w.length+m) c) ((H.new T [.int .u8 48]).wr b (bh l (o+w.length*1) new))))∧
   (c<w.length+m→Builtin.nextslicecap (w.length+m) c*1≤2^48∧
    Vc.rowOf (H.new T [.int .u8 48]) 1 (.slice (some ⟨b,0,none⟩) w.length c) fun _ QZ=>∀c',w.length+m≤c'→K (.slice (some ⟨(H.new T [.int .u8 48]).size,0,none⟩) (w.length+m) c') ((H.new T [.int .u8 48]).new T (QZ++new++cA [.int .u8 0] (c' - (w.length+m)))))) ?_
 refine⟨fun _ h=>absurd h (by omega),fun oY _=>?_,fun CL=>⟨?_,?_⟩⟩
 ·show aC (I0 ((H.new T [.int .u8 48]).own b) ((H.new T [.int .u8 48]).BD b)) _
  rw[Rr]
  refine⟨⟨by omega,by intro v hv;rw[anC]at hv;subst hv;rfl⟩,?_⟩
  rw[ant]
  refine hk _ _ b ⟨_,c,by simp,LV Rr (by rw[ke]),by simpa using oY,by rw[ke];exact h4,?_⟩ (e1.wr (fun _=>rfl) _) (.inl rfl)
  have:=KG (new:=[Value.int .u8 48]) (l:=l) (xs:=w.map fw) (p:=w.length) h5 (by simp) (by simp;omega)
  rw[anD,an8,anw]
  exact this
 ·have h2:Builtin.nextslicecap (w.length+1) c≤2*(w.length+1):=nextslicecap_le CL
  omega
 ·have hw:dc (H.new T [.int .u8 48]) 1 (.slice (some ⟨b,0,none⟩) w.length c) w.length (w.map fw):=⟨by simp,.inr ⟨b,0,c,l,rfl,IG Rr,by omega,by simpa using h5⟩⟩
  refine dc.rowOf hw ?_
  intro c' Kl
  refine hk _ _ (H.size+1) ⟨_,c',by simp[aq],NM (aV (by simp only[aq])),by simpa using Kl,?_,?_⟩ (e1.new _ _) (.inr (by omega))
  ·simp only[anD,anQ,C7,anM,anw]
   omega
  ·have e:(w++[false]).length=(w.map fw++[Value.int .u8 48]).length:=by simp
   rw[e,List.take_left,an8]
   rfl
theorem ahO:∀k,w9 (List.replicate k true)=List.replicate k false:=by
 intro k
 induction k with
 |zero=>rfl
 |succ k ih=>rw[apx,adR,ih,apx]
theorem ahP(u:List Bool)(k:Nat):w9 (u++false::List.replicate k true)=u++true::List.replicate k false:=by
 induction k with
 |zero=>exact aeN u
 |succ k ih=>
  rw[show u++false::List.replicate (k+1) true=(u++false::List.replicate k true)++[true] by rw[apx];simp,adR,ih,apx]
  simp
theorem ahQ{w:List Bool}{i:Nat}{x:Bool}(h:w[i]? =some x):w=w.take i++x::w.drop (i+1):=by
 have h1:=(anu.1 h)
 obtain⟨h2,h3⟩:=h1
 conv=>lhs;rw[←List.take_append_drop i w]
 rw[aoK h2,h3]
theorem adt{H:Hp}{v:Value}{w:List Bool}{b:Nat}(h:WdS H v w b)(n:Nat)(hw:w.length≤1000)(hn:n≤1000):
  af Tryz.prog aeF [v,i64 n] H fun v' H'=>aw (∃b',WdS H' v' (Hr n (w9 w)) b'∧ag (fun z=>z=b) H H'∧(b'=b∨H.size≤b')):=by
 refine bm aeI ?_
 obtain⟨l0,c,rfl,h2,h3,h4,h5⟩:=h
 refine vs ?_
 have wd0:WdS H (.slice (some ⟨b,0,none⟩) w.length c) (w.take w.length++List.replicate (w.length - w.length) false) b:=by
  rw[aoI,apz,aon,an4]
  exact⟨l0,c,rfl,h2,h3,h4,h5⟩
 refine bk.intro (fun i env H'=>i≤w.length∧(∀x∈w.drop i,x=true)∧WdS H' (.slice (some ⟨b,0,none⟩) w.length c) (w.take i++List.replicate (w.length - i) false) b∧ag (fun z=>z=b) H H'∧
  env=[(0,.slice (some ⟨b,0,none⟩) w.length c),(1,i64 n),(5,i64 ((i:Int) - 1))]) w.length ⟨anG _,by simp,wd0,ag.refl _ _,by rw[wrap64 (by omega) (by omega)]⟩ ?_
 clear wd0 h2 h3 h4 h5
 rintro i env H1 ⟨hi,db,wd,e1,rfl⟩
 have wl:(w.take i++List.replicate (w.length - i) false).length=w.length:=by simp;omega
 have hwr:w.drop i=List.replicate (w.length - i) true:=List.eq_replicate_iff.2 ⟨by simp,db⟩
 refine vs ?_
 refine am.dec (fun h0=>?_) (fun h0=>?_)<;>refine vs ?_
 ·obtain⟨x,hx⟩:∃x,w[i - 1]? =some x:=⟨_,ans (by omega)⟩
  obtain⟨l,c',hv,k2,k3,k4,k5⟩:=id wd
  injection hv with _ _ hc
  subst hc
  have hto:((i:Int) - 1).toNat=i - 1:=by omega
  have bX:l[i - 1]? =some (fw x):=by
   have h7:(l.take w.length)[i - 1]? =some (fw x):=by
    rw[wl]at k5
    rw[k5,anR,anJ (by simp;omega),an3 (by omega),hx]
    rfl
   rwa[an3 (by omega)]at h7
  refine⟨⟨by omega,by omega⟩,?_⟩
  refine v5 (IG k2) ant anw hto bX ?_
  have tK:=fun y=>WdS.set k2 k3 k4 k5 (i - 1) y
  rw[wl]at tK k3
  cases x
  ·refine am.cF rfl ?_
   refine vs ?_
   refine⟨⟨by omega,by omega⟩,?_⟩
   refine v4 k2 ant anw hto ?_
   refine⟨by omega,?_⟩
   refine vs ?_
   have aiW:(w.take i++List.replicate (w.length - i) false).set (i - 1) true=w9 w:=by
    have e:=ahQ hx
    have e2:w.drop (i - 1+1)=List.replicate (w.length - i) true:=by rw[show i - 1+1=i by omega,hwr]
    rw[e2]at e
    conv=>rhs;rw[e,ahP]
    have e3:w.take i=w.take (i - 1)++[false]:=by
     rw[show i=i - 1+1 by omega,aoa,hx];rfl
    rw[e3,apq,apt _ _ (by rw[aoj];omega),aoj,show i - 1 - min (i - 1) w.length=0 by omega]
    rfl
   have ws:=tK true
   rw[aiW]at ws
   have es:ag (fun z=>z=b) H (H1.wr b (l.set (i - 1) (fw true))):=e1.wr (fun _=>rfl) _
   rw[aka]at ws es
   generalize H1.wr b (l.set (i - 1) (Value.int .u8 49))=H2 at*
   have il:(w9 w).length=w.length:=aaM w
   have hpz:∀k,(w9 w++List.replicate k false).length=w.length+k:=fun k=>by simp[il]
   refine bk.intro (fun m env H'=>∃ (k:Nat) (v:Value) (b':Nat),m=n - (w.length+k)∧(k=0∨w.length+k≤n)∧WdS H' v (w9 w++List.replicate k false) b'∧ag (fun z=>z=b) H H'∧(b'=b∨H.size≤b')∧env=[(0,v),(1,i64 n)]) (n - w.length) ⟨0,.slice (some ⟨b,0,none⟩) w.length c,b,rfl,.inl rfl,by rw[apz,aon];exact ws,es,.inl rfl,rfl⟩ ?_
   rintro m env H3 ⟨k,v,b',rfl,hk,w3,e3,jy,rfl⟩
   obtain⟨l3,c3,rfl,q2,q3,q4,q5⟩:=id w3
   rw[hpz]at w3
   refine vs ?_
   refine am.dec (fun aO=>?_) (fun aO=>?_)<;>refine vs ?_
   ·rw[hpz]at aO
    have TI:=w3.lt
    refine WdS.append (w:=w9 w++List.replicate k false) (by rw[hpz];exact w3) (by rw[hpz];omega) fun v' H4 b4 w4 e4 hb4=>?_
    refine vs ?_
    have z3:=e3.size
    refine⟨n - (w.length+(k+1)),by omega,k+1,v',b4,rfl,.inr (by omega),?_,e3.oJ e4 (fun z hz h=>by omega),by omega,rfl⟩
    rw[apx,←apq]
    exact w4
   ·rw[hpz]at aO
    have hp:w9 w++List.replicate k false=Hr n (w9 w):=by
     unfold Hr
     rw[il]
     congr 2
     omega
    rw[hp]at w3
    refine⟨b',?_,e3,jy⟩
    rw[hpz,←hpz k,hp]
    rw[←hpz k,hp]at w3
    exact w3
  ·refine am.aW rfl ?_
   refine vs ?_
   refine⟨⟨by omega,by omega⟩,?_⟩
   refine v4 k2 ant anw hto ?_
   refine⟨by omega,?_⟩
   refine vs ?_
   have ws:=tK false
   have Ln:(w.take i++List.replicate (w.length - i) false).set (i - 1) false=w.take (i - 1)++List.replicate (w.length - (i - 1)) false:=by
    have e3:w.take i=w.take (i - 1)++[true]:=by
     rw[show i=i - 1+1 by omega,aoa,hx];rfl
    rw[e3,apq,apt _ _ (by rw[aoj];omega),aoj,show i - 1 - min (i - 1) w.length=0 by omega,show w.length - (i - 1)=(w.length - i)+1 by omega,aoc]
    rfl
   rw[Ln]at ws
   refine⟨i - 1,by omega,by omega,fun y hy=>?_,ws,e1.wr (fun _=>rfl) _,?_⟩
   ·rw[aoK (by omega)]at hy
    rcases anF.1 hy with rfl|hy
    ·rw[ans (by omega)]at hx;injection hx
    ·rw[show i - 1+1=i by omega]at hy
     exact db y hy
   ·rw[wrap64 (by omega) (by omega),show((i - 1:Nat):Int) - 1=(i:Int) - 1 - 1 by omega]
 ·have FC:i=0:=by omega
  subst FC
  rw[Nat.sub_zero]at wd hwr
  have aiW:w9 w=List.replicate w.length false:=by
   rw[List.drop_zero]at hwr
   conv=>lhs;rw[hwr]
   exact ahO _
  rw[List.take_zero,aoB,←aiW]at wd
  have ws:=wd
  have es:=e1
  clear wd e1
  generalize H1=H2 at*
  have il:(w9 w).length=w.length:=aaM w
  have hpz:∀k,(w9 w++List.replicate k false).length=w.length+k:=fun k=>by simp[il]
  refine bk.intro (fun m env H'=>∃ (k:Nat) (v:Value) (b':Nat),m=n - (w.length+k)∧(k=0∨w.length+k≤n)∧WdS H' v (w9 w++List.replicate k false) b'∧ag (fun z=>z=b) H H'∧(b'=b∨H.size≤b')∧env=[(0,v),(1,i64 n)]) (n - w.length) ⟨0,.slice (some ⟨b,0,none⟩) w.length c,b,rfl,.inl rfl,by rw[apz,aon];exact ws,es,.inl rfl,rfl⟩ ?_
  rintro m env H3 ⟨k,v,b',rfl,hk,w3,e3,jy,rfl⟩
  obtain⟨l3,c3,rfl,q2,q3,q4,q5⟩:=id w3
  rw[hpz]at w3
  refine vs ?_
  refine am.dec (fun aO=>?_) (fun aO=>?_)<;>refine vs ?_
  ·rw[hpz]at aO
   have TI:=w3.lt
   refine WdS.append (w:=w9 w++List.replicate k false) (by rw[hpz];exact w3) (by rw[hpz];omega) fun v' H4 b4 w4 e4 hb4=>?_
   refine vs ?_
   have z3:=e3.size
   refine⟨n - (w.length+(k+1)),by omega,k+1,v',b4,rfl,.inr (by omega),?_,e3.oJ e4 (fun z hz h=>by omega),by omega,rfl⟩
   rw[apx,←apq]
   exact w4
  ·rw[hpz]at aO
   have hp:w9 w++List.replicate k false=Hr n (w9 w):=by
    unfold Hr
    rw[il]
    congr 2
    omega
   rw[hp]at w3
   refine⟨b',?_,e3,jy⟩
   rw[hpz,←hpz k,hp]
   rw[←hpz k,hp]at w3
   exact w3
def ahR(y:be):List Value:=[i64 y.a,i64 y.b,i64 y.s]
def D0(tr:List be):List Value:=tr.flatMap ahR
theorem aba(tr:List be):(D0 tr).length=tr.length*3:=by
 induction tr with
 |nil=>rfl
 |cons c r ih=>simp only[D0,ao6,anD,ahR,anO,aoH]at*;omega
theorem aho(a b:List be):D0 (a++b)=D0 a++D0 b:=List.flatMap_append
theorem ag1{tr:List be}{i:Nat}{y:be}(hi:tr[i]? =some y):(D0 tr)[i*3]? =some (i64 y.a)∧(D0 tr)[i*3+1]? =some (i64 y.b)∧(D0 tr)[i*3+2]? =some (i64 y.s):=by
 induction tr generalizing i with
 |nil=>simp at hi
 |cons a r ih=>
  have e:D0 (a::r)=i64 a.a::i64 a.b::i64 a.s::D0 r:=rfl
  rw[e]
  cases i with
  |zero=>simp at hi;subst hi;exact⟨rfl,rfl,rfl⟩
  |succ i=>
   have:=ih (by simpa using hi)
   rw[show(i+1)*3=i*3+3 by omega]
   exact this
theorem ae9{tr:List be}{i:Nat}{y:be}(hi:tr[i]? =some y)(c:Bool):(D0 tr)[i*3+c.toNat]? =some (i64 (y.nx c)):=by
 obtain⟨h1,h2,h3⟩:=ag1 hi
 cases c
 ·exact h1
 ·exact h2
theorem ahS{tr:List be}{i:Nat}{y:be}(hi:tr[i]? =some y)(c:Bool)(k:Nat):(D0 tr).set (i*3+c.toNat) (i64 k)=D0 (tr.set i (y.go c k)):=by
 induction tr generalizing i with
 |nil=>simp at hi
 |cons a r ih=>
  have e:D0 (a::r)=i64 a.a::i64 a.b::i64 a.s::D0 r:=rfl
  cases i with
  |zero=>
   simp at hi;subst hi
   cases c<;>rfl
  |succ i=>
   have e2:D0 ((a::r).set (i+1) (y.go c k))=i64 a.a::i64 a.b::i64 a.s::D0 (r.set i (y.go c k)):=rfl
   rw[e,e2,show(i+1)*3+c.toNat=i*3+c.toNat+1+1+1 by omega]
   simp only[aoe]
   rw[ih (by simpa using hi)]
theorem ahp{tr:List be}{i:Nat}{y:be}(hi:tr[i]? =some y)(s:Int):(D0 tr).set (i*3+2) (i64 s)=D0 (tr.set i ⟨y.a,y.b,s⟩):=by
 induction tr generalizing i with
 |nil=>simp at hi
 |cons a r ih=>
  have e:D0 (a::r)=i64 a.a::i64 a.b::i64 a.s::D0 r:=rfl
  cases i with
  |zero=>simp at hi;subst hi;rfl
  |succ i=>
   have e2:D0 ((a::r).set (i+1) ⟨y.a,y.b,s⟩)=i64 a.a::i64 a.b::i64 a.s::D0 (r.set i ⟨y.a,y.b,s⟩):=rfl
   rw[e,e2,show(i+1)*3+2=i*3+2+1+1+1 by omega]
   simp only[aoe]
   rw[ih (by simpa using hi)]
theorem ahT(c:Bool):IntKind.u8.wrap ((((bt c).toNat:Nat):Int) - 48)=((c.toNat:Nat):Int):=by cases c<;>decide
theorem afb{H:Hp}{size n:Nat}{v:Value}{xs:List Value}(h:dc H size v n xs):∃a c,v= .slice a n c:=by
 obtain⟨_,⟨rfl,a,c,rfl⟩| ⟨b,o,c,l,rfl,_⟩⟩:=h
 ·exact⟨_,_,rfl⟩
 ·exact⟨_,_,rfl⟩
structure S8(H:Hp)(x wb tb:Nat)(ws:List (List Bool))(tr:List be):Prop where
 TE:∃tv,H.own x=some [.slice (some ⟨wb,0,none⟩) ws.length ws.length,tv]∧Sl H 3 tv tr.length (D0 tr) (some tb)
 words:H.own wb=some (ws.map aav)
 ne:x≠wb∧x≠tb∧wb≠tb
theorem S8.ext{S:Nat→Prop}{H H':Hp}{x wb tb:Nat}{ws:List (List Bool)}{tr:List be}(h:S8 H x wb tb ws tr)(e:ag S H H')(hx:¬S x)(hw:¬S wb)(ht:¬S tb):S8 H' x wb tb ws tr:=by
 obtain⟨tv,h1,h2⟩:=h.TE
 exact⟨⟨tv,e.own h1 hx,h2.ext e (fun b hb=>by injection hb with hb;exact hb▸ht)⟩,e.own h.words hw,h.ne⟩
theorem S8.lt{H:Hp}{x wb tb:Nat}{ws:List (List Bool)}{tr:List be}(h:S8 H x wb tb ws tr):x<H.size∧wb<H.size∧tb<H.size:=by
 obtain⟨tv,h1,h2⟩:=h.TE
 exact⟨aA h1,aA h.words,h2.lt⟩
theorem S8.adm{H:Hp}{x wb tb:Nat}{ws:List (List Bool)}{tr:List be}(h:S8 H x wb tb ws tr):∃c l,H.own x=some [.slice (some ⟨wb,0,none⟩) ws.length ws.length,.slice (some ⟨tb,0,none⟩) tr.length c]∧H.own tb=some l∧tr.length≤c∧c*3≤l.length∧l.take (tr.length*3)=D0 tr:=by
 obtain⟨tv,h1,h2⟩:=h.TE
 obtain⟨_,l,c,rfl,h3,h4,h5,h6⟩:=h2
 exact⟨c,l,h1,h3,h4,h5,h6⟩
theorem aaC{l xs:List Value}{n i:Nat}{v:Value}(h:l.take n=xs)(hi:xs[i]? =some v):l[i]? =some v:=by
 rw[←h,an9]at hi
 split at hi
 ·exact hi
 ·cases hi
theorem S8.akb{H:Hp}{x wb tb:Nat}{ws:List (List Bool)}{tr tr':List be}(h:S8 H x wb tb ws tr){l:List Value}(hl:H.own tb=some l)(i:Nat)(v:Value)(hs:(D0 tr).set i v=D0 tr')(hn:tr'.length=tr.length):S8 (H.wr tb (l.set i v)) x wb tb ws tr':=by
 obtain⟨c,l',h1,h2,h3,h4,h5⟩:=h.adm
 rw[hl]at h2
 injection h2 with h2
 subst h2
 obtain⟨n1,n2,n3⟩:=h.ne
 refine⟨⟨_,by rw[pY (Ne.symm n2)];exact h1,?_⟩,by rw[pY (Ne.symm n3)];exact h.words,h.ne⟩
 refine⟨by rw[aba],l.set i v,c,by rw[hn],ah hl,by rw[hn];exact h3,by rw[anv];exact h4,by rw[hn,vj,h5,hs]⟩
theorem acJ(w:List Bool):((⟨(w.map bt).toArray⟩:ByteArray).data.toList.map fun b=>Value.int .u8 b.toNat)=w.map fw:=by
 simp only[List.map_map]
 rfl
theorem adI{H:Hp}{x wb tb s:Nat}{ws:List (List Bool)}{tr:List be}{G9:List (List Bool)}{P:List (Nat×List Bool)}{w:List Bool}(m0:S8 H x wb tb ws tr)(t0:aao tr G9 P [])(hs:ws[s]? =some w)(hw:w.length≤1000)(hl:tr.length≤1000000000)(hwl:ws.length≤1000000000):
  af Tryz.prog adb [ptr x,i64 s] H fun _ H'=>aw (∃tr' ahU tb',S8 H' x wb tb' ws tr'∧aao tr' ahU ((s,w)::P) []∧tr'.length≤tr.length+w.length∧ag (fun z=>z=x∨z=tb) H H'∧(tb'=tb∨H.size≤tb')):=by
 have zH:=(anu.1 hs).1
 obtain⟨c0,l0,o0,o1,o2,o3,o4⟩:=m0.adm
 have xJ:(ws.map aav)[s]? =some (aav w):=by rw[anR,hs];rfl
 refine bm adg ?_
 refine v1 (ae o0) ?_
 refine⟨⟨by omega,by omega⟩,?_⟩
 refine v5 (ae m0.words) anw ant Int.toNat_natCast xJ ?_
 intro cc Ht
 rw[E2,anQ]at Ht ⊢
 rw[acJ]
 have e1:ai H (H.Mt 5 (w.map fw++List.replicate (cc - w.length) (.int .u8 0))):=(ag.refl _ _).Mt _ _
 have r1:dc (H.Mt 5 (w.map fw++List.replicate (cc - w.length) (.int .u8 0))) 1 (.slice (some ⟨H.size,0,none⟩) w.length cc) w.length (w.map fw):=
  ⟨by simp,.inr ⟨H.size,0,cc,_,rfl,Qn (ac7 _ _ _),by simp,by simp⟩⟩
 generalize H.Mt 5 (w.map fw++List.replicate (cc - w.length) (.int .u8 0))=H1 at*
 have m1:=m0.ext e1 (fun h=>h) (fun h=>h) (fun h=>h)
 have z1:=e1.size
 have aO:=m0.lt
 refine vs ?_
 refine bk.intro (fun m env H'=>∃ (j at_:Nat) (tr':List be) (ahU:List (List Bool)) (tb':Nat),m=w.length - j∧j≤w.length∧S8 H' x wb tb' ws tr'∧aao tr' ahU P (w.take j)∧ahU[at_]? =some (w.take j)∧tr'.length≤tr.length+j∧dc H' 1 (.slice (some ⟨H.size,0,none⟩) w.length cc) w.length (w.map fw)∧ag (fun z=>z=x∨z=tb) H H'∧(tb'=tb∨H.size<tb')∧
  env=[(0,ptr x),(1,i64 s),(4,i64 at_),(14,.slice (some ⟨H.size,0,none⟩) w.length cc),(15,i64 w.length),(16,i64 j)]) w.length
  ⟨0,0,tr,G9,tb,by omega,by omega,m1,t0,t0.root,by omega,r1,e1.mono (fun _ _ h=>h.elim),.inl rfl,rfl⟩ ?_
 clear r1 m1
 rintro m env H2 ⟨j,at_,tr',ahU,tb',hm,hj,m2,t2,Qt,Mc,r2,e2,rR,rfl⟩
 obtain⟨c2,l2,p0,p1,p2,p3,p4⟩:=m2.adm
 have u0:at_<tr'.length:=by rw[t2.len];exact(anu.1 Qt).1
 obtain⟨y,hy⟩:∃y,tr'[at_]? =some y:=⟨_,ans u0⟩
 have ate:=aba tr'
 refine vs ?_
 refine am.dec (fun hc=>?_) (fun hc=>?_)<;>refine vs ?_
 ·obtain⟨b,hb⟩:∃b,w[j]? =some b:=⟨_,ans (by omega)⟩
  have OA:w.take (j+1)=w.take j++[b]:=by rw[aoa,hb];rfl
  have bX:(w.map fw)[j]? =some (fw b):=by rw[anR,hb];rfl
  obtain⟨_,⟨h0,_⟩| ⟨b2,o2',c2',lb,aiX,fA,oY,fR⟩⟩:=id r2
  ·omega
  injection aiX with q1 q2 q3
  injection q1 with q1
  injection q1 with q1 q1' _
  subst q1;subst q1';subst q3
  have Dc:lb[j]? =some (fw b):=by
   rw[List.drop_zero]at fR
   exact aaC fR bX
  have JU:=aaC p4 (ae9 hy b)
  have hbt:(b.toNat:Int)<2:=by cases b<;>decide
  have am1:(0:Int)≤(b.toNat:Int):=by omega
  refine⟨⟨by omega,by omega⟩,?_⟩
  refine v6 fA Int.toNat_natCast ant anw Dc (ae p0) ?_
  rw[ahT]
  refine⟨⟨by omega,by omega⟩,?_⟩
  refine v4 Int.toNat_natCast ant anw Nat.add_zero ?_
  refine⟨by omega,?_⟩
  refine v6 (ae p1) Int.toNat_natCast ant anw Nat.add_zero JU ?_
  refine am.dec (fun h0=>?_) (fun h0=>?_)<;>refine vs ?_
  ·have h0':y.nx b=0:=by omega
   refine v1 (ae p0) ?_
   rw[ahT]
   refine⟨⟨by omega,by omega⟩,?_⟩
   refine v5 Int.toNat_natCast ant anw Nat.add_zero (ae p0) ?_
   refine⟨by omega,?_⟩
   refine v5 p1 Int.toNat_natCast ant anw Nat.add_zero ?_
   refine⟨by omega,?_⟩
   refine vs ?_
   have m3:=m2.akb p1 (at_*3+b.toNat) (i64 tr'.length) (ahS hy b tr'.length) (by rw[anv])
   have e3:ag (fun z=>z=tb') H2 (H2.wr tb' (l2.set (at_*3+b.toNat) (i64 tr'.length))):=(ag.refl (fun z=>z=tb') _).wr (fun _=>rfl) _
   generalize H2.wr tb' (l2.set (at_*3+b.toNat) (i64 tr'.length))=H3 at*
   obtain⟨qL,hpg⟩:=t2.grow hy Qt h0'
   obtain⟨n1,n2,n3⟩:=m2.ne
   obtain⟨YH,s0,s1⟩:=m3.TE
   have lt2:=m2.lt
   refine v1 (ae s0) ?_
   have e4:ai H3 (H3.new 137 [i64 0,i64 0,i64 (-1)]):=(ag.refl _ _).new _ _
   have r4:dc (H3.new 137 [i64 0,i64 0,i64 (-1)]) 3 (.slice (some ⟨H3.size,0,none⟩) 1 1) 1 [i64 0,i64 0,i64 (-1)]:=(Sl.cf (size:=3) (n:=1) rfl rfl).rd
   have s1':=s1.ext e4 (fun _ _ h=>h)
   have s0':=e4.own s0 (fun h=>h)
   have w4:=e4.own m3.words (fun h=>h)
   have Yu:=NY fA
   have z3:=e3.size
   have z4:=e4.size
   have z2:=e2.size
   refine Sl.append s1' r4 rfl (by intro v hv;simp at hv;rcases hv with rfl|rfl|rfl<;>rfl) (by simp;omega) ?_
   intro v' H5 cO s5 e5 hf5
   generalize H3.new 137 [i64 0,i64 0,i64 (-1)]=H4 at*
   have o5:=e5.own s0' (fun h=>n2 (by injection h with h;exact h.symm))
   have w5:=e5.own w4 (fun h=>n3 (by injection h with h;exact h.symm))
   obtain⟨tb5,rfl,hb5⟩:∃tb5,cO=some tb5∧(tb5=tb'∨H4.size≤tb5):=by
    rcases hf5 with rfl| ⟨b5,rfl,h1,_⟩
    ·exact⟨tb',rfl,.inl rfl⟩
    ·exact⟨b5,rfl,.inr h1⟩
   obtain⟨a',WM,NU⟩:=afb s5.rd
   subst NU
   refine v1 o5 ?_
   generalize NU:Value.slice a' _ WM=v' at*
   have e6:ag (fun z=>z=x) H5 (H5.wr x [.slice (some ⟨wb,0,none⟩) ws.length ws.length,v']):=(ag.refl (fun z=>z=x) _).wr (fun _=>rfl) _
   have o6:(H5.wr x [.slice (some ⟨wb,0,none⟩) ws.length ws.length,v']).own x=_:=ah o5
   have n2':x≠tb5:=by omega
   have n3':wb≠tb5:=by omega
   have s6:=s5.ext e6 (fun b hb h=>by injection hb with hb;exact n2' (by omega))
   have w6:=e6.own w5 (fun h=>n1 h.symm)
   have m6:S8 (H5.wr x [.slice (some ⟨wb,0,none⟩) ws.length ws.length,v']) x wb tb5 ws (tr'.set at_ (y.go b tr'.length)++[⟨0,0, -1⟩]):=by
    refine⟨⟨v',o6,?_⟩,w6,n1,n2',n3'⟩
    rw[aho,anD]
    exact s6
   have z5:=e5.size
   have uc:=e6.size
   have e26:ag (fun z=>z=x∨z=tb') H2 (H5.wr x [.slice (some ⟨wb,0,none⟩) ws.length ws.length,v']):=
    ((e3.mono fun z _ h=>.inr h).trans (e4.mono fun _ _ h=>h.elim)).trans ((e5.mono fun z _ h=>.inr (by injection h with h;exact h.symm)).trans (e6.mono fun z _ h=>.inl h))
   generalize H5.wr x [.slice (some ⟨wb,0,none⟩) ws.length ws.length,v']=H6 at*
   obtain⟨c6,l6,g0,g1,g2,g3,g4⟩:=m6.adm
   have hy6:(tr'.set at_ (y.go b tr'.length)++[⟨0,0, -1⟩])[at_]? =some (y.go b tr'.length):=by rw[anJ (by simpa using u0),anB u0]
   have akc:=aaC g4 (ae9 hy6 b)
   rw[be.aiE,if_pos rfl]at akc
   have hl6:(tr'.set at_ (y.go b tr'.length)++[(⟨0,0, -1⟩:be)]).length=tr'.length+1:=by simp
   have am3:=aba (tr'.set at_ (y.go b tr'.length)++[⟨0,0, -1⟩])
   rw[hl6]at g0 g2 am3
   refine v1 (ae g0) ?_
   rw[ahT]
   refine⟨⟨by omega,by omega⟩,?_⟩
   refine v4 Int.toNat_natCast ant anw Nat.add_zero ?_
   refine⟨by omega,?_⟩
   refine v6 (ae g1) Int.toNat_natCast ant anw Nat.add_zero akc ?_
   rw[wrap64 (n:=(j:Int)+1) (by omega) (by omega)]
   exact⟨w.length - (j+1),by omega,j+1,tr'.length,_,_,tb5,rfl,by omega,m6,by rw[OA];exact qL,by rw[OA];exact hpg,by omega,⟨by simp,.inr ⟨H.size,0,cc,lb,rfl,e26.rd fA (by omega),oY,fR⟩⟩,e2.oJ e26 (fun z hz h=>by omega),by omega,rfl⟩
  ·have h0':y.nx b≠0:=by omega
   obtain⟨hpg,qL⟩:=t2.step hy Qt h0'
   refine v1 (ae p0) ?_
   rw[ahT]
   refine⟨⟨by omega,by omega⟩,?_⟩
   refine v4 Int.toNat_natCast ant anw Nat.add_zero ?_
   refine⟨by omega,?_⟩
   refine v6 (ae p1) Int.toNat_natCast ant anw Nat.add_zero JU ?_
   rw[wrap64 (n:=(j:Int)+1) (by omega) (by omega)]
   exact⟨w.length - (j+1),by omega,j+1,y.nx b,_,_,tb',rfl,by omega,m2,by rw[OA];exact qL,by rw[OA];exact hpg,by omega,r2,e2,rR,rfl⟩
 ·have gD:j=w.length:=by omega
  subst gD
  rw[an4]at t2 Qt
  refine v1 (ae p0) ?_
  refine⟨⟨by omega,by omega⟩,?_⟩
  refine v5 p1 Int.toNat_natCast ant anw Nat.add_zero ?_
  refine⟨by omega,?_⟩
  refine vs ?_
  exact⟨_,_,tb',m2.akb p1 (at_*3+2) (i64 s) (ahp hy s) (by rw[anv]),t2.VQ hy Qt s,by rw[anv];exact Mc,e2.wr (fun hz=>by omega) _,by omega⟩
def LL(c:UInt8):Bool:=decide (c=48) || decide (c=49)
theorem adJ(H:Hp)(s:List UInt8)(hs:s.length≤1000000000):
  af Tryz.prog ae1 [abl s] H fun v H'=>aw (v= .bool (s.all LL && decide (s.length≤1048576))∧H=H'):=by
 refine bm ae5 ?_
 refine vs ?_
 refine bk.intro (fun m env H'=>H'=H∧∃j:Nat,m=s.length - j∧j≤s.length∧(∀x∈s.take j,LL x=true)∧env=[(0,abl s),(3,i64 j)]) s.length ⟨rfl,0,by omega,by omega,by simp,rfl⟩ ?_
 rintro m env H1 ⟨rfl,j,hm,hj,db,rfl⟩
 refine vs ?_
 rw[E2]
 refine am.dec (fun aO=>?_) (fun aO=>?_)<;>refine vs ?_
 ·obtain⟨x,hx⟩:∃x,s[j]? =some x:=⟨_,ans (by omega)⟩
  have hg:(⟨s.toArray⟩:ByteArray)[j]? =some x:=by rw[agP,hx]
  refine⟨by omega,?_⟩
  refine v2 Int.toNat_natCast hg ?_
  have bL:=anz hx
  have next:LL x=true→∀y∈s.take (j+1),LL y=true:=fun hb y hy=>by
   rw[aoa,hx]at hy
   rcases anH.1 hy with hy|hy
   ·exact db y hy
   ·have:y=x:=by simpa using hy
    rw[this];exact hb
  have e48:((x.toNat:Nat):Int)=48→LL x=true:=fun hh=>by
   have:x=48:=UInt8.toNat_inj.1 (by show x.toNat=48;omega)
   subst this;rfl
  have e49:((x.toNat:Nat):Int)=49→LL x=true:=fun hh=>by
   have:x=49:=UInt8.toNat_inj.1 (by show x.toNat=49;omega)
   subst this;rfl
  refine am.dec (fun g1=>?_) (fun g1=>?_)<;>refine vs ?_
  ·rw[wrap64 (n:=(j:Int)+1) (by omega) (by omega)]
   exact⟨s.length - (j+1),by omega,trivial,j+1,rfl,by omega,next (e48 g1),rfl⟩
  refine⟨by omega,?_⟩
  refine v2 Int.toNat_natCast hg ?_
  refine am.dec (fun g2=>?_) (fun g2=>?_)<;>refine vs ?_
  ·rw[wrap64 (n:=(j:Int)+1) (by omega) (by omega)]
   exact⟨s.length - (j+1),by omega,trivial,j+1,rfl,by omega,next (e49 g2),rfl⟩
  ·refine⟨anP Value.bool ?_,rfl⟩
   symm
   rw[Bool.and_eq_false_iff]
   left
   rw[List.all_eq_false]
   refine⟨x,bL,fun hb=>?_⟩
   unfold LL at hb
   rw[ape,anU,anU]at hb
   rcases hb with hb|hb
   ·subst hb;exact g1 rfl
   ·subst hb;exact g2 rfl
 ·have gD:j=s.length:=by omega
  subst gD
  rw[an4]at db
  refine⟨anP Value.bool ?_,rfl⟩
  rw[aoA.2 db,aoO,E2,decide_eq_decide]
  omega
def u8s(ns:List Nat):List Value:=ns.map fun(n:Nat)=>Value.int .u8 (n:Int)
theorem ahV(ns:List Nat):gz (u8s ns):=fun v hv=>by
 obtain⟨x,_,rfl⟩:=anS.1 hv
 rfl
theorem ain(a b:List Nat):u8s (a++b)=u8s a++u8s b:=an8
theorem adP(a:List Nat):(u8s a).length=a.length:=anQ ..
theorem dc.byte{H:Hp}{a:Option Addr}{n c:Nat}{ns:List Nat}(h:dc H 1 (.slice a n c) n (u8s ns)){i x:Nat}(hx:ns[i]? =some x):
  i<n∧∃b o lb,a=some ⟨b,o,none⟩∧H.rd b=some lb∧lb[o+i]? =some (.int .u8 (x:Int)):=by
 obtain⟨hl,hv⟩:=h
 rw[adP,anw]at hl
 have hi:i<ns.length:=by
  rcases aoL i ns.length with h|h
  ·exact h
  ·rw[anK h]at hx;cases hx
 refine⟨by omega,?_⟩
 rcases hv with ⟨hn,_⟩| ⟨b,o,c2,l,hs,fA,oY,ht⟩
 ·omega
 ·injection hs with eM K7 Gx
  refine⟨b,o,l,eM,fA,?_⟩
  have h7:(u8s ns)[i]? =some (.int .u8 (x:Int)):=by unfold u8s;rw[anR,hx];rfl
  rw[←ht,an9]at h7
  split at h7
  ·rw[aob]at h7;exact h7
  ·cases h7
theorem aaW(ns:List Nat):Go.Vc.bytesOf (u8s ns)=some (ns.map UInt8.ofNat):=by
 induction ns with
 |nil=>rfl
 |cons n ns ih=>
  show Go.Vc.bytesOf (Value.int .u8 (n:Int)::u8s ns)=_
  rw[Go.Vc.UI,ih,Int.toNat_natCast]
  rfl
theorem akd{H:Hp}{T B b:Nat}{w:Value}{ns:List Nat}{K:Value→Hp→Prop}(hb:B≤b)(hB:B≤H.size)(s:Sl H 1 w ns.length (u8s ns) (some b))(x:Nat)(hl:ns.length≤1000000000000)
  (hk:∀w' H' b',B≤b'→Sl H' 1 w' (ns++[x]).length (u8s (ns++[x])) (some b')→ag (fun z=>B≤z) H H'→K w' H'):
  fW T 1 1 [.int .u8 0] w (.slice (some ⟨H.size,0,none⟩) 1 1) (H.new T [.int .u8 (x:Int)]) K:=by
 have fl:ai H (H.new T [.int .u8 (x:Int)]):=(ag.refl _ _).new _ _
 refine Sl.append (s.ext fl (fun _ _ h=>h)) (Sl.cf (size:=1) (n:=1) (xs:=u8s [x]) rfl rfl).rd rfl (ahV [x]) (by omega) ?_
 intro v' H' cO s' e' Oe
 have e2:ag (fun z=>B≤z) H H':=⟨aor fl.size e'.size,fun z hz hn=>by
  rw[e'.aM z (anT hz fl.size) (fun h=>hn (by injection h with h;omega)),fl.aM z hz (fun h=>h)]⟩
 have s2:Sl H' 1 v' (ns++[x]).length (u8s (ns++[x])) cO:=by rw[anD,ain];exact s'
 rcases Oe with rfl| ⟨b',rfl,h1,h2⟩
 ·exact hk v' H' b hb s2 e2
 ·rw[aq]at h1
  exact hk v' H' b' (by omega) s2 e2
end Go.Proofs.YtjlnnljohemifaaGreat
