/- Texts put behind each other. -/
import Derived.Test.YthpjfeolagohkaaGreatK98
import Derived.Test.YthpjfeolagohkaaGreatK0
import Derived.Test.YthpjfeolagohkaaGreatK12
import Derived.Test.YthpjfeolagohkaaGreatK15
import Derived.Test.YthpjfeolagohkaaGreatK16
import Derived.Test.YthpjfeolagohkaaGreatK17
import Derived.Test.YthpjfeolagohkaaGreatK18
set_option maxRecDepth 100000
set_option maxHeartbeats 8000000
set_option linter.unusedVariables false
set_option linter.unusedSimpArgs false
namespace Go.Vc
open Go
theorem Zs:(∀ (H:Hp) (b:Nat) (l:List Value),(H.wr b l).size=H.size)∧(∀ (H:Hp) (b:Nat) (es:List MapEntry) (k:Nat),(H.Du b es k).size=H.size)∧(∀ (H:Hp) (T:TypeId) (l:List Value),(H.new T l).size=H.size+1)∧∀H:Hp,H.fh.size=H.size+1:=⟨fu,LC,aq,ii⟩
theorem Zv:(∀ {H:Hp} {b c:Nat} {l:List Value},b≠c→(H.wr b l).rd c=H.rd c∧(H.wr b l).own c=H.own c∧(H.wr b l).mp c=H.mp c)∧(∀ {H:Hp} {b c:Nat} {es:List MapEntry} {k:Nat},b≠c→(H.Du b es k).rd c=H.rd c∧(H.Du b es k).own c=H.own c∧(H.Du b es k).mp c=H.mp c)∧
 (∀ {H:Hp} {c:Nat} {T:TypeId} {l:List Value},c<H.size→(H.new T l).rd c=H.rd c∧(H.new T l).own c=H.own c∧(H.new T l).mp c=H.mp c)∧(∀ {H:Hp} {c:Nat},c<H.size→H.fh.rd c=H.rd c∧H.fh.own c=H.own c∧H.fh.mp c=H.mp c)∧
 (∀ {H:Hp} {c:Nat} {T:TypeId} {l:List Value},c=H.size→(H.new T l).rd c=some l∧(H.new T l).own c=some l)∧∀ {H:Hp} {c:Nat},c=H.size→H.fh.mp c=some ([],0):=
 ⟨fun h=>⟨R6 h,pQ h,R7 h⟩,fun h=>⟨PV h,Ny h,PW h⟩,fun h=>⟨PX h,bL h,PY h⟩,fun h=>⟨Nz h,LD h,NA h⟩,fun h=>⟨PZ h,be h⟩,fun h=>NB h⟩
attribute [go_sem_proc] Nat.reduceBEq Nat.reduceAdd Nat.reduceMul Nat.reduceLeDiff
theorem vs{p q:Prop}(h:q)(e:p=q:=by conv=>lhs;simp(disch:=(first|omega| (simp only[Zs]<;>omega)|fail)) only[go_sem, ↓reduceIte,Zv]):p:=e.mpr h
theorem v1{p q a0:Prop}(x0:a0)(h:q)(e:a0→p=q:=by intro y0;conv=>lhs;simp(disch:=(first|omega| (simp only[Zs]<;>omega)|fail)) only[go_sem, ↓reduceIte,Zv,y0]):p:=(e x0).mpr h
theorem v2{p q a0 a1:Prop}(x0:a0)(x1:a1)(h:q)(e:a0→a1→p=q:=by intro y0 y1;conv=>lhs;simp(disch:=(first|omega| (simp only[Zs]<;>omega)|fail)) only[go_sem, ↓reduceIte,Zv,y0,y1]):p:=(e x0 x1).mpr h
theorem v3{p q a0 a1 a2:Prop}(x0:a0)(x1:a1)(x2:a2)(h:q)(e:a0→a1→a2→p=q:=by intro y0 y1 y2;conv=>lhs;simp(disch:=(first|omega| (simp only[Zs]<;>omega)|fail)) only[go_sem, ↓reduceIte,Zv,y0,y1,y2]):p:=(e x0 x1 x2).mpr h
theorem v4{p q a0 a1 a2 a3:Prop}(x0:a0)(x1:a1)(x2:a2)(x3:a3)(h:q)(e:a0→a1→a2→a3→p=q:=by intro y0 y1 y2 y3;conv=>lhs;simp(disch:=(first|omega| (simp only[Zs]<;>omega)|fail)) only[go_sem, ↓reduceIte,Zv,y0,y1,y2,y3]):p:=(e x0 x1 x2 x3).mpr h
theorem v5{p q a0 a1 a2 a3 a4:Prop}(x0:a0)(x1:a1)(x2:a2)(x3:a3)(x4:a4)(h:q)(e:a0→a1→a2→a3→a4→p=q:=by intro y0 y1 y2 y3 y4;conv=>lhs;simp(disch:=(first|omega| (simp only[Zs]<;>omega)|fail)) only[go_sem, ↓reduceIte,Zv,y0,y1,y2,y3,y4]):p:=(e x0 x1 x2 x3 x4).mpr h
theorem v6{p q a0 a1 a2 a3 a4 a5:Prop}(x0:a0)(x1:a1)(x2:a2)(x3:a3)(x4:a4)(x5:a5)(h:q)(e:a0→a1→a2→a3→a4→a5→p=q:=by intro y0 y1 y2 y3 y4 y5;conv=>lhs;simp(disch:=(first|omega| (simp only[Zs]<;>omega)|fail)) only[go_sem, ↓reduceIte,Zv,y0,y1,y2,y3,y4,y5]):p:=(e x0 x1 x2 x3 x4 x5).mpr h
theorem v7{p q a0 a1 a2 a3 a4 a5 a6:Prop}(x0:a0)(x1:a1)(x2:a2)(x3:a3)(x4:a4)(x5:a5)(x6:a6)(h:q)(e:a0→a1→a2→a3→a4→a5→a6→p=q:=by intro y0 y1 y2 y3 y4 y5 y6;conv=>lhs;simp(disch:=(first|omega| (simp only[Zs]<;>omega)|fail)) only[go_sem, ↓reduceIte,Zv,y0,y1,y2,y3,y4,y5,y6]):p:=(e x0 x1 x2 x3 x4 x5 x6).mpr h
theorem v8{p q a0 a1 a2 a3 a4 a5 a6 a7:Prop}(x0:a0)(x1:a1)(x2:a2)(x3:a3)(x4:a4)(x5:a5)(x6:a6)(x7:a7)(h:q)(e:a0→a1→a2→a3→a4→a5→a6→a7→p=q:=by intro y0 y1 y2 y3 y4 y5 y6 y7;conv=>lhs;simp(disch:=(first|omega| (simp only[Zs]<;>omega)|fail)) only[go_sem, ↓reduceIte,Zv,y0,y1,y2,y3,y4,y5,y6,y7]):p:=(e x0 x1 x2 x3 x4 x5 x6 x7).mpr h
theorem v9{p q a0 a1 a2 a3 a4 a5 a6 a7 a8:Prop}(x0:a0)(x1:a1)(x2:a2)(x3:a3)(x4:a4)(x5:a5)(x6:a6)(x7:a7)(x8:a8)(h:q)(e:a0→a1→a2→a3→a4→a5→a6→a7→a8→p=q:=by intro y0 y1 y2 y3 y4 y5 y6 y7 y8;conv=>lhs;simp(disch:=(first|omega| (simp only[Zs]<;>omega)|fail)) only[go_sem, ↓reduceIte,Zv,y0,y1,y2,y3,y4,y5,y6,y7,y8]):p:=(e x0 x1 x2 x3 x4 x5 x6 x7 x8).mpr h
theorem v11{p q a0 a1 a2 a3 a4 a5 a6 a7 a8 a9 a10:Prop}(x0:a0)(x1:a1)(x2:a2)(x3:a3)(x4:a4)(x5:a5)(x6:a6)(x7:a7)(x8:a8)(x9:a9)(x10:a10)(h:q)(e:a0→a1→a2→a3→a4→a5→a6→a7→a8→a9→a10→p=q:=by intro y0 y1 y2 y3 y4 y5 y6 y7 y8 y9 y10;conv=>lhs;simp(disch:=(first|omega| (simp only[Zs]<;>omega)|fail)) only[go_sem, ↓reduceIte,Zv,y0,y1,y2,y3,y4,y5,y6,y7,y8,y9,y10]):p:=(e x0 x1 x2 x3 x4 x5 x6 x7 x8 x9 x10).mpr h
theorem v12{p q a0 a1 a2 a3 a4 a5 a6 a7 a8 a9 a10 a11:Prop}(x0:a0)(x1:a1)(x2:a2)(x3:a3)(x4:a4)(x5:a5)(x6:a6)(x7:a7)(x8:a8)(x9:a9)(x10:a10)(x11:a11)(h:q)(e:a0→a1→a2→a3→a4→a5→a6→a7→a8→a9→a10→a11→p=q:=by intro y0 y1 y2 y3 y4 y5 y6 y7 y8 y9 y10 y11;conv=>lhs;simp(disch:=(first|omega| (simp only[Zs]<;>omega)|fail)) only[go_sem, ↓reduceIte,Zv,y0,y1,y2,y3,y4,y5,y6,y7,y8,y9,y10,y11]):p:=(e x0 x1 x2 x3 x4 x5 x6 x7 x8 x9 x10 x11).mpr h
end Go.Vc
namespace Go.Proofs.YthpjfeolagohkaaGreat
open Go Go.Vc
abbrev i64(n:Int):Value:=.int .i64 n
abbrev ptr(b:Nat):Value:=.pointer (some ⟨b,0,none⟩)
abbrev u64(n:Int):Value:=.int .u64 n
abbrev tu(k s:Int):Value:=.agg [i64 k,u64 s].toArray
abbrev CB(l:List UInt8):Value:=.string ⟨l.toArray⟩
theorem P0(a b:List UInt8):(⟨a.toArray⟩:ByteArray)++⟨b.toArray⟩=⟨(a++b).toArray⟩:=by
 apply ByteArray.ext
 rw[ByteArray.data_append]
 simp
theorem Uu(a b:List UInt8)(h:a.length+b.length≤1000000000000):(if((a.toArray.size+b.toArray.size:Nat):Int)>IntKind.i64.max then none else some (Value.string ((⟨a.toArray⟩:ByteArray)++⟨b.toArray⟩)))=some (CB (a++b)):=by
 have e1:IntKind.i64.max=9223372036854775807:=rfl
 rw[if_neg (by rw[e1];simp only[apP];omega),P0]
theorem pR(a b:List UInt8):((⟨a.toArray⟩:ByteArray).toList== (⟨b.toArray⟩:ByteArray).toList)=decide (a=b):=by
 rw[←beq_toListBytes]
 show(a.toArray==b.toArray)=_
 by_cases h:a=b
 ·subst h;simp
 ·have h2:¬a.toArray=b.toArray:=fun e=>h (by simpa using e)
  simp[h]
theorem iI(l:List UInt8):(⟨l.toArray⟩:ByteArray).size=l.length:=by simp[ByteArray.size]
theorem Uv(l:List UInt8)(i:Nat):(⟨l.toArray⟩:ByteArray)[i]? =l[i]? :=by
 by_cases h:i<l.length
 ·rw[aop h,getElem?_pos _ i (by rw[iI];exact h)]
  rfl
 ·rw[aoC (by omega),getElem?_neg _ i (by rw[iI];exact h)]
theorem OM(a:List UInt8):((⟨a.toArray⟩:ByteArray).toList== (⟨#[]⟩:ByteArray).toList)=decide (a=[]):=pR a []
theorem Uw(l:List UInt8)(a b:Nat):(⟨l.toArray⟩:ByteArray).extract a b=⟨((l.take b).drop a).toArray⟩:=by
 apply ByteArray.ext
 rw[ByteArray.data_extract]
 simp[List.drop_take]
def bt(b:Bool):UInt8:=if b then 49 else 48
abbrev jc(w:List Bool):Value:=CB (w.map bt)
abbrev bv(x:Bool):Value:=.int .u8 (bt x).toNat
theorem abo:bv true= .int .u8 49:=rfl
def FK(H:Hp)(v:Value)(w:List Bool)(b:Nat):Prop:=
 ∃l c,v= .slice (some ⟨b,0,none⟩) w.length c∧DW (H.own b) (H.nX b)=some l∧w.length≤c∧c≤l.length∧l.take w.length=w.map bv
theorem FK.lt{H:Hp}{v:Value}{w:List Bool}{b:Nat}(h:FK H v w b):b<H.size:=by
 obtain⟨l,c,_,h2,_⟩:=h
 exact zX (mC h2)
theorem ON{S:Nat→Prop}{H H':Hp}(e:ag S H H'){b:Nat}{l:List Value}(h:DW (H.own b) (H.nX b)=some l)(hb:¬S b):DW (H'.own b) (H'.nX b)=some l:=by
 rcases AQ h with h|h
 ·exact yY (e.own h hb)
 ·exact yZ (e.nX h hb)
theorem FK.ext{S:Nat→Prop}{H H':Hp}{v:Value}{w:List Bool}{b:Nat}(h:FK H v w b)(e:ag S H H')(hb:¬S b):FK H' v w b:=by
 obtain⟨l,c,h1,h2,h3⟩:=h
 exact⟨l,c,h1,ON e h2 hb,h3⟩
theorem FK.rd{H:Hp}{v:Value}{w:List Bool}{b:Nat}(h:FK H v w b):cK H 1 v w.length (w.map bv):=by
 obtain⟨l,c,h1,h2,h3,h4,h5⟩:=h
 refine⟨by simp,.inr ⟨b,0,c,l,h1,mC h2,by omega,by simpa using h5⟩⟩
theorem FK.set{H:Hp}{c:Nat}{w:List Bool}{b:Nat}{l:List Value}(hl:DW (H.own b) (H.nX b)=some l)(h3:w.length≤c)(h4:c≤l.length)(h5:l.take w.length=w.map bv)(i:Nat)(x:Bool):
  FK (H.wr b (l.set i (bv x))) (.slice (some ⟨b,0,none⟩) w.length c) (w.set i x) b:=
 ⟨l.set i (bv x),c,by rw[aot],uv hl (by rw[aot]),by rw[aot];exact h3,by rw[aot];exact h4,by rw[aot,mB,h5,ao9]⟩
theorem FK.append{H:Hp}{T:TypeId}{v:Value}{w:List Bool}{b:Nat}{K:Value→Hp→Prop}(h:FK H v w b)(hl:w.length≤1000000)
  (hk:∀v' H' b',FK H' v' (w++[false]) b'→ag (fun z=>z=b) H H'→(b'=b∨H.size≤b')→K v' H'):
  eM T 1 1 [.int .u8 0] v (.slice (some ⟨H.size,0,none⟩) 1 1) (H.new T [.int .u8 48]) K:=by
 have aK:=h.lt
 obtain⟨l,c,rfl,h2,h3,h4,h5⟩:=h
 have e1:ag (fun z=>z=b) H (H.new T [.int .u8 48]):=(ag.refl _ _).new _ _
 have f1:am H (H.new T [.int .u8 48]):=(ag.refl _ _).new _ _
 have JI:=ON f1 h2 (fun h=>h)
 have hr:cK (H.new T [.int .u8 48]) 1 (.slice (some ⟨H.size,0,none⟩) 1 1) 1 [.int .u8 48]:=(Sl.cB (size:=1) (n:=1) (xs:=[Value.int .u8 48]) rfl rfl).rd
 refine cK.rowOf hr (F:=fun m new=>(w.length+m≤c→m=0→K (.slice (some ⟨b,0,none⟩) w.length c) (H.new T [.int .u8 48]))∧
   (w.length+m≤c→m≠0→rU (some ⟨b,0,none⟩) fun b o=>aA (DW ((H.new T [.int .u8 48]).own b) ((H.new T [.int .u8 48]).nX b)) fun l=>dW (o+(w.length+m)*1≤l.length∧fE new) (K (.slice (some ⟨b,0,none⟩) (w.length+m) c) ((H.new T [.int .u8 48]).wr b (aY l (o+w.length*1) new))))∧
   (c<w.length+m→Builtin.nextslicecap (w.length+m) c*1≤2^48∧
    Vc.rowOf (H.new T [.int .u8 48]) 1 (.slice (some ⟨b,0,none⟩) w.length c) fun _ PD=>∀c',w.length+m≤c'→K (.slice (some ⟨(H.new T [.int .u8 48]).size,0,none⟩) (w.length+m) c') ((H.new T [.int .u8 48]).new T (PD++new++ce [.int .u8 0] (c' - (w.length+m)))))) ?_
 refine⟨fun _ h=>absurd h (by omega),fun rS _=>?_,fun tw=>⟨?_,?_⟩⟩
 ·show aA (DW ((H.new T [.int .u8 48]).own b) ((H.new T [.int .u8 48]).nX b)) _
  rw[JI]
  refine⟨⟨by omega,by intro v hv;rw[aoH]at hv;subst hv;rfl⟩,?_⟩
  rw[aor]
  refine hk _ _ b ⟨_,c,by simp,uv JI (by rw[fe]),by simpa using rS,by rw[fe];exact h4,?_⟩ (e1.wr (fun _=>rfl) _) (.inl rfl)
  have:=Dy (new:=[Value.int .u8 48]) (l:=l) (xs:=w.map bv) (p:=w.length) h5 (by simp) (by simp;omega)
  rw[aoy,ao5,aos]
  exact this
 ·have h2:Builtin.nextslicecap (w.length+1) c≤2*(w.length+1):=nextslicecap_le tw
  omega
 ·have hw:cK (H.new T [.int .u8 48]) 1 (.slice (some ⟨b,0,none⟩) w.length c) w.length (w.map bv):=⟨by simp,.inr ⟨b,0,c,l,rfl,mC JI,by omega,by simpa using h5⟩⟩
  refine cK.rowOf hw ?_
  intro c' GW
  refine hk _ _ (H.size+1) ⟨_,c',by simp[aq],yY (be (by simp only[aq])),by simpa using GW,?_,?_⟩ (e1.new _ _) (.inr (by omega))
  ·simp only[aoy,aoA,tP,aoV,aos]
   omega
  ·have e:(w++[false]).length=(w.map bv++[Value.int .u8 48]).length:=by simp
   rw[e,List.take_left,ao5]
   rfl
theorem R9:∀k,dM (List.replicate k true)=List.replicate k false:=by
 intro k
 induction k with
 |zero=>rfl
 |succ k ih=>rw[apv,Fa,ih,apv]
theorem Sa(u:List Bool)(k:Nat):dM (u++false::List.replicate k true)=u++true::List.replicate k false:=by
 induction k with
 |zero=>exact Iw u
 |succ k ih=>
  rw[show u++false::List.replicate (k+1) true=(u++false::List.replicate k true)++[true] by rw[apv];simp,Fa,ih,apv]
  simp
theorem Sb{w:List Bool}{i:Nat}{x:Bool}(h:w[i]? =some x):w=w.take i++x::w.drop (i+1):=by
 have h1:=(aoq.1 h)
 obtain⟨h2,h3⟩:=h1
 conv=>lhs;rw[←apt i w]
 rw[apm h2,h3]
theorem CC{H:Hp}{v:Value}{w:List Bool}{b:Nat}(h:FK H v w b)(n:Nat)(hw:w.length≤1000)(hn:n≤1000):
  af Tryz.prog Hk [v,i64 n] H fun v' H'=>ar (∃b',FK H' v' (is n (dM w)) b'∧ag (fun z=>z=b) H H'∧(b'=b∨H.size≤b')):=by
 refine aZ Hx ?_
 obtain⟨l0,c,rfl,h2,h3,h4,h5⟩:=h
 refine vs ?_
 have wd0:FK H (.slice (some ⟨b,0,none⟩) w.length c) (w.take w.length++List.replicate (w.length - w.length) false) b:=by
  rw[apq,apQ,ao3,aoQ]
  exact⟨l0,c,rfl,h2,h3,h4,h5⟩
 refine aS.intro (fun i env H'=>i≤w.length∧(∀x∈w.drop i,x=true)∧FK H' (.slice (some ⟨b,0,none⟩) w.length c) (w.take i++List.replicate (w.length - i) false) b∧ag (fun z=>z=b) H H'∧
  env=[(0,.slice (some ⟨b,0,none⟩) w.length c),(1,i64 n),(5,i64 ((i:Int) - 1))]) w.length ⟨aoB _,by simp,wd0,ag.refl _ _,by rw[wrap64 (by omega) (by omega)]⟩ ?_
 clear wd0 h2 h3 h4 h5
 rintro i env H1 ⟨hi,dJ,wd,e1,rfl⟩
 have wl:(w.take i++List.replicate (w.length - i) false).length=w.length:=by simp;omega
 have hwr:w.drop i=List.replicate (w.length - i) true:=List.eq_replicate_iff.2 ⟨by simp,dJ⟩
 refine vs ?_
 refine ai.dec (fun h0=>?_) (fun h0=>?_)<;>refine vs ?_
 ·obtain⟨x,hx⟩:∃x,w[i - 1]? =some x:=⟨_,aop (by omega)⟩
  obtain⟨l,c',hv,k2,k3,k4,k5⟩:=id wd
  injection hv with _ _ hc
  subst hc
  have hto:((i:Int) - 1).toNat=i - 1:=by omega
  have aV:l[i - 1]? =some (bv x):=by
   have h7:(l.take w.length)[i - 1]? =some (bv x):=by
    rw[wl]at k5
    rw[k5,aoG,aoF (by simp;omega),aoT (by omega),hx]
    rfl
   rwa[aoT (by omega)]at h7
  refine⟨⟨by omega,by omega⟩,?_⟩
  refine v5 (mC k2) aor aos hto aV ?_
  have ma:=fun y=>FK.set k2 k3 k4 k5 (i - 1) y
  rw[wl]at ma k3
  cases x
  ·refine ai.bI rfl ?_
   refine vs ?_
   refine⟨⟨by omega,by omega⟩,?_⟩
   refine v4 k2 aor aos hto ?_
   refine⟨by omega,?_⟩
   refine vs ?_
   have XA:(w.take i++List.replicate (w.length - i) false).set (i - 1) true=dM w:=by
    have e:=Sb hx
    have e2:w.drop (i - 1+1)=List.replicate (w.length - i) true:=by rw[show i - 1+1=i by omega,hwr]
    rw[e2]at e
    conv=>rhs;rw[e,Sa]
    have e3:w.take i=w.take (i - 1)++[false]:=by
     rw[show i=i - 1+1 by omega,aoM,hx];rfl
    rw[e3,apk,apS _ _ (by rw[aoS];omega),aoS,show i - 1 - min (i - 1) w.length=0 by omega]
    rfl
   have ws:=ma true
   rw[XA]at ws
   have es:ag (fun z=>z=b) H (H1.wr b (l.set (i - 1) (bv true))):=e1.wr (fun _=>rfl) _
   rw[abo]at ws es
   generalize H1.wr b (l.set (i - 1) (Value.int .u8 49))=H2 at*
   have il:(dM w).length=w.length:=tF w
   have JJ:∀k,(dM w++List.replicate k false).length=w.length+k:=fun k=>by simp[il]
   refine aS.intro (fun m env H'=>∃ (k:Nat) (v:Value) (b':Nat),m=n - (w.length+k)∧(k=0∨w.length+k≤n)∧FK H' v (dM w++List.replicate k false) b'∧ag (fun z=>z=b) H H'∧(b'=b∨H.size≤b')∧env=[(0,v),(1,i64 n)]) (n - w.length) ⟨0,.slice (some ⟨b,0,none⟩) w.length c,b,rfl,.inl rfl,by rw[apQ,ao3];exact ws,es,.inl rfl,rfl⟩ ?_
   rintro m env H3 ⟨k,v,b',rfl,hk,w3,e3,mU,rfl⟩
   obtain⟨l3,c3,rfl,q2,q3,q4,q5⟩:=id w3
   rw[JJ]at w3
   refine vs ?_
   refine ai.dec (fun aK=>?_) (fun aK=>?_)<;>refine vs ?_
   ·rw[JJ]at aK
    have Q9:=w3.lt
    refine FK.append (w:=dM w++List.replicate k false) (by rw[JJ];exact w3) (by rw[JJ];omega) fun v' H4 b4 w4 e4 hb4=>?_
    refine vs ?_
    have z3:=e3.size
    refine⟨n - (w.length+(k+1)),by omega,k+1,v',b4,rfl,.inr (by omega),?_,e3.k9 e4 (fun z hz h=>by omega),by omega,rfl⟩
    rw[apv,←apk]
    exact w4
   ·rw[JJ]at aK
    have hp:dM w++List.replicate k false=is n (dM w):=by
     unfold is
     rw[il]
     congr 2
     omega
    rw[hp]at w3
    refine⟨b',?_,e3,mU⟩
    rw[JJ,←JJ k,hp]
    rw[←JJ k,hp]at w3
    exact w3
  ·refine ai.aP rfl ?_
   refine vs ?_
   refine⟨⟨by omega,by omega⟩,?_⟩
   refine v4 k2 aor aos hto ?_
   refine⟨by omega,?_⟩
   refine vs ?_
   have ws:=ma false
   have AR:(w.take i++List.replicate (w.length - i) false).set (i - 1) false=w.take (i - 1)++List.replicate (w.length - (i - 1)) false:=by
    have e3:w.take i=w.take (i - 1)++[true]:=by
     rw[show i=i - 1+1 by omega,aoM,hx];rfl
    rw[e3,apk,apS _ _ (by rw[aoS];omega),aoS,show i - 1 - min (i - 1) w.length=0 by omega,show w.length - (i - 1)=(w.length - i)+1 by omega,aoZ]
    rfl
   rw[AR]at ws
   refine⟨i - 1,by omega,by omega,fun y hy=>?_,ws,e1.wr (fun _=>rfl) _,?_⟩
   ·rw[apm (by omega)]at hy
    rcases apa.1 hy with rfl|hy
    ·rw[aop (by omega)]at hx;injection hx
    ·rw[show i - 1+1=i by omega]at hy
     exact dJ y hy
   ·rw[wrap64 (by omega) (by omega),show((i - 1:Nat):Int) - 1=(i:Int) - 1 - 1 by omega]
 ·have CD:i=0:=by omega
  subst CD
  rw[Nat.sub_zero]at wd hwr
  have XA:dM w=List.replicate w.length false:=by
   rw[apO]at hwr
   conv=>lhs;rw[hwr]
   exact R9 _
  rw[ap1,apD,←XA]at wd
  have ws:=wd
  have es:=e1
  clear wd e1
  generalize H1=H2 at*
  have il:(dM w).length=w.length:=tF w
  have JJ:∀k,(dM w++List.replicate k false).length=w.length+k:=fun k=>by simp[il]
  refine aS.intro (fun m env H'=>∃ (k:Nat) (v:Value) (b':Nat),m=n - (w.length+k)∧(k=0∨w.length+k≤n)∧FK H' v (dM w++List.replicate k false) b'∧ag (fun z=>z=b) H H'∧(b'=b∨H.size≤b')∧env=[(0,v),(1,i64 n)]) (n - w.length) ⟨0,.slice (some ⟨b,0,none⟩) w.length c,b,rfl,.inl rfl,by rw[apQ,ao3];exact ws,es,.inl rfl,rfl⟩ ?_
  rintro m env H3 ⟨k,v,b',rfl,hk,w3,e3,mU,rfl⟩
  obtain⟨l3,c3,rfl,q2,q3,q4,q5⟩:=id w3
  rw[JJ]at w3
  refine vs ?_
  refine ai.dec (fun aK=>?_) (fun aK=>?_)<;>refine vs ?_
  ·rw[JJ]at aK
   have Q9:=w3.lt
   refine FK.append (w:=dM w++List.replicate k false) (by rw[JJ];exact w3) (by rw[JJ];omega) fun v' H4 b4 w4 e4 hb4=>?_
   refine vs ?_
   have z3:=e3.size
   refine⟨n - (w.length+(k+1)),by omega,k+1,v',b4,rfl,.inr (by omega),?_,e3.k9 e4 (fun z hz h=>by omega),by omega,rfl⟩
   rw[apv,←apk]
   exact w4
  ·rw[JJ]at aK
   have hp:dM w++List.replicate k false=is n (dM w):=by
    unfold is
    rw[il]
    congr 2
    omega
   rw[hp]at w3
   refine⟨b',?_,e3,mU⟩
   rw[JJ,←JJ k,hp]
   rw[←JJ k,hp]at w3
   exact w3
def Sc(y:Lf):List Value:=[i64 y.a,i64 y.b,i64 y.s]
def ep(tr:List Lf):List Value:=tr.flatMap Sc
theorem vq(tr:List Lf):(ep tr).length=tr.length*3:=by
 induction tr with
 |nil=>rfl
 |cons c r ih=>simp only[ep,apU,aoy,Sc,aoI,apo]at*;omega
theorem P9(a b:List Lf):ep (a++b)=ep a++ep b:=List.flatMap_append
theorem OO{tr:List Lf}{i:Nat}{y:Lf}(hi:tr[i]? =some y):(ep tr)[i*3]? =some (i64 y.a)∧(ep tr)[i*3+1]? =some (i64 y.b)∧(ep tr)[i*3+2]? =some (i64 y.s):=by
 induction tr generalizing i with
 |nil=>simp at hi
 |cons a r ih=>
  have e:ep (a::r)=i64 a.a::i64 a.b::i64 a.s::ep r:=rfl
  rw[e]
  cases i with
  |zero=>simp at hi;subst hi;exact⟨rfl,rfl,rfl⟩
  |succ i=>
   have:=ih (by simpa using hi)
   rw[show(i+1)*3=i*3+3 by omega]
   exact this
theorem JK{tr:List Lf}{i:Nat}{y:Lf}(hi:tr[i]? =some y)(c:Bool):(ep tr)[i*3+c.toNat]? =some (i64 (y.nx c)):=by
 obtain⟨h1,h2,h3⟩:=OO hi
 cases c
 ·exact h1
 ·exact h2
theorem Sd{tr:List Lf}{i:Nat}{y:Lf}(hi:tr[i]? =some y)(c:Bool)(k:Nat):(ep tr).set (i*3+c.toNat) (i64 k)=ep (tr.set i (y.go c k)):=by
 induction tr generalizing i with
 |nil=>simp at hi
 |cons a r ih=>
  have e:ep (a::r)=i64 a.a::i64 a.b::i64 a.s::ep r:=rfl
  cases i with
  |zero=>
   simp at hi;subst hi
   cases c<;>rfl
  |succ i=>
   have e2:ep ((a::r).set (i+1) (y.go c k))=i64 a.a::i64 a.b::i64 a.s::ep (r.set i (y.go c k)):=rfl
   rw[e,e2,show(i+1)*3+c.toNat=i*3+c.toNat+1+1+1 by omega]
   simp only[apb]
   rw[ih (by simpa using hi)]
theorem Qa{tr:List Lf}{i:Nat}{y:Lf}(hi:tr[i]? =some y)(s:Int):(ep tr).set (i*3+2) (i64 s)=ep (tr.set i ⟨y.a,y.b,s⟩):=by
 induction tr generalizing i with
 |nil=>simp at hi
 |cons a r ih=>
  have e:ep (a::r)=i64 a.a::i64 a.b::i64 a.s::ep r:=rfl
  cases i with
  |zero=>simp at hi;subst hi;rfl
  |succ i=>
   have e2:ep ((a::r).set (i+1) ⟨y.a,y.b,s⟩)=i64 a.a::i64 a.b::i64 a.s::ep (r.set i ⟨y.a,y.b,s⟩):=rfl
   rw[e,e2,show(i+1)*3+2=i*3+2+1+1+1 by omega]
   simp only[apb]
   rw[ih (by simpa using hi)]
theorem Se(c:Bool):IntKind.u8.wrap ((((bt c).toNat:Nat):Int) - 48)=((c.toNat:Nat):Int):=by cases c<;>decide
theorem JL{H:Hp}{size n:Nat}{v:Value}{xs:List Value}(h:cK H size v n xs):∃a c,v= .slice a n c:=by
 obtain⟨_,⟨rfl,a,c,rfl⟩| ⟨b,o,c,l,rfl,_⟩⟩:=h
 ·exact⟨_,_,rfl⟩
 ·exact⟨_,_,rfl⟩
structure ij(H:Hp)(x wb tb:Nat)(ws:List (List Bool))(tr:List Lf):Prop where
 NC:∃tv,H.own x=some [.slice (some ⟨wb,0,none⟩) ws.length ws.length,tv]∧Sl H 3 tv tr.length (ep tr) (some tb)
 words:H.own wb=some (ws.map jc)
 ne:x≠wb∧x≠tb∧wb≠tb
theorem ij.ext{S:Nat→Prop}{H H':Hp}{x wb tb:Nat}{ws:List (List Bool)}{tr:List Lf}(h:ij H x wb tb ws tr)(e:ag S H H')(hx:¬S x)(hw:¬S wb)(ht:¬S tb):ij H' x wb tb ws tr:=by
 obtain⟨tv,h1,h2⟩:=h.NC
 exact⟨⟨tv,e.own h1 hx,h2.ext e (fun b hb=>by injection hb with hb;exact hb▸ht)⟩,e.own h.words hw,h.ne⟩
theorem ij.lt{H:Hp}{x wb tb:Nat}{ws:List (List Bool)}{tr:List Lf}(h:ij H x wb tb ws tr):x<H.size∧wb<H.size∧tb<H.size:=by
 obtain⟨tv,h1,h2⟩:=h.NC
 exact⟨aB h1,aB h.words,h2.lt⟩
theorem ij.BS{H:Hp}{x wb tb:Nat}{ws:List (List Bool)}{tr:List Lf}(h:ij H x wb tb ws tr):∃c l,H.own x=some [.slice (some ⟨wb,0,none⟩) ws.length ws.length,.slice (some ⟨tb,0,none⟩) tr.length c]∧H.own tb=some l∧tr.length≤c∧c*3≤l.length∧l.take (tr.length*3)=ep tr:=by
 obtain⟨tv,h1,h2⟩:=h.NC
 obtain⟨_,l,c,rfl,h3,h4,h5,h6⟩:=h2
 exact⟨c,l,h1,h3,h4,h5,h6⟩
theorem pS{l xs:List Value}{n i:Nat}{v:Value}(h:l.take n=xs)(hi:xs[i]? =some v):l[i]? =some v:=by
 rw[←h,aoU]at hi
 split at hi
 ·exact hi
 ·cases hi
theorem ij.abp{H:Hp}{x wb tb:Nat}{ws:List (List Bool)}{tr zA:List Lf}(h:ij H x wb tb ws tr){l:List Value}(hl:H.own tb=some l)(i:Nat)(v:Value)(hs:(ep tr).set i v=ep zA)(hn:zA.length=tr.length):ij (H.wr tb (l.set i v)) x wb tb ws zA:=by
 obtain⟨c,l',h1,h2,h3,h4,h5⟩:=h.BS
 rw[hl]at h2
 injection h2 with h2
 subst h2
 obtain⟨n1,n2,n3⟩:=h.ne
 refine⟨⟨_,by rw[pQ (Ne.symm n2)];exact h1,?_⟩,by rw[pQ (Ne.symm n3)];exact h.words,h.ne⟩
 refine⟨by rw[vq],l.set i v,c,by rw[hn],ah hl,by rw[hn];exact h3,by rw[aot];exact h4,by rw[hn,mB,h5,hs]⟩
theorem za(w:List Bool):((⟨(w.map bt).toArray⟩:ByteArray).data.toList.map fun b=>Value.int .u8 b.toNat)=w.map bv:=by
 simp only[apE]
 rfl
theorem Ed{H:Hp}{x wb tb s:Nat}{ws:List (List Bool)}{tr:List Lf}{fD:List (List Bool)}{P:List (Nat×List Bool)}{w:List Bool}(m0:ij H x wb tb ws tr)(t0:jN tr fD P [])(hs:ws[s]? =some w)(hw:w.length≤1000)(hl:tr.length≤1000000000)(TT:ws.length≤1000000000):
  af Tryz.prog Ad [ptr x,i64 s] H fun _ H'=>ar (∃zA Sf LF,ij H' x wb LF ws zA∧jN zA Sf ((s,w)::P) []∧zA.length≤tr.length+w.length∧ag (fun z=>z=x∨z=tb) H H'∧(LF=tb∨H.size≤LF)):=by
 have FL:=(aoq.1 hs).1
 obtain⟨c0,l0,o0,o1,o2,o3,o4⟩:=m0.BS
 have IL:(ws.map jc)[s]? =some (jc w):=by rw[aoG,hs];rfl
 refine aZ Ax ?_
 refine v1 (ae o0) ?_
 refine⟨⟨by omega,by omega⟩,?_⟩
 refine v5 (ae m0.words) aos aor Int.toNat_natCast IL ?_
 intro cc CE
 rw[iI,aoA]at CE ⊢
 rw[za]
 have e1:am H (H.jR 5 (w.map bv++List.replicate (cc - w.length) (.int .u8 0))):=(ag.refl _ _).jR _ _
 have r1:cK (H.jR 5 (w.map bv++List.replicate (cc - w.length) (.int .u8 0))) 1 (.slice (some ⟨H.size,0,none⟩) w.length cc) w.length (w.map bv):=
  ⟨by simp,.inr ⟨H.size,0,cc,_,rfl,pT (AS _ _ _),by simp,by simp⟩⟩
 generalize H.jR 5 (w.map bv++List.replicate (cc - w.length) (.int .u8 0))=H1 at*
 have m1:=m0.ext e1 (fun h=>h) (fun h=>h) (fun h=>h)
 have z1:=e1.size
 have aK:=m0.lt
 refine vs ?_
 refine aS.intro (fun m env H'=>∃ (j at_:Nat) (zA:List Lf) (Sf:List (List Bool)) (LF:Nat),m=w.length - j∧j≤w.length∧ij H' x wb LF ws zA∧jN zA Sf P (w.take j)∧Sf[at_]? =some (w.take j)∧zA.length≤tr.length+j∧cK H' 1 (.slice (some ⟨H.size,0,none⟩) w.length cc) w.length (w.map bv)∧ag (fun z=>z=x∨z=tb) H H'∧(LF=tb∨H.size<LF)∧
  env=[(0,ptr x),(1,i64 s),(4,i64 at_),(14,.slice (some ⟨H.size,0,none⟩) w.length cc),(15,i64 w.length),(16,i64 j)]) w.length
  ⟨0,0,tr,fD,tb,by omega,by omega,m1,t0,t0.root,by omega,r1,e1.mono (fun _ _ h=>h.elim),.inl rfl,rfl⟩ ?_
 clear r1 m1
 rintro m env H2 ⟨j,at_,zA,Sf,LF,hm,hj,m2,t2,MD,HF,r2,e2,qv,rfl⟩
 obtain⟨c2,l2,p0,p1,p2,p3,p4⟩:=m2.BS
 have lC:at_<zA.length:=by rw[t2.len];exact(aoq.1 MD).1
 obtain⟨y,hy⟩:∃y,zA[at_]? =some y:=⟨_,aop lC⟩
 have ajP:=vq zA
 refine vs ?_
 refine ai.dec (fun hc=>?_) (fun hc=>?_)<;>refine vs ?_
 ·obtain⟨b,hb⟩:∃b,w[j]? =some b:=⟨_,aop (by omega)⟩
  have Ky:w.take (j+1)=w.take j++[b]:=by rw[aoM,hb];rfl
  have aV:(w.map bv)[j]? =some (bv b):=by rw[aoG,hb];rfl
  obtain⟨_,⟨h0,_⟩| ⟨b2,o2',c2',lb,XB,fw,rS,CF⟩⟩:=id r2
  ·omega
  injection XB with q1 q2 q3
  injection q1 with q1
  injection q1 with q1 q1' _
  subst q1;subst q1';subst q3
  have Dt:lb[j]? =some (bv b):=by
   rw[apO]at CF
   exact pS CF aV
  have ET:=pS p4 (JK hy b)
  have Zo:(b.toNat:Int)<2:=by cases b<;>decide
  have aft:(0:Int)≤(b.toNat:Int):=by omega
  refine⟨⟨by omega,by omega⟩,?_⟩
  refine v6 fw Int.toNat_natCast aor aos Dt (ae p0) ?_
  rw[Se]
  refine⟨⟨by omega,by omega⟩,?_⟩
  refine v4 Int.toNat_natCast aor aos Nat.add_zero ?_
  refine⟨by omega,?_⟩
  refine v6 (ae p1) Int.toNat_natCast aor aos Nat.add_zero ET ?_
  refine ai.dec (fun h0=>?_) (fun h0=>?_)<;>refine vs ?_
  ·have h0':y.nx b=0:=by omega
   refine v1 (ae p0) ?_
   rw[Se]
   refine⟨⟨by omega,by omega⟩,?_⟩
   refine v5 Int.toNat_natCast aor aos Nat.add_zero (ae p0) ?_
   refine⟨by omega,?_⟩
   refine v5 p1 Int.toNat_natCast aor aos Nat.add_zero ?_
   refine⟨by omega,?_⟩
   refine vs ?_
   have m3:=m2.abp p1 (at_*3+b.toNat) (i64 zA.length) (Sd hy b zA.length) (by rw[aot])
   have e3:ag (fun z=>z=LF) H2 (H2.wr LF (l2.set (at_*3+b.toNat) (i64 zA.length))):=(ag.refl (fun z=>z=LF) _).wr (fun _=>rfl) _
   generalize H2.wr LF (l2.set (at_*3+b.toNat) (i64 zA.length))=H3 at*
   obtain⟨tg,V5⟩:=t2.grow hy MD h0'
   obtain⟨n1,n2,n3⟩:=m2.ne
   obtain⟨XC,s0,s1⟩:=m3.NC
   have lt2:=m2.lt
   refine v1 (ae s0) ?_
   have e4:am H3 (H3.new 106 [i64 0,i64 0,i64 (-1)]):=(ag.refl _ _).new _ _
   have r4:cK (H3.new 106 [i64 0,i64 0,i64 (-1)]) 3 (.slice (some ⟨H3.size,0,none⟩) 1 1) 1 [i64 0,i64 0,i64 (-1)]:=(Sl.cB (size:=3) (n:=1) rfl rfl).rd
   have s1':=s1.ext e4 (fun _ _ h=>h)
   have s0':=e4.own s0 (fun h=>h)
   have w4:=e4.own m3.words (fun h=>h)
   have Zy:=zX fw
   have z3:=e3.size
   have z4:=e4.size
   have z2:=e2.size
   refine Sl.append s1' r4 rfl (by intro v hv;simp at hv;rcases hv with rfl|rfl|rfl<;>rfl) (by simp;omega) ?_
   intro v' H5 dT s5 e5 hf5
   generalize H3.new 106 [i64 0,i64 0,i64 (-1)]=H4 at*
   have o5:=e5.own s0' (fun h=>n2 (by injection h with h;exact h.symm))
   have w5:=e5.own w4 (fun h=>n3 (by injection h with h;exact h.symm))
   obtain⟨V6,rfl,hb5⟩:∃V6,dT=some V6∧(V6=LF∨H4.size≤V6):=by
    rcases hf5 with rfl| ⟨b5,rfl,h1,_⟩
    ·exact⟨LF,rfl,.inl rfl⟩
    ·exact⟨b5,rfl,.inr h1⟩
   obtain⟨a',Ux,KS⟩:=JL s5.rd
   subst KS
   refine v1 o5 ?_
   generalize KS:Value.slice a' _ Ux=v' at*
   have e6:ag (fun z=>z=x) H5 (H5.wr x [.slice (some ⟨wb,0,none⟩) ws.length ws.length,v']):=(ag.refl (fun z=>z=x) _).wr (fun _=>rfl) _
   have o6:(H5.wr x [.slice (some ⟨wb,0,none⟩) ws.length ws.length,v']).own x=_:=ah o5
   have n2':x≠V6:=by omega
   have n3':wb≠V6:=by omega
   have s6:=s5.ext e6 (fun b hb h=>by injection hb with hb;exact n2' (by omega))
   have w6:=e6.own w5 (fun h=>n1 h.symm)
   have m6:ij (H5.wr x [.slice (some ⟨wb,0,none⟩) ws.length ws.length,v']) x wb V6 ws (zA.set at_ (y.go b zA.length)++[⟨0,0, -1⟩]):=by
    refine⟨⟨v',o6,?_⟩,w6,n1,n2',n3'⟩
    rw[P9,aoy]
    exact s6
   have z5:=e5.size
   have z6:=e6.size
   have e26:ag (fun z=>z=x∨z=LF) H2 (H5.wr x [.slice (some ⟨wb,0,none⟩) ws.length ws.length,v']):=
    ((e3.mono fun z _ h=>.inr h).trans (e4.mono fun _ _ h=>h.elim)).trans ((e5.mono fun z _ h=>.inr (by injection h with h;exact h.symm)).trans (e6.mono fun z _ h=>.inl h))
   generalize H5.wr x [.slice (some ⟨wb,0,none⟩) ws.length ws.length,v']=H6 at*
   obtain⟨c6,l6,g0,g1,g2,g3,g4⟩:=m6.BS
   have hy6:(zA.set at_ (y.go b zA.length)++[⟨0,0, -1⟩])[at_]? =some (y.go b zA.length):=by rw[aoF (by simpa using lC),aox lC]
   have abq:=pS g4 (JK hy6 b)
   rw[Lf.VR,if_pos rfl]at abq
   have hl6:(zA.set at_ (y.go b zA.length)++[(⟨0,0, -1⟩:Lf)]).length=zA.length+1:=by simp
   have afw:=vq (zA.set at_ (y.go b zA.length)++[⟨0,0, -1⟩])
   rw[hl6]at g0 g2 afw
   refine v1 (ae g0) ?_
   rw[Se]
   refine⟨⟨by omega,by omega⟩,?_⟩
   refine v4 Int.toNat_natCast aor aos Nat.add_zero ?_
   refine⟨by omega,?_⟩
   refine v6 (ae g1) Int.toNat_natCast aor aos Nat.add_zero abq ?_
   rw[wrap64 (n:=(j:Int)+1) (by omega) (by omega)]
   exact⟨w.length - (j+1),by omega,j+1,zA.length,_,_,V6,rfl,by omega,m6,by rw[Ky];exact tg,by rw[Ky];exact V5,by omega,⟨by simp,.inr ⟨H.size,0,cc,lb,rfl,e26.rd fw (by omega),rS,CF⟩⟩,e2.k9 e26 (fun z hz h=>by omega),by omega,rfl⟩
  ·have h0':y.nx b≠0:=by omega
   obtain⟨V5,tg⟩:=t2.step hy MD h0'
   refine v1 (ae p0) ?_
   rw[Se]
   refine⟨⟨by omega,by omega⟩,?_⟩
   refine v4 Int.toNat_natCast aor aos Nat.add_zero ?_
   refine⟨by omega,?_⟩
   refine v6 (ae p1) Int.toNat_natCast aor aos Nat.add_zero ET ?_
   rw[wrap64 (n:=(j:Int)+1) (by omega) (by omega)]
   exact⟨w.length - (j+1),by omega,j+1,y.nx b,_,_,LF,rfl,by omega,m2,by rw[Ky];exact tg,by rw[Ky];exact V5,by omega,r2,e2,qv,rfl⟩
 ·have gf:j=w.length:=by omega
  subst gf
  rw[aoQ]at t2 MD
  refine v1 (ae p0) ?_
  refine⟨⟨by omega,by omega⟩,?_⟩
  refine v5 p1 Int.toNat_natCast aor aos Nat.add_zero ?_
  refine⟨by omega,?_⟩
  refine vs ?_
  exact⟨_,_,LF,m2.abp p1 (at_*3+2) (i64 s) (Qa hy s) (by rw[aot]),t2.MP hy MD s,by rw[aot];exact HF,e2.wr (fun hz=>by omega) _,by omega⟩
def pU(c:UInt8):Bool:=decide (c=48) || decide (c=49)
def nJ(ns:List Nat):List Value:=ns.map fun(n:Nat)=>Value.int .u8 (n:Int)
theorem LG(ns:List Nat):fE (nJ ns):=fun v hv=>by
 obtain⟨x,_,rfl⟩:=ao8.1 hv
 rfl
theorem OP(a b:List Nat):nJ (a++b)=nJ a++nJ b:=ao5
theorem EX(a:List Nat):(nJ a).length=a.length:=aoA ..
theorem cK.byte{H:Hp}{a:Option Addr}{n c:Nat}{ns:List Nat}(h:cK H 1 (.slice a n c) n (nJ ns)){i x:Nat}(hx:ns[i]? =some x):
  i<n∧∃b o lb,a=some ⟨b,o,none⟩∧H.rd b=some lb∧lb[o+i]? =some (.int .u8 (x:Int)):=by
 obtain⟨hl,hv⟩:=h
 rw[EX,aos]at hl
 have hi:i<ns.length:=by
  rcases apK i ns.length with h|h
  ·exact h
  ·rw[aoC h]at hx;cases hx
 refine⟨by omega,?_⟩
 rcases hv with ⟨hn,_⟩| ⟨b,o,c2,l,hs,fw,rS,ht⟩
 ·omega
 ·injection hs with et ME G0
  refine⟨b,o,l,et,fw,?_⟩
  have h7:(nJ ns)[i]? =some (.int .u8 (x:Int)):=by unfold nJ;rw[aoG,hx];rfl
  rw[←ht,aoU]at h7
  split at h7
  ·rw[aoX]at h7;exact h7
  ·cases h7
theorem og(ns:List Nat):Go.Vc.bytesOf (nJ ns)=some (ns.map UInt8.ofNat):=by
 induction ns with
 |nil=>rfl
 |cons n ns ih=>
  show Go.Vc.bytesOf (Value.int .u8 (n:Int)::nJ ns)=_
  rw[Go.Vc.l9,ih,Int.toNat_natCast]
  rfl
theorem abr{H:Hp}{T B b:Nat}{w:Value}{ns:List Nat}{K:Value→Hp→Prop}(hb:B≤b)(hB:B≤H.size)(s:Sl H 1 w ns.length (nJ ns) (some b))(x:Nat)(hl:ns.length≤1000000000000)
  (hk:∀w' H' b',B≤b'→Sl H' 1 w' (ns++[x]).length (nJ (ns++[x])) (some b')→ag (fun z=>B≤z) H H'→K w' H'):
  eM T 1 1 [.int .u8 0] w (.slice (some ⟨H.size,0,none⟩) 1 1) (H.new T [.int .u8 (x:Int)]) K:=by
 have fl:am H (H.new T [.int .u8 (x:Int)]):=(ag.refl _ _).new _ _
 refine Sl.append (s.ext fl (fun _ _ h=>h)) (Sl.cB (size:=1) (n:=1) (xs:=nJ [x]) rfl rfl).rd rfl (LG [x]) (by omega) ?_
 intro v' H' dT s' e' MF
 have e2:ag (fun z=>B≤z) H H':=⟨apc fl.size e'.size,fun z hz hn=>by
  rw[e'.aG z (aoO hz fl.size) (fun h=>hn (by injection h with h;omega)),fl.aG z hz (fun h=>h)]⟩
 have s2:Sl H' 1 v' (ns++[x]).length (nJ (ns++[x])) dT:=by rw[aoy,OP];exact s'
 rcases MF with rfl| ⟨b',rfl,h1,h2⟩
 ·exact hk v' H' b hb s2 e2
 ·rw[aq]at h1
  exact hk v' H' b' (by omega) s2 e2
theorem XD{H:Hp}{T B:Nat}{w:Value}{ns:List Nat}{fp:Option Nat}{K:Value→Hp→Prop}(fU:∀b,fp=some b→B≤b)(hB:B≤H.size)(s:Sl H 1 w ns.length (nJ ns) fp)(x:Nat)(hl:ns.length≤1000000000000)
  (hk:∀w' H' dT,(∀b,dT=some b→B≤b)→Sl H' 1 w' (ns++[x]).length (nJ (ns++[x])) dT→ag (fun z=>B≤z) H H'→K w' H'):
  eM T 1 1 [.int .u8 0] w (.slice (some ⟨H.size,0,none⟩) 1 1) (H.new T [.int .u8 (x:Int)]) K:=by
 have fl:am H (H.new T [.int .u8 (x:Int)]):=(ag.refl _ _).new _ _
 refine Sl.append (s.ext fl (fun _ _ h=>h)) (Sl.cB (size:=1) (n:=1) (xs:=nJ [x]) rfl rfl).rd rfl (LG [x]) (by omega) ?_
 intro v' H' dT s' e' MF
 refine hk v' H' dT (fun b hb=>?_) (by rw[aoy,OP];exact s') ⟨apc fl.size e'.size,fun z hz hn=>?_⟩
 ·rcases MF with h| ⟨b',mU,h1,h2⟩
  ·exact fU b (by rw[←h];exact hb)
  ·rw[hb]at mU;injection mU with mU;have:=fl.size;omega
 ·rw[e'.aG z (aoO hz fl.size) (fun h=>hn (fU z h)),fl.aG z hz (fun h=>h)]
structure qZ(cC:List Int)(rt d:Nat→Nat):Prop where
 pos:0<cC.length
 low:∀i,i<cC.length→rt i<cC.length
 LH:∀i,i<cC.length→rt (rt i)=rt i
 step:∀i,i<cC.length→∃j:Nat,cC[i]? =some (j:Int)∧j<cC.length∧rt j=rt i∧(j=i↔rt i=i)∧(j≠i→d j<d i)
 zero:rt 0=0
 nz:∀i,i<cC.length→rt i=0→i=0
structure eO(H:Hp)(b s:Nat)(len:Nat)(rt:Nat→Nat)(eU:Int):Prop where
 NC:∃sv cC Qb,H.own b=some [sv,i64 eU,i64 Qb]∧Sl H 1 sv len (cC.map i64) (some s)∧(∃d,qZ cC rt d)∧cC.length=len
 ne:b≠s
 le:(len:Int) - 1≤eU
 eU:0≤eU∧eU≤65536
theorem eO.ext{H H':Hp}{b s len:Nat}{rt:Nat→Nat}{eU:Int}{S:Nat→Prop}(h:eO H b s len rt eU)(e:ag S H H')(h1:¬S b)(h2:¬S s):eO H' b s len rt eU:=by
 obtain⟨⟨sv,cC,Qb,a1,a2,a3,a4⟩,h3,h4,h5⟩:=h
 exact⟨⟨sv,cC,Qb,e.own a1 h1,a2.ext e (fun x hx=>by injection hx with hx;exact hx▸h2),a3,a4⟩,h3,h4,h5⟩
theorem FM(eU:Int)(H:Hp):af Tryz.prog Lp [i64 eU] H fun v H'=>ar (
  am H H'∧((¬ (0≤eU∧eU≤65536)∧v= .tuple [.pointer none,i64 31].toArray)∨
   (0≤eU∧eU≤65536)∧∃b s,v= .tuple [ptr b,i64 0].toArray∧eO H' b s 1 id eU∧H.size≤b∧H.size≤s∧b<H'.size∧s<H'.size)):=by
 refine aZ Lw ?_
 refine vs ?_
 refine ai.dec (fun h=>?_) (fun h=>?_)<;>refine vs ?_
 ·exact⟨ag.refl _ _,.inl ⟨by omega,rfl⟩⟩
 ·refine ai.dec (fun h2=>?_) (fun h2=>?_)<;>refine vs ?_
  ·exact⟨ag.refl _ _,.inl ⟨by omega,rfl⟩⟩
  ·refine⟨((ag.refl _ _).new _ _).new _ _,.inr ⟨by omega,_,_,rfl,⟨⟨_,[0],0,by rw[←aq H 3 [Value.int .i64 0]];exact aD _ _ _,
    (Sl.lit H 3 1 1 [i64 0] rfl).ext ((ag.refl (fun _=>False) _).new _ _) (fun _ _ h=>h),?_,rfl⟩,?_,by omega,by omega⟩,?_,?_,?_,?_⟩⟩
   ·exact⟨fun _=>0,by simp,fun i hi=>hi,fun i hi=>rfl,fun i hi=>⟨0,by simp at hi;subst hi;rfl,by simp,by simp at hi;subst hi;rfl,by simp at hi;subst hi;simp,by simp at hi;subst hi;simp⟩,rfl,fun i hi h=>h⟩
   all_goals(try simp only[aq]);omega
theorem q9{cC:List Int}{rt d:Nat→Nat}(h:qZ cC rt d){i:Nat}(hi:i<cC.length):∃j:Nat,cC[i]? =some (j:Int)∧j<cC.length∧rt j=rt i∧(j=i↔rt i=i):=by
 have hd:=h.step
 obtain⟨j,h1,h2,h3,h4,_⟩:=hd i hi
 exact⟨j,h1,h2,h3,h4⟩
theorem Ee{H:Hp}{b s len:Nat}{rt:Nat→Nat}{eU:Int}(h:eO H b s len rt eU):af Tryz.prog xZ [ptr b] H fun v H'=>ar (v=i64 ((len:Int) - 1)∧H=H'):=by
 obtain⟨⟨sv,cC,Qb,a1,⟨a2,l,c,rfl,a3⟩,a4,a5⟩,h1,h2,h3⟩:=h
 refine aZ yB ?_
 refine v1 (ae a1) ?_
 rw[wrap64 (by omega) (by omega)]
 exact⟨rfl,rfl⟩
theorem rZ{H:Hp}{b s len:Nat}{rt:Nat→Nat}{eU:Int}(h:eO H b s len rt eU)(i:Int):af Tryz.prog ya [ptr b,i64 i] H fun v H'=>ar (v= .bool (decide (0<i∧i<len))∧H=H'):=by
 obtain⟨⟨sv,cC,Qb,a1,⟨a2,l,c,rfl,a3⟩,a4,a5⟩,h1,h2,h3⟩:=h
 refine aZ yC ?_
 refine vs ?_
 refine ai.dec (fun h=>?_) (fun h=>?_)<;>refine v1 (ae a1) ?_
 ·refine⟨aoD Value.bool ?_,rfl⟩
  rw[decide_eq_decide];omega
 ·exact⟨aoD Value.bool (aoK (by omega)).symm,rfl⟩
theorem FN{cC:List Int}{l:List Value}{n:Nat}(h:l.take (n*1)=cC.map i64){i j:Nat}(hj:cC[i]? =some (j:Int)):l[i]? =some (i64 j):=by
 have h1:(cC.map i64)[i]? =some (i64 j):=by simp[hj]
 rw[←h]at h1
 rw[aoU]at h1
 split at h1
 ·exact h1
 ·cases h1
theorem FO{H:Hp}{b s len:Nat}{rt:Nat→Nat}{eU:Int}(h:eO H b s len rt eU)(i:Int):
  af Tryz.prog Af [ptr b,i64 i] H fun v H'=>ar (v= .bool (decide (0<i∧i<len∧rt i.toNat=i.toNat))∧H=H'):=by
 have hm:=rZ h i
 obtain⟨⟨sv,cC,Qb,a1,⟨a2,l,c,rfl,a3,b1,b2,b3⟩,⟨d,a4⟩,a5⟩,h1,h2,h3⟩:=h
 refine aZ Az ?_
 refine vs ?_
 refine hm.mono ?_
 rintro _ _ ⟨rfl,rfl⟩
 refine vs ?_
 refine ai.dec (fun h=>?_) (fun h=>?_)<;>refine v1 (ae a1) ?_
 ·obtain⟨j,e1,e2,e3,e4⟩:=q9 a4 (i:=i.toNat) (by omega)
  refine⟨by omega,?_⟩
  refine v3 (ae a3) aos (FN b3 e1) ?_
  refine⟨aoD Value.bool ?_,rfl⟩
  rw[decide_eq_decide]
  constructor
  ·intro hh;exact⟨h.1,h.2,e4.1 (by omega)⟩
  ·rintro⟨_,_,hh⟩;have:=e4.2 hh;omega
 ·exact⟨aoD Value.bool (aoK (by omega)).symm,rfl⟩
theorem qZ.make{cC:List Int}{rt d:Nat→Nat}(h:qZ cC rt d):qZ (cC++[(cC.length:Int)]) (fun i=>if i=cC.length then i else rt i) d:=by
 have hd:=h.step
 have hp:=h.pos
 refine⟨by simp,fun i hi=>?_,fun i hi=>?_,fun i hi=>?_,?_,fun i hi hz=>?_⟩
 ·simp only[aoy,aoI,apo]at hi ⊢
  split
  ·omega
  ·have:=h.low i (by omega);omega
 ·simp only[aoy,aoI,apo]at hi
  by_cases e:i=cC.length
  ·simp[e]
  ·have h1:=h.low i (by omega)
   simp only[if_neg e,if_neg (show rt i≠cC.length by omega)]
   exact h.LH i (by omega)
 ·simp only[aoy,aoI,apo]at hi
  by_cases e:i=cC.length
  ·subst e
   exact⟨cC.length,by simp,by simp,by simp,by simp,by simp⟩
  ·obtain⟨j,h1,h2,h3,h4,h5⟩:=hd i (by omega)
   refine⟨j,by rw[aoF (by omega)];exact h1,by simp;omega,?_,?_,h5⟩
   ·simp only[if_neg e,if_neg (show j≠cC.length by omega)];exact h3
   ·simp only[if_neg e];exact h4
 ·simp only[if_neg (show(0:Nat)≠cC.length by omega)];exact h.zero
 ·simp only[aoy,aoI,apo]at hi
  by_cases e:i=cC.length
  ·simp only[e,if_true]at hz;omega
  ·simp only[if_neg e]at hz;exact h.nz i (by omega) hz
theorem qZ.skip{cC:List Int}{rt d:Nat→Nat}(h:qZ cC rt d){i j k:Nat}(hi:cC[i]? =some (j:Int))(hj:cC[j]? =some (k:Int))(aQ:j≠i):
  qZ (cC.set i (k:Int)) rt d∧k<cC.length∧rt k=rt i∧d k<d i:=by
 have hd:=h.step
 have qw:i<cC.length:=(aoq.1 hi).1
 have hjl:j<cC.length:=(aoq.1 hj).1
 obtain⟨j',e1,e2,e3,e4,e5⟩:=hd i qw
 rw[hi]at e1
 have ej:j'=j:=by injection e1 with e1;omega
 subst ej
 obtain⟨k',f1,f2,f3,f4,f5⟩:=hd j' hjl
 rw[hj]at f1
 have ek:k'=k:=by injection f1 with f1;omega
 subst ek
 have hdk:d k'≤d j':=by
  by_cases e:k'=j'
  ·rw[e];omega
  ·exact Nat.le_of_lt (f5 e)
 have hdj:=e5 aQ
 have hki:k'≠i:=fun e=>by rw[e]at hdk;omega
 refine⟨⟨by simpa using h.pos,fun x hx=>by simp only[aot]at hx ⊢;exact h.low x hx,fun x hx=>h.LH x (by simpa using hx),fun x hx=>?_,h.zero,fun x hx=>h.nz x (by simpa using hx)⟩,f2,f3.trans e3,by omega⟩
 simp only[aot]at hx
 by_cases e:x=i
 ·subst e
  refine⟨k',by simp[hx],by simpa using f2,f3.trans e3,?_,fun _=>by omega⟩
  constructor
  ·intro hh;exact absurd hh hki
  ·intro hh;exact absurd (e4.2 hh) aQ
 ·obtain⟨y,y1,y2,y3,y4,y5⟩:=hd x hx
  exact⟨y,by rw[aov (Ne.symm e)];exact y1,by simpa using y2,y3,y4,y5⟩
theorem DA(l:List Int):fE (l.map i64):=by
 intro v hv
 obtain⟨x,_,rfl⟩:=ao8.1 hv
 rfl
theorem Ef{H:Hp}{b s len:Nat}{rt:Nat→Nat}{eU:Int}(h:eO H b s len rt eU):
  af Tryz.prog xW [ptr b] H fun v H'=>ar (
   ((len:Int) - 1=eU∧v= .tuple [i64 0,.bool false].toArray∧H=H')∨
   ((len:Int) - 1≠eU∧v= .tuple [i64 len,.bool true].toArray∧∃s',eO H' b s' (len+1) (fun i=>if i=len then i else rt i) eU∧ag (fun x=>x=b∨x=s) H H'∧(s'=s∨(H.size≤s'∧s'<H'.size)))):=by
 have hl:=Ee h
 obtain⟨⟨sv,cC,Qb,a1,a2,⟨d,a4⟩,a5⟩,h1,h2,h3⟩:=h
 have XE:=a2
 obtain⟨_,l,c,rfl,a3,b1,b2,b3⟩:=XE
 have hb:=aB a1
 refine aZ yy ?_
 refine vs ?_
 refine⟨i64 ((len:Int) - 1),hl.mono fun _ _ h=>⟨h.out.1,h.out.2.symm⟩,?_⟩
 refine v1 (ae a1) ?_
 refine ai.dec (fun h=>?_) (fun h=>?_)<;>refine v1 (ae a1) ?_
 ·exact .inl ⟨h,rfl,rfl⟩
 ·have hn:(H.new 3 [i64 len]).own b=some [.slice (some ⟨s,0,none⟩) len c,i64 eU,i64 Qb]:=by rw[bL hb];exact a1
  refine Sl.append (a2.ext ((ag.refl (fun _=>False) H).new _ _) (fun _ _ h=>h)) (Sl.lit H 3 1 1 [i64 len] rfl).rd rfl (DA [(len:Int)]) (by omega) ?_
  intro v' H2 dT hs ou fU
  have CG:=ou.own hn (fun e=>h1 (by injection e with e;exact e.symm))
  have HG:=ou.size
  rw[aq]at HG
  obtain⟨s',rfl⟩:∃s',dT=some s':=by
   rcases fU with h| ⟨x,h,_⟩
   ·exact⟨s,h⟩
   ·exact⟨x,h⟩
  have ME:s'=s∨(H.size≤s'∧s'<H2.size):=by
   rcases fU with h| ⟨x,h,h5,h6⟩
   ·injection h with h;exact .inl h
   ·injection h with h;subst h;rw[aq]at h5;exact .inr ⟨by omega,h6⟩
  have Uy:b≠s':=by
   rcases ME with h|h
   ·rw[h];exact h1
   ·omega
  have BO:=hs
  obtain⟨_,l',c',rfl,_⟩:=BO
  simp(disch:=(first|omega| (simp only[Zs]<;>omega)|fail)) only[go_sem, ↓reduceIte,Zv,CG,ah CG,re CG]
  refine .inr ⟨h,rfl,s',⟨⟨_,cC++[(len:Int)],_,ah CG,by rw[ao5];exact hs.ext ((ag.refl (fun x=>x=b) H2).wr (fun _=>rfl) _) (fun x e=>by injection e with e;omega),⟨d,?_⟩,by simp[a5]⟩,Uy,?_,h3⟩,?_,?_⟩
  ·have:=a4.make
   rw[a5]at this
   exact this
  ·have:(len:Int) - 1<eU:=by omega
   omega
  ·refine ag.wr (ag.k9 ((ag.refl (fun x=>x=b∨x=s) H).new _ _) ou (fun x _ e=>.inr (by injection e with e;exact e.symm))) (fun _=>.inl rfl) _
  ·rcases ME with h|h
   ·exact .inl h
   ·exact .inr ⟨h.1,by rw[fu];exact h.2⟩
theorem Eg{H:Hp}{b s len:Nat}{rt:Nat→Nat}{eU:Int}(h:eO H b s len rt eU)(i:Int):
  af Tryz.prog xX [ptr b,i64 i] H fun v H'=>ar (
   (¬ (0<i∧i<len)∧v= .tuple [i64 0,.bool false].toArray∧H=H')∨
   ((0<i∧i<len)∧v= .tuple [i64 (rt i.toNat),.bool true].toArray∧eO H' b s len rt eU∧ag (fun z=>z=b∨z=s) H H')):=by
 have hm:=rZ h i
 refine aZ yz ?_
 refine vs ?_
 refine hm.mono ?_
 rintro _ _ ⟨rfl,rfl⟩
 refine vs ?_
 refine ai.dec (fun hi=>?_) (fun hi=>?_)<;>refine vs ?_
 ·obtain⟨⟨sv,cC,Qb,a1,a2,⟨d,a4⟩,a5⟩,h1,h2,h3⟩:=h
  refine aS.intro (fun m env H1=>∃ (k:Nat) (cC:List Int) (sv:Value),env=[(0,ptr b),(1,i64 k)]∧k<len∧rt k=rt i.toNat∧d k=m∧
   H1.own b=some [sv,i64 eU,i64 Qb]∧Sl H1 1 sv len (cC.map i64) (some s)∧qZ cC rt d∧cC.length=len∧ag (fun z=>z=b∨z=s) H H1) (d i.toNat)
   ⟨i.toNat,cC,sv,by rw[show((i.toNat:Nat):Int)=i by omega],by omega,rfl,rfl,a1,a2,a4,a5,ag.refl _ _⟩ ?_
  rintro m env H1 ⟨k,cC,sv,rfl,k1,k2,rfl,c1,c2,c4,c5,cx⟩
  have c2':=c2
  obtain⟨e0,l,c,rfl,c3,e1,e2,e3⟩:=c2'
  obtain⟨j,j1,j2,j3,j4⟩:=q9 c4 (i:=k) (by omega)
  refine v1 (ae c1) ?_
  refine⟨by omega,?_⟩
  have jl:=FN e3 j1
  refine v4 (ae c3) aos Int.toNat_natCast jl ?_
  refine ai.dec (fun hjk=>?_) (fun hjk=>?_)<;>refine v1 (ae c1) ?_
  ·refine .inr ⟨hi,?_,⟨⟨_,cC,Qb,c1,c2,⟨d,c4⟩,c5⟩,h1,h2,h3⟩,cx⟩
   have:=j4.1 (by omega)
   rw[←k2,this]
   rfl
  ·obtain⟨k',g1,g2,g3,g4⟩:=q9 c4 (i:=j) j2
   have gl:=FN e3 g1
   have aQ:j≠k:=by omega
   obtain⟨f1,f2,f3,f4⟩:=c4.skip j1 g1 aQ
   refine⟨by omega,?_⟩
   refine v4 (ae c3) aos Int.toNat_natCast jl ?_
   refine⟨by omega,?_⟩
   refine v4 (ae c3) aos Int.toNat_natCast gl ?_
   refine⟨by omega,?_⟩
   have jx:k<l.length:=by omega
   refine v3 c3 aos Int.toNat_natCast ?_
   refine⟨by omega,?_⟩
   have c1':(H1.wr s (l.set k (i64 k'))).own b=some [.slice (some ⟨s,0,none⟩) len c,i64 eU,i64 Qb]:=(pQ (Ne.symm h1)).trans c1
   have c3':(H1.wr s (l.set k (i64 k'))).own s=some (l.set k (i64 k')):=ah c3
   have kl:(l.set k (i64 k'))[k]? =some (i64 k'):=by rw[aox jx]
   refine v1 (ae c1') ?_
   refine⟨by omega,?_⟩
   refine v4 (ae c3') aos Int.toNat_natCast kl ?_
   refine⟨d k',f4,k',cC.set k (k':Int),_,rfl,by omega,f3.trans k2,rfl,c1,?_,f1,by simpa using c5,cx.trans ((ag.refl _ _).wr (fun _=>.inr rfl) _)⟩
   rw[ao9]
   exact c2.sI c3 k (i64 k')
 ·exact .inl ⟨hi,rfl,rfl⟩
end Go.Proofs.YthpjfeolagohkaaGreat
