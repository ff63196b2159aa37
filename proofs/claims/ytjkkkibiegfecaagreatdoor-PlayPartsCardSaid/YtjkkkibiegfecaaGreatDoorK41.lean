/- Texts put behind each other. -/
import Derived.Test.YtjkkkibiegfecaaGreatDoorK98
import Derived.Test.YtjkkkibiegfecaaGreatDoorK22
import Derived.Test.YtjkkkibiegfecaaGreatDoorK33
import Derived.Test.YtjkkkibiegfecaaGreatDoorK40
set_option maxRecDepth 100000
set_option maxHeartbeats 8000000
set_option linter.unusedVariables false
set_option linter.unusedSimpArgs false
namespace Go.Proofs.YtjkkkibiegfecaaGreatDoor
open Go Go.Vc
open Classical in
noncomputable def VH(l:List UInt8):Option R:=if h:∃r:R,(∃i:Nat,r.op=i∧dP i r.a r.b r.k∧l=fU i r.a r.b r.k)then some (Classical.choose h)else none
theorem TP{l:List UInt8}{v:Value}(h:TN l v):v=match VH l with
  |some r=>.tuple [jV r.op r.a r.b r.k,i64 0].toArray
  |none=>.tuple [jV 0 0 0 0,i64 181].toArray:=by
 unfold VH
 rcases h with ⟨op,a,b,k,hr,hl,rfl⟩| ⟨bU,rfl⟩
 ·have hx:∃r:R,(∃i:Nat,r.op=i∧dP i r.a r.b r.k∧l=fU i r.a r.b r.k):=⟨⟨op,a,b,k⟩,op,rfl,hr,hl⟩
  rw[dif_pos hx]
  obtain⟨i,e1,e2,e3⟩:=Classical.choose_spec hx
  obtain⟨rfl,ea,eb,ek⟩:=HH hr e2 (hl.symm.trans e3)
  dsimp only
  rw[e1,←ea,←eb,←ek]
 ·rw[dif_neg]
  rintro⟨r,i,_,h1,h2⟩
  exact bU i r.a r.b r.k h1 h2
theorem TQ{l:List UInt8}{r:R}(h:VH l=some r):∃i:Nat,r.op=i∧dP i r.a r.b r.k:=by
 unfold VH at h
 split at h
 ·rename_i hx
  injection h with h
  obtain⟨i,e1,e2,e3⟩:=Classical.choose_spec hx
  rw[h]at e1 e2
  exact⟨i,e1,e2⟩
 ·cases h
noncomputable def nj(t:kY)(l:List UInt8):kY×List UInt8:=
 match VH l with
 |none=>(t,gD 0 (er 181))
 |some r=>((M3 t r.op r.a r.b r.k).1,gD r.op (M3 t r.op r.a r.b r.k).2)
noncomputable def Fp(t:kY):List (List UInt8)→kY
 | []=>t
 |l::ls=>Fp (nj t l).1 ls
noncomputable def Au(t:kY):List (List UInt8)→List UInt8
 | []=>[]
 |l::ls=>(nj t l).2++[10]++Au (nj t l).1 ls
theorem TR(t:kY)(a:List (List UInt8))(l:List UInt8):Fp t (a++[l])=(nj (Fp t a) l).1:=by
 induction a generalizing t with
 |nil=>rfl
 |cons x a ih=>exact ih _
theorem TS(t:kY)(a:List (List UInt8))(l:List UInt8):Au t (a++[l])=Au t a++(nj (Fp t a) l).2++[10]:=by
 induction a generalizing t with
 |nil=>simp[Au,Fp]
 |cons x a ih=>
  show _++[10]++Au _ (a++[l])=_++[10]++Au _ a++_++_
  rw[ih]
  simp[Fp]
theorem acr{n:Nat}(h:10≤n):Lib.decDigits n=Lib.decDigits (n / 10)++[UInt8.ofNat (48+n%10)]:=by
 conv=>lhs;rw[Lib.decDigits]
 rw[dif_neg (by omega)]
structure Gd(t:kY)(n:Nat):Prop where
 bd:Bd t n
 rg:Rg t
 gl:t.A.g.length≤65536
theorem VI(t:kY)(op a b:Nat)(k:Int):(SN t op a b k).1.A.g.length=t.A.g.length:=by
 unfold SN
 split
 ·unfold MJ;split<;>rfl
 ·unfold OJ
  split
  ·rfl
  ·cases hp:t.A.pick with
   |none=>rfl
   |some xA=>
    obtain⟨x,A'⟩:=xA
    show(A'.g.set _ _).length=_
    rw[aom,TA hp]
 ·rfl
 ·unfold GW
  dsimp only
  split
  ·exact aom ..
  ·rfl
 ·unfold OK
  split
  ·rfl
  ·split<;>rfl
 ·unfold OL
  split
  ·rfl
  ·exact aom ..
 ·unfold OM
  split
  ·rfl
  ·split<;>rfl
 all_goals rfl
theorem gd0{cap:Int}(hc:0≤cap∧cap≤65536)(mo:Nat):Gd ⟨yd cap,PZ cap mo,0⟩ 0:=⟨bd0 cap mo,rg0 cap mo,by
 show(List.replicate cap.toNat ((0,false):Nat×Bool)).length≤65536
 rw[ao5]
 omega⟩
theorem Gd.one{t:kY}{n:Nat}(h:Gd t n)(op:Int){a b:Nat}{k:Int}(hr:jf a b k):Gd (M3 t op a b k).1 (n+1):=
 ⟨acd h.bd _ _ _ _,acn h.rg _ (TJ hr _),by unfold M3;rw[VI];exact h.gl⟩
theorem M7{op a b:Nat}{k:Int}(h:dP op a b k):jf a b k:=⟨h.la,h.lb,h.k0,h.k1⟩
theorem Gd.ahe{t:kY}{n:Nat}(h:Gd t n)(l:List UInt8):Gd (nj t l).1 (n+1):=by
 unfold nj
 cases hp:VH l with
 |none=>exact⟨h.bd.up,h.rg,h.gl⟩
 |some r=>
  obtain⟨i,_,hr⟩:=TQ hp
  exact h.one _ (M7 hr)
theorem Gd.scr{t:kY}{n:Nat}(h:Gd t n)(ls:List (List UInt8)):Gd (Fp t ls) (n+ls.length):=by
 induction ls generalizing t n with
 |nil=>exact h
 |cons x ls ih=>
  have:=ih (h.ahe x)
  rw[aop,show n+(ls.length+1)=n+1+ls.length by omega]
  exact this
theorem Gd.rp{t:kY}{n:Nat}(h:Gd t n)(hn:n≤100000)(lk:IN t.w t.A)(ok:CL t.A)(op:Int)(a b:Nat)(k:Int):Li (M3 t op a b k).2:=aco h.rg h.bd hn lk ok h.gl _ _ _ _
theorem HI:∀ (l:List UInt8),(splitN l).length≤l.length+1∧∀x∈splitN l,x.length≤l.length:=by
 intro l
 induction l with
 |nil=>simp[splitN]
 |cons c r ih=>
  unfold splitN
  split
  ·refine⟨by simpa using ih.1,fun x hx=>?_⟩
   rcases aoR.1 hx with rfl|hx
   ·simp
   ·have:=ih.2 x hx;rw[aop];omega
  ·split
   ·simp
   ·rename_i y ys e
    rw[e]at ih
    refine⟨by have:=ih.1;simp only[aop]at this ⊢;omega,fun x hx=>?_⟩
    rcases aoR.1 hx with rfl|hx
    ·have:=ih.2 y (aoQ ..);simp only[aop];omega
    ·have:=ih.2 x (aoU _ hx);rw[aop];omega
theorem Pg(l:List UInt8):(splitN l).length+((splitN l).getLastD []).length≤l.length+1:=by
 induction l with
 |nil=>simp[splitN]
 |cons c r ih=>
  unfold splitN
  cases h:splitN r with
  |nil=>exact absurd h (nM r)
  |cons y ys=>
   rw[h]at ih
   simp only[apI,aop]at ih
   split
   ·simp only[apI,aop];omega
   ·cases ys with
    |nil=>simp only[apI,aop,List.getLastD_nil]at ih ⊢;omega
    |cons z zs=>simp only[apI,aop]at ih ⊢;omega
theorem Ph(l:List UInt8):(gC l).length≤l.length∧∀x∈gC l,x.length≤l.length:=by
 obtain⟨h1,h2⟩:=HI l
 have h3:=Pg l
 unfold gC
 split
 ·exact⟨by rw[ao0];omega,fun x hx=>h2 x ((List.dropLast_sublist _).subset hx)⟩
 ·rename_i h
  refine⟨?_,h2⟩
  rw[apt,List.getLast?_eq_some_getLast (nM l)]at h3
  have h4:((splitN l).getLast (nM l)).length≠0:=fun e=>h (aoI.1 e)
  simp only[Option.getD_some]at h3
  omega
theorem wS(op:Int){r:Rp}(hr:Li r):(gD op r).length≤150:=by
 obtain⟨q1,q2,q3,q4,q5,q6,q7,q8,q9,q10,q11⟩:=hr
 have lc:=ez q1 q2
 have lh:=ez q3 q4
 have lk:=M5 q8 q9
 have ln:=ez q10 q11
 have lx:=Ej q5 q6 q7
 unfold gD
 repeat' split
 all_goals(try simp only[aos,aop,aoH])<;>omega
theorem Yx(kd dd:Int)(mo:Nat):0≤Nr kd dd mo∧Nr kd dd mo≤1000:=by
 unfold Nr PR
 repeat' split
 all_goals omega
def VJ(H0:Hp)(s bb lb n c:Nat)(ls:List (List UInt8))(t:kY)(o:List UInt8)(S:Nat→Prop)(fp:Option Nat)(H:Hp):Prop:=
 ai H0 H∧nD H s S t.w t.A t.q∧(∀z,S z→H0.size≤z∧z≠bb∧z≠lb∧fp≠some z)∧Nl bb o fp H∧(∀g,fp=some g→H0.size≤g∧g≠lb)∧fh H 1 (.slice (some ⟨lb,0,none⟩) n c) n (ls.map aW)∧
  H0.size≤bb∧bb≠lb∧lb<H.size
def Lw(H0:Hp)(s bb lb n c:Nat)(ls:List (List UInt8))(t:kY)(o:List UInt8)(H:Hp):Prop:=∃S fp,VJ H0 s bb lb n c ls t o S fp H
section
variable {S : Nat → Prop} {fp : Option Nat} {H0 H H' : Hp} {s bb lb n c : Nat} {ls : List (List UInt8)} {t : kY} {o : List UInt8}
theorem VJ.fresh(h:VJ H0 s bb lb n c ls t o S fp H)(f:ai H H'):VJ H0 s bb lb n c ls t o S fp H':=by
 obtain⟨h1,h2,h3,h4,h5,h6,h7,h8,h9⟩:=h
 exact⟨h1.trans f,h2.ext f (fun _ _ h=>h),h3,h4.ext f (fun h=>h) (fun _ _ h=>h),h5,h6.fresh f,h7,h8,aoz h9 f.size⟩
theorem Lw.fresh(h:Lw H0 s bb lb n c ls t o H)(f:ai H H'):Lw H0 s bb lb n c ls t o H':=by
 obtain⟨S,fp,h⟩:=h
 exact⟨S,fp,h.fresh f⟩
theorem VJ.bd(h:VJ H0 s bb lb n c ls t o S fp H){u:List UInt8}(hb:Xo bb u fp H H'):Lw H0 s bb lb n c ls t u H':=by
 obtain⟨h1,h2,h3,h4,h5,h6,h7,h8,h9⟩:=h
 obtain⟨di,d1,d2,d3⟩:=hb
 have z1:=h1.size
 have hf:=h4.fpl
 have hs:=h2.slt
 refine⟨S,di,h1.then d2 (fun z hz=>?_),h2.ext d2 (fun z hz h=>?_),fun z hz=>?_,d1,fun g hg=>?_,fh.off h6 d2 (fun _ x hx h=>?_),h7,h8,aoz h9 d2.size⟩
 ·rcases hz with rfl|hz
  ·exact h7
  ·exact(h5 z hz).1
 ·rcases h with rfl|h
  ·exact(h3 z hz).2.1 rfl
  ·exact(h3 z hz).2.2.2 h
 ·obtain⟨q1,q2,q3,q4⟩:=h3 z hz
  refine⟨q1,q2,q3,fun e=>?_⟩
  rcases d3 with rfl| ⟨g,rfl,hg,_⟩
  ·exact q4 e
  ·injection e with e
   have:=hs z hz
   omega
 ·rcases d3 with rfl| ⟨g',rfl,hg',_⟩
  ·exact h5 g hg
  ·injection hg with hg
   omega
 ·injection hx with hx
  subst hx
  rcases h with h|h
  ·exact h8 h.symm
  ·exact(h5 _ h).2 rfl
theorem VJ.st(h:VJ H0 s bb lb n c ls t o S fp H){t':kY}(hb:oM s S H H' t'.w t'.A t'.q):∃S',VJ H0 s bb lb n c ls t' o S' fp H':=by
 obtain⟨h1,h2,h3,h4,h5,h6,h7,h8,h9⟩:=h
 obtain⟨S',d1,d2,d3⟩:=hb
 have z1:=h1.size
 have hf:=h4.fpl
 have bf:=h4.lt
 refine⟨S',h1.then d2 (fun z hz=>(h3 z hz).1),d1,fun z hz=>?_,h4.ext d2 (fun h=>(h3 _ h).2.1 rfl) (fun g hg h=>(h3 g h).2.2.2 hg),h5,fh.off h6 d2 (fun _ x hx h=>?_),h7,h8,aoz h9 d2.size⟩
 ·rcases d3 z hz with h|h
  ·exact h3 z h
  ·exact⟨by omega,by omega,by omega,fun e=>by have:=hf z e;omega⟩
 ·injection hx with hx
  subst hx
  exact(h3 _ h).2.2.1 rfl
theorem Lw.ws(h:Lw H0 s bb lb n c ls t o H)(u:List UInt8)(hl:o.length+u.length≤1000000000000):ag Tryz.prog dm [ptr bb,aW u] H fun r H'=>ap (r= .tuple [i64 u.length,.nilIface].toArray∧Lw H0 s bb lb n c ls t (o++u) H'):=by
 obtain⟨S,fp,h⟩:=h
 refine(yx h.2.2.2.1 u hl).mono ?_
 rintro _ H1 ⟨rfl,h3⟩
 exact⟨rfl,h.bd h3⟩
theorem Lw.wb(h:Lw H0 s bb lb n c ls t o H)(u:UInt8)(hl:o.length+1≤1000000000000):ag Tryz.prog fP [ptr bb,.int .u8 (u.toNat:Int)] H fun r H'=>ap (r= .nilIface∧Lw H0 s bb lb n c ls t (o++[u]) H'):=by
 obtain⟨S,fp,h⟩:=h
 refine(MA h.2.2.2.1 u hl).mono ?_
 rintro _ H1 ⟨rfl,h3⟩
 exact⟨rfl,h.bd h3⟩
theorem Lw.str(h:Lw H0 s bb lb n c ls t o H)(hl:o.length≤1000000000000):ag Tryz.prog 32 [ptr bb] H fun v H'=>ap (v=aW o∧ai H0 H'):=by
 obtain⟨S,fp,h1,h2,h3,h4,h5,h6,h7,h8,h9⟩:=h
 refine(IK h4 h7 (fun g hg=>(h5 g hg).1) hl).mono ?_
 rintro _ H1 ⟨rfl,h10⟩
 exact⟨rfl,h1.then h10 (fun z hz=>hz)⟩
theorem Lw.rd(h:Lw H0 s bb lb n c ls t o H):ai H0 H∧fh H 1 (.slice (some ⟨lb,0,none⟩) n c) n (ls.map aW):=by
 obtain⟨S,fp,h1,h2,h3,h4,h5,h6,h7,h8,h9⟩:=h
 exact⟨h1,h6⟩
theorem Lw.RN(h:Lw H0 s bb lb n c ls t o H):IN t.w t.A∧CL t.A∧t.A.g.length≤65536:=by
 obtain⟨S,fp,h1,h2,_⟩:=h
 exact h2.RN
end
theorem M8{H:Hp}{b c N:Nat}{l':List Value}{L:List (List UInt8)}(ho:H.own b=some l')(ht:l'.take N=L.map aW)(hN:L.length=N){n:Nat}(hn:n≤N):fh H 1 (.slice (some ⟨b,0,none⟩) n c) n ((L.take n).map aW):=by
 have h1:=aoo List.length ht
 rw[ao1,aoJ]at h1
 refine⟨by simp;omega,.inr ⟨b,0,c,l',rfl,ae ho,by omega,?_⟩⟩
 rw[List.map_take,←ht,apB]
 simp[Nat.min_eq_left hn]
theorem k9{H:Hp}(ht:IJ H){c:Int}(hc:0≤c∧c≤1000):ag Tryz.prog Ii [i64 c] H fun v H'=>ap (v=aW (gD 0 (er c))∧ai H H'):=by
 refine aU Iy ?_
 refine vs ?_
 refine(wx ht 0 (dT c hc)).mono ?_
 rintro _ H1 ⟨rfl,f1⟩
 refine vs ?_
 exact⟨rfl,f1⟩
theorem ld{H:Hp}(he:yk H){kd dd cap:Int}{mo:Nat}(hc:0≤cap∧cap≤65536)(hm:mo≤4294967295)(l:List UInt8)(hl:l.length≤70000):
  ag Tryz.prog Ig [IQ kd dd,i64 cap,.int .u32 (mo:Int),aW l] H fun v H'=>ap (ai H H'∧v=aW (if 65536<l.length then gD 0 (er 31)++[10]else if Nr kd dd mo≠0 then gD 0 (er (Nr kd dd mo))++[10]else Au ⟨yd cap,PZ cap mo,0⟩ (gC l))):=by
 refine aU Iw ?_
 refine vs ?_
 have f0:ai H (H.new 23 [i64 kd,i64 dd]):=(ah.refl _ _).new _ _
 have b0:(H.new 23 [i64 kd,i64 dd]).own H.size=some [i64 kd,i64 dd]:=aA _ _ _
 generalize H.new 23 [i64 kd,i64 dd]=H0 at*
 have he0:=he.fresh f0
 have QJ:l.toArray.size=l.length:=List.size_toArray ..
 rw[QJ]
 by_cases acs:65536<l.length
 ·rw[if_pos acs,aov (show(l.length:Int)>65536 by omega)]
  refine vs ?_
  have tl:=wS 0 (dT 31 (by omega))
  refine(k9 he0.wP (c:=31) (by omega)).mono ?_
  rintro _ H1 ⟨rfl,f1⟩
  refine vs ?_
  rw[gU (gD 0 (er 31)) [10] (by simp only[aop,aoH];omega)]
  refine vs ?_
  exact⟨f0.trans f1,rfl⟩
 rw[if_neg acs,aow (show¬ (l.length:Int)>65536 by omega)]
 refine v1 (ae b0) ?_
 by_cases Ta:Nr kd dd mo=0
 ·rw[if_neg (fun h=>h Ta)]
  have hk:PR kd dd=0:=by
   apply aoA
   intro h
   unfold Nr at Ta
   rw[if_pos h]at Ta
   exact h Ta
  have hmo:mo≠0:=by
   intro h
   unfold Nr at Ta
   rw[if_neg (fun h=>h hk),if_pos h]at Ta
   cases Ta
  refine(Lb (MS.1 hk) (Tz (MS.1 hk)) hc ⟨by omega,hm⟩ H0).mono ?_
  rintro _ H1 ⟨s,S,rfl,hs,f1,hS⟩
  refine vs ?_
  refine ar.dec (fun _=>?_) (fun hh=>absurd trivial hh)
  refine vs ?_
  have F1:=f0.trans f1
  have he2:=he0.fresh f1
  refine(yn (H:=H1) (show acm H1 from fun w hw=>he2.lim w hw) l (by omega)).mono ?_
  rintro _ H2 ⟨s2,f2⟩
  obtain⟨sl,l',c,rfl,ho,hnc,rV,ht⟩:=s2
  rw[aok]at ht
  obtain⟨i,x,hL⟩:∃i x,splitN l=i++[x]:=⟨_,_,(List.dropLast_concat_getLast (nM l)).symm⟩
  have hN:(splitN l).length=i.length+1:=by rw[hL];simp
  have hg:(splitN l).getLast (nM l)=x:=by simp only[hL];simp
  have Pj:gC l=if x=[]then i else i++[x]:=by
   unfold gC
   rw[hg,hL]
   simp
  have rl:=Ph l
  have EW:=HI l
  rw[hN]at ht hnc EW ⊢
  have hx:l'[i.length]? =some (aW x):=by
   have h1:(l'.take (i.length+1))[i.length]? =some (aW x):=by rw[ht,hL];simp
   rw[aoX (by omega)]at h1
   exact h1
  have hw:IntKind.i64.wrap (((i.length+1:Nat):Int) - 1)=(i.length:Int):=by
   rw[wrap64 (by omega) (by omega)]
   omega
  refine vs ?_
  rw[hw]
  refine⟨by omega,?_⟩
  refine v5 (ae ho) Int.toNat_natCast aok hx UY ?_
  refine ar.dec (fun hxe=>?A) (fun hxe=>?B)
  case' A=>
   refine vs ?_
   rw[hw]
   refine⟨⟨by omega,by omega,by omega,by omega⟩,?_⟩
   refine v1 Int.toNat_natCast ?_
   rw[if_neg (show¬ ((c:Nat):Int)=((0:Nat):Int) by omega)]
   simp only[Option.map_some,Nat.sub_zero]
   rw[if_pos hxe]at Pj
   have hn:(gC l).length=i.length:=by rw[Pj]
   have hR:=M8 (c:=c) (n:=(gC l).length) ho ht hN (by omega)
   have yR:(splitN l).take (gC l).length=gC l:=by rw[hL,hn,Pj];exact List.take_left ..
   rw[←hn]
  case' B=>
   refine vs ?_
   rw[if_neg hxe]at Pj
   have hn:(gC l).length=i.length+1:=by rw[Pj];simp
   have hR:=M8 (c:=c) (n:=(gC l).length) ho ht hN (by omega)
   have yR:(splitN l).take (gC l).length=gC l:=by rw[hL,hn,Pj];exact List.take_of_length_le (by simp)
   rw[←hn]
  all_goals
   rw[yR]at hR
   have gI:=aE ho
   have hgd:=gd0 hc mo
   have hs:nD H1 s S (⟨yd cap,PZ cap mo,0⟩:kY).w (⟨yd cap,PZ cap mo,0⟩:kY).A (⟨yd cap,PZ cap mo,0⟩:kY).q:=hs
   clear Pj hn yR
   generalize (⟨yd cap,PZ cap mo,0⟩:kY)=t0 at*
   generalize gC l=ls at*
   have fB:ai H2 (H2.new 69 [.pointer none,.slice none 0 0]):=(ah.refl _ _).new _ _
   have z0:=f0.size
   have z1:=f1.size
   have z2:=f2.size
   have bL:=hs.slt
   have hI:Lw H s H2.size H1.size ls.length c ls t0 [] (H2.new 69 [.pointer none,.slice none 0 0]):=
    ⟨S,none,(F1.trans f2).trans fB,(hs.ext f2 (fun _ _ h=>h)).ext fB (fun _ _ h=>h),fun z hz=>by
     have q1:=hS z hz
     have q2:=bL z hz
     exact⟨by omega,by omega,by omega,fun h=>by cases h⟩,Nl.new H2,fun g h=>(by cases h),hR.fresh fB,by omega,by omega,by rw[ak];omega⟩
   generalize H2.size=bb at*
   generalize H1.size=lb at*
   generalize H2.new 69 [.pointer none,.slice none 0 0]=H3 at*
   refine bX.intro (fun m env H'=>∃j:Nat,m=ls.length - j∧j≤ls.length∧(Au t0 (ls.take j)).length≤j*151∧Lw H s bb lb ls.length c ls (Fp t0 (ls.take j)) (Au t0 (ls.take j)) H'∧env=[(9,ptr s),(12,ptr bb),(48,.slice (some ⟨lb,0,none⟩) ls.length c),(49,i64 ls.length),(50,i64 j)]) ls.length
    ⟨0,by omega,by omega,by simp[Au],hI,rfl⟩ ?_
   rintro m env H4 ⟨j,rfl,hj,bu,h4,rfl⟩
   refine vs ?_
   refine ar.dec (fun bf=>?_) (fun bf=>?_)<;>refine vs ?_
   ·obtain⟨x,hx⟩:∃x,ls[j]? =some x:=⟨_,aol (by omega)⟩
    obtain⟨F4,hR4⟩:=h4.rd
    obtain⟨_,b',o',lx,TT,li,hel⟩:=fh.str hR4 hx
    injection TT with TT
    injection TT with iY PJ _
    subst iY PJ
    refine⟨by omega,?_⟩
    rw[aoi]at hel
    refine v4 li Int.toNat_natCast aok hel ?_
    have he4:=he.fresh F4
    have rS:x.length≤l.length:=rl.2 x (aou hx)
    have FF:(ls.take j).length=j:=by rw[ao1];omega
    have hg:=hgd.scr (ls.take j)
    rw[FF,aoi]at hg
    have uI:ls.take (j+1)=ls.take j++[x]:=by rw[aoL,hx];rfl
    have eT:Fp t0 (ls.take (j+1))=(nj (Fp t0 (ls.take j)) x).1:=by rw[uI,TR]
    have eO:Au t0 (ls.take (j+1))=Au t0 (ls.take j)++(nj (Fp t0 (ls.take j)) x).2++[10]:=by rw[uI,TS]
    generalize Fp t0 (ls.take j)=t1 at*
    generalize Au t0 (ls.take j)=o1 at*
    refine(CC he4 x (by omega)).mono ?_
    rintro v H5 ⟨hv,f5⟩
    have h5:=h4.fresh f5
    have he5:=he4.fresh f5
    obtain rfl:=TP hv
    unfold nj at eT eO
    cases hp:VH x with
    |none=>
     rw[hp]at eT eO
     dsimp only at eT eO ⊢
     refine vs ?_
     obtain⟨f6,b6,z6⟩:=JL H5 52 [.int .i64 0,.int .u32 0,.int .u32 0,.int .i64 0] [i64 0,u32 ((0:Nat):Int),u32 ((0:Nat):Int),i64 0]
     generalize (H5.new 52 [.int .i64 0,.int .u32 0,.int .u32 0,.int .i64 0]).wr H5.size [i64 0,u32 ((0:Nat):Int),u32 ((0:Nat):Int),i64 0]=H6 at*
     refine ar.dec (fun g=>absurd g (by decide)) (fun _=>?_)
     refine vs ?_
     have tl:=wS 0 (dT 181 (by omega))
     refine(k9 (he5.fresh f6).wP (c:=181) (by omega)).mono ?_
     rintro _ H7 ⟨rfl,f7⟩
     refine vs ?_
     refine(((h5.fresh f6).fresh f7).ws _ (by omega)).mono ?_
     rintro _ H8 ⟨rfl,h8⟩
     refine vs ?_
     refine(h8.wb 10 (by rw[aos];omega)).mono ?_
     rintro _ H9 ⟨rfl,h9⟩
     refine vs ?_
     rw[wrap64 (by omega) (by omega)]
     refine⟨ls.length - (j+1),by omega,j+1,rfl,by omega,?_,?_,rfl⟩
     ·rw[eO];simp only[aos,aoV];omega
     ·rw[eO,eT];exact h9
    |some r=>
     rw[hp]at eT eO
     dsimp only at eT eO ⊢
     refine vs ?_
     obtain⟨i',hi,hr⟩:=TQ hp
     have hrk:=M7 hr
     have qn:=h5.RN
     have Yb:=hg.rp (by omega) qn.1 qn.2.1 r.op r.a r.b r.k
     have tl:=wS r.op Yb
     have Yu:=hg.bd
     obtain⟨f6,b6,z6⟩:=JL H5 52 [.int .i64 0,.int .u32 0,.int .u32 0,.int .i64 0] [i64 r.op,u32 r.a,u32 r.b,i64 r.k]
     generalize (H5.new 52 [.int .i64 0,.int .u32 0,.int .u32 0,.int .i64 0]).wr H5.size [i64 r.op,u32 r.a,u32 r.b,i64 r.k]=H6 at*
     refine ar.dec (fun _=>?_) (fun hh=>absurd trivial hh)
     obtain⟨S5,fp5,j5⟩:=h5
     have j6:=j5.fresh f6
     have Ug:=j5.2.1.slt
     have hf5:=j5.2.2.2.1.fpl
     have hb5:=j5.2.2.2.1.lt
     refine v1 (ae b6) ?_
     refine fV.intro (fun H'=>H'.own H5.size=some [i64 r.op,u32 r.a,u32 r.b,i64 r.k]) b6 ?_
     refine vs ?_
     refine dV.intro (i64 r.op) (fun H' hI=>?_) ?_
     ·refine v1 (ae hI) ?_
      trivial
     refine v1 (ae b6) ?_
     refine And.intro b6 ?_
     refine vs ?_
     refine(Jj j6.2.1 (by have:=Yu.h1;omega) (fun x _ _=>by have:=Yu.g x;omega) ⟨Yu.q0,by have:=Yu.q1;omega⟩ r.op hrk).mono ?_
     rintro _ H7 ⟨rfl,hX⟩
     obtain⟨S7,j7⟩:=j6.st hX
     obtain⟨_,_,e7,_⟩:=hX
     have b7:=e7.own b6 (fun h=>by have:=Ug _ h;omega)
     refine And.intro b7 ?_
     refine vs ?_
     refine(wx (he.fresh j7.1).wP r.op Yb).mono ?_
     rintro _ H8 ⟨rfl,f8⟩
     have b8:=f8.own b7 (fun h=>h)
     refine And.intro b8 ?_
     refine vs ?_
     have j8:=j7.fresh f8
     refine(yx j8.2.2.2.1 _ (by omega)).mono ?_
     rintro _ H9 ⟨rfl,h9⟩
     have i9:=j8.bd h9
     obtain⟨_,_,e9,_⟩:=h9
     refine And.intro (e9.own b8 (fun h=>?_)) ?_
     ·rcases h with h|h
      ·omega
      ·have:=hf5 _ h;omega
     refine vs ?_
     refine(i9.wb 10 (by rw[aos];omega)).mono ?_
     rintro _ HA ⟨rfl,hA⟩
     refine vs ?_
     rw[wrap64 (by omega) (by omega)]
     refine⟨ls.length - (j+1),by omega,j+1,rfl,by omega,?_,?_,rfl⟩
     ·rw[eO];simp only[aos,aoV];omega
     ·rw[eO,eT];exact hA
   ·rw[List.take_of_length_le (by omega)]at h4 bu
    refine(h4.str (by omega)).mono ?_
    rintro _ H5 ⟨rfl,f5⟩
    refine vs ?_
    exact⟨f5,rfl⟩
 ·refine(Jk hc Ta H0).mono ?_
  rintro _ H1 ⟨rfl,f1⟩
  refine vs ?_
  refine ar.dec (fun g=>absurd g Ta) (fun _=>?_)
  refine vs ?_
  rw[if_pos Ta]
  have hr:=Yx kd dd mo
  have tl:=wS 0 (dT (Nr kd dd mo) hr)
  refine(k9 (he0.fresh f1).wP hr).mono ?_
  rintro _ H2 ⟨rfl,f2⟩
  refine vs ?_
  rw[gU (gD 0 (er (Nr kd dd mo))) [10] (by simp only[aop,aoH];omega)]
  refine vs ?_
  exact⟨(f0.trans f1).trans f2,rfl⟩
end Go.Proofs.YtjkkkibiegfecaaGreatDoor

namespace Go.Proofs.YtjkkkibiegfecaaGreatDoor
open Go Go.Vc
theorem Yy{op a b:Nat}{k:Int}(h:dP op a b k):VH (fU op a b k)=some ⟨op,a,b,k⟩:=by
 have hd:TN (fU op a b k) (.tuple [jV op a b k,i64 0].toArray):=.inl ⟨op,a,b,k,h,rfl,rfl⟩
 have hx:∃r:R,(∃i:Nat,r.op=i∧dP i r.a r.b r.k∧fU op a b k=fU i r.a r.b r.k):=⟨⟨op,a,b,k⟩,op,rfl,h,rfl⟩
 unfold VH
 rw[dif_pos hx]
 obtain⟨i,e1,e2,e3⟩:=Classical.choose_spec hx
 obtain⟨rfl,ea,eb,ek⟩:=HH h e2 e3
 generalize Classical.choose hx=r at*
 obtain⟨o',a',b',k'⟩:=r
 dsimp only at e1 ea eb ek
 subst e1 ea eb ek
 rfl
theorem FK{op a b:Nat}{k:Int}(h:dP op a b k)(t:kY):nj t (fU op a b k)=((SN t op (Ei op a) (Fj op b) (HB op k)).1,gD op (SN t op (Ei op a) (Fj op b) (HB op k)).2):=by
 have e:Ao (op:Int)=op:=by
  have:=h.le
  unfold Ao
  rw[if_pos (by omega)]
  omega
 unfold nj
 rw[Yy h]
 dsimp only
 unfold M3
 rw[e]
theorem M9{n:Nat}(h:n<10):Lib.decDigits n=[UInt8.ofNat (48+n)]:=EQ h
theorem VK{n:Nat}(h:n<10):Lib.itoa (n:Int)=Lib.decDigits n:=by
 unfold Lib.itoa
 rw[if_neg (by omega)]
 rfl
def x1:List UInt8:=[110,101,119]
def x2:List UInt8:=[105,110,115,101,114,116,32,49,32,53]
def x3:List UInt8:=[101,120,116,114,97,99,116,32,49]
def x4:List UInt8:=[109,105,110,32,49]
def exT:List UInt8:=x1++[10]++x2++[10]++x3++[10]++x4
theorem tx1:fU 1 0 0 0=x1:=rfl
theorem tx2:fU 2 1 0 5=x2:=by
 unfold fU ee
 rw[show(5:Int)=((5:Nat):Int)from rfl,VK (n:=5) (by omega),M9 (n:=1) (by omega),M9 (n:=5) (by omega)]
 rfl
theorem tx3:fU 4 1 0 0=x3:=by
 unfold fU ee
 rw[M9 (n:=1) (by omega)]
 rfl
theorem tx4:fU 3 1 0 0=x4:=by
 unfold fU ee
 rw[M9 (n:=1) (by omega)]
 rfl
theorem rg1:dP 1 0 0 0:=⟨by omega,by omega,by omega,by omega,by omega,fun _=>rfl,fun _=>rfl,fun _=>rfl⟩
theorem rg2:dP 2 1 0 5:=⟨by omega,by omega,by omega,by omega,by omega,fun h=>absurd h (by decide),fun _=>rfl,fun h=>absurd h (by decide)⟩
theorem rg3:dP 4 1 0 0:=⟨by omega,by omega,by omega,by omega,by omega,fun h=>absurd h (by decide),fun _=>rfl,fun _=>rfl⟩
theorem rg4:dP 3 1 0 0:=⟨by omega,by omega,by omega,by omega,by omega,fun h=>absurd h (by decide),fun _=>rfl,fun _=>rfl⟩
theorem TU:gC exT=[x1,x2,x3,x4]:=by
 unfold gC
 rw[if_neg (by decide)]
 decide
def s1:kY:=⟨⟨[false,true],[(0,0,0),(0,0,0)]⟩,⟨[(0,false),(0,false)],[],0,0,9⟩,0⟩
def s2:kY:=⟨⟨[false,true],[(1,5,1),(0,0,0)]⟩,⟨[(1,true),(0,false)],[],1,1,9⟩,1⟩
def s3:kY:=⟨⟨[false,true],[(0,0,0),(0,0,0)]⟩,⟨[(1,false),(0,false)],[0],1,0,9⟩,1⟩
theorem ahh:s2.w.HW 1=some 0:=OH (bD.2 ⟨by omega,rfl,fun y hy bN=>by
 exfalso
 obtain⟨h0,h1,e,he⟩:=aG (w:=s2.w) (x:=y) (by omega)
 have h2:y<2:=h1
 have h3:y=1:=by omega
 subst h3
 cases hy⟩)
theorem min2:nB s2 1=⟨0,0,0,1,5,0⟩:=by
 unfold nB
 rw[if_neg (by decide),ahh]
 rfl
theorem ahi:nB s3 1=er 172:=by
 unfold nB
 rw[if_neg (by decide),OI rfl]
theorem Yz:Au ⟨yd 2,PZ 2 9,0⟩ [x1,x2,x3,x4]=[104,101,97,112,32,49,10,104,97,110,100,108,101,32,48,46,49,10,104,97,110,100,108,101,32,48,46,49,32,107,101,121,32,53,10,101,114,114,111,114,32,49,55,50,10]:=by
 have d0:=M9 (n:=0) (by omega)
 have d1:=M9 (n:=1) (by omega)
 have d5:=M9 (n:=5) (by omega)
 have i0:=VK (n:=0) (by omega)
 have i1:=VK (n:=1) (by omega)
 have i5:=VK (n:=5) (by omega)
 have ahj:Lib.itoa 172=[49,55,50]:=by
  rw[show Lib.itoa 172=Lib.decDigits 172 from rfl,acr (n:=172) (by omega),acr (n:=172 / 10) (by omega),M9 (n:=172 / 10 / 10) (by omega)]
  rfl
 have a1:nj ⟨yd 2,PZ 2 9,0⟩ x1=(s1,gD 1 ⟨0,1,0,0,0,0⟩):=by rw[←tx1,FK rg1];rfl
 have a2:nj s1 x2=(s2,gD 2 ⟨0,0,0,1,0,0⟩):=by rw[←tx2,FK rg2];rfl
 have a3:nj s2 x3=(s3,gD 4 ⟨0,0,0,1,5,0⟩):=by
  rw[←tx3,FK rg3]
  show((GW s2 1).1,gD _ (GW s2 1).2)=_
  unfold GW
  rw[min2]
  rfl
 have a4:nj s3 x4=(s3,gD 3 (er 172)):=by
  rw[←tx4,FK rg4]
  show(s3,gD _ (nB s3 1))=_
  rw[ahi]
  rfl
 simp only[Au,a1,a2,a3,a4]
 have b1:gD 1 ⟨0,1,0,0,0,0⟩=[104,101,97,112,32]++Lib.itoa (1:Nat):=rfl
 have b2:gD 2 ⟨0,0,0,1,0,0⟩=[104,97,110,100,108,101,32]++Lib.itoa (0:Nat)++[46]++Lib.itoa (1:Nat):=rfl
 have b3:gD 4 ⟨0,0,0,1,5,0⟩=[104,97,110,100,108,101,32]++Lib.itoa (0:Nat)++[46]++Lib.itoa (1:Nat)++[32]++([107,101,121,32]++Lib.itoa (5:Nat)):=rfl
 have b4:gD 3 (er 172)=[101,114,114,111,114,32]++Lib.itoa 172:=rfl
 rw[b1,b2,b3,b4,i0,i1,i5,d0,d1,d5,ahj]
 rfl
theorem wA{H:Hp}(he:yk H):ag Tryz.prog AX [] H fun v H'=>ap (v= .bool true∧ai H H'):=by
 refine aU Bn ?_
 refine vs ?_
 have h:=ld he (kd:=4) (dd:=0) (cap:=2) (mo:=9) (by omega) (by omega) exT (by decide)
 rw[if_neg (by decide),if_neg (by decide),TU,Yz,show aW exT= .string ⟨#[110,101,119,10,105,110,115,101,114,116,32,49,32,53,10,101,120,116,114,97,99,116,32,49,10,109,105,110,32,49]⟩from rfl]at h
 refine h.mono ?_
 rintro _ H1 ⟨f1,rfl⟩
 refine v2 rj aoE ?_
 exact⟨rfl,f1⟩
theorem Pk{H:Hp}{v:Value}(h:EO H (true,[.k (.i .i64),.k (.i .i64),.k (.i .u8),.k (.i .u32)]) v):∃ (kd dd:Int) (cp mo:Nat),v= .agg #[i64 kd,i64 dd,.int .u8 (cp:Int),.int .u32 (mo:Int)]∧cp<256∧mo<4294967296:=by
 obtain⟨cs,rfl,_,_,rfl,⟨x,rfl,hx⟩,_,_,rfl,⟨y,rfl,hy⟩,_,_,rfl,⟨z,rfl,hz⟩,_,_,rfl,⟨u,rfl,hu⟩,rfl⟩:=h
 have e1:IntKind.u8.min=0:=rfl
 have e2:IntKind.u8.max=255:=rfl
 have e3:IntKind.u32.min=0:=rfl
 have e4:IntKind.u32.max=4294967295:=rfl
 simp only[Lit.wf,aoW,apx,e1,e2,e3,e4]at hx hy hz hu
 exact⟨x,y,z.toNat,u.toNat,by rw[show((z.toNat:Nat):Int)=z by omega,show((u.toNat:Nat):Int)=u by omega],by omega,by omega⟩
theorem DX(H:Hp)(kd dd:Int){cp mo:Nat}(hc:cp<256)(hm:mo<4294967296):ag Tryz.prog If [.agg #[i64 kd,i64 dd,.int .u8 (cp:Int),.int .u32 (mo:Int)]] H fun v H'=>ap (v= .tuple [IQ kd dd,i64 ((cp%30:Nat):Int),.int .u32 (mo:Int)].toArray∧ai H H'):=by
 refine aU Iv ?_
 refine vs ?_
 have f0:ai H ((H.new 26 [i64 kd,i64 dd,.int .u8 (cp:Int),.int .u32 (mo:Int)]).new 23 [.int .i64 0,.int .i64 0]):=((ah.refl _ _).new _ _).new _ _
 have b0:((H.new 26 [i64 kd,i64 dd,.int .u8 (cp:Int),.int .u32 (mo:Int)]).new 23 [.int .i64 0,.int .i64 0]).own H.size=some [i64 kd,i64 dd,.int .u8 (cp:Int),.int .u32 (mo:Int)]:=by rw[bm (by simp only[ak];omega)];exact aA _ _ _
 have b1:((H.new 26 [i64 kd,i64 dd,.int .u8 (cp:Int),.int .u32 (mo:Int)]).new 23 [.int .i64 0,.int .i64 0]).own (H.size+1)=some [.int .i64 0,.int .i64 0]:=aR (by simp only[ak])
 generalize (H.new 26 [i64 kd,i64 dd,.int .u8 (cp:Int),.int .u32 (mo:Int)]).new 23 [.int .i64 0,.int .i64 0]=H0 at*
 refine fV.intro (fun H'=>H'.own H.size=some [i64 kd,i64 dd,.int .u8 (cp:Int),.int .u32 (mo:Int)]) b0 ?_
 refine vs ?_
 refine dV.intro (.int .u8 (cp:Int)) (fun H' hI=>?_) ?_
 ·refine v1 (ae hI) ?_
  trivial
 refine vs ?_
 rw[wrap64 (by omega) (by omega),if_neg (by decide),show((cp:Nat):Int).tmod 30=((cp%30:Nat):Int) by rw[Int.tmod_eq_emod_of_nonneg (by omega)];omega]
 refine vs ?_
 refine dV.intro (.int .u32 (mo:Int)) (fun H' hI=>?_) ?_
 ·refine v1 (ae hI) ?_
  trivial
 refine v1 (ae b0) ?_
 refine And.intro b0 ?_
 refine v1 b1 ?_
 refine And.intro b0 ?_
 simp(disch:=(first|omega| (simp only[Zs]<;>omega)|fail)) only[go_sem, ↓reduceIte,Zv,ae (af b1)]
 exact⟨rfl,f0.then ((ah.refl (fun x=>x=H.size+1) _).wr (fun _=>rfl) _) (fun z hz=>by omega)⟩
theorem TN.of{op a b:Nat}{k:Int}{v:Value}(hr:dP op a b k)(h:TN (fU op a b k) v):v= .tuple [jV op a b k,i64 0].toArray:=by
 rcases h with ⟨Qb,a',b',k',h1,h2,rfl⟩| ⟨h,_⟩
 ·obtain⟨rfl,rfl,rfl,rfl⟩:=HH hr h1 h2
  rfl
 ·exact absurd rfl (h _ _ _ _ hr)
theorem Rz{H:Hp}{v:Value}(h:EO H (false,[.k .s]) v):∃l:List UInt8,v=aW l:=by
 obtain⟨_,_,e,⟨b,rfl,_⟩,rfl⟩:=h
 injection e with e _
 exact⟨b.data.toList,e⟩
theorem wB{Hh:Hp}(he:yk Hh){v0 v1 v2:Value}(h0:EO Hh (true,[.k (.i .i64),.k (.i .i64),.k (.i .u8),.k (.i .u32)]) v0)(h1:EO Hh (true,[.k (.i .i64),.k (.i .i64)]) v1)(h2:EO Hh (false,[.k .s]) v2):ag Tryz.prog AW [v0,v1,v2] Hh fun v H'=>ap (v= .bool true∧ai Hh H'):=by
 obtain⟨kd,dd,cp,mo,rfl,hcp,hmo⟩:=Pk h0
 obtain⟨_,rfl,_,_,rfl,⟨Ut,rfl,_⟩,_,_,rfl,⟨Uu,rfl,_⟩,rfl⟩:=h1
 obtain⟨l,rfl⟩:=Rz h2
 have hz:l.toArray.size=l.length:=List.size_toArray ..
 refine aU Bm ?_
 refine vs ?_
 have f0:ai Hh ((Hh.new 26 [i64 kd,i64 dd,.int .u8 (cp:Int),.int .u32 (mo:Int)]).new 23 [i64 Ut,i64 Uu]):=((ah.refl _ _).new _ _).new _ _
 have b3:((Hh.new 26 [i64 kd,i64 dd,.int .u8 (cp:Int),.int .u32 (mo:Int)]).new 23 [i64 Ut,i64 Uu]).own Hh.size=some [i64 kd,i64 dd,.int .u8 (cp:Int),.int .u32 (mo:Int)]:=by rw[bm (by simp only[ak];omega)];exact aA _ _ _
 have b4:((Hh.new 26 [i64 kd,i64 dd,.int .u8 (cp:Int),.int .u32 (mo:Int)]).new 23 [i64 Ut,i64 Uu]).own (Hh.size+1)=some [i64 Ut,i64 Uu]:=aR (by simp only[ak])
 generalize (Hh.new 26 [i64 kd,i64 dd,.int .u8 (cp:Int),.int .u32 (mo:Int)]).new 23 [i64 Ut,i64 Uu]=H0 at*
 refine(wA (he.fresh f0)).mono ?_
 rintro _ H1 ⟨rfl,f1⟩
 have c3:=f1.own b3 (fun h=>h)
 have c4:=f1.own b4 (fun h=>h)
 refine vs ?_
 refine ar.dec (fun h3=>?_) (fun h3=>?_)<;>refine v1 (ae c3) ?_
 ·exact⟨rfl,f0.trans f1⟩
 refine(vV kd dd H1).mono ?_
 rintro _ H2 ⟨rfl,f2⟩
 have d3:=f2.own c3 (fun h=>h)
 have d4:=f2.own c4 (fun h=>h)
 refine vs ?_
 refine ar.dec (fun hk=>?_) (fun hk=>?_)<;>refine v1 (ae d4) ?_
 rotate_left
 ·exact⟨rfl,(f0.trans f1).trans f2⟩
 refine(vV Ut Uu H2).mono ?_
 rintro _ H3 ⟨rfl,f3⟩
 have e3:=f3.own d3 (fun h=>h)
 have e4:=f3.own d4 (fun h=>h)
 have F3:=((f0.trans f1).trans f2).trans f3
 refine vs ?_
 refine ar.dec (fun Ub=>?_) (fun Ub=>?_)<;>refine v1 (ae e3) ?_
 rotate_left
 ·exact⟨rfl,F3⟩
 refine(DX H3 kd dd hcp hmo).mono ?_
 rintro _ H4 ⟨rfl,f4⟩
 refine vs ?_
 obtain⟨f5,b5,z5⟩:=JL H4 23 [.int .i64 0,.int .i64 0] [i64 kd,i64 dd]
 have g4:=f5.own (f4.own e4 (fun h=>h)) (fun h=>h)
 generalize (H4.new 23 [.int .i64 0,.int .i64 0]).wr H4.size [i64 kd,i64 dd]=H5 at*
 refine fV.intro (fun H'=>H'.own (Hh.size+1)=some [i64 Ut,i64 Uu]) g4 ?_
 refine vs ?_
 refine dV.intro (IQ Ut Uu) (fun H' hI=>?_) ?_
 ·refine v1 (ae hI) ?_
  trivial
 refine v1 (ae b5) ?_
 refine And.intro g4 ?_
 refine vs ?_
 have F5:=(F3.trans f4).trans f5
 have hkk:Nr Ut Uu mo=Nr kd dd mo:=by
  unfold Nr
  rw[hk,Ub]
 refine(ld (he.fresh F5) (kd:=kd) (dd:=dd) (cap:=((cp%30:Nat):Int)) (mo:=mo) (by omega) (by omega) l (by omega)).mono ?_
 rintro _ H6 ⟨f6,rfl⟩
 refine And.intro (f6.own g4 (fun h=>h)) ?_
 refine vs ?_
 refine(ld (he.fresh (F5.trans f6)) (kd:=Ut) (dd:=Uu) (cap:=((cp%30:Nat):Int)) (mo:=mo) (by omega) (by omega) l (by omega)).mono ?_
 rintro _ H7 ⟨f7,rfl⟩
 refine And.intro (f7.own (f6.own g4 (fun h=>h)) (fun h=>h)) ?_
 rw[hkk]
 generalize (if 65536<l.length then gD 0 (er 31)++[10]else _)=o
 refine v2 rj aoE ?_
 exact⟨rfl,(F5.trans f6).trans f7⟩
end Go.Proofs.YtjkkkibiegfecaaGreatDoor
