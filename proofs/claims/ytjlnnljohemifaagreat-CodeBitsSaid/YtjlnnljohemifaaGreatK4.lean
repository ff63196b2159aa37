/- Texts put behind each other. -/
import Derived.Test.YtjlnnljohemifaaGreatK98
import Derived.Test.YtjlnnljohemifaaGreatK3
set_option maxRecDepth 100000
set_option maxHeartbeats 8000000
set_option linter.unusedVariables false
set_option linter.unusedSimpArgs false
namespace Go.Proofs.YtjlnnljohemifaaGreat
section
variable {nx OC : Int → Int} {a b x y z : Int} {r s l l1 l2 A B : List Int}
def mD(nx:Int→Int):Int→List Int→Int→Prop
 |a,[],z=>nx a=z
 |a,b::r,z=>nx a=b∧mD nx b r z
def vu(nx:Int→Int):List Int→Prop
 | []=>True
 |a::r=>mD nx a r a
theorem mD.YR:∀ {r:List Int} {a:Int},mD nx a (r++b::s) z↔mD nx a r b∧mD nx b s z:=by
 intro r
 induction r with
 |nil=>intro a;exact Iff.rfl
 |cons c r ih=>
  intro a
  constructor
  ·rintro⟨h1,h2⟩
   obtain⟨h3,h4⟩:=ih.1 h2
   exact⟨⟨h1,h3⟩,h4⟩
  ·rintro⟨⟨h1,h2⟩,h3⟩
   exact⟨h1,ih.2 ⟨h2,h3⟩⟩
theorem mD.first:∀ {r:List Int} {a a':Int},mD nx a r z→OC a'=nx a→(∀c∈r,OC c=nx c)→mD OC a' r z:=by
 intro r
 induction r with
 |nil=>intro a a' h h1 _;exact h1.trans h
 |cons c r ih=>
  intro a a' h h1 h2
  exact⟨h1.trans h.1,ih h.2 (h2 c (by simp)) fun d hd=>h2 d (by simp[hd])⟩
theorem vu.frame(h:vu nx l)(hk:∀c∈l,OC c=nx c):vu OC l:=by
 cases l with
 |nil=>trivial
 |cons a r=>exact mD.first h (hk a (by simp)) fun c hc=>hk c (by simp[hc])
theorem vu.rot(h:vu nx (l1++l2)):vu nx (l2++l1):=by
 cases l1 with
 |nil=>simpa using h
 |cons a r=>
  cases l2 with
  |nil=>simpa using h
  |cons b s=>
   have h1:mD nx a (r++b::s) a:=h
   obtain⟨h2,h3⟩:=mD.YR.1 h1
   exact mD.YR.2 ⟨h3,h2⟩
theorem vu.from(h:vu nx l)(hx:x∈l):∃A,l.Perm (x::A)∧vu nx (x::A):=by
 obtain⟨l1,l2,rfl⟩:=List.append_of_mem hx
 refine⟨l2++l1,?_,h.rot⟩
 exact aou (l₁:=l1) (l₂:=x::l2)
def zq(nx:Int→Int)(x y:Int):Int→Int:=fun z=>if z=x then nx y else if z=y then nx x else nx z
theorem OD:zq nx x y x=nx y:=by unfold zq;rw[if_pos rfl]
theorem OE:zq nx x y y=nx x:=by
 unfold zq
 by_cases h:y=x
 ·rw[if_pos h,h]
 ·rw[if_neg h,if_pos rfl]
theorem mi(h1:z≠x)(h2:z≠y):zq nx x y z=nx z:=by unfold zq;rw[if_neg h1,if_neg h2]
theorem vu.aM(h:vu nx l)(hx:x∉l)(hy:y∉l):vu (zq nx x y) l:=h.frame fun c hc=>mi (fun e=>hx (e▸hc)) (fun e=>hy (e▸hc))
theorem vu.join(h1:vu nx (x::A))(h2:vu nx (y::B))(hn:((x::A)++(y::B)).Nodup):vu (zq nx x y) (x::B++y::A):=by
 obtain⟨n1,n2,n3⟩:=aof.1 hn
 have a1:=(anN.1 n1).1
 have b1:=(anN.1 n2).1
 have hA:∀c∈A,zq nx x y c=nx c:=fun c hc=>mi (fun e=>a1 (e▸hc)) (fun e=>n3 c (by simp[hc]) y (by simp) e)
 have hB:∀c∈B,zq nx x y c=nx c:=fun c hc=>mi (fun e=>n3 x (by simp) c (by simp[hc]) e.symm) (fun e=>b1 (e▸hc))
 exact mD.YR.2 ⟨mD.first h2 OD hB,mD.first h1 OE hA⟩
theorem vu.part(h:vu nx (x::A++[y]))(hn:(x::A++[y]).Nodup):zq nx x y x=x∧vu (zq nx x y) (y::A):=by
 have Dg:=anN.1 (show(x::(A++[y])).Nodup from hn)
 obtain⟨n1,n2,n3⟩:=aof.1 Dg.2
 have h0:mD nx x (A++[y]) x:=h
 obtain⟨h1,h2⟩:=mD.YR.1 h0
 have hA:∀c∈A,zq nx x y c=nx c:=fun c hc=>mi (fun e=>Dg.1 (by rw[←e];simp[hc])) (fun e=>n3 c hc y (by simp) e)
 exact⟨OD.trans h2,mD.first h1 OE hA⟩
theorem LC:zq nx x x=nx:=by
 funext z
 unfold zq
 split
 ·rename_i e;rw[e]
 ·rfl
structure Bb(nx pv:Int→Int):Prop where
 pn:∀x,pv (nx x)=x
 np:∀x,nx (pv x)=x
def TY(nx pv:Int→Int)(x y:Int):Int→Int:=fun z=>if z=nx x then y else if z=nx y then x else pv z
theorem Bb.zq{pv:Int→Int}(h:Bb nx pv)(x y:Int):Bb (zq nx x y) (TY nx pv x y):=by
 have inj:∀u v,nx u=nx v→u=v:=fun u v e=>by rw[←h.pn u,e,h.pn]
 constructor
 ·intro z
  unfold TY
  by_cases h1:z=x
  ·rw[h1,OD]
   by_cases h2:nx y=nx x
   ·rw[if_pos h2,inj _ _ h2]
   ·rw[if_neg h2,if_pos rfl]
  ·by_cases h2:z=y
   ·rw[h2,OE,if_pos rfl]
   ·rw[mi h1 h2,if_neg (fun e=>h1 (inj _ _ e)),if_neg (fun e=>h2 (inj _ _ e)),h.pn]
 ·intro z
  unfold TY
  by_cases h1:z=nx x
  ·rw[if_pos h1,OE,h1]
  ·rw[if_neg h1]
   by_cases h2:z=nx y
   ·rw[if_pos h2,OD,h2]
   ·rw[if_neg h2,mi (fun e=>h1 (by rw[←e,h.np])) (fun e=>h2 (by rw[←e,h.np])),h.np]
theorem vu.last{pv:Int→Int}(h:Bb nx pv)(hc:vu nx (x::A++[y])):pv x=y:=by
 have h0:mD nx x (A++[y]) x:=hc
 have h1:nx y=x:=(mD.YR.1 h0).2
 rw[←h1,h.pn]
variable {hm hm' : Int → Int} {lt lt' : Int → Int → Bool} {ch : Int → List Int} {par : Int → Int} {ax : Int → List Int} {W : List Int}
structure dV(hm:Int→Int)(lt:Int→Int→Bool)(nx:Int→Int)(ch:Int→List Int)(par:Int→Int)(ax:Int→List Int)(W:List Int):Prop where
 pr:Pr hm lt ch par
 cy:∀x,vu nx (ch x)
 rc:∀h,vu nx (ax h)
 rn:∀h,(ax h).Nodup
 rm:∀h c,c∈ax h→hm c=h∧par c= -1∧0<h∧c∉W
 wn:W.Nodup
 wm:∀c∈W,nx c=c∧par c= -1∧0<hm c
 jt:∀c,0<hm c→par c= -1→c∈ax (hm c)∨c∈W
 lone:∀c,hm c≤0→nx c=c
theorem dV.YS(m:dV hm lt nx ch par ax W){c:Int}(h:c∈W):c≠ -1:=fun e=>by
 have:=(m.wm c h).2.2
 rw[e,m.pr.h0]at this
 omega
theorem dV.rne(m:dV hm lt nx ch par ax W){c h:Int}(hc:c∈ax h):c≠ -1:=fun e=>by
 obtain⟨h1,_,h2,_⟩:=m.rm h c hc
 rw[e,m.pr.h0]at h1
 omega
theorem dV.Nq(m:dV hm lt nx ch par ax W){c x:Int}(hc:c∈ch x):(∀h,c∉ax h)∧c∉W:=by
 have h1:=m.pr.dn x c hc
 refine⟨fun h hh=>?_,fun hw=>?_⟩
 ·have:=(m.rm h c hh).2.1
  rw[h1.1]at this
  exact h1.2.1 this
 ·have:=(m.wm c hw).2.1
  rw[h1.1]at this
  exact h1.2.1 this
theorem dV.perm{W':List Int}(m:dV hm lt nx ch par ax W)(h:W.Perm W'):dV hm lt nx ch par ax W':=
 ⟨m.pr,m.cy,m.rc,m.rn,fun g c hc=>by obtain⟨h1,h2,h3,h4⟩:=m.rm g c hc;exact⟨h1,h2,h3,fun hw=>h4 (h.mem_iff.2 hw)⟩,h.nodup_iff.1 m.wn,fun c hc=>m.wm c (h.mem_iff.2 hc),fun c h1 h2=>(m.jt c h1 h2).imp_right h.mem_iff.1,m.lone⟩
theorem dV.tg(m:dV hm lt nx ch par ax W){g:Int}{l:List Int}(hp:(ax g).Perm l)(hc:vu nx l):dV hm lt nx ch par (ay ax g l) W:=by
 refine⟨m.pr,m.cy,fun h=>?_,fun h=>?_,fun h c hh=>?_,m.wn,m.wm,fun c h1 h2=>?_,m.lone⟩
 ·unfold ay;split
  ·exact hc
  ·exact m.rc h
 ·unfold ay;split
  ·exact hp.nodup_iff.1 (m.rn g)
  ·exact m.rn h
 ·unfold ay at hh
  split at hh
  ·rename_i e
   rw[e]
   exact m.rm g c (hp.mem_iff.2 hh)
  ·exact m.rm h c hh
 ·unfold ay
  split
  ·rename_i e
   have:=m.jt c h1 h2
   rw[e]at this
   exact this.imp_left hp.mem_iff.1
  ·exact m.jt c h1 h2
theorem dV.RZ(m:dV hm lt nx ch par ax (x::W)){t:Int}{A:List Int}(hr:ax (hm x)=t::A):dV hm lt (zq nx t x) ch par (ay ax (hm x) (t::x::A)) W:=by
 obtain⟨x1,x2,x3⟩:=m.wm x (by simp)
 have hxW:=(anN.1 m.wn).1
 have ht:=m.rm (hm x) t (by rw[hr];simp)
 have htx:t≠x:=fun e=>ht.2.2.2 (by rw[e];simp)
 have nr:∀h,x∉ax h:=fun h hh=>(m.rm h x hh).2.2.2 (by simp)
 have tr:∀h,t∈ax h→h=hm x:=fun h hh=>by rw[← (m.rm h t hh).1,ht.1]
 refine⟨m.pr,fun y=>(m.cy y).aM (fun h=>?_) (fun h=>?_),fun h=>?_,fun h=>?_,fun h c hh=>?_,(anN.1 m.wn).2,fun c hc=>?_,fun c h1 h2=>?_,fun c hc=>?_⟩
 ·exact(m.Nq h).1 (hm x) (by rw[hr];simp)
 ·exact(m.Nq h).2 (by simp)
 ·unfold ay
  split
  ·have h1:=m.rc (hm x)
   rw[hr]at h1
   have h2:vu nx [x]:=x1
   refine h1.join h2 ?_
   rw[aof]
   have hn:=m.rn (hm x)
   rw[hr]at hn
   refine⟨hn,by simp,fun u hu v hv e=>?_⟩
   rw[anC]at hv
   exact nr (hm x) (by rw[hr,←hv,←e];exact hu)
  ·rename_i e
   exact(m.rc h).aM (fun hh=>e (tr h hh)) (nr h)
 ·unfold ay
  split
  ·have hn:=m.rn (hm x)
   have h2:=nr (hm x)
   rw[hr]at hn h2
   rw[anN]at hn ⊢
   rw[anN]
   simp only[anF,not_or]at h2 ⊢
   exact⟨⟨htx,hn.1⟩,h2.2,hn.2⟩
  ·exact m.rn h
 ·unfold ay at hh
  split at hh
  ·rename_i e
   by_cases fS:c=x
   ·rw[fS,e];exact⟨rfl,x2,x3,hxW⟩
   ·have tF:c∈ax (hm x):=by
     rw[hr]
     simp only[anF]at hh ⊢
     rcases hh with h|h|h
     ·exact .inl h
     ·exact absurd h fS
     ·exact .inr h
    obtain⟨h1,h2,h3,h4⟩:=m.rm _ c tF
    rw[e]
    exact⟨h1,h2,h3,fun h=>h4 (by simp[h])⟩
  ·obtain⟨h1,h2,h3,h4⟩:=m.rm h c hh
   exact⟨h1,h2,h3,fun h=>h4 (by simp[h])⟩
 ·obtain⟨h1,h2,h3⟩:=m.wm c (by simp[hc])
  refine⟨?_,h2,h3⟩
  rw[mi]
  ·exact h1
  ·rintro rfl;exact ht.2.2.2 (by simp[hc])
  ·rintro rfl;exact hxW hc
 ·unfold ay
  rcases m.jt c h1 h2 with h|h
  ·split
   ·rename_i e
    rw[e,hr]at h
    refine .inl ?_
    simp only[anF]at h ⊢
    exact h.imp_right .inr
   ·exact .inl h
  ·rcases anF.1 h with rfl|h
   ·rw[if_pos rfl]
    exact .inl (by simp)
   ·exact .inr h
 ·rw[mi]
  ·exact m.lone c hc
  ·rintro rfl;omega
  ·rintro rfl;omega
theorem dV.aaS(m:dV hm lt nx ch par ax (x::W))(hr:ax (hm x)=[]):dV hm lt nx ch par (ay ax (hm x) [x]) W:=by
 obtain⟨x1,x2,x3⟩:=m.wm x (by simp)
 have hxW:=(anN.1 m.wn).1
 refine⟨m.pr,m.cy,fun h=>?_,fun h=>?_,fun h c hh=>?_,(anN.1 m.wn).2,fun c hc=>m.wm c (by simp[hc]),fun c h1 h2=>?_,m.lone⟩
 ·unfold ay;split
  ·exact x1
  ·exact m.rc h
 ·unfold ay;split
  ·simp
  ·exact m.rn h
 ·unfold ay at hh
  split at hh
  ·rename_i e
   rw[anC]at hh
   rw[hh,e];exact⟨rfl,x2,x3,hxW⟩
  ·obtain⟨h1,h2,h3,h4⟩:=m.rm h c hh
   exact⟨h1,h2,h3,fun h=>h4 (by simp[h])⟩
 ·unfold ay
  rcases m.jt c h1 h2 with h|h
  ·split
   ·rename_i e;rw[e,hr]at h;cases h
   ·exact .inl h
  ·rcases anF.1 h with rfl|h
   ·rw[if_pos rfl]
    exact .inl (by simp)
   ·exact .inr h
theorem dV.abd(m:dV hm lt nx ch par ax W){g y:Int}{A:List Int}(hr:ax g=x::A++[y]):dV hm lt (zq nx x y) ch par (ay ax g (y::A)) (x::W):=by
 obtain⟨x1,x2,x3,x4⟩:=m.rm g x (by rw[hr];simp)
 obtain⟨y1,y2,y3,y4⟩:=m.rm g y (by rw[hr];simp)
 have hc:=m.rc g
 have hn:=m.rn g
 rw[hr]at hc hn
 obtain⟨p1,p2⟩:=hc.part hn
 have Dg:=anN.1 (show(x::(A++[y])).Nodup from hn)
 have hp:(A++[y]).Perm (y::A):=aou (l₁:=A) (l₂:=[y])
 have er:∀h c,c∈ax h→(c=x∨c=y)→h=g:=fun h c hh he=>by
  rw[← (m.rm h c hh).1]
  rcases he with rfl|rfl
  ·exact x1
  ·exact y1
 refine⟨m.pr,fun z=>(m.cy z).aM (fun h=>(m.Nq h).1 g (by rw[hr];simp)) (fun h=>(m.Nq h).1 g (by rw[hr];simp)),fun h=>?_,fun h=>?_,fun h c hh=>?_,anN.2 ⟨x4,m.wn⟩,fun c Jy=>?_,fun c h1 h2=>?_,fun c hc=>?_⟩
 ·unfold ay
  split
  ·exact p2
  ·rename_i e
   exact(m.rc h).aM (fun hh=>e (er h x hh (.inl rfl))) (fun hh=>e (er h y hh (.inr rfl)))
 ·unfold ay
  split
  ·exact hp.nodup_iff.1 Dg.2
  ·exact m.rn h
 ·unfold ay at hh
  split at hh
  ·rename_i e
   have tF:c∈A++[y]:=hp.mem_iff.2 hh
   obtain⟨h1,h2,h3,h4⟩:=m.rm g c (by rw[hr];exact anZ _ tF)
   rw[e]
   refine⟨h1,h2,h3,fun h=>?_⟩
   rcases anF.1 h with rfl|h
   ·exact Dg.1 tF
   ·exact h4 h
  ·rename_i e
   obtain⟨h1,h2,h3,h4⟩:=m.rm h c hh
   refine⟨h1,h2,h3,fun hw=>?_⟩
   rcases anF.1 hw with rfl|hw
   ·exact e (er h c hh (.inl rfl))
   ·exact h4 hw
 ·rcases anF.1 Jy with rfl|hw
  ·exact⟨p1,x2,by omega⟩
  ·obtain⟨h1,h2,h3⟩:=m.wm c hw
   refine⟨?_,h2,h3⟩
   rw[mi (z:=c) (fun e=>x4 (by rw[←e];exact hw)) (fun e=>y4 (by rw[←e];exact hw))]
   exact h1
 ·unfold ay
  rcases m.jt c h1 h2 with h|h
  ·split
   ·rename_i e
    rw[e,hr]at h
    rcases anF.1 h with rfl|h
    ·exact .inr (by simp)
    ·exact .inl (hp.mem_iff.1 h)
   ·exact .inl h
  ·exact .inr (by simp[h])
 ·rw[mi]
  ·exact m.lone c hc
  ·rintro rfl;omega
  ·rintro rfl;omega
theorem dV.abe(m:dV hm lt nx ch par ax W){g:Int}(hr:ax g=[x]):dV hm lt nx ch par (ay ax g []) (x::W):=by
 obtain⟨x1,x2,x3,x4⟩:=m.rm g x (by rw[hr];simp)
 have hc:=m.rc g
 rw[hr]at hc
 refine⟨m.pr,m.cy,fun h=>?_,fun h=>?_,fun h c hh=>?_,anN.2 ⟨x4,m.wn⟩,fun c tF=>?_,fun c h1 h2=>?_,m.lone⟩
 ·unfold ay;split
  ·trivial
  ·exact m.rc h
 ·unfold ay;split
  ·exact aoG
  ·exact m.rn h
 ·unfold ay at hh
  split at hh
  ·cases hh
  ·rename_i e
   obtain⟨h1,h2,h3,h4⟩:=m.rm h c hh
   refine⟨h1,h2,h3,fun hw=>?_⟩
   rcases anF.1 hw with rfl|hw
   ·exact e (by rw[←h1,x1])
   ·exact h4 hw
 ·rcases anF.1 tF with rfl|tF
  ·exact⟨hc,x2,by omega⟩
  ·exact m.wm c tF
 ·unfold ay
  rcases m.jt c h1 h2 with h|h
  ·split
   ·rename_i e
    rw[e,hr,anC]at h
    exact .inr (by simp[h])
   ·exact .inl h
  ·exact .inr (by simp[h])
theorem Pr.Sc(q:Pr hm lt ch par){l:List Int}(h:(ch x).Perm l):Pr hm lt (ay ch x l) par:=by
 refine⟨q.h0,fun y c hc=>?_,fun c y hc hy=>?_,fun y=>?_⟩
 ·unfold ay at hc
  split at hc
  ·rename_i e
   rw[e];exact q.dn x c (h.mem_iff.2 hc)
  ·exact q.dn y c hc
 ·have:=q.up c y hc hy
  unfold ay
  split
  ·rename_i e
   rw[e]at this
   exact h.mem_iff.1 this
  ·exact this
 ·unfold ay
  split
  ·exact h.nodup_iff.1 (q.nd x)
  ·exact q.nd y
theorem eB(ch:Int→List Int)(x:Int)(l l':List Int):ay (ay ch x l) x l'=ay ch x l':=by
 funext y
 unfold ay
 split<;>rfl
theorem IB(ch:Int→List Int)(x b:Int)(l:List Int):ay (nF ch x b) x l=ay ch x l:=by
 funext y
 unfold ay nF
 split<;>rfl
theorem dV.aaV(m:dV hm lt nx ch par ax W){l:List Int}(hp:(ch x).Perm l)(hc:vu nx l):dV hm lt nx (ay ch x l) par ax W:=by
 refine⟨m.pr.Sc hp,fun y=>?_,m.rc,m.rn,m.rm,m.wn,m.wm,m.jt,m.lone⟩
 unfold ay
 split
 ·exact hc
 ·exact m.cy y
theorem dV.W4(m:dV hm lt nx ch par ax (x::y::W))(hh:hm x=hm y)(hl:lt x y=true)(hc:ch x=[]):dV hm lt nx (ay ch x [y]) (aI par y x) ax (x::W):=by
 obtain⟨x1,x2,x3⟩:=m.wm x (by simp)
 obtain⟨y1,y2,y3⟩:=m.wm y (by simp)
 have Dl:=m.YS (c:=x) (by simp)
 have hn:=m.wn
 simp only[anN,anF,not_or]at hn
 have pu:∀c,c≠y→aI par y x c=par c:=fun c h=>by unfold aI;rw[if_neg h]
 have q:=m.pr.link Dl y2 hh y3 hl
 have e1:nF ch x y=ay ch x [y]:=by
  funext z
  unfold nF ay
  split
  ·rw[hc]
  ·rfl
 rw[e1]at q
 refine⟨q,fun z=>?_,m.rc,m.rn,fun h c hc=>?_,anN.2 ⟨hn.1.2,hn.2.2⟩,fun c hc=>?_,fun c h1 h2=>?_,m.lone⟩
 ·unfold ay
  split
  ·exact y1
  ·exact m.cy z
 ·obtain⟨h1,h2,h3,h4⟩:=m.rm h c hc
  simp only[anF,not_or]at h4
  exact⟨h1,by rw[pu c h4.2.1];exact h2,h3,by simp[h4.1,h4.2.2]⟩
 ·have Be:c≠y:=fun e=>by
   rw[e]at hc
   rcases anF.1 hc with h|h
   ·exact hn.1.1 h.symm
   ·exact hn.2.1 h
  obtain⟨h1,h2,h3⟩:=m.wm c (by rcases anF.1 hc with h|h;simp[h];simp[h])
  exact⟨h1,by rw[pu c Be];exact h2,h3⟩
 ·have Be:c≠y:=fun e=>by
   rw[e]at h2
   unfold aI at h2
   rw[if_pos rfl]at h2
   exact Dl h2
  rw[pu c Be]at h2
  refine(m.jt c h1 h2).imp_right fun h=>?_
  simp only[anF]at h ⊢
  rcases h with h|h|h
  ·exact .inl h
  ·exact absurd h Be
  ·exact .inr h
theorem dV.under(m:dV hm lt nx ch par ax (x::y::W))(hh:hm x=hm y)(hl:lt x y=true){k:Int}{K:List Int}(hc:ch x=k::K):dV hm lt (zq nx k y) (ay ch x (y::K++[k])) (aI par y x) ax (x::W):=by
 obtain⟨x1,x2,x3⟩:=m.wm x (by simp)
 obtain⟨y1,y2,y3⟩:=m.wm y (by simp)
 have Dl:=m.YS (c:=x) (by simp)
 have hn:=m.wn
 simp only[anN,anF,not_or]at hn
 have hk:=m.Nq (c:=k) (x:=x) (by rw[hc];simp)
 have C6:=m.pr.dn x k (by rw[hc];simp)
 have yr:∀h,y∉ax h:=fun h hh=>(m.rm h y hh).2.2.2 (by simp)
 have yc:∀z,y∉ch z:=fun z h=>(m.Nq h).2 (by simp)
 have kc:∀z,k∈ch z→z=x:=fun z h=>by rw[← (m.pr.dn z k h).1,C6.1]
 have pu:∀c,c≠y→aI par y x c=par c:=fun c h=>by unfold aI;rw[if_neg h]
 have q:=m.pr.link Dl y2 hh y3 hl
 have q2:=q.Sc (x:=x) (l:=y::K++[k]) (by
  unfold nF
  rw[if_pos rfl,hc]
  exact(aou (l₁:=[k]) (l₂:=K)).cons y)
 rw[IB]at q2
 have cyc:vu (zq nx k y) (y::K++[k]):=by
  have h1:=m.cy x
  rw[hc]at h1
  have gk:=m.pr.nd x
  have hy:=yc x
  rw[hc]at gk hy
  have h3:=h1.join (y:=y) (B:=[]) y1 (by
   rw[aof]
   refine⟨gk,by simp,fun u hu v hv e=>?_⟩
   rw[anC]at hv
   exact hy (by rw[←hv,←e];exact hu))
  exact vu.rot (l1:=[k]) (l2:=y::K) h3
 refine⟨q2,fun z=>?_,fun h=>(m.rc h).aM (hk.1 h) (yr h),m.rn,fun h c hc=>?_,anN.2 ⟨hn.1.2,hn.2.2⟩,fun c hc=>?_,fun c h1 h2=>?_,fun c tF=>?_⟩
 ·unfold ay
  split
  ·exact cyc
  ·rename_i e
   exact(m.cy z).aM (fun h=>e (kc z h)) (yc z)
 ·obtain⟨h1,h2,h3,h4⟩:=m.rm h c hc
  simp only[anF,not_or]at h4
  exact⟨h1,by rw[pu c h4.2.1];exact h2,h3,by simp[h4.1,h4.2.2]⟩
 ·have Be:c≠y:=fun e=>by
   rw[e]at hc
   rcases anF.1 hc with h|h
   ·exact hn.1.1 h.symm
   ·exact hn.2.1 h
  have hcW:c∈x::y::W:=by rcases anF.1 hc with h|h;simp[h];simp[h]
  obtain⟨h1,h2,h3⟩:=m.wm c hcW
  refine⟨?_,by rw[pu c Be];exact h2,h3⟩
  rw[mi (fun e=>hk.2 (by rw[←e];exact hcW)) Be]
  exact h1
 ·have Be:c≠y:=fun e=>by
   rw[e]at h2
   unfold aI at h2
   rw[if_pos rfl]at h2
   exact Dl h2
  rw[pu c Be]at h2
  refine(m.jt c h1 h2).imp_right fun h=>?_
  simp only[anF]at h ⊢
  rcases h with h|h|h
  ·exact .inl h
  ·exact absurd h Be
  ·exact .inr h
 ·rw[mi (fun e=>by rw[e]at tF;omega) (fun e=>by rw[e]at tF;omega)]
  exact m.lone c tF
theorem dV.raise(m:dV hm lt nx ch par ax W){g k:Int}{K:List Int}(hr:ax g=x::A)(hc:ch x=k::K):dV hm lt (zq nx x k) (ay ch x []) (fk ch par x) (ay ax g (x::K++k::A)) W:=by
 obtain⟨x1,x2,x3,x4⟩:=m.rm g x (by rw[hr];simp)
 have fZ:x≠ -1:=m.rne (h:=g) (by rw[hr];simp)
 have hk:=m.Nq (c:=k) (x:=x) (by rw[hc];simp)
 have C6:=m.pr.dn x k (by rw[hc];simp)
 have pe:∀c,c∈ch x→hm c=g∧0<hm c:=fun c h=>by have:=m.pr.dn x c h;exact⟨by rw[←this.2.2.1,x1],this.2.2.2.1⟩
 have xc:∀z,x∉ch z:=fun z h=>(m.Nq h).1 g (by rw[hr];simp)
 have kc:∀z,k∈ch z→z=x:=fun z h=>by rw[← (m.pr.dn z k h).1,C6.1]
 have xr:∀h,x∈ax h→h=g:=fun h hh=>by rw[← (m.rm h x hh).1,x1]
 have hnA:=m.rn g
 rw[hr]at hnA
 have hnK:=m.pr.nd x
 rw[hc]at hnK
 have abf:((x::A)++(k::K)).Nodup:=by
  rw[aof]
  refine⟨hnA,hnK,fun u hu v hv e=>?_⟩
  exact(m.Nq (c:=v) (x:=x) (by rw[hc];exact hv)).1 g (by rw[hr,←e];exact hu)
 have vw:((x::A)++(k::K)).Perm (x::K++k::A):=by
  refine List.Perm.cons x ?_
  refine(aou (l₁:=A) (l₂:=k::K)).trans ?_
  exact apw.symm
 have lu:=m.rc g
 rw[hr]at lu
 have hck:=m.cy x
 rw[hc]at hck
 refine⟨m.pr.bare x,fun z=>?_,fun h=>?_,fun h=>?_,fun h c hh=>?_,m.wn,fun c Jy=>?_,fun c h1 h2=>?_,fun c nO=>?_⟩
 ·unfold ay
  split
  ·trivial
  ·rename_i e
   exact(m.cy z).aM (xc z) (fun h=>e (kc z h))
 ·unfold ay
  split
  ·exact lu.join hck abf
  ·rename_i e
   exact(m.rc h).aM (fun hh=>e (xr h hh)) (hk.1 h)
 ·unfold ay
  split
  ·exact vw.nodup_iff.1 abf
  ·exact m.rn h
 ·unfold ay at hh
  unfold fk
  split at hh
  ·rename_i e
   rw[e]
   have hm2:=vw.mem_iff.2 hh
   rcases anH.1 hm2 with h5|h5
   ·obtain⟨h1,h2,h3,h4⟩:=m.rm g c (by rw[hr];exact h5)
    refine⟨h1,?_,h3,h4⟩
    split
    ·rfl
    ·exact h2
   ·have h6:c∈ch x:=by rw[hc];exact h5
    obtain⟨h7,h8⟩:=pe c h6
    rw[if_pos h6]
    exact⟨h7,rfl,by omega,(m.Nq h6).2⟩
  ·obtain⟨h1,h2,h3,h4⟩:=m.rm h c hh
   refine⟨h1,?_,h3,h4⟩
   split
   ·rfl
   ·exact h2
 ·obtain⟨h1,h2,h3⟩:=m.wm c Jy
  refine⟨?_,?_,h3⟩
  ·rw[mi (fun e=>x4 (by rw[←e];exact Jy)) (fun e=>hk.2 (by rw[←e];exact Jy))]
   exact h1
  ·unfold fk
   split
   ·rfl
   ·exact h2
 ·unfold fk at h2
  unfold ay
  by_cases h6:c∈ch x
  ·rw[if_pos (pe c h6).1]
   refine .inl (vw.mem_iff.1 (aoq _ ?_))
   rw[←hc];exact h6
  ·rw[if_neg h6]at h2
   rcases m.jt c h1 h2 with h|h
   ·refine .inl ?_
    split
    ·rename_i e
     rw[e,hr]at h
     exact vw.mem_iff.1 (anL _ h)
    ·exact h
   ·exact .inr h
 ·rw[mi (fun e=>by rw[e,x1]at nO;omega) (fun e=>by have:=(pe k (by rw[hc];simp)).2;rw[e]at nO;omega)]
  exact m.lone c nO
theorem dV.off(m:dV hm lt nx ch par ax W){p:Int}(hc:ch p=x::A++[y]):dV hm lt (zq nx x y) (ay ch p (A++[y])) (aI par x (-1)) ax (x::W):=by
 have hx:=m.pr.dn p x (by rw[hc];simp)
 have hy:=m.pr.dn p y (by rw[hc];simp)
 have OC:=m.Nq (c:=x) (x:=p) (by rw[hc];simp)
 have ny':=m.Nq (c:=y) (x:=p) (by rw[hc];simp)
 have pu:∀c,c≠x→aI par x (-1) c=par c:=fun c h=>by unfold aI;rw[if_neg h]
 have Be:=m.cy p
 have gk:=m.pr.nd p
 rw[hc]at Be gk
 obtain⟨p1,p2⟩:=Be.part gk
 have q:=m.pr.off (l1:=[]) (l2:=A++[y]) (x:=x) (p:=p) (by rw[hc];rfl)
 refine⟨q,fun z=>?_,fun h=>(m.rc h).aM (OC.1 h) (ny'.1 h),m.rn,fun h c hh=>?_,anN.2 ⟨OC.2,m.wn⟩,fun c Jy=>?_,fun c h1 h2=>?_,fun c nO=>?_⟩
 ·unfold ay
  split
  ·exact vu.rot (l1:=[y]) (l2:=A) p2
  ·rename_i e
   exact(m.cy z).aM (fun h=>e (by rw[← (m.pr.dn z x h).1,hx.1])) (fun h=>e (by rw[← (m.pr.dn z y h).1,hy.1]))
 ·obtain⟨h1,h2,h3,h4⟩:=m.rm h c hh
  have fS:c≠x:=fun e=>OC.1 h (by rw[←e];exact hh)
  exact⟨h1,by rw[pu c fS];exact h2,h3,by simp[fS,h4]⟩
 ·rcases anF.1 Jy with e|hw
  ·rw[e]
   exact⟨p1,by unfold aI;rw[if_pos rfl],hx.2.2.2.1⟩
  ·obtain⟨h1,h2,h3⟩:=m.wm c hw
   have fS:c≠x:=fun e=>OC.2 (by rw[←e];exact hw)
   refine⟨?_,by rw[pu c fS];exact h2,h3⟩
   rw[mi fS (fun e=>ny'.2 (by rw[←e];exact hw))]
   exact h1
 ·by_cases fS:c=x
  ·exact .inr (by simp[fS])
  ·rw[pu c fS]at h2
   exact(m.jt c h1 h2).imp_right fun h=>by simp[h]
 ·rw[mi (fun e=>by rw[e]at nO;omega) (fun e=>by rw[e]at nO;omega)]
  exact m.lone c nO
theorem dV.afw(m:dV hm lt nx ch par ax W){p:Int}(hc:ch p=[x]):dV hm lt nx (ay ch p []) (aI par x (-1)) ax (x::W):=by
 have hx:=m.pr.dn p x (by rw[hc];simp)
 have OC:=m.Nq (c:=x) (x:=p) (by rw[hc];simp)
 have pu:∀c,c≠x→aI par x (-1) c=par c:=fun c h=>by unfold aI;rw[if_neg h]
 have Be:=m.cy p
 rw[hc]at Be
 have q:=m.pr.off (l1:=[]) (l2:=[]) (x:=x) (p:=p) (by rw[hc];rfl)
 refine⟨q,fun z=>?_,m.rc,m.rn,fun h c hh=>?_,anN.2 ⟨OC.2,m.wn⟩,fun c Jy=>?_,fun c h1 h2=>?_,m.lone⟩
 ·unfold ay
  split
  ·trivial
  ·exact m.cy z
 ·obtain⟨h1,h2,h3,h4⟩:=m.rm h c hh
  have fS:c≠x:=fun e=>OC.1 h (by rw[←e];exact hh)
  exact⟨h1,by rw[pu c fS];exact h2,h3,by simp[fS,h4]⟩
 ·rcases anF.1 Jy with e|hw
  ·rw[e]
   exact⟨Be,by unfold aI;rw[if_pos rfl],hx.2.2.2.1⟩
  ·obtain⟨h1,h2,h3⟩:=m.wm c hw
   have fS:c≠x:=fun e=>OC.2 (by rw[←e];exact hw)
   exact⟨h1,by rw[pu c fS];exact h2,h3⟩
 ·by_cases fS:c=x
  ·exact .inr (by simp[fS])
  ·rw[pu c fS]at h2
   exact(m.jt c h1 h2).imp_right fun h=>by simp[h]
theorem dV.other(m:dV hm lt nx ch par ax W)(h:∀x c,c∈ch x→hm x=hm c→0<hm c→lt x c=true→lt' x c=true):dV hm lt' nx ch par ax W:=
 ⟨m.pr.other m.pr.h0 fun x c hc h1 h2 h3=>⟨h1,h2,h x c hc h1 h2 h3⟩,m.cy,m.rc,m.rn,m.rm,m.wn,m.wm,m.jt,m.lone⟩
theorem dV.put(m:dV hm lt nx ch par ax W){g:Int}(h0:hm' (-1)=0)(hx:hm x≤0)(kU:x≠ -1)(hg:0<g)(e1:hm' x=g)(e2:∀y,y≠x→hm' y=hm y)(el:∀a b,0<hm a→0<hm b→a≠x→b≠x→lt' a b=lt a b):dV hm' lt' nx ch par ax (x::W):=by
 obtain⟨a1,a2⟩:=m.pr.alone hx kU
 have nr:∀h,x∉ax h:=fun h hh=>by obtain⟨h1,_,h3,_⟩:=m.rm h x hh;omega
 have nW:x∉W:=fun h=>by have:=(m.wm x h).2.2;omega
 refine⟨m.pr.other h0 fun y c hc h1 h2 h3=>?_,m.cy,m.rc,m.rn,fun h c hh=>?_,anN.2 ⟨nW,m.wn⟩,fun c hc=>?_,fun c h1 h2=>?_,fun c hc=>?_⟩
 ·have n1:y≠x:=fun e=>by rw[e,a2]at hc;cases hc
  have n2:c≠x:=fun e=>by rw[e]at h2;omega
  rw[e2 _ n1,e2 _ n2,el _ _ (by omega) h2 n1 n2]
  exact⟨h1,h2,h3⟩
 ·obtain⟨h1,h2,h3,h4⟩:=m.rm h c hh
  have n1:c≠x:=fun e=>nr h (by rw[←e];exact hh)
  exact⟨by rw[e2 c n1];exact h1,h2,h3,by simp[n1,h4]⟩
 ·rcases anF.1 hc with e|hc
  ·rw[e,e1];exact⟨m.lone x hx,a1,hg⟩
  ·obtain⟨h1,h2,h3⟩:=m.wm c hc
   exact⟨h1,h2,by rw[e2 c (fun e=>nW (by rw[←e];exact hc))];exact h3⟩
 ·by_cases fS:c=x
  ·exact .inr (by simp[fS])
  ·rw[e2 c fS]at h1 ⊢
   exact(m.jt c h1 h2).imp_right fun h=>by simp[h]
 ·by_cases fS:c=x
  ·rw[fS,e1]at hc;omega
  ·rw[e2 c fS]at hc
   exact m.lone c hc
theorem dV.drop(m:dV hm lt nx ch par ax (x::W))(hc:ch x=[])(h0:hm' (-1)=0)(e1:hm' x=0)(e2:∀y,y≠x→hm' y=hm y)(el:∀a b,0<hm a→0<hm b→a≠x→b≠x→lt' a b=lt a b):dV hm' lt' nx ch par ax W:=by
 obtain⟨x1,x2,x3⟩:=m.wm x (by simp)
 have hn:=anN.1 m.wn
 refine⟨m.pr.other h0 fun y c Ht h1 h2 h3=>?_,m.cy,m.rc,m.rn,fun h c hh=>?_,hn.2,fun c Jy=>?_,fun c h1 h2=>?_,fun c nO=>?_⟩
 ·have n1:y≠x:=fun e=>by rw[e,hc]at Ht;cases Ht
  have n2:c≠x:=fun e=>by rw[e]at Ht;exact(m.Nq Ht).2 (by simp)
  rw[e2 _ n1,e2 _ n2,el _ _ (by omega) h2 n1 n2]
  exact⟨h1,h2,h3⟩
 ·obtain⟨h1,h2,h3,h4⟩:=m.rm h c hh
  simp only[anF,not_or]at h4
  exact⟨by rw[e2 c h4.1];exact h1,h2,h3,h4.2⟩
 ·obtain⟨h1,h2,h3⟩:=m.wm c (by simp[Jy])
  exact⟨h1,h2,by rw[e2 c (fun e=>hn.1 (by rw[←e];exact Jy))];exact h3⟩
 ·have fS:c≠x:=fun e=>by rw[e,e1]at h1;omega
  rw[e2 c fS]at h1 ⊢
  refine(m.jt c h1 h2).imp_right fun h=>?_
  exact(anF.1 h).resolve_left fS
 ·by_cases fS:c=x
  ·rw[fS];exact x1
  ·rw[e2 c fS]at nO
   exact m.lone c nO
end
end Go.Proofs.YtjlnnljohemifaaGreat

namespace Go.Proofs.YtjlnnljohemifaaGreat
section
variable {hm hm' : Int → Int} {lt lt' : Int → Int → Bool} {ch dU : Int → List Int} {par : Int → Int} {rows : Int → List Int} {W W' l l' : List Int} {x y a b c p g : Int}
def Gc(ch:Int→List Int)(l:List Int):Prop:=l.Pairwise fun a b=>(ch a).length< (ch b).length
theorem Gc.nodup(h:Gc ch l):l.Nodup:=List.Pairwise.imp (fun h e=>by rw[e]at h;omega) h
theorem Gc.frame(h:Gc ch l)(e:∀c∈l,(dU c).length=(ch c).length):Gc dU l:=
 List.Pairwise.imp_of_mem (fun ha hb h=>by rw[e _ ha,e _ hb];exact h) h
theorem Gc.sub(h:Gc ch l)(hs:l'.Sublist l):Gc ch l':=List.Pairwise.sublist hs h
structure ju(hm:Int→Int)(lt:Int→Int→Bool)(ch:Int→List Int)(par:Int→Int)(rows:Int→List Int)(W:List Int):Prop where
 pr:Pr hm lt ch par
 dg:∀x (i:Nat) c,(ch x)[i]? =some c→(ch c).length=i
 rr:∀h,Gc ch (rows h)
 rm:∀h c,c∈rows h→hm c=h∧par c= -1∧0<h∧c∉W
 wn:W.Nodup
 wm:∀c∈W,par c= -1∧0<hm c
 jt:∀c,0<hm c→par c= -1→c∈rows (hm c)∨c∈W
theorem ju.less(m:ju hm lt ch par rows W)(h:c∈ch x):(ch c).length< (ch x).length:=by
 obtain⟨i,hi,e⟩:=apl.1 h
 have:=m.dg x i c (by rw[ans hi,e])
 omega
theorem ju.YS(m:ju hm lt ch par rows W)(h:c∈W):c≠ -1:=fun e=>by
 have:=(m.wm c h).2
 rw[e,m.pr.h0]at this
 omega
theorem ju.Uc(m:ju hm lt ch par rows W)(h:par c= -1)(z:Int):c∉ch z:=fun hc=>by
 have:=m.pr.dn z c hc
 rw[h]at this
 exact this.2.1 this.1.symm
theorem ju.perm(m:ju hm lt ch par rows W)(h:W.Perm W'):ju hm lt ch par rows W':=
 ⟨m.pr,m.dg,m.rr,fun g c hc=>by obtain⟨h1,h2,h3,h4⟩:=m.rm g c hc;exact⟨h1,h2,h3,fun hw=>h4 (h.mem_iff.2 hw)⟩,h.nodup_iff.1 m.wn,fun c hc=>m.wm c (h.mem_iff.2 hc),fun c h1 h2=>(m.jt c h1 h2).imp_right h.mem_iff.1⟩
theorem ju.other(m:ju hm lt ch par rows W)(h:∀x c,c∈ch x→lt x c=true→lt' x c=true):ju hm lt' ch par rows W:=
 ⟨m.pr.other m.pr.h0 fun x c hc h1 h2 h3=>⟨h1,h2,h x c hc h3⟩,m.dg,m.rr,m.rm,m.wn,m.wm,m.jt⟩
theorem ju.link(m:ju hm lt ch par rows (a::b::W))(hh:hm a=hm b)(hd:(ch a).length=(ch b).length)(hl:lt a b=true):
  ju hm lt (ay ch a (ch a++[b])) (aI par b a) rows (a::W):=by
 obtain⟨a1,a2⟩:=m.wm a (by simp)
 obtain⟨b1,b2⟩:=m.wm b (by simp)
 have hn:=m.wn
 simp only[anN,anF,not_or]at hn
 have han:a≠ -1:=m.YS (by simp)
 have zI:a≠b:=hn.1.1
 have q:=m.pr.link han b1 hh b2 hl
 have q2:=q.Sc (x:=a) (l:=ch a++[b]) (by
  unfold nF
  rw[if_pos rfl]
  exact aou (l₁:=[b]) (l₂:=ch a))
 rw[IB]at q2
 have nc:=m.Uc a1
 have ne:∀c,c≠a→ay ch a (ch a++[b]) c=ch c:=fun c h=>by unfold ay;rw[if_neg h]
 have na:ay ch a (ch a++[b]) a=ch a++[b]:=by unfold ay;rw[if_pos rfl]
 refine⟨q2,fun z i c hc=>?_,fun h=>(m.rr h).frame fun c hc=>?_,fun h c hc=>?_,anN.2 ⟨hn.1.2,hn.2.2⟩,fun c hc=>?_,fun c h1 h2=>?_⟩
 ·by_cases hz:z=a
  ·rw[hz,na]at hc
   by_cases hi:i< (ch a).length
   ·rw[anJ hi]at hc
    rw[ne c (fun e=>nc a (by have h7:=anz hc;rw[e]at h7;exact h7))]
    exact m.dg a i c hc
   ·rw[anX (by omega)]at hc
    have h0:i - (ch a).length=0:=by
     have:=(anu.1 hc).1
     simp at this
     omega
    rw[h0]at hc
    have Gz:b=c:=by simpa using hc
    rw[←Gz,ne b zI.symm]
    omega
  ·rw[ne z hz]at hc
   rw[ne c (fun e=>nc z (by rw[←e];exact anz hc))]
   exact m.dg z i c hc
 ·rw[ne c (fun e=>by have:=(m.rm h c hc).2.2.2;rw[e]at this;exact this (by simp))]
 ·obtain⟨h1,h2,h3,h4⟩:=m.rm h c hc
  simp only[anF,not_or]at h4
  exact⟨h1,by unfold aI;rw[if_neg h4.2.1];exact h2,h3,by simp[h4.1,h4.2.2]⟩
 ·have Gz:c≠b:=fun e=>by
   rw[e]at hc
   rcases anF.1 hc with h|h
   ·exact zI h.symm
   ·exact hn.2.1 h
  obtain⟨h1,h2⟩:=m.wm c (by rcases anF.1 hc with h|h<;>simp[h])
  exact⟨by unfold aI;rw[if_neg Gz];exact h1,h2⟩
 ·have Gz:c≠b:=fun e=>by
   rw[e]at h2
   unfold aI at h2
   rw[if_pos rfl]at h2
   exact han h2
  unfold aI at h2
  rw[if_neg Gz]at h2
  refine(m.jt c h1 h2).imp_right fun h=>?_
  simp only[anF]at h ⊢
  rcases h with h|h|h
  ·exact .inl h
  ·exact absurd h Gz
  ·exact .inr h
theorem ju.loose(m:ju hm lt ch par rows W)(g:Int):ju hm lt ch par (ay rows g []) (rows g++W):=by
 refine⟨m.pr,m.dg,fun h=>?_,fun h c hc=>?_,aof.2 ⟨(m.rr g).nodup,m.wn,fun u hu v hv e=>(m.rm g u hu).2.2.2 (by rw[e];exact hv)⟩,fun c hc=>?_,fun c h1 h2=>?_⟩
 ·unfold ay
  split
  ·exact List.Pairwise.nil
  ·exact m.rr h
 ·unfold ay at hc
  split at hc
  ·cases hc
  ·rename_i e
   obtain⟨h1,h2,h3,h4⟩:=m.rm h c hc
   refine⟨h1,h2,h3,fun hw=>?_⟩
   rcases anH.1 hw with hw|hw
   ·exact e (by rw[←h1,(m.rm g c hw).1])
   ·exact h4 hw
 ·rcases anH.1 hc with hc|hc
  ·obtain⟨h1,h2,h3,h4⟩:=m.rm g c hc
   exact⟨h2,by omega⟩
  ·exact m.wm c hc
 ·unfold ay
  rcases m.jt c h1 h2 with h|h
  ·split
   ·rename_i e
    rw[e]at h
    exact .inr (anL _ h)
   ·exact .inl h
  ·exact .inr (aoq _ h)
theorem ju.row(m:ju hm lt ch par rows (l++W))(he:rows g=[])(hr:Gc ch l)(hg:∀c∈l,hm c=g):ju hm lt ch par (ay rows g l) W:=by
 obtain⟨n1,n2,n3⟩:=aof.1 m.wn
 refine⟨m.pr,m.dg,fun h=>?_,fun h c hc=>?_,n2,fun c hc=>m.wm c (aoq _ hc),fun c h1 h2=>?_⟩
 ·unfold ay
  split
  ·exact hr
  ·exact m.rr h
 ·unfold ay at hc
  split at hc
  ·rename_i e
   obtain⟨h1,h2⟩:=m.wm c (anL _ hc)
   have h3:=hg c hc
   exact⟨by omega,h1,by omega,fun hw=>n3 c hc c hw rfl⟩
  ·obtain⟨h1,h2,h3,h4⟩:=m.rm h c hc
   exact⟨h1,h2,h3,fun hw=>h4 (aoq _ hw)⟩
 ·unfold ay
  rcases m.jt c h1 h2 with h|h
  ·split
   ·rename_i e
    rw[e,he]at h
    cases h
   ·exact .inl h
  ·rcases anH.1 h with h|h
   ·rw[if_pos (hg c h)]
    exact .inl h
   ·exact .inr h
theorem ju.split(m:ju hm lt ch par rows (x::W)):ju hm lt (ay ch x []) (fk ch par x) rows (x::(ch x++W)):=by
 obtain⟨x1,x2⟩:=m.wm x (by simp)
 have hn:=anN.1 m.wn
 have nc:=m.Uc x1
 have kd:∀c,c∈ch x→par c≠ -1:=fun c hc e=>m.Uc e x hc
 refine⟨m.pr.bare x,fun z i c hc=>?_,fun h=>(m.rr h).frame fun c hc=>?_,fun h c hc=>?_,?_,fun c hc=>?_,fun c h1 h2=>?_⟩
 ·unfold ay at hc ⊢
  split at hc
  ·simp at hc
  ·rw[if_neg (fun e=>nc z (by rw[←e];exact anz hc))]
   exact m.dg z i c hc
 ·unfold ay
  rw[if_neg (fun e=>by have:=(m.rm h c hc).2.2.2;rw[e]at this;exact this (by simp))]
 ·obtain⟨h1,h2,h3,h4⟩:=m.rm h c hc
  simp only[anF,not_or]at h4
  have hk:c∉ch x:=fun hk=>kd c hk h2
  refine⟨h1,by unfold fk;rw[if_neg hk];exact h2,h3,?_⟩
  simp only[anF,anH,not_or]
  exact⟨h4.1,hk,h4.2⟩
 ·rw[anN,aof]
  refine⟨?_,m.pr.nd x,hn.2,fun u hu v hv e=>kd u hu (by rw[e];exact(m.wm v (by simp[hv])).1)⟩
  rw[anH]
  rintro(h|h)
  ·exact nc x h
  ·exact hn.1 h
 ·simp only[anF,anH]at hc
  unfold fk
  rcases hc with h|h|h
  ·rw[h,if_neg (nc x)]
   exact⟨x1,x2⟩
  ·rw[if_pos h]
   exact⟨rfl,(m.pr.dn x c h).2.2.2.1⟩
  ·obtain⟨h1,h2⟩:=m.wm c (by simp[h])
   rw[if_neg (fun hk=>kd c hk h1)]
   exact⟨h1,h2⟩
 ·unfold fk at h2
  simp only[anF,anH]
  split at h2
  ·rename_i hk
   exact .inr (.inr (.inl hk))
  ·rcases m.jt c h1 h2 with h|h
   ·exact .inl h
   ·rcases anF.1 h with h|h
    ·exact .inr (.inl h)
    ·exact .inr (.inr (.inr h))
theorem ju.put(m:ju hm lt ch par rows W)(h0:hm' (-1)=0)(hx:hm x≤0)(kU:x≠ -1)(hg:0<g)(e1:hm' x=g)(e2:∀y,y≠x→hm' y=hm y)(el:∀a b,0<hm a→0<hm b→a≠x→b≠x→lt' a b=lt a b):ju hm' lt' ch par rows (x::W)∧ch x=[]:=by
 obtain⟨a1,a2⟩:=m.pr.alone hx kU
 have nr:∀h,x∉rows h:=fun h hh=>by obtain⟨h1,_,h3,_⟩:=m.rm h x hh;omega
 have nW:x∉W:=fun h=>by have:=(m.wm x h).2;omega
 refine⟨⟨m.pr.other h0 fun y c hc h1 h2 h3=>?_,m.dg,m.rr,fun h c hh=>?_,anN.2 ⟨nW,m.wn⟩,fun c hc=>?_,fun c h1 h2=>?_⟩,a2⟩
 ·have n1:y≠x:=fun e=>by rw[e,a2]at hc;cases hc
  have n2:c≠x:=fun e=>by rw[e]at h2;omega
  rw[e2 _ n1,e2 _ n2,el _ _ (by omega) h2 n1 n2]
  exact⟨h1,h2,h3⟩
 ·obtain⟨h1,h2,h3,h4⟩:=m.rm h c hh
  have n1:c≠x:=fun e=>nr h (by rw[←e];exact hh)
  exact⟨by rw[e2 c n1];exact h1,h2,h3,by simp[n1,h4]⟩
 ·rcases anF.1 hc with e|hc
  ·rw[e,e1];exact⟨a1,hg⟩
  ·obtain⟨h1,h2⟩:=m.wm c hc
   exact⟨h1,by rw[e2 c (fun e=>nW (by rw[←e];exact hc))];exact h2⟩
 ·by_cases fS:c=x
  ·exact .inr (by simp[fS])
  ·rw[e2 c fS]at h1 ⊢
   exact(m.jt c h1 h2).imp_right fun h=>by simp[h]
theorem ju.drop(m:ju hm lt ch par rows (x::W))(hc:ch x=[])(h0:hm' (-1)=0)(e1:hm' x=0)(e2:∀y,y≠x→hm' y=hm y)(el:∀a b,0<hm a→0<hm b→a≠x→b≠x→lt a b=true→lt' a b=true):ju hm' lt' ch par rows W:=by
 obtain⟨x2,x3⟩:=m.wm x (by simp)
 have hn:=anN.1 m.wn
 refine⟨m.pr.other h0 fun y c Ht h1 h2 h3=>?_,m.dg,m.rr,fun h c hh=>?_,hn.2,fun c Jy=>?_,fun c h1 h2=>?_⟩
 ·have n1:y≠x:=fun e=>by rw[e,hc]at Ht;cases Ht
  have n2:c≠x:=fun e=>by rw[e]at Ht;exact m.Uc x2 _ Ht
  rw[e2 _ n1,e2 _ n2]
  exact⟨h1,h2,el _ _ (by omega) h2 n1 n2 h3⟩
 ·obtain⟨h1,h2,h3,h4⟩:=m.rm h c hh
  simp only[anF,not_or]at h4
  exact⟨by rw[e2 c h4.1];exact h1,h2,h3,h4.2⟩
 ·obtain⟨h1,h2⟩:=m.wm c (by simp[Jy])
  exact⟨h1,by rw[e2 c (fun e=>hn.1 (by rw[←e];exact Jy))];exact h2⟩
 ·have fS:c≠x:=fun e=>by rw[e,e1]at h1;omega
  rw[e2 c fS]at h1 ⊢
  refine(m.jt c h1 h2).imp_right fun h=>?_
  exact(anF.1 h).resolve_left fS
def gY(x p z:Int):Int:=if z=x then p else if z=p then x else z
theorem lj:gY x p x=p:=by unfold gY;rw[if_pos rfl]
theorem sK:gY x p p=x:=by
 unfold gY
 by_cases h:p=x
 ·rw[if_pos h,h]
 ·rw[if_neg h,if_pos rfl]
theorem fu(h1:c≠x)(h2:c≠p):gY x p c=c:=by unfold gY;rw[if_neg h1,if_neg h2]
theorem jo(z:Int):gY x p (gY x p z)=z:=by
 by_cases h1:z=x
 ·rw[h1,lj,sK]
 ·by_cases h2:z=p
  ·rw[h2,sK,lj]
  ·rw[fu h1 h2,fu h1 h2]
theorem OF{u v:Int}(h:gY x p u=gY x p v):u=v:=by rw[←jo (x:=x) (p:=p) u,h,jo]
def GB(ch:Int→List Int)(x p:Int):Int→List Int:=fun z=>(ch (gY x p z)).map (gY x p)
def JF(par:Int→Int)(x p:Int):Int→Int:=fun z=>gY x p (par (gY x p z))
theorem Bq(h1:x∉l)(h2:p∉l):l.map (gY x p)=l:=by
 have:l.map (gY x p)=l.map id:=apn fun c hc=>fu (fun e=>h1 (by rw[←e];exact hc)) (fun e=>h2 (by rw[←e];exact hc))
 rw[this,List.map_id]
theorem IC(h:l.Nodup):(l.map (gY x p)).Nodup:=by
 unfold List.Nodup at h ⊢
 rw[List.pairwise_map]
 exact h.imp fun aP e=>aP (OF e)
theorem JG(z:Int):(GB ch x p (gY x p z)).length=(ch z).length:=by unfold GB;rw[jo,anQ]
theorem jp{z:Int}:z∈l.map (gY x p)↔gY x p z∈l:=by
 rw[anS]
 constructor
 ·rintro⟨u,h1,h2⟩
  rw[←h2,jo];exact h1
 ·intro h
  exact⟨_,h,jo z⟩
theorem ju.swap(m:ju hm lt ch par rows W)(hx:x∈ch p)(hl:∀z c,c∈ch z→lt z c=true→lt' (gY x p z) (gY x p c)=true):
  ju hm lt' (GB ch x p) (JF par x p) (fun h=>(rows h).map (gY x p)) (W.map (gY x p)):=by
 obtain⟨d1,d2,d3,d4,d5⟩:=m.pr.dn p x hx
 have Dl:=m.pr.ne hx
 have nN:∀z,hm (gY x p z)=hm z:=fun z=>by
  by_cases h1:z=x
  ·rw[h1,lj,d3]
  ·by_cases h2:z=p
   ·rw[h2,sK,d3]
   ·rw[fu h1 h2]
 have xM:gY x p (-1)= -1:=fu (Ne.symm Dl) (Ne.symm d2)
 have DN:∀z,gY x p z= -1↔z= -1:=fun z=>⟨fun h=>OF (h.trans xM.symm),fun h=>by rw[h,xM]⟩
 have hpS:∀z,JF par x p z= -1↔par (gY x p z)= -1:=fun z=>DN _
 refine⟨⟨m.pr.h0,fun z c hc=>?_,fun c z hc hz=>?_,fun z=>IC (m.pr.nd _)⟩,fun z i c hc=>?_,fun h=>?_,fun h c hc=>?_,IC m.wn,fun c hc=>?_,fun c h1 h2=>?_⟩
 ·have tF:=jp.1 hc
  obtain⟨h1,h2,h3,h4,h5⟩:=m.pr.dn _ _ tF
  refine⟨by unfold JF;rw[h1,jo],fun e=>h2 ((DN z).2 e),?_,?_,?_⟩
  ·rw[nN,nN]at h3;exact h3
  ·rw[nN]at h4;exact h4
  ·have:=hl _ _ tF h5
   rwa[jo,jo]at this
 ·have h1:par (gY x p c)=gY x p z:=by rw[←hc];unfold JF;rw[jo]
  exact jp.2 (m.pr.up _ _ h1 (fun e=>hz ((DN z).1 e)))
 ·unfold GB at hc
  rw[anR]at hc
  cases he:(ch (gY x p z))[i]? with
  |none=>rw[he]at hc;cases hc
  |some d=>
   rw[he]at hc
   injection hc with hc
   rw[←hc,JG]
   exact m.dg _ i d he
 ·unfold Gc
  rw[List.pairwise_map]
  exact(m.rr h).imp fun h=>by rw[JG,JG];exact h
 ·obtain⟨h1,h2,h3,h4⟩:=m.rm h _ (jp.1 hc)
  exact⟨by rw[←h1,nN],(hpS c).2 h2,h3,fun hw=>h4 (jp.1 hw)⟩
 ·obtain⟨h1,h2⟩:=m.wm _ (jp.1 hc)
  exact⟨(hpS c).2 h1,by rw[nN]at h2;exact h2⟩
 ·have h3:=m.jt (gY x p c) (by rw[nN];exact h1) ((hpS c).1 h2)
  rw[nN]at h3
  exact h3.imp jp.2 jp.2
def lx(lt:Int→Int→Bool)(x:Int):Int→Int→Bool:=fun a b=>decide (a=x) || decide (b=x) || lt a b
theorem Vp(h:lt a b=true):lx lt x a b=true:=by unfold lx;simp[h]
theorem JH(h:lx lt x a b=true)(h1:a≠x)(h2:b≠x):lt a b=true:=by
 unfold lx at h
 simp only[ape,anU]at h
 rcases h with (h|h)|h
 ·exact absurd h h1
 ·exact absurd h h2
 ·exact h
structure Mf(hm:Int→Int)(lt:Int→Int→Bool)(ch:Int→List Int)(par:Int→Int)(rows:Int→List Int)(W:List Int)(x:Int):Prop where
 w:ju hm (lx lt x) ch par rows W
 by_:par x≠ -1→∀d∈ch x,lt (par x) d=true
theorem Mf.start(hs:bv lt)(m:ju hm lt ch par rows W)(el:∀a b,0<hm a→0<hm b→a≠x→b≠x→lt' a b=lt a b):Mf hm lt' ch par rows W x:=by
 have nx:x∉ch x:=fun h=>by have:=m.less h;omega
 refine⟨m.other fun z c hc h=>?_,fun hp d hd=>?_⟩
 ·by_cases h1:z=x
  ·unfold lx;simp[h1]
  ·by_cases h2:c=x
   ·unfold lx;simp[h2]
   ·obtain⟨_,_,h3,h4,_⟩:=m.pr.dn z c hc
    exact Vp (by rw[el _ _ (by omega) h4 h1 h2];exact h)
 ·have hx:=m.pr.up x _ rfl hp
  obtain⟨_,_,h3,h4,h5⟩:=m.pr.dn _ _ hx
  obtain⟨_,_,h6,h7,h8⟩:=m.pr.dn _ _ hd
  rw[el _ _ (by omega) h7 (fun e=>nx (by rw[e]at hx;exact hx)) (fun e=>nx (by rw[e]at hd;exact hd))]
  exact hs.tr _ _ _ h5 h8
theorem Mf.up(hs:bv lt)(m:Mf hm lt ch par rows W x)(hx:x∈ch p):Mf hm lt (GB ch x p) (JF par x p) (fun h=>(rows h).map (gY x p)) (W.map (gY x p)) x:=by
 have hd:=m.w.pr.dn p x hx
 have sE:=m.w.less hx
 have dF:p≠x:=fun e=>by rw[e]at sE;omega
 have hp:par x=p:=hd.1
 have nx:∀c,c∈ch x→c≠x∧c≠p:=fun c hc=>by
  have:=m.w.less hc
  exact⟨fun e=>by rw[e]at this;omega,fun e=>by rw[e]at this;omega⟩
 refine⟨m.w.swap hx fun z c hc h=>?_,fun hq d Ub=>?_⟩
 ·by_cases h1:z=x
  ·rw[h1]at hc ⊢
   obtain⟨n1,n2⟩:=nx c hc
   rw[lj,fu n1 n2,←hp]
   exact Vp (m.by_ (by rw[hp];exact hd.2.1) c hc)
  ·by_cases h2:z=p
   ·rw[h2,sK];unfold lx;simp
   ·by_cases h3:c=x
    ·have:=(m.w.pr.dn z c hc).1
     rw[h3,hp]at this
     exact absurd this.symm h2
    ·by_cases h4:c=p
     ·rw[h4,sK];unfold lx;simp
     ·rw[fu h1 h2,fu h3 h4]
      exact h
 ·have Qu:JF par x p x=gY x p (par p):=by unfold JF;rw[lj]
  have Pz:par p≠ -1:=fun e=>hq (by rw[Qu,e];exact fu (Ne.symm (m.w.pr.ne hx)) (Ne.symm hd.2.1))
  have RY:=m.w.pr.up p _ rfl Pz
  have rU:=m.w.less RY
  have g1:par p≠x:=fun e=>by rw[e]at rU;omega
  have g2:par p≠p:=fun e=>by rw[e]at rU;omega
  rw[Qu,fu g1 g2]
  have h1:=JH (m.w.pr.dn _ _ RY).2.2.2.2 g1 dF
  unfold GB at Ub
  rw[lj]at Ub
  have jv:=jp.1 Ub
  by_cases e1:d=p
  ·rw[e1];exact h1
  ·have e2:d≠x:=fun e=>by
    rw[e,lj]at jv
    have:=m.w.less jv
    omega
   rw[fu e2 e1]at jv
   exact hs.tr _ _ _ h1 (JH (m.w.pr.dn p d jv).2.2.2.2 dF e2)
theorem Mf.low(hs:bv lt)(m:Mf hm lt ch par rows W x)(hx:x∈ch p)(hl:lt x p=true):∀d∈GB ch x p x,lt x d=true:=by
 intro d Ub
 have sE:=m.w.less hx
 have dF:p≠x:=fun e=>by rw[e]at sE;omega
 unfold GB at Ub
 rw[lj]at Ub
 have jv:=jp.1 Ub
 by_cases e1:d=p
 ·rw[e1];exact hl
 ·have e2:d≠x:=fun e=>by
   rw[e,lj]at jv
   have:=m.w.less jv
   omega
  rw[fu e2 e1]at jv
  exact hs.tr _ _ _ hl (JH (m.w.pr.dn p d jv).2.2.2.2 dF e2)
theorem Mf.done(m:Mf hm lt ch par rows W x)(h1:∀d∈ch x,lt x d=true)(h2:par x≠ -1→lt (par x) x=true):ju hm lt ch par rows W:=by
 refine m.w.other fun z c hc h=>?_
 by_cases e1:z=x
 ·rw[e1]at hc ⊢;exact h1 c hc
 ·by_cases e2:c=x
  ·obtain⟨d1,d2,_⟩:=m.w.pr.dn z c hc
   rw[e2]at d1 ⊢
   rw[←d1]
   exact h2 (by rw[d1];exact d2)
  ·exact JH h e1 e2
end
end Go.Proofs.YtjlnnljohemifaaGreat

namespace Go.Proofs.YtjlnnljohemifaaGreat
section
variable {hm hm' : Int → Int} {lt lt' : Int → Int → Bool} {ch : Int → List Int} {par : Int → Int} {ax : Int → List Int} {W A : List Int} {nx pv : Int → Int} {x g T y : Int}
theorem Pr.root(q:Pr hm lt ch par)(hs:bv lt){n:Nat}(hn:∀x,0<hm x→0≤x∧x<n):∀ (k:Nat) {x:Int},MU lt n x≤k→0<hm x→∃r,hm r=hm x∧par r= -1∧(r=x∨lt r x=true):=by
 intro k
 induction k with
 |zero=>
  intro x hk hx
  by_cases hp:par x= -1
  ·exact⟨x,rfl,hp,.inl rfl⟩
  ·obtain⟨_,_,h3,h4,h5⟩:=q.dn _ _ (q.up x _ rfl hp)
   have:=ED hs (n:=n) (hn _ (by omega)) h5
   omega
 |succ k ih=>
  intro x hk hx
  by_cases hp:par x= -1
  ·exact⟨x,rfl,hp,.inl rfl⟩
  ·obtain⟨_,_,h3,h4,h5⟩:=q.dn _ _ (q.up x _ rfl hp)
   have:=ED hs (n:=n) (hn _ (by omega)) h5
   obtain⟨r,r1,r2,r3⟩:=ih (x:=par x) (by omega) (by omega)
   refine⟨r,by omega,r2,.inr ?_⟩
   rcases r3 with r3|r3
   ·rw[r3];exact h5
   ·exact hs.tr _ _ _ r3 h5
theorem Pr.lead(q:Pr hm lt ch par)(hs:bv lt){n:Nat}(hn:∀x,0<hm x→0≤x∧x<n)(hg:0<g)(h:∀c,hm c=g→par c= -1→T≠ -1∧(c≠T→lt T c=true))(hy:hm y=g):T≠ -1∧(y≠T→lt T y=true):=by
 obtain⟨r,r1,r2,r3⟩:=q.root hs hn _ (anG _) (x:=y) (by omega)
 obtain⟨h1,h2⟩:=h r (by omega) r2
 refine⟨h1,fun aP=>?_⟩
 by_cases e:r=T
 ·rw[e]at r3
  exact r3.resolve_left (fun e2=>aP e2.symm)
 ·rcases r3 with r3|r3
  ·rw[←r3];exact h2 e
  ·exact hs.tr _ _ _ (h2 e) r3
theorem dV.aF(m:dV hm lt nx ch par ax W)(hi:Bb nx pv)(hr:ax g=x::A):dV hm lt (zq nx x (pv x)) ch par (ay ax g A) (x::W):=by
 have hc:=m.rc g
 rw[hr]at hc
 rcases List.eq_nil_or_concat A with h| ⟨B,y,h⟩
 ·subst h
  have h1:nx x=x:=hc
  have h2:pv x=x:=by
   have:=hi.pn x
   rwa[h1]at this
  rw[h2,LC]
  exact m.abe hr
 ·rw[List.concat_eq_append]at h
  subst h
  have h2:pv x=y:=vu.last (A:=B) hi hc
  rw[h2]
  have m2:=m.abd (A:=B) (y:=y) hr
  have h3:=m2.tg (g:=g) (l:=B++[y]) (by
   unfold ay
   rw[if_pos rfl]
   exact aou (l₁:=[y]) (l₂:=B)) (by
   have:=m2.rc g
   unfold ay at this
   rw[if_pos rfl]at this
   exact vu.rot (l1:=[y]) (l2:=B) this)
  rwa[eB]at h3
theorem dV.from_(m:dV hm lt nx ch par ax W)(hx:x∈ax g):∃A,(ax g).Perm (x::A)∧dV hm lt nx ch par (ay ax g (x::A)) W:=by
 obtain⟨A,h1,h2⟩:=(m.rc g).from hx
 exact⟨A,h1,m.tg h1 h2⟩
end
end Go.Proofs.YtjlnnljohemifaaGreat

namespace Go.Proofs.YtjlnnljohemifaaGreat
section
variable {hm : Int → Int} {ch : Int → List Int} {a b now out : List Int} {c g p q x y : Int} {k ia ib io : Nat}
structure nL(hm:Int→Int)(ch:Int→List Int)(g:Int)(k ia ib io:Nat)(a b now out:List Int):Prop where
 ra:Gc ch a
 rb:Gc ch b
 ro:Gc ch out
 ka:∀c∈a,ia≤(ch c).length
 kb:∀c∈b,ib≤(ch c).length
 kn:∀c∈now,(ch c).length=k
 ko:∀c∈out,(ch c).length<io
 hg:∀c,c∈a∨c∈b∨c∈now∨c∈out→hm c=g
theorem nL.abg(h:nL hm ch g k k ib io (c::a) b now out)(e:(ch c).length=k):nL hm ch g k (k+1) ib io a b (now++[c]) out:=by
 have hr:=aoR.1 h.ra
 refine⟨hr.2,h.rb,h.ro,fun d hd=>?_,h.kb,fun d hd=>?_,h.ko,fun d hd=>?_⟩
 ·have:=hr.1 d hd;omega
 ·rcases anH.1 hd with hd|hd
  ·exact h.kn d hd
  ·rw[anC.1 hd];exact e
 ·refine h.hg d ?_
  simp only[anH,anF,apy,or_false]at hd ⊢
  rcases hd with h|h| (h|h)|h
  ·exact .inl (.inr h)
  ·exact .inr (.inl h)
  ·exact .inr (.inr (.inl h))
  ·exact .inl (.inl h)
  ·exact .inr (.inr (.inr h))
theorem nL.LN(h:nL hm ch g k ia k io a (c::b) now out)(e:(ch c).length=k):nL hm ch g k ia (k+1) io a b (now++[c]) out:=by
 have hr:=aoR.1 h.rb
 refine⟨h.ra,hr.2,h.ro,h.ka,fun d hd=>?_,fun d hd=>?_,h.ko,fun d hd=>?_⟩
 ·have:=hr.1 d hd;omega
 ·rcases anH.1 hd with hd|hd
  ·exact h.kn d hd
  ·rw[anC.1 hd];exact e
 ·refine h.hg d ?_
  simp only[anH,anF,apy,or_false]at hd ⊢
  rcases hd with h|h| (h|h)|h
  ·exact .inl h
  ·exact .inr (.inl (.inr h))
  ·exact .inr (.inr (.inl h))
  ·exact .inr (.inl (.inl h))
  ·exact .inr (.inr (.inr h))
theorem nL.Vq(h:nL hm ch g k k ib io a b now out)(e:∀c,a.head? =some c→(ch c).length≠k):nL hm ch g k (k+1) ib io a b now out:=by
 refine⟨h.ra,h.rb,h.ro,fun d hd=>?_,h.kb,h.kn,h.ko,h.hg⟩
 cases a with
 |nil=>cases hd
 |cons c a=>
  have h1:=e c rfl
  have h2:=h.ka c (by simp)
  rcases anF.1 hd with rfl|hd
  ·omega
  ·have:=(aoR.1 h.ra).1 d hd;omega
theorem nL.Vr(h:nL hm ch g k ia k io a b now out)(e:∀c,b.head? =some c→(ch c).length≠k):nL hm ch g k ia (k+1) io a b now out:=by
 refine⟨h.ra,h.rb,h.ro,h.ka,fun d hd=>?_,h.kn,h.ko,h.hg⟩
 cases b with
 |nil=>cases hd
 |cons c b=>
  have h1:=e c rfl
  have h2:=h.kb c (by simp)
  rcases anF.1 hd with rfl|hd
  ·omega
  ·have:=(aoR.1 h.rb).1 d hd;omega
theorem nL.afN(h:nL hm ch g k ia ib k a b (c::now) out):nL hm ch g k ia ib (k+1) a b now (out++[c]):=by
 have hc:=h.kn c (by simp)
 refine⟨h.ra,h.rb,?_,h.ka,h.kb,fun d hd=>h.kn d (by simp[hd]),fun d hd=>?_,fun d hd=>h.hg d ?_⟩
 ·unfold Gc
  rw[apk]
  refine⟨h.ro,by simp,fun u hu v hv=>?_⟩
  rw[anC.1 hv,hc]
  exact h.ko u hu
 ·rcases anH.1 hd with hd|hd
  ·have:=h.ko d hd;omega
  ·rw[anC.1 hd];omega
 ·simp only[anH,anF,apy,or_false]at hd ⊢
  rcases hd with h|h|h|h|h
  ·exact .inl h
  ·exact .inr (.inl h)
  ·exact .inr (.inr (.inl (.inr h)))
  ·exact .inr (.inr (.inr h))
  ·exact .inr (.inr (.inl (.inl h)))
theorem nL.abh(h:nL hm ch g k (k+1) (k+1) io a b [] out)(hio:io≤k+1):nL hm ch g (k+1) (k+1) (k+1) (k+1) a b [] out:=
 ⟨h.ra,h.rb,h.ro,h.ka,h.kb,by simp,fun c hc=>by have:=h.ko c hc;omega,h.hg⟩
theorem nL.abi(h:nL hm ch g k (k+1) (k+1) io a b [x,y] out)(hio:io≤k+1)(hp:p=x∨p=y)(hn:p∉a∧p∉b∧p∉out):nL hm (ay ch p (ch p++[q])) g (k+1) (k+1) (k+1) (k+1) a b [p] out:=by
 have ne:∀c,c≠p→ay ch p (ch p++[q]) c=ch c:=fun c h=>by unfold ay;rw[if_neg h]
 have na:ay ch p (ch p++[q]) p=ch p++[q]:=by unfold ay;rw[if_pos rfl]
 have fa:∀c∈a,ay ch p (ch p++[q]) c=ch c:=fun c hc=>ne c fun e=>hn.1 (by rw[←e];exact hc)
 have fb:∀c∈b,ay ch p (ch p++[q]) c=ch c:=fun c hc=>ne c fun e=>hn.2.1 (by rw[←e];exact hc)
 have fo:∀c∈out,ay ch p (ch p++[q]) c=ch c:=fun c hc=>ne c fun e=>hn.2.2 (by rw[←e];exact hc)
 have vw:p∈[x,y]:=by rcases hp with h|h<;>simp[h]
 refine⟨h.ra.frame fun c hc=>by rw[fa c hc],h.rb.frame fun c hc=>by rw[fb c hc],h.ro.frame fun c hc=>by rw[fo c hc],fun c hc=>by rw[fa c hc];exact h.ka c hc,fun c hc=>by rw[fb c hc];exact h.kb c hc,fun c hc=>?_,fun c hc=>?_,fun c hc=>h.hg c ?_⟩
 ·rw[anC.1 hc,na,anD,h.kn p vw]
  rfl
 ·rw[fo c hc]
  have:=h.ko c hc
  omega
 ·rcases hc with h|h|h|h
  ·exact .inl h
  ·exact .inr (.inl h)
  ·rw[anC.1 h];exact .inr (.inr (.inl vw))
  ·exact .inr (.inr (.inr h))
end
end Go.Proofs.YtjlnnljohemifaaGreat
