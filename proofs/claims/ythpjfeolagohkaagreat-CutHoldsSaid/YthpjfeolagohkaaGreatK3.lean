/- Texts put behind each other. -/
import Derived.Test.YthpjfeolagohkaaGreatK98
import Derived.Test.YthpjfeolagohkaaGreatK2
set_option maxRecDepth 100000
set_option maxHeartbeats 8000000
set_option linter.unusedVariables false
set_option linter.unusedSimpArgs false
namespace Go.Proofs.YthpjfeolagohkaaGreat
section
variable {nx Um : Int → Int} {a b x y z : Int} {r s l l1 l2 A B : List Int}
def mU(nx:Int→Int):Int→List Int→Int→Prop
 |a,[],z=>nx a=z
 |a,b::r,z=>nx a=b∧mU nx b r z
def q9(nx:Int→Int):List Int→Prop
 | []=>True
 |a::r=>mU nx a r a
theorem mU.RW:∀ {r:List Int} {a:Int},mU nx a (r++b::s) z↔mU nx a r b∧mU nx b s z:=by
 intro r
 induction r with
 |nil=>rfl
 |cons c r ih=>
  intro a
  constructor
  ·rintro⟨h1,h2⟩
   obtain⟨h3,h4⟩:=ih.1 h2
   exact⟨⟨h1,h3⟩,h4⟩
  ·rintro⟨⟨h1,h2⟩,h3⟩
   exact⟨h1,ih.2 ⟨h2,h3⟩⟩
theorem mU.first:∀ {r:List Int} {a a':Int},mU nx a r z→Um a'=nx a→(∀c∈r,Um c=nx c)→mU Um a' r z:=by
 intro r
 induction r with
 |nil=>intro a a' h h1 _;exact h1.trans h
 |cons c r ih=>
  intro a a' h h1 h2
  exact⟨h1.trans h.1,ih h.2 (h2 c (by simp)) (by grind)⟩
theorem q9.frame(h:q9 nx l)(hk:∀c∈l,Um c=nx c):q9 Um l:=by
 cases l with
 |nil=>trivial
 |cons a r=>exact mU.first h (hk a (by simp)) (by grind)
theorem q9.rot(h:q9 nx (l1++l2)):q9 nx (l2++l1):=by
 cases l1 with
 |nil=>grind
 |cons a r=>
  cases l2 with
  |nil=>grind
  |cons b s=>
   have h1:mU nx a (r++b::s) a:=h
   obtain⟨h2,h3⟩:=mU.RW.1 h1
   exact mU.RW.2 ⟨h3,h2⟩
theorem q9.from(h:q9 nx l)(hx:x∈l):∃A,l.Perm (x::A)∧q9 nx (x::A):=by
 obtain⟨l1,l2,rfl⟩:=List.append_of_mem hx
 grind [q9.rot]
def vL(nx:Int→Int)(x y:Int):Int→Int:=fun z=>if z=x then nx y else if z=y then nx x else nx z
theorem PM:vL nx x y x=nx y:=by unfold vL;omega
theorem PN:vL nx x y y=nx x:=by
 unfold vL
 grind
theorem tJ(h1:z≠x)(h2:z≠y):vL nx x y z=nx z:=by unfold vL;omega
theorem q9.aM(h:q9 nx l)(hx:x∉l)(hy:y∉l):q9 (vL nx x y) l:=h.frame (by grind [vL])
theorem q9.join(h1:q9 nx (x::A))(h2:q9 nx (y::B))(hn:((x::A)++(y::B)).Nodup):q9 (vL nx x y) (x::B++y::A):=by
 obtain⟨n1,n2,n3⟩:=aqR.1 hn
 have a1:=(aqu.1 n1).1
 have b1:=(aqu.1 n2).1
 have hA:∀c∈A,vL nx x y c=nx c:=by grind [vL]
 have hB:∀c∈B,vL nx x y c=nx c:=by grind [vL]
 exact mU.RW.2 ⟨mU.first h2 PM hB,mU.first h1 PN hA⟩
theorem q9.part(h:q9 nx (x::A++[y]))(hn:(x::A++[y]).Nodup):vL nx x y x=x∧q9 (vL nx x y) (y::A):=by
 have GD:=aqu.1 (show(x::(A++[y])).Nodup from hn)
 obtain⟨n1,n2,n3⟩:=aqR.1 GD.2
 have h0:mU nx x (A++[y]) x:=h
 obtain⟨h1,h2⟩:=mU.RW.1 h0
 have hA:∀c∈A,vL nx x y c=nx c:=by grind [vL]
 exact⟨PM.trans h2,mU.first h1 PN hA⟩
theorem MV:vL nx x x=nx:=by
 grind [vL]
structure B7(nx pv:Int→Int):Prop where
 pn:∀x,pv (nx x)=x
 np:∀x,nx (pv x)=x
def Vv(nx pv:Int→Int)(x y:Int):Int→Int:=fun z=>if z=nx x then y else if z=nx y then x else pv z
theorem B7.vL{pv:Int→Int}(h:B7 nx pv)(x y:Int):B7 (vL nx x y) (Vv nx pv x y):=by
 have inj:∀u v,nx u=nx v→u=v:=fun u v e=>by rw[←h.pn u,e,h.pn]
 constructor
 ·cases h;grind [Vv,PM,PN,tJ]
 cases h;grind [Vv,PN,PM,tJ]
theorem q9.last{pv:Int→Int}(h:B7 nx pv)(hc:q9 nx (x::A++[y])):pv x=y:=by
 have h0:mU nx x (A++[y]) x:=hc
 have h1:nx y=x:=(mU.RW.1 h0).2
 rw[←h1,h.pn]
variable {hm hm' : Int → Int} {lt lt' : Int → Int → Bool} {ch : Int → List Int} {par : Int → Int} {ay : Int → List Int} {W : List Int}
structure eK(hm:Int→Int)(lt:Int→Int→Bool)(nx:Int→Int)(ch:Int→List Int)(par:Int→Int)(ay:Int→List Int)(W:List Int):Prop where
 pr:Pr hm lt ch par
 cy:∀x,q9 nx (ch x)
 rc:∀h,q9 nx (ay h)
 rn:∀h,(ay h).Nodup
 rm:∀h c,c∈ay h→hm c=h∧par c= -1∧0<h∧c∉W
 wn:W.Nodup
 wm:∀c∈W,nx c=c∧par c= -1∧0<hm c
 E5:∀c,0<hm c→par c= -1→c∈ay (hm c)∨c∈W
 lone:∀c,hm c≤0→nx c=c
theorem eK.wne(m:eK hm lt nx ch par ay W){c:Int}(h:c∈W):c≠ -1:=fun e=>by
 have:=(m.wm c h).2.2
 rw[e,m.pr.h0]at this
 omega
theorem eK.rne(m:eK hm lt nx ch par ay W){c h:Int}(hc:c∈ay h):c≠ -1:=fun e=>by
 obtain⟨h1,_,h2,_⟩:=m.rm h c hc
 rw[e,m.pr.h0]at h1
 omega
theorem eK.OL(m:eK hm lt nx ch par ay W){c x:Int}(hc:c∈ch x):(∀h,c∉ay h)∧c∉W:=by
 have h1:=m.pr.dn x c hc
 cases m;grind
theorem eK.perm{W':List Int}(m:eK hm lt nx ch par ay W)(h:W.Perm W'):eK hm lt nx ch par ay W':=
 ⟨m.pr,m.cy,m.rc,m.rn,fun g c hc=>by cases m;grind,h.nodup_iff.1 m.wn,fun c hc=>m.wm c (h.mem_iff.2 hc),fun c h1 h2=>(m.E5 c h1 h2).imp_right h.mem_iff.1,m.lone⟩
theorem eK.uA(m:eK hm lt nx ch par ay W){g:Int}{l:List Int}(hp:(ay g).Perm l)(hc:q9 nx l):eK hm lt nx ch par (aA ay g l) W:=by
 refine⟨m.pr,m.cy,fun h=>?_,fun h=>?_,fun h c hh=>?_,m.wn,m.wm,fun c h1 h2=>?_,m.lone⟩
 ·cases m;grind [aA]
 ·cases m;grind [aA]
 ·cases m;grind [aA]
 cases m;grind [aA]
theorem eK.S7(m:eK hm lt nx ch par ay (x::W)){t:Int}{A:List Int}(hr:ay (hm x)=t::A):eK hm lt (vL nx t x) ch par (aA ay (hm x) (t::x::A)) W:=by
 obtain⟨x1,x2,x3⟩:=m.wm x (by simp)
 have hxW:=(aqu.1 m.wn).1
 have ht:=m.rm (hm x) t (by grind)
 have htx:t≠x:=by grind
 have nr:∀h,x∉ay h:=fun h hh=>(m.rm h x hh).2.2.2 (by simp)
 have tr:∀h,t∈ay h→h=hm x:=fun h hh=>by rw[← (m.rm h t hh).1,ht.1]
 refine⟨m.pr,fun y=>(m.cy y).aM (fun h=>?_) (fun h=>?_),fun h=>?_,fun h=>?_,fun h c hh=>?_,(aqu.1 m.wn).2,fun c hc=>?_,fun c h1 h2=>?_,fun c hc=>?_⟩
 ·exact(m.OL h).1 (hm x) (by grind)
 ·exact(m.OL h).2 (by simp)
 ·unfold aA
  split
  ·have h1:=m.rc (hm x)
   rw[hr]at h1
   have h2:q9 nx [x]:=x1
   refine h1.join h2 ?_
   cases m;grind
  cases m;grind [q9.aM]
 ·cases m;grind [aA]
 ·cases m;grind [aA]
 ·cases m;grind [tJ]
 ·cases m;grind [aA]
 cases m;grind [tJ]
theorem eK.acT(m:eK hm lt nx ch par ay (x::W))(hr:ay (hm x)=[]):eK hm lt nx ch par (aA ay (hm x) [x]) W:=by
 obtain⟨x1,x2,x3⟩:=m.wm x (by simp)
 have hxW:=(aqu.1 m.wn).1
 refine⟨m.pr,m.cy,fun h=>?_,fun h=>?_,fun h c hh=>?_,(aqu.1 m.wn).2,fun c hc=>m.wm c (by simp[hc]),fun c h1 h2=>?_,m.lone⟩
 ·unfold aA;split
  ·exact x1
  ·exact m.rc h
 ·cases m;grind [aA]
 ·cases m;grind [aA]
 cases m;grind [aA]
theorem eK.acU(m:eK hm lt nx ch par ay W){g y:Int}{A:List Int}(hr:ay g=x::A++[y]):eK hm lt (vL nx x y) ch par (aA ay g (y::A)) (x::W):=by
 obtain⟨x1,x2,x3,x4⟩:=m.rm g x (by grind)
 obtain⟨y1,y2,y3,y4⟩:=m.rm g y (by grind)
 have hc:=m.rc g
 have hn:=m.rn g
 rw[hr]at hc hn
 obtain⟨p1,p2⟩:=hc.part hn
 have GD:=aqu.1 (show(x::(A++[y])).Nodup from hn)
 have hp:(A++[y]).Perm (y::A):=by grind
 have er:∀h c,c∈ay h→(c=x∨c=y)→h=g:=fun h c hh he=>by
  cases m;grind
 refine⟨m.pr,fun z=>(m.cy z).aM (fun h=>(m.OL h).1 g (by grind)) (fun h=>(m.OL h).1 g (by grind)),fun h=>?_,fun h=>?_,fun h c hh=>?_,aqu.2 ⟨x4,m.wn⟩,fun c Un=>?_,fun c h1 h2=>?_,fun c hc=>?_⟩
 ·cases m;grind [aA,q9.aM]
 ·cases m;grind [aA]
 ·cases m;grind [aA]
 ·cases m;grind [tJ]
 ·cases m;grind [aA]
 cases m;grind [tJ]
theorem eK.acV(m:eK hm lt nx ch par ay W){g:Int}(hr:ay g=[x]):eK hm lt nx ch par (aA ay g []) (x::W):=by
 obtain⟨x1,x2,x3,x4⟩:=m.rm g x (by grind)
 have hc:=m.rc g
 rw[hr]at hc
 refine⟨m.pr,m.cy,fun h=>?_,fun h=>?_,fun h c hh=>?_,aqu.2 ⟨x4,m.wn⟩,fun c ww=>?_,fun c h1 h2=>?_,m.lone⟩
 ·unfold aA;split
  ·trivial
  ·exact m.rc h
 ·cases m;grind [aA]
 ·cases m;grind [aA]
 ·rcases aqC.1 ww with rfl|ww
  ·exact⟨hc,x2,by omega⟩
  ·exact m.wm c ww
 cases m;grind [aA]
theorem Pr.Ta(q:Pr hm lt ch par){l:List Int}(h:(ch x).Perm l):Pr hm lt (aA ch x l) par:=by
 refine⟨q.h0,fun y c hc=>?_,fun c y hc hy=>?_,fun y=>?_⟩
 ·cases q;grind [aA]
 ·cases q;grind [aA]
 cases q;grind [aA]
theorem fg(ch:Int→List Int)(x:Int)(l l':List Int):aA (aA ch x l) x l'=aA ch x l':=by
 grind [aA]
theorem JI(ch:Int→List Int)(x b:Int)(l:List Int):aA (nR ch x b) x l=aA ch x l:=by
 grind [aA,nR]
theorem eK.acW(m:eK hm lt nx ch par ay W){l:List Int}(hp:(ch x).Perm l)(hc:q9 nx l):eK hm lt nx (aA ch x l) par ay W:=by
 refine⟨m.pr.Ta hp,fun y=>?_,m.rc,m.rn,m.rm,m.wn,m.wm,m.E5,m.lone⟩
 cases m;grind [aA]
theorem eK.YE(m:eK hm lt nx ch par ay (x::y::W))(hh:hm x=hm y)(hl:lt x y=true)(hc:ch x=[]):eK hm lt nx (aA ch x [y]) (aK par y x) ay (x::W):=by
 obtain⟨x1,x2,x3⟩:=m.wm x (by simp)
 obtain⟨y1,y2,y3⟩:=m.wm y (by simp)
 have Jl:=m.wne (c:=x) (by simp)
 have hn:=m.wn
 simp only[aqu,aqC,not_or]at hn
 have pu:∀c,c≠y→aK par y x c=par c:=by grind [aK]
 have q:=m.pr.link Jl y2 hh y3 hl
 have e1:nR ch x y=aA ch x [y]:=by
  funext z
  unfold nR aA
  split
  ·rw[hc]
  ·rfl
 rw[e1]at q
 refine⟨q,fun z=>?_,m.rc,m.rn,fun h c hc=>?_,by grind,fun c hc=>?_,fun c h1 h2=>?_,m.lone⟩
 ·unfold aA
  split
  ·exact y1
  ·exact m.cy z
 ·cases m;grind
 ·cases m;grind
 cases m;grind [aK]
theorem eK.under(m:eK hm lt nx ch par ay (x::y::W))(hh:hm x=hm y)(hl:lt x y=true){k:Int}{K:List Int}(hc:ch x=k::K):eK hm lt (vL nx k y) (aA ch x (y::K++[k])) (aK par y x) ay (x::W):=by
 obtain⟨x1,x2,x3⟩:=m.wm x (by simp)
 obtain⟨y1,y2,y3⟩:=m.wm y (by simp)
 have Jl:=m.wne (c:=x) (by simp)
 have hn:=m.wn
 simp only[aqu,aqC,not_or]at hn
 have hk:=m.OL (c:=k) (x:=x) (by grind)
 have J0:=m.pr.dn x k (by grind)
 have yr:∀h,y∉ay h:=fun h hh=>(m.rm h y hh).2.2.2 (by simp)
 have yc:∀z,y∉ch z:=fun z h=>(m.OL h).2 (by simp)
 have kc:∀z,k∈ch z→z=x:=fun z h=>by rw[← (m.pr.dn z k h).1,J0.1]
 have pu:∀c,c≠y→aK par y x c=par c:=by grind [aK]
 have q:=m.pr.link Jl y2 hh y3 hl
 have q2:=q.Ta (x:=x) (l:=y::K++[k]) (by
  grind [nR])
 rw[JI]at q2
 have cyc:q9 (vL nx k y) (y::K++[k]):=by
  have h1:=m.cy x
  rw[hc]at h1
  have gI:=m.pr.nd x
  have hy:=yc x
  rw[hc]at gI hy
  have h3:=h1.join (y:=y) (B:=[]) y1 (by
   grind)
  exact q9.rot (l1:=[k]) (l2:=y::K) h3
 refine⟨q2,fun z=>?_,fun h=>(m.rc h).aM (hk.1 h) (yr h),m.rn,fun h c hc=>?_,by grind,fun c hc=>?_,fun c h1 h2=>?_,fun c ww=>?_⟩
 ·cases m;grind [aA,q9.aM]
 ·cases m;grind
 ·cases m;grind [tJ]
 ·cases m;grind [aK]
 cases m;grind [tJ]
theorem eK.raise(m:eK hm lt nx ch par ay W){g k:Int}{K:List Int}(hr:ay g=x::A)(hc:ch x=k::K):eK hm lt (vL nx x k) (aA ch x []) (fP ch par x) (aA ay g (x::K++k::A)) W:=by
 obtain⟨x1,x2,x3,x4⟩:=m.rm g x (by grind)
 have gB:x≠ -1:=m.rne (h:=g) (by grind)
 have hk:=m.OL (c:=k) (x:=x) (by grind)
 have J0:=m.pr.dn x k (by grind)
 have rH:∀c,c∈ch x→hm c=g∧0<hm c:=fun c h=>by have:=m.pr.dn x c h;omega
 have xc:∀z,x∉ch z:=fun z h=>(m.OL h).1 g (by grind)
 have kc:∀z,k∈ch z→z=x:=fun z h=>by rw[← (m.pr.dn z k h).1,J0.1]
 have xr:∀h,x∈ay h→h=g:=fun h hh=>by rw[← (m.rm h x hh).1,x1]
 have hnA:=m.rn g
 rw[hr]at hnA
 have hnK:=m.pr.nd x
 rw[hc]at hnK
 have ams:((x::A)++(k::K)).Nodup:=by
  rw[aqR]
  refine⟨hnA,hnK,fun u hu v hv e=>?_⟩
  exact(m.OL (c:=v) (x:=x) (by grind)).1 g (by grind)
 have B8:((x::A)++(k::K)).Perm (x::K++k::A):=by
  refine List.Perm.cons x ?_
  refine(aru (l₁:=A) (l₂:=k::K)).trans ?_
  exact ar5.symm
 have jW:=m.rc g
 rw[hr]at jW
 have hck:=m.cy x
 rw[hc]at hck
 refine⟨m.pr.bare x,fun z=>?_,fun h=>?_,fun h=>?_,fun h c hh=>?_,m.wn,fun c Un=>?_,fun c h1 h2=>?_,fun c tQ=>?_⟩
 ·unfold aA
  split
  ·trivial
  cases m;grind [q9.aM]
 ·cases m;grind [aA,q9.join,q9.aM]
 ·cases m;grind [aA]
 ·unfold aA at hh
  unfold fP
  split at hh
  ·rename_i e
   rw[e]
   have hm2:=B8.mem_iff.2 hh
   rcases aqq.1 hm2 with h5|h5
   ·cases m;grind
   ·have h6:c∈ch x:=by rw[hc];exact h5
    obtain⟨h7,h8⟩:=rH c h6
    rw[if_pos h6]
    exact⟨h7,rfl,by omega,(m.OL h6).2⟩
  cases m;grind
 ·cases m;grind [fP,tJ]
 ·cases m;grind [aA,fP]
 cases m;grind [tJ]
theorem eK.off(m:eK hm lt nx ch par ay W){p:Int}(hc:ch p=x::A++[y]):eK hm lt (vL nx x y) (aA ch p (A++[y])) (aK par x (-1)) ay (x::W):=by
 have hx:=m.pr.dn p x (by grind)
 have hy:=m.pr.dn p y (by grind)
 have Um:=m.OL (c:=x) (x:=p) (by grind)
 have ny':=m.OL (c:=y) (x:=p) (by grind)
 have pu:∀c,c≠x→aK par x (-1) c=par c:=by grind [aK]
 have Ln:=m.cy p
 have gI:=m.pr.nd p
 rw[hc]at Ln gI
 obtain⟨p1,p2⟩:=Ln.part gI
 have q:=m.pr.off (l1:=[]) (l2:=A++[y]) (x:=x) (p:=p) (by grind)
 refine⟨q,fun z=>?_,fun h=>(m.rc h).aM (Um.1 h) (ny'.1 h),m.rn,fun h c hh=>?_,aqu.2 ⟨Um.2,m.wn⟩,fun c Un=>?_,fun c h1 h2=>?_,fun c tQ=>?_⟩
 ·unfold aA
  split
  ·exact q9.rot (l1:=[y]) (l2:=A) p2
  ·rename_i e
   exact(m.cy z).aM (fun h=>e (by rw[← (m.pr.dn z x h).1,hx.1])) (fun h=>e (by rw[← (m.pr.dn z y h).1,hy.1]))
 ·cases m;grind
 ·cases m;grind [aK,tJ]
 ·cases m;grind
 cases m;grind [tJ]
theorem eK.aht(m:eK hm lt nx ch par ay W){p:Int}(hc:ch p=[x]):eK hm lt nx (aA ch p []) (aK par x (-1)) ay (x::W):=by
 have hx:=m.pr.dn p x (by grind)
 have Um:=m.OL (c:=x) (x:=p) (by grind)
 have pu:∀c,c≠x→aK par x (-1) c=par c:=by grind [aK]
 have Ln:=m.cy p
 rw[hc]at Ln
 have q:=m.pr.off (l1:=[]) (l2:=[]) (x:=x) (p:=p) (by grind)
 refine⟨q,fun z=>?_,m.rc,m.rn,fun h c hh=>?_,aqu.2 ⟨Um.2,m.wn⟩,fun c Un=>?_,fun c h1 h2=>?_,m.lone⟩
 ·unfold aA
  split
  ·trivial
  ·exact m.cy z
 ·cases m;grind
 ·rcases aqC.1 Un with e|hw
  ·rw[e]
   exact⟨Ln,by unfold aK;omega,hx.2.2.2.1⟩
  cases m;grind
 cases m;grind
theorem eK.other(m:eK hm lt nx ch par ay W)(h:∀x c,c∈ch x→hm x=hm c→0<hm c→lt x c=true→lt' x c=true):eK hm lt' nx ch par ay W:=
 ⟨m.pr.other m.pr.h0 (by grind),m.cy,m.rc,m.rn,m.rm,m.wn,m.wm,m.E5,m.lone⟩
theorem eK.put(m:eK hm lt nx ch par ay W){g:Int}(h0:hm' (-1)=0)(hx:hm x≤0)(qd:x≠ -1)(hg:0<g)(e1:hm' x=g)(e2:∀y,y≠x→hm' y=hm y)(el:∀a b,0<hm a→0<hm b→a≠x→b≠x→lt' a b=lt a b):eK hm' lt' nx ch par ay (x::W):=by
 obtain⟨a1,a2⟩:=m.pr.alone hx qd
 have nr:∀h,x∉ay h:=fun h hh=>by cases m;grind
 have nW:x∉W:=fun h=>by have:=(m.wm x h).2.2;omega
 refine⟨m.pr.other h0 fun y c hc h1 h2 h3=>?_,m.cy,m.rc,m.rn,fun h c hh=>?_,aqu.2 ⟨nW,m.wn⟩,fun c hc=>?_,fun c h1 h2=>?_,fun c hc=>?_⟩
 ·have n1:y≠x:=fun e=>by rw[e,a2]at hc;cases hc
  have n2:c≠x:=fun e=>by rw[e]at h2;omega
  rw[e2 _ n1,e2 _ n2,el _ _ (by omega) h2 n1 n2]
  exact⟨h1,h2,h3⟩
 ·cases m;grind
 ·cases m;grind
 ·cases m;grind
 ·by_cases AI:c=x
  ·rw[AI,e1]at hc;omega
  ·rw[e2 c AI]at hc
   exact m.lone c hc
theorem eK.drop(m:eK hm lt nx ch par ay (x::W))(hc:ch x=[])(h0:hm' (-1)=0)(e1:hm' x=0)(e2:∀y,y≠x→hm' y=hm y)(el:∀a b,0<hm a→0<hm b→a≠x→b≠x→lt' a b=lt a b):eK hm' lt' nx ch par ay W:=by
 obtain⟨x1,x2,x3⟩:=m.wm x (by simp)
 have hn:=aqu.1 m.wn
 refine⟨m.pr.other h0 fun y c MU h1 h2 h3=>?_,m.cy,m.rc,m.rn,fun h c hh=>?_,hn.2,fun c Un=>?_,fun c h1 h2=>?_,fun c tQ=>?_⟩
 ·have n1:y≠x:=by grind
  have n2:c≠x:=fun e=>by rw[e]at MU;exact(m.OL MU).2 (by simp)
  grind
 ·cases m;grind
 ·cases m;grind
 ·cases m;grind
 cases m;grind
end
end Go.Proofs.YthpjfeolagohkaaGreat

namespace Go.Proofs.YthpjfeolagohkaaGreat
section
variable {hm hm' : Int → Int} {lt lt' : Int → Int → Bool} {ch dS : Int → List Int} {par : Int → Int} {rows : Int → List Int} {W W' l l' : List Int} {x y a b c p g : Int}
def FO(ch:Int→List Int)(l:List Int):Prop:=l.Pairwise fun a b=>(ch a).length< (ch b).length
theorem FO.nodup(h:FO ch l):l.Nodup:=List.Pairwise.imp (by grind) h
theorem FO.frame(h:FO ch l)(e:∀c∈l,(dS c).length=(ch c).length):FO dS l:=
 List.Pairwise.imp_of_mem (by grind) h
theorem FO.sub(h:FO ch l)(hs:l'.Sublist l):FO ch l':=List.Pairwise.sublist hs h
structure iS(hm:Int→Int)(lt:Int→Int→Bool)(ch:Int→List Int)(par:Int→Int)(rows:Int→List Int)(W:List Int):Prop where
 pr:Pr hm lt ch par
 dg:∀x (i:Nat) c,(ch x)[i]? =some c→(ch c).length=i
 rr:∀h,FO ch (rows h)
 rm:∀h c,c∈rows h→hm c=h∧par c= -1∧0<h∧c∉W
 wn:W.Nodup
 wm:∀c∈W,par c= -1∧0<hm c
 E5:∀c,0<hm c→par c= -1→c∈rows (hm c)∨c∈W
theorem iS.less(m:iS hm lt ch par rows W)(h:c∈ch x):(ch c).length< (ch x).length:=by
 obtain⟨i,hi,e⟩:=ar2.1 h
 have:=m.dg x i c (by grind)
 omega
theorem iS.wne(m:iS hm lt ch par rows W)(h:c∈W):c≠ -1:=fun e=>by
 have:=(m.wm c h).2
 rw[e,m.pr.h0]at this
 omega
theorem iS.Vw(m:iS hm lt ch par rows W)(h:par c= -1)(z:Int):c∉ch z:=fun hc=>by
 have:=m.pr.dn z c hc
 omega
theorem iS.perm(m:iS hm lt ch par rows W)(h:W.Perm W'):iS hm lt ch par rows W':=
 ⟨m.pr,m.dg,m.rr,fun g c hc=>by cases m;grind,h.nodup_iff.1 m.wn,fun c hc=>m.wm c (h.mem_iff.2 hc),fun c h1 h2=>(m.E5 c h1 h2).imp_right h.mem_iff.1⟩
theorem iS.other(m:iS hm lt ch par rows W)(h:∀x c,c∈ch x→lt x c=true→lt' x c=true):iS hm lt' ch par rows W:=
 ⟨m.pr.other m.pr.h0 (by grind),m.dg,m.rr,m.rm,m.wn,m.wm,m.E5⟩
theorem iS.link(m:iS hm lt ch par rows (a::b::W))(hh:hm a=hm b)(hd:(ch a).length=(ch b).length)(hl:lt a b=true):
  iS hm lt (aA ch a (ch a++[b])) (aK par b a) rows (a::W):=by
 obtain⟨a1,a2⟩:=m.wm a (by simp)
 obtain⟨b1,b2⟩:=m.wm b (by simp)
 have hn:=m.wn
 simp only[aqu,aqC,not_or]at hn
 have han:a≠ -1:=m.wne (by simp)
 have AG:a≠b:=hn.1.1
 have q:=m.pr.link han b1 hh b2 hl
 have q2:=q.Ta (x:=a) (l:=ch a++[b]) (by
  grind [nR])
 rw[JI]at q2
 have nc:=m.Vw a1
 have ne:∀c,c≠a→aA ch a (ch a++[b]) c=ch c:=by grind [aA]
 have na:aA ch a (ch a++[b]) a=ch a++[b]:=by unfold aA;grind
 refine⟨q2,fun z i c hc=>?_,fun h=>(m.rr h).frame fun c hc=>?_,fun h c hc=>?_,by grind,fun c hc=>?_,fun c h1 h2=>?_⟩
 ·cases m;grind
 ·cases m;grind
 ·cases m;grind [aK]
 ·cases m;grind [aK]
 cases m;grind [aK]
theorem iS.loose(m:iS hm lt ch par rows W)(g:Int):iS hm lt ch par (aA rows g []) (rows g++W):=by
 refine⟨m.pr,m.dg,fun h=>?_,fun h c hc=>?_,aqR.2 ⟨(m.rr g).nodup,m.wn,fun u hu v hv e=>(m.rm g u hu).2.2.2 (by grind)⟩,fun c hc=>?_,fun c h1 h2=>?_⟩
 ·unfold aA
  split
  ·exact List.Pairwise.nil
  ·exact m.rr h
 ·cases m;grind [aA]
 ·cases m;grind
 cases m;grind [aA]
theorem iS.row(m:iS hm lt ch par rows (l++W))(he:rows g=[])(hr:FO ch l)(hg:∀c∈l,hm c=g):iS hm lt ch par (aA rows g l) W:=by
 obtain⟨n1,n2,n3⟩:=aqR.1 m.wn
 refine⟨m.pr,m.dg,fun h=>?_,fun h c hc=>?_,n2,fun c hc=>m.wm c (by grind),fun c h1 h2=>?_⟩
 ·cases m;grind [aA]
 ·cases m;grind [aA]
 cases m;grind [aA]
theorem iS.split(m:iS hm lt ch par rows (x::W)):iS hm lt (aA ch x []) (fP ch par x) rows (x::(ch x++W)):=by
 obtain⟨x1,x2⟩:=m.wm x (by simp)
 have hn:=aqu.1 m.wn
 have nc:=m.Vw x1
 have kd:∀c,c∈ch x→par c≠ -1:=fun c hc e=>m.Vw e x hc
 refine⟨m.pr.bare x,fun z i c hc=>?_,fun h=>(m.rr h).frame fun c hc=>?_,fun h c hc=>?_,?_,fun c hc=>?_,fun c h1 h2=>?_⟩
 ·cases m;grind [aA]
 ·cases m;grind [aA]
 ·cases m;grind [fP]
 ·rw[aqu,aqR]
  refine⟨?_,m.pr.nd x,hn.2,fun u hu v hv e=>kd u hu (by cases m;grind)⟩
  grind
 ·simp only[aqC,aqq]at hc
  unfold fP
  rcases hc with h|h|h
  ·grind
  ·rw[if_pos h]
   exact⟨rfl,(m.pr.dn x c h).2.2.2.1⟩
  cases m;grind
 cases m;grind [fP]
theorem iS.put(m:iS hm lt ch par rows W)(h0:hm' (-1)=0)(hx:hm x≤0)(qd:x≠ -1)(hg:0<g)(e1:hm' x=g)(e2:∀y,y≠x→hm' y=hm y)(el:∀a b,0<hm a→0<hm b→a≠x→b≠x→lt' a b=lt a b):iS hm' lt' ch par rows (x::W)∧ch x=[]:=by
 obtain⟨a1,a2⟩:=m.pr.alone hx qd
 have nr:∀h,x∉rows h:=fun h hh=>by cases m;grind
 have nW:x∉W:=fun h=>by have:=(m.wm x h).2;omega
 refine⟨⟨m.pr.other h0 fun y c hc h1 h2 h3=>?_,m.dg,m.rr,fun h c hh=>?_,aqu.2 ⟨nW,m.wn⟩,fun c hc=>?_,fun c h1 h2=>?_⟩,a2⟩
 ·have n1:y≠x:=fun e=>by rw[e,a2]at hc;cases hc
  have n2:c≠x:=fun e=>by rw[e]at h2;omega
  rw[e2 _ n1,e2 _ n2,el _ _ (by omega) h2 n1 n2]
  exact⟨h1,h2,h3⟩
 ·cases m;grind
 ·cases m;grind
 ·by_cases AI:c=x
  ·exact .inr (by simp[AI])
  ·rw[e2 c AI]at h1 ⊢
   exact(m.E5 c h1 h2).imp_right fun h=>by simp[h]
theorem iS.drop(m:iS hm lt ch par rows (x::W))(hc:ch x=[])(h0:hm' (-1)=0)(e1:hm' x=0)(e2:∀y,y≠x→hm' y=hm y)(el:∀a b,0<hm a→0<hm b→a≠x→b≠x→lt a b=true→lt' a b=true):iS hm' lt' ch par rows W:=by
 obtain⟨x2,x3⟩:=m.wm x (by simp)
 have hn:=aqu.1 m.wn
 refine⟨m.pr.other h0 fun y c MU h1 h2 h3=>?_,m.dg,m.rr,fun h c hh=>?_,hn.2,fun c Un=>?_,fun c h1 h2=>?_⟩
 ·have n1:y≠x:=by grind
  have n2:c≠x:=fun e=>by rw[e]at MU;exact m.Vw x2 _ MU
  grind
 ·cases m;grind
 ·cases m;grind
 cases m;grind
def gN(x p z:Int):Int:=if z=x then p else if z=p then x else z
theorem ol:gN x p x=p:=by unfold gN;omega
theorem yP:gN x p p=x:=by
 unfold gN
 omega
theorem jv(h1:c≠x)(h2:c≠p):gN x p c=c:=by unfold gN;omega
theorem sR(z:Int):gN x p (gN x p z)=z:=by
 grind [ol,yP,jv]
theorem Vx{u v:Int}(h:gN x p u=gN x p v):u=v:=by grind [sR]
def G1(ch:Int→List Int)(x p:Int):Int→List Int:=fun z=>(ch (gN x p z)).map (gN x p)
def KM(par:Int→Int)(x p:Int):Int→Int:=fun z=>gN x p (par (gN x p z))
theorem B9(h1:x∉l)(h2:p∉l):l.map (gN x p)=l:=by
 have:l.map (gN x p)=l.map id:=ar7 (by grind [gN])
 simp_all
theorem JJ(h:l.Nodup):(l.map (gN x p)).Nodup:=by
 grind [Vx]
theorem Vy(z:Int):(G1 ch x p (gN x p z)).length=(ch z).length:=by unfold G1;rw[sR,aqr]
theorem mV{z:Int}:z∈l.map (gN x p)↔gN x p z∈l:=by
 grind [sR]
theorem iS.swap(m:iS hm lt ch par rows W)(hx:x∈ch p)(hl:∀z c,c∈ch z→lt z c=true→lt' (gN x p z) (gN x p c)=true):
  iS hm lt' (G1 ch x p) (KM par x p) (fun h=>(rows h).map (gN x p)) (W.map (gN x p)):=by
 obtain⟨d1,d2,d3,d4,d5⟩:=m.pr.dn p x hx
 have Jl:=m.pr.ne hx
 have sS:∀z,hm (gN x p z)=hm z:=by grind [gN]
 have yL:gN x p (-1)= -1:=by grind [gN]
 have No:∀z,gN x p z= -1↔z= -1:=by grind [gN]
 have hpS:∀z,KM par x p z= -1↔par (gN x p z)= -1:=fun z=>No _
 refine⟨⟨m.pr.h0,fun z c hc=>?_,fun c z hc hz=>?_,fun z=>JJ (m.pr.nd _)⟩,fun z i c hc=>?_,fun h=>?_,fun h c hc=>?_,JJ m.wn,fun c hc=>?_,fun c h1 h2=>?_⟩
 ·have ww:=mV.1 hc
  obtain⟨h1,h2,h3,h4,h5⟩:=m.pr.dn _ _ ww
  grind [KM,sR]
 ·have h1:par (gN x p c)=gN x p z:=by rw[←hc];unfold KM;rw[sR]
  exact mV.2 (m.pr.up _ _ h1 (by grind))
 ·cases m;grind [G1,Vy]
 ·unfold FO
  rw[List.pairwise_map]
  exact(m.rr h).imp (by grind [gN,G1])
 ·cases m;grind [mV]
 ·cases m;grind [mV]
 cases m;grind [mV]
def lx(lt:Int→Int→Bool)(x:Int):Int→Int→Bool:=fun a b=>decide (a=x) || decide (b=x) || lt a b
theorem WK(h:lt a b=true):lx lt x a b=true:=by unfold lx;simp[h]
theorem KN(h:lx lt x a b=true)(h1:a≠x)(h2:b≠x):lt a b=true:=by
 unfold lx at h
 grind
structure Ns(hm:Int→Int)(lt:Int→Int→Bool)(ch:Int→List Int)(par:Int→Int)(rows:Int→List Int)(W:List Int)(x:Int):Prop where
 w:iS hm (lx lt x) ch par rows W
 by_:par x≠ -1→∀d∈ch x,lt (par x) d=true
theorem Ns.start(hs:bC lt)(m:iS hm lt ch par rows W)(el:∀a b,0<hm a→0<hm b→a≠x→b≠x→lt' a b=lt a b):Ns hm lt' ch par rows W x:=by
 have nx:x∉ch x:=fun h=>by have:=m.less h;omega
 refine⟨m.other fun z c hc h=>?_,fun hp d hd=>?_⟩
 ·by_cases h1:z=x
  ·unfold lx;simp[h1]
  ·by_cases h2:c=x
   ·unfold lx;simp[h2]
   ·obtain⟨_,_,h3,h4,_⟩:=m.pr.dn z c hc
    grind [WK]
 ·have hx:=m.pr.up x _ rfl hp
  obtain⟨_,_,h3,h4,h5⟩:=m.pr.dn _ _ hx
  obtain⟨_,_,h6,h7,h8⟩:=m.pr.dn _ _ hd
  cases hs;grind
theorem Ns.up(hs:bC lt)(m:Ns hm lt ch par rows W x)(hx:x∈ch p):Ns hm lt (G1 ch x p) (KM par x p) (fun h=>(rows h).map (gN x p)) (W.map (gN x p)) x:=by
 have hd:=m.w.pr.dn p x hx
 have uF:=m.w.less hx
 have ep:p≠x:=by grind
 have hp:par x=p:=hd.1
 have nx:∀c,c∈ch x→c≠x∧c≠p:=fun c hc=>by
  have:=m.w.less hc
  grind
 refine⟨m.w.swap hx fun z c hc h=>?_,fun hq d Vz=>?_⟩
 ·by_cases h1:z=x
  ·cases m;grind [ol,jv,WK]
  ·by_cases h2:z=p
   ·rw[h2,yP];unfold lx;simp
   ·by_cases h3:c=x
    ·have:=(m.w.pr.dn z c hc).1
     grind
    grind [lx,yP,jv]
 ·have RC:KM par x p x=gN x p (par p):=by unfold KM;rw[ol]
  have Oy:par p≠ -1:=fun e=>hq (by rw[RC,e];exact jv (Ne.symm (m.w.pr.ne hx)) (Ne.symm hd.2.1))
  have Tb:=m.w.pr.up p _ rfl Oy
  have tP:=m.w.less Tb
  have g1:par p≠x:=by grind
  have g2:par p≠p:=by grind
  rw[RC,jv g1 g2]
  have h1:=KN (m.w.pr.dn _ _ Tb).2.2.2.2 g1 ep
  unfold G1 at Vz
  rw[ol]at Vz
  have kJ:=mV.1 Vz
  by_cases e1:d=p
  ·grind
  ·have e2:d≠x:=fun e=>by
    rw[e,ol]at kJ
    have:=m.w.less kJ
    omega
   rw[jv e2 e1]at kJ
   exact hs.tr _ _ _ h1 (KN (m.w.pr.dn p d kJ).2.2.2.2 ep e2)
theorem Ns.low(hs:bC lt)(m:Ns hm lt ch par rows W x)(hx:x∈ch p)(hl:lt x p=true):∀d∈G1 ch x p x,lt x d=true:=by
 intro d Vz
 have uF:=m.w.less hx
 have ep:p≠x:=by grind
 unfold G1 at Vz
 rw[ol]at Vz
 have kJ:=mV.1 Vz
 by_cases e1:d=p
 ·grind
 ·have e2:d≠x:=fun e=>by
   rw[e,ol]at kJ
   have:=m.w.less kJ
   omega
  rw[jv e2 e1]at kJ
  exact hs.tr _ _ _ hl (KN (m.w.pr.dn p d kJ).2.2.2.2 ep e2)
theorem Ns.done(m:Ns hm lt ch par rows W x)(h1:∀d∈ch x,lt x d=true)(h2:par x≠ -1→lt (par x) x=true):iS hm lt ch par rows W:=by
 refine m.w.other fun z c hc h=>?_
 by_cases e1:z=x
 ·grind
 ·by_cases e2:c=x
  ·obtain⟨d1,d2,_⟩:=m.w.pr.dn z c hc
   grind
  ·exact KN h e1 e2
end
end Go.Proofs.YthpjfeolagohkaaGreat

namespace Go.Proofs.YthpjfeolagohkaaGreat
section
variable {hm hm' : Int → Int} {lt lt' : Int → Int → Bool} {ch : Int → List Int} {par : Int → Int} {ay : Int → List Int} {W A : List Int} {nx pv : Int → Int} {x g T y : Int}
theorem Pr.root(q:Pr hm lt ch par)(hs:bC lt){n:Nat}(hn:∀x,0<hm x→0≤x∧x<n):∀ (k:Nat) {x:Int},Ol lt n x≤k→0<hm x→∃r,hm r=hm x∧par r= -1∧(r=x∨lt r x=true):=by
 intro k
 induction k with
 |zero=>
  intro x hk hx
  by_cases hp:par x= -1
  ·grind
  ·obtain⟨_,_,h3,h4,h5⟩:=q.dn _ _ (q.up x _ rfl hp)
   have:=FM hs (n:=n) (hn _ (by omega)) h5
   omega
 |succ k ih=>
  intro x hk hx
  by_cases hp:par x= -1
  ·grind
  ·obtain⟨_,_,h3,h4,h5⟩:=q.dn _ _ (q.up x _ rfl hp)
   have:=FM hs (n:=n) (hn _ (by omega)) h5
   cases hs;grind
theorem Pr.lead(q:Pr hm lt ch par)(hs:bC lt){n:Nat}(hn:∀x,0<hm x→0≤x∧x<n)(hg:0<g)(h:∀c,hm c=g→par c= -1→T≠ -1∧(c≠T→lt T c=true))(hy:hm y=g):T≠ -1∧(y≠T→lt T y=true):=by
 obtain⟨r,r1,r2,r3⟩:=q.root hs hn _ (aqm _) (x:=y) (by omega)
 cases hs;grind
theorem eK.bj(m:eK hm lt nx ch par ay W)(hi:B7 nx pv)(hr:ay g=x::A):eK hm lt (vL nx x (pv x)) ch par (aA ay g A) (x::W):=by
 have hc:=m.rc g
 rw[hr]at hc
 rcases List.eq_nil_or_concat A with h| ⟨B,y,h⟩
 ·subst h
  have h1:nx x=x:=hc
  have h2:pv x=x:=by
   have:=hi.pn x
   grind
  rw[h2,MV]
  exact m.acV hr
 ·rw[List.concat_eq_append]at h
  subst h
  have h2:pv x=y:=q9.last (A:=B) hi hc
  rw[h2]
  have m2:=m.acU (A:=B) (y:=y) hr
  have h3:=m2.uA (g:=g) (l:=B++[y]) (by
   unfold aA
   grind) (by
   have:=m2.rc g
   grind [aA,q9.rot])
  rwa[fg]at h3
theorem eK.from_(m:eK hm lt nx ch par ay W)(hx:x∈ay g):∃A,(ay g).Perm (x::A)∧eK hm lt nx ch par (aA ay g (x::A)) W:=by
 obtain⟨A,h1,h2⟩:=(m.rc g).from hx
 exact⟨A,h1,m.uA h1 h2⟩
end
end Go.Proofs.YthpjfeolagohkaaGreat

namespace Go.Proofs.YthpjfeolagohkaaGreat
section
variable {hm : Int → Int} {ch : Int → List Int} {a b now out : List Int} {c g p q x y : Int} {k ia ib io : Nat}
structure om(hm:Int→Int)(ch:Int→List Int)(g:Int)(k ia ib io:Nat)(a b now out:List Int):Prop where
 ra:FO ch a
 rb:FO ch b
 ro:FO ch out
 ka:∀c∈a,ia≤(ch c).length
 kb:∀c∈b,ib≤(ch c).length
 kn:∀c∈now,(ch c).length=k
 ko:∀c∈out,(ch c).length<io
 hg:∀c,c∈a∨c∈b∨c∈now∨c∈out→hm c=g
theorem om.acX(h:om hm ch g k k ib io (c::a) b now out)(e:(ch c).length=k):om hm ch g k (k+1) ib io a b (now++[c]) out:=by
 have hr:=arw.1 h.ra
 refine⟨hr.2,h.rb,h.ro,fun d hd=>?_,h.kb,fun d hd=>?_,h.ko,fun d hd=>?_⟩
 ·grind
 ·cases h;grind
 ·refine h.hg d ?_
  grind
theorem om.MW(h:om hm ch g k ia k io a (c::b) now out)(e:(ch c).length=k):om hm ch g k ia (k+1) io a b (now++[c]) out:=by
 have hr:=arw.1 h.rb
 refine⟨h.ra,hr.2,h.ro,h.ka,fun d hd=>?_,fun d hd=>?_,h.ko,fun d hd=>?_⟩
 ·grind
 ·cases h;grind
 ·refine h.hg d ?_
  grind
theorem om.WL(h:om hm ch g k k ib io a b now out)(e:∀c,a.head? =some c→(ch c).length≠k):om hm ch g k (k+1) ib io a b now out:=by
 refine⟨h.ra,h.rb,h.ro,fun d hd=>?_,h.kb,h.kn,h.ko,h.hg⟩
 cases a with
 |nil=>cases hd
 |cons c a=>
  have h1:=e c rfl
  have h2:=h.ka c (by simp)
  rcases aqC.1 hd with rfl|hd
  ·omega
  ·have:=(arw.1 h.ra).1 d hd;omega
theorem om.WM(h:om hm ch g k ia k io a b now out)(e:∀c,b.head? =some c→(ch c).length≠k):om hm ch g k ia (k+1) io a b now out:=by
 refine⟨h.ra,h.rb,h.ro,h.ka,fun d hd=>?_,h.kn,h.ko,h.hg⟩
 cases b with
 |nil=>cases hd
 |cons c b=>
  have h1:=e c rfl
  have h2:=h.kb c (by simp)
  rcases aqC.1 hd with rfl|hd
  ·omega
  ·have:=(arw.1 h.rb).1 d hd;omega
theorem om.ahu(h:om hm ch g k ia ib k a b (c::now) out):om hm ch g k ia ib (k+1) a b now (out++[c]):=by
 have hc:=h.kn c (by simp)
 refine⟨h.ra,h.rb,?_,h.ka,h.kb,fun d hd=>h.kn d (by simp[hd]),fun d hd=>?_,fun d hd=>h.hg d ?_⟩
 ·unfold FO
  rw[List.pairwise_append]
  refine⟨h.ro,by simp,fun u hu v hv=>?_⟩
  cases h;grind
 ·cases h;grind
 grind
theorem om.acY(h:om hm ch g k (k+1) (k+1) io a b [] out)(hio:io≤k+1):om hm ch g (k+1) (k+1) (k+1) (k+1) a b [] out:=
 ⟨h.ra,h.rb,h.ro,h.ka,h.kb,by simp,fun c hc=>by have:=h.ko c hc;omega,h.hg⟩
theorem om.acZ(h:om hm ch g k (k+1) (k+1) io a b [x,y] out)(hio:io≤k+1)(hp:p=x∨p=y)(hn:p∉a∧p∉b∧p∉out):om hm (aA ch p (ch p++[q])) g (k+1) (k+1) (k+1) (k+1) a b [p] out:=by
 have ne:∀c,c≠p→aA ch p (ch p++[q]) c=ch c:=by grind [aA]
 have na:aA ch p (ch p++[q]) p=ch p++[q]:=by unfold aA;grind
 have fa:∀c∈a,aA ch p (ch p++[q]) c=ch c:=by grind
 have fb:∀c∈b,aA ch p (ch p++[q]) c=ch c:=by grind
 have fo:∀c∈out,aA ch p (ch p++[q]) c=ch c:=by grind
 have B8:p∈[x,y]:=by grind
 refine⟨h.ra.frame (by grind),h.rb.frame (by grind),h.ro.frame (by grind),fun c hc=>by rw[fa c hc];exact h.ka c hc,fun c hc=>by rw[fb c hc];exact h.kb c hc,fun c hc=>?_,fun c hc=>?_,fun c hc=>h.hg c ?_⟩
 ·cases h;grind
 ·cases h;grind
 grind
end
end Go.Proofs.YthpjfeolagohkaaGreat
