/- Texts put behind each other. -/
import Derived.Test.YthpjfeolagohkaaGreatK98
import Derived.Test.YthpjfeolagohkaaGreatK2
set_option maxRecDepth 100000
set_option maxHeartbeats 8000000
set_option linter.unusedVariables false
set_option linter.unusedSimpArgs false
namespace Go.Proofs.YthpjfeolagohkaaGreat
section
variable {nx TY : Int → Int} {a b x y z : Int} {r s l l1 l2 A B : List Int}
def mj(nx:Int→Int):Int→List Int→Int→Prop
 |a,[],z=>nx a=z
 |a,b::r,z=>nx a=b∧mj nx b r z
def qe(nx:Int→Int):List Int→Prop
 | []=>True
 |a::r=>mj nx a r a
theorem mj.ZJ:∀ {r:List Int} {a:Int},mj nx a (r++b::s) z↔mj nx a r b∧mj nx b s z:=by
 intro r
 induction r with
 |nil=>rfl
 |cons c r ih=>
  intro a
  constructor
  ·rintro⟨h1,h2⟩
   obtain⟨h3,h4⟩:=ih.1 h2
   exact⟨⟨h1,h3⟩,h4⟩
  ·rintro⟨⟨h1,h2⟩,h3⟩
   exact⟨h1,ih.2 ⟨h2,h3⟩⟩
theorem mj.first:∀ {r:List Int} {a a':Int},mj nx a r z→TY a'=nx a→(∀c∈r,TY c=nx c)→mj TY a' r z:=by
 intro r
 induction r with
 |nil=>intro a a' h h1 _;exact h1.trans h
 |cons c r ih=>
  intro a a' h h1 h2
  exact⟨h1.trans h.1,ih h.2 (h2 c (by simp)) (by grind)⟩
theorem qe.frame(h:qe nx l)(hk:∀c∈l,TY c=nx c):qe TY l:=by
 cases l with
 |nil=>trivial
 |cons a r=>exact mj.first h (hk a (by simp)) (by grind)
theorem qe.rot(h:qe nx (l1++l2)):qe nx (l2++l1):=by
 cases l1 with
 |nil=>grind
 |cons a r=>
  cases l2 with
  |nil=>grind
  |cons b s=>
   have h1:mj nx a (r++b::s) a:=h
   obtain⟨h2,h3⟩:=mj.ZJ.1 h1
   exact mj.ZJ.2 ⟨h3,h2⟩
theorem qe.from(h:qe nx l)(hx:x∈l):∃A,l.Perm (x::A)∧qe nx (x::A):=by
 obtain⟨l1,l2,rfl⟩:=List.append_of_mem hx
 grind [qe.rot]
def uP(nx:Int→Int)(x y:Int):Int→Int:=fun z=>if z=x then nx y else if z=y then nx x else nx z
theorem O0:uP nx x y x=nx y:=by unfold uP;omega
theorem O1:uP nx x y y=nx x:=by
 unfold uP
 grind
theorem sr(h1:z≠x)(h2:z≠y):uP nx x y z=nx z:=by unfold uP;omega
theorem qe.aG(h:qe nx l)(hx:x∉l)(hy:y∉l):qe (uP nx x y) l:=h.frame (by grind [uP])
theorem qe.join(h1:qe nx (x::A))(h2:qe nx (y::B))(hn:((x::A)++(y::B)).Nodup):qe (uP nx x y) (x::B++y::A):=by
 obtain⟨n1,n2,n3⟩:=aph.1 hn
 have a1:=(aoR.1 n1).1
 have b1:=(aoR.1 n2).1
 have hA:∀c∈A,uP nx x y c=nx c:=by grind [uP]
 have hB:∀c∈B,uP nx x y c=nx c:=by grind [uP]
 exact mj.ZJ.2 ⟨mj.first h2 O0 hB,mj.first h1 O1 hA⟩
theorem qe.part(h:qe nx (x::A++[y]))(hn:(x::A++[y]).Nodup):uP nx x y x=x∧qe (uP nx x y) (y::A):=by
 have CG:=aoR.1 (show(x::(A++[y])).Nodup from hn)
 obtain⟨n1,n2,n3⟩:=aph.1 CG.2
 have h0:mj nx x (A++[y]) x:=h
 obtain⟨h1,h2⟩:=mj.ZJ.1 h0
 have hA:∀c∈A,uP nx x y c=nx c:=by grind [uP]
 exact⟨O0.trans h2,mj.first h1 O1 hA⟩
theorem Md:uP nx x x=nx:=by
 grind [uP]
structure Bb(nx pv:Int→Int):Prop where
 pn:∀x,pv (nx x)=x
 np:∀x,nx (pv x)=x
def UW(nx pv:Int→Int)(x y:Int):Int→Int:=fun z=>if z=nx x then y else if z=nx y then x else pv z
theorem Bb.uP{pv:Int→Int}(h:Bb nx pv)(x y:Int):Bb (uP nx x y) (UW nx pv x y):=by
 have inj:∀u v,nx u=nx v→u=v:=fun u v e=>by rw[←h.pn u,e,h.pn]
 constructor
 ·cases h;grind [UW,O0,O1,sr]
 cases h;grind [UW,O1,O0,sr]
theorem qe.last{pv:Int→Int}(h:Bb nx pv)(hc:qe nx (x::A++[y])):pv x=y:=by
 have h0:mj nx x (A++[y]) x:=hc
 have h1:nx y=x:=(mj.ZJ.1 h0).2
 rw[←h1,h.pn]
variable {hm hm' : Int → Int} {lt lt' : Int → Int → Bool} {ch : Int → List Int} {par : Int → Int} {au : Int → List Int} {W : List Int}
structure dV(hm:Int→Int)(lt:Int→Int→Bool)(nx:Int→Int)(ch:Int→List Int)(par:Int→Int)(au:Int→List Int)(W:List Int):Prop where
 pr:Pr hm lt ch par
 cy:∀x,qe nx (ch x)
 rc:∀h,qe nx (au h)
 rn:∀h,(au h).Nodup
 rm:∀h c,c∈au h→hm c=h∧par c= -1∧0<h∧c∉W
 wn:W.Nodup
 wm:∀c∈W,nx c=c∧par c= -1∧0<hm c
 Eh:∀c,0<hm c→par c= -1→c∈au (hm c)∨c∈W
 lone:∀c,hm c≤0→nx c=c
theorem dV.ZK(m:dV hm lt nx ch par au W){c:Int}(h:c∈W):c≠ -1:=fun e=>by
 have:=(m.wm c h).2.2
 rw[e,m.pr.h0]at this
 omega
theorem dV.rne(m:dV hm lt nx ch par au W){c h:Int}(hc:c∈au h):c≠ -1:=fun e=>by
 obtain⟨h1,_,h2,_⟩:=m.rm h c hc
 rw[e,m.pr.h0]at h1
 omega
theorem dV.NT(m:dV hm lt nx ch par au W){c x:Int}(hc:c∈ch x):(∀h,c∉au h)∧c∉W:=by
 have h1:=m.pr.dn x c hc
 cases m;grind
theorem dV.perm{W':List Int}(m:dV hm lt nx ch par au W)(h:W.Perm W'):dV hm lt nx ch par au W':=
 ⟨m.pr,m.cy,m.rc,m.rn,fun g c hc=>by cases m;grind,h.nodup_iff.1 m.wn,fun c hc=>m.wm c (h.mem_iff.2 hc),fun c h1 h2=>(m.Eh c h1 h2).imp_right h.mem_iff.1,m.lone⟩
theorem dV.wW(m:dV hm lt nx ch par au W){g:Int}{l:List Int}(hp:(au g).Perm l)(hc:qe nx l):dV hm lt nx ch par (ax au g l) W:=by
 refine⟨m.pr,m.cy,fun h=>?_,fun h=>?_,fun h c hh=>?_,m.wn,m.wm,fun c h1 h2=>?_,m.lone⟩
 ·cases m;grind [ax]
 ·cases m;grind [ax]
 ·cases m;grind [ax]
 cases m;grind [ax]
theorem dV.SU(m:dV hm lt nx ch par au (x::W)){t:Int}{A:List Int}(hr:au (hm x)=t::A):dV hm lt (uP nx t x) ch par (ax au (hm x) (t::x::A)) W:=by
 obtain⟨x1,x2,x3⟩:=m.wm x (by simp)
 have hxW:=(aoR.1 m.wn).1
 have ht:=m.rm (hm x) t (by grind)
 have htx:t≠x:=by grind
 have nr:∀h,x∉au h:=fun h hh=>(m.rm h x hh).2.2.2 (by simp)
 have tr:∀h,t∈au h→h=hm x:=fun h hh=>by rw[← (m.rm h t hh).1,ht.1]
 refine⟨m.pr,fun y=>(m.cy y).aG (fun h=>?_) (fun h=>?_),fun h=>?_,fun h=>?_,fun h c hh=>?_,(aoR.1 m.wn).2,fun c hc=>?_,fun c h1 h2=>?_,fun c hc=>?_⟩
 ·exact(m.NT h).1 (hm x) (by grind)
 ·exact(m.NT h).2 (by simp)
 ·unfold ax
  split
  ·have h1:=m.rc (hm x)
   rw[hr]at h1
   have h2:qe nx [x]:=x1
   refine h1.join h2 ?_
   cases m;grind
  cases m;grind [qe.aG]
 ·cases m;grind [ax]
 ·cases m;grind [ax]
 ·cases m;grind [sr]
 ·cases m;grind [ax]
 cases m;grind [sr]
theorem dV.abX(m:dV hm lt nx ch par au (x::W))(hr:au (hm x)=[]):dV hm lt nx ch par (ax au (hm x) [x]) W:=by
 obtain⟨x1,x2,x3⟩:=m.wm x (by simp)
 have hxW:=(aoR.1 m.wn).1
 refine⟨m.pr,m.cy,fun h=>?_,fun h=>?_,fun h c hh=>?_,(aoR.1 m.wn).2,fun c hc=>m.wm c (by simp[hc]),fun c h1 h2=>?_,m.lone⟩
 ·unfold ax;split
  ·exact x1
  ·exact m.rc h
 ·cases m;grind [ax]
 ·cases m;grind [ax]
 cases m;grind [ax]
theorem dV.abY(m:dV hm lt nx ch par au W){g y:Int}{A:List Int}(hr:au g=x::A++[y]):dV hm lt (uP nx x y) ch par (ax au g (y::A)) (x::W):=by
 obtain⟨x1,x2,x3,x4⟩:=m.rm g x (by grind)
 obtain⟨y1,y2,y3,y4⟩:=m.rm g y (by grind)
 have hc:=m.rc g
 have hn:=m.rn g
 rw[hr]at hc hn
 obtain⟨p1,p2⟩:=hc.part hn
 have CG:=aoR.1 (show(x::(A++[y])).Nodup from hn)
 have hp:(A++[y]).Perm (y::A):=by grind
 have er:∀h c,c∈au h→(c=x∨c=y)→h=g:=fun h c hh he=>by
  cases m;grind
 refine⟨m.pr,fun z=>(m.cy z).aG (fun h=>(m.NT h).1 g (by grind)) (fun h=>(m.NT h).1 g (by grind)),fun h=>?_,fun h=>?_,fun h c hh=>?_,aoR.2 ⟨x4,m.wn⟩,fun c TZ=>?_,fun c h1 h2=>?_,fun c hc=>?_⟩
 ·cases m;grind [ax,qe.aG]
 ·cases m;grind [ax]
 ·cases m;grind [ax]
 ·cases m;grind [sr]
 ·cases m;grind [ax]
 cases m;grind [sr]
theorem dV.abZ(m:dV hm lt nx ch par au W){g:Int}(hr:au g=[x]):dV hm lt nx ch par (ax au g []) (x::W):=by
 obtain⟨x1,x2,x3,x4⟩:=m.rm g x (by grind)
 have hc:=m.rc g
 rw[hr]at hc
 refine⟨m.pr,m.cy,fun h=>?_,fun h=>?_,fun h c hh=>?_,aoR.2 ⟨x4,m.wn⟩,fun c Fe=>?_,fun c h1 h2=>?_,m.lone⟩
 ·unfold ax;split
  ·trivial
  ·exact m.rc h
 ·cases m;grind [ax]
 ·cases m;grind [ax]
 ·rcases apa.1 Fe with rfl|Fe
  ·exact⟨hc,x2,by omega⟩
  ·exact m.wm c Fe
 cases m;grind [ax]
theorem Pr.SV(q:Pr hm lt ch par){l:List Int}(h:(ch x).Perm l):Pr hm lt (ax ch x l) par:=by
 refine⟨q.h0,fun y c hc=>?_,fun c y hc hy=>?_,fun y=>?_⟩
 ·cases q;grind [ax]
 ·cases q;grind [ax]
 cases q;grind [ax]
theorem eD(ch:Int→List Int)(x:Int)(l l':List Int):ax (ax ch x l) x l'=ax ch x l':=by
 grind [ax]
theorem IW(ch:Int→List Int)(x b:Int)(l:List Int):ax (mW ch x b) x l=ax ch x l:=by
 grind [ax,mW]
theorem dV.ab0(m:dV hm lt nx ch par au W){l:List Int}(hp:(ch x).Perm l)(hc:qe nx l):dV hm lt nx (ax ch x l) par au W:=by
 refine⟨m.pr.SV hp,fun y=>?_,m.rc,m.rn,m.rm,m.wn,m.wm,m.Eh,m.lone⟩
 cases m;grind [ax]
theorem dV.Ya(m:dV hm lt nx ch par au (x::y::W))(hh:hm x=hm y)(hl:lt x y=true)(hc:ch x=[]):dV hm lt nx (ax ch x [y]) (aJ par y x) au (x::W):=by
 obtain⟨x1,x2,x3⟩:=m.wm x (by simp)
 obtain⟨y1,y2,y3⟩:=m.wm y (by simp)
 have G6:=m.ZK (c:=x) (by simp)
 have hn:=m.wn
 simp only[aoR,apa,not_or]at hn
 have pu:∀c,c≠y→aJ par y x c=par c:=by grind [aJ]
 have q:=m.pr.link G6 y2 hh y3 hl
 have e1:mW ch x y=ax ch x [y]:=by
  funext z
  unfold mW ax
  split
  ·rw[hc]
  ·rfl
 rw[e1]at q
 refine⟨q,fun z=>?_,m.rc,m.rn,fun h c hc=>?_,by grind,fun c hc=>?_,fun c h1 h2=>?_,m.lone⟩
 ·unfold ax
  split
  ·exact y1
  ·exact m.cy z
 ·cases m;grind
 ·cases m;grind
 cases m;grind [aJ]
theorem dV.under(m:dV hm lt nx ch par au (x::y::W))(hh:hm x=hm y)(hl:lt x y=true){k:Int}{K:List Int}(hc:ch x=k::K):dV hm lt (uP nx k y) (ax ch x (y::K++[k])) (aJ par y x) au (x::W):=by
 obtain⟨x1,x2,x3⟩:=m.wm x (by simp)
 obtain⟨y1,y2,y3⟩:=m.wm y (by simp)
 have G6:=m.ZK (c:=x) (by simp)
 have hn:=m.wn
 simp only[aoR,apa,not_or]at hn
 have hk:=m.NT (c:=k) (x:=x) (by grind)
 have MJ:=m.pr.dn x k (by grind)
 have yr:∀h,y∉au h:=fun h hh=>(m.rm h y hh).2.2.2 (by simp)
 have yc:∀z,y∉ch z:=fun z h=>(m.NT h).2 (by simp)
 have kc:∀z,k∈ch z→z=x:=fun z h=>by rw[← (m.pr.dn z k h).1,MJ.1]
 have pu:∀c,c≠y→aJ par y x c=par c:=by grind [aJ]
 have q:=m.pr.link G6 y2 hh y3 hl
 have q2:=q.SV (x:=x) (l:=y::K++[k]) (by
  grind [mW])
 rw[IW]at q2
 have cyc:qe (uP nx k y) (y::K++[k]):=by
  have h1:=m.cy x
  rw[hc]at h1
  have gU:=m.pr.nd x
  have hy:=yc x
  rw[hc]at gU hy
  have h3:=h1.join (y:=y) (B:=[]) y1 (by
   grind)
  exact qe.rot (l1:=[k]) (l2:=y::K) h3
 refine⟨q2,fun z=>?_,fun h=>(m.rc h).aG (hk.1 h) (yr h),m.rn,fun h c hc=>?_,by grind,fun c hc=>?_,fun c h1 h2=>?_,fun c Fe=>?_⟩
 ·cases m;grind [ax,qe.aG]
 ·cases m;grind
 ·cases m;grind [sr]
 ·cases m;grind [aJ]
 cases m;grind [sr]
theorem dV.raise(m:dV hm lt nx ch par au W){g k:Int}{K:List Int}(hr:au g=x::A)(hc:ch x=k::K):dV hm lt (uP nx x k) (ax ch x []) (fx ch par x) (ax au g (x::K++k::A)) W:=by
 obtain⟨x1,x2,x3,x4⟩:=m.rm g x (by grind)
 have fL:x≠ -1:=m.rne (h:=g) (by grind)
 have hk:=m.NT (c:=k) (x:=x) (by grind)
 have MJ:=m.pr.dn x k (by grind)
 have qz:∀c,c∈ch x→hm c=g∧0<hm c:=fun c h=>by have:=m.pr.dn x c h;omega
 have xc:∀z,x∉ch z:=fun z h=>(m.NT h).1 g (by grind)
 have kc:∀z,k∈ch z→z=x:=fun z h=>by rw[← (m.pr.dn z k h).1,MJ.1]
 have xr:∀h,x∈au h→h=g:=fun h hh=>by rw[← (m.rm h x hh).1,x1]
 have hnA:=m.rn g
 rw[hr]at hnA
 have hnK:=m.pr.nd x
 rw[hc]at hnK
 have aky:((x::A)++(k::K)).Nodup:=by
  rw[aph]
  refine⟨hnA,hnK,fun u hu v hv e=>?_⟩
  exact(m.NT (c:=v) (x:=x) (by grind)).1 g (by grind)
 have tC:((x::A)++(k::K)).Perm (x::K++k::A):=by
  refine List.Perm.cons x ?_
  refine(apZ (l₁:=A) (l₂:=k::K)).trans ?_
  exact List.perm_middle.symm
 have nE:=m.rc g
 rw[hr]at nE
 have hck:=m.cy x
 rw[hc]at hck
 refine⟨m.pr.bare x,fun z=>?_,fun h=>?_,fun h=>?_,fun h c hh=>?_,m.wn,fun c TZ=>?_,fun c h1 h2=>?_,fun c tD=>?_⟩
 ·unfold ax
  split
  ·trivial
  cases m;grind [qe.aG]
 ·cases m;grind [ax,qe.join,qe.aG]
 ·cases m;grind [ax]
 ·unfold ax at hh
  unfold fx
  split at hh
  ·rename_i e
   rw[e]
   have hm2:=tC.mem_iff.2 hh
   rcases aoL.1 hm2 with h5|h5
   ·cases m;grind
   ·have h6:c∈ch x:=by rw[hc];exact h5
    obtain⟨h7,h8⟩:=qz c h6
    rw[if_pos h6]
    exact⟨h7,rfl,by omega,(m.NT h6).2⟩
  cases m;grind
 ·cases m;grind [fx,sr]
 ·cases m;grind [ax,fx]
 cases m;grind [sr]
theorem dV.off(m:dV hm lt nx ch par au W){p:Int}(hc:ch p=x::A++[y]):dV hm lt (uP nx x y) (ax ch p (A++[y])) (aJ par x (-1)) au (x::W):=by
 have hx:=m.pr.dn p x (by grind)
 have hy:=m.pr.dn p y (by grind)
 have TY:=m.NT (c:=x) (x:=p) (by grind)
 have ny':=m.NT (c:=y) (x:=p) (by grind)
 have pu:∀c,c≠x→aJ par x (-1) c=par c:=by grind [aJ]
 have KD:=m.cy p
 have gU:=m.pr.nd p
 rw[hc]at KD gU
 obtain⟨p1,p2⟩:=KD.part gU
 have q:=m.pr.off (l1:=[]) (l2:=A++[y]) (x:=x) (p:=p) (by grind)
 refine⟨q,fun z=>?_,fun h=>(m.rc h).aG (TY.1 h) (ny'.1 h),m.rn,fun h c hh=>?_,aoR.2 ⟨TY.2,m.wn⟩,fun c TZ=>?_,fun c h1 h2=>?_,fun c tD=>?_⟩
 ·unfold ax
  split
  ·exact qe.rot (l1:=[y]) (l2:=A) p2
  ·rename_i e
   exact(m.cy z).aG (fun h=>e (by rw[← (m.pr.dn z x h).1,hx.1])) (fun h=>e (by rw[← (m.pr.dn z y h).1,hy.1]))
 ·cases m;grind
 ·cases m;grind [aJ,sr]
 ·cases m;grind
 cases m;grind [sr]
theorem dV.af2(m:dV hm lt nx ch par au W){p:Int}(hc:ch p=[x]):dV hm lt nx (ax ch p []) (aJ par x (-1)) au (x::W):=by
 have hx:=m.pr.dn p x (by grind)
 have TY:=m.NT (c:=x) (x:=p) (by grind)
 have pu:∀c,c≠x→aJ par x (-1) c=par c:=by grind [aJ]
 have KD:=m.cy p
 rw[hc]at KD
 have q:=m.pr.off (l1:=[]) (l2:=[]) (x:=x) (p:=p) (by grind)
 refine⟨q,fun z=>?_,m.rc,m.rn,fun h c hh=>?_,aoR.2 ⟨TY.2,m.wn⟩,fun c TZ=>?_,fun c h1 h2=>?_,m.lone⟩
 ·unfold ax
  split
  ·trivial
  ·exact m.cy z
 ·cases m;grind
 ·rcases apa.1 TZ with e|hw
  ·rw[e]
   exact⟨KD,by unfold aJ;omega,hx.2.2.2.1⟩
  cases m;grind
 cases m;grind
theorem dV.other(m:dV hm lt nx ch par au W)(h:∀x c,c∈ch x→hm x=hm c→0<hm c→lt x c=true→lt' x c=true):dV hm lt' nx ch par au W:=
 ⟨m.pr.other m.pr.h0 (by grind),m.cy,m.rc,m.rn,m.rm,m.wn,m.wm,m.Eh,m.lone⟩
theorem dV.put(m:dV hm lt nx ch par au W){g:Int}(h0:hm' (-1)=0)(hx:hm x≤0)(kD:x≠ -1)(hg:0<g)(e1:hm' x=g)(e2:∀y,y≠x→hm' y=hm y)(el:∀a b,0<hm a→0<hm b→a≠x→b≠x→lt' a b=lt a b):dV hm' lt' nx ch par au (x::W):=by
 obtain⟨a1,a2⟩:=m.pr.alone hx kD
 have nr:∀h,x∉au h:=fun h hh=>by cases m;grind
 have nW:x∉W:=fun h=>by have:=(m.wm x h).2.2;omega
 refine⟨m.pr.other h0 fun y c hc h1 h2 h3=>?_,m.cy,m.rc,m.rn,fun h c hh=>?_,aoR.2 ⟨nW,m.wn⟩,fun c hc=>?_,fun c h1 h2=>?_,fun c hc=>?_⟩
 ·have n1:y≠x:=fun e=>by rw[e,a2]at hc;cases hc
  have n2:c≠x:=fun e=>by rw[e]at h2;omega
  rw[e2 _ n1,e2 _ n2,el _ _ (by omega) h2 n1 n2]
  exact⟨h1,h2,h3⟩
 ·cases m;grind
 ·cases m;grind
 ·cases m;grind
 ·by_cases Ei:c=x
  ·rw[Ei,e1]at hc;omega
  ·rw[e2 c Ei]at hc
   exact m.lone c hc
theorem dV.drop(m:dV hm lt nx ch par au (x::W))(hc:ch x=[])(h0:hm' (-1)=0)(e1:hm' x=0)(e2:∀y,y≠x→hm' y=hm y)(el:∀a b,0<hm a→0<hm b→a≠x→b≠x→lt' a b=lt a b):dV hm' lt' nx ch par au W:=by
 obtain⟨x1,x2,x3⟩:=m.wm x (by simp)
 have hn:=aoR.1 m.wn
 refine⟨m.pr.other h0 fun y c CE h1 h2 h3=>?_,m.cy,m.rc,m.rn,fun h c hh=>?_,hn.2,fun c TZ=>?_,fun c h1 h2=>?_,fun c tD=>?_⟩
 ·have n1:y≠x:=by grind
  have n2:c≠x:=fun e=>by rw[e]at CE;exact(m.NT CE).2 (by simp)
  grind
 ·cases m;grind
 ·cases m;grind
 ·cases m;grind
 cases m;grind
end
end Go.Proofs.YthpjfeolagohkaaGreat

namespace Go.Proofs.YthpjfeolagohkaaGreat
section
variable {hm hm' : Int → Int} {lt lt' : Int → Int → Bool} {ch dA : Int → List Int} {par : Int → Int} {rows : Int → List Int} {W W' l l' : List Int} {x y a b c p g : Int}
def E4(ch:Int→List Int)(l:List Int):Prop:=l.Pairwise fun a b=>(ch a).length< (ch b).length
theorem E4.nodup(h:E4 ch l):l.Nodup:=List.Pairwise.imp (by grind) h
theorem E4.frame(h:E4 ch l)(e:∀c∈l,(dA c).length=(ch c).length):E4 dA l:=
 List.Pairwise.imp_of_mem (by grind) h
theorem E4.sub(h:E4 ch l)(hs:l'.Sublist l):E4 ch l':=List.Pairwise.sublist hs h
structure it(hm:Int→Int)(lt:Int→Int→Bool)(ch:Int→List Int)(par:Int→Int)(rows:Int→List Int)(W:List Int):Prop where
 pr:Pr hm lt ch par
 dg:∀x (i:Nat) c,(ch x)[i]? =some c→(ch c).length=i
 rr:∀h,E4 ch (rows h)
 rm:∀h c,c∈rows h→hm c=h∧par c= -1∧0<h∧c∉W
 wn:W.Nodup
 wm:∀c∈W,par c= -1∧0<hm c
 Eh:∀c,0<hm c→par c= -1→c∈rows (hm c)∨c∈W
theorem it.less(m:it hm lt ch par rows W)(h:c∈ch x):(ch c).length< (ch x).length:=by
 obtain⟨i,hi,e⟩:=aqh.1 h
 have:=m.dg x i c (by grind)
 omega
theorem it.ZK(m:it hm lt ch par rows W)(h:c∈W):c≠ -1:=fun e=>by
 have:=(m.wm c h).2
 rw[e,m.pr.h0]at this
 omega
theorem it.UX(m:it hm lt ch par rows W)(h:par c= -1)(z:Int):c∉ch z:=fun hc=>by
 have:=m.pr.dn z c hc
 omega
theorem it.perm(m:it hm lt ch par rows W)(h:W.Perm W'):it hm lt ch par rows W':=
 ⟨m.pr,m.dg,m.rr,fun g c hc=>by cases m;grind,h.nodup_iff.1 m.wn,fun c hc=>m.wm c (h.mem_iff.2 hc),fun c h1 h2=>(m.Eh c h1 h2).imp_right h.mem_iff.1⟩
theorem it.other(m:it hm lt ch par rows W)(h:∀x c,c∈ch x→lt x c=true→lt' x c=true):it hm lt' ch par rows W:=
 ⟨m.pr.other m.pr.h0 (by grind),m.dg,m.rr,m.rm,m.wn,m.wm,m.Eh⟩
theorem it.link(m:it hm lt ch par rows (a::b::W))(hh:hm a=hm b)(hd:(ch a).length=(ch b).length)(hl:lt a b=true):
  it hm lt (ax ch a (ch a++[b])) (aJ par b a) rows (a::W):=by
 obtain⟨a1,a2⟩:=m.wm a (by simp)
 obtain⟨b1,b2⟩:=m.wm b (by simp)
 have hn:=m.wn
 simp only[aoR,apa,not_or]at hn
 have han:a≠ -1:=m.ZK (by simp)
 have BP:a≠b:=hn.1.1
 have q:=m.pr.link han b1 hh b2 hl
 have q2:=q.SV (x:=a) (l:=ch a++[b]) (by
  grind [mW])
 rw[IW]at q2
 have nc:=m.UX a1
 have ne:∀c,c≠a→ax ch a (ch a++[b]) c=ch c:=by grind [ax]
 have na:ax ch a (ch a++[b]) a=ch a++[b]:=by unfold ax;grind
 refine⟨q2,fun z i c hc=>?_,fun h=>(m.rr h).frame fun c hc=>?_,fun h c hc=>?_,by grind,fun c hc=>?_,fun c h1 h2=>?_⟩
 ·cases m;grind
 ·cases m;grind
 ·cases m;grind [aJ]
 ·cases m;grind [aJ]
 cases m;grind [aJ]
theorem it.loose(m:it hm lt ch par rows W)(g:Int):it hm lt ch par (ax rows g []) (rows g++W):=by
 refine⟨m.pr,m.dg,fun h=>?_,fun h c hc=>?_,aph.2 ⟨(m.rr g).nodup,m.wn,fun u hu v hv e=>(m.rm g u hu).2.2.2 (by grind)⟩,fun c hc=>?_,fun c h1 h2=>?_⟩
 ·unfold ax
  split
  ·exact List.Pairwise.nil
  ·exact m.rr h
 ·cases m;grind [ax]
 ·cases m;grind
 cases m;grind [ax]
theorem it.row(m:it hm lt ch par rows (l++W))(he:rows g=[])(hr:E4 ch l)(hg:∀c∈l,hm c=g):it hm lt ch par (ax rows g l) W:=by
 obtain⟨n1,n2,n3⟩:=aph.1 m.wn
 refine⟨m.pr,m.dg,fun h=>?_,fun h c hc=>?_,n2,fun c hc=>m.wm c (by grind),fun c h1 h2=>?_⟩
 ·cases m;grind [ax]
 ·cases m;grind [ax]
 cases m;grind [ax]
theorem it.split(m:it hm lt ch par rows (x::W)):it hm lt (ax ch x []) (fx ch par x) rows (x::(ch x++W)):=by
 obtain⟨x1,x2⟩:=m.wm x (by simp)
 have hn:=aoR.1 m.wn
 have nc:=m.UX x1
 have kd:∀c,c∈ch x→par c≠ -1:=fun c hc e=>m.UX e x hc
 refine⟨m.pr.bare x,fun z i c hc=>?_,fun h=>(m.rr h).frame fun c hc=>?_,fun h c hc=>?_,?_,fun c hc=>?_,fun c h1 h2=>?_⟩
 ·cases m;grind [ax]
 ·cases m;grind [ax]
 ·cases m;grind [fx]
 ·rw[aoR,aph]
  refine⟨?_,m.pr.nd x,hn.2,fun u hu v hv e=>kd u hu (by cases m;grind)⟩
  grind
 ·simp only[apa,aoL]at hc
  unfold fx
  rcases hc with h|h|h
  ·grind
  ·rw[if_pos h]
   exact⟨rfl,(m.pr.dn x c h).2.2.2.1⟩
  cases m;grind
 cases m;grind [fx]
theorem it.put(m:it hm lt ch par rows W)(h0:hm' (-1)=0)(hx:hm x≤0)(kD:x≠ -1)(hg:0<g)(e1:hm' x=g)(e2:∀y,y≠x→hm' y=hm y)(el:∀a b,0<hm a→0<hm b→a≠x→b≠x→lt' a b=lt a b):it hm' lt' ch par rows (x::W)∧ch x=[]:=by
 obtain⟨a1,a2⟩:=m.pr.alone hx kD
 have nr:∀h,x∉rows h:=fun h hh=>by cases m;grind
 have nW:x∉W:=fun h=>by have:=(m.wm x h).2;omega
 refine⟨⟨m.pr.other h0 fun y c hc h1 h2 h3=>?_,m.dg,m.rr,fun h c hh=>?_,aoR.2 ⟨nW,m.wn⟩,fun c hc=>?_,fun c h1 h2=>?_⟩,a2⟩
 ·have n1:y≠x:=fun e=>by rw[e,a2]at hc;cases hc
  have n2:c≠x:=fun e=>by rw[e]at h2;omega
  rw[e2 _ n1,e2 _ n2,el _ _ (by omega) h2 n1 n2]
  exact⟨h1,h2,h3⟩
 ·cases m;grind
 ·cases m;grind
 ·by_cases Ei:c=x
  ·exact .inr (by simp[Ei])
  ·rw[e2 c Ei]at h1 ⊢
   exact(m.Eh c h1 h2).imp_right fun h=>by simp[h]
theorem it.drop(m:it hm lt ch par rows (x::W))(hc:ch x=[])(h0:hm' (-1)=0)(e1:hm' x=0)(e2:∀y,y≠x→hm' y=hm y)(el:∀a b,0<hm a→0<hm b→a≠x→b≠x→lt a b=true→lt' a b=true):it hm' lt' ch par rows W:=by
 obtain⟨x2,x3⟩:=m.wm x (by simp)
 have hn:=aoR.1 m.wn
 refine⟨m.pr.other h0 fun y c CE h1 h2 h3=>?_,m.dg,m.rr,fun h c hh=>?_,hn.2,fun c TZ=>?_,fun c h1 h2=>?_⟩
 ·have n1:y≠x:=by grind
  have n2:c≠x:=fun e=>by rw[e]at CE;exact m.UX x2 _ CE
  grind
 ·cases m;grind
 ·cases m;grind
 cases m;grind
def gu(x p z:Int):Int:=if z=x then p else if z=p then x else z
theorem nu:gu x p x=p:=by unfold gu;omega
theorem xw:gu x p p=x:=by
 unfold gu
 omega
theorem iV(h1:c≠x)(h2:c≠p):gu x p c=c:=by unfold gu;omega
theorem rF(z:Int):gu x p (gu x p z)=z:=by
 grind [nu,xw,iV]
theorem UY{u v:Int}(h:gu x p u=gu x p v):u=v:=by grind [rF]
def Ge(ch:Int→List Int)(x p:Int):Int→List Int:=fun z=>(ch (gu x p z)).map (gu x p)
def JV(par:Int→Int)(x p:Int):Int→Int:=fun z=>gu x p (par (gu x p z))
theorem Bc(h1:x∉l)(h2:p∉l):l.map (gu x p)=l:=by
 have:l.map (gu x p)=l.map id:=apu (by grind [gu])
 simp_all
theorem IX(h:l.Nodup):(l.map (gu x p)).Nodup:=by
 grind [UY]
theorem UZ(z:Int):(Ge ch x p (gu x p z)).length=(ch z).length:=by unfold Ge;rw[rF,aoA]
theorem ml{z:Int}:z∈l.map (gu x p)↔gu x p z∈l:=by
 grind [rF]
theorem it.swap(m:it hm lt ch par rows W)(hx:x∈ch p)(hl:∀z c,c∈ch z→lt z c=true→lt' (gu x p z) (gu x p c)=true):
  it hm lt' (Ge ch x p) (JV par x p) (fun h=>(rows h).map (gu x p)) (W.map (gu x p)):=by
 obtain⟨d1,d2,d3,d4,d5⟩:=m.pr.dn p x hx
 have G6:=m.pr.ne hx
 have rG:∀z,hm (gu x p z)=hm z:=by grind [gu]
 have EF:gu x p (-1)= -1:=by grind [gu]
 have HH:∀z,gu x p z= -1↔z= -1:=by grind [gu]
 have hpS:∀z,JV par x p z= -1↔par (gu x p z)= -1:=fun z=>HH _
 refine⟨⟨m.pr.h0,fun z c hc=>?_,fun c z hc hz=>?_,fun z=>IX (m.pr.nd _)⟩,fun z i c hc=>?_,fun h=>?_,fun h c hc=>?_,IX m.wn,fun c hc=>?_,fun c h1 h2=>?_⟩
 ·have Fe:=ml.1 hc
  obtain⟨h1,h2,h3,h4,h5⟩:=m.pr.dn _ _ Fe
  grind [JV,rF]
 ·have h1:par (gu x p c)=gu x p z:=by rw[←hc];unfold JV;rw[rF]
  exact ml.2 (m.pr.up _ _ h1 (by grind))
 ·cases m;grind [Ge,UZ]
 ·unfold E4
  rw[aqB]
  exact(m.rr h).imp (by grind [gu,Ge])
 ·cases m;grind [ml]
 ·cases m;grind [ml]
 cases m;grind [ml]
def lx(lt:Int→Int→Bool)(x:Int):Int→Int→Bool:=fun a b=>decide (a=x) || decide (b=x) || lt a b
theorem Wn(h:lt a b=true):lx lt x a b=true:=by unfold lx;simp[h]
theorem JW(h:lx lt x a b=true)(h1:a≠x)(h2:b≠x):lt a b=true:=by
 unfold lx at h
 grind
structure MK(hm:Int→Int)(lt:Int→Int→Bool)(ch:Int→List Int)(par:Int→Int)(rows:Int→List Int)(W:List Int)(x:Int):Prop where
 w:it hm (lx lt x) ch par rows W
 by_:par x≠ -1→∀d∈ch x,lt (par x) d=true
theorem MK.start(hs:bk lt)(m:it hm lt ch par rows W)(el:∀a b,0<hm a→0<hm b→a≠x→b≠x→lt' a b=lt a b):MK hm lt' ch par rows W x:=by
 have nx:x∉ch x:=fun h=>by have:=m.less h;omega
 refine⟨m.other fun z c hc h=>?_,fun hp d hd=>?_⟩
 ·by_cases h1:z=x
  ·unfold lx;simp[h1]
  ·by_cases h2:c=x
   ·unfold lx;simp[h2]
   ·obtain⟨_,_,h3,h4,_⟩:=m.pr.dn z c hc
    grind [Wn]
 ·have hx:=m.pr.up x _ rfl hp
  obtain⟨_,_,h3,h4,h5⟩:=m.pr.dn _ _ hx
  obtain⟨_,_,h6,h7,h8⟩:=m.pr.dn _ _ hd
  cases hs;grind
theorem MK.up(hs:bk lt)(m:MK hm lt ch par rows W x)(hx:x∈ch p):MK hm lt (Ge ch x p) (JV par x p) (fun h=>(rows h).map (gu x p)) (W.map (gu x p)) x:=by
 have hd:=m.w.pr.dn p x hx
 have rQ:=m.w.less hx
 have dZ:p≠x:=by grind
 have hp:par x=p:=hd.1
 have nx:∀c,c∈ch x→c≠x∧c≠p:=fun c hc=>by
  have:=m.w.less hc
  grind
 refine⟨m.w.swap hx fun z c hc h=>?_,fun hq d U4=>?_⟩
 ·by_cases h1:z=x
  ·cases m;grind [nu,iV,Wn]
  ·by_cases h2:z=p
   ·rw[h2,xw];unfold lx;simp
   ·by_cases h3:c=x
    ·have:=(m.w.pr.dn z c hc).1
     grind
    grind [lx,xw,iV]
 ·have V7:JV par x p x=gu x p (par p):=by unfold JV;rw[nu]
  have Qq:par p≠ -1:=fun e=>hq (by rw[V7,e];exact iV (Ne.symm (m.w.pr.ne hx)) (Ne.symm hd.2.1))
  have SX:=m.w.pr.up p _ rfl Qq
  have sE:=m.w.less SX
  have g1:par p≠x:=by grind
  have g2:par p≠p:=by grind
  rw[V7,iV g1 g2]
  have h1:=JW (m.w.pr.dn _ _ SX).2.2.2.2 g1 dZ
  unfold Ge at U4
  rw[nu]at U4
  have lU:=ml.1 U4
  by_cases e1:d=p
  ·grind
  ·have e2:d≠x:=fun e=>by
    rw[e,nu]at lU
    have:=m.w.less lU
    omega
   rw[iV e2 e1]at lU
   exact hs.tr _ _ _ h1 (JW (m.w.pr.dn p d lU).2.2.2.2 dZ e2)
theorem MK.low(hs:bk lt)(m:MK hm lt ch par rows W x)(hx:x∈ch p)(hl:lt x p=true):∀d∈Ge ch x p x,lt x d=true:=by
 intro d U4
 have rQ:=m.w.less hx
 have dZ:p≠x:=by grind
 unfold Ge at U4
 rw[nu]at U4
 have lU:=ml.1 U4
 by_cases e1:d=p
 ·grind
 ·have e2:d≠x:=fun e=>by
   rw[e,nu]at lU
   have:=m.w.less lU
   omega
  rw[iV e2 e1]at lU
  exact hs.tr _ _ _ hl (JW (m.w.pr.dn p d lU).2.2.2.2 dZ e2)
theorem MK.done(m:MK hm lt ch par rows W x)(h1:∀d∈ch x,lt x d=true)(h2:par x≠ -1→lt (par x) x=true):it hm lt ch par rows W:=by
 refine m.w.other fun z c hc h=>?_
 by_cases e1:z=x
 ·grind
 ·by_cases e2:c=x
  ·obtain⟨d1,d2,_⟩:=m.w.pr.dn z c hc
   grind
  ·exact JW h e1 e2
end
end Go.Proofs.YthpjfeolagohkaaGreat

namespace Go.Proofs.YthpjfeolagohkaaGreat
section
variable {hm hm' : Int → Int} {lt lt' : Int → Int → Bool} {ch : Int → List Int} {par : Int → Int} {au : Int → List Int} {W A : List Int} {nx pv : Int → Int} {x g T y : Int}
theorem Pr.root(q:Pr hm lt ch par)(hs:bk lt){n:Nat}(hn:∀x,0<hm x→0≤x∧x<n):∀ (k:Nat) {x:Int},ND lt n x≤k→0<hm x→∃r,hm r=hm x∧par r= -1∧(r=x∨lt r x=true):=by
 intro k
 induction k with
 |zero=>
  intro x hk hx
  by_cases hp:par x= -1
  ·grind
  ·obtain⟨_,_,h3,h4,h5⟩:=q.dn _ _ (q.up x _ rfl hp)
   have:=EY hs (n:=n) (hn _ (by omega)) h5
   omega
 |succ k ih=>
  intro x hk hx
  by_cases hp:par x= -1
  ·grind
  ·obtain⟨_,_,h3,h4,h5⟩:=q.dn _ _ (q.up x _ rfl hp)
   have:=EY hs (n:=n) (hn _ (by omega)) h5
   cases hs;grind
theorem Pr.lead(q:Pr hm lt ch par)(hs:bk lt){n:Nat}(hn:∀x,0<hm x→0≤x∧x<n)(hg:0<g)(h:∀c,hm c=g→par c= -1→T≠ -1∧(c≠T→lt T c=true))(hy:hm y=g):T≠ -1∧(y≠T→lt T y=true):=by
 obtain⟨r,r1,r2,r3⟩:=q.root hs hn _ (aoB _) (x:=y) (by omega)
 cases hs;grind
theorem dV.ab1(m:dV hm lt nx ch par au W)(hi:Bb nx pv)(hr:au g=x::A):dV hm lt (uP nx x (pv x)) ch par (ax au g A) (x::W):=by
 have hc:=m.rc g
 rw[hr]at hc
 rcases List.eq_nil_or_concat A with h| ⟨B,y,h⟩
 ·subst h
  have h1:nx x=x:=hc
  have h2:pv x=x:=by
   have:=hi.pn x
   grind
  rw[h2,Md]
  exact m.abZ hr
 ·rw[List.concat_eq_append]at h
  subst h
  have h2:pv x=y:=qe.last (A:=B) hi hc
  rw[h2]
  have m2:=m.abY (A:=B) (y:=y) hr
  have h3:=m2.wW (g:=g) (l:=B++[y]) (by
   unfold ax
   grind) (by
   have:=m2.rc g
   grind [ax,qe.rot])
  rwa[eD]at h3
theorem dV.from_(m:dV hm lt nx ch par au W)(hx:x∈au g):∃A,(au g).Perm (x::A)∧dV hm lt nx ch par (ax au g (x::A)) W:=by
 obtain⟨A,h1,h2⟩:=(m.rc g).from hx
 exact⟨A,h1,m.wW h1 h2⟩
end
end Go.Proofs.YthpjfeolagohkaaGreat

namespace Go.Proofs.YthpjfeolagohkaaGreat
section
variable {hm : Int → Int} {ch : Int → List Int} {a b now out : List Int} {c g p q x y : Int} {k ia ib io : Nat}
structure ny(hm:Int→Int)(ch:Int→List Int)(g:Int)(k ia ib io:Nat)(a b now out:List Int):Prop where
 ra:E4 ch a
 rb:E4 ch b
 ro:E4 ch out
 ka:∀c∈a,ia≤(ch c).length
 kb:∀c∈b,ib≤(ch c).length
 kn:∀c∈now,(ch c).length=k
 ko:∀c∈out,(ch c).length<io
 hg:∀c,c∈a∨c∈b∨c∈now∨c∈out→hm c=g
theorem ny.ab2(h:ny hm ch g k k ib io (c::a) b now out)(e:(ch c).length=k):ny hm ch g k (k+1) ib io a b (now++[c]) out:=by
 have hr:=apw.1 h.ra
 refine⟨hr.2,h.rb,h.ro,fun d hd=>?_,h.kb,fun d hd=>?_,h.ko,fun d hd=>?_⟩
 ·grind
 ·cases h;grind
 ·refine h.hg d ?_
  grind
theorem ny.Me(h:ny hm ch g k ia k io a (c::b) now out)(e:(ch c).length=k):ny hm ch g k ia (k+1) io a b (now++[c]) out:=by
 have hr:=apw.1 h.rb
 refine⟨h.ra,hr.2,h.ro,h.ka,fun d hd=>?_,fun d hd=>?_,h.ko,fun d hd=>?_⟩
 ·grind
 ·cases h;grind
 ·refine h.hg d ?_
  grind
theorem ny.Wo(h:ny hm ch g k k ib io a b now out)(e:∀c,a.head? =some c→(ch c).length≠k):ny hm ch g k (k+1) ib io a b now out:=by
 refine⟨h.ra,h.rb,h.ro,fun d hd=>?_,h.kb,h.kn,h.ko,h.hg⟩
 cases a with
 |nil=>cases hd
 |cons c a=>
  have h1:=e c rfl
  have h2:=h.ka c (by simp)
  rcases apa.1 hd with rfl|hd
  ·omega
  ·have:=(apw.1 h.ra).1 d hd;omega
theorem ny.Wp(h:ny hm ch g k ia k io a b now out)(e:∀c,b.head? =some c→(ch c).length≠k):ny hm ch g k ia (k+1) io a b now out:=by
 refine⟨h.ra,h.rb,h.ro,h.ka,fun d hd=>?_,h.kn,h.ko,h.hg⟩
 cases b with
 |nil=>cases hd
 |cons c b=>
  have h1:=e c rfl
  have h2:=h.kb c (by simp)
  rcases apa.1 hd with rfl|hd
  ·omega
  ·have:=(apw.1 h.rb).1 d hd;omega
theorem ny.af3(h:ny hm ch g k ia ib k a b (c::now) out):ny hm ch g k ia ib (k+1) a b now (out++[c]):=by
 have hc:=h.kn c (by simp)
 refine⟨h.ra,h.rb,?_,h.ka,h.kb,fun d hd=>h.kn d (by simp[hd]),fun d hd=>?_,fun d hd=>h.hg d ?_⟩
 ·unfold E4
  rw[aqw]
  refine⟨h.ro,by simp,fun u hu v hv=>?_⟩
  cases h;grind
 ·cases h;grind
 grind
theorem ny.ab3(h:ny hm ch g k (k+1) (k+1) io a b [] out)(hio:io≤k+1):ny hm ch g (k+1) (k+1) (k+1) (k+1) a b [] out:=
 ⟨h.ra,h.rb,h.ro,h.ka,h.kb,by simp,fun c hc=>by have:=h.ko c hc;omega,h.hg⟩
theorem ny.ab4(h:ny hm ch g k (k+1) (k+1) io a b [x,y] out)(hio:io≤k+1)(hp:p=x∨p=y)(hn:p∉a∧p∉b∧p∉out):ny hm (ax ch p (ch p++[q])) g (k+1) (k+1) (k+1) (k+1) a b [p] out:=by
 have ne:∀c,c≠p→ax ch p (ch p++[q]) c=ch c:=by grind [ax]
 have na:ax ch p (ch p++[q]) p=ch p++[q]:=by unfold ax;grind
 have fa:∀c∈a,ax ch p (ch p++[q]) c=ch c:=by grind
 have fb:∀c∈b,ax ch p (ch p++[q]) c=ch c:=by grind
 have fo:∀c∈out,ax ch p (ch p++[q]) c=ch c:=by grind
 have tC:p∈[x,y]:=by grind
 refine⟨h.ra.frame (by grind),h.rb.frame (by grind),h.ro.frame (by grind),fun c hc=>by rw[fa c hc];exact h.ka c hc,fun c hc=>by rw[fb c hc];exact h.kb c hc,fun c hc=>?_,fun c hc=>?_,fun c hc=>h.hg c ?_⟩
 ·cases h;grind
 ·cases h;grind
 grind
end
end Go.Proofs.YthpjfeolagohkaaGreat
