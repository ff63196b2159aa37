/- Texts put behind each other. -/
import Derived.Test.YthpjfeolagohkaaGreatK98
import Derived.Test.YthpjfeolagohkaaGreatK8
set_option maxRecDepth 100000
set_option maxHeartbeats 8000000
set_option linter.unusedVariables false
set_option linter.unusedSimpArgs false
namespace Go.Vc
section
variable {P : Program} {o : Oper} {a : Act} {ev : Ev} {H : Hp} {K : Value → Hp → Prop}
theorem rO{place:Nat→Option (Nat×Nat)}{Kq:Nat}:∀ (ps:List (Nat×Operand)) (qs:List (Nat×Nat×Operand)),jK place Kq ps=some qs→
  ps.length=qs.length∧∀ (j i:Nat) (x:Operand),ps[j]? =some (i,x)→∃off size:Nat,qs[j]? =some (off,size,x)∧place i=some (off,size)∧off+size≤Kq:=by
 intro ps
 induction ps with
 |nil=>intro qs h;simp only[jK,aoz]at h;subst h;simp
 |cons p ps ih=>
  intro qs h
  obtain⟨i,x⟩:=p
  unfold jK at h
  split at h
  ·cases h
  ·rename_i off size MU
   split at h
   ·rename_i rS
    cases hr:jK place Kq ps with
    |none=>rw[hr]at h;cases h
    |some qs'=>
     rw[hr]at h
     simp only[Option.map_some,aoz]at h
     subst h
     obtain⟨h1,h2⟩:=ih qs' hr
     refine⟨by simp[h1],fun j i' x' hj=>?_⟩
     cases j with
     |zero=>
      simp only[ao2,aoz,Prod.mk.injEq]at hj
      obtain⟨rfl,rfl⟩:=hj
      exact⟨off,size,rfl,MU,rS⟩
     |succ j=>exact h2 j i' x' (by simpa using hj)
   ·cases h
theorem MB(fs:List Field)(h:∀f∈fs,(P.info? f.type).isSome=true)(w:World):
  (fs.mapM fun f=>(do pure (f.offset,←sizeOf f.type):Sem (Nat×Nat))).run P w= .ok (fs.map fun f=>(f.offset,P.cellsOf f.type)) w:=by
 induction fs with
 |nil=>rfl
 |cons f fs ih=>
  rw[List.mapM_cons]
  simp only[Sem.run_bind,bD (h f apC),Result.andThen_ok,Sem.run_pure,ih fun g hg=>h g (apd _ hg),apg]
theorem BN(ps:Array (Nat×Operand)):(ps.map fun(i,x)=>(i,a.eval x)).toList=ps.toList.map fun(i,x)=>(i,a.eval x):=by simp
theorem M2{t:TypeId}{z:Value}{ps:Array (Nat×Operand)}{qs:List (Nat×Nat×Operand)}(bz:bK ev a)(ho:o.op= .build t ps)(hz:fj P t=some z)
  (hq:parts P t (aF z).length ps.toList=some qs)(h:(de.build (aF z) qs).vc P ev H K):dS P o a H K:=by
 have MX:z.cells.toList=aF z:=eo z
 have OG:z.cells.size=(aF z).length:=by rw[←MX];simp
 unfold parts at hq
 split at hq
 ·rename_i fields hu
  split at hq
  ·rename_i hk
   obtain⟨h1,h2⟩:=rO _ _ hq
   obtain⟨z',hf,Qf⟩:=fill_eq (a:=a) (ev:=ev) (place:=((placeOf P fields)[·]?)) ps.toList qs z.cells (fun l=>K (.agg l.toArray) H) h1
    (fun j i x hj=>by obtain⟨off,size,e1,e2,e3⟩:=h2 j i x hj;exact⟨off,size,e1,e2,by omega⟩) bz (by rw[MX];exact h)
   refine⟨.agg z',fun w=>?_,by simpa using Qf⟩
   have MU:(fields.mapM fun f=>(do pure (f.offset,←sizeOf f.type):Sem (Nat×Nat))).run P w= .ok (placeOf P fields) w:=by
    rw[Array.mapM_eq_mapM_toList,Sem.run_map,MB fields.toList (fun f hf=>by
     have:=(apX.1 hk) f (by simpa using hf);exact this) w]
    simp only[Result.andThen_ok]
    congr 1
    apply Array.ext'
    simp[placeOf]
   simp only[execOp,ho,Instr.build,Sem.run_bind,cF hz,ak hu,Result.andThen_ok,MU,BN,hf,Sem.run_pure]
  ·cases hq
 ·rename_i n e hu
  split at hq
  ·rename_i hi
   obtain⟨h1,h2⟩:=rO _ _ hq
   obtain⟨z',hf,Qf⟩:=fill_eq (a:=a) (ev:=ev) (place:=fun i=>some (i*P.cellsOf e,P.cellsOf e)) ps.toList qs z.cells (fun l=>K (.agg l.toArray) H) h1
    (fun j i x hj=>by obtain⟨off,size,e1,e2,e3⟩:=h2 j i x hj;exact⟨off,size,e1,e2,by omega⟩) bz (by rw[MX];exact h)
   refine⟨.agg z',fun w=>?_,by simpa using Qf⟩
   simp only[execOp,ho,Instr.build,Sem.run_bind,cF hz,ak hu,Result.andThen_ok,bD hi,BN,hf,Sem.run_pure]
  ·cases hq
 ·cases hq
theorem zM{z:Array Value}{n size:Nat}(hs:z.size=size)(h0:size≠0):((Array.range (n*size)).map (z[· %z.size]!)).toList=ce z.toList n:=by
 subst hs
 induction n with
 |zero=>simp[ce]
 |succ n ih=>
  apply ao7
  intro i
  have hp:ce z.toList (n+1)=ce z.toList n++z.toList:=by simp[ce,apv]
  have aR:(ce z.toList n).length=n*z.size:=by rw[←ih];simp
  rw[hp]
  by_cases hi:i<n*z.size
  ·rw[aoF (by omega),←ih]
   have:i< (n+1)*z.size:=by rw[apy];omega
   simp[hi,this]
  ·rw[aoP (by omega),aR]
   by_cases jB:i< (n+1)*z.size
   ·have rR:i - n*z.size<z.size:=by rw[apy]at jB;omega
    have Qg:i%z.size=i - n*z.size:=by
     have e:i=(i - n*z.size)+z.size*n:=by rw[aqA z.size n];omega
     rw[e,Nat.add_mul_mod_self_left,Nat.mod_eq_of_lt rR]
     rw[aqA z.size n];omega
    simp[jB,Qg,rR]
   ·have:z.size≤i - n*z.size:=by rw[apy]at jB;omega
    simp[jB,this]
theorem tP(z:List Value)(n:Nat):(ce z n).length=n*z.length:=by simp[ce]
theorem RW{t e:TypeId}{n:Nat}{z:Value}{ps:Array (Nat×Operand)}{qs:List (Nat×Nat×Operand)}(bz:bK ev a)(ho:o.op= .buildSlice t n ps)(ht:P.underlying t=some (.slice e))
  (hz:fj P e=some z)(hi:(P.info? e).isSome=true)(h0:P.cellsOf e≠0)(hl:(aF z).length=P.cellsOf e)(hm:n*P.cellsOf e≤2^24)
  (hq:jK (fun i=>some (i*P.cellsOf e,P.cellsOf e)) (n*P.cellsOf e) ps.toList=some qs)(h:(de.lit e n (ce (aF z) n) qs).vc P ev H K):dR P o a H K:=by
 have MX:z.cells.toList=aF z:=eo z
 have OG:z.cells.size=P.cellsOf e:=by rw[←hl,←MX];simp
 intro w hw
 subst hw
 obtain⟨h1,h2⟩:=rO _ _ hq
 have QU:∀ (zz:Array Value),(n*P.cellsOf e=0∨zz=z.cells)→((Array.range (n*P.cellsOf e)).map (zz[· %zz.size]!)).toList=ce (aF z) n:=by
  intro zz Zy
  rcases Zy with Zy|rfl
  ·have:n=0:=by
    rcases Nat.mul_eq_zero.1 Zy with h|h
    ·exact h
    ·exact absurd h h0
   subst this
   simp[ce]
  ·rw[zM OG h0,MX]
 have main:∀zz:Array Value,(n*P.cellsOf e=0∨zz=z.cells)→∃z':Array Value,Instr.fill (fun i=>some (i*P.cellsOf e,P.cellsOf e)) ((Array.range (n*P.cellsOf e)).map (zz[· %zz.size]!)) (ps.toList.map fun(i,x)=>(i,a.eval x))=some z'∧
   K (.slice (some ⟨w.heap.size,0,none⟩) n n) (Hp.new w.heap e z'.toList):=by
  intro zz Zy
  exact fill_eq (a:=a) (ev:=ev) ps.toList qs _ (fun l=>K (.slice (some ⟨w.heap.size,0,none⟩) n n) (Hp.new w.heap e l)) h1
   (fun j i x hj=>by obtain⟨off,size,e1,e2,e3⟩:=h2 j i x hj;exact⟨off,size,e1,e2,by simpa using e3⟩) bz (by rw[QU zz Zy];exact h)
 by_cases hn:n*P.cellsOf e=0
 ·obtain⟨z',hf,hk⟩:=main #[] (.inl hn)
  refine .inl ⟨.slice (some ⟨w.heap.size,0,none⟩) n n,{w with heap:=Hp.new w.heap e z'.toList},?_,⟨rfl,rfl⟩,hk⟩
  simp only[execOp,ho,Instr.buildSlice,Sem.run_bind,ak ht,bD hi,Result.andThen_ok]
  rw[if_neg (by omega),if_pos hn]
  simp only[Sem.run_pure,Result.andThen_ok,Sem.run_bind,BN,hf,jS]
 ·obtain⟨z',hf,hk⟩:=main z.cells (.inr rfl)
  refine .inl ⟨.slice (some ⟨w.heap.size,0,none⟩) n n,{w with heap:=Hp.new w.heap e z'.toList},?_,⟨rfl,rfl⟩,hk⟩
  simp only[execOp,ho,Instr.buildSlice,Sem.run_bind,ak ht,bD hi,Result.andThen_ok]
  rw[if_neg (by omega),if_neg hn]
  simp only[Sem.run_pure,Result.andThen_ok,Sem.run_bind,cF hz,BN,hf,jS]
theorem RV{t:TypeId}{x:Operand}(bz:bK ev a)(ho:o.op= .box t x)(h:(de.box t x).vc P ev H K):dR P o a H K:=by
 intro w hw
 subst hw
 have h:=aT bz h
 refine .inl ⟨_,{w with heap:=Hp.new w.heap t (aF (a.eval x))},?_,⟨rfl,rfl⟩,h⟩
 simp[execOp,ho,Instr.box,DQ]
theorem PF{t:TypeId}{z:Value}(hz:fj P t=some z)(ho:o.op= .alloc t)(h:(de.zero t (aF z)).vc P ev H K):dR P o a H K:=by
 intro w hw
 subst hw
 refine .inl ⟨_,{w with heap:=Hp.new w.heap t (aF z)},?_,⟨rfl,rfl⟩,h⟩
 simp[execOp,ho,Instr.alloc,DQ,cF hz]
theorem M4{t:TypeId}{x:Operand}(bz:bK ev a)(ho:o.op= .load t x)(hi:(P.info? t).isSome=true)(hu:(P.underlying t).isSome=true)(hg:eK P t=false)
  (h:(de.aw x).vc P ev H K):dR P o a H K:=by
 intro w hw
 subst hw
 obtain⟨b,off,hx,h⟩:=eZ (aT bz h)
 obtain⟨l,hl,h⟩:=az h
 obtain⟨v,hv,h⟩:=az h
 refine .inl ⟨v,w,?_,bW.refl w,h⟩
 simp[execOp,ho,Instr.loadAt,hx,Instr.sureAddr,(iz hi hu hl).2 hg v hv]
theorem M3{t:TypeId}{x:Operand}(bz:bK ev a)(ho:o.op= .load t x)(hi:(P.info? t).isSome=true)(hu:(P.underlying t).isSome=true)(hg:eK P t=true)
  (h:(de.rT (P.cellsOf t) x).vc P ev H K):dR P o a H K:=by
 intro w hw
 subst hw
 obtain⟨b,off,hx,h⟩:=eZ (aT bz h)
 obtain⟨l,hl,h⟩:=az h
 obtain⟨hn,h⟩:=h.out
 refine .inl ⟨_,w,?_,bW.refl w,h⟩
 simp only[execOp,ho,Instr.loadAt,hx,Instr.sureAddr,Sem.run_bind,Sem.run_pure,Result.andThen_ok,(iz hi hu hl).1 hg hn]
theorem M5{t:TypeId}{x y:Operand}(bz:bK ev a)(ho:o.op= .store t x y)(hi:(P.info? t).isSome=true)(h0:P.cellsOf t≠0)
  (h:(de.store (P.cellsOf t) x y).vc P ev H K):dR P o a H K:=by
 intro w hw
 subst hw
 obtain⟨b,off,hx,h⟩:=eZ (aT bz h)
 obtain⟨l,hl,h⟩:=az (aT bz h)
 obtain⟨h1,h⟩:=h.out
 obtain⟨h2,h⟩:=h.out
 obtain⟨h3,h⟩:=h.out
 obtain⟨w',hr,hs,hh⟩:=Iu (v:=a.eval y) hi h0 hl h1 (Q1 h2) h3
 refine .inr (.inl ⟨w',?_,hs,hh▸h⟩)
 simp[execOp,ho,Instr.storeAt,hx,Instr.sureAddr,hr]
theorem KZ{t:TypeId}(ho:o.op= .makeMap t none)(h:de.Ox.vc P ev H K):dR P o a H K:=by
 intro w hw
 subst hw
 refine .inl ⟨_,{w with heap:=Hp.fh w.heap},?_,⟨rfl,rfl⟩,h⟩
 simp only[execOp,ho,Option.map_none,Instr.makeMap,Sem.run_bind,Sem.run_pure,Result.andThen_ok,run_newObj,Hp.fh]
theorem wrap_i64{n:Int}(h0:0≤n)(h1:n≤2^62):IntKind.i64.wrap n=n:=by
 have e:(2^IntKind.i64.bits:Int)=18446744073709551616:=rfl
 have e':(2^ (IntKind.i64.bits - 1):Int)=9223372036854775808:=rfl
 unfold IntKind.wrap
 simp only[e,e',IntKind.signed,aqD,ao0]
 split<;>omega
theorem Fk{t e:TypeId}{z:Value}{x y:Operand}(bz:bK ev a)(ho:o.op= .makeSlice t x y)(ht:P.underlying t=some (.slice e))(hz:fj P e=some z)
  (hi:(P.info? e).isSome=true)(h0:P.cellsOf e≠0)(hl:(aF z).length=P.cellsOf e)(h:(de.makeSlice e (P.bytesOf e) (P.cellsOf e) (aF z) x y).vc P ev H K):dR P o a H K:=by
 intro w hw
 subst hw
 have h:=aT bz (aT bz h)
 obtain⟨k,n,hx,h⟩:=gX h
 obtain⟨k',c,hy,h⟩:=gX h
 obtain⟨⟨h1,h2,h3,h4⟩,h⟩:=h.out
 refine .inl ⟨_,{w with heap:=Hp.new w.heap e (ce (aF z) c.toNat)},?_,⟨rfl,rfl⟩,h⟩
 obtain⟨i,hi'⟩:=Option.isSome_iff_exists.1 hi
 have hb:i.bytes=P.bytesOf e:=by simp[Program.bytesOf,hi']
 have MX:z.cells.toList=aF z:=eo z
 have OG:z.cells.size=P.cellsOf e:=by rw[←hl,←MX];simp
 have w1:=wrap_i64 h1 (by omega:n≤2^62)
 have w2:=wrap_i64 (by omega:0≤c) (by omega:c≤2^62)
 simp only[execOp,ho,Instr.makeSlice,Sem.run_bind,ak ht,Result.andThen_ok,hx,hy,asInt,asIntOf,Sem.run_pure,dX hi',hb,w1,w2,run_askRoom,bD hi]
 have t1:(decide (c<0) || decide ((P.bytesOf e:Int)*c>2^48))=false:=by simp;omega
 rw[if_neg (by simp only[t1,apJ,false_or,Bool.or_eq_true,ao0];omega)]
 simp only[Sem.run_bind,run_askRoom,Result.andThen_ok,bD hi]
 by_cases hn:c.toNat*P.cellsOf e=0
 ·have nE:c.toNat=0:=by rcases Nat.mul_eq_zero.1 hn with h|h;exact h;exact absurd h h0
  rw[if_pos hn]
  simp only[nE,ao6,Sem.run_bind,Sem.run_pure,Result.andThen_ok,jS]
  simp[ce]
 ·rw[if_neg hn]
  simp only[Sem.run_bind,cF hz,Sem.run_pure,Result.andThen_ok,jS,zM OG h0,MX]
theorem EU{H:Hp}{b:Nat}{x:List MapEntry×Nat}(h:H.mp b=some x):∃es:Array MapEntry,H[b]? =some (.map es x.2)∧es.toList=x.1:=by
 unfold Hp.mp at h
 split at h
 ·rename_i es k hb;injection h with h;exact⟨es,by rw[hb,←h],by rw[←h]⟩
 ·cases h
theorem nT{w:World}{b:Nat}{es:Array MapEntry}{k:Nat}(h:w.heap[b]? =some (.map es k)):(getObj b).run P w= .ok (.map es k) w:=by simp[getObj,Sem.run,h]
theorem nU{w:World}{b:Nat}{es VZ:Array MapEntry}{k k':Nat}(h:w.heap[b]? =some (.map es k)):
  (setObj b (.map VZ k')).run P w= .ok () {w with heap:=Hp.Du w.heap b VZ.toList k'}:=by
 simp[setObj,Sem.run,h,Hp.Du]
theorem sB{t:TypeId}{s:Shape}(h:ck P t=some s)(hs:∀fs,s≠ .s fs):shapeOf P eJ t=some s∧jM s=true:=by
 unfold ck at h
 split at h
 ·injection h with h;subst h;simp[shapeOf,eJ, *,jM]
 ·injection h with h;subst h;simp[shapeOf,eJ, *,jM]
 ·injection h with h;subst h;simp[shapeOf,eJ, *,jM]
 ·split at h
  ·split at h
   ·injection h with h;exact absurd h.symm (hs _)
   ·cases h
  ·cases h
 ·cases h
theorem GR{t:TypeId}{s:Shape}(h:ck P t=some s):shapeOf P eJ t=some s:=by
 by_cases hs:∃fs,s= .s fs
 ·obtain⟨fs,rfl⟩:=hs
  unfold ck at h
  split at h
  ·cases h
  ·cases h
  ·cases h
  ·split at h
   ·split at h
    ·injection h with h;injection h with h;subst h;assumption
    ·cases h
   ·cases h
  ·cases h
 ·exact(sB h fun fs e=>hs ⟨fs,e⟩).1
theorem sC{d:Nat}{t:TypeId}{s:Shape}(h:shapeOf P d t=some s)(hk:jM s=true)(v:Value)(e:Bool)(n:Nat)(w:World):(Instr.checkKey e (n+1) t v).run P w= .ok () w:=by
 cases d with
 |zero=>simp[shapeOf]at h
 |succ d=>
  rw[fX]at h
  split at h
  ·injection h with h;subst h;simp[Instr.checkKey,ak ‹P.underlying t=_›]
  ·injection h with h;subst h;simp[Instr.checkKey,ak ‹P.underlying t=_›]
  ·injection h with h;subst h;simp[Instr.checkKey,ak ‹P.underlying t=_›]
  case h_9=>
   split at h
   ·cases h
   ·rename_i fs _ _
    cases hr:eY P d fs.toList with
    |none=>rw[hr]at h;cases h
    |some l=>rw[hr]at h;injection h with h;subst h;simp[jM]at hk
  all_goals first| (cases h;done)| (injection h with h;subst h;simp[jM]at hk)
theorem ES{d:Nat}(e:Bool)(n:Nat)(xs:List Value):∀ (fs:List Field) (l:List (Nat×Option Nat×Shape)),eY P d fs=some l→
  (l.all fun(off,agg,sh)=>agg.isNone && jM sh)=true→(∀q∈l,(xs[q.1]?).isSome=true)→∀w:World,
  (forIn fs PUnit.unit fun f (_:PUnit)=>(do
   if f.name≠ "_" then Instr.checkKey e (n+1) f.type (←part f.type xs.toArray f.offset)
   pure (ForInStep.yield PUnit.unit):Sem (ForInStep PUnit))).run P w= .ok PUnit.unit w:=by
 intro fs
 induction fs with
 |nil=>intro l _ _ _ w;simp
 |cons f fs ih=>
  intro l hl ha hx w
  rw[oY]at hl
  split at hl
  ·cases hl
  ·rename_i TO
   split at hl
   ·cases hl
   ·rename_i sh zb
    cases hr:eY P d fs with
    |none=>rw[hr]at hl;cases hl
    |some l'=>
     rw[hr]at hl
     simp only[Option.map_some,aoz]at hl
     subst hl
     rw[List.all_cons]at ha
     simp only[apf]at ha
     obtain⟨⟨h1,h2⟩,h3⟩:=ha
     have ahS:eK P f.type=false:=by
      cases hb:eK P f.type
      ·rfl
      ·simp[hb]at h1
     obtain⟨v,hv⟩:=Option.isSome_iff_exists.1 (hx _ apC)
     have hu:(P.underlying f.type).isSome=true:=by
      cases d with
      |zero=>simp[shapeOf]at zb
      |succ d=>rw[fX]at zb;split at zb<;>first| (cases zb;done)|simp_all
     have hp:=vC (P:=P) (l:=xs) (t:=f.type) (off:=f.offset) (v:=v) (info_of_underlying hu) hu (by rw[ahS];simpa[uM]using hv) w
     simp only[List.forIn_cons,TO,ne_eq,not_false_eq_true,if_true,Sem.run_bind,hp,Result.andThen_ok,sC zb h2,Sem.run_pure]
     exact ih l' hr h3 (fun q hq=>hx q (apd _ hq)) w
theorem GS{t:TypeId}{s:Shape}{k:Value}(h:ck P t=some s)(hk:Br s k=true)(e:Bool)(n:Nat)(w:World):(Instr.checkKey e (n+1+1) t k).run P w= .ok () w:=by
 by_cases hs:∃fs,s= .s fs
 ·obtain⟨l,rfl⟩:=hs
  have h':=h
  unfold ck at h
  split at h
  ·cases h
  ·cases h
  ·cases h
  ·rename_i fs hu
   split at h
   ·split at h
    ·rename_i l' zb dJ
     injection h with h;injection h with h;subst h
     cases k with
     |agg xs=>
      simp only[show eJ=7+1 from rfl,fX,hu]at zb
      split at zb
      ·cases zb
      ·cases hr:eY P 7 fs.toList with
       |none=>rw[hr]at zb;cases zb
       |some l=>
        rw[hr]at zb
        simp only[Option.map_some,aoz,Shape.s.injEq]at zb
        subst zb
        rw[Instr.checkKey]
        simp only[Sem.run_bind,ak hu,Result.andThen_ok]
        rw[←Array.forIn_toList]
        have:=ES (P:=P) e n xs.toList fs.toList l hr dJ (fun q hq=>by
         have h1:=(apF.1 hk) q hq
         obtain⟨off,agg,sh⟩:=q
         simp only[apf]at h1
         have h2:=h1.2
         cases hx:(xs.toList)[off]? with
         |none=>rw[show xs[off]? =none by simpa using hx]at h2;cases sh<;>simp at h2
         |some v=>rfl) w
        simp only[ap5]at this
        rw[this]
        rfl
     |_=>simp[Br]at hk
    ·cases h
   ·cases h
  ·cases h
 ·obtain⟨h1,h2⟩:=sB h fun fs e=>hs ⟨fs,e⟩
  exact sC h1 h2 k e (n+1) w
theorem gI{t:TypeId}{s:Shape}{k:Value}(h:ck P t=some s)(hk:Br s k=true)(e:Bool)(w:World):(Instr.checkKey e 10000 t k).run P w= .ok () w:=
 GS h hk e 9998 w
theorem GU{t:TypeId}{s:Shape}{k:Value}(h:shapeOf P eJ t=some s):∀ (es:List MapEntry) (i:Nat) (r:Option (Nat×Value)),fF s k es i=some r→∀w:World,
  (Instr.findAsking t k es i).run P w= .ok r w:=by
 intro es
 induction es with
 |nil=>intro i r hr w;simp only[fF,aoz]at hr;subst hr;rfl
 |cons e es ih=>
  intro i r hr w
  unfold fF at hr
  have he:∀b,qu s k e.key=some b→(Op.equal t k e.key).run P w= .ok b w:=by
   intro b hb
   unfold Op.equal Op.maxDepth
   have:=(BM (P:=P) eJ).1 t s k e.key b h hb (10000 - eJ) w
   simpa[eJ]using this
  split at hr
  ·rename_i hb
   injection hr with hr;subst hr
   simp[Instr.findAsking,he true hb]
  ·rename_i hb
   simp[Instr.findAsking,he false hb,ih (i+1) r hr w]
  ·cases hr
theorem Dq{d:TypeDesc}{s:Shape}{k:Value}(hd:(∃q,d= .int q∧s= .int)∨(d= .string∧s= .str)∨(d= .bool∧s= .bool)):∀ (es:List MapEntry) (i:Nat) (r:Option (Nat×Value)),
  fF s k es i=some r→Instr.findNow d k es i=some r:=by
 intro es
 induction es with
 |nil=>intro i r hr;simpa[fF,Instr.findNow]using hr
 |cons e es ih=>
  intro i r hr
  unfold fF at hr
  unfold Instr.findNow
  have O5:∀b,qu s k e.key=some b→Instr.sameNow d k e.key=some b:=by
   intro b hb
   rcases hd with ⟨q,rfl,rfl⟩| ⟨rfl,rfl⟩| ⟨rfl,rfl⟩
   ·cases k<;>cases hk:e.key<;>simp only[hk,qu,bq]at hb<;>first| (cases hb;done)|skip
    exact hb
   ·cases k<;>cases hk:e.key<;>simp only[hk,qu,bq]at hb<;>first| (cases hb;done)|skip
    simpa[Instr.sameNow,beq_toListBytes]using hb
   ·cases k<;>cases hk:e.key<;>simp only[hk,qu,bq]at hb<;>first| (cases hb;done)|skip
    simpa[Instr.sameNow]using hb
  split at hr
  ·rename_i hb;rw[O5 true hb];exact hr
  ·rename_i hb;rw[O5 false hb];exact ih _ _ hr
  ·cases hr
theorem iw{t:TypeId}{s:Shape}{k:Value}{es:List MapEntry}{r:Option (Nat×Value)}(h:ck P t=some s)(hr:fF s k es 0=some r)(w:World):
  (Instr.findKey t k es).run P w= .ok r w:=by
 have zb:=GR h
 unfold Instr.findKey
 have hu:∃d,P.underlying t=some d:=by
  unfold ck at h
  split at h<;>first|exact⟨_, ‹_›⟩|cases h
 obtain⟨d,hu⟩:=hu
 simp only[Sem.run_bind,ak hu,Result.andThen_ok]
 by_cases hs:∃fs,s= .s fs
 ·obtain⟨l,rfl⟩:=hs
  have hd:∃fs,d= .struct fs:=by
   unfold ck at h
   rw[hu]at h
   split at h
   ·cases h
   ·cases h
   ·cases h
   ·rename_i he;injection he with he;exact⟨_,he⟩
   ·cases h
  obtain⟨fs,rfl⟩:=hd
  cases es with
  |nil=>simp only[fF,aoz]at hr;subst hr;rfl
  |cons e es=>
   have:Instr.findNow (.struct fs) k (e::es) 0=none:=by simp[Instr.findNow,Instr.sameNow]
   rw[this]
   exact GU zb _ _ _ hr w
 ·have hd:(∃q,d= .int q∧s= .int)∨(d= .string∧s= .str)∨(d= .bool∧s= .bool):=by
   unfold ck at h
   rw[hu]at h
   split at h
   ·rename_i q he;injection he with he;injection h with h;exact .inl ⟨q,he,h.symm⟩
   ·rename_i he;injection he with he;injection h with h;exact .inr (.inl ⟨he,h.symm⟩)
   ·rename_i he;injection he with he;injection h with h;exact .inr (.inr ⟨he,h.symm⟩)
   ·split at h
    ·split at h
     ·injection h with h;exact absurd ⟨_,h.symm⟩ hs
     ·cases h
    ·cases h
   ·cases h
  rw[Dq hd es 0 r hr]
  rfl
end
end Go.Vc
