/- Texts put behind each other. -/
import Derived.Test.YthpjfeolagohkaaGreatK98
import Derived.Test.YthpjfeolagohkaaGreatK8
set_option maxRecDepth 100000
set_option maxHeartbeats 8000000
set_option linter.unusedVariables false
set_option linter.unusedSimpArgs false
namespace Go.Vc
section
variable {P : Program} {o : Oper} {a : Act} {ev : Ev} {H : Hp} {K : Value → Hp → Prop}
theorem te{place:Nat→Option (Nat×Nat)}{Ld:Nat}:∀ (ps:List (Nat×Operand)) (qs:List (Nat×Nat×Operand)),kw place Ld ps=some qs→
  ps.length=qs.length∧∀ (j i:Nat) (x:Operand),ps[j]? =some (i,x)→∃off size:Nat,qs[j]? =some (off,size,x)∧place i=some (off,size)∧off+size≤Ld:=by
 intro ps
 induction ps with
 |nil=>intro qs h;simp only[kw,aqk]at h;subst h;simp
 |cons p ps ih=>
  intro qs h
  obtain⟨i,x⟩:=p
  unfold kw at h
  split at h
  ·cases h
  ·rename_i off size RO
   split at h
   ·rename_i oP
    cases hr:kw place Ld ps with
    |none=>rw[hr]at h;cases h
    |some qs'=>
     rw[hr]at h
     simp only[Option.map_some,aqk]at h
     subst h
     obtain⟨h1,h2⟩:=ih qs' hr
     refine⟨by simp[h1],fun j i' x' hj=>?_⟩
     cases j with
     |zero=>
      simp only[aqE,aqk,Prod.mk.injEq]at hj
      obtain⟨rfl,rfl⟩:=hj
      exact⟨off,size,rfl,RO,oP⟩
     |succ j=>exact h2 j i' x' (by simpa using hj)
   ·cases h
theorem Nj(fs:List Field)(h:∀f∈fs,(P.info? f.type).isSome=true)(w:World):
  (fs.mapM fun f=>(do pure (f.offset,←sizeOf f.type):Sem (Nat×Nat))).run P w= .ok (fs.map fun f=>(f.offset,P.cellsOf f.type)) w:=by
 induction fs with
 |nil=>rfl
 |cons f fs ih=>
  rw[List.mapM_cons]
  simp only[Sem.run_bind,bL (h f aq9),Result.andThen_ok,Sem.run_pure,ih fun g hg=>h g (aq1 _ hg),aqY]
theorem CE(ps:Array (Nat×Operand)):(ps.map fun(i,x)=>(i,a.eval x)).toList=ps.toList.map fun(i,x)=>(i,a.eval x):=by simp
theorem NG{t:TypeId}{z:Value}{ps:Array (Nat×Operand)}{qs:List (Nat×Nat×Operand)}(bJ:bT ev a)(ho:o.op= .build t ps)(hz:fO P t=some z)
  (hq:parts P t (aH z).length ps.toList=some qs)(h:(dw.build (aH z) qs).vc P ev H K):eD P o a H K:=by
 have NA:z.cells.toList=aH z:=eU z
 have Ps:z.cells.size=(aH z).length:=by rw[←NA];simp
 unfold parts at hq
 split at hq
 ·rename_i fields hu
  split at hq
  ·rename_i hk
   obtain⟨h1,h2⟩:=te _ _ hq
   obtain⟨z',hf,MC⟩:=fill_eq (a:=a) (ev:=ev) (place:=((placeOf P fields)[·]?)) ps.toList qs z.cells (fun l=>K (.agg l.toArray) H) h1
    (fun j i x hj=>by obtain⟨off,size,e1,e2,e3⟩:=h2 j i x hj;exact⟨off,size,e1,e2,by omega⟩) bJ (by rw[NA];exact h)
   refine⟨.agg z',fun w=>?_,by simpa using MC⟩
   have RO:(fields.mapM fun f=>(do pure (f.offset,←sizeOf f.type):Sem (Nat×Nat))).run P w= .ok (placeOf P fields) w:=by
    rw[Array.mapM_eq_mapM_toList,Sem.run_map,Nj fields.toList (fun f hf=>by
     have:=(arE.1 hk) f (by simpa using hf);exact this) w]
    simp only[Result.andThen_ok]
    congr 1
    apply Array.ext'
    simp[placeOf]
   simp only[execOp,ho,Instr.build,Sem.run_bind,cO hz,au hu,Result.andThen_ok,RO,CE,hf,Sem.run_pure]
  ·cases hq
 ·rename_i n e hu
  split at hq
  ·rename_i hi
   obtain⟨h1,h2⟩:=te _ _ hq
   obtain⟨z',hf,MC⟩:=fill_eq (a:=a) (ev:=ev) (place:=fun i=>some (i*P.cellsOf e,P.cellsOf e)) ps.toList qs z.cells (fun l=>K (.agg l.toArray) H) h1
    (fun j i x hj=>by obtain⟨off,size,e1,e2,e3⟩:=h2 j i x hj;exact⟨off,size,e1,e2,by omega⟩) bJ (by rw[NA];exact h)
   refine⟨.agg z',fun w=>?_,by simpa using MC⟩
   simp only[execOp,ho,Instr.build,Sem.run_bind,cO hz,au hu,Result.andThen_ok,bL hi,CE,hf,Sem.run_pure]
  ·cases hq
 ·cases hq
theorem AQ{z:Array Value}{n size:Nat}(hs:z.size=size)(h0:size≠0):((Array.range (n*size)).map (z[· %z.size]!)).toList=aV z.toList n:=by
 subst hs
 induction n with
 |zero=>simp[aV]
 |succ n ih=>
  apply aqX
  intro i
  have hp:aV z.toList (n+1)=aV z.toList n++z.toList:=by simp[aV,ar1]
  have bf:(aV z.toList n).length=n*z.size:=by rw[←ih];simp
  rw[hp]
  by_cases hi:i<n*z.size
  ·rw[aqs (by omega),←ih]
   have:i< (n+1)*z.size:=by rw[arn];omega
   simp[hi,this]
  ·rw[aqD (by omega),bf]
   by_cases ni:i< (n+1)*z.size
   ·have rF:i - n*z.size<z.size:=by rw[arn]at ni;omega
    have U9:i%z.size=i - n*z.size:=by
     have e:i=(i - n*z.size)+z.size*n:=by rw[Nat.mul_comm z.size n];omega
     rw[e,Nat.add_mul_mod_self_left,Nat.mod_eq_of_lt rF]
     rw[Nat.mul_comm z.size n];omega
    simp[ni,U9,rF]
   ·have:z.size≤i - n*z.size:=by rw[arn]at ni;omega
    simp[ni,this]
theorem Em(z:List Value)(n:Nat):(aV z n).length=n*z.length:=by simp[aV]
theorem Sa{t e:TypeId}{n:Nat}{z:Value}{ps:Array (Nat×Operand)}{qs:List (Nat×Nat×Operand)}(bJ:bT ev a)(ho:o.op= .buildSlice t n ps)(ht:P.underlying t=some (.slice e))
  (hz:fO P e=some z)(hi:(P.info? e).isSome=true)(h0:P.cellsOf e≠0)(hl:(aH z).length=P.cellsOf e)(hm:n*P.cellsOf e≤2^24)
  (hq:kw (fun i=>some (i*P.cellsOf e,P.cellsOf e)) (n*P.cellsOf e) ps.toList=some qs)(h:(dw.lit e n (aV (aH z) n) qs).vc P ev H K):eC P o a H K:=by
 have NA:z.cells.toList=aH z:=eU z
 have Ps:z.cells.size=P.cellsOf e:=by rw[←hl,←NA];simp
 intro w hw
 subst hw
 obtain⟨h1,h2⟩:=te _ _ hq
 have xU:∀ (zz:Array Value),(n*P.cellsOf e=0∨zz=z.cells)→((Array.range (n*P.cellsOf e)).map (zz[· %zz.size]!)).toList=aV (aH z) n:=by
  intro zz hzz
  rcases hzz with hzz|rfl
  ·have:n=0:=by
    rcases Nat.mul_eq_zero.1 hzz with h|h
    ·exact h
    ·exact absurd h h0
   subst this
   simp[aV]
  ·rw[AQ Ps h0,NA]
 have main:∀zz:Array Value,(n*P.cellsOf e=0∨zz=z.cells)→∃z':Array Value,Instr.fill (fun i=>some (i*P.cellsOf e,P.cellsOf e)) ((Array.range (n*P.cellsOf e)).map (zz[· %zz.size]!)) (ps.toList.map fun(i,x)=>(i,a.eval x))=some z'∧
   K (.slice (some ⟨w.heap.size,0,none⟩) n n) (Hp.new w.heap e z'.toList):=by
  intro zz hzz
  exact fill_eq (a:=a) (ev:=ev) ps.toList qs _ (fun l=>K (.slice (some ⟨w.heap.size,0,none⟩) n n) (Hp.new w.heap e l)) h1
   (fun j i x hj=>by obtain⟨off,size,e1,e2,e3⟩:=h2 j i x hj;exact⟨off,size,e1,e2,by simpa using e3⟩) bJ (by rw[xU zz hzz];exact h)
 by_cases hn:n*P.cellsOf e=0
 ·obtain⟨z',hf,hk⟩:=main #[] (.inl hn)
  refine .inl ⟨.slice (some ⟨w.heap.size,0,none⟩) n n,{w with heap:=Hp.new w.heap e z'.toList},?_,⟨rfl,rfl⟩,hk⟩
  simp only[execOp,ho,Instr.buildSlice,Sem.run_bind,au ht,bL hi,Result.andThen_ok]
  rw[if_neg (by omega),if_pos hn]
  simp only[Sem.run_pure,Result.andThen_ok,Sem.run_bind,CE,hf,kM]
 ·obtain⟨z',hf,hk⟩:=main z.cells (.inr rfl)
  refine .inl ⟨.slice (some ⟨w.heap.size,0,none⟩) n n,{w with heap:=Hp.new w.heap e z'.toList},?_,⟨rfl,rfl⟩,hk⟩
  simp only[execOp,ho,Instr.buildSlice,Sem.run_bind,au ht,bL hi,Result.andThen_ok]
  rw[if_neg (by omega),if_neg hn]
  simp only[Sem.run_pure,Result.andThen_ok,Sem.run_bind,cO hz,CE,hf,kM]
theorem R9{t:TypeId}{x:Operand}(bJ:bT ev a)(ho:o.op= .box t x)(h:(dw.box t x).vc P ev H K):eC P o a H K:=by
 intro w hw
 subst hw
 have h:=aU bJ h
 refine .inl ⟨_,{w with heap:=Hp.new w.heap t (aH (a.eval x))},?_,⟨rfl,rfl⟩,h⟩
 simp[execOp,ho,Instr.box,EF]
theorem Qo{t:TypeId}{z:Value}(hz:fO P t=some z)(ho:o.op= .alloc t)(h:(dw.zero t (aH z)).vc P ev H K):eC P o a H K:=by
 intro w hw
 subst hw
 refine .inl ⟨_,{w with heap:=Hp.new w.heap t (aH z)},?_,⟨rfl,rfl⟩,h⟩
 simp[execOp,ho,Instr.alloc,EF,cO hz]
theorem NI{t:TypeId}{x:Operand}(bJ:bT ev a)(ho:o.op= .load t x)(hi:(P.info? t).isSome=true)(hu:(P.underlying t).isSome=true)(hg:fy P t=false)
  (h:(dw.aj x).vc P ev H K):eC P o a H K:=by
 intro w hw
 subst hw
 obtain⟨b,off,hx,h⟩:=fL (aU bJ h)
 obtain⟨l,hl,h⟩:=aD h
 obtain⟨v,hv,h⟩:=aD h
 refine .inl ⟨v,w,?_,cu.refl w,h⟩
 simp[execOp,ho,Instr.loadAt,hx,Instr.sureAddr,(iW hi hu hl).2 hg v hv]
theorem NH{t:TypeId}{x:Operand}(bJ:bT ev a)(ho:o.op= .load t x)(hi:(P.info? t).isSome=true)(hu:(P.underlying t).isSome=true)(hg:fy P t=true)
  (h:(dw.cJ (P.cellsOf t) x).vc P ev H K):eC P o a H K:=by
 intro w hw
 subst hw
 obtain⟨b,off,hx,h⟩:=fL (aU bJ h)
 obtain⟨l,hl,h⟩:=aD h
 obtain⟨hn,h⟩:=h.out
 refine .inl ⟨_,w,?_,cu.refl w,h⟩
 simp only[execOp,ho,Instr.loadAt,hx,Instr.sureAddr,Sem.run_bind,Sem.run_pure,Result.andThen_ok,(iW hi hu hl).1 hg hn]
theorem NJ{t:TypeId}{x y:Operand}(bJ:bT ev a)(ho:o.op= .store t x y)(hi:(P.info? t).isSome=true)(h0:P.cellsOf t≠0)
  (h:(dw.store (P.cellsOf t) x y).vc P ev H K):eC P o a H K:=by
 intro w hw
 subst hw
 obtain⟨b,off,hx,h⟩:=fL (aU bJ h)
 obtain⟨l,hl,h⟩:=aD (aU bJ h)
 obtain⟨h1,h⟩:=h.out
 obtain⟨h2,h⟩:=h.out
 obtain⟨h3,h⟩:=h.out
 obtain⟨w',hr,hs,hh⟩:=Jg (v:=a.eval y) hi h0 hl h1 (Ru h2) h3
 refine .inr (.inl ⟨w',?_,hs,hh▸h⟩)
 simp[execOp,ho,Instr.storeAt,hx,Instr.sureAddr,hr]
theorem LM{t:TypeId}(ho:o.op= .makeMap t none)(h:dw.nI.vc P ev H K):eC P o a H K:=by
 intro w hw
 subst hw
 refine .inl ⟨_,{w with heap:=Hp.iR w.heap},?_,⟨rfl,rfl⟩,h⟩
 simp only[execOp,ho,Option.map_none,Instr.makeMap,Sem.run_bind,Sem.run_pure,Result.andThen_ok,run_newObj,Hp.iR]
theorem wrap_i64{n:Int}(h0:0≤n)(h1:n≤2^62):IntKind.i64.wrap n=n:=by
 have e:(2^IntKind.i64.bits:Int)=18446744073709551616:=rfl
 have e':(2^ (IntKind.i64.bits - 1):Int)=9223372036854775808:=rfl
 unfold IntKind.wrap
 simp only[e,e',IntKind.signed,arx,aqI]
 split<;>omega
theorem Gb{t e:TypeId}{z:Value}{x y:Operand}(bJ:bT ev a)(ho:o.op= .makeSlice t x y)(ht:P.underlying t=some (.slice e))(hz:fO P e=some z)
  (hi:(P.info? e).isSome=true)(h0:P.cellsOf e≠0)(hl:(aH z).length=P.cellsOf e)(h:(dw.makeSlice e (P.bytesOf e) (P.cellsOf e) (aH z) x y).vc P ev H K):eC P o a H K:=by
 intro w hw
 subst hw
 have h:=aU bJ (aU bJ h)
 obtain⟨k,n,hx,h⟩:=iA h
 obtain⟨k',c,hy,h⟩:=iA h
 obtain⟨⟨h1,h2,h3,h4⟩,h⟩:=h.out
 refine .inl ⟨_,{w with heap:=Hp.new w.heap e (aV (aH z) c.toNat)},?_,⟨rfl,rfl⟩,h⟩
 obtain⟨i,hi'⟩:=Option.isSome_iff_exists.1 hi
 have hb:i.bytes=P.bytesOf e:=by simp[Program.bytesOf,hi']
 have NA:z.cells.toList=aH z:=eU z
 have Ps:z.cells.size=P.cellsOf e:=by rw[←hl,←NA];simp
 have w1:=wrap_i64 h1 (by omega:n≤2^62)
 have w2:=wrap_i64 (by omega:0≤c) (by omega:c≤2^62)
 simp only[execOp,ho,Instr.makeSlice,Sem.run_bind,au ht,Result.andThen_ok,hx,hy,asInt,asIntOf,Sem.run_pure,eM hi',hb,w1,w2,run_askRoom,bL hi]
 have t1:(decide (c<0) || decide ((P.bytesOf e:Int)*c>2^48))=false:=by simp;omega
 rw[if_neg (by simp only[t1,ara,false_or,ar8,aqI];omega)]
 simp only[Sem.run_bind,run_askRoom,Result.andThen_ok,bL hi]
 by_cases hn:c.toNat*P.cellsOf e=0
 ·have jW:c.toNat=0:=by rcases Nat.mul_eq_zero.1 hn with h|h;exact h;exact absurd h h0
  rw[if_pos hn]
  simp only[jW,aqT,Sem.run_bind,Sem.run_pure,Result.andThen_ok,kM]
  simp[aV]
 ·rw[if_neg hn]
  simp only[Sem.run_bind,cO hz,Sem.run_pure,Result.andThen_ok,kM,AQ Ps h0,NA]
theorem FH{H:Hp}{b:Nat}{x:List MapEntry×Nat}(h:H.mp b=some x):∃es:Array MapEntry,H[b]? =some (.map es x.2)∧es.toList=x.1:=by
 unfold Hp.mp at h
 split at h
 ·rename_i es k hb;injection h with h;exact⟨es,by rw[hb,←h],by rw[←h]⟩
 ·cases h
theorem oN{w:World}{b:Nat}{es:Array MapEntry}{k:Nat}(h:w.heap[b]? =some (.map es k)):(getObj b).run P w= .ok (.map es k) w:=by simp[getObj,Sem.run,h]
theorem oO{w:World}{b:Nat}{es Ws:Array MapEntry}{k k':Nat}(h:w.heap[b]? =some (.map es k)):
  (setObj b (.map Ws k')).run P w= .ok () {w with heap:=Hp.Ei w.heap b Ws.toList k'}:=by
 simp[setObj,Sem.run,h,Hp.Ei]
theorem tN{t:TypeId}{s:Shape}(h:cC P t=some s)(hs:∀fs,s≠ .s fs):shapeOf P fu t=some s∧kF s=true:=by
 unfold cC at h
 split at h
 ·injection h with h;subst h;simp[shapeOf,fu, *,kF]
 ·injection h with h;subst h;simp[shapeOf,fu, *,kF]
 ·injection h with h;subst h;simp[shapeOf,fu, *,kF]
 ·split at h
  ·split at h
   ·injection h with h;exact absurd h.symm (hs _)
   ·cases h
  ·cases h
 ·cases h
theorem HO{t:TypeId}{s:Shape}(h:cC P t=some s):shapeOf P fu t=some s:=by
 by_cases hs:∃fs,s= .s fs
 ·obtain⟨fs,rfl⟩:=hs
  unfold cC at h
  split at h
  ·cases h
  ·cases h
  ·cases h
  ·split at h
   ·split at h
    ·injection h with h;injection h with h;subst h;assumption
    ·cases h
   ·cases h
  ·cases h
 ·exact(tN h fun fs e=>hs ⟨fs,e⟩).1
theorem tO{d:Nat}{t:TypeId}{s:Shape}(h:shapeOf P d t=some s)(hk:kF s=true)(v:Value)(e:Bool)(n:Nat)(w:World):(Instr.checkKey e (n+1) t v).run P w= .ok () w:=by
 cases d with
 |zero=>simp[shapeOf]at h
 |succ d=>
  rw[gD]at h
  split at h
  ·injection h with h;subst h;simp[Instr.checkKey,au ‹P.underlying t=_›]
  ·injection h with h;subst h;simp[Instr.checkKey,au ‹P.underlying t=_›]
  ·injection h with h;subst h;simp[Instr.checkKey,au ‹P.underlying t=_›]
  case h_9=>
   split at h
   ·cases h
   ·rename_i fs _ _
    cases hr:fK P d fs.toList with
    |none=>rw[hr]at h;cases h
    |some l=>rw[hr]at h;injection h with h;subst h;simp[kF]at hk
  all_goals first| (cases h;done)| (injection h with h;subst h;simp[kF]at hk)
theorem FF{d:Nat}(e:Bool)(n:Nat)(xs:List Value):∀ (fs:List Field) (l:List (Nat×Option Nat×Shape)),fK P d fs=some l→
  (l.all fun(off,agg,sh)=>agg.isNone && kF sh)=true→(∀q∈l,(xs[q.1]?).isSome=true)→∀w:World,
  (forIn fs PUnit.unit fun f (_:PUnit)=>(do
   if f.name≠ "_" then Instr.checkKey e (n+1) f.type (←part f.type xs.toArray f.offset)
   pure (ForInStep.yield PUnit.unit):Sem (ForInStep PUnit))).run P w= .ok PUnit.unit w:=by
 intro fs
 induction fs with
 |nil=>intro l _ _ _ w;simp
 |cons f fs ih=>
  intro l hl ha hx w
  rw[qa]at hl
  split at hl
  ·cases hl
  ·rename_i T6
   split at hl
   ·cases hl
   ·rename_i sh HI
    cases hr:fK P d fs with
    |none=>rw[hr]at hl;cases hl
    |some l'=>
     rw[hr]at hl
     simp only[Option.map_some,aqk]at hl
     subst hl
     rw[List.all_cons]at ha
     simp only[aq0]at ha
     obtain⟨⟨h1,h2⟩,h3⟩:=ha
     have ajg:fy P f.type=false:=by
      cases hb:fy P f.type
      ·rfl
      ·simp[hb]at h1
     obtain⟨v,hv⟩:=Option.isSome_iff_exists.1 (hx _ aq9)
     have hu:(P.underlying f.type).isSome=true:=by
      cases d with
      |zero=>simp[shapeOf]at HI
      |succ d=>rw[gD]at HI;split at HI<;>first| (cases HI;done)|simp_all
     have hp:=wL (P:=P) (l:=xs) (t:=f.type) (off:=f.offset) (v:=v) (info_of_underlying hu) hu (by rw[ajg];simpa[tE]using hv) w
     simp only[List.forIn_cons,T6,ne_eq,not_false_eq_true,if_true,Sem.run_bind,hp,Result.andThen_ok,tO HI h2,Sem.run_pure]
     exact ih l' hr h3 (fun q hq=>hx q (aq1 _ hq)) w
theorem HP{t:TypeId}{s:Shape}{k:Value}(h:cC P t=some s)(hk:Co s k=true)(e:Bool)(n:Nat)(w:World):(Instr.checkKey e (n+1+1) t k).run P w= .ok () w:=by
 by_cases hs:∃fs,s= .s fs
 ·obtain⟨l,rfl⟩:=hs
  have h':=h
  unfold cC at h
  split at h
  ·cases h
  ·cases h
  ·cases h
  ·rename_i fs hu
   split at h
   ·split at h
    ·rename_i l' HI cM
     injection h with h;injection h with h;subst h
     cases k with
     |agg xs=>
      simp only[show fu=7+1 from rfl,gD,hu]at HI
      split at HI
      ·cases HI
      ·cases hr:fK P 7 fs.toList with
       |none=>rw[hr]at HI;cases HI
       |some l=>
        rw[hr]at HI
        simp only[Option.map_some,aqk,Shape.s.injEq]at HI
        subst HI
        rw[Instr.checkKey]
        simp only[Sem.run_bind,au hu,Result.andThen_ok]
        rw[←Array.forIn_toList]
        have:=FF (P:=P) e n xs.toList fs.toList l hr cM (fun q hq=>by
         have h1:=(arc.1 hk) q hq
         obtain⟨off,agg,sh⟩:=q
         simp only[aq0]at h1
         have h2:=h1.2
         cases hx:(xs.toList)[off]? with
         |none=>rw[show xs[off]? =none by simpa using hx]at h2;cases sh<;>simp at h2
         |some v=>rfl) w
        simp only[arM]at this
        rw[this]
        rfl
     |_=>simp[Co]at hk
    ·cases h
   ·cases h
  ·cases h
 ·obtain⟨h1,h2⟩:=tN h fun fs e=>hs ⟨fs,e⟩
  exact tO h1 h2 k e (n+1) w
theorem hY{t:TypeId}{s:Shape}{k:Value}(h:cC P t=some s)(hk:Co s k=true)(e:Bool)(w:World):(Instr.checkKey e 10000 t k).run P w= .ok () w:=
 HP h hk e 9998 w
theorem HQ{t:TypeId}{s:Shape}{k:Value}(h:shapeOf P fu t=some s):∀ (es:List MapEntry) (i:Nat) (r:Option (Nat×Value)),fV s k es i=some r→∀w:World,
  (Instr.findAsking t k es i).run P w= .ok r w:=by
 intro es
 induction es with
 |nil=>intro i r hr w;simp only[fV,aqk]at hr;subst hr;rfl
 |cons e es ih=>
  intro i r hr w
  unfold fV at hr
  have he:∀b,rG s k e.key=some b→(Op.equal t k e.key).run P w= .ok b w:=by
   intro b hb
   unfold Op.equal Op.maxDepth
   have:=(CD (P:=P) fu).1 t s k e.key b h hb (10000 - fu) w
   simpa[fu]using this
  split at hr
  ·rename_i hb
   injection hr with hr;subst hr
   simp[Instr.findAsking,he true hb]
  ·rename_i hb
   simp[Instr.findAsking,he false hb,ih (i+1) r hr w]
  ·cases hr
theorem Eg{d:TypeDesc}{s:Shape}{k:Value}(hd:(∃q,d= .int q∧s= .int)∨(d= .string∧s= .str)∨(d= .bool∧s= .bool)):∀ (es:List MapEntry) (i:Nat) (r:Option (Nat×Value)),
  fV s k es i=some r→Instr.findNow d k es i=some r:=by
 intro es
 induction es with
 |nil=>intro i r hr;simpa[fV,Instr.findNow]using hr
 |cons e es ih=>
  intro i r hr
  unfold fV at hr
  unfold Instr.findNow
  have Eh:∀b,rG s k e.key=some b→Instr.sameNow d k e.key=some b:=by
   intro b hb
   rcases hd with ⟨q,rfl,rfl⟩| ⟨rfl,rfl⟩| ⟨rfl,rfl⟩
   ·cases k<;>cases hk:e.key<;>simp only[hk,rG,bE]at hb<;>first| (cases hb;done)|skip
    exact hb
   ·cases k<;>cases hk:e.key<;>simp only[hk,rG,bE]at hb<;>first| (cases hb;done)|skip
    simpa[Instr.sameNow,beq_toListBytes]using hb
   ·cases k<;>cases hk:e.key<;>simp only[hk,rG,bE]at hb<;>first| (cases hb;done)|skip
    simpa[Instr.sameNow]using hb
  split at hr
  ·rename_i hb;rw[Eh true hb];exact hr
  ·rename_i hb;rw[Eh false hb];exact ih _ _ hr
  ·cases hr
theorem iT{t:TypeId}{s:Shape}{k:Value}{es:List MapEntry}{r:Option (Nat×Value)}(h:cC P t=some s)(hr:fV s k es 0=some r)(w:World):
  (Instr.findKey t k es).run P w= .ok r w:=by
 have HI:=HO h
 unfold Instr.findKey
 have hu:∃d,P.underlying t=some d:=by
  unfold cC at h
  split at h<;>first|exact⟨_, ‹_›⟩|cases h
 obtain⟨d,hu⟩:=hu
 simp only[Sem.run_bind,au hu,Result.andThen_ok]
 by_cases hs:∃fs,s= .s fs
 ·obtain⟨l,rfl⟩:=hs
  have hd:∃fs,d= .struct fs:=by
   unfold cC at h
   rw[hu]at h
   split at h
   ·cases h
   ·cases h
   ·cases h
   ·rename_i he;injection he with he;exact⟨_,he⟩
   ·cases h
  obtain⟨fs,rfl⟩:=hd
  cases es with
  |nil=>simp only[fV,aqk]at hr;subst hr;rfl
  |cons e es=>
   have:Instr.findNow (.struct fs) k (e::es) 0=none:=by simp[Instr.findNow,Instr.sameNow]
   rw[this]
   exact HQ HI _ _ _ hr w
 ·have hd:(∃q,d= .int q∧s= .int)∨(d= .string∧s= .str)∨(d= .bool∧s= .bool):=by
   unfold cC at h
   rw[hu]at h
   split at h
   ·rename_i q he;injection he with he;injection h with h;exact .inl ⟨q,he,h.symm⟩
   ·rename_i he;injection he with he;injection h with h;exact .inr (.inl ⟨he,h.symm⟩)
   ·rename_i he;injection he with he;injection h with h;exact .inr (.inr ⟨he,h.symm⟩)
   ·split at h
    ·split at h
     ·injection h with h;exact absurd ⟨_,h.symm⟩ hs
     ·cases h
    ·cases h
   ·cases h
  rw[Eg hd es 0 r hr]
  rfl
end
end Go.Vc
