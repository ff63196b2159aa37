/- Texts put behind each other. -/
import Derived.Test.YtjlnnljohemifaaGreatK98
import Derived.Test.YtjlnnljohemifaaGreatK9
set_option maxRecDepth 100000
set_option maxHeartbeats 8000000
set_option linter.unusedVariables false
set_option linter.unusedSimpArgs false
namespace Go.Vc
section
variable {P : Program} {o : Oper} {a : Act} {ev : Ev} {H : Hp} {K : Value → Hp → Prop}
theorem qF{place:Nat→Option (Nat×Nat)}{IP:Nat}:∀ (ps:List (Nat×Operand)) (qs:List (Nat×Nat×Operand)),j8 place IP ps=some qs→
  ps.length=qs.length∧∀ (j i:Nat) (x:Operand),ps[j]? =some (i,x)→∃off size:Nat,qs[j]? =some (off,size,x)∧place i=some (off,size)∧off+size≤IP:=by
 intro ps
 induction ps with
 |nil=>intro qs h;simp only[j8,anE]at h;subst h;simp
 |cons p ps ih=>
  intro qs h
  obtain⟨i,x⟩:=p
  unfold j8 at h
  split at h
  ·cases h
  ·rename_i off size NS
   split at h
   ·rename_i oY
    cases hr:j8 place IP ps with
    |none=>rw[hr]at h;cases h
    |some qs'=>
     rw[hr]at h
     simp only[Option.map_some,anE]at h
     subst h
     obtain⟨h1,h2⟩:=ih qs' hr
     refine⟨by simp[h1],fun j i' x' hj=>?_⟩
     cases j with
     |zero=>
      simp only[anY,anE,Prod.mk.injEq]at hj
      obtain⟨rfl,rfl⟩:=hj
      exact⟨off,size,rfl,NS,oY⟩
     |succ j=>exact h2 j i' x' (by simpa using hj)
   ·cases h
theorem J8(fs:List Field)(h:∀f∈fs,(P.info? f.type).isSome=true)(w:World):
  (fs.mapM fun f=>(do pure (f.offset,←sizeOf f.type):Sem (Nat×Nat))).run P w= .ok (fs.map fun f=>(f.offset,P.cellsOf f.type)) w:=by
 induction fs with
 |nil=>rfl
 |cons f fs ih=>
  rw[List.mapM_cons]
  simp only[Sem.run_bind,bI (h f aok),Result.andThen_ok,Sem.run_pure,ih fun g hg=>h g (anZ _ hg),aom]
theorem zK(ps:Array (Nat×Operand)):(ps.map fun(i,x)=>(i,a.eval x)).toList=ps.toList.map fun(i,x)=>(i,a.eval x):=by simp
theorem Ml{t:TypeId}{z:Value}{ps:Array (Nat×Operand)}{qs:List (Nat×Nat×Operand)}(bE:bP ev a)(ho:o.op= .build t ps)(hz:fg P t=some z)
  (hq:parts P t (aH z).length ps.toList=some qs)(h:(da.build (aH z) qs).vc P ev H K):dN P o a H K:=by
 have Mm:z.cells.toList=aH z:=ee z
 have NT:z.cells.size=(aH z).length:=by rw[←Mm];simp
 unfold parts at hq
 split at hq
 ·rename_i fields hu
  split at hq
  ·rename_i hk
   obtain⟨h1,h2⟩:=qF _ _ hq
   obtain⟨z',hf,J9⟩:=fill_eq (a:=a) (ev:=ev) (place:=((placeOf P fields)[·]?)) ps.toList qs z.cells (fun l=>K (.agg l.toArray) H) h1
    (fun j i x hj=>by obtain⟨off,size,e1,e2,e3⟩:=h2 j i x hj;exact⟨off,size,e1,e2,by omega⟩) bE (by rw[Mm];exact h)
   refine⟨.agg z',fun w=>?_,by simpa using J9⟩
   have NS:(fields.mapM fun f=>(do pure (f.offset,←sizeOf f.type):Sem (Nat×Nat))).run P w= .ok (placeOf P fields) w:=by
    rw[Array.mapM_eq_mapM_toList,Sem.run_map,J8 fields.toList (fun f hf=>by
     have:=(aoZ.1 hk) f (by simpa using hf);exact this) w]
    simp only[Result.andThen_ok]
    congr 1
    apply Array.ext'
    simp[placeOf]
   simp only[execOp,ho,Instr.build,Sem.run_bind,cE hz,ap hu,Result.andThen_ok,NS,zK,hf,Sem.run_pure]
  ·cases hq
 ·rename_i n e hu
  split at hq
  ·rename_i hi
   obtain⟨h1,h2⟩:=qF _ _ hq
   obtain⟨z',hf,J9⟩:=fill_eq (a:=a) (ev:=ev) (place:=fun i=>some (i*P.cellsOf e,P.cellsOf e)) ps.toList qs z.cells (fun l=>K (.agg l.toArray) H) h1
    (fun j i x hj=>by obtain⟨off,size,e1,e2,e3⟩:=h2 j i x hj;exact⟨off,size,e1,e2,by omega⟩) bE (by rw[Mm];exact h)
   refine⟨.agg z',fun w=>?_,by simpa using J9⟩
   simp only[execOp,ho,Instr.build,Sem.run_bind,cE hz,ap hu,Result.andThen_ok,bI hi,zK,hf,Sem.run_pure]
  ·cases hq
 ·cases hq
theorem zL{z:Array Value}{n size:Nat}(hs:z.size=size)(h0:size≠0):((Array.range (n*size)).map (z[· %z.size]!)).toList=cA z.toList n:=by
 subst hs
 induction n with
 |zero=>simp[cA]
 |succ n ih=>
  apply aoo
  intro i
  have hp:cA z.toList (n+1)=cA z.toList n++z.toList:=by simp[cA,apx]
  have aX:(cA z.toList n).length=n*z.size:=by rw[←ih];simp
  rw[hp]
  by_cases hi:i<n*z.size
  ·rw[anJ (by omega),←ih]
   have:i< (n+1)*z.size:=by rw[aoM];omega
   simp[hi,this]
  ·rw[anX (by omega),aX]
   by_cases mI:i< (n+1)*z.size
   ·have qz:i - n*z.size<z.size:=by rw[aoM]at mI;omega
    have Ti:i%z.size=i - n*z.size:=by
     have e:i=(i - n*z.size)+z.size*n:=by rw[Nat.mul_comm z.size n];omega
     rw[e,Nat.add_mul_mod_self_left,Nat.mod_eq_of_lt qz]
     rw[Nat.mul_comm z.size n];omega
    simp[mI,Ti,qz]
   ·have:z.size≤i - n*z.size:=by rw[aoM]at mI;omega
    simp[mI,this]
theorem C7(z:List Value)(n:Nat):(cA z n).length=n*z.length:=by simp[cA]
theorem QS{t e:TypeId}{n:Nat}{z:Value}{ps:Array (Nat×Operand)}{qs:List (Nat×Nat×Operand)}(bE:bP ev a)(ho:o.op= .buildSlice t n ps)(ht:P.underlying t=some (.slice e))
  (hz:fg P e=some z)(hi:(P.info? e).isSome=true)(h0:P.cellsOf e≠0)(hl:(aH z).length=P.cellsOf e)(hm:n*P.cellsOf e≤2^24)
  (hq:j8 (fun i=>some (i*P.cellsOf e,P.cellsOf e)) (n*P.cellsOf e) ps.toList=some qs)(h:(da.lit e n (cA (aH z) n) qs).vc P ev H K):dO P o a H K:=by
 have Mm:z.cells.toList=aH z:=ee z
 have NT:z.cells.size=P.cellsOf e:=by rw[←hl,←Mm];simp
 intro w hw
 subst hw
 obtain⟨h1,h2⟩:=qF _ _ hq
 have IQ:∀ (zz:Array Value),(n*P.cellsOf e=0∨zz=z.cells)→((Array.range (n*P.cellsOf e)).map (zz[· %zz.size]!)).toList=cA (aH z) n:=by
  intro zz Yu
  rcases Yu with Yu|rfl
  ·have:n=0:=by
    rcases Nat.mul_eq_zero.1 Yu with h|h
    ·exact h
    ·exact absurd h h0
   subst this
   simp[cA]
  ·rw[zL NT h0,Mm]
 have main:∀zz:Array Value,(n*P.cellsOf e=0∨zz=z.cells)→∃z':Array Value,Instr.fill (fun i=>some (i*P.cellsOf e,P.cellsOf e)) ((Array.range (n*P.cellsOf e)).map (zz[· %zz.size]!)) (ps.toList.map fun(i,x)=>(i,a.eval x))=some z'∧
   K (.slice (some ⟨w.heap.size,0,none⟩) n n) (Hp.new w.heap e z'.toList):=by
  intro zz Yu
  exact fill_eq (a:=a) (ev:=ev) ps.toList qs _ (fun l=>K (.slice (some ⟨w.heap.size,0,none⟩) n n) (Hp.new w.heap e l)) h1
   (fun j i x hj=>by obtain⟨off,size,e1,e2,e3⟩:=h2 j i x hj;exact⟨off,size,e1,e2,by simpa using e3⟩) bE (by rw[IQ zz Yu];exact h)
 by_cases hn:n*P.cellsOf e=0
 ·obtain⟨z',hf,hk⟩:=main #[] (.inl hn)
  refine .inl ⟨.slice (some ⟨w.heap.size,0,none⟩) n n,{w with heap:=Hp.new w.heap e z'.toList},?_,⟨rfl,rfl⟩,hk⟩
  simp only[execOp,ho,Instr.buildSlice,Sem.run_bind,ap ht,bI hi,Result.andThen_ok]
  rw[if_neg (by omega),if_pos hn]
  simp only[Sem.run_pure,Result.andThen_ok,Sem.run_bind,zK,hf,kq]
 ·obtain⟨z',hf,hk⟩:=main z.cells (.inr rfl)
  refine .inl ⟨.slice (some ⟨w.heap.size,0,none⟩) n n,{w with heap:=Hp.new w.heap e z'.toList},?_,⟨rfl,rfl⟩,hk⟩
  simp only[execOp,ho,Instr.buildSlice,Sem.run_bind,ap ht,bI hi,Result.andThen_ok]
  rw[if_neg (by omega),if_neg hn]
  simp only[Sem.run_pure,Result.andThen_ok,Sem.run_bind,cE hz,zK,hf,kq]
theorem QT{t:TypeId}{x:Operand}(bE:bP ev a)(ho:o.op= .box t x)(h:(da.box t x).vc P ev H K):dO P o a H K:=by
 intro w hw
 subst hw
 have h:=aU bE h
 refine .inl ⟨_,{w with heap:=Hp.new w.heap t (aH (a.eval x))},?_,⟨rfl,rfl⟩,h⟩
 simp[execOp,ho,Instr.box,C8]
theorem OS{t:TypeId}{z:Value}(hz:fg P t=some z)(ho:o.op= .alloc t)(h:(da.zero t (aH z)).vc P ev H K):dO P o a H K:=by
 intro w hw
 subst hw
 refine .inl ⟨_,{w with heap:=Hp.new w.heap t (aH z)},?_,⟨rfl,rfl⟩,h⟩
 simp[execOp,ho,Instr.alloc,C8,cE hz]
theorem Mn{t:TypeId}{x:Operand}(bE:bP ev a)(ho:o.op= .load t x)(hi:(P.info? t).isSome=true)(hu:(P.underlying t).isSome=true)(hg:eG P t=false)
  (h:(da.aj x).vc P ev H K):dO P o a H K:=by
 intro w hw
 subst hw
 obtain⟨b,off,hx,h⟩:=eX (aU bE h)
 obtain⟨l,hl,h⟩:=az h
 obtain⟨v,hv,h⟩:=az h
 refine .inl ⟨v,w,?_,bZ.refl w,h⟩
 simp[execOp,ho,Instr.loadAt,hx,Instr.sureAddr,(iK hi hu hl).2 hg v hv]
theorem Mo{t:TypeId}{x:Operand}(bE:bP ev a)(ho:o.op= .load t x)(hi:(P.info? t).isSome=true)(hu:(P.underlying t).isSome=true)(hg:eG P t=true)
  (h:(da.eD (P.cellsOf t) x).vc P ev H K):dO P o a H K:=by
 intro w hw
 subst hw
 obtain⟨b,off,hx,h⟩:=eX (aU bE h)
 obtain⟨l,hl,h⟩:=az h
 obtain⟨hn,h⟩:=h.out
 refine .inl ⟨_,w,?_,bZ.refl w,h⟩
 simp only[execOp,ho,Instr.loadAt,hx,Instr.sureAddr,Sem.run_bind,Sem.run_pure,Result.andThen_ok,(iK hi hu hl).1 hg hn]
theorem Mp{t:TypeId}{x y:Operand}(bE:bP ev a)(ho:o.op= .store t x y)(hi:(P.info? t).isSome=true)(h0:P.cellsOf t≠0)
  (h:(da.store (P.cellsOf t) x y).vc P ev H K):dO P o a H K:=by
 intro w hw
 subst hw
 obtain⟨b,off,hx,h⟩:=eX (aU bE h)
 obtain⟨l,hl,h⟩:=az (aU bE h)
 obtain⟨h1,h⟩:=h.out
 obtain⟨h2,h⟩:=h.out
 obtain⟨h3,h⟩:=h.out
 obtain⟨w',hr,hs,hh⟩:=GD (v:=a.eval y) hi h0 hl h1 (OT h2) h3
 refine .inr (.inl ⟨w',?_,hs,hh▸h⟩)
 simp[execOp,ho,Instr.storeAt,hx,Instr.sureAddr,hr]
theorem Ka{t:TypeId}(ho:o.op= .makeMap t none)(h:da.mP.vc P ev H K):dO P o a H K:=by
 intro w hw
 subst hw
 refine .inl ⟨_,{w with heap:=Hp.iI w.heap},?_,⟨rfl,rfl⟩,h⟩
 simp only[execOp,ho,Option.map_none,Instr.makeMap,Sem.run_bind,Sem.run_pure,Result.andThen_ok,run_newObj,Hp.iI]
theorem wrap_i64{n:Int}(h0:0≤n)(h1:n≤2^62):IntKind.i64.wrap n=n:=by
 have e:(2^IntKind.i64.bits:Int)=18446744073709551616:=rfl
 have e':(2^ (IntKind.i64.bits - 1):Int)=9223372036854775808:=rfl
 unfold IntKind.wrap
 simp only[e,e',IntKind.signed,aoO,anU]
 split<;>omega
theorem EU{t e:TypeId}{z:Value}{x y:Operand}(bE:bP ev a)(ho:o.op= .makeSlice t x y)(ht:P.underlying t=some (.slice e))(hz:fg P e=some z)
  (hi:(P.info? e).isSome=true)(h0:P.cellsOf e≠0)(hl:(aH z).length=P.cellsOf e)(h:(da.makeSlice e (P.bytesOf e) (P.cellsOf e) (aH z) x y).vc P ev H K):dO P o a H K:=by
 intro w hw
 subst hw
 have h:=aU bE (aU bE h)
 obtain⟨k,n,hx,h⟩:=ie h
 obtain⟨k',c,hy,h⟩:=ie h
 obtain⟨⟨h1,h2,h3,h4⟩,h⟩:=h.out
 refine .inl ⟨_,{w with heap:=Hp.new w.heap e (cA (aH z) c.toNat)},?_,⟨rfl,rfl⟩,h⟩
 obtain⟨i,hi'⟩:=Option.isSome_iff_exists.1 hi
 have hb:i.bytes=P.bytesOf e:=by simp[Program.bytesOf,hi']
 have Mm:z.cells.toList=aH z:=ee z
 have NT:z.cells.size=P.cellsOf e:=by rw[←hl,←Mm];simp
 have w1:=wrap_i64 h1 (by omega:n≤2^62)
 have w2:=wrap_i64 (by omega:0≤c) (by omega:c≤2^62)
 simp only[execOp,ho,Instr.makeSlice,Sem.run_bind,ap ht,Result.andThen_ok,hx,hy,asInt,asIntOf,Sem.run_pure,dW hi',hb,w1,w2,run_askRoom,bI hi]
 have t1:(decide (c<0) || decide ((P.bytesOf e:Int)*c>2^48))=false:=by simp;omega
 rw[if_neg (by simp only[t1,aox,false_or,ape,anU];omega)]
 simp only[Sem.run_bind,run_askRoom,Result.andThen_ok,bI hi]
 by_cases hn:c.toNat*P.cellsOf e=0
 ·have lu:c.toNat=0:=by rcases Nat.mul_eq_zero.1 hn with h|h;exact h;exact absurd h h0
  rw[if_pos hn]
  simp only[lu,aod,Sem.run_bind,Sem.run_pure,Result.andThen_ok,kq]
  simp[cA]
 ·rw[if_neg hn]
  simp only[Sem.run_bind,cE hz,Sem.run_pure,Result.andThen_ok,kq,zL NT h0,Mm]
theorem Ex{H:Hp}{b:Nat}{x:List MapEntry×Nat}(h:H.mp b=some x):∃es:Array MapEntry,H[b]? =some (.map es x.2)∧es.toList=x.1:=by
 unfold Hp.mp at h
 split at h
 ·rename_i es k hb;injection h with h;exact⟨es,by rw[hb,←h],by rw[←h]⟩
 ·cases h
theorem nV{w:World}{b:Nat}{es:Array MapEntry}{k:Nat}(h:w.heap[b]? =some (.map es k)):(getObj b).run P w= .ok (.map es k) w:=by simp[getObj,Sem.run,h]
theorem nX{w:World}{b:Nat}{es UQ:Array MapEntry}{k k':Nat}(h:w.heap[b]? =some (.map es k)):
  (setObj b (.map UQ k')).run P w= .ok () {w with heap:=Hp.C9 w.heap b UQ.toList k'}:=by
 simp[setObj,Sem.run,h,Hp.C9]
theorem sk{t:TypeId}{s:Shape}(h:cr P t=some s)(hs:∀fs,s≠ .s fs):shapeOf P eI t=some s∧j9 s=true:=by
 unfold cr at h
 split at h
 ·injection h with h;subst h;simp[shapeOf,eI, *,j9]
 ·injection h with h;subst h;simp[shapeOf,eI, *,j9]
 ·injection h with h;subst h;simp[shapeOf,eI, *,j9]
 ·split at h
  ·split at h
   ·injection h with h;exact absurd h.symm (hs _)
   ·cases h
  ·cases h
 ·cases h
theorem EV{t:TypeId}{s:Shape}(h:cr P t=some s):shapeOf P eI t=some s:=by
 by_cases hs:∃fs,s= .s fs
 ·obtain⟨fs,rfl⟩:=hs
  unfold cr at h
  split at h
  ·cases h
  ·cases h
  ·cases h
  ·split at h
   ·split at h
    ·injection h with h;injection h with h;subst h;assumption
    ·cases h
   ·cases h
  ·cases h
 ·exact(sk h fun fs e=>hs ⟨fs,e⟩).1
theorem sm{d:Nat}{t:TypeId}{s:Shape}(h:shapeOf P d t=some s)(hk:j9 s=true)(v:Value)(e:Bool)(n:Nat)(w:World):(Instr.checkKey e (n+1) t v).run P w= .ok () w:=by
 cases d with
 |zero=>simp[shapeOf]at h
 |succ d=>
  rw[fU]at h
  split at h
  ·injection h with h;subst h;simp[Instr.checkKey,ap ‹P.underlying t=_›]
  ·injection h with h;subst h;simp[Instr.checkKey,ap ‹P.underlying t=_›]
  ·injection h with h;subst h;simp[Instr.checkKey,ap ‹P.underlying t=_›]
  case h_9=>
   split at h
   ·cases h
   ·rename_i fs _ _
    cases hr:eT P d fs.toList with
    |none=>rw[hr]at h;cases h
    |some l=>rw[hr]at h;injection h with h;subst h;simp[j9]at hk
  all_goals first| (cases h;done)| (injection h with h;subst h;simp[j9]at hk)
theorem Dw{d:Nat}(e:Bool)(n:Nat)(xs:List Value):∀ (fs:List Field) (l:List (Nat×Option Nat×Shape)),eT P d fs=some l→
  (l.all fun(off,agg,sh)=>agg.isNone && j9 sh)=true→(∀q∈l,(xs[q.1]?).isSome=true)→∀w:World,
  (forIn fs PUnit.unit fun f (_:PUnit)=>(do
   if f.name≠ "_" then Instr.checkKey e (n+1) f.type (←part f.type xs.toArray f.offset)
   pure (ForInStep.yield PUnit.unit):Sem (ForInStep PUnit))).run P w= .ok PUnit.unit w:=by
 intro fs
 induction fs with
 |nil=>intro l _ _ _ w;simp
 |cons f fs ih=>
  intro l hl ha hx w
  rw[oz]at hl
  split at hl
  ·cases hl
  ·rename_i QU
   split at hl
   ·cases hl
   ·rename_i sh EW
    cases hr:eT P d fs with
    |none=>rw[hr]at hl;cases hl
    |some l'=>
     rw[hr]at hl
     simp only[Option.map_some,anE]at hl
     subst hl
     rw[List.all_cons]at ha
     simp only[aol]at ha
     obtain⟨⟨h1,h2⟩,h3⟩:=ha
     have aes:eG P f.type=false:=by
      cases hb:eG P f.type
      ·rfl
      ·simp[hb]at h1
     obtain⟨v,hv⟩:=Option.isSome_iff_exists.1 (hx _ aok)
     have hu:(P.underlying f.type).isSome=true:=by
      cases d with
      |zero=>simp[shapeOf]at EW
      |succ d=>rw[fU]at EW;split at EW<;>first| (cases EW;done)|simp_all
     have hp:=vg (P:=P) (l:=xs) (t:=f.type) (off:=f.offset) (v:=v) (info_of_underlying hu) hu (by rw[aes];simpa[eU]using hv) w
     simp only[List.forIn_cons,QU,ne_eq,not_false_eq_true,if_true,Sem.run_bind,hp,Result.andThen_ok,sm EW h2,Sem.run_pure]
     exact ih l' hr h3 (fun q hq=>hx q (anZ _ hq)) w
theorem EX{t:TypeId}{s:Shape}{k:Value}(h:cr P t=some s)(hk:zM s k=true)(e:Bool)(n:Nat)(w:World):(Instr.checkKey e (n+1+1) t k).run P w= .ok () w:=by
 by_cases hs:∃fs,s= .s fs
 ·obtain⟨l,rfl⟩:=hs
  have h':=h
  unfold cr at h
  split at h
  ·cases h
  ·cases h
  ·cases h
  ·rename_i fs hu
   split at h
   ·split at h
    ·rename_i l' EW db
     injection h with h;injection h with h;subst h
     cases k with
     |agg xs=>
      simp only[show eI=7+1 from rfl,fU,hu]at EW
      split at EW
      ·cases EW
      ·cases hr:eT P 7 fs.toList with
       |none=>rw[hr]at EW;cases EW
       |some l=>
        rw[hr]at EW
        simp only[Option.map_some,anE,Shape.s.injEq]at EW
        subst EW
        rw[Instr.checkKey]
        simp only[Sem.run_bind,ap hu,Result.andThen_ok]
        rw[←Array.forIn_toList]
        have:=Dw (P:=P) e n xs.toList fs.toList l hr db (fun q hq=>by
         have h1:=(aoA.1 hk) q hq
         obtain⟨off,agg,sh⟩:=q
         simp only[aol]at h1
         have h2:=h1.2
         cases hx:(xs.toList)[off]? with
         |none=>rw[show xs[off]? =none by simpa using hx]at h2;cases sh<;>simp at h2
         |some v=>rfl) w
        simp only[ao3]at this
        rw[this]
        rfl
     |_=>simp[zM]at hk
    ·cases h
   ·cases h
  ·cases h
 ·obtain⟨h1,h2⟩:=sk h fun fs e=>hs ⟨fs,e⟩
  exact sm h1 h2 k e (n+1) w
theorem gQ{t:TypeId}{s:Shape}{k:Value}(h:cr P t=some s)(hk:zM s k=true)(e:Bool)(w:World):(Instr.checkKey e 10000 t k).run P w= .ok () w:=
 EX h hk e 9998 w
theorem EY{t:TypeId}{s:Shape}{k:Value}(h:shapeOf P eI t=some s):∀ (es:List MapEntry) (i:Nat) (r:Option (Nat×Value)),fC s k es i=some r→∀w:World,
  (Instr.findAsking t k es i).run P w= .ok r w:=by
 intro es
 induction es with
 |nil=>intro i r hr w;simp only[fC,anE]at hr;subst hr;rfl
 |cons e es ih=>
  intro i r hr w
  unfold fC at hr
  have he:∀b,qA s k e.key=some b→(Op.equal t k e.key).run P w= .ok b w:=by
   intro b hb
   unfold Op.equal Op.maxDepth
   have:=(zN (P:=P) eI).1 t s k e.key b h hb (10000 - eI) w
   simpa[eI]using this
  split at hr
  ·rename_i hb
   injection hr with hr;subst hr
   simp[Instr.findAsking,he true hb]
  ·rename_i hb
   simp[Instr.findAsking,he false hb,ih (i+1) r hr w]
  ·cases hr
theorem BJ{d:TypeDesc}{s:Shape}{k:Value}(hd:(∃q,d= .int q∧s= .int)∨(d= .string∧s= .str)∨(d= .bool∧s= .bool)):∀ (es:List MapEntry) (i:Nat) (r:Option (Nat×Value)),
  fC s k es i=some r→Instr.findNow d k es i=some r:=by
 intro es
 induction es with
 |nil=>intro i r hr;simpa[fC,Instr.findNow]using hr
 |cons e es ih=>
  intro i r hr
  unfold fC at hr
  unfold Instr.findNow
  have Ia:∀b,qA s k e.key=some b→Instr.sameNow d k e.key=some b:=by
   intro b hb
   rcases hd with ⟨q,rfl,rfl⟩| ⟨rfl,rfl⟩| ⟨rfl,rfl⟩
   ·cases k<;>cases hk:e.key<;>simp only[hk,qA,bB]at hb<;>first| (cases hb;done)|skip
    exact hb
   ·cases k<;>cases hk:e.key<;>simp only[hk,qA,bB]at hb<;>first| (cases hb;done)|skip
    simpa[Instr.sameNow,beq_toListBytes]using hb
   ·cases k<;>cases hk:e.key<;>simp only[hk,qA,bB]at hb<;>first| (cases hb;done)|skip
    simpa[Instr.sameNow]using hb
  split at hr
  ·rename_i hb;rw[Ia true hb];exact hr
  ·rename_i hb;rw[Ia false hb];exact ih _ _ hr
  ·cases hr
theorem iL{t:TypeId}{s:Shape}{k:Value}{es:List MapEntry}{r:Option (Nat×Value)}(h:cr P t=some s)(hr:fC s k es 0=some r)(w:World):
  (Instr.findKey t k es).run P w= .ok r w:=by
 have EW:=EV h
 unfold Instr.findKey
 have hu:∃d,P.underlying t=some d:=by
  unfold cr at h
  split at h<;>first|exact⟨_, ‹_›⟩|cases h
 obtain⟨d,hu⟩:=hu
 simp only[Sem.run_bind,ap hu,Result.andThen_ok]
 by_cases hs:∃fs,s= .s fs
 ·obtain⟨l,rfl⟩:=hs
  have hd:∃fs,d= .struct fs:=by
   unfold cr at h
   rw[hu]at h
   split at h
   ·cases h
   ·cases h
   ·cases h
   ·rename_i he;injection he with he;exact⟨_,he⟩
   ·cases h
  obtain⟨fs,rfl⟩:=hd
  cases es with
  |nil=>simp only[fC,anE]at hr;subst hr;rfl
  |cons e es=>
   have:Instr.findNow (.struct fs) k (e::es) 0=none:=by simp[Instr.findNow,Instr.sameNow]
   rw[this]
   exact EY EW _ _ _ hr w
 ·have hd:(∃q,d= .int q∧s= .int)∨(d= .string∧s= .str)∨(d= .bool∧s= .bool):=by
   unfold cr at h
   rw[hu]at h
   split at h
   ·rename_i q he;injection he with he;injection h with h;exact .inl ⟨q,he,h.symm⟩
   ·rename_i he;injection he with he;injection h with h;exact .inr (.inl ⟨he,h.symm⟩)
   ·rename_i he;injection he with he;injection h with h;exact .inr (.inr ⟨he,h.symm⟩)
   ·split at h
    ·split at h
     ·injection h with h;exact absurd ⟨_,h.symm⟩ hs
     ·cases h
    ·cases h
   ·cases h
  rw[BJ hd es 0 r hr]
  rfl
end
end Go.Vc
