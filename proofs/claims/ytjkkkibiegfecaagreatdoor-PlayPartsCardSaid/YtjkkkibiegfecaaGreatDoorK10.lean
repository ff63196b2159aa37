/- Texts put behind each other. -/
import Derived.Test.YtjkkkibiegfecaaGreatDoorK98
import Derived.Test.YtjkkkibiegfecaaGreatDoorK8
import Derived.Lib.ConvBytes
import Derived.Laws.AppendOwn
import Derived.Laws.Append
set_option maxRecDepth 100000
set_option maxHeartbeats 8000000
set_option linter.unusedVariables false
set_option linter.unusedSimpArgs false
namespace Go.Vc
section
variable {P : Program} {o : Oper} {a : Act} {ev : Ev} {H : Hp} {K : Value → Hp → Prop}
theorem LF{t kt e:TypeId}{s:Shape}{z:Value}{x y:Operand}{ok:Bool}(bO:bT ev a)(ho:o.op= .lookup t x y ok)(ht:P.underlying t=some (.map kt e))
  (hs:cF P kt=some s)(hz:fO P e=some z)(h:(dD.lookup s z ok x y).vc P ev H K):ef P o a H K:=by
 intro w hw
 subst hw
 obtain⟨r,hx,h⟩:=kQ (aV bO (aV bO h))
 obtain⟨hk,h⟩:=h.out
 cases r with
 |none=>
  refine .inl ⟨iq ok z none,w,?_,cz.refl w,h⟩
  have hf:=jo (P:=P) (k:=a.eval y) (es:=[]) (r:=none) hs rfl w
  simp only[execOp,ho,Instr.lookup,Sem.run_bind,au ht,Result.andThen_ok,hx,Sem.run_pure,ir hs hk,hf,cJ hz]
  cases ok<;>rfl
 |some b=>
  obtain⟨m,hm,h⟩:=aB h
  obtain⟨rr,hr,h⟩:=aB h
  obtain⟨es,he,hl⟩:=Fv hm
  rw[←hl]at hr
  refine .inl ⟨iq ok z (rr.map (·.2)),w,?_,cz.refl w,h⟩
  simp only[execOp,ho,Instr.lookup,Sem.run_bind,au ht,Result.andThen_ok,hx,Sem.run_pure,pj he,ir hs hk,jo hs hr]
  cases rr with
  |none=>simp only[cJ hz,Result.andThen_ok,Sem.run_bind,Sem.run_pure];cases ok<;>rfl
  |some q=>cases ok<;>rfl
theorem LG{t kt e:TypeId}{s:Shape}{x y z:Operand}(bO:bT ev a)(ho:o.op= .mapUpdate t x y z)(ht:P.underlying t=some (.map kt e))
  (hs:cF P kt=some s)(h:(dD.update s x y z).vc P ev H K):ef P o a H K:=by
 intro w hw
 subst hw
 obtain⟨r,hx,h⟩:=kQ (aV bO (aV bO (aV bO h)))
 obtain⟨b,rfl,h⟩:=aB h
 obtain⟨hk,h⟩:=h.out
 obtain⟨m,hm,h⟩:=aB h
 obtain⟨rr,hr,h⟩:=aB h
 obtain⟨yQ,h⟩:=h.out
 obtain⟨es,he,hl⟩:=Fv hm
 rw[←hl]at hr
 refine .inr (.inl ⟨{w with heap:=Hp.Eo w.heap b (Nv m.1 rr (a.eval y) (a.eval z) m.2) (J4 rr m.2)},?_,⟨rfl,rfl⟩,h⟩)
 simp only[execOp,ho,Instr.mapUpdate,Sem.run_bind,au ht,Result.andThen_ok,hx,pj he,ir hs hk,jo hs hr]
 cases rr with
 |none=>
  simp only[pk he,Result.andThen_ok,Sem.run_pure,Nv,J4,←hl]
  simp
 |some q=>
  obtain⟨i,v⟩:=q
  have hb:Instr.sameBits 10000 (((es[i]?).map (·.key)).getD (a.eval y)) (a.eval y)=true:=by
   simp only[Fw,←hl]at yQ
   simpa using yQ
  simp only[Instr.keyThatStays,hb,if_true,Sem.run_bind,Sem.run_pure,Result.andThen_ok,pk he,Nv,J4,←hl]
  simp
theorem LH{kt e:TypeId}{s:Shape}{c:Call}{x y:Operand}(bO:bT ev a)(ho:o.op= .call c)(hc:c.callee= .builtin .delete)(ly:c.args.toList=[x,y])
  (yo:(c.argTypes[0]?).bind P.underlying=some (.map kt e))(hs:cF P kt=some s)(h:(dD.delete s x y).vc P ev H K):ef P o a H K:=by
 intro w hw
 subst hw
 obtain⟨r,hx,h⟩:=kQ (aV bO (aV bO h))
 obtain⟨b,rfl,h⟩:=aB h
 obtain⟨hk,h⟩:=h.out
 obtain⟨m,hm,h⟩:=aB h
 obtain⟨rr,hr,h⟩:=aB h
 obtain⟨es,he,hl⟩:=Fv hm
 rw[←hl]at hr
 have ha:c.args= #[x,y]:=Array.ext' ly
 obtain⟨t,uI,yR⟩:=Option.bind_eq_some_iff.1 yo
 refine .inl ⟨.tuple [].toArray,{w with heap:=Hp.Eo w.heap b (FN m.1 rr) m.2},?_,⟨rfl,rfl⟩,h⟩
 simp only[execOp,ho,resolve,hc,Sem.run_bind,Sem.run_pure,Result.andThen_ok,invoke,builtin,ha,Builtin.delete_,uI]
 simp only[List.map_toArray,apd,List.map_nil,apy,ao7,apw,Sem.run_bind,au yR,Result.andThen_ok,hx,pj he,ir hs hk,jo hs hr]
 cases rr with
 |none=>simp only[Sem.run_bind,pk he,Result.andThen_ok,Sem.run_pure,FN,←hl]
 |some q=>
  obtain⟨i,v⟩:=q
  simp only[Sem.run_bind,pk he,Result.andThen_ok,Sem.run_pure,FN,←hl,Array.toList_eraseIdxIfInBounds]
theorem Nx{e:TypeId}{z:Value}{c:Call}{x:Operand}(bO:bT ev a)(ho:o.op= .call c)(hc:c.callee= .builtin .clear)(ly:c.args.toList=[x])
  (yo:(c.argTypes[0]?).bind P.underlying=some (.slice e))(hz:fO P e=some z)(UF:(aI z).length≠0)(h:(dD.Ny (aI z) x).vc P ev H K):ef P o a H K:=by
 intro w hw
 subst hw
 obtain⟨ad,n,cp,hx,h⟩:=iM (aV bO h)
 have ha:c.args= #[x]:=Array.ext' ly
 obtain⟨t,uI,yR⟩:=Option.bind_eq_some_iff.1 yo
 have RE:z.cells.toList=aI z:=eY z
 rcases h with ⟨rfl,h⟩| ⟨hn,b,off,l,rfl,hl,h1,h2,h⟩
 ·refine .inl ⟨.tuple [].toArray,w,?_,cz.refl w,h⟩
  simp only[execOp,ho,resolve,hc,Sem.run_bind,Sem.run_pure,Result.andThen_ok,invoke,builtin,ha,Builtin.clear_,uI]
  simp only[List.map_toArray,apd,List.map_nil,apy,ao7,Sem.run_bind,au yR,Result.andThen_ok,hx]
  cases ad<;>simp
 ·have e1:(Builtin.zeroCells z.cells n).toList=dE (aI z) n:=by
   unfold Builtin.zeroCells
   grind [AI]
  have bu:(dE (aI z) n).length=n*(aI z).length:=by simp[dE]
  obtain⟨w',hs,Nz,hk,_⟩:=iB (P:=P) (b:=b) (o:=off) (dE (aI z) n) 0 w l hl (by omega) h1
  have bN:dE (aI z) n≠[]:=fun e=>by
   rw[e]at bu
   simp only[aoH]at bu
   rcases Nat.mul_eq_zero.1 bu.symm with h|h
   ·omega
   omega
  refine .inl ⟨.tuple [].toArray,w',?_,Nz,?_⟩
  ·simp only[execOp,ho,resolve,hc,Sem.run_bind,Sem.run_pure,Result.andThen_ok,invoke,builtin,ha,Builtin.clear_,uI]
   simp only[List.map_toArray,apd,List.map_nil,apy,ao7,Sem.run_bind,au yR,Result.andThen_ok,hx]
   cases n with
   |zero=>omega
   |succ n=>simp[cJ hz,e1,hs]
  grind
theorem rY{f:FuncId}(hc:eZ P f=true)(args:Array Value)(w:World):(callFunc f args).run P w= .ok (.enter f args) w:=by
 unfold eZ at hc
 split at hc
 ·rename_i fn hf
  simp only[aoW,bne_iff_ne,ne_eq]at hc
  obtain⟨bd,hb⟩:=Option.isSome_iff_exists.1 hc.2
  simp[callFunc,hf,hc.1,hb]
 grind
theorem Qh{f:FuncId}{c:Call}(bO:bT ev a)(ho:o.op= .call c)(hc:c.callee= .value (.func f))(hb:eZ P f=true)
  (h:(dD.call f c.args.toList).vc P ev H K):ef P o a H K:=by
 intro w hw
 subst hw
 have h:=lz bO h
 refine .inr (.inr ⟨f,(c.args.map a.eval),w,?_,cz.refl w,by simpa using h⟩)
 simp[execOp,ho,resolve,hc,Act.eval,Deferred.ofValue,invoke,rY hb]
theorem R4{f:FuncId}{c:Call}(bO:bT ev a)(ho:o.op= .call c)(hc:c.callee= .value (.func f))
  (h:(dD.ext f c.args.toList).vc P ev H K):ef P o a H K:=by
 intro w hw
 subst hw
 obtain⟨v,hv,hk⟩:=lz bO h
 refine .inl ⟨v,w,?_,cz.refl w,hk⟩
 have Lr:(callFunc f (c.args.map a.eval)).run P w= .ok (.value v) w:=by
  have h1:=hv w
  rw[show(List.map a.eval c.args.toList).toArray=c.args.map a.eval from(by grind)]at h1
  exact h1
 simp[execOp,ho,resolve,hc,Act.eval,Deferred.ofValue,invoke,Lr]
theorem R5{f:Operand}{c:Call}(bO:bT ev a)(ho:o.op= .call c)(hc:c.callee= .value f)
  (h:(dD.dyn f c.args.toList).vc P ev H K):ef P o a H K:=by
 intro w hw
 subst hw
 have h:=lz bO (aV bO h)
 unfold WW at h
 split at h
 ·rename_i g first captured hf
  refine .inr (.inr ⟨g,first++c.args.map a.eval++captured,w,?_,cz.refl w,by simpa using h.2⟩)
  simp only[execOp,ho,resolve,hc,hf,Deferred.ofValue,Sem.run_bind,Sem.run_pure,Result.andThen_ok,invoke,rY h.1]
 ·exact h.elim
theorem LI{r:Operand}{name:String}{c:Call}(bO:bT ev a)(ho:o.op= .call c)(hc:c.callee= .invoke r name)
  (h:(dD.invoke r name c.args.toList).vc P ev H K):ef P o a H K:=by
 intro w hw
 subst hw
 obtain⟨T,v,f,rv,hr,⟨Ep,hm⟩,h⟩:=lz bO (aV bO h)
 refine .inr (.inr ⟨f, #[rv]++c.args.map a.eval,w,?_,cz.refl w,by simpa using h⟩)
 have hx:(#[Value.iface T v]++c.args.map a.eval)[0]? =some (.iface T v):=by rw[apr (by simp)];rfl
 have tV:(#[Value.iface T v]++c.args.map a.eval).extract 1 (#[Value.iface T v]++c.args.map a.eval).size=c.args.map a.eval:=by
  apply Array.ext'
  simp only[Array.toList_extract,Array.toList_append,Array.toList_map,Array.size_append]
  simp[List.take_of_length_le]
 simp only[execOp,ho,resolve,hc,hr,Sem.run_bind,Sem.run_pure,Result.andThen_ok,invoke,hx,tV,callMethod,run_program,hm w rfl,rY Ep]
theorem nq{c:Call}{x:Operand}(ho:o.op= .call c)(hc:c.callee= .builtin .len)(ly:c.args.toList=[x]){w:World}{n:Nat}
  (hr:(Builtin.len_ c.argTypes o.type #[a.eval x]).run P w= .ok (goInt n) w):(execOp a.eval o).run P w= .ok (.value (.int .i64 n)) w:=by
 have ha:c.args= #[x]:=Array.ext' ly
 have Zk:c.args.map a.eval= #[a.eval x]:=by rw[ha];simp
 simp only[execOp,ho,resolve,hc,Sem.run_bind,Sem.run_pure,Result.andThen_ok,invoke,builtin,Zk,hr,goInt]
theorem Qi{c:Call}{x:Operand}{e:TypeId}(bO:bT ev a)(ho:o.op= .call c)(hc:c.callee= .builtin .len)(ly:c.args.toList=[x])
  (yo:(c.argTypes[0]?).bind P.underlying=some (.slice e))(h:(dD.uN x).vc P ev H K):dX P o a H K:=by
 obtain⟨t,uI,yR⟩:=Option.bind_eq_some_iff.1 yo
 obtain⟨ad,n,cp,hx,h⟩:=iM (aV bO h)
 refine⟨_,fun w=>nq ho hc ly (n:=n) ?_,h⟩
 simp[Builtin.len_,uI,au yR,goInt,hx]
theorem Qj{c:Call}{x:Operand}(bO:bT ev a)(ho:o.op= .call c)(hc:c.callee= .builtin .len)(ly:c.args.toList=[x])
  (yo:(c.argTypes[0]?).bind P.underlying=some .string)(h:(dD.UG x).vc P ev H K):dX P o a H K:=by
 obtain⟨t,uI,yR⟩:=Option.bind_eq_some_iff.1 yo
 obtain⟨s,hx,h⟩:=nu (aV bO h)
 refine⟨_,fun w=>nq ho hc ly (n:=s.size) ?_,h⟩
 simp[Builtin.len_,uI,au yR,goInt,hx]
theorem Qk{c:Call}{x:Operand}{k e:TypeId}(bO:bT ev a)(ho:o.op= .call c)(hc:c.callee= .builtin .len)(ly:c.args.toList=[x])
  (yo:(c.argTypes[0]?).bind P.underlying=some (.map k e))(h:(dD.UH x).vc P ev H K):ef P o a H K:=by
 intro w hw
 subst hw
 obtain⟨t,uI,yR⟩:=Option.bind_eq_some_iff.1 yo
 obtain⟨r,hx,h⟩:=kQ (aV bO h)
 cases r with
 |none=>
  refine .inl ⟨_,w,nq ho hc ly (n:=0) ?_,cz.refl w,h⟩
  simp[Builtin.len_,uI,au yR,goInt,hx]
 |some b=>
  obtain⟨m,hm,h⟩:=aB h
  obtain⟨es,he,hl⟩:=Fv hm
  refine .inl ⟨_,w,nq ho hc ly (n:=m.1.length) ?_,cz.refl w,h⟩
  simp[Builtin.len_,uI,au yR,goInt,hx,pj he,←hl]
theorem UI:∀ (r:List Value) (x v:Value),LJ x r=some v→∀w:World,(r.foldlM Builtin.min2 x).run P w= .ok v w:=by
 intro r
 induction r with
 |nil=>intro x v h w;injection h with h;simp_all
 |cons y r ih=>
  intro x v h w
  unfold LJ at h
  split at h
  ·rename_i k p k' q
   simp[List.foldlM_cons,Builtin.min2,ih _ v h w]
  grind
theorem UJ:∀ (r:List Value) (x v:Value),LK x r=some v→∀w:World,(r.foldlM Builtin.max2 x).run P w= .ok v w:=by
 intro r
 induction r with
 |nil=>intro x v h w;injection h with h;simp_all
 |cons y r ih=>
  intro x v h w
  unfold LK at h
  split at h
  ·rename_i k p k' q
   simp[List.foldlM_cons,Builtin.max2,ih _ v h w]
  grind
theorem R6{c:Call}(bO:bT ev a)(ho:o.op= .call c)(hc:c.callee= .builtin .min)(h:(dD.UK c.args.toList).vc P ev H K):dX P o a H K:=by
 obtain⟨v,hv,h⟩:=aB (lz bO h)
 refine⟨v,fun w=>?_,h⟩
 have e:(Builtin.min_ c.argTypes o.type (c.args.map a.eval)).run P w= .ok v w:=by
  unfold Builtin.min_
  rw[Array.toList_map]
  cases hl:c.args.toList.map a.eval with
  |nil=>rw[hl]at hv;cases hv
  |cons x r=>rw[hl]at hv;exact UI r x v hv w
 simp only[execOp,ho,resolve,hc,Sem.run_bind,Sem.run_pure,Result.andThen_ok,invoke,builtin,e]
theorem R7{c:Call}(bO:bT ev a)(ho:o.op= .call c)(hc:c.callee= .builtin .max)(h:(dD.UL c.args.toList).vc P ev H K):dX P o a H K:=by
 obtain⟨v,hv,h⟩:=aB (lz bO h)
 refine⟨v,fun w=>?_,h⟩
 have e:(Builtin.max_ c.argTypes o.type (c.args.map a.eval)).run P w= .ok v w:=by
  unfold Builtin.max_
  rw[Array.toList_map]
  cases hl:c.args.toList.map a.eval with
  |nil=>rw[hl]at hv;cases hv
  |cons x r=>rw[hl]at hv;exact UJ r x v hv w
 simp only[execOp,ho,resolve,hc,Sem.run_bind,Sem.run_pure,Result.andThen_ok,invoke,builtin,e]
theorem yS{H:Hp}{size:Nat}{v:Value}{F:Nat→List Value→Prop}(h:rowOf H size v F):
  ∃ (n:Nat) (l:List Value),F n l∧(∀w:World,(Builtin.lenOf v).run P w= .ok n w)∧(∀w:World,w.heap=H→(Builtin.firstCells size n v).run P w= .ok l.toArray w)∧l.length=n*size∧
   (∀b m c,v= .slice b m c→m=n):=by
 unfold rowOf at h
 split at h
 ·rename_i a n c
  by_cases uJ:n=0
  ·subst uJ
   refine⟨0,[],h,fun _=>rfl,fun w hw=>?_,by simp,by grind⟩
   cases a with
   |none=>rfl
   |some a=>simp only[Builtin.firstCells,aoG];rfl
  ·have e0:(n==0)=false:=by simpa using uJ
   rw[e0]at h
   obtain⟨b,off,rfl,h1⟩:=nR (F:=fun b o=>aD (H.rd b) fun l=>eo (o+n*size≤l.length) (F n ((l.drop o).take (n*size)))) h
   obtain⟨l,hl,h2⟩:=aB h1
   obtain⟨hn,h3⟩:=h2.out
   refine⟨n,_,h3,fun _=>rfl,fun w hw=>?_,by grind,by grind⟩
   subst hw
   exact qw (P:=P) (a:=⟨b,off,none⟩) rfl hl hn
 ·rename_i s
  obtain⟨e1,h2⟩:=h.out
  subst e1
  refine⟨s.size,_,h2,fun _=>rfl,fun w _=>?_,?_,by grind⟩
  ·simp only[Builtin.firstCells,Sem.run_pure]
   congr 1
   apply Array.ext'
   simp_all
  simp_all
 grind
theorem J5{s t e:TypeId}{x:Operand}(bO:bT ev a)(ho:o.op= .convert s t x)(hs:P.underlying s=some .string)(ht:P.underlying t=some (.slice e))(he:P.underlying e=some (.int .u8))
  (h:(dD.J6 e x).vc P ev H K):ef P o a H K:=by
 intro w hw
 subst hw
 have h:=aV bO h
 unfold jp at h
 split at h
 ·rename_i bs hx
  have hr:=Lib.run_convert_string_bytes (P:=P) w s t e bs hs ht he
  have Wa:=grownCap_ge w bs.size 0 e
  refine .inl ⟨.slice (some ⟨w.heap.size,0,none⟩) bs.size (grownCap w bs.size 0 e),Lib.bytesWorld w e bs,?_,⟨rfl,rfl⟩,?_⟩
  ·simp only[execOp,ho]
   simp_all
  ·have hk:=h _ Wa
   have e1:(Lib.bytesWorld w e bs).heap=Hp.NA w.heap e ((bs.data.toList.map fun b=>.int .u8 b.toNat)++List.replicate (grownCap w bs.size 0 e - bs.size) (.int .u8 0)):=by
    apply Array.ext_getElem?
    intro i
    rcases Nat.lt_trichotomy i w.heap.size with hi|hi|hi
    ·rw[Lib.bytesWorld_at_old w e bs i hi,LL _ _ _ hi]
    ·subst hi
     rw[Lib.bytesWorld_at_new]
     simp[Hp.NA,Lib.bytesCells]
    ·rw[apf (by rw[Lib.bytesWorld_size];omega),apf (by rw[Ql];omega)]
   grind
 ·exact h.elim
theorem NB:∀ (l:List Value) (bs:List UInt8),bytesOf l=some bs→∀ (s:ByteArray) (w:World),
  (forIn l s fun c (s:ByteArray)=>(match c with| .int .u8 n=>pure (ForInStep.yield (s.push (UInt8.ofNat n.toNat)))|_=>(do stuck "bytesToString: byte expected";pure (ForInStep.yield s)):Sem (ForInStep ByteArray))).run P w= .ok ⟨s.data++bs.toArray⟩ w:=by
 intro l
 induction l with
 |nil=>intro bs h s w;simp only[bytesOf,aoq]at h;simp_all
 |cons v l ih=>
  intro bs h s w
  cases v with
  |int k n=>
   cases k with
   |u8=>
    simp only[bytesOf]at h
    cases hb:bytesOf l with
    |none=>grind
    |some r=>
     simp_all
   |_=>simp[bytesOf]at h
  |_=>simp[bytesOf]at h
theorem NC{s t e:TypeId}{x:Operand}(bO:bT ev a)(ho:o.op= .convert s t x)(hs:P.underlying s=some (.slice e))(ht:P.underlying t=some .string)(he:P.underlying e=some (.int .u8))
  (h:(dD.Py x).vc P ev H K):ef P o a H K:=by
 intro w hw
 subst hw
 have h:=aV bO h
 unfold uO at h
 split at h
 ·rename_i ad n c hx
  obtain⟨m,l,h,h1,h2,h3,h4⟩:=yS (P:=P) h
  obtain⟨bs,hb,h⟩:=aB h
  refine .inl ⟨_,w,?_,cz.refl w,h⟩
  have hm:n=m:=h4 _ _ _ rfl
  subst hm
  have h5:=h2 w rfl
  have key:(Conv.bytesToString (.slice ad n c)).run P w= .ok (.string ⟨bs.toArray⟩) w:=by
   cases ad with
   |none=>
    simp only[Builtin.firstCells,Sem.run_pure,Result.ok.injEq,and_true]at h5
    have hl:l=[]:=by
     have:=aoo Array.toList h5
     simpa using this.symm
    subst hl
    simp only[bytesOf,aoq]at hb
    subst hb
    rfl
   |some ad=>
    simp only[Builtin.firstCells,aok]at h5
    simp only[Conv.bytesToString,Sem.run_bind,h5,Result.andThen_ok]
    rw[List.forIn_toArray]
    refine(aoo (fun r=>Result.andThen r fun a w'=>Sem.run P (pure (Value.string a)) w') (NB (P:=P) l bs hb ByteArray.empty w)).trans ?_
    simp only[Result.andThen_ok,Sem.run_pure]
    congr 3
    simp
  simp only[execOp,ho,convert,hx,Sem.run_bind,au hs,au ht,au he,Result.andThen_ok,key]
  rfl
 ·exact h.elim
theorem isRow{d:TypeDesc}(hd:CM d=true):(∃e,d= .slice e)∨d= .string:=by
 cases d<;>grind [CM]
theorem HY{WX:Array TypeId}{ty t t' e:TypeId}{d:TypeDesc}{w:World}{base:Option Addr}{n cap m:Nat}{y:Value}{new:Array Value}(uI:WX[0]? =some t)(Qm:WX[1]? =some t')
  (yR:P.underlying t=some (.slice e))(FO:P.underlying t'=some d)(hd:CM d=true)(hi:(P.info? e).isSome=true)
  (bu:(Builtin.lenOf y).run P w= .ok m w)(ND:(Builtin.firstCells (P.cellsOf e) m y).run P w= .ok new w)(AB:n+m≤cap):
  (Builtin.append_ WX ty #[.slice base n cap,y]).run P w=
   ((match base with|some a=>storeCells (a.add (n*P.cellsOf e)) new.toList|none=>(pure ():Sem Unit)).run P w).andThen fun _ w'=>.ok (.slice base (n+m) cap) w':=by
 rcases isRow hd with ⟨e',rfl⟩|rfl<;>unfold Builtin.append_<;>
 simp only[apy,ao7,apw,uI,Qm,Sem.run_bind,au yR,au FO,Result.andThen_ok,bM hi,Sem.run_pure,bu,ao6,if_false,if_pos AB,apz,if_true,ND]<;>
 cases base<;>simp only[Sem.run_pure,Result.andThen_ok,Sem.run_bind]
theorem FP{WX:Array TypeId}{ty t t' e:TypeId}{d:TypeDesc}{w:World}{base:Option Addr}{n cap m:Nat}{y z:Value}{new Qn:Array Value}(uI:WX[0]? =some t)(Qm:WX[1]? =some t')
  (yR:P.underlying t=some (.slice e))(FO:P.underlying t'=some d)(hd:CM d=true)(hi:(P.info? e).isSome=true)(hz:fO P e=some z)
  (bu:(Builtin.lenOf y).run P w= .ok m w)(ND:(Builtin.firstCells (P.cellsOf e) m y).run P w.drew= .ok new w.drew)
  (hold:(Builtin.firstCells (P.cellsOf e) n (.slice base n cap)).run P w.drew= .ok Qn w.drew)
  (AB:cap<n+m)(hb:Builtin.nextslicecap (n+m) cap*P.bytesOf e≤2^48)(R3:P.bytesOf e≠0):
  ∃c',n+m≤c'∧(Builtin.append_ WX ty #[.slice base n cap,y]).run P w=
   .ok (.slice (some ⟨w.heap.size,0,none⟩) (n+m) c') {w with drawn:=w.drawn+1,heap:=Hp.new w.heap e ((Qn++new++Builtin.zeroCells z.cells (c' - (n+m))).toList)}:=by
 obtain⟨inf,aay⟩:=Option.isSome_iff_exists.1 hi
 have WY:inf.bytes=P.bytesOf e:=by simp[Program.bytesOf,aay]
 refine⟨(Question.appendCap (n+m) cap e).cut (w.tape w.drawn (.appendCap (n+m) cap e)),by simp[Question.cut],?_⟩
 have bN:n+m≤2^48:=by
  have h1:=le_nextslicecap AB
  have h2:Builtin.nextslicecap (n+m) cap≤Builtin.nextslicecap (n+m) cap*P.bytesOf e:=Nat.le_mul_of_pos_right _ (by omega)
  omega
 have bU:¬ (9223372036854775807< ((n:Int)+(m:Int))):=by omega
 have aeH:¬ (281474976710656<Builtin.nextslicecap (n+m) cap*P.bytesOf e):=by omega
 have hn:¬ (n+m≤cap):=by omega
 rcases isRow hd with ⟨e',rfl⟩|rfl<;>
  simp[Builtin.append_,uI,Qm,au yR,au FO,bM hi,bu,hn,eG aay,WY,R3,aeH,Question.forced,cJ hz,hold,ND,lA]<;>
  exact⟨rfl,rfl,rfl⟩
theorem LM{c:Call}{e:TypeId}{d:TypeDesc}{z:Value}{x y:Operand}(bO:bT ev a)(ho:o.op= .call c)(hc:c.callee= .builtin .append)(ly:c.args.toList=[x,y])
  (yo:(c.argTypes[0]?).bind P.underlying=some (.slice e))(aeI:(c.argTypes[1]?).bind P.underlying=some d)(hd:CM d=true)(hz:fO P e=some z)(hi:(P.info? e).isSome=true)
  (h0:P.cellsOf e≠0)(hl:(aI z).length=P.cellsOf e)(R3:P.bytesOf e≠0)(h:(dD.append e (P.cellsOf e) (P.bytesOf e) (aI z) x y).vc P ev H K):ef P o a H K:=by
 intro w hw
 subst hw
 have ha:c.args= #[x,y]:=Array.ext' ly
 obtain⟨t,uI,yR⟩:=Option.bind_eq_some_iff.1 yo
 obtain⟨t',Qm,FO⟩:=Option.bind_eq_some_iff.1 aeI
 have RE:z.cells.toList=aI z:=eY z
 have UM:z.cells.size=P.cellsOf e:=by rw[←hl,←RE];simp
 obtain⟨base,n,cap,hx,h⟩:=iM (aV bO (aV bO h))
 have h':=h
 obtain⟨m,new,h,bu,ND,hnl,_⟩:=yS (P:=P) h
 obtain⟨hA,hB,hC⟩:=h
 have Zk:c.args.map a.eval= #[.slice base n cap,a.eval y]:=by rw[ha];simp[hx]
 have pre:∀v w',(Builtin.append_ c.argTypes o.type #[.slice base n cap,a.eval y]).run P w= .ok v w'→(execOp a.eval o).run P w= .ok (.value v) w':=by
  intro v w' hr
  simp only[execOp,ho,resolve,hc,Sem.run_bind,Sem.run_pure,Result.andThen_ok,invoke,builtin,Zk,hr]
 by_cases AB:n+m≤cap
 ·have hr:=HY (ty:=o.type) (base:=base) uI Qm yR FO hd hi (bu w) (ND w rfl) AB
  by_cases hm:m=0
  ·subst hm
   have uJ:new=[]:=by grind
   subst uJ
   refine .inl ⟨_,w,pre _ w ?_,cz.refl w,hA AB rfl⟩
   rw[hr]
   cases base<;>rfl
  ·obtain⟨b,off,rfl,hB⟩:=nR (hB AB hm)
   obtain⟨l,Pz,hB⟩:=aB hB
   obtain⟨⟨h1,h2⟩,hB⟩:=hB.out
   obtain⟨w',hs,Nz,hk,_⟩:=iB (P:=P) (b:=b) (o:=off+n*P.cellsOf e) new 0 w l Pz (by grind) h2
   have bN:new≠[]:=fun e'=>by
    rw[e']at hnl
    rcases Nat.mul_eq_zero.1 hnl.symm with h|h
    ·omega
    omega
   refine .inl ⟨_,w',pre _ w' ?_,Nz,hk bN▸hB⟩
   rw[hr]
   simp only[yT,List.toList_toArray,hs,Result.andThen_ok]
 ·obtain⟨hb,hC⟩:=hC (by omega)
  rw[hx]at hC
  obtain⟨n',Qn,hC,_,hold,hol,hn'⟩:=yS (P:=P) hC
  have:n=n':=hn' _ _ _ rfl
  subst this
  obtain⟨c',Ni,hr⟩:=FP (ty:=o.type) (base:=base) uI Qm yR FO hd hi hz (bu w) (ND w.drew rfl) (hold w.drew rfl) (by omega) hb R3
  refine .inl ⟨_,_,pre _ _ hr,⟨rfl,rfl⟩,?_⟩
  have e1:(Qn.toArray++new.toArray++Builtin.zeroCells z.cells (c' - (n+m))).toList=Qn++new++dE (aI z) (c' - (n+m)):=by
   rw[Array.toList_append,Array.toList_append]
   congr 1
   unfold Builtin.zeroCells
   grind [AI]
  grind
end
end Go.Vc

namespace Go.Vc
def dD.cls:dD→LN
 | .ax _| .pick .. | .build .. | .nilCheck _| .jY .. | .un .. | .conv .. | .iface .. | .func .. | .slice .. | .J7 .. | .fieldAddr .. | .field .. | .indexAddr .. | .AJ .. | .J8 .. | .extract ..
 | .uN _| .UG _| .UK _| .UL _| .J9 .. | .UN .. =>.pure
 | .Ka .. =>.pure
 | .aq _| .gO .. | .lookup .. | .UH _| .Py _=>.quiet
 |_=>.HZ
section
variable {P : Program} {o : Oper} {a : Act} {ev : Ev} {H : Hp} {K : Value → Hp → Prop}
theorem sound(i:dD)(hd:Jr P o=some i)(bO:bT ev a)(h:i.vc P ev H K):(i.cls= .pure→dX P o a H K)∧ef P o a H K:=by
 have mk:dX P o a H K→(i.cls= .pure→dX P o a H K)∧ef P o a H K:=fun hp=>⟨fun _=>hp,hp.aeJ⟩
 have mk':i.cls≠ .pure→ef P o a H K→(i.cls= .pure→dX P o a H K)∧ef P o a H K:=by grind
 unfold Jr at hd
 split at hd
 ·rename_i x ho;injection hd with hd;subst hd;exact mk (LO bO (.inl ho) h)
 ·rename_i x ho;injection hd with hd;subst hd;exact mk (LO bO (.inr ho) h)
 ·rename_i c x y ho;injection hd with hd;subst hd;exact mk (Qo bO ho h)
 ·rename_i T x ho;injection hd with hd;subst hd;exact mk' (by simp[dD.cls]) (R9 bO ho h)
 ·rename_i T ho
  cases hz:fO P T with
  |none=>grind
  |some z=>rw[hz]at hd;injection hd with hd;subst hd;exact mk' (by simp[dD.cls]) (Qp hz ho h)
 ·rename_i t ps ho
  cases hz:fO P t with
  |none=>grind
  |some z=>
   rw[hz,Option.bind_some]at hd
   cases hq:parts P t (aI z).length ps.toList with
   |none=>grind
   |some qs=>grind [NE]
 ·rename_i t n ps ho
  split at hd
  ·rename_i e hu
   cases hz:fO P e with
   |none=>grind
   |some z=>
    rw[hz,Option.bind_some]at hd
    split at hd
    ·rename_i hc
     cases hq:lf (fun i=>some (i*P.cellsOf e,P.cellsOf e)) (n*P.cellsOf e) ps.toList with
     |none=>grind
     |some qs=>grind [dD.cls,Sa]
    grind
  grind
 ·rename_i t x ho
  split at hd
  ·rename_i hc
   split at hd
   ·rename_i hg;injection hd with hd;subst hd;exact mk' (by simp[dD.cls]) (NF bO ho hc.1 hc.2 hg h)
   ·rename_i hg;injection hd with hd;subst hd;exact mk' (by simp[dD.cls]) (NG bO ho hc.1 hc.2 (by grind) h)
  grind
 ·rename_i t x y ho
  split at hd
  ·rename_i hc;injection hd with hd;subst hd;exact mk' (by simp[dD.cls]) (NH bO ho hc.1 hc.2 h)
  grind
 ·rename_i x ho;injection hd with hd;subst hd;exact mk (Ia bO ho h)
 ·rename_i op t x y t' ho
  split at hd
  ·split at hd
   ·rename_i ms hu;injection hd with hd;subst hd;exact mk (Js bO ho hu (by grind) h)
   ·cases hs:shapeOf P fY t with
    |none=>grind
    |some s=>
     rw[hs,Option.bind_some]at hd
     split at hd
     ·rename_i hc;injection hd with hd;subst hd;exact mk (FQ bO ho (by grind) h)
     grind
  ·split at hd
   ·rename_i ms hu;injection hd with hd;subst hd;exact mk (Js bO ho hu (by grind) h)
   ·cases hs:shapeOf P fY t with
    |none=>grind
    |some s=>
     rw[hs,Option.bind_some]at hd
     split at hd
     ·rename_i hc;injection hd with hd;subst hd;exact mk (FQ bO ho (by grind) h)
     grind
  ·rename_i h1 h2
   injection hd with hd;subst hd;exact mk (FQ bO ho (by grind) h)
 ·rename_i op t x ho;injection hd with hd;subst hd;exact mk (UO bO ho h)
 ·rename_i s t x ho
  split at hd
  ·rename_i k' k h1 h2;injection hd with hd;subst hd;exact mk (Qq bO ho h1 h2 h)
  ·rename_i e h1 h2
   split at hd
   ·rename_i h3;injection hd with hd;subst hd;exact mk' (by simp[dD.cls]) (NC bO ho h1 h2 h3 h)
   grind
  ·rename_i e h1 h2
   split at hd
   ·rename_i h3;injection hd with hd;subst hd;exact mk' (by simp[dD.cls]) (J5 bO ho h1 h2 h3 h)
   grind
  grind
 ·rename_i t x ho
  split at hd
  ·cases hd
  ·rename_i d hu hn;injection hd with hd;subst hd;exact mk (NI bO ho hn (by omega) h)
  grind
 ·rename_i fn first captured ho;injection hd with hd;subst hd;exact mk (Qr bO ho h)
 ·rename_i t ho;injection hd with hd;subst hd;exact mk' (by simp[dD.cls]) (LP ho h)
 ·rename_i t x y ho
  split at hd
  ·rename_i e hu
   cases hz:fO P e with
   |none=>grind
   |some z=>
    rw[hz,Option.bind_some]at hd
    split at hd
    ·rename_i hc;injection hd with hd;subst hd;exact mk' (by simp[dD.cls]) (FR bO ho hu hz hc.1 hc.2.1 hc.2.2 h)
    grind
  grind
 ·rename_i t x lo hi mx ho
  split at hd
  ·rename_i e hu
   split at hd
   ·rename_i hc;injection hd with hd;subst hd;exact mk (NJ bO ho hu hc.1 (fun hm=>hc.2.elim (fun h1=>by simp_all) id) h)
   grind
  ·rename_i hu
   split at hd
   ·rename_i hc;injection hd with hd;subst hd
    cases mx with
    |none=>exact mk (LQ bO ho hu h)
    |some m=>grind
   grind
  grind
 ·rename_i s x f ho
  split at hd
  ·rename_i fields hu
   cases hf:fields[f]? with
   |none=>grind
   |some fd=>
    rw[hf,Option.bind_some]at hd
    split at hd
    ·rename_i hc;injection hd with hd;subst hd;exact mk (FS bO ho hu hf hc.1 hc.2 h)
    grind
  grind
 ·rename_i t x f ho
  split at hd
  ·rename_i fields hu
   cases hf:fields[f]? with
   |none=>grind
   |some fd=>
    rw[hf,Option.bind_some]at hd
    split at hd
    ·rename_i hc;injection hd with hd;subst hd;exact mk (NK bO ho hu hf hc.1 hc.2 h)
    grind
  grind
 ·rename_i t x i' ho
  split at hd
  ·rename_i e hu
   split at hd
   ·rename_i hc;injection hd with hd;subst hd;exact mk (FT bO ho hu hc h)
   grind
  ·rename_i n e hu
   split at hd
   ·rename_i hc;injection hd with hd;subst hd;exact mk (Ib bO ho hu hc h)
   grind
  grind
 ·rename_i t x i' ho
  split at hd
  ·rename_i hu;injection hd with hd;subst hd;exact mk (LR bO ho hu h)
  ·rename_i n e hu
   split at hd
   ·rename_i hc;injection hd with hd;subst hd;exact mk (LS bO ho hu hc.1 hc.2 h)
   grind
  grind
 ·rename_i t x i' ok ho
  split at hd
  ·rename_i k e hu
   cases hs:cF P k with
   |none=>grind
   |some s=>
    rw[hs,Option.bind_some]at hd
    cases hz:fO P e with
    |none=>grind
    |some z=>grind [dD.cls,LF]
  grind
 ·rename_i t m k v ho
  split at hd
  ·rename_i kt e hu
   cases hs:cF P kt with
   |none=>grind
   |some s=>grind [dD.cls,LG]
  ·cases hd
 ·rename_i x i' ho;injection hd with hd;subst hd;exact mk (Kb bO ho h)
 ·rename_i x s T ho
  split at hd
  grind
  ·rename_i d hu hn;injection hd with hd;subst hd;exact mk (LU bO ho hn (by omega) h)
  grind
 ·rename_i c ho
  split at hd
  ·rename_i f hc
   split at hd
   ·rename_i hb;injection hd with hd;subst hd;exact mk' (by simp[dD.cls]) (Qh bO ho hc hb h)
   ·injection hd with hd;subst hd;exact mk' (by simp[dD.cls]) (R4 bO ho hc h)
  ·rename_i x hx hc;injection hd with hd;subst hd;exact mk' (by simp[dD.cls]) (R5 bO ho hc h)
  ·rename_i r name hc;injection hd with hd;subst hd;exact mk' (by simp[dD.cls]) (LI bO ho hc h)
  ·rename_i hc
   split at hd
   ·rename_i x e h1 h2;injection hd with hd;subst hd;exact mk (Qi bO ho hc h1 h2 h)
   ·rename_i x h1 h2;injection hd with hd;subst hd;exact mk (Qj bO ho hc h1 h2 h)
   ·rename_i x k e h1 h2;injection hd with hd;subst hd;exact mk' (by simp[dD.cls]) (Qk bO ho hc h1 h2 h)
   grind
  ·rename_i hc
   split at hd
   ·rename_i x y e d h1 h2 h3
    cases hz:fO P e with
    |none=>grind
    |some z=>
     rw[hz,Option.bind_some]at hd
     split at hd
     ·rename_i hq;injection hd with hd;subst hd;exact mk' (by simp[dD.cls]) (LM bO ho hc h1 h2 h3 hq.2.2.2.2 hz hq.1 hq.2.1 hq.2.2.1 hq.2.2.2.1 h)
     grind
   grind
  ·rename_i hc
   split at hd
   ·rename_i m k kt e h1 h2
    cases hs:cF P kt with
    |none=>grind
    |some s=>grind [dD.cls,LH]
   grind
  ·rename_i hc
   split at hd
   ·rename_i x e h1 h2
    cases hz:fO P e with
    |none=>grind
    |some z=>
     rw[hz,Option.bind_some]at hd
     split at hd
     ·rename_i hq;injection hd with hd;subst hd;exact mk' (by simp[dD.cls]) (Nx bO ho hc h1 h2 hz hq h)
     grind
   grind
  ·rename_i hc;injection hd with hd;subst hd;exact mk (R6 bO ho hc h)
  ·rename_i hc;injection hd with hd;subst hd;exact mk (R7 bO ho hc h)
  grind
 ·cases hd
theorem aj{α:Type}{o:Option α}{F G:α→Prop}(h:aD o F)(hk:∀v,F v→G v):aD o G:=by cases o;exact h;exact hk _ h
theorem bQ{c F G:Prop}(h:eo c F)(hk:F→G):eo c G:=⟨h.1,hk h.2⟩
theorem FU{v:Value}{F G:Bool→Prop}(h:AK v F)(hk:∀b,F b→G b):AK v G:=by unfold AK at*;split at h;exact hk _ h;omega
theorem lB{F G:List Value→Prop}:∀ {xs:List Operand},NL ev xs F→(∀l,F l→G l)→NL ev xs G:=by
 intro xs
 induction xs generalizing F G with
 |nil=>intro h hk;exact hk _ h
 |cons x xs ih=>intro h hk;exact aj h (by grind)
theorem FV{F G:List Value→Prop}:∀ {r:List (Nat×Nat×Operand)} {z:List Value},AL ev z r F→(∀l,F l→G l)→AL ev z r G:=by
 intro r
 induction r with
 |nil=>intro z h hk;exact hk _ h
 |cons p r ih=>obtain⟨off,size,x⟩:=p;intro z h hk;exact aj h fun v h=>bQ h fun h=>ih h hk
theorem qz{v:Value}{F G:Nat→Nat→Prop}(h:wU v F)(hk:∀b o,F b o→G b o):wU v G:=by obtain⟨b,o,rfl,h⟩:=fG h;exact hk _ _ h
theorem iN{v:Value}{F G:Int→Prop}(h:AM v F)(hk:∀b,F b→G b):AM v G:=by obtain⟨b,o,rfl,h⟩:=gG h;exact hk _ h
theorem lC{v:Value}{F G:Option Addr→Nat→Nat→Prop}(h:pP v F)(hk:∀a n c,F a n c→G a n c):pP v G:=by obtain⟨a,n,c,rfl,h⟩:=iM h;exact hk _ _ _ h
theorem yU{v:Option Addr}{F G:Nat→Nat→Prop}(h:tq v F)(hk:∀b o,F b o→G b o):tq v G:=by obtain⟨b,o,rfl,h⟩:=nR h;exact hk _ _ h
theorem rZ{v:Value}{F G:ByteArray→Prop}(h:jp v F)(hk:∀b,F b→G b):jp v G:=by obtain⟨b,rfl,h⟩:=nu h;exact hk _ h
theorem Qs{v:Value}{F G:List Value→Prop}(h:Qt v F)(hk:∀b,F b→G b):Qt v G:=by obtain⟨b,rfl,h⟩:=Jt h;exact hk _ h
theorem Ju{v:Value}{F G:List Value→Prop}(h:NM v F)(hk:∀b,F b→G b):NM v G:=by obtain⟨b,rfl,h⟩:=CN h;exact hk _ h
theorem wG{v:Value}{F G:Option Nat→Prop}(h:CO v F)(hk:∀b,F b→G b):CO v G:=by obtain⟨b,rfl,h⟩:=kQ h;exact hk _ h
theorem Qu{v:Value}{F G:Bool→Prop}(h:NN v F)(hk:∀b,F b→G b):NN v G:=by
 rcases Jv h with ⟨e,h⟩| ⟨t,u,e,h⟩<;>subst e<;>exact hk _ h
theorem Kc{T:TypeId}{v:Value}{F G:Value→Prop}(h:wH T v F)(hk:∀b,F b→G b):wH T v G:=by obtain⟨b,e,h2⟩:=AN h;subst e;exact⟨rfl,hk _ h2⟩
theorem yV{H:Hp}{size:Nat}{v:Value}{F G:Nat→List Value→Prop}(h:rowOf H size v F)(hk:∀n l,F n l→G n l):rowOf H size v G:=by
 unfold rowOf at*
 split at h
 ·rename_i a n c
  cases hn:n==0
  ·rw[hn]at h
   exact yU h fun b o h=>aj h fun l h=>bQ h (hk _ _)
  ·rw[hn]at h
   exact hk _ _ h
 ·exact bQ h (hk _ _)
 omega
theorem LV{H:Hp}{v:Value}{F G:List UInt8→Prop}(h:uO H v F)(hk:∀b,F b→G b):uO H v G:=by
 unfold uO at*
 split at h
 ·exact yV h fun n l h=>aj h hk
 omega
theorem lD{x:Option Operand}{d:Nat}{F G:Int→Prop}(h:pQ ev x d F)(hk:∀b,F b→G b):pQ ev x d G:=by
 cases x with
 |none=>exact hk _ h
 |some x=>exact aj h fun v h=>iN h hk
theorem PA{K':Value→Hp→Prop}(i:dD)(hc:i.cls= .pure)(h:i.vc P ev H K)(hk:∀v H',K v H'→K' v H'):i.vc P ev H K':=by
 cases i<;>simp[dD.cls]at hc<;>simp only[dD.vc]at h ⊢
 ·exact aj h fun v=>hk _ _
 ·exact aj h fun v h=>FU h fun b h=>aj h fun v=>hk _ _
 ·exact FV h fun l=>hk _ _
 ·exact aj h fun v h=>bQ h (hk _ _)
 ·exact aj h fun v h=>aj h fun v h=>aj h fun v=>hk _ _
 ·exact aj h fun v h=>aj h fun v=>hk _ _
 ·exact aj h fun v h=>iN h fun v=>hk _ _
 ·exact aj h fun v=>hk _ _
 ·exact lB h fun l h=>lB h fun l=>hk _ _
 ·exact aj h fun v h=>lC h fun a n c h=>lD h fun m h=>lD h fun m h=>lD h fun m h=>bQ h (hk _ _)
 ·exact aj h fun v h=>rZ h fun s h=>lD h fun m h=>lD h fun m h=>bQ h (hk _ _)
 ·exact aj h fun v h=>qz h fun b o=>hk _ _
 ·exact aj h fun v h=>Ju h fun l h=>aj h fun v=>hk _ _
 ·exact aj h fun v h=>aj h fun v h=>lC h fun a n c h=>iN h fun i h=>bQ h fun h=>yU h fun b o=>hk _ _
 ·exact aj h fun v h=>aj h fun v h=>qz h fun b o h=>iN h fun i h=>bQ h (hk _ _)
 ·exact aj h fun v h=>aj h fun v h=>rZ h fun s h=>iN h fun i h=>bQ h fun h=>aj h fun b=>hk _ _
 ·exact aj h fun v h=>aj h fun v h=>Ju h fun s h=>iN h fun i h=>bQ h fun h=>aj h fun b=>hk _ _
 ·exact aj h fun v h=>Qs h fun l h=>aj h fun v=>hk _ _
 ·exact aj h fun v h=>lC h fun a n c=>hk _ _
 ·exact aj h fun v h=>rZ h fun s=>hk _ _
 ·exact lB h fun l h=>aj h fun v=>hk _ _
 ·exact lB h fun l h=>aj h fun v=>hk _ _
 ·exact aj h fun v h=>Kc h fun v=>hk _ _
 ·exact aj h fun v h=>Qu h fun v=>hk _ _
theorem Sb(i:dD)(hc:i.cls= .quiet)(h:i.vc P ev H K):∃v,i.vc P ev H (fun v' H'=>v'=v∧H'=H)∧K v H:=by
 cases i<;>simp[dD.cls]at hc
 ·obtain⟨p,hp,h⟩:=aB h
  obtain⟨b,o,rfl,h⟩:=fG h
  obtain⟨l,hl,h⟩:=aB h
  obtain⟨v,hv,h⟩:=aB h
  exact⟨v,by simp only[dD.vc,hp,aD,wU,hl,hv,and_self],h⟩
 ·obtain⟨p,hp,h⟩:=aB h
  obtain⟨b,o,rfl,h⟩:=fG h
  obtain⟨l,hl,h⟩:=aB h
  obtain⟨hn,h⟩:=h.out
  exact⟨_,by simp only[dD.vc,hp,aD,wU,hl,eo,hn,and_self],h⟩
 ·rename_i s z ok m k
  obtain⟨p,hp,h⟩:=aB h
  obtain⟨q,hq,h⟩:=aB h
  obtain⟨r,rfl,h⟩:=kQ h
  obtain⟨hn,h⟩:=h.out
  cases r with
  |none=>exact⟨_,by simp only[dD.vc,hp,hq,aD,CO,eo,hn,D1,and_self],h⟩
  |some b=>
   obtain⟨x,hx,h⟩:=aB h
   obtain⟨y,hy,h⟩:=aB h
   exact⟨_,by simp only[dD.vc,hp,hq,aD,CO,eo,hn,D1,hx,hy,and_self],h⟩
 ·obtain⟨p,hp,h⟩:=aB h
  obtain⟨r,rfl,h⟩:=kQ h
  cases r with
  |none=>exact⟨_,by simp only[dD.vc,hp,aD,CO,LW,and_self],h⟩
  |some b=>
   obtain⟨x,hx,h⟩:=aB h
   exact⟨_,by simp only[dD.vc,hp,aD,CO,LW,hx,and_self],h⟩
 ·obtain⟨p,hp,h⟩:=aB h
  have key:∃l,K (.string ⟨l.toArray⟩) H∧uO H p (fun l'=>l'=l):=by
   unfold uO at*
   split at h
   ·rename_i a n c
    unfold rowOf at*
    simp only at*
    cases hn:n==0
    ·rw[hn]at h
     obtain⟨b,o,rfl,h⟩:=nR h
     obtain⟨l,hl,h⟩:=aB h
     obtain⟨h1,h⟩:=h.out
     obtain⟨bs,hb,h⟩:=aB h
     exact⟨bs,h,by simp only[FW,tq,aD,hl,eo,h1,hb,and_self]⟩
    ·rw[hn]at h
     have h:aD (bytesOf []) fun l=>K (.string ⟨l.toArray⟩) H:=h
     obtain⟨bs,hb,h⟩:=aB h
     exact⟨bs,h,by simp only[FW,aD,hb]⟩
   ·grind
  obtain⟨l,h1,h2⟩:=key
  refine⟨_,?_,h1⟩
  simp only[dD.vc,hp,aD]
  grind
end
end Go.Vc
