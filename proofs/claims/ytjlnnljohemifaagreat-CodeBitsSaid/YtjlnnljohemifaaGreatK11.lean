/- Texts put behind each other. -/
import Derived.Test.YtjlnnljohemifaaGreatK98
import Derived.Test.YtjlnnljohemifaaGreatK10
import Derived.Lib.ConvBytes
import Derived.Laws.AppendOwn
import Derived.Laws.Append
set_option maxRecDepth 100000
set_option maxHeartbeats 8000000
set_option linter.unusedVariables false
set_option linter.unusedSimpArgs false
namespace Go.Vc
section
variable {P : Program} {o : Oper} {a : Act} {ev : Ev} {H : Hp} {K : Value → Hp → Prop}
theorem Kb{t kt e:TypeId}{s:Shape}{z:Value}{x y:Operand}{ok:Bool}(bE:bP ev a)(ho:o.op= .lookup t x y ok)(ht:P.underlying t=some (.map kt e))
  (hs:cr P kt=some s)(hz:fg P e=some z)(h:(da.lookup s z ok x y).vc P ev H K):dO P o a H K:=by
 intro w hw
 subst hw
 obtain⟨r,hx,h⟩:=jV (aU bE (aU bE h))
 obtain⟨hk,h⟩:=h.out
 cases r with
 |none=>
  refine .inl ⟨gR ok z none,w,?_,bZ.refl w,h⟩
  have hf:=iL (P:=P) (k:=a.eval y) (es:=[]) (r:=none) hs rfl w
  simp only[execOp,ho,Instr.lookup,Sem.run_bind,ap ht,Result.andThen_ok,hx,Sem.run_pure,gQ hs hk,hf,cE hz]
  cases ok<;>rfl
 |some b=>
  obtain⟨m,hm,h⟩:=az h
  obtain⟨rr,hr,h⟩:=az h
  obtain⟨es,he,hl⟩:=Ex hm
  rw[←hl]at hr
  refine .inl ⟨gR ok z (rr.map (·.2)),w,?_,bZ.refl w,h⟩
  simp only[execOp,ho,Instr.lookup,Sem.run_bind,ap ht,Result.andThen_ok,hx,Sem.run_pure,nV he,gQ hs hk,iL hs hr]
  cases rr with
  |none=>simp only[cE hz,Result.andThen_ok,Sem.run_bind,Sem.run_pure];cases ok<;>rfl
  |some q=>cases ok<;>rfl
theorem Kc{t kt e:TypeId}{s:Shape}{x y z:Operand}(bE:bP ev a)(ho:o.op= .mapUpdate t x y z)(ht:P.underlying t=some (.map kt e))
  (hs:cr P kt=some s)(h:(da.update s x y z).vc P ev H K):dO P o a H K:=by
 intro w hw
 subst hw
 obtain⟨r,hx,h⟩:=jV (aU bE (aU bE (aU bE h)))
 obtain⟨b,rfl,h⟩:=az h
 obtain⟨hk,h⟩:=h.out
 obtain⟨m,hm,h⟩:=az h
 obtain⟨rr,hr,h⟩:=az h
 obtain⟨tK,h⟩:=h.out
 obtain⟨es,he,hl⟩:=Ex hm
 rw[←hl]at hr
 refine .inr (.inl ⟨{w with heap:=Hp.C9 w.heap b (Ke m.1 rr (a.eval y) (a.eval z) m.2) (IR rr m.2)},?_,⟨rfl,rfl⟩,h⟩)
 simp only[execOp,ho,Instr.mapUpdate,Sem.run_bind,ap ht,Result.andThen_ok,hx,nV he,gQ hs hk,iL hs hr]
 cases rr with
 |none=>
  simp only[nX he,Result.andThen_ok,Sem.run_pure,Ke,IR,←hl]
  simp
 |some q=>
  obtain⟨i,v⟩:=q
  have hb:Instr.sameBits 10000 (((es[i]?).map (·.key)).getD (a.eval y)) (a.eval y)=true:=by
   simp only[Ey,←hl]at tK
   simpa using tK
  simp only[Instr.keyThatStays,hb,if_true,Sem.run_bind,Sem.run_pure,Result.andThen_ok,nX he,Ke,IR,←hl]
  simp
theorem Kf{kt e:TypeId}{s:Shape}{c:Call}{x y:Operand}(bE:bP ev a)(ho:o.op= .call c)(hc:c.callee= .builtin .delete)(kw:c.args.toList=[x,y])
  (u0:(c.argTypes[0]?).bind P.underlying=some (.map kt e))(hs:cr P kt=some s)(h:(da.delete s x y).vc P ev H K):dO P o a H K:=by
 intro w hw
 subst hw
 obtain⟨r,hx,h⟩:=jV (aU bE (aU bE h))
 obtain⟨b,rfl,h⟩:=az h
 obtain⟨hk,h⟩:=h.out
 obtain⟨m,hm,h⟩:=az h
 obtain⟨rr,hr,h⟩:=az h
 obtain⟨es,he,hl⟩:=Ex hm
 rw[←hl]at hr
 have ha:c.args= #[x,y]:=Array.ext' kw
 obtain⟨t,EZ,Gt⟩:=Option.bind_eq_some_iff.1 u0
 refine .inl ⟨.tuple [].toArray,{w with heap:=Hp.C9 w.heap b (E0 m.1 rr) m.2},?_,⟨rfl,rfl⟩,h⟩
 simp only[execOp,ho,resolve,hc,Sem.run_bind,Sem.run_pure,Result.andThen_ok,invoke,builtin,ha,Builtin.delete_,EZ]
 simp only[List.map_toArray,aom,List.map_nil,apf,anY,aov,Sem.run_bind,ap Gt,Result.andThen_ok,hx,nV he,gQ hs hk,iL hs hr]
 cases rr with
 |none=>simp only[Sem.run_bind,nX he,Result.andThen_ok,Sem.run_pure,E0,←hl]
 |some q=>
  obtain⟨i,v⟩:=q
  simp only[Sem.run_bind,nX he,Result.andThen_ok,Sem.run_pure,E0,←hl,Array.toList_eraseIdxIfInBounds]
theorem Mq{e:TypeId}{z:Value}{c:Call}{x:Operand}(bE:bP ev a)(ho:o.op= .call c)(hc:c.callee= .builtin .clear)(kw:c.args.toList=[x])
  (u0:(c.argTypes[0]?).bind P.underlying=some (.slice e))(hz:fg P e=some z)(Ib:(aH z).length≠0)(h:(da.Mr (aH z) x).vc P ev H K):dO P o a H K:=by
 intro w hw
 subst hw
 obtain⟨ad,n,cp,hx,h⟩:=ij (aU bE h)
 have ha:c.args= #[x]:=Array.ext' kw
 obtain⟨t,EZ,Gt⟩:=Option.bind_eq_some_iff.1 u0
 have Mm:z.cells.toList=aH z:=ee z
 rcases h with ⟨rfl,h⟩| ⟨hn,b,off,l,rfl,hl,h1,h2,h⟩
 ·refine .inl ⟨.tuple [].toArray,w,?_,bZ.refl w,h⟩
  simp only[execOp,ho,resolve,hc,Sem.run_bind,Sem.run_pure,Result.andThen_ok,invoke,builtin,ha,Builtin.clear_,EZ]
  simp only[List.map_toArray,aom,List.map_nil,apf,anY,Sem.run_bind,ap Gt,Result.andThen_ok,hx]
  cases ad<;>simp
 ·have e1:(Builtin.zeroCells z.cells n).toList=cA (aH z) n:=by
   unfold Builtin.zeroCells
   rw[zL rfl (by rw[←Mm]at Ib;simpa using Ib),Mm]
  have aX:(cA (aH z) n).length=n*(aH z).length:=by simp[cA]
  obtain⟨w',hs,Ms,hk,_⟩:=gZ (P:=P) (b:=b) (o:=off) (cA (aH z) n) 0 w l hl (by omega) h1
  have aP:cA (aH z) n≠[]:=fun e=>by
   rw[e]at aX
   simp only[aoH]at aX
   rcases Nat.mul_eq_zero.1 aX.symm with h|h
   ·exact hn h
   ·exact Ib h
  refine .inl ⟨.tuple [].toArray,w',?_,Ms,?_⟩
  ·simp only[execOp,ho,resolve,hc,Sem.run_bind,Sem.run_pure,Result.andThen_ok,invoke,builtin,ha,Builtin.clear_,EZ]
   simp only[List.map_toArray,aom,List.map_nil,apf,anY,Sem.run_bind,ap Gt,Result.andThen_ok,hx]
   cases n with
   |zero=>exact absurd rfl hn
   |succ n=>simp[cE hz,e1,hs]
  ·rw[hk aP];exact h
theorem qG{f:FuncId}(hc:ef P f=true)(args:Array Value)(w:World):(callFunc f args).run P w= .ok (.enter f args) w:=by
 unfold ef at hc
 split at hc
 ·rename_i fn hf
  simp only[aol,bne_iff_ne,ne_eq]at hc
  obtain⟨bd,hb⟩:=Option.isSome_iff_exists.1 hc.2
  simp[callFunc,hf,hc.1,hb]
 ·cases hc
theorem OU{f:FuncId}{c:Call}(bE:bP ev a)(ho:o.op= .call c)(hc:c.callee= .value (.func f))(hb:ef P f=true)
  (h:(da.call f c.args.toList).vc P ev H K):dO P o a H K:=by
 intro w hw
 subst hw
 have h:=kA bE h
 refine .inr (.inr ⟨f,(c.args.map a.eval),w,?_,bZ.refl w,by simpa using h⟩)
 simp[execOp,ho,resolve,hc,Act.eval,Deferred.ofValue,invoke,qG hb]
theorem QV{f:FuncId}{c:Call}(bE:bP ev a)(ho:o.op= .call c)(hc:c.callee= .value (.func f))
  (h:(da.ext f c.args.toList).vc P ev H K):dO P o a H K:=by
 intro w hw
 subst hw
 obtain⟨v,hv,hk⟩:=kA bE h
 refine .inl ⟨v,w,?_,bZ.refl w,hk⟩
 have NU:(callFunc f (c.args.map a.eval)).run P w= .ok (.value v) w:=by
  have h1:=hv w
  rw[show(List.map a.eval c.args.toList).toArray=c.args.map a.eval from Array.ext' (by simp)]at h1
  exact h1
 simp[execOp,ho,resolve,hc,Act.eval,Deferred.ofValue,invoke,NU]
theorem QW{f:Operand}{c:Call}(bE:bP ev a)(ho:o.op= .call c)(hc:c.callee= .value f)
  (h:(da.dyn f c.args.toList).vc P ev H K):dO P o a H K:=by
 intro w hw
 subst hw
 have h:=kA bE (aU bE h)
 unfold VS at h
 split at h
 ·rename_i g first captured hf
  refine .inr (.inr ⟨g,first++c.args.map a.eval++captured,w,?_,bZ.refl w,by simpa using h.2⟩)
  simp only[execOp,ho,resolve,hc,hf,Deferred.ofValue,Sem.run_bind,Sem.run_pure,Result.andThen_ok,invoke,qG h.1]
 ·exact h.elim
theorem Kg{r:Operand}{name:String}{c:Call}(bE:bP ev a)(ho:o.op= .call c)(hc:c.callee= .invoke r name)
  (h:(da.invoke r name c.args.toList).vc P ev H K):dO P o a H K:=by
 intro w hw
 subst hw
 obtain⟨T,v,f,rv,hr,⟨Dx,hm⟩,h⟩:=kA bE (aU bE h)
 refine .inr (.inr ⟨f, #[rv]++c.args.map a.eval,w,?_,bZ.refl w,by simpa using h⟩)
 have hx:(#[Value.iface T v]++c.args.map a.eval)[0]? =some (.iface T v):=by rw[aoY (by simp)];rfl
 have sM:(#[Value.iface T v]++c.args.map a.eval).extract 1 (#[Value.iface T v]++c.args.map a.eval).size=c.args.map a.eval:=by
  apply Array.ext'
  simp only[Array.toList_extract,Array.toList_append,Array.toList_map,Array.size_append]
  simp[List.take_of_length_le]
 simp only[execOp,ho,resolve,hc,hr,Sem.run_bind,Sem.run_pure,Result.andThen_ok,invoke,hx,sM,callMethod,run_program,hm w rfl,qG Dx]
theorem ml{c:Call}{x:Operand}(ho:o.op= .call c)(hc:c.callee= .builtin .len)(kw:c.args.toList=[x]){w:World}{n:Nat}
  (hr:(Builtin.len_ c.argTypes o.type #[a.eval x]).run P w= .ok (goInt n) w):(execOp a.eval o).run P w= .ok (.value (.int .i64 n)) w:=by
 have ha:c.args= #[x]:=Array.ext' kw
 have hav:c.args.map a.eval= #[a.eval x]:=by rw[ha];simp
 simp only[execOp,ho,resolve,hc,Sem.run_bind,Sem.run_pure,Result.andThen_ok,invoke,builtin,hav,hr,goInt]
theorem OV{c:Call}{x:Operand}{e:TypeId}(bE:bP ev a)(ho:o.op= .call c)(hc:c.callee= .builtin .len)(kw:c.args.toList=[x])
  (u0:(c.argTypes[0]?).bind P.underlying=some (.slice e))(h:(da.xW x).vc P ev H K):dN P o a H K:=by
 obtain⟨t,EZ,Gt⟩:=Option.bind_eq_some_iff.1 u0
 obtain⟨ad,n,cp,hx,h⟩:=ij (aU bE h)
 refine⟨_,fun w=>ml ho hc kw (n:=n) ?_,h⟩
 simp[Builtin.len_,EZ,ap Gt,goInt,hx]
theorem OW{c:Call}{x:Operand}(bE:bP ev a)(ho:o.op= .call c)(hc:c.callee= .builtin .len)(kw:c.args.toList=[x])
  (u0:(c.argTypes[0]?).bind P.underlying=some .string)(h:(da.Tj x).vc P ev H K):dN P o a H K:=by
 obtain⟨t,EZ,Gt⟩:=Option.bind_eq_some_iff.1 u0
 obtain⟨s,hx,h⟩:=mq (aU bE h)
 refine⟨_,fun w=>ml ho hc kw (n:=s.size) ?_,h⟩
 simp[Builtin.len_,EZ,ap Gt,goInt,hx]
theorem OX{c:Call}{x:Operand}{k e:TypeId}(bE:bP ev a)(ho:o.op= .call c)(hc:c.callee= .builtin .len)(kw:c.args.toList=[x])
  (u0:(c.argTypes[0]?).bind P.underlying=some (.map k e))(h:(da.Tk x).vc P ev H K):dO P o a H K:=by
 intro w hw
 subst hw
 obtain⟨t,EZ,Gt⟩:=Option.bind_eq_some_iff.1 u0
 obtain⟨r,hx,h⟩:=jV (aU bE h)
 cases r with
 |none=>
  refine .inl ⟨_,w,ml ho hc kw (n:=0) ?_,bZ.refl w,h⟩
  simp[Builtin.len_,EZ,ap Gt,goInt,hx]
 |some b=>
  obtain⟨m,hm,h⟩:=az h
  obtain⟨es,he,hl⟩:=Ex hm
  refine .inl ⟨_,w,ml ho hc kw (n:=m.1.length) ?_,bZ.refl w,h⟩
  simp[Builtin.len_,EZ,ap Gt,goInt,hx,nV he,←hl]
theorem Tl:∀ (r:List Value) (x v:Value),Kh x r=some v→∀w:World,(r.foldlM Builtin.min2 x).run P w= .ok v w:=by
 intro r
 induction r with
 |nil=>intro x v h w;injection h with h;subst h;rfl
 |cons y r ih=>
  intro x v h w
  unfold Kh at h
  split at h
  ·rename_i k p k' q
   simp[List.foldlM_cons,Builtin.min2,ih _ v h w]
  ·cases h
theorem Tm:∀ (r:List Value) (x v:Value),Ki x r=some v→∀w:World,(r.foldlM Builtin.max2 x).run P w= .ok v w:=by
 intro r
 induction r with
 |nil=>intro x v h w;injection h with h;subst h;rfl
 |cons y r ih=>
  intro x v h w
  unfold Ki at h
  split at h
  ·rename_i k p k' q
   simp[List.foldlM_cons,Builtin.max2,ih _ v h w]
  ·cases h
theorem QX{c:Call}(bE:bP ev a)(ho:o.op= .call c)(hc:c.callee= .builtin .min)(h:(da.Tn c.args.toList).vc P ev H K):dN P o a H K:=by
 obtain⟨v,hv,h⟩:=az (kA bE h)
 refine⟨v,fun w=>?_,h⟩
 have e:(Builtin.min_ c.argTypes o.type (c.args.map a.eval)).run P w= .ok v w:=by
  unfold Builtin.min_
  rw[Array.toList_map]
  cases hl:c.args.toList.map a.eval with
  |nil=>rw[hl]at hv;cases hv
  |cons x r=>rw[hl]at hv;exact Tl r x v hv w
 simp only[execOp,ho,resolve,hc,Sem.run_bind,Sem.run_pure,Result.andThen_ok,invoke,builtin,e]
theorem QY{c:Call}(bE:bP ev a)(ho:o.op= .call c)(hc:c.callee= .builtin .max)(h:(da.To c.args.toList).vc P ev H K):dN P o a H K:=by
 obtain⟨v,hv,h⟩:=az (kA bE h)
 refine⟨v,fun w=>?_,h⟩
 have e:(Builtin.max_ c.argTypes o.type (c.args.map a.eval)).run P w= .ok v w:=by
  unfold Builtin.max_
  rw[Array.toList_map]
  cases hl:c.args.toList.map a.eval with
  |nil=>rw[hl]at hv;cases hv
  |cons x r=>rw[hl]at hv;exact Tm r x v hv w
 simp only[execOp,ho,resolve,hc,Sem.run_bind,Sem.run_pure,Result.andThen_ok,invoke,builtin,e]
theorem xX{H:Hp}{size:Nat}{v:Value}{F:Nat→List Value→Prop}(h:rowOf H size v F):
  ∃ (n:Nat) (l:List Value),F n l∧(∀w:World,(Builtin.lenOf v).run P w= .ok n w)∧(∀w:World,w.heap=H→(Builtin.firstCells size n v).run P w= .ok l.toArray w)∧l.length=n*size∧
   (∀b m c,v= .slice b m c→m=n):=by
 unfold rowOf at h
 split at h
 ·rename_i a n c
  by_cases L0:n=0
  ·subst L0
   refine⟨0,[],h,fun _=>rfl,fun w hw=>?_,by simp,fun _ _ _ e=>by injection e with _ e _;exact e.symm⟩
   cases a with
   |none=>rfl
   |some a=>simp only[Builtin.firstCells,aod];rfl
  ·have e0:(n==0)=false:=by simpa using L0
   rw[e0]at h
   obtain⟨b,off,rfl,h1⟩:=mQ (F:=fun b o=>aC (H.rd b) fun l=>dm (o+n*size≤l.length) (F n ((l.drop o).take (n*size)))) h
   obtain⟨l,hl,h2⟩:=az h1
   obtain⟨hn,h3⟩:=h2.out
   refine⟨n,_,h3,fun _=>rfl,fun w hw=>?_,by simp;omega,fun _ _ _ e=>by injection e with _ e _;exact e.symm⟩
   subst hw
   exact pC (P:=P) (a:=⟨b,off,none⟩) rfl hl hn
 ·rename_i s
  obtain⟨e1,h2⟩:=h.out
  subst e1
  refine⟨s.size,_,h2,fun _=>rfl,fun w _=>?_,?_,fun _ _ _ e=>by cases e⟩
  ·simp only[Builtin.firstCells,Sem.run_pure]
   congr 1
   apply Array.ext'
   have:s.extract 0 s.size=s:=by
    apply ByteArray.ext
    simp
   rw[this]
   simp
  ·rw[anQ,anw,Array.length_toList];rfl
 ·exact h.elim
theorem IS{s t e:TypeId}{x:Operand}(bE:bP ev a)(ho:o.op= .convert s t x)(hs:P.underlying s=some .string)(ht:P.underlying t=some (.slice e))(he:P.underlying e=some (.int .u8))
  (h:(da.IT e x).vc P ev H K):dO P o a H K:=by
 intro w hw
 subst hw
 have h:=aU bE h
 unfold iM at h
 split at h
 ·rename_i bs hx
  have hr:=Lib.run_convert_string_bytes (P:=P) w s t e bs hs ht he
  have OP:=grownCap_ge w bs.size 0 e
  refine .inl ⟨.slice (some ⟨w.heap.size,0,none⟩) bs.size (grownCap w bs.size 0 e),Lib.bytesWorld w e bs,?_,⟨rfl,rfl⟩,?_⟩
  ·simp only[execOp,ho]
   rw[hx]at*
   simp only[Sem.run_bind,hr,Result.andThen_ok,Sem.run_pure]
  ·have hk:=h _ OP
   have e1:(Lib.bytesWorld w e bs).heap=Hp.Mt w.heap e ((bs.data.toList.map fun b=>.int .u8 b.toNat)++List.replicate (grownCap w bs.size 0 e - bs.size) (.int .u8 0)):=by
    apply Array.ext_getElem?
    intro i
    rcases aoU i w.heap.size with hi|hi|hi
    ·rw[Lib.bytesWorld_at_old w e bs i hi,Kj _ _ _ hi]
    ·subst hi
     rw[Lib.bytesWorld_at_new]
     simp[Hp.Mt,Lib.bytesCells]
    ·rw[aoJ (by rw[Lib.bytesWorld_size];omega),aoJ (by rw[OY];omega)]
   rw[e1]
   exact hk
 ·exact h.elim
theorem Mu:∀ (l:List Value) (bs:List UInt8),bytesOf l=some bs→∀ (s:ByteArray) (w:World),
  (forIn l s fun c (s:ByteArray)=>(match c with| .int .u8 n=>pure (ForInStep.yield (s.push (UInt8.ofNat n.toNat)))|_=>(do stuck "bytesToString: byte expected";pure (ForInStep.yield s)):Sem (ForInStep ByteArray))).run P w= .ok ⟨s.data++bs.toArray⟩ w:=by
 intro l
 induction l with
 |nil=>intro bs h s w;simp only[bytesOf,anE]at h;subst h;simp
 |cons v l ih=>
  intro bs h s w
  cases v with
  |int k n=>
   cases k with
   |u8=>
    simp only[bytesOf]at h
    cases hb:bytesOf l with
    |none=>rw[hb]at h;cases h
    |some r=>
     rw[hb]at h
     simp only[Option.map_some,anE]at h
     subst h
     simp only[List.forIn_cons,Sem.run_bind,Sem.run_pure,Result.andThen_ok]
     rw[ih r hb]
     congr 1
     apply ByteArray.ext
     apply Array.ext'
     simp[ByteArray.push]
   |_=>simp[bytesOf]at h
  |_=>simp[bytesOf]at h
theorem Mv{s t e:TypeId}{x:Operand}(bE:bP ev a)(ho:o.op= .convert s t x)(hs:P.underlying s=some (.slice e))(ht:P.underlying t=some .string)(he:P.underlying e=some (.int .u8))
  (h:(da.NV x).vc P ev H K):dO P o a H K:=by
 intro w hw
 subst hw
 have h:=aU bE h
 unfold tL at h
 split at h
 ·rename_i ad n c hx
  obtain⟨m,l,h,h1,h2,h3,h4⟩:=xX (P:=P) h
  obtain⟨bs,hb,h⟩:=az h
  refine .inl ⟨_,w,?_,bZ.refl w,h⟩
  have hm:n=m:=h4 _ _ _ rfl
  subst hm
  have h5:=h2 w rfl
  have key:(Conv.bytesToString (.slice ad n c)).run P w= .ok (.string ⟨bs.toArray⟩) w:=by
   cases ad with
   |none=>
    simp only[Builtin.firstCells,Sem.run_pure,Result.ok.injEq,and_true]at h5
    have hl:l=[]:=by
     have:=anP Array.toList h5
     simpa using this.symm
    subst hl
    simp only[bytesOf,anE]at hb
    subst hb
    rfl
   |some ad=>
    simp only[Builtin.firstCells,anw]at h5
    simp only[Conv.bytesToString,Sem.run_bind,h5,Result.andThen_ok]
    rw[List.forIn_toArray]
    refine(anP (fun r=>Result.andThen r fun a w'=>Sem.run P (pure (Value.string a)) w') (Mu (P:=P) l bs hb ByteArray.empty w)).trans ?_
    simp only[Result.andThen_ok,Sem.run_pure]
    congr 3
    simp
  simp only[execOp,ho,convert,hx,Sem.run_bind,ap hs,ap ht,ap he,Result.andThen_ok,key]
  rfl
 ·exact h.elim
theorem UR{d:TypeDesc}(hd:E1 d=true):(∃e,d= .slice e)∨d= .string:=by
 cases d<;>first|exact .inl ⟨_,rfl⟩|exact .inr rfl| (cases hd)
theorem GF{VT:Array TypeId}{ty t t' e:TypeId}{d:TypeDesc}{w:World}{base:Option Addr}{n cap m:Nat}{y:Value}{new:Array Value}(EZ:VT[0]? =some t)(OZ:VT[1]? =some t')
  (Gt:P.underlying t=some (.slice e))(BK:P.underlying t'=some d)(hd:E1 d=true)(hi:(P.info? e).isSome=true)
  (aX:(Builtin.lenOf y).run P w= .ok m w)(qH:(Builtin.firstCells (P.cellsOf e) m y).run P w= .ok new w)(oY:n+m≤cap):
  (Builtin.append_ VT ty #[.slice base n cap,y]).run P w=
   ((match base with|some a=>storeCells (a.add (n*P.cellsOf e)) new.toList|none=>(pure ():Sem Unit)).run P w).andThen fun _ w'=>.ok (.slice base (n+m) cap) w':=by
 rcases UR hd with ⟨e',rfl⟩|rfl<;>unfold Builtin.append_<;>
 simp only[apf,anY,aov,EZ,OZ,Sem.run_bind,ap Gt,ap BK,Result.andThen_ok,bI hi,Sem.run_pure,aX,aox,if_false,if_pos oY,ao8,if_true,qH]<;>
 cases base<;>simp only[Sem.run_pure,Result.andThen_ok,Sem.run_bind]
theorem E3{VT:Array TypeId}{ty t t' e:TypeId}{d:TypeDesc}{w:World}{base:Option Addr}{n cap m:Nat}{y z:Value}{new QZ:Array Value}(EZ:VT[0]? =some t)(OZ:VT[1]? =some t')
  (Gt:P.underlying t=some (.slice e))(BK:P.underlying t'=some d)(hd:E1 d=true)(hi:(P.info? e).isSome=true)(hz:fg P e=some z)
  (aX:(Builtin.lenOf y).run P w= .ok m w)(qH:(Builtin.firstCells (P.cellsOf e) m y).run P w.drew= .ok new w.drew)
  (hold:(Builtin.firstCells (P.cellsOf e) n (.slice base n cap)).run P w.drew= .ok QZ w.drew)
  (oY:cap<n+m)(hb:Builtin.nextslicecap (n+m) cap*P.bytesOf e≤2^48)(Q0:P.bytesOf e≠0):
  ∃c',n+m≤c'∧(Builtin.append_ VT ty #[.slice base n cap,y]).run P w=
   .ok (.slice (some ⟨w.heap.size,0,none⟩) (n+m) c') {w with drawn:=w.drawn+1,heap:=Hp.new w.heap e ((QZ++new++Builtin.zeroCells z.cells (c' - (n+m))).toList)}:=by
 obtain⟨inf,ZM⟩:=Option.isSome_iff_exists.1 hi
 have VU:inf.bytes=P.bytesOf e:=by simp[Program.bytesOf,ZM]
 refine⟨(Question.appendCap (n+m) cap e).cut (w.tape w.drawn (.appendCap (n+m) cap e)),by simp[Question.cut],?_⟩
 have aP:n+m≤2^48:=by
  have h1:=le_nextslicecap oY
  have h2:Builtin.nextslicecap (n+m) cap≤Builtin.nextslicecap (n+m) cap*P.bytesOf e:=Nat.le_mul_of_pos_right _ (by omega)
  omega
 have bK:¬ (9223372036854775807< ((n:Int)+(m:Int))):=by omega
 have aeu:¬ (281474976710656<Builtin.nextslicecap (n+m) cap*P.bytesOf e):=by omega
 have hn:¬ (n+m≤cap):=by omega
 rcases UR hd with ⟨e',rfl⟩|rfl<;>
  simp[Builtin.append_,EZ,OZ,ap Gt,ap BK,bI hi,aX,hn,dW ZM,VU,Q0,aeu,Question.forced,cE hz,hold,qH,kq]<;>
  exact⟨rfl,rfl,rfl⟩
theorem Kk{c:Call}{e:TypeId}{d:TypeDesc}{z:Value}{x y:Operand}(bE:bP ev a)(ho:o.op= .call c)(hc:c.callee= .builtin .append)(kw:c.args.toList=[x,y])
  (u0:(c.argTypes[0]?).bind P.underlying=some (.slice e))(aev:(c.argTypes[1]?).bind P.underlying=some d)(hd:E1 d=true)(hz:fg P e=some z)(hi:(P.info? e).isSome=true)
  (h0:P.cellsOf e≠0)(hl:(aH z).length=P.cellsOf e)(Q0:P.bytesOf e≠0)(h:(da.append e (P.cellsOf e) (P.bytesOf e) (aH z) x y).vc P ev H K):dO P o a H K:=by
 intro w hw
 subst hw
 have ha:c.args= #[x,y]:=Array.ext' kw
 obtain⟨t,EZ,Gt⟩:=Option.bind_eq_some_iff.1 u0
 obtain⟨t',OZ,BK⟩:=Option.bind_eq_some_iff.1 aev
 have Mm:z.cells.toList=aH z:=ee z
 have NT:z.cells.size=P.cellsOf e:=by rw[←hl,←Mm];simp
 obtain⟨base,n,cap,hx,h⟩:=ij (aU bE (aU bE h))
 have h':=h
 obtain⟨m,new,h,aX,qH,hnl,_⟩:=xX (P:=P) h
 obtain⟨hA,hB,hC⟩:=h
 have hav:c.args.map a.eval= #[.slice base n cap,a.eval y]:=by rw[ha];simp[hx]
 have pre:∀v w',(Builtin.append_ c.argTypes o.type #[.slice base n cap,a.eval y]).run P w= .ok v w'→(execOp a.eval o).run P w= .ok (.value v) w':=by
  intro v w' hr
  simp only[execOp,ho,resolve,hc,Sem.run_bind,Sem.run_pure,Result.andThen_ok,invoke,builtin,hav,hr]
 by_cases oY:n+m≤cap
 ·have hr:=GF (ty:=o.type) (base:=base) EZ OZ Gt BK hd hi (aX w) (qH w rfl) oY
  by_cases hm:m=0
  ·subst hm
   have L0:new=[]:=an5.1 (by omega)
   subst L0
   refine .inl ⟨_,w,pre _ w ?_,bZ.refl w,hA oY rfl⟩
   rw[hr]
   cases base<;>simp[storeCells]
  ·obtain⟨b,off,rfl,hB⟩:=mQ (hB oY hm)
   obtain⟨l,Ez,hB⟩:=az hB
   obtain⟨⟨h1,h2⟩,hB⟩:=hB.out
   obtain⟨w',hs,Ms,hk,_⟩:=gZ (P:=P) (b:=b) (o:=off+n*P.cellsOf e) new 0 w l Ez (by rw[aoM]at h1;omega) h2
   have aP:new≠[]:=fun e'=>by
    rw[e']at hnl
    rcases Nat.mul_eq_zero.1 hnl.symm with h|h
    ·exact hm h
    ·exact h0 h
   refine .inl ⟨_,w',pre _ w' ?_,Ms,hk aP▸hB⟩
   rw[hr]
   simp only[xY,List.toList_toArray,hs,Result.andThen_ok]
 ·obtain⟨hb,hC⟩:=hC (by omega)
  rw[hx]at hC
  obtain⟨n',QZ,hC,_,hold,ZN,ZO⟩:=xX (P:=P) hC
  have:n=n':=ZO _ _ _ rfl
  subst this
  obtain⟨c',Kl,hr⟩:=E3 (ty:=o.type) (base:=base) EZ OZ Gt BK hd hi hz (aX w) (qH w.drew rfl) (hold w.drew rfl) (by omega) hb Q0
  refine .inl ⟨_,_,pre _ _ hr,⟨rfl,rfl⟩,?_⟩
  have e1:(QZ.toArray++new.toArray++Builtin.zeroCells z.cells (c' - (n+m))).toList=QZ++new++cA (aH z) (c' - (n+m)):=by
   rw[Array.toList_append,Array.toList_append]
   congr 1
   unfold Builtin.zeroCells
   rw[zL rfl (by omega),Mm]
  rw[e1]
  exact hC c' Kl
end
end Go.Vc

namespace Go.Vc
def da.cls:da→Km
 | .au _| .pick .. | .build .. | .nilCheck _| .jz .. | .un .. | .conv .. | .iface .. | .func .. | .slice .. | .IU .. | .fieldAddr .. | .field .. | .indexAddr .. | .zO .. | .IV .. | .extract ..
 | .xW _| .Tj _| .Tn _| .To _| .IW .. | .Tp .. =>.pure
 | .aj _| .eD .. | .lookup .. | .Tk _| .NV _=>.quiet
 |_=>.GG
section
variable {P : Program} {o : Oper} {a : Act} {ev : Ev} {H : Hp} {K : Value → Hp → Prop}
theorem sound(i:da)(hd:Ic P o=some i)(bE:bP ev a)(h:i.vc P ev H K):(i.cls= .pure→dN P o a H K)∧dO P o a H K:=by
 have mk:dN P o a H K→(i.cls= .pure→dN P o a H K)∧dO P o a H K:=fun hp=>⟨fun _=>hp,hp.aew⟩
 have mk':i.cls≠ .pure→dO P o a H K→(i.cls= .pure→dN P o a H K)∧dO P o a H K:=fun hn hp=>⟨fun e=>absurd e hn,hp⟩
 unfold Ic at hd
 split at hd
 ·rename_i x ho;injection hd with hd;subst hd;exact mk (Ko bE (.inl ho) h)
 ·rename_i x ho;injection hd with hd;subst hd;exact mk (Ko bE (.inr ho) h)
 ·rename_i c x y ho;injection hd with hd;subst hd;exact mk (O0 bE ho h)
 ·rename_i T x ho;injection hd with hd;subst hd;exact mk' (by simp[da.cls]) (QT bE ho h)
 ·rename_i T ho
  cases hz:fg P T with
  |none=>rw[hz]at hd;cases hd
  |some z=>rw[hz]at hd;injection hd with hd;subst hd;exact mk' (by simp[da.cls]) (OS hz ho h)
 ·rename_i t ps ho
  cases hz:fg P t with
  |none=>rw[hz]at hd;cases hd
  |some z=>
   rw[hz,Option.bind_some]at hd
   cases hq:parts P t (aH z).length ps.toList with
   |none=>rw[hq]at hd;cases hd
   |some qs=>rw[hq]at hd;injection hd with hd;subst hd;exact mk (Ml bE ho hz hq h)
 ·rename_i t n ps ho
  split at hd
  ·rename_i e hu
   cases hz:fg P e with
   |none=>rw[hz]at hd;cases hd
   |some z=>
    rw[hz,Option.bind_some]at hd
    split at hd
    ·rename_i hc
     cases hq:j8 (fun i=>some (i*P.cellsOf e,P.cellsOf e)) (n*P.cellsOf e) ps.toList with
     |none=>rw[hq]at hd;cases hd
     |some qs=>rw[hq]at hd;injection hd with hd;subst hd;exact mk' (by simp[da.cls]) (QS bE ho hu hz hc.1 hc.2.1 hc.2.2.1 hc.2.2.2 hq h)
    ·cases hd
  ·cases hd
 ·rename_i t x ho
  split at hd
  ·rename_i hc
   split at hd
   ·rename_i hg;injection hd with hd;subst hd;exact mk' (by simp[da.cls]) (Mo bE ho hc.1 hc.2 hg h)
   ·rename_i hg;injection hd with hd;subst hd;exact mk' (by simp[da.cls]) (Mn bE ho hc.1 hc.2 (by simpa using hg) h)
  ·cases hd
 ·rename_i t x y ho
  split at hd
  ·rename_i hc;injection hd with hd;subst hd;exact mk' (by simp[da.cls]) (Mp bE ho hc.1 hc.2 h)
  ·cases hd
 ·rename_i x ho;injection hd with hd;subst hd;exact mk (GH bE ho h)
 ·rename_i op t x y t' ho
  split at hd
  ·split at hd
   ·rename_i ms hu;injection hd with hd;subst hd;exact mk (Ie bE ho hu (.inl ⟨rfl,rfl⟩) h)
   ·cases hs:shapeOf P eI t with
    |none=>rw[hs]at hd;cases hd
    |some s=>
     rw[hs,Option.bind_some]at hd
     split at hd
     ·rename_i hc;injection hd with hd;subst hd;exact mk (E4 bE ho (fun _=>⟨hs,hc⟩) h)
     ·cases hd
  ·split at hd
   ·rename_i ms hu;injection hd with hd;subst hd;exact mk (Ie bE ho hu (.inr ⟨rfl,rfl⟩) h)
   ·cases hs:shapeOf P eI t with
    |none=>rw[hs]at hd;cases hd
    |some s=>
     rw[hs,Option.bind_some]at hd
     split at hd
     ·rename_i hc;injection hd with hd;subst hd;exact mk (E4 bE ho (fun _=>⟨hs,hc⟩) h)
     ·cases hd
  ·rename_i h1 h2
   injection hd with hd;subst hd;exact mk (E4 bE ho (fun he=>by rcases he with he|he<;>first|exact absurd he h1|exact absurd he h2) h)
 ·rename_i op t x ho;injection hd with hd;subst hd;exact mk (Tq bE ho h)
 ·rename_i s t x ho
  split at hd
  ·rename_i k' k h1 h2;injection hd with hd;subst hd;exact mk (O1 bE ho h1 h2 h)
  ·rename_i e h1 h2
   split at hd
   ·rename_i h3;injection hd with hd;subst hd;exact mk' (by simp[da.cls]) (Mv bE ho h1 h2 h3 h)
   ·cases hd
  ·rename_i e h1 h2
   split at hd
   ·rename_i h3;injection hd with hd;subst hd;exact mk' (by simp[da.cls]) (IS bE ho h1 h2 h3 h)
   ·cases hd
  ·cases hd
 ·rename_i t x ho
  split at hd
  ·cases hd
  ·rename_i d hu hn;injection hd with hd;subst hd;exact mk (Mw bE ho hn (fun ms e=>hu ms (by rw[e])) h)
  ·cases hd
 ·rename_i fn first captured ho;injection hd with hd;subst hd;exact mk (O2 bE ho h)
 ·rename_i t ho;injection hd with hd;subst hd;exact mk' (by simp[da.cls]) (Ka ho h)
 ·rename_i t x y ho
  split at hd
  ·rename_i e hu
   cases hz:fg P e with
   |none=>rw[hz]at hd;cases hd
   |some z=>
    rw[hz,Option.bind_some]at hd
    split at hd
    ·rename_i hc;injection hd with hd;subst hd;exact mk' (by simp[da.cls]) (EU bE ho hu hz hc.1 hc.2.1 hc.2.2 h)
    ·cases hd
  ·cases hd
 ·rename_i t x lo hi mx ho
  split at hd
  ·rename_i e hu
   split at hd
   ·rename_i hc;injection hd with hd;subst hd;exact mk (Mx bE ho hu hc.1 (fun hm=>hc.2.elim (fun h1=>by cases mx<;>simp_all) id) h)
   ·cases hd
  ·rename_i hu
   split at hd
   ·rename_i hc;injection hd with hd;subst hd
    cases mx with
    |none=>exact mk (Kp bE ho hu h)
    |some m=>simp at hc
   ·cases hd
  ·cases hd
 ·rename_i s x f ho
  split at hd
  ·rename_i fields hu
   cases hf:fields[f]? with
   |none=>rw[hf]at hd;cases hd
   |some fd=>
    rw[hf,Option.bind_some]at hd
    split at hd
    ·rename_i hc;injection hd with hd;subst hd;exact mk (E5 bE ho hu hf hc.1 hc.2 h)
    ·cases hd
  ·cases hd
 ·rename_i t x f ho
  split at hd
  ·rename_i fields hu
   cases hf:fields[f]? with
   |none=>rw[hf]at hd;cases hd
   |some fd=>
    rw[hf,Option.bind_some]at hd
    split at hd
    ·rename_i hc;injection hd with hd;subst hd;exact mk (My bE ho hu hf hc.1 hc.2 h)
    ·cases hd
  ·cases hd
 ·rename_i t x i' ho
  split at hd
  ·rename_i e hu
   split at hd
   ·rename_i hc;injection hd with hd;subst hd;exact mk (E6 bE ho hu hc h)
   ·cases hd
  ·rename_i n e hu
   split at hd
   ·rename_i hc;injection hd with hd;subst hd;exact mk (GI bE ho hu hc h)
   ·cases hd
  ·cases hd
 ·rename_i t x i' ho
  split at hd
  ·rename_i hu;injection hd with hd;subst hd;exact mk (Kq bE ho hu h)
  ·cases hd
 ·rename_i t x i' ok ho
  split at hd
  ·rename_i k e hu
   cases hs:cr P k with
   |none=>rw[hs]at hd;cases hd
   |some s=>
    rw[hs,Option.bind_some]at hd
    cases hz:fg P e with
    |none=>rw[hz]at hd;cases hd
    |some z=>rw[hz]at hd;injection hd with hd;subst hd;exact mk' (by simp[da.cls]) (Kb bE ho hu hs hz h)
  ·cases hd
 ·rename_i t m k v ho
  split at hd
  ·rename_i kt e hu
   cases hs:cr P kt with
   |none=>rw[hs]at hd;cases hd
   |some s=>rw[hs]at hd;injection hd with hd;subst hd;exact mk' (by simp[da.cls]) (Kc bE ho hu hs h)
  ·cases hd
 ·rename_i x i' ho;injection hd with hd;subst hd;exact mk (IX bE ho h)
 ·rename_i x s T ho
  split at hd
  ·cases hd
  ·rename_i d hu hn;injection hd with hd;subst hd;exact mk (Ks bE ho hn (fun ms e=>hu ms (by rw[e])) h)
  ·cases hd
 ·rename_i c ho
  split at hd
  ·rename_i f hc
   split at hd
   ·rename_i hb;injection hd with hd;subst hd;exact mk' (by simp[da.cls]) (OU bE ho hc hb h)
   ·injection hd with hd;subst hd;exact mk' (by simp[da.cls]) (QV bE ho hc h)
  ·rename_i x hx hc;injection hd with hd;subst hd;exact mk' (by simp[da.cls]) (QW bE ho hc h)
  ·rename_i r name hc;injection hd with hd;subst hd;exact mk' (by simp[da.cls]) (Kg bE ho hc h)
  ·rename_i hc
   split at hd
   ·rename_i x e h1 h2;injection hd with hd;subst hd;exact mk (OV bE ho hc h1 h2 h)
   ·rename_i x h1 h2;injection hd with hd;subst hd;exact mk (OW bE ho hc h1 h2 h)
   ·rename_i x k e h1 h2;injection hd with hd;subst hd;exact mk' (by simp[da.cls]) (OX bE ho hc h1 h2 h)
   ·cases hd
  ·rename_i hc
   split at hd
   ·rename_i x y e d h1 h2 h3
    cases hz:fg P e with
    |none=>rw[hz]at hd;cases hd
    |some z=>
     rw[hz,Option.bind_some]at hd
     split at hd
     ·rename_i hq;injection hd with hd;subst hd;exact mk' (by simp[da.cls]) (Kk bE ho hc h1 h2 h3 hq.2.2.2.2 hz hq.1 hq.2.1 hq.2.2.1 hq.2.2.2.1 h)
     ·cases hd
   ·cases hd
  ·rename_i hc
   split at hd
   ·rename_i m k kt e h1 h2
    cases hs:cr P kt with
    |none=>rw[hs]at hd;cases hd
    |some s=>rw[hs]at hd;injection hd with hd;subst hd;exact mk' (by simp[da.cls]) (Kf bE ho hc h1 h2 hs h)
   ·cases hd
  ·rename_i hc
   split at hd
   ·rename_i x e h1 h2
    cases hz:fg P e with
    |none=>rw[hz]at hd;cases hd
    |some z=>
     rw[hz,Option.bind_some]at hd
     split at hd
     ·rename_i hq;injection hd with hd;subst hd;exact mk' (by simp[da.cls]) (Mq bE ho hc h1 h2 hz hq h)
     ·cases hd
   ·cases hd
  ·rename_i hc;injection hd with hd;subst hd;exact mk (QX bE ho hc h)
  ·rename_i hc;injection hd with hd;subst hd;exact mk (QY bE ho hc h)
  ·cases hd
 ·cases hd
theorem ak{α:Type}{o:Option α}{F G:α→Prop}(h:aC o F)(hk:∀v,F v→G v):aC o G:=by cases o;exact h;exact hk _ h
theorem bM{c F G:Prop}(h:dm c F)(hk:F→G):dm c G:=⟨h.1,hk h.2⟩
theorem E7{v:Value}{F G:Bool→Prop}(h:zP v F)(hk:∀b,F b→G b):zP v G:=by unfold zP at*;split at h;exact hk _ h;exact h.elim
theorem kB{F G:List Value→Prop}:∀ {xs:List Operand},Mz ev xs F→(∀l,F l→G l)→Mz ev xs G:=by
 intro xs
 induction xs generalizing F G with
 |nil=>intro h hk;exact hk _ h
 |cons x xs ih=>intro h hk;exact ak h fun v h=>ih h fun l=>hk _
theorem E8{F G:List Value→Prop}:∀ {r:List (Nat×Nat×Operand)} {z:List Value},zQ ev z r F→(∀l,F l→G l)→zQ ev z r G:=by
 intro r
 induction r with
 |nil=>intro z h hk;exact hk _ h
 |cons p r ih=>obtain⟨off,size,x⟩:=p;intro z h hk;exact ak h fun v h=>bM h fun h=>ih h hk
theorem pD{v:Value}{F G:Nat→Nat→Prop}(h:vD v F)(hk:∀b o,F b o→G b o):vD v G:=by obtain⟨b,o,rfl,h⟩:=eX h;exact hk _ _ h
theorem jW{v:Value}{F G:Int→Prop}(h:BL v F)(hk:∀b,F b→G b):BL v G:=by obtain⟨b,o,rfl,h⟩:=ie h;exact hk _ h
theorem kC{v:Value}{F G:Option Addr→Nat→Nat→Prop}(h:oA v F)(hk:∀a n c,F a n c→G a n c):oA v G:=by obtain⟨a,n,c,rfl,h⟩:=ij h;exact hk _ _ _ h
theorem xZ{v:Option Addr}{F G:Nat→Nat→Prop}(h:tM v F)(hk:∀b o,F b o→G b o):tM v G:=by obtain⟨b,o,rfl,h⟩:=mQ h;exact hk _ _ h
theorem qI{v:Value}{F G:ByteArray→Prop}(h:iM v F)(hk:∀b,F b→G b):iM v G:=by obtain⟨b,rfl,h⟩:=mq h;exact hk _ h
theorem O3{v:Value}{F G:List Value→Prop}(h:O4 v F)(hk:∀b,F b→G b):O4 v G:=by obtain⟨b,rfl,h⟩:=If h;exact hk _ h
theorem O5{v:Value}{F G:List Value→Prop}(h:O6 v F)(hk:∀b,F b→G b):O6 v G:=by obtain⟨b,rfl,h⟩:=Ig h;exact hk _ h
theorem vh{v:Value}{F G:Option Nat→Prop}(h:BM v F)(hk:∀b,F b→G b):BM v G:=by obtain⟨b,rfl,h⟩:=jV h;exact hk _ h
theorem O7{v:Value}{F G:Bool→Prop}(h:MA v F)(hk:∀b,F b→G b):MA v G:=by
 rcases Ih h with ⟨e,h⟩| ⟨t,u,e,h⟩<;>subst e<;>exact hk _ h
theorem IY{T:TypeId}{v:Value}{F G:Value→Prop}(h:vi T v F)(hk:∀b,F b→G b):vi T v G:=by obtain⟨b,e,h2⟩:=zR h;subst e;exact⟨rfl,hk _ h2⟩
theorem ya{H:Hp}{size:Nat}{v:Value}{F G:Nat→List Value→Prop}(h:rowOf H size v F)(hk:∀n l,F n l→G n l):rowOf H size v G:=by
 unfold rowOf at*
 split at h
 ·rename_i a n c
  cases hn:n==0
  ·rw[hn]at h
   exact xZ h fun b o h=>ak h fun l h=>bM h (hk _ _)
  ·rw[hn]at h
   exact hk _ _ h
 ·exact bM h (hk _ _)
 ·exact h.elim
theorem Da{H:Hp}{v:Value}{F G:List UInt8→Prop}(h:tL H v F)(hk:∀b,F b→G b):tL H v G:=by
 unfold tL at*
 split at h
 ·exact ya h fun n l h=>ak h hk
 ·exact h.elim
theorem kD{x:Option Operand}{d:Nat}{F G:Int→Prop}(h:oB ev x d F)(hk:∀b,F b→G b):oB ev x d G:=by
 cases x with
 |none=>exact hk _ h
 |some x=>exact ak h fun v h=>jW h hk
theorem NW{K':Value→Hp→Prop}(i:da)(hc:i.cls= .pure)(h:i.vc P ev H K)(hk:∀v H',K v H'→K' v H'):i.vc P ev H K':=by
 cases i<;>simp[da.cls]at hc<;>simp only[da.vc]at h ⊢
 ·exact ak h fun v=>hk _ _
 ·exact ak h fun v h=>E7 h fun b h=>ak h fun v=>hk _ _
 ·exact E8 h fun l=>hk _ _
 ·exact ak h fun v h=>bM h (hk _ _)
 ·exact ak h fun v h=>ak h fun v h=>ak h fun v=>hk _ _
 ·exact ak h fun v h=>ak h fun v=>hk _ _
 ·exact ak h fun v h=>jW h fun v=>hk _ _
 ·exact ak h fun v=>hk _ _
 ·exact kB h fun l h=>kB h fun l=>hk _ _
 ·exact ak h fun v h=>kC h fun a n c h=>kD h fun m h=>kD h fun m h=>kD h fun m h=>bM h (hk _ _)
 ·exact ak h fun v h=>qI h fun s h=>kD h fun m h=>kD h fun m h=>bM h (hk _ _)
 ·exact ak h fun v h=>pD h fun b o=>hk _ _
 ·exact ak h fun v h=>O5 h fun l h=>ak h fun v=>hk _ _
 ·exact ak h fun v h=>ak h fun v h=>kC h fun a n c h=>jW h fun i h=>bM h fun h=>xZ h fun b o=>hk _ _
 ·exact ak h fun v h=>ak h fun v h=>pD h fun b o h=>jW h fun i h=>bM h (hk _ _)
 ·exact ak h fun v h=>ak h fun v h=>qI h fun s h=>jW h fun i h=>bM h fun h=>ak h fun b=>hk _ _
 ·exact ak h fun v h=>O3 h fun l h=>ak h fun v=>hk _ _
 ·exact ak h fun v h=>kC h fun a n c=>hk _ _
 ·exact ak h fun v h=>qI h fun s=>hk _ _
 ·exact kB h fun l h=>ak h fun v=>hk _ _
 ·exact kB h fun l h=>ak h fun v=>hk _ _
 ·exact ak h fun v h=>IY h fun v=>hk _ _
 ·exact ak h fun v h=>O7 h fun v=>hk _ _
theorem Q1(i:da)(hc:i.cls= .quiet)(h:i.vc P ev H K):∃v,i.vc P ev H (fun v' H'=>v'=v∧H'=H)∧K v H:=by
 cases i<;>simp[da.cls]at hc
 ·obtain⟨p,hp,h⟩:=az h
  obtain⟨b,o,rfl,h⟩:=eX h
  obtain⟨l,hl,h⟩:=az h
  obtain⟨v,hv,h⟩:=az h
  exact⟨v,by simp only[da.vc,hp,aC,vD,hl,hv,and_self],h⟩
 ·obtain⟨p,hp,h⟩:=az h
  obtain⟨b,o,rfl,h⟩:=eX h
  obtain⟨l,hl,h⟩:=az h
  obtain⟨hn,h⟩:=h.out
  exact⟨_,by simp only[da.vc,hp,aC,vD,hl,dm,hn,and_self],h⟩
 ·rename_i s z ok m k
  obtain⟨p,hp,h⟩:=az h
  obtain⟨q,hq,h⟩:=az h
  obtain⟨r,rfl,h⟩:=jV h
  obtain⟨hn,h⟩:=h.out
  cases r with
  |none=>exact⟨_,by simp only[da.vc,hp,hq,aC,BM,dm,hn,xt,and_self],h⟩
  |some b=>
   obtain⟨x,hx,h⟩:=az h
   obtain⟨y,hy,h⟩:=az h
   exact⟨_,by simp only[da.vc,hp,hq,aC,BM,dm,hn,xt,hx,hy,and_self],h⟩
 ·obtain⟨p,hp,h⟩:=az h
  obtain⟨r,rfl,h⟩:=jV h
  cases r with
  |none=>exact⟨_,by simp only[da.vc,hp,aC,BM,Kt,and_self],h⟩
  |some b=>
   obtain⟨x,hx,h⟩:=az h
   exact⟨_,by simp only[da.vc,hp,aC,BM,Kt,hx,and_self],h⟩
 ·obtain⟨p,hp,h⟩:=az h
  have key:∃l,K (.string ⟨l.toArray⟩) H∧tL H p (fun l'=>l'=l):=by
   unfold tL at*
   split at h
   ·rename_i a n c
    unfold rowOf at*
    simp only at*
    cases hn:n==0
    ·rw[hn]at h
     obtain⟨b,o,rfl,h⟩:=mQ h
     obtain⟨l,hl,h⟩:=az h
     obtain⟨h1,h⟩:=h.out
     obtain⟨bs,hb,h⟩:=az h
     exact⟨bs,h,by simp only[E9,tM,aC,hl,dm,h1,hb,and_self]⟩
    ·rw[hn]at h
     have h:aC (bytesOf []) fun l=>K (.string ⟨l.toArray⟩) H:=h
     obtain⟨bs,hb,h⟩:=az h
     exact⟨bs,h,by simp only[E9,aC,hb]⟩
   ·exact h.elim
  obtain⟨l,h1,h2⟩:=key
  refine⟨_,?_,h1⟩
  simp only[da.vc,hp,aC]
  exact Da h2 fun b e=>by rw[e];exact⟨rfl,rfl⟩
end
end Go.Vc
