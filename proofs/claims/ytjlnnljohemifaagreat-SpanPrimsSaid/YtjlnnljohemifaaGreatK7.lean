/- Texts put behind each other. -/
import Derived.Test.YtjlnnljohemifaaGreatK98
import Derived.Test.YtjlnnljohemifaaGreatK6
import Derived.Lib.ConvBytes
import Derived.Laws.AppendOwn
import Derived.Laws.Append
set_option maxRecDepth 100000
set_option maxHeartbeats 8000000
set_option linter.unusedVariables false
set_option linter.unusedSimpArgs false
namespace Go.Vc
section
variable {P : Program} {o : Oper} {a : Act} {ev : Ev} {H : Hp} {K : Value → Hp → Prop}
theorem Ml{t kt e:TypeId}{s:Shape}{z:Value}{x y:Operand}{ok:Bool}(bH:bR ev a)(ho:o.op= .lookup t x y ok)(ht:P.underlying t=some (.map kt e))
  (hs:cC P kt=some s)(hz:fF P e=some z)(h:(dh.lookup s z ok x y).vc P ev H K):dT P o a H K:=by
 intro w hw
 subst hw
 obtain⟨r,hx,h⟩:=j9 (aV bH (aV bH h))
 obtain⟨hk,h⟩:=h.out
 cases r with
 |none=>
  refine .inl ⟨gY ok z none,w,?_,cf.refl w,h⟩
  have hf:=jx (P:=P) (k:=a.eval y) (es:=[]) (r:=none) hs rfl w
  simp only[execOp,ho,Instr.lookup,Sem.run_bind,aq ht,Result.andThen_ok,hx,Sem.run_pure,hZ hs hk,hf,cK hz]
  cases ok<;>rfl
 |some b=>
  obtain⟨m,hm,h⟩:=aA h
  obtain⟨rr,hr,h⟩:=aA h
  obtain⟨es,he,hl⟩:=ET hm
  rw[←hl]at hr
  refine .inl ⟨gY ok z (rr.map (·.2)),w,?_,cf.refl w,h⟩
  simp only[execOp,ho,Instr.lookup,Sem.run_bind,aq ht,Result.andThen_ok,hx,Sem.run_pure,oF he,hZ hs hk,jx hs hr]
  cases rr with
  |none=>simp only[cK hz,Result.andThen_ok,Sem.run_bind,Sem.run_pure];cases ok<;>rfl
  |some q=>cases ok<;>rfl
theorem Mm{t kt e:TypeId}{s:Shape}{x y z:Operand}(bH:bR ev a)(ho:o.op= .mapUpdate t x y z)(ht:P.underlying t=some (.map kt e))
  (hs:cC P kt=some s)(h:(dh.update s x y z).vc P ev H K):dT P o a H K:=by
 intro w hw
 subst hw
 obtain⟨r,hx,h⟩:=j9 (aV bH (aV bH (aV bH h)))
 obtain⟨b,rfl,h⟩:=aA h
 obtain⟨hk,h⟩:=h.out
 obtain⟨m,hm,h⟩:=aA h
 obtain⟨rr,hr,h⟩:=aA h
 obtain⟨uD,h⟩:=h.out
 obtain⟨es,he,hl⟩:=ET hm
 rw[←hl]at hr
 refine .inr (.inl ⟨{w with heap:=Hp.Du w.heap b (LL m.1 rr (a.eval y) (a.eval z) m.2) (J2 rr m.2)},?_,⟨rfl,rfl⟩,h⟩)
 simp only[execOp,ho,Instr.mapUpdate,Sem.run_bind,aq ht,Result.andThen_ok,hx,oF he,hZ hs hk,jx hs hr]
 cases rr with
 |none=>
  simp only[oG he,Result.andThen_ok,Sem.run_pure,LL,J2,←hl]
  simp
 |some q=>
  obtain⟨i,v⟩:=q
  have hb:Instr.sameBits 10000 (((es[i]?).map (·.key)).getD (a.eval y)) (a.eval y)=true:=by
   simp only[ES,←hl]at uD
   simpa using uD
  simp only[Instr.keyThatStays,hb,if_true,Sem.run_bind,Sem.run_pure,Result.andThen_ok,oG he,LL,J2,←hl]
  simp
theorem Mn{kt e:TypeId}{s:Shape}{c:Call}{x y:Operand}(bH:bR ev a)(ho:o.op= .call c)(hc:c.callee= .builtin .delete)(kF:c.args.toList=[x,y])
  (vp:(c.argTypes[0]?).bind P.underlying=some (.map kt e))(hs:cC P kt=some s)(h:(dh.delete s x y).vc P ev H K):dT P o a H K:=by
 intro w hw
 subst hw
 obtain⟨r,hx,h⟩:=j9 (aV bH (aV bH h))
 obtain⟨b,rfl,h⟩:=aA h
 obtain⟨hk,h⟩:=h.out
 obtain⟨m,hm,h⟩:=aA h
 obtain⟨rr,hr,h⟩:=aA h
 obtain⟨es,he,hl⟩:=ET hm
 rw[←hl]at hr
 have ha:c.args= #[x,y]:=Array.ext' kF
 obtain⟨t,Ga,GV⟩:=Option.bind_eq_some_iff.1 vp
 refine .inl ⟨.tuple [].toArray,{w with heap:=Hp.Du w.heap b (Gt m.1 rr) m.2},?_,⟨rfl,rfl⟩,h⟩
 simp only[execOp,ho,resolve,hc,Sem.run_bind,Sem.run_pure,Result.andThen_ok,invoke,builtin,ha,Builtin.delete_,Ga]
 simp only[List.map_toArray,ao5,List.map_nil,ap6,aoL,apf,Sem.run_bind,aq GV,Result.andThen_ok,hx,oF he,hZ hs hk,jx hs hr]
 cases rr with
 |none=>simp only[Sem.run_bind,oG he,Result.andThen_ok,Sem.run_pure,Gt,←hl]
 |some q=>
  obtain⟨i,v⟩:=q
  simp only[Sem.run_bind,oG he,Result.andThen_ok,Sem.run_pure,Gt,←hl,Array.toList_eraseIdxIfInBounds]
theorem Oj{e:TypeId}{z:Value}{c:Call}{x:Operand}(bH:bR ev a)(ho:o.op= .call c)(hc:c.callee= .builtin .clear)(kF:c.args.toList=[x])
  (vp:(c.argTypes[0]?).bind P.underlying=some (.slice e))(hz:fF P e=some z)(DC:(aI z).length≠0)(h:(dh.Oa (aI z) x).vc P ev H K):dT P o a H K:=by
 intro w hw
 subst hw
 obtain⟨ad,n,cp,hx,h⟩:=iL (aV bH h)
 have ha:c.args= #[x]:=Array.ext' kF
 obtain⟨t,Ga,GV⟩:=Option.bind_eq_some_iff.1 vp
 have Of:z.cells.toList=aI z:=eI z
 rcases h with ⟨rfl,h⟩| ⟨hn,b,off,l,rfl,hl,h1,h2,h⟩
 ·refine .inl ⟨.tuple [].toArray,w,?_,cf.refl w,h⟩
  simp only[execOp,ho,resolve,hc,Sem.run_bind,Sem.run_pure,Result.andThen_ok,invoke,builtin,ha,Builtin.clear_,Ga]
  simp only[List.map_toArray,ao5,List.map_nil,ap6,aoL,Sem.run_bind,aq GV,Result.andThen_ok,hx]
  cases ad<;>simp
 ·have e1:(Builtin.zeroCells z.cells n).toList=cE (aI z) n:=by
   unfold Builtin.zeroCells
   rw[BT rfl (by rw[←Of]at DC;simpa using DC),Of]
  have aZ:(cE (aI z) n).length=n*(aI z).length:=by simp[cE]
  obtain⟨w',hs,M6,hk,_⟩:=ir (P:=P) (b:=b) (o:=off) (cE (aI z) n) 0 w l hl (by omega) h1
  have aP:cE (aI z) n≠[]:=fun e=>by
   rw[e]at aZ
   simp only[apk]at aZ
   rcases Nat.mul_eq_zero.1 aZ.symm with h|h
   ·exact hn h
   ·exact DC h
  refine .inl ⟨.tuple [].toArray,w',?_,M6,?_⟩
  ·simp only[execOp,ho,resolve,hc,Sem.run_bind,Sem.run_pure,Result.andThen_ok,invoke,builtin,ha,Builtin.clear_,Ga]
   simp only[List.map_toArray,ao5,List.map_nil,ap6,aoL,Sem.run_bind,aq GV,Result.andThen_ok,hx]
   cases n with
   |zero=>exact absurd rfl hn
   |succ n=>simp[cK hz,e1,hs]
  ·rw[hk aP];exact h
theorem sr{f:FuncId}(hc:eF P f=true)(args:Array Value)(w:World):(callFunc f args).run P w= .ok (.enter f args) w:=by
 unfold eF at hc
 split at hc
 ·rename_i fn hf
  simp only[ao6,bne_iff_ne,ne_eq]at hc
  obtain⟨bd,hb⟩:=Option.isSome_iff_exists.1 hc.2
  simp[callFunc,hf,hc.1,hb]
 ·cases hc
theorem QD{f:FuncId}{c:Call}(bH:bR ev a)(ho:o.op= .call c)(hc:c.callee= .value (.func f))(hb:eF P f=true)
  (h:(dh.call f c.args.toList).vc P ev H K):dT P o a H K:=by
 intro w hw
 subst hw
 have h:=ln bH h
 refine .inr (.inr ⟨f,(c.args.map a.eval),w,?_,cf.refl w,by simpa using h⟩)
 simp[execOp,ho,resolve,hc,Act.eval,Deferred.ofValue,invoke,sr hb]
theorem SY{f:FuncId}{c:Call}(bH:bR ev a)(ho:o.op= .call c)(hc:c.callee= .value (.func f))
  (h:(dh.ext f c.args.toList).vc P ev H K):dT P o a H K:=by
 intro w hw
 subst hw
 obtain⟨v,hv,hk⟩:=ln bH h
 refine .inl ⟨v,w,?_,cf.refl w,hk⟩
 have OV:(callFunc f (c.args.map a.eval)).run P w= .ok (.value v) w:=by
  have h1:=hv w
  rw[show(List.map a.eval c.args.toList).toArray=c.args.map a.eval from Array.ext' (by simp)]at h1
  exact h1
 simp[execOp,ho,resolve,hc,Act.eval,Deferred.ofValue,invoke,OV]
theorem SZ{f:Operand}{c:Call}(bH:bR ev a)(ho:o.op= .call c)(hc:c.callee= .value f)
  (h:(dh.dyn f c.args.toList).vc P ev H K):dT P o a H K:=by
 intro w hw
 subst hw
 have h:=ln bH (aV bH h)
 unfold Yj at h
 split at h
 ·rename_i g first captured hf
  refine .inr (.inr ⟨g,first++c.args.map a.eval++captured,w,?_,cf.refl w,by simpa using h.2⟩)
  simp only[execOp,ho,resolve,hc,hf,Deferred.ofValue,Sem.run_bind,Sem.run_pure,Result.andThen_ok,invoke,sr h.1]
 ·exact h.elim
theorem Mo{r:Operand}{name:String}{c:Call}(bH:bR ev a)(ho:o.op= .call c)(hc:c.callee= .invoke r name)
  (h:(dh.invoke r name c.args.toList).vc P ev H K):dT P o a H K:=by
 intro w hw
 subst hw
 obtain⟨T,v,f,rv,hr,⟨El,hm⟩,h⟩:=ln bH (aV bH h)
 refine .inr (.inr ⟨f, #[rv]++c.args.map a.eval,w,?_,cf.refl w,by simpa using h⟩)
 have hx:(#[Value.iface T v]++c.args.map a.eval)[0]? =some (.iface T v):=by rw[apM (by simp)];rfl
 have tL:(#[Value.iface T v]++c.args.map a.eval).extract 1 (#[Value.iface T v]++c.args.map a.eval).size=c.args.map a.eval:=by
  apply Array.ext'
  simp only[Array.toList_extract,Array.toList_append,Array.toList_map,Array.size_append]
  simp[ap3]
 simp only[execOp,ho,resolve,hc,hr,Sem.run_bind,Sem.run_pure,Result.andThen_ok,invoke,hx,tL,callMethod,run_program,hm w rfl,sr El]
theorem mL{c:Call}{x:Operand}(ho:o.op= .call c)(hc:c.callee= .builtin .len)(kF:c.args.toList=[x]){w:World}{n:Nat}
  (hr:(Builtin.len_ c.argTypes o.type #[a.eval x]).run P w= .ok (goInt n) w):(execOp a.eval o).run P w= .ok (.value (.int .i64 n)) w:=by
 have ha:c.args= #[x]:=Array.ext' kF
 have hav:c.args.map a.eval= #[a.eval x]:=by rw[ha];simp
 simp only[execOp,ho,resolve,hc,Sem.run_bind,Sem.run_pure,Result.andThen_ok,invoke,builtin,hav,hr,goInt]
theorem QE{c:Call}{x:Operand}{e:TypeId}(bH:bR ev a)(ho:o.op= .call c)(hc:c.callee= .builtin .len)(kF:c.args.toList=[x])
  (vp:(c.argTypes[0]?).bind P.underlying=some (.slice e))(h:(dh.tn x).vc P ev H K):dX P o a H K:=by
 obtain⟨t,Ga,GV⟩:=Option.bind_eq_some_iff.1 vp
 obtain⟨ad,n,cp,hx,h⟩:=iL (aV bH h)
 refine⟨_,fun w=>mL ho hc kF (n:=n) ?_,h⟩
 simp[Builtin.len_,Ga,aq GV,goInt,hx]
theorem QF{c:Call}{x:Operand}(bH:bR ev a)(ho:o.op= .call c)(hc:c.callee= .builtin .len)(kF:c.args.toList=[x])
  (vp:(c.argTypes[0]?).bind P.underlying=some .string)(h:(dh.UU x).vc P ev H K):dX P o a H K:=by
 obtain⟨t,Ga,GV⟩:=Option.bind_eq_some_iff.1 vp
 obtain⟨s,hx,h⟩:=mK (aV bH h)
 refine⟨_,fun w=>mL ho hc kF (n:=s.size) ?_,h⟩
 simp[Builtin.len_,Ga,aq GV,goInt,hx]
theorem QG{c:Call}{x:Operand}{k e:TypeId}(bH:bR ev a)(ho:o.op= .call c)(hc:c.callee= .builtin .len)(kF:c.args.toList=[x])
  (vp:(c.argTypes[0]?).bind P.underlying=some (.map k e))(h:(dh.UV x).vc P ev H K):dT P o a H K:=by
 intro w hw
 subst hw
 obtain⟨t,Ga,GV⟩:=Option.bind_eq_some_iff.1 vp
 obtain⟨r,hx,h⟩:=j9 (aV bH h)
 cases r with
 |none=>
  refine .inl ⟨_,w,mL ho hc kF (n:=0) ?_,cf.refl w,h⟩
  simp[Builtin.len_,Ga,aq GV,goInt,hx]
 |some b=>
  obtain⟨m,hm,h⟩:=aA h
  obtain⟨es,he,hl⟩:=ET hm
  refine .inl ⟨_,w,mL ho hc kF (n:=m.1.length) ?_,cf.refl w,h⟩
  simp[Builtin.len_,Ga,aq GV,goInt,hx,oF he,←hl]
theorem U7:∀ (r:List Value) (x v:Value),Ma x r=some v→∀w:World,(r.foldlM Builtin.min2 x).run P w= .ok v w:=by
 intro r
 induction r with
 |nil=>intro x v h w;injection h with h;subst h;rfl
 |cons y r ih=>
  intro x v h w
  unfold Ma at h
  split at h
  ·rename_i k p k' q
   simp[List.foldlM_cons,Builtin.min2,ih _ v h w]
  ·cases h
theorem U8:∀ (r:List Value) (x v:Value),Mb x r=some v→∀w:World,(r.foldlM Builtin.max2 x).run P w= .ok v w:=by
 intro r
 induction r with
 |nil=>intro x v h w;injection h with h;subst h;rfl
 |cons y r ih=>
  intro x v h w
  unfold Mb at h
  split at h
  ·rename_i k p k' q
   simp[List.foldlM_cons,Builtin.max2,ih _ v h w]
  ·cases h
theorem S0{c:Call}(bH:bR ev a)(ho:o.op= .call c)(hc:c.callee= .builtin .min)(h:(dh.UW c.args.toList).vc P ev H K):dX P o a H K:=by
 obtain⟨v,hv,h⟩:=aA (ln bH h)
 refine⟨v,fun w=>?_,h⟩
 have e:(Builtin.min_ c.argTypes o.type (c.args.map a.eval)).run P w= .ok v w:=by
  unfold Builtin.min_
  rw[Array.toList_map]
  cases hl:c.args.toList.map a.eval with
  |nil=>rw[hl]at hv;cases hv
  |cons x r=>rw[hl]at hv;exact U7 r x v hv w
 simp only[execOp,ho,resolve,hc,Sem.run_bind,Sem.run_pure,Result.andThen_ok,invoke,builtin,e]
theorem S6{c:Call}(bH:bR ev a)(ho:o.op= .call c)(hc:c.callee= .builtin .max)(h:(dh.UX c.args.toList).vc P ev H K):dX P o a H K:=by
 obtain⟨v,hv,h⟩:=aA (ln bH h)
 refine⟨v,fun w=>?_,h⟩
 have e:(Builtin.max_ c.argTypes o.type (c.args.map a.eval)).run P w= .ok v w:=by
  unfold Builtin.max_
  rw[Array.toList_map]
  cases hl:c.args.toList.map a.eval with
  |nil=>rw[hl]at hv;cases hv
  |cons x r=>rw[hl]at hv;exact U8 r x v hv w
 simp only[execOp,ho,resolve,hc,Sem.run_bind,Sem.run_pure,Result.andThen_ok,invoke,builtin,e]
theorem zU{H:Hp}{size:Nat}{v:Value}{F:Nat→List Value→Prop}(h:rowOf H size v F):
  ∃ (n:Nat) (l:List Value),F n l∧(∀w:World,(Builtin.lenOf v).run P w= .ok n w)∧(∀w:World,w.heap=H→(Builtin.firstCells size n v).run P w= .ok l.toArray w)∧l.length=n*size∧
   (∀b m c,v= .slice b m c→m=n):=by
 unfold rowOf at h
 split at h
 ·rename_i a n c
  by_cases Lm:n=0
  ·subst Lm
   refine⟨0,[],h,fun _=>rfl,fun w hw=>?_,by simp,fun _ _ _ e=>by injection e with _ e _;exact e.symm⟩
   cases a with
   |none=>rfl
   |some a=>simp only[Builtin.firstCells,aoZ];rfl
  ·have e0:(n==0)=false:=by simpa using Lm
   rw[e0]at h
   obtain⟨b,off,rfl,h1⟩:=nP (F:=fun b o=>aC (H.rd b) fun l=>dD (o+n*size≤l.length) (F n ((l.drop o).take (n*size)))) h
   obtain⟨l,hl,h2⟩:=aA h1
   obtain⟨hn,h3⟩:=h2.out
   refine⟨n,_,h3,fun _=>rfl,fun w hw=>?_,by simp;omega,fun _ _ _ e=>by injection e with _ e _;exact e.symm⟩
   subst hw
   exact qH (P:=P) (a:=⟨b,off,none⟩) rfl hl hn
 ·rename_i s
  obtain⟨e1,h2⟩:=h.out
  subst e1
  refine⟨s.size,_,h2,fun _=>rfl,fun w _=>?_,?_,fun _ _ _ e=>by cases e⟩
  ·simp only[Builtin.firstCells,Sem.run_pure]
   congr 1
   apply Array.ext'
   have:s.extract 0 s.size=s:=by
    apply ByteArray.ext
    simp
   rw[this]
   simp
  ·rw[aoE,aok,Array.length_toList];rfl
 ·exact h.elim
theorem Ka{s t e:TypeId}{x:Operand}(bH:bR ev a)(ho:o.op= .convert s t x)(hs:P.underlying s=some .string)(ht:P.underlying t=some (.slice e))(he:P.underlying e=some (.int .u8))
  (h:(dh.J6 e x).vc P ev H K):dT P o a H K:=by
 intro w hw
 subst hw
 have h:=aV bH h
 unfold jv at h
 split at h
 ·rename_i bs hx
  have hr:=Lib.run_convert_string_bytes (P:=P) w s t e bs hs ht he
  have OB:=grownCap_ge w bs.size 0 e
  refine .inl ⟨.slice (some ⟨w.heap.size,0,none⟩) bs.size (grownCap w bs.size 0 e),Lib.bytesWorld w e bs,?_,⟨rfl,rfl⟩,?_⟩
  ·simp only[execOp,ho]
   rw[hx]at*
   simp only[Sem.run_bind,hr,Result.andThen_ok,Sem.run_pure]
  ·have hk:=h _ OB
   have e1:(Lib.bytesWorld w e bs).heap=Hp.NV w.heap e ((bs.data.toList.map fun b=>.int .u8 b.toNat)++List.replicate (grownCap w bs.size 0 e - bs.size) (.int .u8 0)):=by
    apply Array.ext_getElem?
    intro i
    rcases apJ i w.heap.size with hi|hi|hi
    ·rw[Lib.bytesWorld_at_old w e bs i hi,LX _ _ _ hi]
    ·subst hi
     rw[Lib.bytesWorld_at_new]
     simp[Hp.NV,Lib.bytesCells]
    ·rw[apx (by rw[Lib.bytesWorld_size];omega),apx (by rw[Qu];omega)]
   rw[e1]
   exact hk
 ·exact h.elim
theorem Ol:∀ (l:List Value) (bs:List UInt8),bytesOf l=some bs→∀ (s:ByteArray) (w:World),
  (forIn l s fun c (s:ByteArray)=>(match c with| .int .u8 n=>pure (ForInStep.yield (s.push (UInt8.ofNat n.toNat)))|_=>(do stuck "bytesToString: byte expected";pure (ForInStep.yield s)):Sem (ForInStep ByteArray))).run P w= .ok ⟨s.data++bs.toArray⟩ w:=by
 intro l
 induction l with
 |nil=>intro bs h s w;simp only[bytesOf,aor]at h;subst h;simp
 |cons v l ih=>
  intro bs h s w
  cases v with
  |int k n=>
   cases k with
   |u8=>
    simp only[bytesOf]at h
    cases hb:bytesOf l with
    |none=>rw[hb]at h;cases h
    |some r=>
     rw[hb]at h
     simp only[Option.map_some,aor]at h
     subst h
     simp only[List.forIn_cons,Sem.run_bind,Sem.run_pure,Result.andThen_ok]
     rw[ih r hb]
     congr 1
     apply ByteArray.ext
     apply Array.ext'
     simp[ByteArray.push]
   |_=>simp[bytesOf]at h
  |_=>simp[bytesOf]at h
theorem Om{s t e:TypeId}{x:Operand}(bH:bR ev a)(ho:o.op= .convert s t x)(hs:P.underlying s=some (.slice e))(ht:P.underlying t=some .string)(he:P.underlying e=some (.int .u8))
  (h:(dh.Pa x).vc P ev H K):dT P o a H K:=by
 intro w hw
 subst hw
 have h:=aV bH h
 unfold vh at h
 split at h
 ·rename_i ad n c hx
  obtain⟨m,l,h,h1,h2,h3,h4⟩:=zU (P:=P) h
  obtain⟨bs,hb,h⟩:=aA h
  refine .inl ⟨_,w,?_,cf.refl w,h⟩
  have hm:n=m:=h4 _ _ _ rfl
  subst hm
  have h5:=h2 w rfl
  have key:(Conv.bytesToString (.slice ad n c)).run P w= .ok (.string ⟨bs.toArray⟩) w:=by
   cases ad with
   |none=>
    simp only[Builtin.firstCells,Sem.run_pure,Result.ok.injEq,and_true]at h5
    have hl:l=[]:=by
     have:=aoD Array.toList h5
     simpa using this.symm
    subst hl
    simp only[bytesOf,aor]at hb
    subst hb
    rfl
   |some ad=>
    simp only[Builtin.firstCells,aok]at h5
    simp only[Conv.bytesToString,Sem.run_bind,h5,Result.andThen_ok]
    rw[List.forIn_toArray]
    refine(aoD (fun r=>Result.andThen r fun a w'=>Sem.run P (pure (Value.string a)) w') (Ol (P:=P) l bs hb ByteArray.empty w)).trans ?_
    simp only[Result.andThen_ok,Sem.run_pure]
    congr 3
    simp
  simp only[execOp,ho,convert,hx,Sem.run_bind,aq hs,aq ht,aq he,Result.andThen_ok,key]
  rfl
 ·exact h.elim
theorem VZ{d:TypeDesc}(hd:Gu d=true):(∃e,d= .slice e)∨d= .string:=by
 cases d<;>first|exact .inl ⟨_,rfl⟩|exact .inr rfl| (cases hd)
theorem Is{Yo:Array TypeId}{ty t t' e:TypeId}{d:TypeDesc}{w:World}{base:Option Addr}{n cap m:Nat}{y:Value}{new:Array Value}(Ga:Yo[0]? =some t)(QH:Yo[1]? =some t')
  (GV:P.underlying t=some (.slice e))(C4:P.underlying t'=some d)(hd:Gu d=true)(hi:(P.info? e).isSome=true)
  (aZ:(Builtin.lenOf y).run P w= .ok m w)(r9:(Builtin.firstCells (P.cellsOf e) m y).run P w= .ok new w)(nS:n+m≤cap):
  (Builtin.append_ Yo ty #[.slice base n cap,y]).run P w=
   ((match base with|some a=>storeCells (a.add (n*P.cellsOf e)) new.toList|none=>(pure ():Sem Unit)).run P w).andThen fun _ w'=>.ok (.slice base (n+m) cap) w':=by
 rcases VZ hd with ⟨e',rfl⟩|rfl<;>unfold Builtin.append_<;>
 simp only[ap6,aoL,apf,Ga,QH,Sem.run_bind,aq GV,aq C4,Result.andThen_ok,bL hi,Sem.run_pure,aZ,aph,if_false,if_pos nS,apW,if_true,r9]<;>
 cases base<;>simp only[Sem.run_pure,Result.andThen_ok,Sem.run_bind]
theorem GG{Yo:Array TypeId}{ty t t' e:TypeId}{d:TypeDesc}{w:World}{base:Option Addr}{n cap m:Nat}{y z:Value}{new Sm:Array Value}(Ga:Yo[0]? =some t)(QH:Yo[1]? =some t')
  (GV:P.underlying t=some (.slice e))(C4:P.underlying t'=some d)(hd:Gu d=true)(hi:(P.info? e).isSome=true)(hz:fF P e=some z)
  (aZ:(Builtin.lenOf y).run P w= .ok m w)(r9:(Builtin.firstCells (P.cellsOf e) m y).run P w.drew= .ok new w.drew)
  (hold:(Builtin.firstCells (P.cellsOf e) n (.slice base n cap)).run P w.drew= .ok Sm w.drew)
  (nS:cap<n+m)(hb:Builtin.nextslicecap (n+m) cap*P.bytesOf e≤2^48)(Rv:P.bytesOf e≠0):
  ∃c',n+m≤c'∧(Builtin.append_ Yo ty #[.slice base n cap,y]).run P w=
   .ok (.slice (some ⟨w.heap.size,0,none⟩) (n+m) c') {w with drawn:=w.drawn+1,heap:=Hp.new w.heap e ((Sm++new++Builtin.zeroCells z.cells (c' - (n+m))).toList)}:=by
 obtain⟨inf,acN⟩:=Option.isSome_iff_exists.1 hi
 have Yp:inf.bytes=P.bytesOf e:=by simp[Program.bytesOf,acN]
 refine⟨(Question.appendCap (n+m) cap e).cut (w.tape w.drawn (.appendCap (n+m) cap e)),by simp[Question.cut],?_⟩
 have aP:n+m≤2^48:=by
  have h1:=le_nextslicecap nS
  have h2:Builtin.nextslicecap (n+m) cap≤Builtin.nextslicecap (n+m) cap*P.bytesOf e:=Nat.le_mul_of_pos_right _ (by omega)
  omega
 have bO:¬ (9223372036854775807< ((n:Int)+(m:Int))):=by omega
 have ahs:¬ (281474976710656<Builtin.nextslicecap (n+m) cap*P.bytesOf e):=by omega
 have hn:¬ (n+m≤cap):=by omega
 rcases VZ hd with ⟨e',rfl⟩|rfl<;>
  simp[Builtin.append_,Ga,QH,aq GV,aq C4,bL hi,aZ,hn,ec acN,Yp,Rv,ahs,Question.forced,cK hz,hold,r9,lq]<;>
  exact⟨rfl,rfl,rfl⟩
theorem Mp{c:Call}{e:TypeId}{d:TypeDesc}{z:Value}{x y:Operand}(bH:bR ev a)(ho:o.op= .call c)(hc:c.callee= .builtin .append)(kF:c.args.toList=[x,y])
  (vp:(c.argTypes[0]?).bind P.underlying=some (.slice e))(aht:(c.argTypes[1]?).bind P.underlying=some d)(hd:Gu d=true)(hz:fF P e=some z)(hi:(P.info? e).isSome=true)
  (h0:P.cellsOf e≠0)(hl:(aI z).length=P.cellsOf e)(Rv:P.bytesOf e≠0)(h:(dh.append e (P.cellsOf e) (P.bytesOf e) (aI z) x y).vc P ev H K):dT P o a H K:=by
 intro w hw
 subst hw
 have ha:c.args= #[x,y]:=Array.ext' kF
 obtain⟨t,Ga,GV⟩:=Option.bind_eq_some_iff.1 vp
 obtain⟨t',QH,C4⟩:=Option.bind_eq_some_iff.1 aht
 have Of:z.cells.toList=aI z:=eI z
 have OH:z.cells.size=P.cellsOf e:=by rw[←hl,←Of];simp
 obtain⟨base,n,cap,hx,h⟩:=iL (aV bH (aV bH h))
 have h':=h
 obtain⟨m,new,h,aZ,r9,hnl,_⟩:=zU (P:=P) h
 obtain⟨hA,hB,hC⟩:=h
 have hav:c.args.map a.eval= #[.slice base n cap,a.eval y]:=by rw[ha];simp[hx]
 have pre:∀v w',(Builtin.append_ c.argTypes o.type #[.slice base n cap,a.eval y]).run P w= .ok v w'→(execOp a.eval o).run P w= .ok (.value v) w':=by
  intro v w' hr
  simp only[execOp,ho,resolve,hc,Sem.run_bind,Sem.run_pure,Result.andThen_ok,invoke,builtin,hav,hr]
 by_cases nS:n+m≤cap
 ·have hr:=Is (ty:=o.type) (base:=base) Ga QH GV C4 hd hi (aZ w) (r9 w rfl) nS
  by_cases hm:m=0
  ·subst hm
   have Lm:new=[]:=aoQ.1 (by omega)
   subst Lm
   refine .inl ⟨_,w,pre _ w ?_,cf.refl w,hA nS rfl⟩
   rw[hr]
   cases base<;>simp[storeCells]
  ·obtain⟨b,off,rfl,hB⟩:=nP (hB nS hm)
   obtain⟨l,EQ,hB⟩:=aA hB
   obtain⟨⟨h1,h2⟩,hB⟩:=hB.out
   obtain⟨w',hs,M6,hk,_⟩:=ir (P:=P) (b:=b) (o:=off+n*P.cellsOf e) new 0 w l EQ (by rw[apA]at h1;omega) h2
   have aP:new≠[]:=fun e'=>by
    rw[e']at hnl
    rcases Nat.mul_eq_zero.1 hnl.symm with h|h
    ·exact hm h
    ·exact h0 h
   refine .inl ⟨_,w',pre _ w' ?_,M6,hk aP▸hB⟩
   rw[hr]
   simp only[zv,List.toList_toArray,hs,Result.andThen_ok]
 ·obtain⟨hb,hC⟩:=hC (by omega)
  rw[hx]at hC
  obtain⟨n',Sm,hC,_,hold,hol,hn'⟩:=zU (P:=P) hC
  have:n=n':=hn' _ _ _ rfl
  subst this
  obtain⟨c',Jb,hr⟩:=GG (ty:=o.type) (base:=base) Ga QH GV C4 hd hi hz (aZ w) (r9 w.drew rfl) (hold w.drew rfl) (by omega) hb Rv
  refine .inl ⟨_,_,pre _ _ hr,⟨rfl,rfl⟩,?_⟩
  have e1:(Sm.toArray++new.toArray++Builtin.zeroCells z.cells (c' - (n+m))).toList=Sm++new++cE (aI z) (c' - (n+m)):=by
   rw[Array.toList_append,Array.toList_append]
   congr 1
   unfold Builtin.zeroCells
   rw[BT rfl (by omega),Of]
  rw[e1]
  exact hC c' Jb
end
end Go.Vc

namespace Go.Vc
def dh.cls:dh→Lf
 | .au _| .pick .. | .build .. | .nilCheck _| .iP .. | .un .. | .conv .. | .iface .. | .func .. | .slice .. | .J3 .. | .fieldAddr .. | .field .. | .indexAddr .. | .BQ .. | .J4 .. | .extract ..
 | .tn _| .UU _| .UW _| .UX _| .J5 .. | .UY .. =>.pure
 | .aj _| .da .. | .lookup .. | .UV _| .Pa _=>.quiet
 |_=>.HH
section
variable {P : Program} {o : Oper} {a : Act} {ev : Ev} {H : Hp} {K : Value → Hp → Prop}
theorem sound(i:dh)(hd:I0 P o=some i)(bH:bR ev a)(h:i.vc P ev H K):(i.cls= .pure→dX P o a H K)∧dT P o a H K:=by
 have mk:dX P o a H K→(i.cls= .pure→dX P o a H K)∧dT P o a H K:=fun hp=>⟨fun _=>hp,hp.ahl⟩
 have mk':i.cls≠ .pure→dT P o a H K→(i.cls= .pure→dX P o a H K)∧dT P o a H K:=fun hn hp=>⟨fun e=>absurd e hn,hp⟩
 unfold I0 at hd
 split at hd
 ·rename_i x ho;injection hd with hd;subst hd;exact mk (Me bH (.inl ho) h)
 ·rename_i x ho;injection hd with hd;subst hd;exact mk (Me bH (.inr ho) h)
 ·rename_i c x y ho;injection hd with hd;subst hd;exact mk (Qy bH ho h)
 ·rename_i T x ho;injection hd with hd;subst hd;exact mk' (by simp[dh.cls]) (SX bH ho h)
 ·rename_i T ho
  cases hz:fF P T with
  |none=>rw[hz]at hd;cases hd
  |some z=>rw[hz]at hd;injection hd with hd;subst hd;exact mk' (by simp[dh.cls]) (QC hz ho h)
 ·rename_i t ps ho
  cases hz:fF P t with
  |none=>rw[hz]at hd;cases hd
  |some z=>
   rw[hz,Option.bind_some]at hd
   cases hq:parts P t (aI z).length ps.toList with
   |none=>rw[hq]at hd;cases hd
   |some qs=>rw[hq]at hd;injection hd with hd;subst hd;exact mk (Oe bH ho hz hq h)
 ·rename_i t n ps ho
  split at hd
  ·rename_i e hu
   cases hz:fF P e with
   |none=>rw[hz]at hd;cases hd
   |some z=>
    rw[hz,Option.bind_some]at hd
    split at hd
    ·rename_i hc
     cases hq:kA (fun i=>some (i*P.cellsOf e,P.cellsOf e)) (n*P.cellsOf e) ps.toList with
     |none=>rw[hq]at hd;cases hd
     |some qs=>rw[hq]at hd;injection hd with hd;subst hd;exact mk' (by simp[dh.cls]) (SW bH ho hu hz hc.1 hc.2.1 hc.2.2.1 hc.2.2.2 hq h)
    ·cases hd
  ·cases hd
 ·rename_i t x ho
  split at hd
  ·rename_i hc
   split at hd
   ·rename_i hg;injection hd with hd;subst hd;exact mk' (by simp[dh.cls]) (Oh bH ho hc.1 hc.2 hg h)
   ·rename_i hg;injection hd with hd;subst hd;exact mk' (by simp[dh.cls]) (Og bH ho hc.1 hc.2 (by simpa using hg) h)
  ·cases hd
 ·rename_i t x y ho
  split at hd
  ·rename_i hc;injection hd with hd;subst hd;exact mk' (by simp[dh.cls]) (Oi bH ho hc.1 hc.2 h)
  ·cases hd
 ·rename_i x ho;injection hd with hd;subst hd;exact mk (Iq bH ho h)
 ·rename_i op t x y t' ho
  split at hd
  ·split at hd
   ·rename_i ms hu;injection hd with hd;subst hd;exact mk (I1 bH ho hu (.inl ⟨rfl,rfl⟩) h)
   ·cases hs:shapeOf P eV t with
    |none=>rw[hs]at hd;cases hd
    |some s=>
     rw[hs,Option.bind_some]at hd
     split at hd
     ·rename_i hc;injection hd with hd;subst hd;exact mk (Gx bH ho (fun _=>⟨hs,hc⟩) h)
     ·cases hd
  ·split at hd
   ·rename_i ms hu;injection hd with hd;subst hd;exact mk (I1 bH ho hu (.inr ⟨rfl,rfl⟩) h)
   ·cases hs:shapeOf P eV t with
    |none=>rw[hs]at hd;cases hd
    |some s=>
     rw[hs,Option.bind_some]at hd
     split at hd
     ·rename_i hc;injection hd with hd;subst hd;exact mk (Gx bH ho (fun _=>⟨hs,hc⟩) h)
     ·cases hd
  ·rename_i h1 h2
   injection hd with hd;subst hd;exact mk (Gx bH ho (fun he=>by rcases he with he|he<;>first|exact absurd he h1|exact absurd he h2) h)
 ·rename_i op t x ho;injection hd with hd;subst hd;exact mk (U6 bH ho h)
 ·rename_i s t x ho
  split at hd
  ·rename_i k' k h1 h2;injection hd with hd;subst hd;exact mk (Qz bH ho h1 h2 h)
  ·rename_i e h1 h2
   split at hd
   ·rename_i h3;injection hd with hd;subst hd;exact mk' (by simp[dh.cls]) (Om bH ho h1 h2 h3 h)
   ·cases hd
  ·rename_i e h1 h2
   split at hd
   ·rename_i h3;injection hd with hd;subst hd;exact mk' (by simp[dh.cls]) (Ka bH ho h1 h2 h3 h)
   ·cases hd
  ·cases hd
 ·rename_i t x ho
  split at hd
  ·cases hd
  ·rename_i d hu hn;injection hd with hd;subst hd;exact mk (Ob bH ho hn (fun ms e=>hu ms (by rw[e])) h)
  ·cases hd
 ·rename_i fn first captured ho;injection hd with hd;subst hd;exact mk (QA bH ho h)
 ·rename_i t ho;injection hd with hd;subst hd;exact mk' (by simp[dh.cls]) (Mk ho h)
 ·rename_i t x y ho
  split at hd
  ·rename_i e hu
   cases hz:fF P e with
   |none=>rw[hz]at hd;cases hd
   |some z=>
    rw[hz,Option.bind_some]at hd
    split at hd
    ·rename_i hc;injection hd with hd;subst hd;exact mk' (by simp[dh.cls]) (GB bH ho hu hz hc.1 hc.2.1 hc.2.2 h)
    ·cases hd
  ·cases hd
 ·rename_i t x lo hi mx ho
  split at hd
  ·rename_i e hu
   split at hd
   ·rename_i hc;injection hd with hd;subst hd;exact mk (Od bH ho hu hc.1 (fun hm=>hc.2.elim (fun h1=>by cases mx<;>simp_all) id) h)
   ·cases hd
  ·rename_i hu
   split at hd
   ·rename_i hc;injection hd with hd;subst hd
    cases mx with
    |none=>exact mk (Mi bH ho hu h)
    |some m=>simp at hc
   ·cases hd
  ·cases hd
 ·rename_i s x f ho
  split at hd
  ·rename_i fields hu
   cases hf:fields[f]? with
   |none=>rw[hf]at hd;cases hd
   |some fd=>
    rw[hf,Option.bind_some]at hd
    split at hd
    ·rename_i hc;injection hd with hd;subst hd;exact mk (Gy bH ho hu hf hc.1 hc.2 h)
    ·cases hd
  ·cases hd
 ·rename_i t x f ho
  split at hd
  ·rename_i fields hu
   cases hf:fields[f]? with
   |none=>rw[hf]at hd;cases hd
   |some fd=>
    rw[hf,Option.bind_some]at hd
    split at hd
    ·rename_i hc;injection hd with hd;subst hd;exact mk (Oc bH ho hu hf hc.1 hc.2 h)
    ·cases hd
  ·cases hd
 ·rename_i t x i' ho
  split at hd
  ·rename_i e hu
   split at hd
   ·rename_i hc;injection hd with hd;subst hd;exact mk (Gz bH ho hu hc h)
   ·cases hd
  ·rename_i n e hu
   split at hd
   ·rename_i hc;injection hd with hd;subst hd;exact mk (Ir bH ho hu hc h)
   ·cases hd
  ·cases hd
 ·rename_i t x i' ho
  split at hd
  ·rename_i hu;injection hd with hd;subst hd;exact mk (Mh bH ho hu h)
  ·cases hd
 ·rename_i t x i' ok ho
  split at hd
  ·rename_i k e hu
   cases hs:cC P k with
   |none=>rw[hs]at hd;cases hd
   |some s=>
    rw[hs,Option.bind_some]at hd
    cases hz:fF P e with
    |none=>rw[hz]at hd;cases hd
    |some z=>rw[hz]at hd;injection hd with hd;subst hd;exact mk' (by simp[dh.cls]) (Ml bH ho hu hs hz h)
  ·cases hd
 ·rename_i t m k v ho
  split at hd
  ·rename_i kt e hu
   cases hs:cC P kt with
   |none=>rw[hs]at hd;cases hd
   |some s=>rw[hs]at hd;injection hd with hd;subst hd;exact mk' (by simp[dh.cls]) (Mm bH ho hu hs h)
  ·cases hd
 ·rename_i x i' ho;injection hd with hd;subst hd;exact mk (J8 bH ho h)
 ·rename_i x s T ho
  split at hd
  ·cases hd
  ·rename_i d hu hn;injection hd with hd;subst hd;exact mk (Mf bH ho hn (fun ms e=>hu ms (by rw[e])) h)
  ·cases hd
 ·rename_i c ho
  split at hd
  ·rename_i f hc
   split at hd
   ·rename_i hb;injection hd with hd;subst hd;exact mk' (by simp[dh.cls]) (QD bH ho hc hb h)
   ·injection hd with hd;subst hd;exact mk' (by simp[dh.cls]) (SY bH ho hc h)
  ·rename_i x hx hc;injection hd with hd;subst hd;exact mk' (by simp[dh.cls]) (SZ bH ho hc h)
  ·rename_i r name hc;injection hd with hd;subst hd;exact mk' (by simp[dh.cls]) (Mo bH ho hc h)
  ·rename_i hc
   split at hd
   ·rename_i x e h1 h2;injection hd with hd;subst hd;exact mk (QE bH ho hc h1 h2 h)
   ·rename_i x h1 h2;injection hd with hd;subst hd;exact mk (QF bH ho hc h1 h2 h)
   ·rename_i x k e h1 h2;injection hd with hd;subst hd;exact mk' (by simp[dh.cls]) (QG bH ho hc h1 h2 h)
   ·cases hd
  ·rename_i hc
   split at hd
   ·rename_i x y e d h1 h2 h3
    cases hz:fF P e with
    |none=>rw[hz]at hd;cases hd
    |some z=>
     rw[hz,Option.bind_some]at hd
     split at hd
     ·rename_i hq;injection hd with hd;subst hd;exact mk' (by simp[dh.cls]) (Mp bH ho hc h1 h2 h3 hq.2.2.2.2 hz hq.1 hq.2.1 hq.2.2.1 hq.2.2.2.1 h)
     ·cases hd
   ·cases hd
  ·rename_i hc
   split at hd
   ·rename_i m k kt e h1 h2
    cases hs:cC P kt with
    |none=>rw[hs]at hd;cases hd
    |some s=>rw[hs]at hd;injection hd with hd;subst hd;exact mk' (by simp[dh.cls]) (Mn bH ho hc h1 h2 hs h)
   ·cases hd
  ·rename_i hc
   split at hd
   ·rename_i x e h1 h2
    cases hz:fF P e with
    |none=>rw[hz]at hd;cases hd
    |some z=>
     rw[hz,Option.bind_some]at hd
     split at hd
     ·rename_i hq;injection hd with hd;subst hd;exact mk' (by simp[dh.cls]) (Oj bH ho hc h1 h2 hz hq h)
     ·cases hd
   ·cases hd
  ·rename_i hc;injection hd with hd;subst hd;exact mk (S0 bH ho hc h)
  ·rename_i hc;injection hd with hd;subst hd;exact mk (S6 bH ho hc h)
  ·cases hd
 ·cases hd
theorem ak{α:Type}{o:Option α}{F G:α→Prop}(h:aC o F)(hk:∀v,F v→G v):aC o G:=by cases o;exact h;exact hk _ h
theorem bN{c F G:Prop}(h:dD c F)(hk:F→G):dD c G:=⟨h.1,hk h.2⟩
theorem GH{v:Value}{F G:Bool→Prop}(h:BM v F)(hk:∀b,F b→G b):BM v G:=by unfold BM at*;split at h;exact hk _ h;exact h.elim
theorem ly{F G:List Value→Prop}:∀ {xs:List Operand},NZ ev xs F→(∀l,F l→G l)→NZ ev xs G:=by
 intro xs
 induction xs generalizing F G with
 |nil=>intro h hk;exact hk _ h
 |cons x xs ih=>intro h hk;exact ak h fun v h=>ih h fun l=>hk _
theorem GI{F G:List Value→Prop}:∀ {r:List (Nat×Nat×Operand)} {z:List Value},BO ev z r F→(∀l,F l→G l)→BO ev z r G:=by
 intro r
 induction r with
 |nil=>intro z h hk;exact hk _ h
 |cons p r ih=>obtain⟨off,size,x⟩:=p;intro z h hk;exact ak h fun v h=>bN h fun h=>ih h hk
theorem qI{v:Value}{F G:Nat→Nat→Prop}(h:xK v F)(hk:∀b o,F b o→G b o):xK v G:=by obtain⟨b,o,rfl,h⟩:=fi h;exact hk _ _ h
theorem ke{v:Value}{F G:Int→Prop}(h:Dj v F)(hk:∀b,F b→G b):Dj v G:=by obtain⟨b,o,rfl,h⟩:=iK h;exact hk _ h
theorem lz{v:Value}{F G:Option Addr→Nat→Nat→Prop}(h:pk v F)(hk:∀a n c,F a n c→G a n c):pk v G:=by obtain⟨a,n,c,rfl,h⟩:=iL h;exact hk _ _ _ h
theorem zV{v:Option Addr}{F G:Nat→Nat→Prop}(h:uY v F)(hk:∀b o,F b o→G b o):uY v G:=by obtain⟨b,o,rfl,h⟩:=nP h;exact hk _ _ h
theorem su{v:Value}{F G:ByteArray→Prop}(h:jv v F)(hk:∀b,F b→G b):jv v G:=by obtain⟨b,rfl,h⟩:=mK h;exact hk _ h
theorem QI{v:Value}{F G:List Value→Prop}(h:Qw v F)(hk:∀b,F b→G b):Qw v G:=by obtain⟨b,rfl,h⟩:=IX h;exact hk _ h
theorem QJ{v:Value}{F G:List Value→Prop}(h:Qx v F)(hk:∀b,F b→G b):Qx v G:=by obtain⟨b,rfl,h⟩:=IY h;exact hk _ h
theorem vR{v:Value}{F G:Option Nat→Prop}(h:Dk v F)(hk:∀b,F b→G b):Dk v G:=by obtain⟨b,rfl,h⟩:=j9 h;exact hk _ h
theorem QK{v:Value}{F G:Bool→Prop}(h:N0 v F)(hk:∀b,F b→G b):N0 v G:=by
 rcases IZ h with ⟨e,h⟩| ⟨t,u,e,h⟩<;>subst e<;>exact hk _ h
theorem Kb{T:TypeId}{v:Value}{F G:Value→Prop}(h:vP T v F)(hk:∀b,F b→G b):vP T v G:=by obtain⟨b,e,h2⟩:=BP h;subst e;exact⟨rfl,hk _ h2⟩
theorem zW{H:Hp}{size:Nat}{v:Value}{F G:Nat→List Value→Prop}(h:rowOf H size v F)(hk:∀n l,F n l→G n l):rowOf H size v G:=by
 unfold rowOf at*
 split at h
 ·rename_i a n c
  cases hn:n==0
  ·rw[hn]at h
   exact zV h fun b o h=>ak h fun l h=>bN h (hk _ _)
  ·rw[hn]at h
   exact hk _ _ h
 ·exact bN h (hk _ _)
 ·exact h.elim
theorem DL{H:Hp}{v:Value}{F G:List UInt8→Prop}(h:vh H v F)(hk:∀b,F b→G b):vh H v G:=by
 unfold vh at*
 split at h
 ·exact zW h fun n l h=>ak h hk
 ·exact h.elim
theorem lC{x:Option Operand}{d:Nat}{F G:Int→Prop}(h:pq ev x d F)(hk:∀b,F b→G b):pq ev x d G:=by
 cases x with
 |none=>exact hk _ h
 |some x=>exact ak h fun v h=>ke h hk
theorem Pb{K':Value→Hp→Prop}(i:dh)(hc:i.cls= .pure)(h:i.vc P ev H K)(hk:∀v H',K v H'→K' v H'):i.vc P ev H K':=by
 cases i<;>simp[dh.cls]at hc<;>simp only[dh.vc]at h ⊢
 ·exact ak h fun v=>hk _ _
 ·exact ak h fun v h=>GH h fun b h=>ak h fun v=>hk _ _
 ·exact GI h fun l=>hk _ _
 ·exact ak h fun v h=>bN h (hk _ _)
 ·exact ak h fun v h=>ak h fun v h=>ak h fun v=>hk _ _
 ·exact ak h fun v h=>ak h fun v=>hk _ _
 ·exact ak h fun v h=>ke h fun v=>hk _ _
 ·exact ak h fun v=>hk _ _
 ·exact ly h fun l h=>ly h fun l=>hk _ _
 ·exact ak h fun v h=>lz h fun a n c h=>lC h fun m h=>lC h fun m h=>lC h fun m h=>bN h (hk _ _)
 ·exact ak h fun v h=>su h fun s h=>lC h fun m h=>lC h fun m h=>bN h (hk _ _)
 ·exact ak h fun v h=>qI h fun b o=>hk _ _
 ·exact ak h fun v h=>QJ h fun l h=>ak h fun v=>hk _ _
 ·exact ak h fun v h=>ak h fun v h=>lz h fun a n c h=>ke h fun i h=>bN h fun h=>zV h fun b o=>hk _ _
 ·exact ak h fun v h=>ak h fun v h=>qI h fun b o h=>ke h fun i h=>bN h (hk _ _)
 ·exact ak h fun v h=>ak h fun v h=>su h fun s h=>ke h fun i h=>bN h fun h=>ak h fun b=>hk _ _
 ·exact ak h fun v h=>QI h fun l h=>ak h fun v=>hk _ _
 ·exact ak h fun v h=>lz h fun a n c=>hk _ _
 ·exact ak h fun v h=>su h fun s=>hk _ _
 ·exact ly h fun l h=>ak h fun v=>hk _ _
 ·exact ly h fun l h=>ak h fun v=>hk _ _
 ·exact ak h fun v h=>Kb h fun v=>hk _ _
 ·exact ak h fun v h=>QK h fun v=>hk _ _
theorem S7(i:dh)(hc:i.cls= .quiet)(h:i.vc P ev H K):∃v,i.vc P ev H (fun v' H'=>v'=v∧H'=H)∧K v H:=by
 cases i<;>simp[dh.cls]at hc
 ·obtain⟨p,hp,h⟩:=aA h
  obtain⟨b,o,rfl,h⟩:=fi h
  obtain⟨l,hl,h⟩:=aA h
  obtain⟨v,hv,h⟩:=aA h
  exact⟨v,by simp only[dh.vc,hp,aC,xK,hl,hv,and_self],h⟩
 ·obtain⟨p,hp,h⟩:=aA h
  obtain⟨b,o,rfl,h⟩:=fi h
  obtain⟨l,hl,h⟩:=aA h
  obtain⟨hn,h⟩:=h.out
  exact⟨_,by simp only[dh.vc,hp,aC,xK,hl,dD,hn,and_self],h⟩
 ·rename_i s z ok m k
  obtain⟨p,hp,h⟩:=aA h
  obtain⟨q,hq,h⟩:=aA h
  obtain⟨r,rfl,h⟩:=j9 h
  obtain⟨hn,h⟩:=h.out
  cases r with
  |none=>exact⟨_,by simp only[dh.vc,hp,hq,aC,Dk,dD,hn,yp,and_self],h⟩
  |some b=>
   obtain⟨x,hx,h⟩:=aA h
   obtain⟨y,hy,h⟩:=aA h
   exact⟨_,by simp only[dh.vc,hp,hq,aC,Dk,dD,hn,yp,hx,hy,and_self],h⟩
 ·obtain⟨p,hp,h⟩:=aA h
  obtain⟨r,rfl,h⟩:=j9 h
  cases r with
  |none=>exact⟨_,by simp only[dh.vc,hp,aC,Dk,Mc,and_self],h⟩
  |some b=>
   obtain⟨x,hx,h⟩:=aA h
   exact⟨_,by simp only[dh.vc,hp,aC,Dk,Mc,hx,and_self],h⟩
 ·obtain⟨p,hp,h⟩:=aA h
  have key:∃l,K (.string ⟨l.toArray⟩) H∧vh H p (fun l'=>l'=l):=by
   unfold vh at*
   split at h
   ·rename_i a n c
    unfold rowOf at*
    simp only at*
    cases hn:n==0
    ·rw[hn]at h
     obtain⟨b,o,rfl,h⟩:=nP h
     obtain⟨l,hl,h⟩:=aA h
     obtain⟨h1,h⟩:=h.out
     obtain⟨bs,hb,h⟩:=aA h
     exact⟨bs,h,by simp only[Gr,uY,aC,hl,dD,h1,hb,and_self]⟩
    ·rw[hn]at h
     have h:aC (bytesOf []) fun l=>K (.string ⟨l.toArray⟩) H:=h
     obtain⟨bs,hb,h⟩:=aA h
     exact⟨bs,h,by simp only[Gr,aC,hb]⟩
   ·exact h.elim
  obtain⟨l,h1,h2⟩:=key
  refine⟨_,?_,h1⟩
  simp only[dh.vc,hp,aC]
  exact DL h2 fun b e=>by rw[e];exact⟨rfl,rfl⟩
end
end Go.Vc
