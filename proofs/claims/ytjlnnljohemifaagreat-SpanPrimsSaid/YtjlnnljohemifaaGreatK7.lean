/- Texts put behind each other. -/
import Derived.Test.YtjlnnljohemifaaGreatK98
import Derived.Test.YtjlnnljohemifaaGreatK6
import Derived.Lib.ConvBytes
import Derived.Laws.AppendOwn
import Derived.Laws.Append
set_option maxRecDepth 100000
set_option maxHeartbeats 8000000
set_option linter.unusedVariables false
set_option linter.unusedSimpArgs false
namespace Go.Vc
section
variable {P : Program} {o : Oper} {a : Act} {ev : Ev} {H : Hp} {K : Value → Hp → Prop}
theorem Mm{t kt e:TypeId}{s:Shape}{z:Value}{x y:Operand}{ok:Bool}(bH:bR ev a)(ho:o.op= .lookup t x y ok)(ht:P.underlying t=some (.map kt e))
  (hs:cC P kt=some s)(hz:fF P e=some z)(h:(dh.lookup s z ok x y).vc P ev H K):dU P o a H K:=by
 intro w hw
 subst hw
 obtain⟨r,hx,h⟩:=ke (aW bH (aW bH h))
 obtain⟨hk,h⟩:=h.out
 cases r with
 |none=>
  refine .inl ⟨gZ ok z none,w,?_,cf.refl w,h⟩
  have hf:=jx (P:=P) (k:=a.eval y) (es:=[]) (r:=none) hs rfl w
  simp only[execOp,ho,Instr.lookup,Sem.run_bind,ar ht,Result.andThen_ok,hx,Sem.run_pure,ic hs hk,hf,cK hz]
  cases ok<;>rfl
 |some b=>
  obtain⟨m,hm,h⟩:=aA h
  obtain⟨rr,hr,h⟩:=aA h
  obtain⟨es,he,hl⟩:=EU hm
  rw[←hl]at hr
  refine .inl ⟨gZ ok z (rr.map (·.2)),w,?_,cf.refl w,h⟩
  simp only[execOp,ho,Instr.lookup,Sem.run_bind,ar ht,Result.andThen_ok,hx,Sem.run_pure,oG he,ic hs hk,jx hs hr]
  cases rr with
  |none=>simp only[cK hz,Result.andThen_ok,Sem.run_bind,Sem.run_pure];cases ok<;>rfl
  |some q=>cases ok<;>rfl
theorem Mn{t kt e:TypeId}{s:Shape}{x y z:Operand}(bH:bR ev a)(ho:o.op= .mapUpdate t x y z)(ht:P.underlying t=some (.map kt e))
  (hs:cC P kt=some s)(h:(dh.update s x y z).vc P ev H K):dU P o a H K:=by
 intro w hw
 subst hw
 obtain⟨r,hx,h⟩:=ke (aW bH (aW bH (aW bH h)))
 obtain⟨b,rfl,h⟩:=aA h
 obtain⟨hk,h⟩:=h.out
 obtain⟨m,hm,h⟩:=aA h
 obtain⟨rr,hr,h⟩:=aA h
 obtain⟨uE,h⟩:=h.out
 obtain⟨es,he,hl⟩:=EU hm
 rw[←hl]at hr
 refine .inr (.inl ⟨{w with heap:=Hp.Dw w.heap b (LM m.1 rr (a.eval y) (a.eval z) m.2) (J3 rr m.2)},?_,⟨rfl,rfl⟩,h⟩)
 simp only[execOp,ho,Instr.mapUpdate,Sem.run_bind,ar ht,Result.andThen_ok,hx,oG he,ic hs hk,jx hs hr]
 cases rr with
 |none=>
  simp only[oH he,Result.andThen_ok,Sem.run_pure,LM,J3,←hl]
  simp
 |some q=>
  obtain⟨i,v⟩:=q
  have hb:Instr.sameBits 10000 (((es[i]?).map (·.key)).getD (a.eval y)) (a.eval y)=true:=by
   simp only[ET,←hl]at uE
   simpa using uE
  simp only[Instr.keyThatStays,hb,if_true,Sem.run_bind,Sem.run_pure,Result.andThen_ok,oH he,LM,J3,←hl]
  simp
theorem Mo{kt e:TypeId}{s:Shape}{c:Call}{x y:Operand}(bH:bR ev a)(ho:o.op= .call c)(hc:c.callee= .builtin .delete)(kG:c.args.toList=[x,y])
  (vq:(c.argTypes[0]?).bind P.underlying=some (.map kt e))(hs:cC P kt=some s)(h:(dh.delete s x y).vc P ev H K):dU P o a H K:=by
 intro w hw
 subst hw
 obtain⟨r,hx,h⟩:=ke (aW bH (aW bH h))
 obtain⟨b,rfl,h⟩:=aA h
 obtain⟨hk,h⟩:=h.out
 obtain⟨m,hm,h⟩:=aA h
 obtain⟨rr,hr,h⟩:=aA h
 obtain⟨es,he,hl⟩:=EU hm
 rw[←hl]at hr
 have ha:c.args= #[x,y]:=Array.ext' kG
 obtain⟨t,Gc,GW⟩:=Option.bind_eq_some_iff.1 vq
 refine .inl ⟨.tuple [].toArray,{w with heap:=Hp.Dw w.heap b (Gv m.1 rr) m.2},?_,⟨rfl,rfl⟩,h⟩
 simp only[execOp,ho,resolve,hc,Sem.run_bind,Sem.run_pure,Result.andThen_ok,invoke,builtin,ha,Builtin.delete_,Gc]
 simp only[List.map_toArray,ao6,List.map_nil,ap7,aoM,apg,Sem.run_bind,ar GW,Result.andThen_ok,hx,oG he,ic hs hk,jx hs hr]
 cases rr with
 |none=>simp only[Sem.run_bind,oH he,Result.andThen_ok,Sem.run_pure,Gv,←hl]
 |some q=>
  obtain⟨i,v⟩:=q
  simp only[Sem.run_bind,oH he,Result.andThen_ok,Sem.run_pure,Gv,←hl,Array.toList_eraseIdxIfInBounds]
theorem Ol{e:TypeId}{z:Value}{c:Call}{x:Operand}(bH:bR ev a)(ho:o.op= .call c)(hc:c.callee= .builtin .clear)(kG:c.args.toList=[x])
  (vq:(c.argTypes[0]?).bind P.underlying=some (.slice e))(hz:fF P e=some z)(DE:(aI z).length≠0)(h:(dh.Ob (aI z) x).vc P ev H K):dU P o a H K:=by
 intro w hw
 subst hw
 obtain⟨ad,n,cp,hx,h⟩:=iM (aW bH h)
 have ha:c.args= #[x]:=Array.ext' kG
 obtain⟨t,Gc,GW⟩:=Option.bind_eq_some_iff.1 vq
 have Og:z.cells.toList=aI z:=eI z
 rcases h with ⟨rfl,h⟩| ⟨hn,b,off,l,rfl,hl,h1,h2,h⟩
 ·refine .inl ⟨.tuple [].toArray,w,?_,cf.refl w,h⟩
  simp only[execOp,ho,resolve,hc,Sem.run_bind,Sem.run_pure,Result.andThen_ok,invoke,builtin,ha,Builtin.clear_,Gc]
  simp only[List.map_toArray,ao6,List.map_nil,ap7,aoM,Sem.run_bind,ar GW,Result.andThen_ok,hx]
  cases ad<;>simp
 ·have e1:(Builtin.zeroCells z.cells n).toList=cE (aI z) n:=by
   unfold Builtin.zeroCells
   rw[BU rfl (by rw[←Og]at DE;simpa using DE),Og]
  have aZ:(cE (aI z) n).length=n*(aI z).length:=by simp[cE]
  obtain⟨w',hs,M7,hk,_⟩:=is (P:=P) (b:=b) (o:=off) (cE (aI z) n) 0 w l hl (by omega) h1
  have aP:cE (aI z) n≠[]:=fun e=>by
   rw[e]at aZ
   simp only[apl]at aZ
   rcases Nat.mul_eq_zero.1 aZ.symm with h|h
   ·exact hn h
   ·exact DE h
  refine .inl ⟨.tuple [].toArray,w',?_,M7,?_⟩
  ·simp only[execOp,ho,resolve,hc,Sem.run_bind,Sem.run_pure,Result.andThen_ok,invoke,builtin,ha,Builtin.clear_,Gc]
   simp only[List.map_toArray,ao6,List.map_nil,ap7,aoM,Sem.run_bind,ar GW,Result.andThen_ok,hx]
   cases n with
   |zero=>exact absurd rfl hn
   |succ n=>simp[cK hz,e1,hs]
  ·rw[hk aP];exact h
theorem su{f:FuncId}(hc:eF P f=true)(args:Array Value)(w:World):(callFunc f args).run P w= .ok (.enter f args) w:=by
 unfold eF at hc
 split at hc
 ·rename_i fn hf
  simp only[ao7,bne_iff_ne,ne_eq]at hc
  obtain⟨bd,hb⟩:=Option.isSome_iff_exists.1 hc.2
  simp[callFunc,hf,hc.1,hb]
 ·cases hc
theorem QF{f:FuncId}{c:Call}(bH:bR ev a)(ho:o.op= .call c)(hc:c.callee= .value (.func f))(hb:eF P f=true)
  (h:(dh.call f c.args.toList).vc P ev H K):dU P o a H K:=by
 intro w hw
 subst hw
 have h:=lq bH h
 refine .inr (.inr ⟨f,(c.args.map a.eval),w,?_,cf.refl w,by simpa using h⟩)
 simp[execOp,ho,resolve,hc,Act.eval,Deferred.ofValue,invoke,su hb]
theorem SZ{f:FuncId}{c:Call}(bH:bR ev a)(ho:o.op= .call c)(hc:c.callee= .value (.func f))
  (h:(dh.ext f c.args.toList).vc P ev H K):dU P o a H K:=by
 intro w hw
 subst hw
 obtain⟨v,hv,hk⟩:=lq bH h
 refine .inl ⟨v,w,?_,cf.refl w,hk⟩
 have OW:(callFunc f (c.args.map a.eval)).run P w= .ok (.value v) w:=by
  have h1:=hv w
  rw[show(List.map a.eval c.args.toList).toArray=c.args.map a.eval from Array.ext' (by simp)]at h1
  exact h1
 simp[execOp,ho,resolve,hc,Act.eval,Deferred.ofValue,invoke,OW]
theorem S0{f:Operand}{c:Call}(bH:bR ev a)(ho:o.op= .call c)(hc:c.callee= .value f)
  (h:(dh.dyn f c.args.toList).vc P ev H K):dU P o a H K:=by
 intro w hw
 subst hw
 have h:=lq bH (aW bH h)
 unfold Yk at h
 split at h
 ·rename_i g first captured hf
  refine .inr (.inr ⟨g,first++c.args.map a.eval++captured,w,?_,cf.refl w,by simpa using h.2⟩)
  simp only[execOp,ho,resolve,hc,hf,Deferred.ofValue,Sem.run_bind,Sem.run_pure,Result.andThen_ok,invoke,su h.1]
 ·exact h.elim
theorem Mp{r:Operand}{name:String}{c:Call}(bH:bR ev a)(ho:o.op= .call c)(hc:c.callee= .invoke r name)
  (h:(dh.invoke r name c.args.toList).vc P ev H K):dU P o a H K:=by
 intro w hw
 subst hw
 obtain⟨T,v,f,rv,hr,⟨Em,hm⟩,h⟩:=lq bH (aW bH h)
 refine .inr (.inr ⟨f, #[rv]++c.args.map a.eval,w,?_,cf.refl w,by simpa using h⟩)
 have hx:(#[Value.iface T v]++c.args.map a.eval)[0]? =some (.iface T v):=by rw[apN (by simp)];rfl
 have tM:(#[Value.iface T v]++c.args.map a.eval).extract 1 (#[Value.iface T v]++c.args.map a.eval).size=c.args.map a.eval:=by
  apply Array.ext'
  simp only[Array.toList_extract,Array.toList_append,Array.toList_map,Array.size_append]
  simp[ap4]
 simp only[execOp,ho,resolve,hc,hr,Sem.run_bind,Sem.run_pure,Result.andThen_ok,invoke,hx,tM,callMethod,run_program,hm w rfl,su Em]
theorem mM{c:Call}{x:Operand}(ho:o.op= .call c)(hc:c.callee= .builtin .len)(kG:c.args.toList=[x]){w:World}{n:Nat}
  (hr:(Builtin.len_ c.argTypes o.type #[a.eval x]).run P w= .ok (goInt n) w):(execOp a.eval o).run P w= .ok (.value (.int .i64 n)) w:=by
 have ha:c.args= #[x]:=Array.ext' kG
 have hav:c.args.map a.eval= #[a.eval x]:=by rw[ha];simp
 simp only[execOp,ho,resolve,hc,Sem.run_bind,Sem.run_pure,Result.andThen_ok,invoke,builtin,hav,hr,goInt]
theorem QG{c:Call}{x:Operand}{e:TypeId}(bH:bR ev a)(ho:o.op= .call c)(hc:c.callee= .builtin .len)(kG:c.args.toList=[x])
  (vq:(c.argTypes[0]?).bind P.underlying=some (.slice e))(h:(dh.tq x).vc P ev H K):dY P o a H K:=by
 obtain⟨t,Gc,GW⟩:=Option.bind_eq_some_iff.1 vq
 obtain⟨ad,n,cp,hx,h⟩:=iM (aW bH h)
 refine⟨_,fun w=>mM ho hc kG (n:=n) ?_,h⟩
 simp[Builtin.len_,Gc,ar GW,goInt,hx]
theorem QH{c:Call}{x:Operand}(bH:bR ev a)(ho:o.op= .call c)(hc:c.callee= .builtin .len)(kG:c.args.toList=[x])
  (vq:(c.argTypes[0]?).bind P.underlying=some .string)(h:(dh.UV x).vc P ev H K):dY P o a H K:=by
 obtain⟨t,Gc,GW⟩:=Option.bind_eq_some_iff.1 vq
 obtain⟨s,hx,h⟩:=mL (aW bH h)
 refine⟨_,fun w=>mM ho hc kG (n:=s.size) ?_,h⟩
 simp[Builtin.len_,Gc,ar GW,goInt,hx]
theorem QI{c:Call}{x:Operand}{k e:TypeId}(bH:bR ev a)(ho:o.op= .call c)(hc:c.callee= .builtin .len)(kG:c.args.toList=[x])
  (vq:(c.argTypes[0]?).bind P.underlying=some (.map k e))(h:(dh.UW x).vc P ev H K):dU P o a H K:=by
 intro w hw
 subst hw
 obtain⟨t,Gc,GW⟩:=Option.bind_eq_some_iff.1 vq
 obtain⟨r,hx,h⟩:=ke (aW bH h)
 cases r with
 |none=>
  refine .inl ⟨_,w,mM ho hc kG (n:=0) ?_,cf.refl w,h⟩
  simp[Builtin.len_,Gc,ar GW,goInt,hx]
 |some b=>
  obtain⟨m,hm,h⟩:=aA h
  obtain⟨es,he,hl⟩:=EU hm
  refine .inl ⟨_,w,mM ho hc kG (n:=m.1.length) ?_,cf.refl w,h⟩
  simp[Builtin.len_,Gc,ar GW,goInt,hx,oG he,←hl]
theorem U8:∀ (r:List Value) (x v:Value),Mb x r=some v→∀w:World,(r.foldlM Builtin.min2 x).run P w= .ok v w:=by
 intro r
 induction r with
 |nil=>intro x v h w;injection h with h;subst h;rfl
 |cons y r ih=>
  intro x v h w
  unfold Mb at h
  split at h
  ·rename_i k p k' q
   simp[List.foldlM_cons,Builtin.min2,ih _ v h w]
  ·cases h
theorem U9:∀ (r:List Value) (x v:Value),Mc x r=some v→∀w:World,(r.foldlM Builtin.max2 x).run P w= .ok v w:=by
 intro r
 induction r with
 |nil=>intro x v h w;injection h with h;subst h;rfl
 |cons y r ih=>
  intro x v h w
  unfold Mc at h
  split at h
  ·rename_i k p k' q
   simp[List.foldlM_cons,Builtin.max2,ih _ v h w]
  ·cases h
theorem S6{c:Call}(bH:bR ev a)(ho:o.op= .call c)(hc:c.callee= .builtin .min)(h:(dh.UX c.args.toList).vc P ev H K):dY P o a H K:=by
 obtain⟨v,hv,h⟩:=aA (lq bH h)
 refine⟨v,fun w=>?_,h⟩
 have e:(Builtin.min_ c.argTypes o.type (c.args.map a.eval)).run P w= .ok v w:=by
  unfold Builtin.min_
  rw[Array.toList_map]
  cases hl:c.args.toList.map a.eval with
  |nil=>rw[hl]at hv;cases hv
  |cons x r=>rw[hl]at hv;exact U8 r x v hv w
 simp only[execOp,ho,resolve,hc,Sem.run_bind,Sem.run_pure,Result.andThen_ok,invoke,builtin,e]
theorem S7{c:Call}(bH:bR ev a)(ho:o.op= .call c)(hc:c.callee= .builtin .max)(h:(dh.UY c.args.toList).vc P ev H K):dY P o a H K:=by
 obtain⟨v,hv,h⟩:=aA (lq bH h)
 refine⟨v,fun w=>?_,h⟩
 have e:(Builtin.max_ c.argTypes o.type (c.args.map a.eval)).run P w= .ok v w:=by
  unfold Builtin.max_
  rw[Array.toList_map]
  cases hl:c.args.toList.map a.eval with
  |nil=>rw[hl]at hv;cases hv
  |cons x r=>rw[hl]at hv;exact U9 r x v hv w
 simp only[execOp,ho,resolve,hc,Sem.run_bind,Sem.run_pure,Result.andThen_ok,invoke,builtin,e]
theorem zV{H:Hp}{size:Nat}{v:Value}{F:Nat→List Value→Prop}(h:rowOf H size v F):
  ∃ (n:Nat) (l:List Value),F n l∧(∀w:World,(Builtin.lenOf v).run P w= .ok n w)∧(∀w:World,w.heap=H→(Builtin.firstCells size n v).run P w= .ok l.toArray w)∧l.length=n*size∧
   (∀b m c,v= .slice b m c→m=n):=by
 unfold rowOf at h
 split at h
 ·rename_i a n c
  by_cases Ln:n=0
  ·subst Ln
   refine⟨0,[],h,fun _=>rfl,fun w hw=>?_,by simp,fun _ _ _ e=>by injection e with _ e _;exact e.symm⟩
   cases a with
   |none=>rfl
   |some a=>simp only[Builtin.firstCells,ao0];rfl
  ·have e0:(n==0)=false:=by simpa using Ln
   rw[e0]at h
   obtain⟨b,off,rfl,h1⟩:=nQ (F:=fun b o=>aC (H.rd b) fun l=>dD (o+n*size≤l.length) (F n ((l.drop o).take (n*size)))) h
   obtain⟨l,hl,h2⟩:=aA h1
   obtain⟨hn,h3⟩:=h2.out
   refine⟨n,_,h3,fun _=>rfl,fun w hw=>?_,by simp;omega,fun _ _ _ e=>by injection e with _ e _;exact e.symm⟩
   subst hw
   exact qI (P:=P) (a:=⟨b,off,none⟩) rfl hl hn
 ·rename_i s
  obtain⟨e1,h2⟩:=h.out
  subst e1
  refine⟨s.size,_,h2,fun _=>rfl,fun w _=>?_,?_,fun _ _ _ e=>by cases e⟩
  ·simp only[Builtin.firstCells,Sem.run_pure]
   congr 1
   apply Array.ext'
   have:s.extract 0 s.size=s:=by
    apply ByteArray.ext
    simp
   rw[this]
   simp
  ·rw[aoF,aol,Array.length_toList];rfl
 ·exact h.elim
theorem Kb{s t e:TypeId}{x:Operand}(bH:bR ev a)(ho:o.op= .convert s t x)(hs:P.underlying s=some .string)(ht:P.underlying t=some (.slice e))(he:P.underlying e=some (.int .u8))
  (h:(dh.J7 e x).vc P ev H K):dU P o a H K:=by
 intro w hw
 subst hw
 have h:=aW bH h
 unfold jv at h
 split at h
 ·rename_i bs hx
  have hr:=Lib.run_convert_string_bytes (P:=P) w s t e bs hs ht he
  have OC:=grownCap_ge w bs.size 0 e
  refine .inl ⟨.slice (some ⟨w.heap.size,0,none⟩) bs.size (grownCap w bs.size 0 e),Lib.bytesWorld w e bs,?_,⟨rfl,rfl⟩,?_⟩
  ·simp only[execOp,ho]
   rw[hx]at*
   simp only[Sem.run_bind,hr,Result.andThen_ok,Sem.run_pure]
  ·have hk:=h _ OC
   have e1:(Lib.bytesWorld w e bs).heap=Hp.NW w.heap e ((bs.data.toList.map fun b=>.int .u8 b.toNat)++List.replicate (grownCap w bs.size 0 e - bs.size) (.int .u8 0)):=by
    apply Array.ext_getElem?
    intro i
    rcases apK i w.heap.size with hi|hi|hi
    ·rw[Lib.bytesWorld_at_old w e bs i hi,LY _ _ _ hi]
    ·subst hi
     rw[Lib.bytesWorld_at_new]
     simp[Hp.NW,Lib.bytesCells]
    ·rw[apy (by rw[Lib.bytesWorld_size];omega),apy (by rw[Qw];omega)]
   rw[e1]
   exact hk
 ·exact h.elim
theorem Om:∀ (l:List Value) (bs:List UInt8),bytesOf l=some bs→∀ (s:ByteArray) (w:World),
  (forIn l s fun c (s:ByteArray)=>(match c with| .int .u8 n=>pure (ForInStep.yield (s.push (UInt8.ofNat n.toNat)))|_=>(do stuck "bytesToString: byte expected";pure (ForInStep.yield s)):Sem (ForInStep ByteArray))).run P w= .ok ⟨s.data++bs.toArray⟩ w:=by
 intro l
 induction l with
 |nil=>intro bs h s w;simp only[bytesOf,aos]at h;subst h;simp
 |cons v l ih=>
  intro bs h s w
  cases v with
  |int k n=>
   cases k with
   |u8=>
    simp only[bytesOf]at h
    cases hb:bytesOf l with
    |none=>rw[hb]at h;cases h
    |some r=>
     rw[hb]at h
     simp only[Option.map_some,aos]at h
     subst h
     simp only[List.forIn_cons,Sem.run_bind,Sem.run_pure,Result.andThen_ok]
     rw[ih r hb]
     congr 1
     apply ByteArray.ext
     apply Array.ext'
     simp[ByteArray.push]
   |_=>simp[bytesOf]at h
  |_=>simp[bytesOf]at h
theorem On{s t e:TypeId}{x:Operand}(bH:bR ev a)(ho:o.op= .convert s t x)(hs:P.underlying s=some (.slice e))(ht:P.underlying t=some .string)(he:P.underlying e=some (.int .u8))
  (h:(dh.Pb x).vc P ev H K):dU P o a H K:=by
 intro w hw
 subst hw
 have h:=aW bH h
 unfold vi at h
 split at h
 ·rename_i ad n c hx
  obtain⟨m,l,h,h1,h2,h3,h4⟩:=zV (P:=P) h
  obtain⟨bs,hb,h⟩:=aA h
  refine .inl ⟨_,w,?_,cf.refl w,h⟩
  have hm:n=m:=h4 _ _ _ rfl
  subst hm
  have h5:=h2 w rfl
  have key:(Conv.bytesToString (.slice ad n c)).run P w= .ok (.string ⟨bs.toArray⟩) w:=by
   cases ad with
   |none=>
    simp only[Builtin.firstCells,Sem.run_pure,Result.ok.injEq,and_true]at h5
    have hl:l=[]:=by
     have:=aoE Array.toList h5
     simpa using this.symm
    subst hl
    simp only[bytesOf,aos]at hb
    subst hb
    rfl
   |some ad=>
    simp only[Builtin.firstCells,aol]at h5
    simp only[Conv.bytesToString,Sem.run_bind,h5,Result.andThen_ok]
    rw[List.forIn_toArray]
    refine(aoE (fun r=>Result.andThen r fun a w'=>Sem.run P (pure (Value.string a)) w') (Om (P:=P) l bs hb ByteArray.empty w)).trans ?_
    simp only[Result.andThen_ok,Sem.run_pure]
    congr 3
    simp
  simp only[execOp,ho,convert,hx,Sem.run_bind,ar hs,ar ht,ar he,Result.andThen_ok,key]
  rfl
 ·exact h.elim
theorem V0{d:TypeDesc}(hd:Gw d=true):(∃e,d= .slice e)∨d= .string:=by
 cases d<;>first|exact .inl ⟨_,rfl⟩|exact .inr rfl| (cases hd)
theorem It{Yp:Array TypeId}{ty t t' e:TypeId}{d:TypeDesc}{w:World}{base:Option Addr}{n cap m:Nat}{y:Value}{new:Array Value}(Gc:Yp[0]? =some t)(QJ:Yp[1]? =some t')
  (GW:P.underlying t=some (.slice e))(C6:P.underlying t'=some d)(hd:Gw d=true)(hi:(P.info? e).isSome=true)
  (aZ:(Builtin.lenOf y).run P w= .ok m w)(sd:(Builtin.firstCells (P.cellsOf e) m y).run P w= .ok new w)(nT:n+m≤cap):
  (Builtin.append_ Yp ty #[.slice base n cap,y]).run P w=
   ((match base with|some a=>storeCells (a.add (n*P.cellsOf e)) new.toList|none=>(pure ():Sem Unit)).run P w).andThen fun _ w'=>.ok (.slice base (n+m) cap) w':=by
 rcases V0 hd with ⟨e',rfl⟩|rfl<;>unfold Builtin.append_<;>
 simp only[ap7,aoM,apg,Gc,QJ,Sem.run_bind,ar GW,ar C6,Result.andThen_ok,bL hi,Sem.run_pure,aZ,api,if_false,if_pos nT,apX,if_true,sd]<;>
 cases base<;>simp only[Sem.run_pure,Result.andThen_ok,Sem.run_bind]
theorem GI{Yp:Array TypeId}{ty t t' e:TypeId}{d:TypeDesc}{w:World}{base:Option Addr}{n cap m:Nat}{y z:Value}{new Sp:Array Value}(Gc:Yp[0]? =some t)(QJ:Yp[1]? =some t')
  (GW:P.underlying t=some (.slice e))(C6:P.underlying t'=some d)(hd:Gw d=true)(hi:(P.info? e).isSome=true)(hz:fF P e=some z)
  (aZ:(Builtin.lenOf y).run P w= .ok m w)(sd:(Builtin.firstCells (P.cellsOf e) m y).run P w.drew= .ok new w.drew)
  (hold:(Builtin.firstCells (P.cellsOf e) n (.slice base n cap)).run P w.drew= .ok Sp w.drew)
  (nT:cap<n+m)(hb:Builtin.nextslicecap (n+m) cap*P.bytesOf e≤2^48)(Rx:P.bytesOf e≠0):
  ∃c',n+m≤c'∧(Builtin.append_ Yp ty #[.slice base n cap,y]).run P w=
   .ok (.slice (some ⟨w.heap.size,0,none⟩) (n+m) c') {w with drawn:=w.drawn+1,heap:=Hp.new w.heap e ((Sp++new++Builtin.zeroCells z.cells (c' - (n+m))).toList)}:=by
 obtain⟨inf,acO⟩:=Option.isSome_iff_exists.1 hi
 have Yq:inf.bytes=P.bytesOf e:=by simp[Program.bytesOf,acO]
 refine⟨(Question.appendCap (n+m) cap e).cut (w.tape w.drawn (.appendCap (n+m) cap e)),by simp[Question.cut],?_⟩
 have aP:n+m≤2^48:=by
  have h1:=le_nextslicecap nT
  have h2:Builtin.nextslicecap (n+m) cap≤Builtin.nextslicecap (n+m) cap*P.bytesOf e:=Nat.le_mul_of_pos_right _ (by omega)
  omega
 have bO:¬ (9223372036854775807< ((n:Int)+(m:Int))):=by omega
 have aht:¬ (281474976710656<Builtin.nextslicecap (n+m) cap*P.bytesOf e):=by omega
 have hn:¬ (n+m≤cap):=by omega
 rcases V0 hd with ⟨e',rfl⟩|rfl<;>
  simp[Builtin.append_,Gc,QJ,ar GW,ar C6,bL hi,aZ,hn,ed acO,Yq,Rx,aht,Question.forced,cK hz,hold,sd,lu]<;>
  exact⟨rfl,rfl,rfl⟩
theorem Mq{c:Call}{e:TypeId}{d:TypeDesc}{z:Value}{x y:Operand}(bH:bR ev a)(ho:o.op= .call c)(hc:c.callee= .builtin .append)(kG:c.args.toList=[x,y])
  (vq:(c.argTypes[0]?).bind P.underlying=some (.slice e))(ahu:(c.argTypes[1]?).bind P.underlying=some d)(hd:Gw d=true)(hz:fF P e=some z)(hi:(P.info? e).isSome=true)
  (h0:P.cellsOf e≠0)(hl:(aI z).length=P.cellsOf e)(Rx:P.bytesOf e≠0)(h:(dh.append e (P.cellsOf e) (P.bytesOf e) (aI z) x y).vc P ev H K):dU P o a H K:=by
 intro w hw
 subst hw
 have ha:c.args= #[x,y]:=Array.ext' kG
 obtain⟨t,Gc,GW⟩:=Option.bind_eq_some_iff.1 vq
 obtain⟨t',QJ,C6⟩:=Option.bind_eq_some_iff.1 ahu
 have Og:z.cells.toList=aI z:=eI z
 have OI:z.cells.size=P.cellsOf e:=by rw[←hl,←Og];simp
 obtain⟨base,n,cap,hx,h⟩:=iM (aW bH (aW bH h))
 have h':=h
 obtain⟨m,new,h,aZ,sd,hnl,_⟩:=zV (P:=P) h
 obtain⟨hA,hB,hC⟩:=h
 have hav:c.args.map a.eval= #[.slice base n cap,a.eval y]:=by rw[ha];simp[hx]
 have pre:∀v w',(Builtin.append_ c.argTypes o.type #[.slice base n cap,a.eval y]).run P w= .ok v w'→(execOp a.eval o).run P w= .ok (.value v) w':=by
  intro v w' hr
  simp only[execOp,ho,resolve,hc,Sem.run_bind,Sem.run_pure,Result.andThen_ok,invoke,builtin,hav,hr]
 by_cases nT:n+m≤cap
 ·have hr:=It (ty:=o.type) (base:=base) Gc QJ GW C6 hd hi (aZ w) (sd w rfl) nT
  by_cases hm:m=0
  ·subst hm
   have Ln:new=[]:=aoR.1 (by omega)
   subst Ln
   refine .inl ⟨_,w,pre _ w ?_,cf.refl w,hA nT rfl⟩
   rw[hr]
   cases base<;>simp[storeCells]
  ·obtain⟨b,off,rfl,hB⟩:=nQ (hB nT hm)
   obtain⟨l,ER,hB⟩:=aA hB
   obtain⟨⟨h1,h2⟩,hB⟩:=hB.out
   obtain⟨w',hs,M7,hk,_⟩:=is (P:=P) (b:=b) (o:=off+n*P.cellsOf e) new 0 w l ER (by rw[apB]at h1;omega) h2
   have aP:new≠[]:=fun e'=>by
    rw[e']at hnl
    rcases Nat.mul_eq_zero.1 hnl.symm with h|h
    ·exact hm h
    ·exact h0 h
   refine .inl ⟨_,w',pre _ w' ?_,M7,hk aP▸hB⟩
   rw[hr]
   simp only[zw,List.toList_toArray,hs,Result.andThen_ok]
 ·obtain⟨hb,hC⟩:=hC (by omega)
  rw[hx]at hC
  obtain⟨n',Sp,hC,_,hold,hol,hn'⟩:=zV (P:=P) hC
  have:n=n':=hn' _ _ _ rfl
  subst this
  obtain⟨c',Jc,hr⟩:=GI (ty:=o.type) (base:=base) Gc QJ GW C6 hd hi hz (aZ w) (sd w.drew rfl) (hold w.drew rfl) (by omega) hb Rx
  refine .inl ⟨_,_,pre _ _ hr,⟨rfl,rfl⟩,?_⟩
  have e1:(Sp.toArray++new.toArray++Builtin.zeroCells z.cells (c' - (n+m))).toList=Sp++new++cE (aI z) (c' - (n+m)):=by
   rw[Array.toList_append,Array.toList_append]
   congr 1
   unfold Builtin.zeroCells
   rw[BU rfl (by omega),Og]
  rw[e1]
  exact hC c' Jc
end
end Go.Vc

namespace Go.Vc
def dh.cls:dh→Lg
 | .aq _| .pick .. | .build .. | .nilCheck _| .gI .. | .un .. | .conv .. | .iface .. | .func .. | .slice .. | .J4 .. | .fieldAddr .. | .field .. | .indexAddr .. | .BR .. | .J5 .. | .extract ..
 | .tq _| .UV _| .UX _| .UY _| .J6 .. | .UZ .. =>.pure
 | .aj _| .da .. | .lookup .. | .UW _| .Pb _=>.quiet
 |_=>.HI
section
variable {P : Program} {o : Oper} {a : Act} {ev : Ev} {H : Hp} {K : Value → Hp → Prop}
theorem sound(i:dh)(hd:I1 P o=some i)(bH:bR ev a)(h:i.vc P ev H K):(i.cls= .pure→dY P o a H K)∧dU P o a H K:=by
 have mk:dY P o a H K→(i.cls= .pure→dY P o a H K)∧dU P o a H K:=fun hp=>⟨fun _=>hp,hp.ahm⟩
 have mk':i.cls≠ .pure→dU P o a H K→(i.cls= .pure→dY P o a H K)∧dU P o a H K:=fun hn hp=>⟨fun e=>absurd e hn,hp⟩
 unfold I1 at hd
 split at hd
 ·rename_i x ho;injection hd with hd;subst hd;exact mk (Mf bH (.inl ho) h)
 ·rename_i x ho;injection hd with hd;subst hd;exact mk (Mf bH (.inr ho) h)
 ·rename_i c x y ho;injection hd with hd;subst hd;exact mk (QA bH ho h)
 ·rename_i T x ho;injection hd with hd;subst hd;exact mk' (by simp[dh.cls]) (SY bH ho h)
 ·rename_i T ho
  cases hz:fF P T with
  |none=>rw[hz]at hd;cases hd
  |some z=>rw[hz]at hd;injection hd with hd;subst hd;exact mk' (by simp[dh.cls]) (QE hz ho h)
 ·rename_i t ps ho
  cases hz:fF P t with
  |none=>rw[hz]at hd;cases hd
  |some z=>
   rw[hz,Option.bind_some]at hd
   cases hq:parts P t (aI z).length ps.toList with
   |none=>rw[hq]at hd;cases hd
   |some qs=>rw[hq]at hd;injection hd with hd;subst hd;exact mk (Of bH ho hz hq h)
 ·rename_i t n ps ho
  split at hd
  ·rename_i e hu
   cases hz:fF P e with
   |none=>rw[hz]at hd;cases hd
   |some z=>
    rw[hz,Option.bind_some]at hd
    split at hd
    ·rename_i hc
     cases hq:kB (fun i=>some (i*P.cellsOf e,P.cellsOf e)) (n*P.cellsOf e) ps.toList with
     |none=>rw[hq]at hd;cases hd
     |some qs=>rw[hq]at hd;injection hd with hd;subst hd;exact mk' (by simp[dh.cls]) (SX bH ho hu hz hc.1 hc.2.1 hc.2.2.1 hc.2.2.2 hq h)
    ·cases hd
  ·cases hd
 ·rename_i t x ho
  split at hd
  ·rename_i hc
   split at hd
   ·rename_i hg;injection hd with hd;subst hd;exact mk' (by simp[dh.cls]) (Oi bH ho hc.1 hc.2 hg h)
   ·rename_i hg;injection hd with hd;subst hd;exact mk' (by simp[dh.cls]) (Oh bH ho hc.1 hc.2 (by simpa using hg) h)
  ·cases hd
 ·rename_i t x y ho
  split at hd
  ·rename_i hc;injection hd with hd;subst hd;exact mk' (by simp[dh.cls]) (Oj bH ho hc.1 hc.2 h)
  ·cases hd
 ·rename_i x ho;injection hd with hd;subst hd;exact mk (Ir bH ho h)
 ·rename_i op t x y t' ho
  split at hd
  ·split at hd
   ·rename_i ms hu;injection hd with hd;subst hd;exact mk (I2 bH ho hu (.inl ⟨rfl,rfl⟩) h)
   ·cases hs:shapeOf P eV t with
    |none=>rw[hs]at hd;cases hd
    |some s=>
     rw[hs,Option.bind_some]at hd
     split at hd
     ·rename_i hc;injection hd with hd;subst hd;exact mk (Gz bH ho (fun _=>⟨hs,hc⟩) h)
     ·cases hd
  ·split at hd
   ·rename_i ms hu;injection hd with hd;subst hd;exact mk (I2 bH ho hu (.inr ⟨rfl,rfl⟩) h)
   ·cases hs:shapeOf P eV t with
    |none=>rw[hs]at hd;cases hd
    |some s=>
     rw[hs,Option.bind_some]at hd
     split at hd
     ·rename_i hc;injection hd with hd;subst hd;exact mk (Gz bH ho (fun _=>⟨hs,hc⟩) h)
     ·cases hd
  ·rename_i h1 h2
   injection hd with hd;subst hd;exact mk (Gz bH ho (fun he=>by rcases he with he|he<;>first|exact absurd he h1|exact absurd he h2) h)
 ·rename_i op t x ho;injection hd with hd;subst hd;exact mk (U7 bH ho h)
 ·rename_i s t x ho
  split at hd
  ·rename_i k' k h1 h2;injection hd with hd;subst hd;exact mk (QB bH ho h1 h2 h)
  ·rename_i e h1 h2
   split at hd
   ·rename_i h3;injection hd with hd;subst hd;exact mk' (by simp[dh.cls]) (On bH ho h1 h2 h3 h)
   ·cases hd
  ·rename_i e h1 h2
   split at hd
   ·rename_i h3;injection hd with hd;subst hd;exact mk' (by simp[dh.cls]) (Kb bH ho h1 h2 h3 h)
   ·cases hd
  ·cases hd
 ·rename_i t x ho
  split at hd
  ·cases hd
  ·rename_i d hu hn;injection hd with hd;subst hd;exact mk (Oc bH ho hn (fun ms e=>hu ms (by rw[e])) h)
  ·cases hd
 ·rename_i fn first captured ho;injection hd with hd;subst hd;exact mk (QC bH ho h)
 ·rename_i t ho;injection hd with hd;subst hd;exact mk' (by simp[dh.cls]) (Ml ho h)
 ·rename_i t x y ho
  split at hd
  ·rename_i e hu
   cases hz:fF P e with
   |none=>rw[hz]at hd;cases hd
   |some z=>
    rw[hz,Option.bind_some]at hd
    split at hd
    ·rename_i hc;injection hd with hd;subst hd;exact mk' (by simp[dh.cls]) (GD bH ho hu hz hc.1 hc.2.1 hc.2.2 h)
    ·cases hd
  ·cases hd
 ·rename_i t x lo hi mx ho
  split at hd
  ·rename_i e hu
   split at hd
   ·rename_i hc;injection hd with hd;subst hd;exact mk (Oe bH ho hu hc.1 (fun hm=>hc.2.elim (fun h1=>by cases mx<;>simp_all) id) h)
   ·cases hd
  ·rename_i hu
   split at hd
   ·rename_i hc;injection hd with hd;subst hd
    cases mx with
    |none=>exact mk (Mj bH ho hu h)
    |some m=>simp at hc
   ·cases hd
  ·cases hd
 ·rename_i s x f ho
  split at hd
  ·rename_i fields hu
   cases hf:fields[f]? with
   |none=>rw[hf]at hd;cases hd
   |some fd=>
    rw[hf,Option.bind_some]at hd
    split at hd
    ·rename_i hc;injection hd with hd;subst hd;exact mk (GA bH ho hu hf hc.1 hc.2 h)
    ·cases hd
  ·cases hd
 ·rename_i t x f ho
  split at hd
  ·rename_i fields hu
   cases hf:fields[f]? with
   |none=>rw[hf]at hd;cases hd
   |some fd=>
    rw[hf,Option.bind_some]at hd
    split at hd
    ·rename_i hc;injection hd with hd;subst hd;exact mk (Od bH ho hu hf hc.1 hc.2 h)
    ·cases hd
  ·cases hd
 ·rename_i t x i' ho
  split at hd
  ·rename_i e hu
   split at hd
   ·rename_i hc;injection hd with hd;subst hd;exact mk (GB bH ho hu hc h)
   ·cases hd
  ·rename_i n e hu
   split at hd
   ·rename_i hc;injection hd with hd;subst hd;exact mk (Is bH ho hu hc h)
   ·cases hd
  ·cases hd
 ·rename_i t x i' ho
  split at hd
  ·rename_i hu;injection hd with hd;subst hd;exact mk (Mi bH ho hu h)
  ·cases hd
 ·rename_i t x i' ok ho
  split at hd
  ·rename_i k e hu
   cases hs:cC P k with
   |none=>rw[hs]at hd;cases hd
   |some s=>
    rw[hs,Option.bind_some]at hd
    cases hz:fF P e with
    |none=>rw[hz]at hd;cases hd
    |some z=>rw[hz]at hd;injection hd with hd;subst hd;exact mk' (by simp[dh.cls]) (Mm bH ho hu hs hz h)
  ·cases hd
 ·rename_i t m k v ho
  split at hd
  ·rename_i kt e hu
   cases hs:cC P kt with
   |none=>rw[hs]at hd;cases hd
   |some s=>rw[hs]at hd;injection hd with hd;subst hd;exact mk' (by simp[dh.cls]) (Mn bH ho hu hs h)
  ·cases hd
 ·rename_i x i' ho;injection hd with hd;subst hd;exact mk (J9 bH ho h)
 ·rename_i x s T ho
  split at hd
  ·cases hd
  ·rename_i d hu hn;injection hd with hd;subst hd;exact mk (Mh bH ho hn (fun ms e=>hu ms (by rw[e])) h)
  ·cases hd
 ·rename_i c ho
  split at hd
  ·rename_i f hc
   split at hd
   ·rename_i hb;injection hd with hd;subst hd;exact mk' (by simp[dh.cls]) (QF bH ho hc hb h)
   ·injection hd with hd;subst hd;exact mk' (by simp[dh.cls]) (SZ bH ho hc h)
  ·rename_i x hx hc;injection hd with hd;subst hd;exact mk' (by simp[dh.cls]) (S0 bH ho hc h)
  ·rename_i r name hc;injection hd with hd;subst hd;exact mk' (by simp[dh.cls]) (Mp bH ho hc h)
  ·rename_i hc
   split at hd
   ·rename_i x e h1 h2;injection hd with hd;subst hd;exact mk (QG bH ho hc h1 h2 h)
   ·rename_i x h1 h2;injection hd with hd;subst hd;exact mk (QH bH ho hc h1 h2 h)
   ·rename_i x k e h1 h2;injection hd with hd;subst hd;exact mk' (by simp[dh.cls]) (QI bH ho hc h1 h2 h)
   ·cases hd
  ·rename_i hc
   split at hd
   ·rename_i x y e d h1 h2 h3
    cases hz:fF P e with
    |none=>rw[hz]at hd;cases hd
    |some z=>
     rw[hz,Option.bind_some]at hd
     split at hd
     ·rename_i hq;injection hd with hd;subst hd;exact mk' (by simp[dh.cls]) (Mq bH ho hc h1 h2 h3 hq.2.2.2.2 hz hq.1 hq.2.1 hq.2.2.1 hq.2.2.2.1 h)
     ·cases hd
   ·cases hd
  ·rename_i hc
   split at hd
   ·rename_i m k kt e h1 h2
    cases hs:cC P kt with
    |none=>rw[hs]at hd;cases hd
    |some s=>rw[hs]at hd;injection hd with hd;subst hd;exact mk' (by simp[dh.cls]) (Mo bH ho hc h1 h2 hs h)
   ·cases hd
  ·rename_i hc
   split at hd
   ·rename_i x e h1 h2
    cases hz:fF P e with
    |none=>rw[hz]at hd;cases hd
    |some z=>
     rw[hz,Option.bind_some]at hd
     split at hd
     ·rename_i hq;injection hd with hd;subst hd;exact mk' (by simp[dh.cls]) (Ol bH ho hc h1 h2 hz hq h)
     ·cases hd
   ·cases hd
  ·rename_i hc;injection hd with hd;subst hd;exact mk (S6 bH ho hc h)
  ·rename_i hc;injection hd with hd;subst hd;exact mk (S7 bH ho hc h)
  ·cases hd
 ·cases hd
theorem ak{α:Type}{o:Option α}{F G:α→Prop}(h:aC o F)(hk:∀v,F v→G v):aC o G:=by cases o;exact h;exact hk _ h
theorem bN{c F G:Prop}(h:dD c F)(hk:F→G):dD c G:=⟨h.1,hk h.2⟩
theorem GJ{v:Value}{F G:Bool→Prop}(h:BN v F)(hk:∀b,F b→G b):BN v G:=by unfold BN at*;split at h;exact hk _ h;exact h.elim
theorem lz{F G:List Value→Prop}:∀ {xs:List Operand},N0 ev xs F→(∀l,F l→G l)→N0 ev xs G:=by
 intro xs
 induction xs generalizing F G with
 |nil=>intro h hk;exact hk _ h
 |cons x xs ih=>intro h hk;exact ak h fun v h=>ih h fun l=>hk _
theorem GK{F G:List Value→Prop}:∀ {r:List (Nat×Nat×Operand)} {z:List Value},BP ev z r F→(∀l,F l→G l)→BP ev z r G:=by
 intro r
 induction r with
 |nil=>intro z h hk;exact hk _ h
 |cons p r ih=>obtain⟨off,size,x⟩:=p;intro z h hk;exact ak h fun v h=>bN h fun h=>ih h hk
theorem qJ{v:Value}{F G:Nat→Nat→Prop}(h:xL v F)(hk:∀b o,F b o→G b o):xL v G:=by obtain⟨b,o,rfl,h⟩:=fi h;exact hk _ _ h
theorem kg{v:Value}{F G:Int→Prop}(h:Dl v F)(hk:∀b,F b→G b):Dl v G:=by obtain⟨b,o,rfl,h⟩:=iL h;exact hk _ h
theorem lC{v:Value}{F G:Option Addr→Nat→Nat→Prop}(h:pq v F)(hk:∀a n c,F a n c→G a n c):pq v G:=by obtain⟨a,n,c,rfl,h⟩:=iM h;exact hk _ _ _ h
theorem zW{v:Option Addr}{F G:Nat→Nat→Prop}(h:uZ v F)(hk:∀b o,F b o→G b o):uZ v G:=by obtain⟨b,o,rfl,h⟩:=nQ h;exact hk _ _ h
theorem sw{v:Value}{F G:ByteArray→Prop}(h:jv v F)(hk:∀b,F b→G b):jv v G:=by obtain⟨b,rfl,h⟩:=mL h;exact hk _ h
theorem QK{v:Value}{F G:List Value→Prop}(h:Qy v F)(hk:∀b,F b→G b):Qy v G:=by obtain⟨b,rfl,h⟩:=IY h;exact hk _ h
theorem QL{v:Value}{F G:List Value→Prop}(h:Qz v F)(hk:∀b,F b→G b):Qz v G:=by obtain⟨b,rfl,h⟩:=IZ h;exact hk _ h
theorem vS{v:Value}{F G:Option Nat→Prop}(h:Dm v F)(hk:∀b,F b→G b):Dm v G:=by obtain⟨b,rfl,h⟩:=ke h;exact hk _ h
theorem QM{v:Value}{F G:Bool→Prop}(h:N9 v F)(hk:∀b,F b→G b):N9 v G:=by
 rcases I0 h with ⟨e,h⟩| ⟨t,u,e,h⟩<;>subst e<;>exact hk _ h
theorem Kc{T:TypeId}{v:Value}{F G:Value→Prop}(h:vQ T v F)(hk:∀b,F b→G b):vQ T v G:=by obtain⟨b,e,h2⟩:=BQ h;subst e;exact⟨rfl,hk _ h2⟩
theorem zX{H:Hp}{size:Nat}{v:Value}{F G:Nat→List Value→Prop}(h:rowOf H size v F)(hk:∀n l,F n l→G n l):rowOf H size v G:=by
 unfold rowOf at*
 split at h
 ·rename_i a n c
  cases hn:n==0
  ·rw[hn]at h
   exact zW h fun b o h=>ak h fun l h=>bN h (hk _ _)
  ·rw[hn]at h
   exact hk _ _ h
 ·exact bN h (hk _ _)
 ·exact h.elim
theorem DN{H:Hp}{v:Value}{F G:List UInt8→Prop}(h:vi H v F)(hk:∀b,F b→G b):vi H v G:=by
 unfold vi at*
 split at h
 ·exact zX h fun n l h=>ak h hk
 ·exact h.elim
theorem lD{x:Option Operand}{d:Nat}{F G:Int→Prop}(h:pC ev x d F)(hk:∀b,F b→G b):pC ev x d G:=by
 cases x with
 |none=>exact hk _ h
 |some x=>exact ak h fun v h=>kg h hk
theorem Pd{K':Value→Hp→Prop}(i:dh)(hc:i.cls= .pure)(h:i.vc P ev H K)(hk:∀v H',K v H'→K' v H'):i.vc P ev H K':=by
 cases i<;>simp[dh.cls]at hc<;>simp only[dh.vc]at h ⊢
 ·exact ak h fun v=>hk _ _
 ·exact ak h fun v h=>GJ h fun b h=>ak h fun v=>hk _ _
 ·exact GK h fun l=>hk _ _
 ·exact ak h fun v h=>bN h (hk _ _)
 ·exact ak h fun v h=>ak h fun v h=>ak h fun v=>hk _ _
 ·exact ak h fun v h=>ak h fun v=>hk _ _
 ·exact ak h fun v h=>kg h fun v=>hk _ _
 ·exact ak h fun v=>hk _ _
 ·exact lz h fun l h=>lz h fun l=>hk _ _
 ·exact ak h fun v h=>lC h fun a n c h=>lD h fun m h=>lD h fun m h=>lD h fun m h=>bN h (hk _ _)
 ·exact ak h fun v h=>sw h fun s h=>lD h fun m h=>lD h fun m h=>bN h (hk _ _)
 ·exact ak h fun v h=>qJ h fun b o=>hk _ _
 ·exact ak h fun v h=>QL h fun l h=>ak h fun v=>hk _ _
 ·exact ak h fun v h=>ak h fun v h=>lC h fun a n c h=>kg h fun i h=>bN h fun h=>zW h fun b o=>hk _ _
 ·exact ak h fun v h=>ak h fun v h=>qJ h fun b o h=>kg h fun i h=>bN h (hk _ _)
 ·exact ak h fun v h=>ak h fun v h=>sw h fun s h=>kg h fun i h=>bN h fun h=>ak h fun b=>hk _ _
 ·exact ak h fun v h=>QK h fun l h=>ak h fun v=>hk _ _
 ·exact ak h fun v h=>lC h fun a n c=>hk _ _
 ·exact ak h fun v h=>sw h fun s=>hk _ _
 ·exact lz h fun l h=>ak h fun v=>hk _ _
 ·exact lz h fun l h=>ak h fun v=>hk _ _
 ·exact ak h fun v h=>Kc h fun v=>hk _ _
 ·exact ak h fun v h=>QM h fun v=>hk _ _
theorem Ta(i:dh)(hc:i.cls= .quiet)(h:i.vc P ev H K):∃v,i.vc P ev H (fun v' H'=>v'=v∧H'=H)∧K v H:=by
 cases i<;>simp[dh.cls]at hc
 ·obtain⟨p,hp,h⟩:=aA h
  obtain⟨b,o,rfl,h⟩:=fi h
  obtain⟨l,hl,h⟩:=aA h
  obtain⟨v,hv,h⟩:=aA h
  exact⟨v,by simp only[dh.vc,hp,aC,xL,hl,hv,and_self],h⟩
 ·obtain⟨p,hp,h⟩:=aA h
  obtain⟨b,o,rfl,h⟩:=fi h
  obtain⟨l,hl,h⟩:=aA h
  obtain⟨hn,h⟩:=h.out
  exact⟨_,by simp only[dh.vc,hp,aC,xL,hl,dD,hn,and_self],h⟩
 ·rename_i s z ok m k
  obtain⟨p,hp,h⟩:=aA h
  obtain⟨q,hq,h⟩:=aA h
  obtain⟨r,rfl,h⟩:=ke h
  obtain⟨hn,h⟩:=h.out
  cases r with
  |none=>exact⟨_,by simp only[dh.vc,hp,hq,aC,Dm,dD,hn,yq,and_self],h⟩
  |some b=>
   obtain⟨x,hx,h⟩:=aA h
   obtain⟨y,hy,h⟩:=aA h
   exact⟨_,by simp only[dh.vc,hp,hq,aC,Dm,dD,hn,yq,hx,hy,and_self],h⟩
 ·obtain⟨p,hp,h⟩:=aA h
  obtain⟨r,rfl,h⟩:=ke h
  cases r with
  |none=>exact⟨_,by simp only[dh.vc,hp,aC,Dm,Md,and_self],h⟩
  |some b=>
   obtain⟨x,hx,h⟩:=aA h
   exact⟨_,by simp only[dh.vc,hp,aC,Dm,Md,hx,and_self],h⟩
 ·obtain⟨p,hp,h⟩:=aA h
  have key:∃l,K (.string ⟨l.toArray⟩) H∧vi H p (fun l'=>l'=l):=by
   unfold vi at*
   split at h
   ·rename_i a n c
    unfold rowOf at*
    simp only at*
    cases hn:n==0
    ·rw[hn]at h
     obtain⟨b,o,rfl,h⟩:=nQ h
     obtain⟨l,hl,h⟩:=aA h
     obtain⟨h1,h⟩:=h.out
     obtain⟨bs,hb,h⟩:=aA h
     exact⟨bs,h,by simp only[Gt,uZ,aC,hl,dD,h1,hb,and_self]⟩
    ·rw[hn]at h
     have h:aC (bytesOf []) fun l=>K (.string ⟨l.toArray⟩) H:=h
     obtain⟨bs,hb,h⟩:=aA h
     exact⟨bs,h,by simp only[Gt,aC,hb]⟩
   ·exact h.elim
  obtain⟨l,h1,h2⟩:=key
  refine⟨_,?_,h1⟩
  simp only[dh.vc,hp,aC]
  exact DN h2 fun b e=>by rw[e];exact⟨rfl,rfl⟩
end
end Go.Vc
