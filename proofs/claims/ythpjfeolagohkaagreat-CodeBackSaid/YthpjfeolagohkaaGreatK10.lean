/- Texts put behind each other. -/
import Derived.Test.YthpjfeolagohkaaGreatK98
import Derived.Test.YthpjfeolagohkaaGreatK9
import Derived.Lib.ConvBytes
import Derived.Laws.AppendOwn
import Derived.Laws.Append
set_option maxRecDepth 100000
set_option maxHeartbeats 8000000
set_option linter.unusedVariables false
set_option linter.unusedSimpArgs false
namespace Go.Vc
section
variable {P : Program} {o : Oper} {a : Act} {ev : Ev} {H : Hp} {K : Value → Hp → Prop}
theorem KO{t kt e:TypeId}{s:Shape}{z:Value}{x y:Operand}{ok:Bool}(bz:bK ev a)(ho:o.op= .lookup t x y ok)(ht:P.underlying t=some (.map kt e))
  (hs:ck P kt=some s)(hz:fj P e=some z)(h:(de.lookup s z ok x y).vc P ev H K):dR P o a H K:=by
 intro w hw
 subst hw
 obtain⟨r,hx,h⟩:=jD (aT bz (aT bz h))
 obtain⟨hk,h⟩:=h.out
 cases r with
 |none=>
  refine .inl ⟨gH ok z none,w,?_,bW.refl w,h⟩
  have hf:=iw (P:=P) (k:=a.eval y) (es:=[]) (r:=none) hs rfl w
  simp only[execOp,ho,Instr.lookup,Sem.run_bind,ak ht,Result.andThen_ok,hx,Sem.run_pure,gI hs hk,hf,cF hz]
  cases ok<;>rfl
 |some b=>
  obtain⟨m,hm,h⟩:=az h
  obtain⟨rr,hr,h⟩:=az h
  obtain⟨es,he,hl⟩:=EU hm
  rw[←hl]at hr
  refine .inl ⟨gH ok z (rr.map (·.2)),w,?_,bW.refl w,h⟩
  simp only[execOp,ho,Instr.lookup,Sem.run_bind,ak ht,Result.andThen_ok,hx,Sem.run_pure,nT he,gI hs hk,iw hs hr]
  cases rr with
  |none=>simp only[cF hz,Result.andThen_ok,Sem.run_bind,Sem.run_pure];cases ok<;>rfl
  |some q=>cases ok<;>rfl
theorem KP{t kt e:TypeId}{s:Shape}{x y z:Operand}(bz:bK ev a)(ho:o.op= .mapUpdate t x y z)(ht:P.underlying t=some (.map kt e))
  (hs:ck P kt=some s)(h:(de.update s x y z).vc P ev H K):dR P o a H K:=by
 intro w hw
 subst hw
 obtain⟨r,hx,h⟩:=jD (aT bz (aT bz (aT bz h)))
 obtain⟨b,rfl,h⟩:=az h
 obtain⟨hk,h⟩:=h.out
 obtain⟨m,hm,h⟩:=az h
 obtain⟨rr,hr,h⟩:=az h
 obtain⟨ma,h⟩:=h.out
 obtain⟨es,he,hl⟩:=EU hm
 rw[←hl]at hr
 refine .inr (.inl ⟨{w with heap:=Hp.Du w.heap b (KQ m.1 rr (a.eval y) (a.eval z) m.2) (Jd rr m.2)},?_,⟨rfl,rfl⟩,h⟩)
 simp only[execOp,ho,Instr.mapUpdate,Sem.run_bind,ak ht,Result.andThen_ok,hx,nT he,gI hs hk,iw hs hr]
 cases rr with
 |none=>
  simp only[nU he,Result.andThen_ok,Sem.run_pure,KQ,Jd,←hl]
  simp
 |some q=>
  obtain⟨i,v⟩:=q
  have hb:Instr.sameBits 10000 (((es[i]?).map (·.key)).getD (a.eval y)) (a.eval y)=true:=by
   simp only[EV,←hl]at ma
   simpa using ma
  simp only[Instr.keyThatStays,hb,if_true,Sem.run_bind,Sem.run_pure,Result.andThen_ok,nU he,KQ,Jd,←hl]
  simp
theorem KR{kt e:TypeId}{s:Shape}{c:Call}{x y:Operand}(bz:bK ev a)(ho:o.op= .call c)(hc:c.callee= .builtin .delete)(jP:c.args.toList=[x,y])
  (lC:(c.argTypes[0]?).bind P.underlying=some (.map kt e))(hs:ck P kt=some s)(h:(de.delete s x y).vc P ev H K):dR P o a H K:=by
 intro w hw
 subst hw
 obtain⟨r,hx,h⟩:=jD (aT bz (aT bz h))
 obtain⟨b,rfl,h⟩:=az h
 obtain⟨hk,h⟩:=h.out
 obtain⟨m,hm,h⟩:=az h
 obtain⟨rr,hr,h⟩:=az h
 obtain⟨es,he,hl⟩:=EU hm
 rw[←hl]at hr
 have ha:c.args= #[x,y]:=Array.ext' jP
 obtain⟨t,Ff,GX⟩:=Option.bind_eq_some_iff.1 lC
 refine .inl ⟨.tuple [].toArray,{w with heap:=Hp.Du w.heap b (Fg m.1 rr) m.2},?_,⟨rfl,rfl⟩,h⟩
 simp only[execOp,ho,resolve,hc,Sem.run_bind,Sem.run_pure,Result.andThen_ok,invoke,builtin,ha,Builtin.delete_,Ff]
 simp only[List.map_toArray,apg,List.map_nil,ap0,ao2,api,Sem.run_bind,ak GX,Result.andThen_ok,hx,nT he,gI hs hk,iw hs hr]
 cases rr with
 |none=>simp only[Sem.run_bind,nU he,Result.andThen_ok,Sem.run_pure,Fg,←hl]
 |some q=>
  obtain⟨i,v⟩:=q
  simp only[Sem.run_bind,nU he,Result.andThen_ok,Sem.run_pure,Fg,←hl,Array.toList_eraseIdxIfInBounds]
theorem MV{e:TypeId}{z:Value}{c:Call}{x:Operand}(bz:bK ev a)(ho:o.op= .call c)(hc:c.callee= .builtin .clear)(jP:c.args.toList=[x])
  (lC:(c.argTypes[0]?).bind P.underlying=some (.slice e))(hz:fj P e=some z)(IB:(aF z).length≠0)(h:(de.MW (aF z) x).vc P ev H K):dR P o a H K:=by
 intro w hw
 subst hw
 obtain⟨ad,n,cp,hx,h⟩:=gW (aT bz h)
 have ha:c.args= #[x]:=Array.ext' jP
 obtain⟨t,Ff,GX⟩:=Option.bind_eq_some_iff.1 lC
 have MX:z.cells.toList=aF z:=eo z
 rcases h with ⟨rfl,h⟩| ⟨hn,b,off,l,rfl,hl,h1,h2,h⟩
 ·refine .inl ⟨.tuple [].toArray,w,?_,bW.refl w,h⟩
  simp only[execOp,ho,resolve,hc,Sem.run_bind,Sem.run_pure,Result.andThen_ok,invoke,builtin,ha,Builtin.clear_,Ff]
  simp only[List.map_toArray,apg,List.map_nil,ap0,ao2,Sem.run_bind,ak GX,Result.andThen_ok,hx]
  cases ad<;>simp
 ·have e1:(Builtin.zeroCells z.cells n).toList=ce (aF z) n:=by
   unfold Builtin.zeroCells
   rw[zM rfl (by rw[←MX]at IB;simpa using IB),MX]
  have aR:(ce (aF z) n).length=n*(aF z).length:=by simp[ce]
  obtain⟨w',hs,MY,hk,_⟩:=gN (P:=P) (b:=b) (o:=off) (ce (aF z) n) 0 w l hl (by omega) h1
  have aQ:ce (aF z) n≠[]:=fun e=>by
   rw[e]at aR
   simp only[apo]at aR
   rcases Nat.mul_eq_zero.1 aR.symm with h|h
   ·exact hn h
   ·exact IB h
  refine .inl ⟨.tuple [].toArray,w',?_,MY,?_⟩
  ·simp only[execOp,ho,resolve,hc,Sem.run_bind,Sem.run_pure,Result.andThen_ok,invoke,builtin,ha,Builtin.clear_,Ff]
   simp only[List.map_toArray,apg,List.map_nil,ap0,ao2,Sem.run_bind,ak GX,Result.andThen_ok,hx]
   cases n with
   |zero=>exact absurd rfl hn
   |succ n=>simp[cF hz,e1,hs]
  ·rw[hk aQ];exact h
theorem qB{f:FuncId}(hc:dv P f=true)(args:Array Value)(w:World):(callFunc f args).run P w= .ok (.enter f args) w:=by
 unfold dv at hc
 split at hc
 ·rename_i fn hf
  simp only[apf,bne_iff_ne,ne_eq]at hc
  obtain⟨bd,hb⟩:=Option.isSome_iff_exists.1 hc.2
  simp[callFunc,hf,hc.1,hb]
 ·cases hc
theorem Pw{f:FuncId}{c:Call}(bz:bK ev a)(ho:o.op= .call c)(hc:c.callee= .value (.func f))(hb:dv P f=true)
  (h:(de.call f c.args.toList).vc P ev H K):dR P o a H K:=by
 intro w hw
 subst hw
 have h:=jQ bz h
 refine .inr (.inr ⟨f,(c.args.map a.eval),w,?_,bW.refl w,by simpa using h⟩)
 simp[execOp,ho,resolve,hc,Act.eval,Deferred.ofValue,invoke,qB hb]
theorem RQ{f:FuncId}{c:Call}(bz:bK ev a)(ho:o.op= .call c)(hc:c.callee= .value (.func f))
  (h:(de.ext f c.args.toList).vc P ev H K):dR P o a H K:=by
 intro w hw
 subst hw
 obtain⟨v,hv,hk⟩:=jQ bz h
 refine .inl ⟨v,w,?_,bW.refl w,hk⟩
 have KS:(callFunc f (c.args.map a.eval)).run P w= .ok (.value v) w:=by
  have h1:=hv w
  rw[show(List.map a.eval c.args.toList).toArray=c.args.map a.eval from Array.ext' (by simp)]at h1
  exact h1
 simp[execOp,ho,resolve,hc,Act.eval,Deferred.ofValue,invoke,KS]
theorem RR{f:Operand}{c:Call}(bz:bK ev a)(ho:o.op= .call c)(hc:c.callee= .value f)
  (h:(de.dyn f c.args.toList).vc P ev H K):dR P o a H K:=by
 intro w hw
 subst hw
 have h:=jQ bz (aT bz h)
 unfold Xj at h
 split at h
 ·rename_i g first captured hf
  refine .inr (.inr ⟨g,first++c.args.map a.eval++captured,w,?_,bW.refl w,by simpa using h.2⟩)
  simp only[execOp,ho,resolve,hc,hf,Deferred.ofValue,Sem.run_bind,Sem.run_pure,Result.andThen_ok,invoke,qB h.1]
 ·exact h.elim
theorem KT{r:Operand}{name:String}{c:Call}(bz:bK ev a)(ho:o.op= .call c)(hc:c.callee= .invoke r name)
  (h:(de.invoke r name c.args.toList).vc P ev H K):dR P o a H K:=by
 intro w hw
 subst hw
 obtain⟨T,v,f,rv,hr,⟨vG,hm⟩,h⟩:=jQ bz (aT bz h)
 refine .inr (.inr ⟨f, #[rv]++c.args.map a.eval,w,?_,bW.refl w,by simpa using h⟩)
 have hx:(#[Value.iface T v]++c.args.map a.eval)[0]? =some (.iface T v):=by rw[apA (by simp)];rfl
 have ou:(#[Value.iface T v]++c.args.map a.eval).extract 1 (#[Value.iface T v]++c.args.map a.eval).size=c.args.map a.eval:=by
  apply Array.ext'
  simp only[Array.toList_extract,Array.toList_append,Array.toList_map,Array.size_append]
  simp[apn]
 simp only[execOp,ho,resolve,hc,hr,Sem.run_bind,Sem.run_pure,Result.andThen_ok,invoke,hx,ou,callMethod,run_program,hm w rfl,qB vG]
theorem mc{c:Call}{x:Operand}(ho:o.op= .call c)(hc:c.callee= .builtin .len)(jP:c.args.toList=[x]){w:World}{n:Nat}
  (hr:(Builtin.len_ c.argTypes o.type #[a.eval x]).run P w= .ok (goInt n) w):(execOp a.eval o).run P w= .ok (.value (.int .i64 n)) w:=by
 have ha:c.args= #[x]:=Array.ext' jP
 have hav:c.args.map a.eval= #[a.eval x]:=by rw[ha];simp
 simp only[execOp,ho,resolve,hc,Sem.run_bind,Sem.run_pure,Result.andThen_ok,invoke,builtin,hav,hr,goInt]
theorem Px{c:Call}{x:Operand}{e:TypeId}(bz:bK ev a)(ho:o.op= .call c)(hc:c.callee= .builtin .len)(jP:c.args.toList=[x])
  (lC:(c.argTypes[0]?).bind P.underlying=some (.slice e))(h:(de.DU x).vc P ev H K):dS P o a H K:=by
 obtain⟨t,Ff,GX⟩:=Option.bind_eq_some_iff.1 lC
 obtain⟨ad,n,cp,hx,h⟩:=gW (aT bz h)
 refine⟨_,fun w=>mc ho hc jP (n:=n) ?_,h⟩
 simp[Builtin.len_,Ff,ak GX,goInt,hx]
theorem Py{c:Call}{x:Operand}(bz:bK ev a)(ho:o.op= .call c)(hc:c.callee= .builtin .len)(jP:c.args.toList=[x])
  (lC:(c.argTypes[0]?).bind P.underlying=some .string)(h:(de.Uf x).vc P ev H K):dS P o a H K:=by
 obtain⟨t,Ff,GX⟩:=Option.bind_eq_some_iff.1 lC
 obtain⟨s,hx,h⟩:=me (aT bz h)
 refine⟨_,fun w=>mc ho hc jP (n:=s.size) ?_,h⟩
 simp[Builtin.len_,Ff,ak GX,goInt,hx]
theorem Pz{c:Call}{x:Operand}{k e:TypeId}(bz:bK ev a)(ho:o.op= .call c)(hc:c.callee= .builtin .len)(jP:c.args.toList=[x])
  (lC:(c.argTypes[0]?).bind P.underlying=some (.map k e))(h:(de.Ug x).vc P ev H K):dR P o a H K:=by
 intro w hw
 subst hw
 obtain⟨t,Ff,GX⟩:=Option.bind_eq_some_iff.1 lC
 obtain⟨r,hx,h⟩:=jD (aT bz h)
 cases r with
 |none=>
  refine .inl ⟨_,w,mc ho hc jP (n:=0) ?_,bW.refl w,h⟩
  simp[Builtin.len_,Ff,ak GX,goInt,hx]
 |some b=>
  obtain⟨m,hm,h⟩:=az h
  obtain⟨es,he,hl⟩:=EU hm
  refine .inl ⟨_,w,mc ho hc jP (n:=m.1.length) ?_,bW.refl w,h⟩
  simp[Builtin.len_,Ff,ak GX,goInt,hx,nT he,←hl]
theorem Uh:∀ (r:List Value) (x v:Value),KU x r=some v→∀w:World,(r.foldlM Builtin.min2 x).run P w= .ok v w:=by
 intro r
 induction r with
 |nil=>intro x v h w;injection h with h;subst h;rfl
 |cons y r ih=>
  intro x v h w
  unfold KU at h
  split at h
  ·rename_i k p k' q
   simp[List.foldlM_cons,Builtin.min2,ih _ v h w]
  ·cases h
theorem Ui:∀ (r:List Value) (x v:Value),KV x r=some v→∀w:World,(r.foldlM Builtin.max2 x).run P w= .ok v w:=by
 intro r
 induction r with
 |nil=>intro x v h w;injection h with h;subst h;rfl
 |cons y r ih=>
  intro x v h w
  unfold KV at h
  split at h
  ·rename_i k p k' q
   simp[List.foldlM_cons,Builtin.max2,ih _ v h w]
  ·cases h
theorem RS{c:Call}(bz:bK ev a)(ho:o.op= .call c)(hc:c.callee= .builtin .min)(h:(de.Uj c.args.toList).vc P ev H K):dS P o a H K:=by
 obtain⟨v,hv,h⟩:=az (jQ bz h)
 refine⟨v,fun w=>?_,h⟩
 have e:(Builtin.min_ c.argTypes o.type (c.args.map a.eval)).run P w= .ok v w:=by
  unfold Builtin.min_
  rw[Array.toList_map]
  cases hl:c.args.toList.map a.eval with
  |nil=>rw[hl]at hv;cases hv
  |cons x r=>rw[hl]at hv;exact Uh r x v hv w
 simp only[execOp,ho,resolve,hc,Sem.run_bind,Sem.run_pure,Result.andThen_ok,invoke,builtin,e]
theorem RT{c:Call}(bz:bK ev a)(ho:o.op= .call c)(hc:c.callee= .builtin .max)(h:(de.Uk c.args.toList).vc P ev H K):dS P o a H K:=by
 obtain⟨v,hv,h⟩:=az (jQ bz h)
 refine⟨v,fun w=>?_,h⟩
 have e:(Builtin.max_ c.argTypes o.type (c.args.map a.eval)).run P w= .ok v w:=by
  unfold Builtin.max_
  rw[Array.toList_map]
  cases hl:c.args.toList.map a.eval with
  |nil=>rw[hl]at hv;cases hv
  |cons x r=>rw[hl]at hv;exact Ui r x v hv w
 simp only[execOp,ho,resolve,hc,Sem.run_bind,Sem.run_pure,Result.andThen_ok,invoke,builtin,e]
theorem xM{H:Hp}{size:Nat}{v:Value}{F:Nat→List Value→Prop}(h:rowOf H size v F):
  ∃ (n:Nat) (l:List Value),F n l∧(∀w:World,(Builtin.lenOf v).run P w= .ok n w)∧(∀w:World,w.heap=H→(Builtin.firstCells size n v).run P w= .ok l.toArray w)∧l.length=n*size∧
   (∀b m c,v= .slice b m c→m=n):=by
 unfold rowOf at h
 split at h
 ·rename_i a n c
  by_cases PA:n=0
  ·subst PA
   refine⟨0,[],h,fun _=>rfl,fun w hw=>?_,by simp,fun _ _ _ e=>by injection e with _ e _;exact e.symm⟩
   cases a with
   |none=>rfl
   |some a=>simp only[Builtin.firstCells,ao6];rfl
  ·have e0:(n==0)=false:=by simpa using PA
   rw[e0]at h
   obtain⟨b,off,rfl,h1⟩:=mF (F:=fun b o=>aA (H.rd b) fun l=>dW (o+n*size≤l.length) (F n ((l.drop o).take (n*size)))) h
   obtain⟨l,hl,h2⟩:=az h1
   obtain⟨hn,h3⟩:=h2.out
   refine⟨n,_,h3,fun _=>rfl,fun w hw=>?_,by simp;omega,fun _ _ _ e=>by injection e with _ e _;exact e.symm⟩
   subst hw
   exact pk (P:=P) (a:=⟨b,off,none⟩) rfl hl hn
 ·rename_i s
  obtain⟨e1,h2⟩:=h.out
  subst e1
  refine⟨s.size,_,h2,fun _=>rfl,fun w _=>?_,?_,fun _ _ _ e=>by cases e⟩
  ·simp only[Builtin.firstCells,Sem.run_pure]
   congr 1
   apply Array.ext'
   have:s.extract 0 s.size=s:=by
    apply ByteArray.ext
    simp
   rw[this]
   simp
  ·rw[aoA,aos,Array.length_toList];rfl
 ·exact h.elim
theorem Je{s t e:TypeId}{x:Operand}(bz:bK ev a)(ho:o.op= .convert s t x)(hs:P.underlying s=some .string)(ht:P.underlying t=some (.slice e))(he:P.underlying e=some (.int .u8))
  (h:(de.Jf e x).vc P ev H K):dR P o a H K:=by
 intro w hw
 subst hw
 have h:=aT bz h
 unfold ix at h
 split at h
 ·rename_i bs hx
  have hr:=Lib.run_convert_string_bytes (P:=P) w s t e bs hs ht he
  have MZ:=grownCap_ge w bs.size 0 e
  refine .inl ⟨.slice (some ⟨w.heap.size,0,none⟩) bs.size (grownCap w bs.size 0 e),Lib.bytesWorld w e bs,?_,⟨rfl,rfl⟩,?_⟩
  ·simp only[execOp,ho]
   rw[hx]at*
   simp only[Sem.run_bind,hr,Result.andThen_ok,Sem.run_pure]
  ·have hk:=h _ MZ
   have e1:(Lib.bytesWorld w e bs).heap=Hp.jR w.heap e ((bs.data.toList.map fun b=>.int .u8 b.toNat)++List.replicate (grownCap w bs.size 0 e - bs.size) (.int .u8 0)):=by
    apply Array.ext_getElem?
    intro i
    rcases ap6 i w.heap.size with hi|hi|hi
    ·rw[Lib.bytesWorld_at_old w e bs i hi,Dv _ _ _ hi]
    ·subst hi
     rw[Lib.bytesWorld_at_new]
     simp[Hp.jR,Lib.bytesCells]
    ·rw[apB (by rw[Lib.bytesWorld_size];omega),apB (by rw[IC];omega)]
   rw[e1]
   exact hk
 ·exact h.elim
theorem M0:∀ (l:List Value) (bs:List UInt8),bytesOf l=some bs→∀ (s:ByteArray) (w:World),
  (forIn l s fun c (s:ByteArray)=>(match c with| .int .u8 n=>pure (ForInStep.yield (s.push (UInt8.ofNat n.toNat)))|_=>(do stuck "bytesToString: byte expected";pure (ForInStep.yield s)):Sem (ForInStep ByteArray))).run P w= .ok ⟨s.data++bs.toArray⟩ w:=by
 intro l
 induction l with
 |nil=>intro bs h s w;simp only[bytesOf,aoz]at h;subst h;simp
 |cons v l ih=>
  intro bs h s w
  cases v with
  |int k n=>
   cases k with
   |u8=>
    simp only[bytesOf]at h
    cases hb:bytesOf l with
    |none=>rw[hb]at h;cases h
    |some r=>
     rw[hb]at h
     simp only[Option.map_some,aoz]at h
     subst h
     simp only[List.forIn_cons,Sem.run_bind,Sem.run_pure,Result.andThen_ok]
     rw[ih r hb]
     congr 1
     apply ByteArray.ext
     apply Array.ext'
     simp[ByteArray.push]
   |_=>simp[bytesOf]at h
  |_=>simp[bytesOf]at h
theorem M1{s t e:TypeId}{x:Operand}(bz:bK ev a)(ho:o.op= .convert s t x)(hs:P.underlying s=some (.slice e))(ht:P.underlying t=some .string)(he:P.underlying e=some (.int .u8))
  (h:(de.OF x).vc P ev H K):dR P o a H K:=by
 intro w hw
 subst hw
 have h:=aT bz h
 unfold tK at h
 split at h
 ·rename_i ad n c hx
  obtain⟨m,l,h,h1,h2,h3,h4⟩:=xM (P:=P) h
  obtain⟨bs,hb,h⟩:=az h
  refine .inl ⟨_,w,?_,bW.refl w,h⟩
  have hm:n=m:=h4 _ _ _ rfl
  subst hm
  have h5:=h2 w rfl
  have key:(Conv.bytesToString (.slice ad n c)).run P w= .ok (.string ⟨bs.toArray⟩) w:=by
   cases ad with
   |none=>
    simp only[Builtin.firstCells,Sem.run_pure,Result.ok.injEq,and_true]at h5
    have hl:l=[]:=by
     have:=aoD Array.toList h5
     simpa using this.symm
    subst hl
    simp only[bytesOf,aoz]at hb
    subst hb
    rfl
   |some ad=>
    simp only[Builtin.firstCells,aos]at h5
    simp only[Conv.bytesToString,Sem.run_bind,h5,Result.andThen_ok]
    rw[List.forIn_toArray]
    refine(aoD (fun r=>Result.andThen r fun a w'=>Sem.run P (pure (Value.string a)) w') (M0 (P:=P) l bs hb ByteArray.empty w)).trans ?_
    simp only[Result.andThen_ok,Sem.run_pure]
    congr 3
    simp
  simp only[execOp,ho,convert,hx,Sem.run_bind,ak hs,ak ht,ak he,Result.andThen_ok,key]
  rfl
 ·exact h.elim
theorem VU{d:TypeDesc}(hd:Fh d=true):(∃e,d= .slice e)∨d= .string:=by
 cases d<;>first|exact .inl ⟨_,rfl⟩|exact .inr rfl| (cases hd)
theorem G8{Xk:Array TypeId}{ty t t' e:TypeId}{d:TypeDesc}{w:World}{base:Option Addr}{n cap m:Nat}{y:Value}{new:Array Value}(Ff:Xk[0]? =some t)(PC:Xk[1]? =some t')
  (GX:P.underlying t=some (.slice e))(BY:P.underlying t'=some d)(hd:Fh d=true)(hi:(P.info? e).isSome=true)
  (aR:(Builtin.lenOf y).run P w= .ok m w)(ph:(Builtin.firstCells (P.cellsOf e) m y).run P w= .ok new w)(rS:n+m≤cap):
  (Builtin.append_ Xk ty #[.slice base n cap,y]).run P w=
   ((match base with|some a=>storeCells (a.add (n*P.cellsOf e)) new.toList|none=>(pure ():Sem Unit)).run P w).andThen fun _ w'=>.ok (.slice base (n+m) cap) w':=by
 rcases VU hd with ⟨e',rfl⟩|rfl<;>unfold Builtin.append_<;>
 simp only[ap0,ao2,api,Ff,PC,Sem.run_bind,ak GX,ak BY,Result.andThen_ok,bD hi,Sem.run_pure,aR,apJ,if_false,if_pos rS,Bool.not_false,if_true,ph]<;>
 cases base<;>simp only[Sem.run_pure,Result.andThen_ok,Sem.run_bind]
theorem Fi{Xk:Array TypeId}{ty t t' e:TypeId}{d:TypeDesc}{w:World}{base:Option Addr}{n cap m:Nat}{y z:Value}{new PD:Array Value}(Ff:Xk[0]? =some t)(PC:Xk[1]? =some t')
  (GX:P.underlying t=some (.slice e))(BY:P.underlying t'=some d)(hd:Fh d=true)(hi:(P.info? e).isSome=true)(hz:fj P e=some z)
  (aR:(Builtin.lenOf y).run P w= .ok m w)(ph:(Builtin.firstCells (P.cellsOf e) m y).run P w.drew= .ok new w.drew)
  (hold:(Builtin.firstCells (P.cellsOf e) n (.slice base n cap)).run P w.drew= .ok PD w.drew)
  (rS:cap<n+m)(hb:Builtin.nextslicecap (n+m) cap*P.bytesOf e≤2^48)(RU:P.bytesOf e≠0):
  ∃c',n+m≤c'∧(Builtin.append_ Xk ty #[.slice base n cap,y]).run P w=
   .ok (.slice (some ⟨w.heap.size,0,none⟩) (n+m) c') {w with drawn:=w.drawn+1,heap:=Hp.new w.heap e ((PD++new++Builtin.zeroCells z.cells (c' - (n+m))).toList)}:=by
 obtain⟨inf,aaP⟩:=Option.isSome_iff_exists.1 hi
 have Xl:inf.bytes=P.bytesOf e:=by simp[Program.bytesOf,aaP]
 refine⟨(Question.appendCap (n+m) cap e).cut (w.tape w.drawn (.appendCap (n+m) cap e)),by simp[Question.cut],?_⟩
 have aQ:n+m≤2^48:=by
  have h1:=le_nextslicecap rS
  have h2:Builtin.nextslicecap (n+m) cap≤Builtin.nextslicecap (n+m) cap*P.bytesOf e:=Nat.le_mul_of_pos_right _ (by omega)
  omega
 have bS:¬ (9223372036854775807< ((n:Int)+(m:Int))):=by omega
 have afe:¬ (281474976710656<Builtin.nextslicecap (n+m) cap*P.bytesOf e):=by omega
 have hn:¬ (n+m≤cap):=by omega
 rcases VU hd with ⟨e',rfl⟩|rfl<;>
  simp[Builtin.append_,Ff,PC,ak GX,ak BY,bD hi,aR,hn,dX aaP,Xl,RU,afe,Question.forced,cF hz,hold,ph,jS]<;>
  exact⟨rfl,rfl,rfl⟩
theorem KW{c:Call}{e:TypeId}{d:TypeDesc}{z:Value}{x y:Operand}(bz:bK ev a)(ho:o.op= .call c)(hc:c.callee= .builtin .append)(jP:c.args.toList=[x,y])
  (lC:(c.argTypes[0]?).bind P.underlying=some (.slice e))(aaQ:(c.argTypes[1]?).bind P.underlying=some d)(hd:Fh d=true)(hz:fj P e=some z)(hi:(P.info? e).isSome=true)
  (h0:P.cellsOf e≠0)(hl:(aF z).length=P.cellsOf e)(RU:P.bytesOf e≠0)(h:(de.append e (P.cellsOf e) (P.bytesOf e) (aF z) x y).vc P ev H K):dR P o a H K:=by
 intro w hw
 subst hw
 have ha:c.args= #[x,y]:=Array.ext' jP
 obtain⟨t,Ff,GX⟩:=Option.bind_eq_some_iff.1 lC
 obtain⟨t',PC,BY⟩:=Option.bind_eq_some_iff.1 aaQ
 have MX:z.cells.toList=aF z:=eo z
 have OG:z.cells.size=P.cellsOf e:=by rw[←hl,←MX];simp
 obtain⟨base,n,cap,hx,h⟩:=gW (aT bz (aT bz h))
 have h':=h
 obtain⟨m,new,h,aR,ph,VS,_⟩:=xM (P:=P) h
 obtain⟨hA,hB,hC⟩:=h
 have hav:c.args.map a.eval= #[.slice base n cap,a.eval y]:=by rw[ha];simp[hx]
 have pre:∀v w',(Builtin.append_ c.argTypes o.type #[.slice base n cap,a.eval y]).run P w= .ok v w'→(execOp a.eval o).run P w= .ok (.value v) w':=by
  intro v w' hr
  simp only[execOp,ho,resolve,hc,Sem.run_bind,Sem.run_pure,Result.andThen_ok,invoke,builtin,hav,hr]
 by_cases rS:n+m≤cap
 ·have hr:=G8 (ty:=o.type) (base:=base) Ff PC GX BY hd hi (aR w) (ph w rfl) rS
  by_cases hm:m=0
  ·subst hm
   have PA:new=[]:=ao4.1 (by omega)
   subst PA
   refine .inl ⟨_,w,pre _ w ?_,bW.refl w,hA rS rfl⟩
   rw[hr]
   cases base<;>simp[storeCells]
  ·obtain⟨b,off,rfl,hB⟩:=mF (hB rS hm)
   obtain⟨l,Ku,hB⟩:=az hB
   obtain⟨⟨h1,h2⟩,hB⟩:=hB.out
   obtain⟨w',hs,MY,hk,_⟩:=gN (P:=P) (b:=b) (o:=off+n*P.cellsOf e) new 0 w l Ku (by rw[apy]at h1;omega) h2
   have aQ:new≠[]:=fun e'=>by
    rw[e']at VS
    rcases Nat.mul_eq_zero.1 VS.symm with h|h
    ·exact hm h
    ·exact h0 h
   refine .inl ⟨_,w',pre _ w' ?_,MY,hk aQ▸hB⟩
   rw[hr]
   simp only[xN,List.toList_toArray,hs,Result.andThen_ok]
 ·obtain⟨hb,hC⟩:=hC (by omega)
  rw[hx]at hC
  obtain⟨n',PD,hC,_,hold,hol,hn'⟩:=xM (P:=P) hC
  have:n=n':=hn' _ _ _ rfl
  subst this
  obtain⟨c',GW,hr⟩:=Fi (ty:=o.type) (base:=base) Ff PC GX BY hd hi hz (aR w) (ph w.drew rfl) (hold w.drew rfl) (by omega) hb RU
  refine .inl ⟨_,_,pre _ _ hr,⟨rfl,rfl⟩,?_⟩
  have e1:(PD.toArray++new.toArray++Builtin.zeroCells z.cells (c' - (n+m))).toList=PD++new++ce (aF z) (c' - (n+m)):=by
   rw[Array.toList_append,Array.toList_append]
   congr 1
   unfold Builtin.zeroCells
   rw[zM rfl (by omega),MX]
  rw[e1]
  exact hC c' GW
end
end Go.Vc

namespace Go.Vc
def de.cls:de→KX
 | .ay _| .pick .. | .build .. | .nilCheck _| .sG .. | .un .. | .conv .. | .iface .. | .func .. | .slice .. | .Jg .. | .fieldAddr .. | .field .. | .indexAddr .. | .zN .. | .Jh .. | .extract ..
 | .DU _| .Uf _| .Uj _| .Uk _| .Ji .. | .Ul .. =>.pure
 | .aw _| .rT .. | .lookup .. | .Ug _| .OF _=>.quiet
 |_=>.G9
section
variable {P : Program} {o : Oper} {a : Act} {ev : Ev} {H : Hp} {K : Value → Hp → Prop}
theorem sound(i:de)(hd:ID P o=some i)(bz:bK ev a)(h:i.vc P ev H K):(i.cls= .pure→dS P o a H K)∧dR P o a H K:=by
 have mk:dS P o a H K→(i.cls= .pure→dS P o a H K)∧dR P o a H K:=fun hp=>⟨fun _=>hp,hp.aff⟩
 have mk':i.cls≠ .pure→dR P o a H K→(i.cls= .pure→dS P o a H K)∧dR P o a H K:=fun hn hp=>⟨fun e=>absurd e hn,hp⟩
 unfold ID at hd
 split at hd
 ·rename_i x ho;injection hd with hd;subst hd;exact mk (KY bz (.inl ho) h)
 ·rename_i x ho;injection hd with hd;subst hd;exact mk (KY bz (.inr ho) h)
 ·rename_i c x y ho;injection hd with hd;subst hd;exact mk (PE bz ho h)
 ·rename_i T x ho;injection hd with hd;subst hd;exact mk' (by simp[de.cls]) (RV bz ho h)
 ·rename_i T ho
  cases hz:fj P T with
  |none=>rw[hz]at hd;cases hd
  |some z=>rw[hz]at hd;injection hd with hd;subst hd;exact mk' (by simp[de.cls]) (PF hz ho h)
 ·rename_i t ps ho
  cases hz:fj P t with
  |none=>rw[hz]at hd;cases hd
  |some z=>
   rw[hz,Option.bind_some]at hd
   cases hq:parts P t (aF z).length ps.toList with
   |none=>rw[hq]at hd;cases hd
   |some qs=>rw[hq]at hd;injection hd with hd;subst hd;exact mk (M2 bz ho hz hq h)
 ·rename_i t n ps ho
  split at hd
  ·rename_i e hu
   cases hz:fj P e with
   |none=>rw[hz]at hd;cases hd
   |some z=>
    rw[hz,Option.bind_some]at hd
    split at hd
    ·rename_i hc
     cases hq:jK (fun i=>some (i*P.cellsOf e,P.cellsOf e)) (n*P.cellsOf e) ps.toList with
     |none=>rw[hq]at hd;cases hd
     |some qs=>rw[hq]at hd;injection hd with hd;subst hd;exact mk' (by simp[de.cls]) (RW bz ho hu hz hc.1 hc.2.1 hc.2.2.1 hc.2.2.2 hq h)
    ·cases hd
  ·cases hd
 ·rename_i t x ho
  split at hd
  ·rename_i hc
   split at hd
   ·rename_i hg;injection hd with hd;subst hd;exact mk' (by simp[de.cls]) (M3 bz ho hc.1 hc.2 hg h)
   ·rename_i hg;injection hd with hd;subst hd;exact mk' (by simp[de.cls]) (M4 bz ho hc.1 hc.2 (by simpa using hg) h)
  ·cases hd
 ·rename_i t x y ho
  split at hd
  ·rename_i hc;injection hd with hd;subst hd;exact mk' (by simp[de.cls]) (M5 bz ho hc.1 hc.2 h)
  ·cases hd
 ·rename_i x ho;injection hd with hd;subst hd;exact mk (Ha bz ho h)
 ·rename_i op t x y t' ho
  split at hd
  ·split at hd
   ·rename_i ms hu;injection hd with hd;subst hd;exact mk (IE bz ho hu (.inl ⟨rfl,rfl⟩) h)
   ·cases hs:shapeOf P eJ t with
    |none=>rw[hs]at hd;cases hd
    |some s=>
     rw[hs,Option.bind_some]at hd
     split at hd
     ·rename_i hc;injection hd with hd;subst hd;exact mk (Fj bz ho (fun _=>⟨hs,hc⟩) h)
     ·cases hd
  ·split at hd
   ·rename_i ms hu;injection hd with hd;subst hd;exact mk (IE bz ho hu (.inr ⟨rfl,rfl⟩) h)
   ·cases hs:shapeOf P eJ t with
    |none=>rw[hs]at hd;cases hd
    |some s=>
     rw[hs,Option.bind_some]at hd
     split at hd
     ·rename_i hc;injection hd with hd;subst hd;exact mk (Fj bz ho (fun _=>⟨hs,hc⟩) h)
     ·cases hd
  ·rename_i h1 h2
   injection hd with hd;subst hd;exact mk (Fj bz ho (fun he=>by rcases he with he|he<;>first|exact absurd he h1|exact absurd he h2) h)
 ·rename_i op t x ho;injection hd with hd;subst hd;exact mk (Um bz ho h)
 ·rename_i s t x ho
  split at hd
  ·rename_i k' k h1 h2;injection hd with hd;subst hd;exact mk (PG bz ho h1 h2 h)
  ·rename_i e h1 h2
   split at hd
   ·rename_i h3;injection hd with hd;subst hd;exact mk' (by simp[de.cls]) (M1 bz ho h1 h2 h3 h)
   ·cases hd
  ·rename_i e h1 h2
   split at hd
   ·rename_i h3;injection hd with hd;subst hd;exact mk' (by simp[de.cls]) (Je bz ho h1 h2 h3 h)
   ·cases hd
  ·cases hd
 ·rename_i t x ho
  split at hd
  ·cases hd
  ·rename_i d hu hn;injection hd with hd;subst hd;exact mk (M6 bz ho hn (fun ms e=>hu ms (by rw[e])) h)
  ·cases hd
 ·rename_i fn first captured ho;injection hd with hd;subst hd;exact mk (PH bz ho h)
 ·rename_i t ho;injection hd with hd;subst hd;exact mk' (by simp[de.cls]) (KZ ho h)
 ·rename_i t x y ho
  split at hd
  ·rename_i e hu
   cases hz:fj P e with
   |none=>rw[hz]at hd;cases hd
   |some z=>
    rw[hz,Option.bind_some]at hd
    split at hd
    ·rename_i hc;injection hd with hd;subst hd;exact mk' (by simp[de.cls]) (Fk bz ho hu hz hc.1 hc.2.1 hc.2.2 h)
    ·cases hd
  ·cases hd
 ·rename_i t x lo hi mx ho
  split at hd
  ·rename_i e hu
   split at hd
   ·rename_i hc;injection hd with hd;subst hd;exact mk (M7 bz ho hu hc.1 (fun hm=>hc.2.elim (fun h1=>by cases mx<;>simp_all) id) h)
   ·cases hd
  ·rename_i hu
   split at hd
   ·rename_i hc;injection hd with hd;subst hd
    cases mx with
    |none=>exact mk (K4 bz ho hu h)
    |some m=>simp at hc
   ·cases hd
  ·cases hd
 ·rename_i s x f ho
  split at hd
  ·rename_i fields hu
   cases hf:fields[f]? with
   |none=>rw[hf]at hd;cases hd
   |some fd=>
    rw[hf,Option.bind_some]at hd
    split at hd
    ·rename_i hc;injection hd with hd;subst hd;exact mk (Fl bz ho hu hf hc.1 hc.2 h)
    ·cases hd
  ·cases hd
 ·rename_i t x f ho
  split at hd
  ·rename_i fields hu
   cases hf:fields[f]? with
   |none=>rw[hf]at hd;cases hd
   |some fd=>
    rw[hf,Option.bind_some]at hd
    split at hd
    ·rename_i hc;injection hd with hd;subst hd;exact mk (M8 bz ho hu hf hc.1 hc.2 h)
    ·cases hd
  ·cases hd
 ·rename_i t x i' ho
  split at hd
  ·rename_i e hu
   split at hd
   ·rename_i hc;injection hd with hd;subst hd;exact mk (Fm bz ho hu hc h)
   ·cases hd
  ·rename_i n e hu
   split at hd
   ·rename_i hc;injection hd with hd;subst hd;exact mk (Hb bz ho hu hc h)
   ·cases hd
  ·cases hd
 ·rename_i t x i' ho
  split at hd
  ·rename_i hu;injection hd with hd;subst hd;exact mk (K5 bz ho hu h)
  ·cases hd
 ·rename_i t x i' ok ho
  split at hd
  ·rename_i k e hu
   cases hs:ck P k with
   |none=>rw[hs]at hd;cases hd
   |some s=>
    rw[hs,Option.bind_some]at hd
    cases hz:fj P e with
    |none=>rw[hz]at hd;cases hd
    |some z=>rw[hz]at hd;injection hd with hd;subst hd;exact mk' (by simp[de.cls]) (KO bz ho hu hs hz h)
  ·cases hd
 ·rename_i t m k v ho
  split at hd
  ·rename_i kt e hu
   cases hs:ck P kt with
   |none=>rw[hs]at hd;cases hd
   |some s=>rw[hs]at hd;injection hd with hd;subst hd;exact mk' (by simp[de.cls]) (KP bz ho hu hs h)
  ·cases hd
 ·rename_i x i' ho;injection hd with hd;subst hd;exact mk (Jj bz ho h)
 ·rename_i x s T ho
  split at hd
  ·cases hd
  ·rename_i d hu hn;injection hd with hd;subst hd;exact mk (K6 bz ho hn (fun ms e=>hu ms (by rw[e])) h)
  ·cases hd
 ·rename_i c ho
  split at hd
  ·rename_i f hc
   split at hd
   ·rename_i hb;injection hd with hd;subst hd;exact mk' (by simp[de.cls]) (Pw bz ho hc hb h)
   ·injection hd with hd;subst hd;exact mk' (by simp[de.cls]) (RQ bz ho hc h)
  ·rename_i x hx hc;injection hd with hd;subst hd;exact mk' (by simp[de.cls]) (RR bz ho hc h)
  ·rename_i r name hc;injection hd with hd;subst hd;exact mk' (by simp[de.cls]) (KT bz ho hc h)
  ·rename_i hc
   split at hd
   ·rename_i x e h1 h2;injection hd with hd;subst hd;exact mk (Px bz ho hc h1 h2 h)
   ·rename_i x h1 h2;injection hd with hd;subst hd;exact mk (Py bz ho hc h1 h2 h)
   ·rename_i x k e h1 h2;injection hd with hd;subst hd;exact mk' (by simp[de.cls]) (Pz bz ho hc h1 h2 h)
   ·cases hd
  ·rename_i hc
   split at hd
   ·rename_i x y e d h1 h2 h3
    cases hz:fj P e with
    |none=>rw[hz]at hd;cases hd
    |some z=>
     rw[hz,Option.bind_some]at hd
     split at hd
     ·rename_i hq;injection hd with hd;subst hd;exact mk' (by simp[de.cls]) (KW bz ho hc h1 h2 h3 hq.2.2.2.2 hz hq.1 hq.2.1 hq.2.2.1 hq.2.2.2.1 h)
     ·cases hd
   ·cases hd
  ·rename_i hc
   split at hd
   ·rename_i m k kt e h1 h2
    cases hs:ck P kt with
    |none=>rw[hs]at hd;cases hd
    |some s=>rw[hs]at hd;injection hd with hd;subst hd;exact mk' (by simp[de.cls]) (KR bz ho hc h1 h2 hs h)
   ·cases hd
  ·rename_i hc
   split at hd
   ·rename_i x e h1 h2
    cases hz:fj P e with
    |none=>rw[hz]at hd;cases hd
    |some z=>
     rw[hz,Option.bind_some]at hd
     split at hd
     ·rename_i hq;injection hd with hd;subst hd;exact mk' (by simp[de.cls]) (MV bz ho hc h1 h2 hz hq h)
     ·cases hd
   ·cases hd
  ·rename_i hc;injection hd with hd;subst hd;exact mk (RS bz ho hc h)
  ·rename_i hc;injection hd with hd;subst hd;exact mk (RT bz ho hc h)
  ·cases hd
 ·cases hd
theorem aj{α:Type}{o:Option α}{F G:α→Prop}(h:aA o F)(hk:∀v,F v→G v):aA o G:=by cases o;exact h;exact hk _ h
theorem bG{c F G:Prop}(h:dW c F)(hk:F→G):dW c G:=⟨h.1,hk h.2⟩
theorem Fo{v:Value}{F G:Bool→Prop}(h:zO v F)(hk:∀b,F b→G b):zO v G:=by unfold zO at*;split at h;exact hk _ h;exact h.elim
theorem jT{F G:List Value→Prop}:∀ {xs:List Operand},M9 ev xs F→(∀l,F l→G l)→M9 ev xs G:=by
 intro xs
 induction xs generalizing F G with
 |nil=>intro h hk;exact hk _ h
 |cons x xs ih=>intro h hk;exact aj h fun v h=>ih h fun l=>hk _
theorem Fp{F G:List Value→Prop}:∀ {r:List (Nat×Nat×Operand)} {z:List Value},zP ev z r F→(∀l,F l→G l)→zP ev z r G:=by
 intro r
 induction r with
 |nil=>intro z h hk;exact hk _ h
 |cons p r ih=>obtain⟨off,size,x⟩:=p;intro z h hk;exact aj h fun v h=>bG h fun h=>ih h hk
theorem pq{v:Value}{F G:Nat→Nat→Prop}(h:vH v F)(hk:∀b o,F b o→G b o):vH v G:=by obtain⟨b,o,rfl,h⟩:=eZ h;exact hk _ _ h
theorem jE{v:Value}{F G:Int→Prop}(h:BZ v F)(hk:∀b,F b→G b):BZ v G:=by obtain⟨b,o,rfl,h⟩:=gX h;exact hk _ h
theorem jU{v:Value}{F G:Option Addr→Nat→Nat→Prop}(h:oz v F)(hk:∀a n c,F a n c→G a n c):oz v G:=by obtain⟨a,n,c,rfl,h⟩:=gW h;exact hk _ _ _ h
theorem xO{v:Option Addr}{F G:Nat→Nat→Prop}(h:rU v F)(hk:∀b o,F b o→G b o):rU v G:=by obtain⟨b,o,rfl,h⟩:=mF h;exact hk _ _ h
theorem qC{v:Value}{F G:ByteArray→Prop}(h:ix v F)(hk:∀b,F b→G b):ix v G:=by obtain⟨b,rfl,h⟩:=me h;exact hk _ h
theorem PI{v:Value}{F G:List Value→Prop}(h:PJ v F)(hk:∀b,F b→G b):PJ v G:=by obtain⟨b,rfl,h⟩:=IF h;exact hk _ h
theorem PK{v:Value}{F G:List Value→Prop}(h:PL v F)(hk:∀b,F b→G b):PL v G:=by obtain⟨b,rfl,h⟩:=IG h;exact hk _ h
theorem vm{v:Value}{F G:Option Nat→Prop}(h:B0 v F)(hk:∀b,F b→G b):B0 v G:=by obtain⟨b,rfl,h⟩:=jD h;exact hk _ h
theorem PM{v:Value}{F G:Bool→Prop}(h:Na v F)(hk:∀b,F b→G b):Na v G:=by
 rcases IH h with ⟨e,h⟩| ⟨t,u,e,h⟩<;>subst e<;>exact hk _ h
theorem Jk{T:TypeId}{v:Value}{F G:Value→Prop}(h:vp T v F)(hk:∀b,F b→G b):vp T v G:=by obtain⟨b,e,h2⟩:=zQ h;subst e;exact⟨rfl,hk _ h2⟩
theorem xP{H:Hp}{size:Nat}{v:Value}{F G:Nat→List Value→Prop}(h:rowOf H size v F)(hk:∀n l,F n l→G n l):rowOf H size v G:=by
 unfold rowOf at*
 split at h
 ·rename_i a n c
  cases hn:n==0
  ·rw[hn]at h
   exact xO h fun b o h=>aj h fun l h=>bG h (hk _ _)
  ·rw[hn]at h
   exact hk _ _ h
 ·exact bG h (hk _ _)
 ·exact h.elim
theorem Dw{H:Hp}{v:Value}{F G:List UInt8→Prop}(h:tK H v F)(hk:∀b,F b→G b):tK H v G:=by
 unfold tK at*
 split at h
 ·exact xP h fun n l h=>aj h hk
 ·exact h.elim
theorem jV{x:Option Operand}{d:Nat}{F G:Int→Prop}(h:oA ev x d F)(hk:∀b,F b→G b):oA ev x d G:=by
 cases x with
 |none=>exact hk _ h
 |some x=>exact aj h fun v h=>jE h hk
theorem OH{K':Value→Hp→Prop}(i:de)(hc:i.cls= .pure)(h:i.vc P ev H K)(hk:∀v H',K v H'→K' v H'):i.vc P ev H K':=by
 cases i<;>simp[de.cls]at hc<;>simp only[de.vc]at h ⊢
 ·exact aj h fun v=>hk _ _
 ·exact aj h fun v h=>Fo h fun b h=>aj h fun v=>hk _ _
 ·exact Fp h fun l=>hk _ _
 ·exact aj h fun v h=>bG h (hk _ _)
 ·exact aj h fun v h=>aj h fun v h=>aj h fun v=>hk _ _
 ·exact aj h fun v h=>aj h fun v=>hk _ _
 ·exact aj h fun v h=>jE h fun v=>hk _ _
 ·exact aj h fun v=>hk _ _
 ·exact jT h fun l h=>jT h fun l=>hk _ _
 ·exact aj h fun v h=>jU h fun a n c h=>jV h fun m h=>jV h fun m h=>jV h fun m h=>bG h (hk _ _)
 ·exact aj h fun v h=>qC h fun s h=>jV h fun m h=>jV h fun m h=>bG h (hk _ _)
 ·exact aj h fun v h=>pq h fun b o=>hk _ _
 ·exact aj h fun v h=>PK h fun l h=>aj h fun v=>hk _ _
 ·exact aj h fun v h=>aj h fun v h=>jU h fun a n c h=>jE h fun i h=>bG h fun h=>xO h fun b o=>hk _ _
 ·exact aj h fun v h=>aj h fun v h=>pq h fun b o h=>jE h fun i h=>bG h (hk _ _)
 ·exact aj h fun v h=>aj h fun v h=>qC h fun s h=>jE h fun i h=>bG h fun h=>aj h fun b=>hk _ _
 ·exact aj h fun v h=>PI h fun l h=>aj h fun v=>hk _ _
 ·exact aj h fun v h=>jU h fun a n c=>hk _ _
 ·exact aj h fun v h=>qC h fun s=>hk _ _
 ·exact jT h fun l h=>aj h fun v=>hk _ _
 ·exact jT h fun l h=>aj h fun v=>hk _ _
 ·exact aj h fun v h=>Jk h fun v=>hk _ _
 ·exact aj h fun v h=>PM h fun v=>hk _ _
theorem RX(i:de)(hc:i.cls= .quiet)(h:i.vc P ev H K):∃v,i.vc P ev H (fun v' H'=>v'=v∧H'=H)∧K v H:=by
 cases i<;>simp[de.cls]at hc
 ·obtain⟨p,hp,h⟩:=az h
  obtain⟨b,o,rfl,h⟩:=eZ h
  obtain⟨l,hl,h⟩:=az h
  obtain⟨v,hv,h⟩:=az h
  exact⟨v,by simp only[de.vc,hp,aA,vH,hl,hv,and_self],h⟩
 ·obtain⟨p,hp,h⟩:=az h
  obtain⟨b,o,rfl,h⟩:=eZ h
  obtain⟨l,hl,h⟩:=az h
  obtain⟨hn,h⟩:=h.out
  exact⟨_,by simp only[de.vc,hp,aA,vH,hl,dW,hn,and_self],h⟩
 ·rename_i s z ok m k
  obtain⟨p,hp,h⟩:=az h
  obtain⟨q,hq,h⟩:=az h
  obtain⟨r,rfl,h⟩:=jD h
  obtain⟨hn,h⟩:=h.out
  cases r with
  |none=>exact⟨_,by simp only[de.vc,hp,hq,aA,B0,dW,hn,xm,and_self],h⟩
  |some b=>
   obtain⟨x,hx,h⟩:=az h
   obtain⟨y,hy,h⟩:=az h
   exact⟨_,by simp only[de.vc,hp,hq,aA,B0,dW,hn,xm,hx,hy,and_self],h⟩
 ·obtain⟨p,hp,h⟩:=az h
  obtain⟨r,rfl,h⟩:=jD h
  cases r with
  |none=>exact⟨_,by simp only[de.vc,hp,aA,B0,K7,and_self],h⟩
  |some b=>
   obtain⟨x,hx,h⟩:=az h
   exact⟨_,by simp only[de.vc,hp,aA,B0,K7,hx,and_self],h⟩
 ·obtain⟨p,hp,h⟩:=az h
  have key:∃l,K (.string ⟨l.toArray⟩) H∧tK H p (fun l'=>l'=l):=by
   unfold tK at*
   split at h
   ·rename_i a n c
    unfold rowOf at*
    simp only at*
    cases hn:n==0
    ·rw[hn]at h
     obtain⟨b,o,rfl,h⟩:=mF h
     obtain⟨l,hl,h⟩:=az h
     obtain⟨h1,h⟩:=h.out
     obtain⟨bs,hb,h⟩:=az h
     exact⟨bs,h,by simp only[DV,rU,aA,hl,dW,h1,hb,and_self]⟩
    ·rw[hn]at h
     have h:aA (bytesOf []) fun l=>K (.string ⟨l.toArray⟩) H:=h
     obtain⟨bs,hb,h⟩:=az h
     exact⟨bs,h,by simp only[DV,aA,hb]⟩
   ·exact h.elim
  obtain⟨l,h1,h2⟩:=key
  refine⟨_,?_,h1⟩
  simp only[de.vc,hp,aA]
  exact Dw h2 fun b e=>by rw[e];exact⟨rfl,rfl⟩
end
end Go.Vc
