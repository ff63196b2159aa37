/-
  Texts put behind each other by a program: Ac2, All.
-/
import Derived.Test.YtjlnnljohemifaaGreatK6
import Derived.Lib.ConvBytes
import Derived.Laws.AppendOwn
import Derived.Laws.Append
set_option linter.unusedVariables false
set_option linter.unusedSimpArgs false
namespace Go.Vc
section
variable {P : Program} {o : Oper} {a : Act} {ev : Ev} {H : Hp} {K : Value → Hp → Prop}
theorem Ml{t kt e:TypeId}{s:Shape}{z:Value}{x y:Operand}{ok:Bool}(bH:bR ev a)(ho:o.op= .lookup t x y ok)(ht:P.underlying t=some (.map kt e))
  (hs:cE P kt=some s)(hz:gz P e=some z)(h:(dc.lookup s z ok x y).vc P ev H K):dV P o a H K:=by
 intro w hw
 subst hw
 obtain⟨r,hx,h⟩:=mV (ba bH (ba bH h))
 obtain⟨hk,h⟩:=h.out
 cases r with
 |none=>
  refine .inl ⟨jp ok z none,w,?_,bZ.refl w,h⟩
  have hf:=lW (P:=P) (k:=a.eval y) (es:=[]) (r:=none) hs rfl w
  simp only[execOp,ho,Instr.lookup,Sem.run_bind,ap ht,Result.andThen_ok,hx,Sem.run_pure,jt hs hk,hf,cO hz]
  cases ok<;>rfl
 |some b=>
  obtain⟨m,hm,h⟩:=aC h
  obtain⟨rr,hr,h⟩:=aC h
  obtain⟨es,he,hl⟩:=FS hm
  rw[←hl]at hr
  refine .inl ⟨jp ok z (rr.map (·.2)),w,?_,bZ.refl w,h⟩
  simp only[execOp,ho,Instr.lookup,Sem.run_bind,ap ht,Result.andThen_ok,hx,Sem.run_pure,rj he,jt hs hk,lW hs hr]
  cases rr with
  |none=>simp only[cO hz,Result.andThen_ok,Sem.run_bind,Sem.run_pure];cases ok<;>rfl
  |some q=>cases ok<;>rfl
theorem Mm{t kt e:TypeId}{s:Shape}{x y z:Operand}(bH:bR ev a)(ho:o.op= .mapUpdate t x y z)(ht:P.underlying t=some (.map kt e))
  (hs:cE P kt=some s)(h:(dc.update s x y z).vc P ev H K):dV P o a H K:=by
 intro w hw
 subst hw
 obtain⟨r,hx,h⟩:=mV (ba bH (ba bH (ba bH h)))
 obtain⟨b,rfl,h⟩:=aC h
 obtain⟨hk,h⟩:=h.out
 obtain⟨m,hm,h⟩:=aC h
 obtain⟨rr,hr,h⟩:=aC h
 obtain⟨w8,h⟩:=h.out
 obtain⟨es,he,hl⟩:=FS hm
 rw[←hl]at hr
 refine .inr (.inl ⟨{w with heap:=Hp.Ey w.heap b (LO m.1 rr (a.eval y) (a.eval z) m.2) (Kp rr m.2)},?_,⟨rfl,rfl⟩,h⟩)
 simp only[execOp,ho,Instr.mapUpdate,Sem.run_bind,ap ht,Result.andThen_ok,hx,rj he,jt hs hk,lW hs hr]
 cases rr with
 |none=>
  simp only[rl he,Result.andThen_ok,Sem.run_pure,LO,Kp,←hl]
  simp
 |some q=>
  obtain⟨i,v⟩:=q
  have hb:Instr.sameBits 10000 (((es[i]?).map (·.key)).getD (a.eval y)) (a.eval y)=true:=by
   simp only[FR,←hl]at w8
   simpa using w8
  simp only[Instr.keyThatStays,hb,if_true,Sem.run_bind,Sem.run_pure,Result.andThen_ok,rl he,LO,Kp,←hl]
  simp
theorem Mn{kt e:TypeId}{s:Shape}{c:Call}{x y:Operand}(bH:bR ev a)(ho:o.op= .call c)(hc:c.callee= .builtin .delete)(nl:c.args.toList=[x,y])
  (sw:(c.argTypes[0]?).bind P.underlying=some (.map kt e))(hs:cE P kt=some s)(h:(dc.delete s x y).vc P ev H K):dV P o a H K:=by
 intro w hw
 subst hw
 obtain⟨r,hx,h⟩:=mV (ba bH (ba bH h))
 obtain⟨b,rfl,h⟩:=aC h
 obtain⟨hk,h⟩:=h.out
 obtain⟨m,hm,h⟩:=aC h
 obtain⟨rr,hr,h⟩:=aC h
 obtain⟨es,he,hl⟩:=FS hm
 rw[←hl]at hr
 have ha:c.args= #[x,y]:=Array.ext' nl
 obtain⟨t,GX,HA⟩:=Option.bind_eq_some_iff.1 sw
 refine .inl ⟨.tuple [].toArray,{w with heap:=Hp.Ey w.heap b (G9 m.1 rr) m.2},?_,⟨rfl,rfl⟩,h⟩
 simp only[execOp,ho,resolve,hc,Sem.run_bind,Sem.run_pure,Result.andThen_ok,invoke,builtin,ha,Builtin.delete_,GX]
 simp only[List.map_toArray,List.map_cons,List.map_nil,List.getElem?_toArray,List.getElem?_cons_zero,List.getElem?_cons_succ,Sem.run_bind,ap HA,Result.andThen_ok,hx,rj he,jt hs hk,lW hs hr]
 cases rr with
 |none=>simp only[Sem.run_bind,rl he,Result.andThen_ok,Sem.run_pure,G9,←hl]
 |some q=>
  obtain⟨i,v⟩:=q
  simp only[Sem.run_bind,rl he,Result.andThen_ok,Sem.run_pure,G9,←hl,Array.toList_eraseIdxIfInBounds]
theorem N9{e:TypeId}{z:Value}{c:Call}{x:Operand}(bH:bR ev a)(ho:o.op= .call c)(hc:c.callee= .builtin .clear)(nl:c.args.toList=[x])
  (sw:(c.argTypes[0]?).bind P.underlying=some (.slice e))(hz:gz P e=some z)(KL:(aJ z).length≠0)(h:(dc.JO (aJ z) x).vc P ev H K):dV P o a H K:=by
 intro w hw
 subst hw
 obtain⟨ad,n,cp,hx,h⟩:=kG (ba bH h)
 have ha:c.args= #[x]:=Array.ext' nl
 obtain⟨t,GX,HA⟩:=Option.bind_eq_some_iff.1 sw
 have NX:z.cells.toList=aJ z:=eW z
 rcases h with ⟨rfl,h⟩| ⟨hn,b,off,l,rfl,hl,h1,h2,h⟩
 ·refine .inl ⟨.tuple [].toArray,w,?_,bZ.refl w,h⟩
  simp only[execOp,ho,resolve,hc,Sem.run_bind,Sem.run_pure,Result.andThen_ok,invoke,builtin,ha,Builtin.clear_,GX]
  simp only[List.map_toArray,List.map_cons,List.map_nil,List.getElem?_toArray,List.getElem?_cons_zero,Sem.run_bind,ap HA,Result.andThen_ok,hx]
  cases ad<;>simp
 ·have e1:(Builtin.zeroCells z.cells n).toList=cQ (aJ z) n:=by
   unfold Builtin.zeroCells
   rw[C2 rfl (by rw[←NX]at KL;simpa using KL),NX]
  have bm:(cQ (aJ z) n).length=n*(aJ z).length:=by simp[cQ]
  obtain⟨w',hs,M4,hk,_⟩:=jZ (P:=P) (b:=b) (o:=off) (cQ (aJ z) n) 0 w l hl (by omega) h1
  have aS:cQ (aJ z) n≠[]:=fun e=>by
   rw[e]at bm
   simp only[List.length_nil]at bm
   rcases Nat.mul_eq_zero.1 bm.symm with h|h
   ·exact hn h
   ·exact KL h
  refine .inl ⟨.tuple [].toArray,w',?_,M4,?_⟩
  ·simp only[execOp,ho,resolve,hc,Sem.run_bind,Sem.run_pure,Result.andThen_ok,invoke,builtin,ha,Builtin.clear_,GX]
   simp only[List.map_toArray,List.map_cons,List.map_nil,List.getElem?_toArray,List.getElem?_cons_zero,Sem.run_bind,ap HA,Result.andThen_ok,hx]
   cases n with
   |zero=>exact absurd rfl hn
   |succ n=>simp[cO hz,e1,hs]
  ·rw[hk aS];exact h
theorem uI{f:FuncId}(hc:eV P f=true)(args:Array Value)(w:World):(callFunc f args).run P w= .ok (.enter f args) w:=by
 unfold eV at hc
 split at hc
 ·rename_i fn hf
  simp only[Bool.and_eq_true,bne_iff_ne,ne_eq]at hc
  obtain⟨bd,hb⟩:=Option.isSome_iff_exists.1 hc.2
  simp[callFunc,hf,hc.1,hb]
 ·cases hc
theorem Qs{f:FuncId}{c:Call}(bH:bR ev a)(ho:o.op= .call c)(hc:c.callee= .value (.func f))(hb:eV P f=true)
  (h:(dc.call f c.args.toList).vc P ev H K):dV P o a H K:=by
 intro w hw
 subst hw
 have h:=nS bH h
 refine .inr (.inr ⟨f,(c.args.map a.eval),w,?_,bZ.refl w,by simpa using h⟩)
 simp[execOp,ho,resolve,hc,Act.eval,Deferred.ofValue,invoke,uI hb]
theorem SU{f:FuncId}{c:Call}(bH:bR ev a)(ho:o.op= .call c)(hc:c.callee= .value (.func f))
  (h:(dc.ext f c.args.toList).vc P ev H K):dV P o a H K:=by
 intro w hw
 subst hw
 obtain⟨v,hv,hk⟩:=nS bH h
 refine .inl ⟨v,w,?_,bZ.refl w,hk⟩
 have OM:(callFunc f (c.args.map a.eval)).run P w= .ok (.value v) w:=by
  have h1:=hv w
  rw[show(List.map a.eval c.args.toList).toArray=c.args.map a.eval from Array.ext' (by simp)]at h1
  exact h1
 simp[execOp,ho,resolve,hc,Act.eval,Deferred.ofValue,invoke,OM]
theorem SV{f:Operand}{c:Call}(bH:bR ev a)(ho:o.op= .call c)(hc:c.callee= .value f)
  (h:(dc.dyn f c.args.toList).vc P ev H K):dV P o a H K:=by
 intro w hw
 subst hw
 have h:=nS bH (ba bH h)
 unfold Xq at h
 split at h
 ·rename_i g first captured hf
  refine .inr (.inr ⟨g,first++c.args.map a.eval++captured,w,?_,bZ.refl w,by simpa using h.2⟩)
  simp only[execOp,ho,resolve,hc,hf,Deferred.ofValue,Sem.run_bind,Sem.run_pure,Result.andThen_ok,invoke,uI h.1]
 ·exact h.elim
theorem Mo{r:Operand}{name:String}{c:Call}(bH:bR ev a)(ho:o.op= .call c)(hc:c.callee= .invoke r name)
  (h:(dc.invoke r name c.args.toList).vc P ev H K):dV P o a H K:=by
 intro w hw
 subst hw
 obtain⟨T,v,f,rv,hr,⟨Fl,hm⟩,h⟩:=nS bH (ba bH h)
 refine .inr (.inr ⟨f, #[rv]++c.args.map a.eval,w,?_,bZ.refl w,by simpa using h⟩)
 have hx:(#[Value.iface T v]++c.args.map a.eval)[0]? =some (.iface T v):=by rw[Array.getElem?_append_left (by simp)];rfl
 have vO:(#[Value.iface T v]++c.args.map a.eval).extract 1 (#[Value.iface T v]++c.args.map a.eval).size=c.args.map a.eval:=by
  apply Array.ext'
  simp only[Array.toList_extract,Array.toList_append,Array.toList_map,Array.size_append]
  simp[List.take_of_length_le]
 simp only[execOp,ho,resolve,hc,hr,Sem.run_bind,Sem.run_pure,Result.andThen_ok,invoke,hx,vO,callMethod,run_program,hm w rfl,uI Fl]
theorem pI{c:Call}{x:Operand}(ho:o.op= .call c)(hc:c.callee= .builtin .len)(nl:c.args.toList=[x]){w:World}{n:Nat}
  (hr:(Builtin.len_ c.argTypes o.type #[a.eval x]).run P w= .ok (goInt n) w):(execOp a.eval o).run P w= .ok (.value (.int .i64 n)) w:=by
 have ha:c.args= #[x]:=Array.ext' nl
 have hav:c.args.map a.eval= #[a.eval x]:=by rw[ha];simp
 simp only[execOp,ho,resolve,hc,Sem.run_bind,Sem.run_pure,Result.andThen_ok,invoke,builtin,hav,hr,goInt]
theorem Qt{c:Call}{x:Operand}{e:TypeId}(bH:bR ev a)(ho:o.op= .call c)(hc:c.callee= .builtin .len)(nl:c.args.toList=[x])
  (sw:(c.argTypes[0]?).bind P.underlying=some (.slice e))(h:(dc.bz x).vc P ev H K):dY P o a H K:=by
 obtain⟨t,GX,HA⟩:=Option.bind_eq_some_iff.1 sw
 obtain⟨ad,n,cp,hx,h⟩:=kG (ba bH h)
 refine⟨_,fun w=>pI ho hc nl (n:=n) ?_,h⟩
 simp[Builtin.len_,GX,ap HA,goInt,hx]
theorem Qu{c:Call}{x:Operand}(bH:bR ev a)(ho:o.op= .call c)(hc:c.callee= .builtin .len)(nl:c.args.toList=[x])
  (sw:(c.argTypes[0]?).bind P.underlying=some .string)(h:(dc.Uw x).vc P ev H K):dY P o a H K:=by
 obtain⟨t,GX,HA⟩:=Option.bind_eq_some_iff.1 sw
 obtain⟨s,hx,h⟩:=pH (ba bH h)
 refine⟨_,fun w=>pI ho hc nl (n:=s.size) ?_,h⟩
 simp[Builtin.len_,GX,ap HA,goInt,hx]
theorem Qv{c:Call}{x:Operand}{k e:TypeId}(bH:bR ev a)(ho:o.op= .call c)(hc:c.callee= .builtin .len)(nl:c.args.toList=[x])
  (sw:(c.argTypes[0]?).bind P.underlying=some (.map k e))(h:(dc.Ux x).vc P ev H K):dV P o a H K:=by
 intro w hw
 subst hw
 obtain⟨t,GX,HA⟩:=Option.bind_eq_some_iff.1 sw
 obtain⟨r,hx,h⟩:=mV (ba bH h)
 cases r with
 |none=>
  refine .inl ⟨_,w,pI ho hc nl (n:=0) ?_,bZ.refl w,h⟩
  simp[Builtin.len_,GX,ap HA,goInt,hx]
 |some b=>
  obtain⟨m,hm,h⟩:=aC h
  obtain⟨es,he,hl⟩:=FS hm
  refine .inl ⟨_,w,pI ho hc nl (n:=m.1.length) ?_,bZ.refl w,h⟩
  simp[Builtin.len_,GX,ap HA,goInt,hx,rj he,←hl]
theorem UE:∀ (r:List Value) (x v:Value),Ma x r=some v→∀w:World,(r.foldlM Builtin.min2 x).run P w= .ok v w:=by
 intro r
 induction r with
 |nil=>intro x v h w;injection h with h;subst h;rfl
 |cons y r ih=>
  intro x v h w
  unfold Ma at h
  split at h
  ·rename_i k p k' q
   simp[List.foldlM_cons,Builtin.min2,ih _ v h w]
  ·cases h
theorem UF:∀ (r:List Value) (x v:Value),Mb x r=some v→∀w:World,(r.foldlM Builtin.max2 x).run P w= .ok v w:=by
 intro r
 induction r with
 |nil=>intro x v h w;injection h with h;subst h;rfl
 |cons y r ih=>
  intro x v h w
  unfold Mb at h
  split at h
  ·rename_i k p k' q
   simp[List.foldlM_cons,Builtin.max2,ih _ v h w]
  ·cases h
theorem SW{c:Call}(bH:bR ev a)(ho:o.op= .call c)(hc:c.callee= .builtin .min)(h:(dc.Uy c.args.toList).vc P ev H K):dY P o a H K:=by
 obtain⟨v,hv,h⟩:=aC (nS bH h)
 refine⟨v,fun w=>?_,h⟩
 have e:(Builtin.min_ c.argTypes o.type (c.args.map a.eval)).run P w= .ok v w:=by
  unfold Builtin.min_
  rw[Array.toList_map]
  cases hl:c.args.toList.map a.eval with
  |nil=>rw[hl]at hv;cases hv
  |cons x r=>rw[hl]at hv;exact UE r x v hv w
 simp only[execOp,ho,resolve,hc,Sem.run_bind,Sem.run_pure,Result.andThen_ok,invoke,builtin,e]
theorem SX{c:Call}(bH:bR ev a)(ho:o.op= .call c)(hc:c.callee= .builtin .max)(h:(dc.Pb c.args.toList).vc P ev H K):dY P o a H K:=by
 obtain⟨v,hv,h⟩:=aC (nS bH h)
 refine⟨v,fun w=>?_,h⟩
 have e:(Builtin.max_ c.argTypes o.type (c.args.map a.eval)).run P w= .ok v w:=by
  unfold Builtin.max_
  rw[Array.toList_map]
  cases hl:c.args.toList.map a.eval with
  |nil=>rw[hl]at hv;cases hv
  |cons x r=>rw[hl]at hv;exact UF r x v hv w
 simp only[execOp,ho,resolve,hc,Sem.run_bind,Sem.run_pure,Result.andThen_ok,invoke,builtin,e]
theorem Bg{H:Hp}{size:Nat}{v:Value}{F:Nat→List Value→Prop}(h:rowOf H size v F):
  ∃ (n:Nat) (l:List Value),F n l∧(∀w:World,(Builtin.lenOf v).run P w= .ok n w)∧(∀w:World,w.heap=H→(Builtin.firstCells size n v).run P w= .ok l.toArray w)∧l.length=n*size∧
   (∀b m c,v= .slice b m c→m=n):=by
 unfold rowOf at h
 split at h
 ·rename_i a n c
  by_cases PD:n=0
  ·subst PD
   refine⟨0,[],h,fun _=>rfl,fun w hw=>?_,by simp,fun _ _ _ e=>by injection e with _ e _;exact e.symm⟩
   cases a with
   |none=>rfl
   |some a=>simp only[Builtin.firstCells,Nat.zero_mul];rfl
  ·have e0:(n==0)=false:=by simpa using PD
   rw[e0]at h
   obtain⟨b,off,rfl,h1⟩:=qF (F:=fun b o=>aE (H.rd b) fun l=>eC (o+n*size≤l.length) (F n ((l.drop o).take (n*size)))) h
   obtain⟨l,hl,h2⟩:=aC h1
   obtain⟨hn,h3⟩:=h2.out
   refine⟨n,_,h3,fun _=>rfl,fun w hw=>?_,by simp;omega,fun _ _ _ e=>by injection e with _ e _;exact e.symm⟩
   subst hw
   exact tA (P:=P) (a:=⟨b,off,none⟩) rfl hl hn
 ·rename_i s
  obtain⟨e1,h2⟩:=h.out
  subst e1
  refine⟨s.size,_,h2,fun _=>rfl,fun w _=>?_,?_,fun _ _ _ e=>by cases e⟩
  ·simp only[Builtin.firstCells,Sem.run_pure]
   congr 1
   apply Array.ext'
   have:s.extract 0 s.size=s:=by
    apply ByteArray.ext
    simp
   rw[this]
   simp
  ·rw[List.length_map,Nat.mul_one,Array.length_toList];rfl
 ·exact h.elim
theorem Ky{s t e:TypeId}{x:Operand}(bH:bR ev a)(ho:o.op= .convert s t x)(hs:P.underlying s=some .string)(ht:P.underlying t=some (.slice e))(he:P.underlying e=some (.int .u8))
  (h:(dc.Kt e x).vc P ev H K):dV P o a H K:=by
 intro w hw
 subst hw
 have h:=ba bH h
 unfold lU at h
 split at h
 ·rename_i bs hx
  have hr:=Lib.run_convert_string_bytes (P:=P) w s t e bs hs ht he
  have RX:=grownCap_ge w bs.size 0 e
  refine .inl ⟨.slice (some ⟨w.heap.size,0,none⟩) bs.size (grownCap w bs.size 0 e),Lib.bytesWorld w e bs,?_,⟨rfl,rfl⟩,?_⟩
  ·simp only[execOp,ho]
   rw[hx]at*
   simp only[Sem.run_bind,hr,Result.andThen_ok,Sem.run_pure]
  ·have hk:=h _ RX
   have e1:(Lib.bytesWorld w e bs).heap=Hp.NM w.heap e ((bs.data.toList.map fun b=>.int .u8 b.toNat)++List.replicate (grownCap w bs.size 0 e - bs.size) (.int .u8 0)):=by
    apply Array.ext_getElem?
    intro i
    rcases Nat.lt_trichotomy i w.heap.size with hi|hi|hi
    ·rw[Lib.bytesWorld_at_old w e bs i hi,LZ _ _ _ hi]
    ·subst hi
     rw[Lib.bytesWorld_at_new]
     simp[Hp.NM,Lib.bytesCells]
    ·rw[Array.getElem?_eq_none (by rw[Lib.bytesWorld_size];omega),Array.getElem?_eq_none (by rw[Qj];omega)]
   rw[e1]
   exact hk
 ·exact h.elim
theorem Oa:∀ (l:List Value) (bs:List UInt8),bytesOf l=some bs→∀ (s:ByteArray) (w:World),
  (forIn l s fun c (s:ByteArray)=>(match c with| .int .u8 n=>pure (ForInStep.yield (s.push (UInt8.ofNat n.toNat)))|_=>(do stuck "bytesToString: byte expected";pure (ForInStep.yield s)):Sem (ForInStep ByteArray))).run P w= .ok ⟨s.data++bs.toArray⟩ w:=by
 intro l
 induction l with
 |nil=>intro bs h s w;simp only[bytesOf,Option.some.injEq]at h;subst h;simp
 |cons v l ih=>
  intro bs h s w
  cases v with
  |int k n=>
   cases k with
   |u8=>
    simp only[bytesOf]at h
    cases hb:bytesOf l with
    |none=>rw[hb]at h;cases h
    |some r=>
     rw[hb]at h
     simp only[Option.map_some,Option.some.injEq]at h
     subst h
     simp only[List.forIn_cons,Sem.run_bind,Sem.run_pure,Result.andThen_ok]
     rw[ih r hb]
     congr 1
     apply ByteArray.ext
     apply Array.ext'
     simp[ByteArray.push]
   |_=>simp[bytesOf]at h
  |_=>simp[bytesOf]at h
theorem Ob{s t e:TypeId}{x:Operand}(bH:bR ev a)(ho:o.op= .convert s t x)(hs:P.underlying s=some (.slice e))(ht:P.underlying t=some .string)(he:P.underlying e=some (.int .u8))
  (h:(dc.OY x).vc P ev H K):dV P o a H K:=by
 intro w hw
 subst hw
 have h:=ba bH h
 unfold xG at h
 split at h
 ·rename_i ad n c hx
  obtain⟨m,l,h,h1,h2,h3,h4⟩:=Bg (P:=P) h
  obtain⟨bs,hb,h⟩:=aC h
  refine .inl ⟨_,w,?_,bZ.refl w,h⟩
  have hm:n=m:=h4 _ _ _ rfl
  subst hm
  have h5:=h2 w rfl
  have key:(Conv.bytesToString (.slice ad n c)).run P w= .ok (.string ⟨bs.toArray⟩) w:=by
   cases ad with
   |none=>
    simp only[Builtin.firstCells,Sem.run_pure,Result.ok.injEq,and_true]at h5
    have hl:l=[]:=by
     have:=congrArg Array.toList h5
     simpa using this.symm
    subst hl
    simp only[bytesOf,Option.some.injEq]at hb
    subst hb
    rfl
   |some ad=>
    simp only[Builtin.firstCells,Nat.mul_one]at h5
    simp only[Conv.bytesToString,Sem.run_bind,h5,Result.andThen_ok]
    rw[List.forIn_toArray]
    refine(congrArg (fun r=>Result.andThen r fun a w'=>Sem.run P (pure (Value.string a)) w') (Oa (P:=P) l bs hb ByteArray.empty w)).trans ?_
    simp only[Result.andThen_ok,Sem.run_pure]
    congr 3
    simp
  simp only[execOp,ho,convert,hx,Sem.run_bind,ap hs,ap ht,ap he,Result.andThen_ok,key]
  rfl
 ·exact h.elim
theorem Vv{d:TypeDesc}(hd:Ha d=true):(∃e,d= .slice e)∨d= .string:=by
 cases d<;>first|exact .inl ⟨_,rfl⟩|exact .inr rfl| (cases hd)
theorem IT{Xv:Array TypeId}{ty t t' e:TypeId}{d:TypeDesc}{w:World}{base:Option Addr}{n cap m:Nat}{y:Value}{new:Array Value}(GX:Xv[0]? =some t)(Qw:Xv[1]? =some t')
  (HA:P.underlying t=some (.slice e))(Ec:P.underlying t'=some d)(hd:Ha d=true)(hi:(P.info? e).isSome=true)
  (bm:(Builtin.lenOf y).run P w= .ok m w)(zm:(Builtin.firstCells (P.cellsOf e) m y).run P w= .ok new w)(Bu:n+m≤cap):
  (Builtin.append_ Xv ty #[.slice base n cap,y]).run P w=
   ((match base with|some a=>storeCells (a.add (n*P.cellsOf e)) new.toList|none=>(pure ():Sem Unit)).run P w).andThen fun _ w'=>.ok (.slice base (n+m) cap) w':=by
 rcases Vv hd with ⟨e',rfl⟩|rfl<;>unfold Builtin.append_<;>
 simp only[List.getElem?_toArray,List.getElem?_cons_zero,List.getElem?_cons_succ,GX,Qw,Sem.run_bind,ap HA,ap Ec,Result.andThen_ok,bL hi,Sem.run_pure,bm,Bool.false_eq_true,if_false,if_pos Bu,Bool.not_false,if_true,zm]<;>
 cases base<;>simp only[Sem.run_pure,Result.andThen_ok,Sem.run_bind]
theorem Hm{Xv:Array TypeId}{ty t t' e:TypeId}{d:TypeDesc}{w:World}{base:Option Addr}{n cap m:Nat}{y z:Value}{new Sp:Array Value}(GX:Xv[0]? =some t)(Qw:Xv[1]? =some t')
  (HA:P.underlying t=some (.slice e))(Ec:P.underlying t'=some d)(hd:Ha d=true)(hi:(P.info? e).isSome=true)(hz:gz P e=some z)
  (bm:(Builtin.lenOf y).run P w= .ok m w)(zm:(Builtin.firstCells (P.cellsOf e) m y).run P w.drew= .ok new w.drew)
  (hold:(Builtin.firstCells (P.cellsOf e) n (.slice base n cap)).run P w.drew= .ok Sp w.drew)
  (Bu:cap<n+m)(hb:Builtin.nextslicecap (n+m) cap*P.bytesOf e≤2^48)(RB:P.bytesOf e≠0):
  ∃c',n+m≤c'∧(Builtin.append_ Xv ty #[.slice base n cap,y]).run P w=
   .ok (.slice (some ⟨w.heap.size,0,none⟩) (n+m) c') {w with drawn:=w.drawn+1,heap:=Hp.new w.heap e ((Sp++new++Builtin.zeroCells z.cells (c' - (n+m))).toList)}:=by
 obtain⟨inf,abn⟩:=Option.isSome_iff_exists.1 hi
 have Xw:inf.bytes=P.bytesOf e:=by simp[Program.bytesOf,abn]
 refine⟨(Question.appendCap (n+m) cap e).cut (w.tape w.drawn (.appendCap (n+m) cap e)),by simp[Question.cut],?_⟩
 have aS:n+m≤2^48:=by
  have h1:=le_nextslicecap Bu
  have h2:Builtin.nextslicecap (n+m) cap≤Builtin.nextslicecap (n+m) cap*P.bytesOf e:=Nat.le_mul_of_pos_right _ (by omega)
  omega
 have cw:¬ (9223372036854775807< ((n:Int)+(m:Int))):=by omega
 have afM:¬ (281474976710656<Builtin.nextslicecap (n+m) cap*P.bytesOf e):=by omega
 have hn:¬ (n+m≤cap):=by omega
 rcases Vv hd with ⟨e',rfl⟩|rfl<;>
  simp[Builtin.append_,GX,Qw,ap HA,ap Ec,bL hi,bm,hn,et abn,Xw,RB,afM,Question.forced,cO hz,hold,zm,nT]<;>
  exact⟨rfl,rfl,rfl⟩
theorem Mp{c:Call}{e:TypeId}{d:TypeDesc}{z:Value}{x y:Operand}(bH:bR ev a)(ho:o.op= .call c)(hc:c.callee= .builtin .append)(nl:c.args.toList=[x,y])
  (sw:(c.argTypes[0]?).bind P.underlying=some (.slice e))(afN:(c.argTypes[1]?).bind P.underlying=some d)(hd:Ha d=true)(hz:gz P e=some z)(hi:(P.info? e).isSome=true)
  (h0:P.cellsOf e≠0)(hl:(aJ z).length=P.cellsOf e)(RB:P.bytesOf e≠0)(h:(dc.append e (P.cellsOf e) (P.bytesOf e) (aJ z) x y).vc P ev H K):dV P o a H K:=by
 intro w hw
 subst hw
 have ha:c.args= #[x,y]:=Array.ext' nl
 obtain⟨t,GX,HA⟩:=Option.bind_eq_some_iff.1 sw
 obtain⟨t',Qw,Ec⟩:=Option.bind_eq_some_iff.1 afN
 have NX:z.cells.toList=aJ z:=eW z
 have Oy:z.cells.size=P.cellsOf e:=by rw[←hl,←NX];simp
 obtain⟨base,n,cap,hx,h⟩:=kG (ba bH (ba bH h))
 have h':=h
 obtain⟨m,new,h,bm,zm,Yi,_⟩:=Bg (P:=P) h
 obtain⟨hA,hB,hC⟩:=h
 have hav:c.args.map a.eval= #[.slice base n cap,a.eval y]:=by rw[ha];simp[hx]
 have pre:∀v w',(Builtin.append_ c.argTypes o.type #[.slice base n cap,a.eval y]).run P w= .ok v w'→(execOp a.eval o).run P w= .ok (.value v) w':=by
  intro v w' hr
  simp only[execOp,ho,resolve,hc,Sem.run_bind,Sem.run_pure,Result.andThen_ok,invoke,builtin,hav,hr]
 by_cases Bu:n+m≤cap
 ·have hr:=IT (ty:=o.type) (base:=base) GX Qw HA Ec hd hi (bm w) (zm w rfl) Bu
  by_cases hm:m=0
  ·subst hm
   have PD:new=[]:=List.length_eq_zero_iff.1 (by omega)
   subst PD
   refine .inl ⟨_,w,pre _ w ?_,bZ.refl w,hA Bu rfl⟩
   rw[hr]
   cases base<;>simp[storeCells]
  ·obtain⟨b,off,rfl,hB⟩:=qF (hB Bu hm)
   obtain⟨l,Np,hB⟩:=aC hB
   obtain⟨⟨h1,h2⟩,hB⟩:=hB.out
   obtain⟨w',hs,M4,hk,_⟩:=jZ (P:=P) (b:=b) (o:=off+n*P.cellsOf e) new 0 w l Np (by rw[Nat.add_mul]at h1;omega) h2
   have aS:new≠[]:=fun e'=>by
    rw[e']at Yi
    rcases Nat.mul_eq_zero.1 Yi.symm with h|h
    ·exact hm h
    ·exact h0 h
   refine .inl ⟨_,w',pre _ w' ?_,M4,hk aS▸hB⟩
   rw[hr]
   simp only[AQ,List.toList_toArray,hs,Result.andThen_ok]
 ·obtain⟨hb,hC⟩:=hC (by omega)
  rw[hx]at hC
  obtain⟨n',Sp,hC,_,hold,hol,hn'⟩:=Bg (P:=P) hC
  have:n=n':=hn' _ _ _ rfl
  subst this
  obtain⟨c',KU,hr⟩:=Hm (ty:=o.type) (base:=base) GX Qw HA Ec hd hi hz (bm w) (zm w.drew rfl) (hold w.drew rfl) (by omega) hb RB
  refine .inl ⟨_,_,pre _ _ hr,⟨rfl,rfl⟩,?_⟩
  have e1:(Sp.toArray++new.toArray++Builtin.zeroCells z.cells (c' - (n+m))).toList=Sp++new++cQ (aJ z) (c' - (n+m)):=by
   rw[Array.toList_append,Array.toList_append]
   congr 1
   unfold Builtin.zeroCells
   rw[C2 rfl (by omega),NX]
  rw[e1]
  exact hC c' KU
end
end Go.Vc

namespace Go.Vc
def dc.cls:dc→Lo
 | .di _| .pick .. | .build .. | .nilCheck _| .aD .. | .un .. | .conv .. | .iface .. | .func .. | .slice .. | .Kq .. | .fieldAddr .. | .field .. | .indexAddr .. | .dB .. | .Ks .. | .extract ..
 | .bz _| .Uw _| .Uy _| .Pb _| .Ga .. | .Uz .. =>.pure
 | .gC _| .uR .. | .lookup .. | .Ux _| .OY _=>.quiet
 |_=>.Ii
section
variable {P : Program} {o : Oper} {a : Act} {ev : Ev} {H : Hp} {K : Value → Hp → Prop}
theorem sound(i:dc)(hd:Jq P o=some i)(bH:bR ev a)(h:i.vc P ev H K):(i.cls= .pure→dY P o a H K)∧dV P o a H K:=by
 have mk:dY P o a H K→(i.cls= .pure→dY P o a H K)∧dV P o a H K:=fun hp=>⟨fun _=>hp,hp.afF⟩
 have mk':i.cls≠ .pure→dV P o a H K→(i.cls= .pure→dY P o a H K)∧dV P o a H K:=fun hn hp=>⟨fun e=>absurd e hn,hp⟩
 unfold Jq at hd
 split at hd
 ·rename_i x ho;injection hd with hd;subst hd;exact mk (Me bH (.inl ho) h)
 ·rename_i x ho;injection hd with hd;subst hd;exact mk (Me bH (.inr ho) h)
 ·rename_i c x y ho;injection hd with hd;subst hd;exact mk (Qn bH ho h)
 ·rename_i T x ho;injection hd with hd;subst hd;exact mk' (by simp[dc.cls]) (ST bH ho h)
 ·rename_i T ho
  cases hz:gz P T with
  |none=>rw[hz]at hd;cases hd
  |some z=>rw[hz]at hd;injection hd with hd;subst hd;exact mk' (by simp[dc.cls]) (Qr hz ho h)
 ·rename_i t ps ho
  cases hz:gz P t with
  |none=>rw[hz]at hd;cases hd
  |some z=>
   rw[hz,Option.bind_some]at hd
   cases hq:parts P t (aJ z).length ps.toList with
   |none=>rw[hq]at hd;cases hd
   |some qs=>rw[hq]at hd;injection hd with hd;subst hd;exact mk (NW bH ho hz hq h)
 ·rename_i t n ps ho
  split at hd
  ·rename_i e hu
   cases hz:gz P e with
   |none=>rw[hz]at hd;cases hd
   |some z=>
    rw[hz,Option.bind_some]at hd
    split at hd
    ·rename_i hc
     cases hq:ni (fun i=>some (i*P.cellsOf e,P.cellsOf e)) (n*P.cellsOf e) ps.toList with
     |none=>rw[hq]at hd;cases hd
     |some qs=>rw[hq]at hd;injection hd with hd;subst hd;exact mk' (by simp[dc.cls]) (SS bH ho hu hz hc.1 hc.2.1 hc.2.2.1 hc.2.2.2 hq h)
    ·cases hd
  ·cases hd
 ·rename_i t x ho
  split at hd
  ·rename_i hc
   split at hd
   ·rename_i hg;injection hd with hd;subst hd;exact mk' (by simp[dc.cls]) (NZ bH ho hc.1 hc.2 hg h)
   ·rename_i hg;injection hd with hd;subst hd;exact mk' (by simp[dc.cls]) (NY bH ho hc.1 hc.2 (by simpa using hg) h)
  ·cases hd
 ·rename_i t x y ho
  split at hd
  ·rename_i hc;injection hd with hd;subst hd;exact mk' (by simp[dc.cls]) (N0 bH ho hc.1 hc.2 h)
  ·cases hd
 ·rename_i x ho;injection hd with hd;subst hd;exact mk (IR bH ho h)
 ·rename_i op t x y t' ho
  split at hd
  ·split at hd
   ·rename_i ms hu;injection hd with hd;subst hd;exact mk (Jr bH ho hu (.inl ⟨rfl,rfl⟩) h)
   ·cases hs:shapeOf P fC t with
    |none=>rw[hs]at hd;cases hd
    |some s=>
     rw[hs,Option.bind_some]at hd
     split at hd
     ·rename_i hc;injection hd with hd;subst hd;exact mk (Hd bH ho (fun _=>⟨hs,hc⟩) h)
     ·cases hd
  ·split at hd
   ·rename_i ms hu;injection hd with hd;subst hd;exact mk (Jr bH ho hu (.inr ⟨rfl,rfl⟩) h)
   ·cases hs:shapeOf P fC t with
    |none=>rw[hs]at hd;cases hd
    |some s=>
     rw[hs,Option.bind_some]at hd
     split at hd
     ·rename_i hc;injection hd with hd;subst hd;exact mk (Hd bH ho (fun _=>⟨hs,hc⟩) h)
     ·cases hd
  ·rename_i h1 h2
   injection hd with hd;subst hd;exact mk (Hd bH ho (fun he=>by rcases he with he|he<;>first|exact absurd he h1|exact absurd he h2) h)
 ·rename_i op t x ho;injection hd with hd;subst hd;exact mk (UD bH ho h)
 ·rename_i s t x ho
  split at hd
  ·rename_i k' k h1 h2;injection hd with hd;subst hd;exact mk (Qo bH ho h1 h2 h)
  ·rename_i e h1 h2
   split at hd
   ·rename_i h3;injection hd with hd;subst hd;exact mk' (by simp[dc.cls]) (Ob bH ho h1 h2 h3 h)
   ·cases hd
  ·rename_i e h1 h2
   split at hd
   ·rename_i h3;injection hd with hd;subst hd;exact mk' (by simp[dc.cls]) (Ky bH ho h1 h2 h3 h)
   ·cases hd
  ·cases hd
 ·rename_i t x ho
  split at hd
  ·cases hd
  ·rename_i d hu hn;injection hd with hd;subst hd;exact mk (NT bH ho hn (fun ms e=>hu ms (by rw[e])) h)
  ·cases hd
 ·rename_i fn first captured ho;injection hd with hd;subst hd;exact mk (Qp bH ho h)
 ·rename_i t ho;injection hd with hd;subst hd;exact mk' (by simp[dc.cls]) (Mk ho h)
 ·rename_i t x y ho
  split at hd
  ·rename_i e hu
   cases hz:gz P e with
   |none=>rw[hz]at hd;cases hd
   |some z=>
    rw[hz,Option.bind_some]at hd
    split at hd
    ·rename_i hc;injection hd with hd;subst hd;exact mk' (by simp[dc.cls]) (Hi bH ho hu hz hc.1 hc.2.1 hc.2.2 h)
    ·cases hd
  ·cases hd
 ·rename_i t x lo hi mx ho
  split at hd
  ·rename_i e hu
   split at hd
   ·rename_i hc;injection hd with hd;subst hd;exact mk (NV bH ho hu hc.1 (fun hm=>hc.2.elim (fun h1=>by cases mx<;>simp_all) id) h)
   ·cases hd
  ·rename_i hu
   split at hd
   ·rename_i hc;injection hd with hd;subst hd
    cases mx with
    |none=>exact mk (Mi bH ho hu h)
    |some m=>simp at hc
   ·cases hd
  ·cases hd
 ·rename_i s x f ho
  split at hd
  ·rename_i fields hu
   cases hf:fields[f]? with
   |none=>rw[hf]at hd;cases hd
   |some fd=>
    rw[hf,Option.bind_some]at hd
    split at hd
    ·rename_i hc;injection hd with hd;subst hd;exact mk (He bH ho hu hf hc.1 hc.2 h)
    ·cases hd
  ·cases hd
 ·rename_i t x f ho
  split at hd
  ·rename_i fields hu
   cases hf:fields[f]? with
   |none=>rw[hf]at hd;cases hd
   |some fd=>
    rw[hf,Option.bind_some]at hd
    split at hd
    ·rename_i hc;injection hd with hd;subst hd;exact mk (NU bH ho hu hf hc.1 hc.2 h)
    ·cases hd
  ·cases hd
 ·rename_i t x i' ho
  split at hd
  ·rename_i e hu
   split at hd
   ·rename_i hc;injection hd with hd;subst hd;exact mk (Hf bH ho hu hc h)
   ·cases hd
  ·rename_i n e hu
   split at hd
   ·rename_i hc;injection hd with hd;subst hd;exact mk (IS bH ho hu hc h)
   ·cases hd
  ·cases hd
 ·rename_i t x i' ho
  split at hd
  ·rename_i hu;injection hd with hd;subst hd;exact mk (Mh bH ho hu h)
  ·cases hd
 ·rename_i t x i' ok ho
  split at hd
  ·rename_i k e hu
   cases hs:cE P k with
   |none=>rw[hs]at hd;cases hd
   |some s=>
    rw[hs,Option.bind_some]at hd
    cases hz:gz P e with
    |none=>rw[hz]at hd;cases hd
    |some z=>rw[hz]at hd;injection hd with hd;subst hd;exact mk' (by simp[dc.cls]) (Ml bH ho hu hs hz h)
  ·cases hd
 ·rename_i t m k v ho
  split at hd
  ·rename_i kt e hu
   cases hs:cE P kt with
   |none=>rw[hs]at hd;cases hd
   |some s=>rw[hs]at hd;injection hd with hd;subst hd;exact mk' (by simp[dc.cls]) (Mm bH ho hu hs h)
  ·cases hd
 ·rename_i x i' ho;injection hd with hd;subst hd;exact mk (Kv bH ho h)
 ·rename_i x s T ho
  split at hd
  ·cases hd
  ·rename_i d hu hn;injection hd with hd;subst hd;exact mk (Mf bH ho hn (fun ms e=>hu ms (by rw[e])) h)
  ·cases hd
 ·rename_i c ho
  split at hd
  ·rename_i f hc
   split at hd
   ·rename_i hb;injection hd with hd;subst hd;exact mk' (by simp[dc.cls]) (Qs bH ho hc hb h)
   ·injection hd with hd;subst hd;exact mk' (by simp[dc.cls]) (SU bH ho hc h)
  ·rename_i x hx hc;injection hd with hd;subst hd;exact mk' (by simp[dc.cls]) (SV bH ho hc h)
  ·rename_i r name hc;injection hd with hd;subst hd;exact mk' (by simp[dc.cls]) (Mo bH ho hc h)
  ·rename_i hc
   split at hd
   ·rename_i x e h1 h2;injection hd with hd;subst hd;exact mk (Qt bH ho hc h1 h2 h)
   ·rename_i x h1 h2;injection hd with hd;subst hd;exact mk (Qu bH ho hc h1 h2 h)
   ·rename_i x k e h1 h2;injection hd with hd;subst hd;exact mk' (by simp[dc.cls]) (Qv bH ho hc h1 h2 h)
   ·cases hd
  ·rename_i hc
   split at hd
   ·rename_i x y e d h1 h2 h3
    cases hz:gz P e with
    |none=>rw[hz]at hd;cases hd
    |some z=>
     rw[hz,Option.bind_some]at hd
     split at hd
     ·rename_i hq;injection hd with hd;subst hd;exact mk' (by simp[dc.cls]) (Mp bH ho hc h1 h2 h3 hq.2.2.2.2 hz hq.1 hq.2.1 hq.2.2.1 hq.2.2.2.1 h)
     ·cases hd
   ·cases hd
  ·rename_i hc
   split at hd
   ·rename_i m k kt e h1 h2
    cases hs:cE P kt with
    |none=>rw[hs]at hd;cases hd
    |some s=>rw[hs]at hd;injection hd with hd;subst hd;exact mk' (by simp[dc.cls]) (Mn bH ho hc h1 h2 hs h)
   ·cases hd
  ·rename_i hc
   split at hd
   ·rename_i x e h1 h2
    cases hz:gz P e with
    |none=>rw[hz]at hd;cases hd
    |some z=>
     rw[hz,Option.bind_some]at hd
     split at hd
     ·rename_i hq;injection hd with hd;subst hd;exact mk' (by simp[dc.cls]) (N9 bH ho hc h1 h2 hz hq h)
     ·cases hd
   ·cases hd
  ·rename_i hc;injection hd with hd;subst hd;exact mk (SW bH ho hc h)
  ·rename_i hc;injection hd with hd;subst hd;exact mk (SX bH ho hc h)
  ·cases hd
 ·cases hd
theorem ak{α:Type}{o:Option α}{F G:α→Prop}(h:aE o F)(hk:∀v,F v→G v):aE o G:=by cases o;exact h;exact hk _ h
theorem bO{c F G:Prop}(h:eC c F)(hk:F→G):eC c G:=⟨h.1,hk h.2⟩
theorem Hn{v:Value}{F G:Bool→Prop}(h:CW v F)(hk:∀b,F b→G b):CW v G:=by unfold CW at*;split at h;exact hk _ h;exact h.elim
theorem nV{F G:List Value→Prop}:∀ {xs:List Operand},NQ ev xs F→(∀l,F l→G l)→NQ ev xs G:=by
 intro xs
 induction xs generalizing F G with
 |nil=>intro h hk;exact hk _ h
 |cons x xs ih=>intro h hk;exact ak h fun v h=>ih h fun l=>hk _
theorem Ho{F G:List Value→Prop}:∀ {r:List (Nat×Nat×Operand)} {z:List Value},CY ev z r F→(∀l,F l→G l)→CY ev z r G:=by
 intro r
 induction r with
 |nil=>intro z h hk;exact hk _ h
 |cons p r ih=>obtain⟨off,size,x⟩:=p;intro z h hk;exact ak h fun v h=>bO h fun h=>ih h hk
theorem tB{v:Value}{F G:Nat→Nat→Prop}(h:zv v F)(hk:∀b o,F b o→G b o):zv v G:=by obtain⟨b,o,rfl,h⟩:=fM h;exact hk _ _ h
theorem mW{v:Value}{F G:Int→Prop}(h:Ep v F)(hk:∀b,F b→G b):Ep v G:=by obtain⟨b,o,rfl,h⟩:=kF h;exact hk _ h
theorem nX{v:Value}{F G:Option Addr→Nat→Nat→Prop}(h:sm v F)(hk:∀a n c,F a n c→G a n c):sm v G:=by obtain⟨a,n,c,rfl,h⟩:=kG h;exact hk _ _ _ h
theorem Bh{v:Option Addr}{F G:Nat→Nat→Prop}(h:xC v F)(hk:∀b o,F b o→G b o):xC v G:=by obtain⟨b,o,rfl,h⟩:=qF h;exact hk _ _ h
theorem uJ{v:Value}{F G:ByteArray→Prop}(h:lU v F)(hk:∀b,F b→G b):lU v G:=by obtain⟨b,rfl,h⟩:=pH h;exact hk _ h
theorem Qx{v:Value}{F G:List Value→Prop}(h:Ql v F)(hk:∀b,F b→G b):Ql v G:=by obtain⟨b,rfl,h⟩:=Jn h;exact hk _ h
theorem Qy{v:Value}{F G:List Value→Prop}(h:Qm v F)(hk:∀b,F b→G b):Qm v G:=by obtain⟨b,rfl,h⟩:=Jo h;exact hk _ h
theorem ya{v:Value}{F G:Option Nat→Prop}(h:Er v F)(hk:∀b,F b→G b):Er v G:=by obtain⟨b,rfl,h⟩:=mV h;exact hk _ h
theorem Qz{v:Value}{F G:Bool→Prop}(h:NR v F)(hk:∀b,F b→G b):NR v G:=by
 rcases Jp h with ⟨e,h⟩| ⟨t,u,e,h⟩<;>subst e<;>exact hk _ h
theorem Kz{T:TypeId}{v:Value}{F G:Value→Prop}(h:xY T v F)(hk:∀b,F b→G b):xY T v G:=by obtain⟨b,e,h2⟩:=CZ h;subst e;exact⟨rfl,hk _ h2⟩
theorem Bi{H:Hp}{size:Nat}{v:Value}{F G:Nat→List Value→Prop}(h:rowOf H size v F)(hk:∀n l,F n l→G n l):rowOf H size v G:=by
 unfold rowOf at*
 split at h
 ·rename_i a n c
  cases hn:n==0
  ·rw[hn]at h
   exact Bh h fun b o h=>ak h fun l h=>bO h (hk _ _)
  ·rw[hn]at h
   exact hk _ _ h
 ·exact bO h (hk _ _)
 ·exact h.elim
theorem EN{H:Hp}{v:Value}{F G:List UInt8→Prop}(h:xG H v F)(hk:∀b,F b→G b):xG H v G:=by
 unfold xG at*
 split at h
 ·exact Bi h fun n l h=>ak h hk
 ·exact h.elim
theorem nY{x:Option Operand}{d:Nat}{F G:Int→Prop}(h:sr ev x d F)(hk:∀b,F b→G b):sr ev x d G:=by
 cases x with
 |none=>exact hk _ h
 |some x=>exact ak h fun v h=>mW h hk
theorem OZ{K':Value→Hp→Prop}(i:dc)(hc:i.cls= .pure)(h:i.vc P ev H K)(hk:∀v H',K v H'→K' v H'):i.vc P ev H K':=by
 cases i<;>simp[dc.cls]at hc<;>simp only[dc.vc]at h ⊢
 ·exact ak h fun v=>hk _ _
 ·exact ak h fun v h=>Hn h fun b h=>ak h fun v=>hk _ _
 ·exact Ho h fun l=>hk _ _
 ·exact ak h fun v h=>bO h (hk _ _)
 ·exact ak h fun v h=>ak h fun v h=>ak h fun v=>hk _ _
 ·exact ak h fun v h=>ak h fun v=>hk _ _
 ·exact ak h fun v h=>mW h fun v=>hk _ _
 ·exact ak h fun v=>hk _ _
 ·exact nV h fun l h=>nV h fun l=>hk _ _
 ·exact ak h fun v h=>nX h fun a n c h=>nY h fun m h=>nY h fun m h=>nY h fun m h=>bO h (hk _ _)
 ·exact ak h fun v h=>uJ h fun s h=>nY h fun m h=>nY h fun m h=>bO h (hk _ _)
 ·exact ak h fun v h=>tB h fun b o=>hk _ _
 ·exact ak h fun v h=>Qy h fun l h=>ak h fun v=>hk _ _
 ·exact ak h fun v h=>ak h fun v h=>nX h fun a n c h=>mW h fun i h=>bO h fun h=>Bh h fun b o=>hk _ _
 ·exact ak h fun v h=>ak h fun v h=>tB h fun b o h=>mW h fun i h=>bO h (hk _ _)
 ·exact ak h fun v h=>ak h fun v h=>uJ h fun s h=>mW h fun i h=>bO h fun h=>ak h fun b=>hk _ _
 ·exact ak h fun v h=>Qx h fun l h=>ak h fun v=>hk _ _
 ·exact ak h fun v h=>nX h fun a n c=>hk _ _
 ·exact ak h fun v h=>uJ h fun s=>hk _ _
 ·exact nV h fun l h=>ak h fun v=>hk _ _
 ·exact nV h fun l h=>ak h fun v=>hk _ _
 ·exact ak h fun v h=>Kz h fun v=>hk _ _
 ·exact ak h fun v h=>Qz h fun v=>hk _ _
theorem SY(i:dc)(hc:i.cls= .quiet)(h:i.vc P ev H K):∃v,i.vc P ev H (fun v' H'=>v'=v∧H'=H)∧K v H:=by
 cases i<;>simp[dc.cls]at hc
 ·obtain⟨p,hp,h⟩:=aC h
  obtain⟨b,o,rfl,h⟩:=fM h
  obtain⟨l,hl,h⟩:=aC h
  obtain⟨v,hv,h⟩:=aC h
  exact⟨v,by simp only[dc.vc,hp,aE,zv,hl,hv,and_self],h⟩
 ·obtain⟨p,hp,h⟩:=aC h
  obtain⟨b,o,rfl,h⟩:=fM h
  obtain⟨l,hl,h⟩:=aC h
  obtain⟨hn,h⟩:=h.out
  exact⟨_,by simp only[dc.vc,hp,aE,zv,hl,eC,hn,and_self],h⟩
 ·rename_i s z ok m k
  obtain⟨p,hp,h⟩:=aC h
  obtain⟨q,hq,h⟩:=aC h
  obtain⟨r,rfl,h⟩:=mV h
  obtain⟨hn,h⟩:=h.out
  cases r with
  |none=>exact⟨_,by simp only[dc.vc,hp,hq,aE,Er,eC,hn,zF,and_self],h⟩
  |some b=>
   obtain⟨x,hx,h⟩:=aC h
   obtain⟨y,hy,h⟩:=aC h
   exact⟨_,by simp only[dc.vc,hp,hq,aE,Er,eC,hn,zF,hx,hy,and_self],h⟩
 ·obtain⟨p,hp,h⟩:=aC h
  obtain⟨r,rfl,h⟩:=mV h
  cases r with
  |none=>exact⟨_,by simp only[dc.vc,hp,aE,Er,Mc,and_self],h⟩
  |some b=>
   obtain⟨x,hx,h⟩:=aC h
   exact⟨_,by simp only[dc.vc,hp,aE,Er,Mc,hx,and_self],h⟩
 ·obtain⟨p,hp,h⟩:=aC h
  have key:∃l,K (.string ⟨l.toArray⟩) H∧xG H p (fun l'=>l'=l):=by
   unfold xG at*
   split at h
   ·rename_i a n c
    unfold rowOf at*
    simp only at*
    cases hn:n==0
    ·rw[hn]at h
     obtain⟨b,o,rfl,h⟩:=qF h
     obtain⟨l,hl,h⟩:=aC h
     obtain⟨h1,h⟩:=h.out
     obtain⟨bs,hb,h⟩:=aC h
     exact⟨bs,h,by simp only[G7,xC,aE,hl,eC,h1,hb,and_self]⟩
    ·rw[hn]at h
     have h:aE (bytesOf []) fun l=>K (.string ⟨l.toArray⟩) H:=h
     obtain⟨bs,hb,h⟩:=aC h
     exact⟨bs,h,by simp only[G7,aE,hb]⟩
   ·exact h.elim
  obtain⟨l,h1,h2⟩:=key
  refine⟨_,?_,h1⟩
  simp only[dc.vc,hp,aE]
  exact EN h2 fun b e=>by rw[e];exact⟨rfl,rfl⟩
end
end Go.Vc
