/- Texts put behind each other. -/
import Derived.Test.YtjlnnljohemifaaGreatK98
import Derived.Test.YtjlnnljohemifaaGreatK6
import Derived.Lib.ConvBytes
import Derived.Laws.AppendOwn
import Derived.Laws.Append
set_option linter.unusedVariables false
set_option linter.unusedSimpArgs false
namespace Go.Vc
section
variable {P : Program} {o : Oper} {a : Act} {ev : Ev} {H : Hp} {K : Value → Hp → Prop}
theorem My{t kt e:TypeId}{s:Shape}{z:Value}{x y:Operand}{ok:Bool}(bI:bR ev a)(ho:o.op= .lookup t x y ok)(ht:P.underlying t=some (.map kt e))
  (hs:cD P kt=some s)(hz:gC P e=some z)(h:(de.lookup s z ok x y).vc P ev H K):dV P o a H K:=by
 intro w hw
 subst hw
 obtain⟨r,hx,h⟩:=nj (bf bI (bf bI h))
 obtain⟨hk,h⟩:=h.out
 cases r with
 |none=>
  refine .inl ⟨jt ok z none,w,?_,bZ.refl w,h⟩
  have hf:=mj (P:=P) (k:=a.eval y) (es:=[]) (r:=none) hs rfl w
  simp only[execOp,ho,Instr.lookup,Sem.run_bind,ap ht,Result.andThen_ok,hx,Sem.run_pure,jx hs hk,hf,cP hz]
  cases ok<;>rfl
 |some b=>
  obtain⟨m,hm,h⟩:=aD h
  obtain⟨rr,hr,h⟩:=aD h
  obtain⟨es,he,hl⟩:=Gc hm
  rw[←hl]at hr
  refine .inl ⟨jt ok z (rr.map (·.2)),w,?_,bZ.refl w,h⟩
  simp only[execOp,ho,Instr.lookup,Sem.run_bind,ap ht,Result.andThen_ok,hx,Sem.run_pure,rI he,jx hs hk,mj hs hr]
  cases rr with
  |none=>simp only[cP hz,Result.andThen_ok,Sem.run_bind,Sem.run_pure];cases ok<;>rfl
  |some q=>cases ok<;>rfl
theorem Mz{t kt e:TypeId}{s:Shape}{x y z:Operand}(bI:bR ev a)(ho:o.op= .mapUpdate t x y z)(ht:P.underlying t=some (.map kt e))
  (hs:cD P kt=some s)(h:(de.update s x y z).vc P ev H K):dV P o a H K:=by
 intro w hw
 subst hw
 obtain⟨r,hx,h⟩:=nj (bf bI (bf bI (bf bI h)))
 obtain⟨b,rfl,h⟩:=aD h
 obtain⟨hk,h⟩:=h.out
 obtain⟨m,hm,h⟩:=aD h
 obtain⟨rr,hr,h⟩:=aD h
 obtain⟨uB,h⟩:=h.out
 obtain⟨es,he,hl⟩:=Gc hm
 rw[←hl]at hr
 refine .inr (.inl ⟨{w with heap:=Hp.EH w.heap b (Ma m.1 rr (a.eval y) (a.eval z) m.2) (KJ rr m.2)},?_,⟨rfl,rfl⟩,h⟩)
 simp only[execOp,ho,Instr.mapUpdate,Sem.run_bind,ap ht,Result.andThen_ok,hx,rI he,jx hs hk,mj hs hr]
 cases rr with
 |none=>
  simp only[rJ he,Result.andThen_ok,Sem.run_pure,Ma,KJ,←hl]
  simp
 |some q=>
  obtain⟨i,v⟩:=q
  have hb:Instr.sameBits 10000 (((es[i]?).map (·.key)).getD (a.eval y)) (a.eval y)=true:=by
   simp only[Gb,←hl]at uB
   simpa using uB
  simp only[Instr.keyThatStays,hb,if_true,Sem.run_bind,Sem.run_pure,Result.andThen_ok,rJ he,Ma,KJ,←hl]
  simp
theorem MA{kt e:TypeId}{s:Shape}{c:Call}{x y:Operand}(bI:bR ev a)(ho:o.op= .call c)(hc:c.callee= .builtin .delete)(nB:c.args.toList=[x,y])
  (oU:(c.argTypes[0]?).bind P.underlying=some (.map kt e))(hs:cD P kt=some s)(h:(de.delete s x y).vc P ev H K):dV P o a H K:=by
 intro w hw
 subst hw
 obtain⟨r,hx,h⟩:=nj (bf bI (bf bI h))
 obtain⟨b,rfl,h⟩:=aD h
 obtain⟨hk,h⟩:=h.out
 obtain⟨m,hm,h⟩:=aD h
 obtain⟨rr,hr,h⟩:=aD h
 obtain⟨es,he,hl⟩:=Gc hm
 rw[←hl]at hr
 have ha:c.args= #[x,y]:=Array.ext' nB
 obtain⟨t,Hj,HV⟩:=Option.bind_eq_some_iff.1 oU
 refine .inl ⟨.tuple [].toArray,{w with heap:=Hp.EH w.heap b (Hx m.1 rr) m.2},?_,⟨rfl,rfl⟩,h⟩
 simp only[execOp,ho,resolve,hc,Sem.run_bind,Sem.run_pure,Result.andThen_ok,invoke,builtin,ha,Builtin.delete_,Hj]
 simp only[List.map_toArray,amL,List.map_nil,anL,amz,amY,Sem.run_bind,ap HV,Result.andThen_ok,hx,rI he,jx hs hk,mj hs hr]
 cases rr with
 |none=>simp only[Sem.run_bind,rJ he,Result.andThen_ok,Sem.run_pure,Hx,←hl]
 |some q=>
  obtain⟨i,v⟩:=q
  simp only[Sem.run_bind,rJ he,Result.andThen_ok,Sem.run_pure,Hx,←hl,Array.toList_eraseIdxIfInBounds]
theorem Oq{e:TypeId}{z:Value}{c:Call}{x:Operand}(bI:bR ev a)(ho:o.op= .call c)(hc:c.callee= .builtin .clear)(nB:c.args.toList=[x])
  (oU:(c.argTypes[0]?).bind P.underlying=some (.slice e))(hz:gC P e=some z)(K5:(aJ z).length≠0)(h:(de.J6 (aJ z) x).vc P ev H K):dV P o a H K:=by
 intro w hw
 subst hw
 obtain⟨ad,n,cp,hx,h⟩:=kM (bf bI h)
 have ha:c.args= #[x]:=Array.ext' nB
 obtain⟨t,Hj,HV⟩:=Option.bind_eq_some_iff.1 oU
 have Ol:z.cells.toList=aJ z:=eW z
 rcases h with ⟨rfl,h⟩| ⟨hn,b,off,l,rfl,hl,h1,h2,h⟩
 ·refine .inl ⟨.tuple [].toArray,w,?_,bZ.refl w,h⟩
  simp only[execOp,ho,resolve,hc,Sem.run_bind,Sem.run_pure,Result.andThen_ok,invoke,builtin,ha,Builtin.clear_,Hj]
  simp only[List.map_toArray,amL,List.map_nil,anL,amz,Sem.run_bind,ap HV,Result.andThen_ok,hx]
  cases ad<;>simp
 ·have e1:(Builtin.zeroCells z.cells n).toList=cR (aJ z) n:=by
   unfold Builtin.zeroCells
   rw[C9 rfl (by rw[←Ol]at K5;simpa using K5),Ol]
  have bm:(cR (aJ z) n).length=n*(aJ z).length:=by simp[cR]
  obtain⟨w',hs,MO,hk,_⟩:=j9 (P:=P) (b:=b) (o:=off) (cR (aJ z) n) 0 w l hl (by omega) h1
  have aT:cR (aJ z) n≠[]:=fun e=>by
   rw[e]at bm
   simp only[anj]at bm
   rcases Nat.mul_eq_zero.1 bm.symm with h|h
   ·exact hn h
   ·exact K5 h
  refine .inl ⟨.tuple [].toArray,w',?_,MO,?_⟩
  ·simp only[execOp,ho,resolve,hc,Sem.run_bind,Sem.run_pure,Result.andThen_ok,invoke,builtin,ha,Builtin.clear_,Hj]
   simp only[List.map_toArray,amL,List.map_nil,anL,amz,Sem.run_bind,ap HV,Result.andThen_ok,hx]
   cases n with
   |zero=>exact absurd rfl hn
   |succ n=>simp[cP hz,e1,hs]
  ·rw[hk aT];exact h
theorem uP{f:FuncId}(hc:eV P f=true)(args:Array Value)(w:World):(callFunc f args).run P w= .ok (.enter f args) w:=by
 unfold eV at hc
 split at hc
 ·rename_i fn hf
  simp only[amX,bne_iff_ne,ne_eq]at hc
  obtain⟨bd,hb⟩:=Option.isSome_iff_exists.1 hc.2
  simp[callFunc,hf,hc.1,hb]
 ·cases hc
theorem QN{f:FuncId}{c:Call}(bI:bR ev a)(ho:o.op= .call c)(hc:c.callee= .value (.func f))(hb:eV P f=true)
  (h:(de.call f c.args.toList).vc P ev H K):dV P o a H K:=by
 intro w hw
 subst hw
 have h:=n7 bI h
 refine .inr (.inr ⟨f,(c.args.map a.eval),w,?_,bZ.refl w,by simpa using h⟩)
 simp[execOp,ho,resolve,hc,Act.eval,Deferred.ofValue,invoke,uP hb]
theorem Tm{f:FuncId}{c:Call}(bI:bR ev a)(ho:o.op= .call c)(hc:c.callee= .value (.func f))
  (h:(de.ext f c.args.toList).vc P ev H K):dV P o a H K:=by
 intro w hw
 subst hw
 obtain⟨v,hv,hk⟩:=n7 bI h
 refine .inl ⟨v,w,?_,bZ.refl w,hk⟩
 have O1:(callFunc f (c.args.map a.eval)).run P w= .ok (.value v) w:=by
  have h1:=hv w
  rw[show(List.map a.eval c.args.toList).toArray=c.args.map a.eval from Array.ext' (by simp)]at h1
  exact h1
 simp[execOp,ho,resolve,hc,Act.eval,Deferred.ofValue,invoke,O1]
theorem Tn{f:Operand}{c:Call}(bI:bR ev a)(ho:o.op= .call c)(hc:c.callee= .value f)
  (h:(de.dyn f c.args.toList).vc P ev H K):dV P o a H K:=by
 intro w hw
 subst hw
 have h:=n7 bI (bf bI h)
 unfold XR at h
 split at h
 ·rename_i g first captured hf
  refine .inr (.inr ⟨g,first++c.args.map a.eval++captured,w,?_,bZ.refl w,by simpa using h.2⟩)
  simp only[execOp,ho,resolve,hc,hf,Deferred.ofValue,Sem.run_bind,Sem.run_pure,Result.andThen_ok,invoke,uP h.1]
 ·exact h.elim
theorem MB{r:Operand}{name:String}{c:Call}(bI:bR ev a)(ho:o.op= .call c)(hc:c.callee= .invoke r name)
  (h:(de.invoke r name c.args.toList).vc P ev H K):dV P o a H K:=by
 intro w hw
 subst hw
 obtain⟨T,v,f,rv,hr,⟨FD,hm⟩,h⟩:=n7 bI (bf bI h)
 refine .inr (.inr ⟨f, #[rv]++c.args.map a.eval,w,?_,bZ.refl w,by simpa using h⟩)
 have hx:(#[Value.iface T v]++c.args.map a.eval)[0]? =some (.iface T v):=by rw[ans (by simp)];rfl
 have vW:(#[Value.iface T v]++c.args.map a.eval).extract 1 (#[Value.iface T v]++c.args.map a.eval).size=c.args.map a.eval:=by
  apply Array.ext'
  simp only[Array.toList_extract,Array.toList_append,Array.toList_map,Array.size_append]
  simp[List.take_of_length_le]
 simp only[execOp,ho,resolve,hc,hr,Sem.run_bind,Sem.run_pure,Result.andThen_ok,invoke,hx,vW,callMethod,run_program,hm w rfl,uP FD]
theorem pS{c:Call}{x:Operand}(ho:o.op= .call c)(hc:c.callee= .builtin .len)(nB:c.args.toList=[x]){w:World}{n:Nat}
  (hr:(Builtin.len_ c.argTypes o.type #[a.eval x]).run P w= .ok (goInt n) w):(execOp a.eval o).run P w= .ok (.value (.int .i64 n)) w:=by
 have ha:c.args= #[x]:=Array.ext' nB
 have hav:c.args.map a.eval= #[a.eval x]:=by rw[ha];simp
 simp only[execOp,ho,resolve,hc,Sem.run_bind,Sem.run_pure,Result.andThen_ok,invoke,builtin,hav,hr,goInt]
theorem QO{c:Call}{x:Operand}{e:TypeId}(bI:bR ev a)(ho:o.op= .call c)(hc:c.callee= .builtin .len)(nB:c.args.toList=[x])
  (oU:(c.argTypes[0]?).bind P.underlying=some (.slice e))(h:(de.bz x).vc P ev H K):dX P o a H K:=by
 obtain⟨t,Hj,HV⟩:=Option.bind_eq_some_iff.1 oU
 obtain⟨ad,n,cp,hx,h⟩:=kM (bf bI h)
 refine⟨_,fun w=>pS ho hc nB (n:=n) ?_,h⟩
 simp[Builtin.len_,Hj,ap HV,goInt,hx]
theorem QP{c:Call}{x:Operand}(bI:bR ev a)(ho:o.op= .call c)(hc:c.callee= .builtin .len)(nB:c.args.toList=[x])
  (oU:(c.argTypes[0]?).bind P.underlying=some .string)(h:(de.UR x).vc P ev H K):dX P o a H K:=by
 obtain⟨t,Hj,HV⟩:=Option.bind_eq_some_iff.1 oU
 obtain⟨s,hx,h⟩:=pR (bf bI h)
 refine⟨_,fun w=>pS ho hc nB (n:=s.size) ?_,h⟩
 simp[Builtin.len_,Hj,ap HV,goInt,hx]
theorem QQ{c:Call}{x:Operand}{k e:TypeId}(bI:bR ev a)(ho:o.op= .call c)(hc:c.callee= .builtin .len)(nB:c.args.toList=[x])
  (oU:(c.argTypes[0]?).bind P.underlying=some (.map k e))(h:(de.US x).vc P ev H K):dV P o a H K:=by
 intro w hw
 subst hw
 obtain⟨t,Hj,HV⟩:=Option.bind_eq_some_iff.1 oU
 obtain⟨r,hx,h⟩:=nj (bf bI h)
 cases r with
 |none=>
  refine .inl ⟨_,w,pS ho hc nB (n:=0) ?_,bZ.refl w,h⟩
  simp[Builtin.len_,Hj,ap HV,goInt,hx]
 |some b=>
  obtain⟨m,hm,h⟩:=aD h
  obtain⟨es,he,hl⟩:=Gc hm
  refine .inl ⟨_,w,pS ho hc nB (n:=m.1.length) ?_,bZ.refl w,h⟩
  simp[Builtin.len_,Hj,ap HV,goInt,hx,rI he,←hl]
theorem UZ:∀ (r:List Value) (x v:Value),Mo x r=some v→∀w:World,(r.foldlM Builtin.min2 x).run P w= .ok v w:=by
 intro r
 induction r with
 |nil=>intro x v h w;injection h with h;subst h;rfl
 |cons y r ih=>
  intro x v h w
  unfold Mo at h
  split at h
  ·rename_i k p k' q
   simp[List.foldlM_cons,Builtin.min2,ih _ v h w]
  ·cases h
theorem U4:∀ (r:List Value) (x v:Value),Mp x r=some v→∀w:World,(r.foldlM Builtin.max2 x).run P w= .ok v w:=by
 intro r
 induction r with
 |nil=>intro x v h w;injection h with h;subst h;rfl
 |cons y r ih=>
  intro x v h w
  unfold Mp at h
  split at h
  ·rename_i k p k' q
   simp[List.foldlM_cons,Builtin.max2,ih _ v h w]
  ·cases h
theorem To{c:Call}(bI:bR ev a)(ho:o.op= .call c)(hc:c.callee= .builtin .min)(h:(de.UT c.args.toList).vc P ev H K):dX P o a H K:=by
 obtain⟨v,hv,h⟩:=aD (n7 bI h)
 refine⟨v,fun w=>?_,h⟩
 have e:(Builtin.min_ c.argTypes o.type (c.args.map a.eval)).run P w= .ok v w:=by
  unfold Builtin.min_
  rw[Array.toList_map]
  cases hl:c.args.toList.map a.eval with
  |nil=>rw[hl]at hv;cases hv
  |cons x r=>rw[hl]at hv;exact UZ r x v hv w
 simp only[execOp,ho,resolve,hc,Sem.run_bind,Sem.run_pure,Result.andThen_ok,invoke,builtin,e]
theorem Tp{c:Call}(bI:bR ev a)(ho:o.op= .call c)(hc:c.callee= .builtin .max)(h:(de.Ip c.args.toList).vc P ev H K):dX P o a H K:=by
 obtain⟨v,hv,h⟩:=aD (n7 bI h)
 refine⟨v,fun w=>?_,h⟩
 have e:(Builtin.max_ c.argTypes o.type (c.args.map a.eval)).run P w= .ok v w:=by
  unfold Builtin.max_
  rw[Array.toList_map]
  cases hl:c.args.toList.map a.eval with
  |nil=>rw[hl]at hv;cases hv
  |cons x r=>rw[hl]at hv;exact U4 r x v hv w
 simp only[execOp,ho,resolve,hc,Sem.run_bind,Sem.run_pure,Result.andThen_ok,invoke,builtin,e]
theorem Bp{H:Hp}{size:Nat}{v:Value}{F:Nat→List Value→Prop}(h:rowOf H size v F):
  ∃ (n:Nat) (l:List Value),F n l∧(∀w:World,(Builtin.lenOf v).run P w= .ok n w)∧(∀w:World,w.heap=H→(Builtin.firstCells size n v).run P w= .ok l.toArray w)∧l.length=n*size∧
   (∀b m c,v= .slice b m c→m=n):=by
 unfold rowOf at h
 split at h
 ·rename_i a n c
  by_cases PV:n=0
  ·subst PV
   refine⟨0,[],h,fun _=>rfl,fun w hw=>?_,by simp,fun _ _ _ e=>by injection e with _ e _;exact e.symm⟩
   cases a with
   |none=>rfl
   |some a=>simp only[Builtin.firstCells,amH];rfl
  ·have e0:(n==0)=false:=by simpa using PV
   rw[e0]at h
   obtain⟨b,off,rfl,h1⟩:=qQ (F:=fun b o=>aE (H.rd b) fun l=>eB (o+n*size≤l.length) (F n ((l.drop o).take (n*size)))) h
   obtain⟨l,hl,h2⟩:=aD h1
   obtain⟨hn,h3⟩:=h2.out
   refine⟨n,_,h3,fun _=>rfl,fun w hw=>?_,by simp;omega,fun _ _ _ e=>by injection e with _ e _;exact e.symm⟩
   subst hw
   exact tI (P:=P) (a:=⟨b,off,none⟩) rfl hl hn
 ·rename_i s
  obtain⟨e1,h2⟩:=h.out
  subst e1
  refine⟨s.size,_,h2,fun _=>rfl,fun w _=>?_,?_,fun _ _ _ e=>by cases e⟩
  ·simp only[Builtin.firstCells,Sem.run_pure]
   congr 1
   apply Array.ext'
   have:s.extract 0 s.size=s:=by
    apply ByteArray.ext
    simp
   rw[this]
   simp
  ·rw[amu,ama,Array.length_toList];rfl
 ·exact h.elim
theorem KQ{s t e:TypeId}{x:Operand}(bI:bR ev a)(ho:o.op= .convert s t x)(hs:P.underlying s=some .string)(ht:P.underlying t=some (.slice e))(he:P.underlying e=some (.int .u8))
  (h:(de.KM e x).vc P ev H K):dV P o a H K:=by
 intro w hw
 subst hw
 have h:=bf bI h
 unfold mh at h
 split at h
 ·rename_i bs hx
  have hr:=Lib.run_convert_string_bytes (P:=P) w s t e bs hs ht he
  have Sp:=grownCap_ge w bs.size 0 e
  refine .inl ⟨.slice (some ⟨w.heap.size,0,none⟩) bs.size (grownCap w bs.size 0 e),Lib.bytesWorld w e bs,?_,⟨rfl,rfl⟩,?_⟩
  ·simp only[execOp,ho]
   rw[hx]at*
   simp only[Sem.run_bind,hr,Result.andThen_ok,Sem.run_pure]
  ·have hk:=h _ Sp
   have e1:(Lib.bytesWorld w e bs).heap=Hp.N9 w.heap e ((bs.data.toList.map fun b=>.int .u8 b.toNat)++List.replicate (grownCap w bs.size 0 e - bs.size) (.int .u8 0)):=by
    apply Array.ext_getElem?
    intro i
    rcases anC i w.heap.size with hi|hi|hi
    ·rw[Lib.bytesWorld_at_old w e bs i hi,Mk _ _ _ hi]
    ·subst hi
     rw[Lib.bytesWorld_at_new]
     simp[Hp.N9,Lib.bytesCells]
    ·rw[anf (by rw[Lib.bytesWorld_size];omega),anf (by rw[QE];omega)]
   rw[e1]
   exact hk
 ·exact h.elim
theorem Ou:∀ (l:List Value) (bs:List UInt8),bytesOf l=some bs→∀ (s:ByteArray) (w:World),
  (forIn l s fun c (s:ByteArray)=>(match c with| .int .u8 n=>pure (ForInStep.yield (s.push (UInt8.ofNat n.toNat)))|_=>(do stuck "bytesToString: byte expected";pure (ForInStep.yield s)):Sem (ForInStep ByteArray))).run P w= .ok ⟨s.data++bs.toArray⟩ w:=by
 intro l
 induction l with
 |nil=>intro bs h s w;simp only[bytesOf,ame]at h;subst h;simp
 |cons v l ih=>
  intro bs h s w
  cases v with
  |int k n=>
   cases k with
   |u8=>
    simp only[bytesOf]at h
    cases hb:bytesOf l with
    |none=>rw[hb]at h;cases h
    |some r=>
     rw[hb]at h
     simp only[Option.map_some,ame]at h
     subst h
     simp only[List.forIn_cons,Sem.run_bind,Sem.run_pure,Result.andThen_ok]
     rw[ih r hb]
     congr 1
     apply ByteArray.ext
     apply Array.ext'
     simp[ByteArray.push]
   |_=>simp[bytesOf]at h
  |_=>simp[bytesOf]at h
theorem Ov{s t e:TypeId}{x:Operand}(bI:bR ev a)(ho:o.op= .convert s t x)(hs:P.underlying s=some (.slice e))(ht:P.underlying t=some .string)(he:P.underlying e=some (.int .u8))
  (h:(de.Pf x).vc P ev H K):dV P o a H K:=by
 intro w hw
 subst hw
 have h:=bf bI h
 unfold xM at h
 split at h
 ·rename_i ad n c hx
  obtain⟨m,l,h,h1,h2,h3,h4⟩:=Bp (P:=P) h
  obtain⟨bs,hb,h⟩:=aD h
  refine .inl ⟨_,w,?_,bZ.refl w,h⟩
  have hm:n=m:=h4 _ _ _ rfl
  subst hm
  have h5:=h2 w rfl
  have key:(Conv.bytesToString (.slice ad n c)).run P w= .ok (.string ⟨bs.toArray⟩) w:=by
   cases ad with
   |none=>
    simp only[Builtin.firstCells,Sem.run_pure,Result.ok.injEq,and_true]at h5
    have hl:l=[]:=by
     have:=amt Array.toList h5
     simpa using this.symm
    subst hl
    simp only[bytesOf,ame]at hb
    subst hb
    rfl
   |some ad=>
    simp only[Builtin.firstCells,ama]at h5
    simp only[Conv.bytesToString,Sem.run_bind,h5,Result.andThen_ok]
    rw[List.forIn_toArray]
    refine(amt (fun r=>Result.andThen r fun a w'=>Sem.run P (pure (Value.string a)) w') (Ou (P:=P) l bs hb ByteArray.empty w)).trans ?_
    simp only[Result.andThen_ok,Sem.run_pure]
    congr 3
    simp
  simp only[execOp,ho,convert,hx,Sem.run_bind,ap hs,ap ht,ap he,Result.andThen_ok,key]
  rfl
 ·exact h.elim
theorem VT{d:TypeDesc}(hd:Hy d=true):(∃e,d= .slice e)∨d= .string:=by
 cases d<;>first|exact .inl ⟨_,rfl⟩|exact .inr rfl| (cases hd)
theorem Ji{XW:Array TypeId}{ty t t' e:TypeId}{d:TypeDesc}{w:World}{base:Option Addr}{n cap m:Nat}{y:Value}{new:Array Value}(Hj:XW[0]? =some t)(QR:XW[1]? =some t')
  (HV:P.underlying t=some (.slice e))(Ek:P.underlying t'=some d)(hd:Hy d=true)(hi:(P.info? e).isSome=true)
  (bm:(Builtin.lenOf y).run P w= .ok m w)(zu:(Builtin.firstCells (P.cellsOf e) m y).run P w= .ok new w)(zU:n+m≤cap):
  (Builtin.append_ XW ty #[.slice base n cap,y]).run P w=
   ((match base with|some a=>storeCells (a.add (n*P.cellsOf e)) new.toList|none=>(pure ():Sem Unit)).run P w).andThen fun _ w'=>.ok (.slice base (n+m) cap) w':=by
 rcases VT hd with ⟨e',rfl⟩|rfl<;>unfold Builtin.append_<;>
 simp only[anL,amz,amY,Hj,QR,Sem.run_bind,ap HV,ap Ek,Result.andThen_ok,bM hi,Sem.run_pure,bm,anb,if_false,if_pos zU,Bool.not_false,if_true,zu]<;>
 cases base<;>simp only[Sem.run_pure,Result.andThen_ok,Sem.run_bind]
theorem HJ{XW:Array TypeId}{ty t t' e:TypeId}{d:TypeDesc}{w:World}{base:Option Addr}{n cap m:Nat}{y z:Value}{new SK:Array Value}(Hj:XW[0]? =some t)(QR:XW[1]? =some t')
  (HV:P.underlying t=some (.slice e))(Ek:P.underlying t'=some d)(hd:Hy d=true)(hi:(P.info? e).isSome=true)(hz:gC P e=some z)
  (bm:(Builtin.lenOf y).run P w= .ok m w)(zu:(Builtin.firstCells (P.cellsOf e) m y).run P w.drew= .ok new w.drew)
  (hold:(Builtin.firstCells (P.cellsOf e) n (.slice base n cap)).run P w.drew= .ok SK w.drew)
  (zU:cap<n+m)(hb:Builtin.nextslicecap (n+m) cap*P.bytesOf e≤2^48)(RW:P.bytesOf e≠0):
  ∃c',n+m≤c'∧(Builtin.append_ XW ty #[.slice base n cap,y]).run P w=
   .ok (.slice (some ⟨w.heap.size,0,none⟩) (n+m) c') {w with drawn:=w.drawn+1,heap:=Hp.new w.heap e ((SK++new++Builtin.zeroCells z.cells (c' - (n+m))).toList)}:=by
 obtain⟨inf,abV⟩:=Option.isSome_iff_exists.1 hi
 have XX:inf.bytes=P.bytesOf e:=by simp[Program.bytesOf,abV]
 refine⟨(Question.appendCap (n+m) cap e).cut (w.tape w.drawn (.appendCap (n+m) cap e)),by simp[Question.cut],?_⟩
 have aT:n+m≤2^48:=by
  have h1:=le_nextslicecap zU
  have h2:Builtin.nextslicecap (n+m) cap≤Builtin.nextslicecap (n+m) cap*P.bytesOf e:=Nat.le_mul_of_pos_right _ (by omega)
  omega
 have cr:¬ (9223372036854775807< ((n:Int)+(m:Int))):=by omega
 have agh:¬ (281474976710656<Builtin.nextslicecap (n+m) cap*P.bytesOf e):=by omega
 have hn:¬ (n+m≤cap):=by omega
 rcases VT hd with ⟨e',rfl⟩|rfl<;>
  simp[Builtin.append_,Hj,QR,ap HV,ap Ek,bM hi,bm,hn,et abV,XX,RW,agh,Question.forced,cP hz,hold,zu,n9]<;>
  exact⟨rfl,rfl,rfl⟩
theorem MC{c:Call}{e:TypeId}{d:TypeDesc}{z:Value}{x y:Operand}(bI:bR ev a)(ho:o.op= .call c)(hc:c.callee= .builtin .append)(nB:c.args.toList=[x,y])
  (oU:(c.argTypes[0]?).bind P.underlying=some (.slice e))(agi:(c.argTypes[1]?).bind P.underlying=some d)(hd:Hy d=true)(hz:gC P e=some z)(hi:(P.info? e).isSome=true)
  (h0:P.cellsOf e≠0)(hl:(aJ z).length=P.cellsOf e)(RW:P.bytesOf e≠0)(h:(de.append e (P.cellsOf e) (P.bytesOf e) (aJ z) x y).vc P ev H K):dV P o a H K:=by
 intro w hw
 subst hw
 have ha:c.args= #[x,y]:=Array.ext' nB
 obtain⟨t,Hj,HV⟩:=Option.bind_eq_some_iff.1 oU
 obtain⟨t',QR,Ek⟩:=Option.bind_eq_some_iff.1 agi
 have Ol:z.cells.toList=aJ z:=eW z
 have OO:z.cells.size=P.cellsOf e:=by rw[←hl,←Ol];simp
 obtain⟨base,n,cap,hx,h⟩:=kM (bf bI (bf bI h))
 have h':=h
 obtain⟨m,new,h,bm,zu,YH,_⟩:=Bp (P:=P) h
 obtain⟨hA,hB,hC⟩:=h
 have hav:c.args.map a.eval= #[.slice base n cap,a.eval y]:=by rw[ha];simp[hx]
 have pre:∀v w',(Builtin.append_ c.argTypes o.type #[.slice base n cap,a.eval y]).run P w= .ok v w'→(execOp a.eval o).run P w= .ok (.value v) w':=by
  intro v w' hr
  simp only[execOp,ho,resolve,hc,Sem.run_bind,Sem.run_pure,Result.andThen_ok,invoke,builtin,hav,hr]
 by_cases zU:n+m≤cap
 ·have hr:=Ji (ty:=o.type) (base:=base) Hj QR HV Ek hd hi (bm w) (zu w rfl) zU
  by_cases hm:m=0
  ·subst hm
   have PV:new=[]:=amD.1 (by omega)
   subst PV
   refine .inl ⟨_,w,pre _ w ?_,bZ.refl w,hA zU rfl⟩
   rw[hr]
   cases base<;>simp[storeCells]
  ·obtain⟨b,off,rfl,hB⟩:=qQ (hB zU hm)
   obtain⟨l,NE,hB⟩:=aD hB
   obtain⟨⟨h1,h2⟩,hB⟩:=hB.out
   obtain⟨w',hs,MO,hk,_⟩:=j9 (P:=P) (b:=b) (o:=off+n*P.cellsOf e) new 0 w l NE (by rw[am6]at h1;omega) h2
   have aT:new≠[]:=fun e'=>by
    rw[e']at YH
    rcases Nat.mul_eq_zero.1 YH.symm with h|h
    ·exact hm h
    ·exact h0 h
   refine .inl ⟨_,w',pre _ w' ?_,MO,hk aT▸hB⟩
   rw[hr]
   simp only[AY,List.toList_toArray,hs,Result.andThen_ok]
 ·obtain⟨hb,hC⟩:=hC (by omega)
  rw[hx]at hC
  obtain⟨n',SK,hC,_,hold,hol,hn'⟩:=Bp (P:=P) hC
  have:n=n':=hn' _ _ _ rfl
  subst this
  obtain⟨c',Le,hr⟩:=HJ (ty:=o.type) (base:=base) Hj QR HV Ek hd hi hz (bm w) (zu w.drew rfl) (hold w.drew rfl) (by omega) hb RW
  refine .inl ⟨_,_,pre _ _ hr,⟨rfl,rfl⟩,?_⟩
  have e1:(SK.toArray++new.toArray++Builtin.zeroCells z.cells (c' - (n+m))).toList=SK++new++cR (aJ z) (c' - (n+m)):=by
   rw[Array.toList_append,Array.toList_append]
   congr 1
   unfold Builtin.zeroCells
   rw[C9 rfl (by omega),Ol]
  rw[e1]
  exact hC c' Le
end
end Go.Vc

namespace Go.Vc
def de.cls:de→LG
 | .dk _| .pick .. | .build .. | .nilCheck _| .aB .. | .un .. | .conv .. | .iface .. | .func .. | .slice .. | .KK .. | .fieldAddr .. | .field .. | .indexAddr .. | .gT .. | .KL .. | .extract ..
 | .bz _| .UR _| .UT _| .Ip _| .Gv .. | .UU .. =>.pure
 | .gF _| .kY .. | .lookup .. | .US _| .Pf _=>.quiet
 |_=>.IG
section
variable {P : Program} {o : Oper} {a : Act} {ev : Ev} {H : Hp} {K : Value → Hp → Prop}
theorem sound(i:de)(hd:JL P o=some i)(bI:bR ev a)(h:i.vc P ev H K):(i.cls= .pure→dX P o a H K)∧dV P o a H K:=by
 have mk:dX P o a H K→(i.cls= .pure→dX P o a H K)∧dV P o a H K:=fun hp=>⟨fun _=>hp,hp.af9⟩
 have mk':i.cls≠ .pure→dV P o a H K→(i.cls= .pure→dX P o a H K)∧dV P o a H K:=fun hn hp=>⟨fun e=>absurd e hn,hp⟩
 unfold JL at hd
 split at hd
 ·rename_i x ho;injection hd with hd;subst hd;exact mk (Ms bI (.inl ho) h)
 ·rename_i x ho;injection hd with hd;subst hd;exact mk (Ms bI (.inr ho) h)
 ·rename_i c x y ho;injection hd with hd;subst hd;exact mk (QI bI ho h)
 ·rename_i T x ho;injection hd with hd;subst hd;exact mk' (by simp[de.cls]) (Tl bI ho h)
 ·rename_i T ho
  cases hz:gC P T with
  |none=>rw[hz]at hd;cases hd
  |some z=>rw[hz]at hd;injection hd with hd;subst hd;exact mk' (by simp[de.cls]) (QM hz ho h)
 ·rename_i t ps ho
  cases hz:gC P t with
  |none=>rw[hz]at hd;cases hd
  |some z=>
   rw[hz,Option.bind_some]at hd
   cases hq:parts P t (aJ z).length ps.toList with
   |none=>rw[hq]at hd;cases hd
   |some qs=>rw[hq]at hd;injection hd with hd;subst hd;exact mk (Oj bI ho hz hq h)
 ·rename_i t n ps ho
  split at hd
  ·rename_i e hu
   cases hz:gC P e with
   |none=>rw[hz]at hd;cases hd
   |some z=>
    rw[hz,Option.bind_some]at hd
    split at hd
    ·rename_i hc
     cases hq:nw (fun i=>some (i*P.cellsOf e,P.cellsOf e)) (n*P.cellsOf e) ps.toList with
     |none=>rw[hq]at hd;cases hd
     |some qs=>rw[hq]at hd;injection hd with hd;subst hd;exact mk' (by simp[de.cls]) (Tk bI ho hu hz hc.1 hc.2.1 hc.2.2.1 hc.2.2.2 hq h)
    ·cases hd
  ·cases hd
 ·rename_i t x ho
  split at hd
  ·rename_i hc
   split at hd
   ·rename_i hg;injection hd with hd;subst hd;exact mk' (by simp[de.cls]) (On bI ho hc.1 hc.2 hg h)
   ·rename_i hg;injection hd with hd;subst hd;exact mk' (by simp[de.cls]) (Om bI ho hc.1 hc.2 (by simpa using hg) h)
  ·cases hd
 ·rename_i t x y ho
  split at hd
  ·rename_i hc;injection hd with hd;subst hd;exact mk' (by simp[de.cls]) (Oo bI ho hc.1 hc.2 h)
  ·cases hd
 ·rename_i x ho;injection hd with hd;subst hd;exact mk (Jg bI ho h)
 ·rename_i op t x y t' ho
  split at hd
  ·split at hd
   ·rename_i ms hu;injection hd with hd;subst hd;exact mk (JM bI ho hu (.inl ⟨rfl,rfl⟩) h)
   ·cases hs:shapeOf P fE t with
    |none=>rw[hs]at hd;cases hd
    |some s=>
     rw[hs,Option.bind_some]at hd
     split at hd
     ·rename_i hc;injection hd with hd;subst hd;exact mk (HB bI ho (fun _=>⟨hs,hc⟩) h)
     ·cases hd
  ·split at hd
   ·rename_i ms hu;injection hd with hd;subst hd;exact mk (JM bI ho hu (.inr ⟨rfl,rfl⟩) h)
   ·cases hs:shapeOf P fE t with
    |none=>rw[hs]at hd;cases hd
    |some s=>
     rw[hs,Option.bind_some]at hd
     split at hd
     ·rename_i hc;injection hd with hd;subst hd;exact mk (HB bI ho (fun _=>⟨hs,hc⟩) h)
     ·cases hd
  ·rename_i h1 h2
   injection hd with hd;subst hd;exact mk (HB bI ho (fun he=>by rcases he with he|he<;>first|exact absurd he h1|exact absurd he h2) h)
 ·rename_i op t x ho;injection hd with hd;subst hd;exact mk (UY bI ho h)
 ·rename_i s t x ho
  split at hd
  ·rename_i k' k h1 h2;injection hd with hd;subst hd;exact mk (QJ bI ho h1 h2 h)
  ·rename_i e h1 h2
   split at hd
   ·rename_i h3;injection hd with hd;subst hd;exact mk' (by simp[de.cls]) (Ov bI ho h1 h2 h3 h)
   ·cases hd
  ·rename_i e h1 h2
   split at hd
   ·rename_i h3;injection hd with hd;subst hd;exact mk' (by simp[de.cls]) (KQ bI ho h1 h2 h3 h)
   ·cases hd
  ·cases hd
 ·rename_i t x ho
  split at hd
  ·cases hd
  ·rename_i d hu hn;injection hd with hd;subst hd;exact mk (Og bI ho hn (fun ms e=>hu ms (by rw[e])) h)
  ·cases hd
 ·rename_i fn first captured ho;injection hd with hd;subst hd;exact mk (QK bI ho h)
 ·rename_i t ho;injection hd with hd;subst hd;exact mk' (by simp[de.cls]) (Mx ho h)
 ·rename_i t x y ho
  split at hd
  ·rename_i e hu
   cases hz:gC P e with
   |none=>rw[hz]at hd;cases hd
   |some z=>
    rw[hz,Option.bind_some]at hd
    split at hd
    ·rename_i hc;injection hd with hd;subst hd;exact mk' (by simp[de.cls]) (HF bI ho hu hz hc.1 hc.2.1 hc.2.2 h)
    ·cases hd
  ·cases hd
 ·rename_i t x lo hi mx ho
  split at hd
  ·rename_i e hu
   split at hd
   ·rename_i hc;injection hd with hd;subst hd;exact mk (Oi bI ho hu hc.1 (fun hm=>hc.2.elim (fun h1=>by cases mx<;>simp_all) id) h)
   ·cases hd
  ·rename_i hu
   split at hd
   ·rename_i hc;injection hd with hd;subst hd
    cases mx with
    |none=>exact mk (Mv bI ho hu h)
    |some m=>simp at hc
   ·cases hd
  ·cases hd
 ·rename_i s x f ho
  split at hd
  ·rename_i fields hu
   cases hf:fields[f]? with
   |none=>rw[hf]at hd;cases hd
   |some fd=>
    rw[hf,Option.bind_some]at hd
    split at hd
    ·rename_i hc;injection hd with hd;subst hd;exact mk (HC bI ho hu hf hc.1 hc.2 h)
    ·cases hd
  ·cases hd
 ·rename_i t x f ho
  split at hd
  ·rename_i fields hu
   cases hf:fields[f]? with
   |none=>rw[hf]at hd;cases hd
   |some fd=>
    rw[hf,Option.bind_some]at hd
    split at hd
    ·rename_i hc;injection hd with hd;subst hd;exact mk (Oh bI ho hu hf hc.1 hc.2 h)
    ·cases hd
  ·cases hd
 ·rename_i t x i' ho
  split at hd
  ·rename_i e hu
   split at hd
   ·rename_i hc;injection hd with hd;subst hd;exact mk (HD bI ho hu hc h)
   ·cases hd
  ·rename_i n e hu
   split at hd
   ·rename_i hc;injection hd with hd;subst hd;exact mk (Jh bI ho hu hc h)
   ·cases hd
  ·cases hd
 ·rename_i t x i' ho
  split at hd
  ·rename_i hu;injection hd with hd;subst hd;exact mk (Mu bI ho hu h)
  ·cases hd
 ·rename_i t x i' ok ho
  split at hd
  ·rename_i k e hu
   cases hs:cD P k with
   |none=>rw[hs]at hd;cases hd
   |some s=>
    rw[hs,Option.bind_some]at hd
    cases hz:gC P e with
    |none=>rw[hz]at hd;cases hd
    |some z=>rw[hz]at hd;injection hd with hd;subst hd;exact mk' (by simp[de.cls]) (My bI ho hu hs hz h)
  ·cases hd
 ·rename_i t m k v ho
  split at hd
  ·rename_i kt e hu
   cases hs:cD P kt with
   |none=>rw[hs]at hd;cases hd
   |some s=>rw[hs]at hd;injection hd with hd;subst hd;exact mk' (by simp[de.cls]) (Mz bI ho hu hs h)
  ·cases hd
 ·rename_i x i' ho;injection hd with hd;subst hd;exact mk (KO bI ho h)
 ·rename_i x s T ho
  split at hd
  ·cases hd
  ·rename_i d hu hn;injection hd with hd;subst hd;exact mk (Mt bI ho hn (fun ms e=>hu ms (by rw[e])) h)
  ·cases hd
 ·rename_i c ho
  split at hd
  ·rename_i f hc
   split at hd
   ·rename_i hb;injection hd with hd;subst hd;exact mk' (by simp[de.cls]) (QN bI ho hc hb h)
   ·injection hd with hd;subst hd;exact mk' (by simp[de.cls]) (Tm bI ho hc h)
  ·rename_i x hx hc;injection hd with hd;subst hd;exact mk' (by simp[de.cls]) (Tn bI ho hc h)
  ·rename_i r name hc;injection hd with hd;subst hd;exact mk' (by simp[de.cls]) (MB bI ho hc h)
  ·rename_i hc
   split at hd
   ·rename_i x e h1 h2;injection hd with hd;subst hd;exact mk (QO bI ho hc h1 h2 h)
   ·rename_i x h1 h2;injection hd with hd;subst hd;exact mk (QP bI ho hc h1 h2 h)
   ·rename_i x k e h1 h2;injection hd with hd;subst hd;exact mk' (by simp[de.cls]) (QQ bI ho hc h1 h2 h)
   ·cases hd
  ·rename_i hc
   split at hd
   ·rename_i x y e d h1 h2 h3
    cases hz:gC P e with
    |none=>rw[hz]at hd;cases hd
    |some z=>
     rw[hz,Option.bind_some]at hd
     split at hd
     ·rename_i hq;injection hd with hd;subst hd;exact mk' (by simp[de.cls]) (MC bI ho hc h1 h2 h3 hq.2.2.2.2 hz hq.1 hq.2.1 hq.2.2.1 hq.2.2.2.1 h)
     ·cases hd
   ·cases hd
  ·rename_i hc
   split at hd
   ·rename_i m k kt e h1 h2
    cases hs:cD P kt with
    |none=>rw[hs]at hd;cases hd
    |some s=>rw[hs]at hd;injection hd with hd;subst hd;exact mk' (by simp[de.cls]) (MA bI ho hc h1 h2 hs h)
   ·cases hd
  ·rename_i hc
   split at hd
   ·rename_i x e h1 h2
    cases hz:gC P e with
    |none=>rw[hz]at hd;cases hd
    |some z=>
     rw[hz,Option.bind_some]at hd
     split at hd
     ·rename_i hq;injection hd with hd;subst hd;exact mk' (by simp[de.cls]) (Oq bI ho hc h1 h2 hz hq h)
     ·cases hd
   ·cases hd
  ·rename_i hc;injection hd with hd;subst hd;exact mk (To bI ho hc h)
  ·rename_i hc;injection hd with hd;subst hd;exact mk (Tp bI ho hc h)
  ·cases hd
 ·cases hd
theorem am{α:Type}{o:Option α}{F G:α→Prop}(h:aE o F)(hk:∀v,F v→G v):aE o G:=by cases o;exact h;exact hk _ h
theorem bO{c F G:Prop}(h:eB c F)(hk:F→G):eB c G:=⟨h.1,hk h.2⟩
theorem HK{v:Value}{F G:Bool→Prop}(h:C3 v F)(hk:∀b,F b→G b):C3 v G:=by unfold C3 at*;split at h;exact hk _ h;exact h.elim
theorem og{F G:List Value→Prop}:∀ {xs:List Operand},Od ev xs F→(∀l,F l→G l)→Od ev xs G:=by
 intro xs
 induction xs generalizing F G with
 |nil=>intro h hk;exact hk _ h
 |cons x xs ih=>intro h hk;exact am h fun v h=>ih h fun l=>hk _
theorem HL{F G:List Value→Prop}:∀ {r:List (Nat×Nat×Operand)} {z:List Value},C5 ev z r F→(∀l,F l→G l)→C5 ev z r G:=by
 intro r
 induction r with
 |nil=>intro z h hk;exact hk _ h
 |cons p r ih=>obtain⟨off,size,x⟩:=p;intro z h hk;exact am h fun v h=>bO h fun h=>ih h hk
theorem tJ{v:Value}{F G:Nat→Nat→Prop}(h:zB v F)(hk:∀b o,F b o→G b o):zB v G:=by obtain⟨b,o,rfl,h⟩:=fN h;exact hk _ _ h
theorem nk{v:Value}{F G:Int→Prop}(h:EA v F)(hk:∀b,F b→G b):EA v G:=by obtain⟨b,o,rfl,h⟩:=kL h;exact hk _ h
theorem oh{v:Value}{F G:Option Addr→Nat→Nat→Prop}(h:sF v F)(hk:∀a n c,F a n c→G a n c):sF v G:=by obtain⟨a,n,c,rfl,h⟩:=kM h;exact hk _ _ _ h
theorem Bq{v:Option Addr}{F G:Nat→Nat→Prop}(h:xI v F)(hk:∀b o,F b o→G b o):xI v G:=by obtain⟨b,o,rfl,h⟩:=qQ h;exact hk _ _ h
theorem uQ{v:Value}{F G:ByteArray→Prop}(h:mh v F)(hk:∀b,F b→G b):mh v G:=by obtain⟨b,rfl,h⟩:=pR h;exact hk _ h
theorem QS{v:Value}{F G:List Value→Prop}(h:QG v F)(hk:∀b,F b→G b):QG v G:=by obtain⟨b,rfl,h⟩:=JI h;exact hk _ h
theorem QT{v:Value}{F G:List Value→Prop}(h:QH v F)(hk:∀b,F b→G b):QH v G:=by obtain⟨b,rfl,h⟩:=JJ h;exact hk _ h
theorem yf{v:Value}{F G:Option Nat→Prop}(h:EB v F)(hk:∀b,F b→G b):EB v G:=by obtain⟨b,rfl,h⟩:=nj h;exact hk _ h
theorem QU{v:Value}{F G:Bool→Prop}(h:Oe v F)(hk:∀b,F b→G b):Oe v G:=by
 rcases JK h with ⟨e,h⟩| ⟨t,u,e,h⟩<;>subst e<;>exact hk _ h
theorem KR{T:TypeId}{v:Value}{F G:Value→Prop}(h:yd T v F)(hk:∀b,F b→G b):yd T v G:=by obtain⟨b,e,h2⟩:=C6 h;subst e;exact⟨rfl,hk _ h2⟩
theorem Br{H:Hp}{size:Nat}{v:Value}{F G:Nat→List Value→Prop}(h:rowOf H size v F)(hk:∀n l,F n l→G n l):rowOf H size v G:=by
 unfold rowOf at*
 split at h
 ·rename_i a n c
  cases hn:n==0
  ·rw[hn]at h
   exact Bq h fun b o h=>am h fun l h=>bO h (hk _ _)
  ·rw[hn]at h
   exact hk _ _ h
 ·exact bO h (hk _ _)
 ·exact h.elim
theorem EY{H:Hp}{v:Value}{F G:List UInt8→Prop}(h:xM H v F)(hk:∀b,F b→G b):xM H v G:=by
 unfold xM at*
 split at h
 ·exact Br h fun n l h=>am h hk
 ·exact h.elim
theorem ol{x:Option Operand}{d:Nat}{F G:Int→Prop}(h:sG ev x d F)(hk:∀b,F b→G b):sG ev x d G:=by
 cases x with
 |none=>exact hk _ h
 |some x=>exact am h fun v h=>nk h hk
theorem Pg{K':Value→Hp→Prop}(i:de)(hc:i.cls= .pure)(h:i.vc P ev H K)(hk:∀v H',K v H'→K' v H'):i.vc P ev H K':=by
 cases i<;>simp[de.cls]at hc<;>simp only[de.vc]at h ⊢
 ·exact am h fun v=>hk _ _
 ·exact am h fun v h=>HK h fun b h=>am h fun v=>hk _ _
 ·exact HL h fun l=>hk _ _
 ·exact am h fun v h=>bO h (hk _ _)
 ·exact am h fun v h=>am h fun v h=>am h fun v=>hk _ _
 ·exact am h fun v h=>am h fun v=>hk _ _
 ·exact am h fun v h=>nk h fun v=>hk _ _
 ·exact am h fun v=>hk _ _
 ·exact og h fun l h=>og h fun l=>hk _ _
 ·exact am h fun v h=>oh h fun a n c h=>ol h fun m h=>ol h fun m h=>ol h fun m h=>bO h (hk _ _)
 ·exact am h fun v h=>uQ h fun s h=>ol h fun m h=>ol h fun m h=>bO h (hk _ _)
 ·exact am h fun v h=>tJ h fun b o=>hk _ _
 ·exact am h fun v h=>QT h fun l h=>am h fun v=>hk _ _
 ·exact am h fun v h=>am h fun v h=>oh h fun a n c h=>nk h fun i h=>bO h fun h=>Bq h fun b o=>hk _ _
 ·exact am h fun v h=>am h fun v h=>tJ h fun b o h=>nk h fun i h=>bO h (hk _ _)
 ·exact am h fun v h=>am h fun v h=>uQ h fun s h=>nk h fun i h=>bO h fun h=>am h fun b=>hk _ _
 ·exact am h fun v h=>QS h fun l h=>am h fun v=>hk _ _
 ·exact am h fun v h=>oh h fun a n c=>hk _ _
 ·exact am h fun v h=>uQ h fun s=>hk _ _
 ·exact og h fun l h=>am h fun v=>hk _ _
 ·exact og h fun l h=>am h fun v=>hk _ _
 ·exact am h fun v h=>KR h fun v=>hk _ _
 ·exact am h fun v h=>QU h fun v=>hk _ _
theorem Tq(i:de)(hc:i.cls= .quiet)(h:i.vc P ev H K):∃v,i.vc P ev H (fun v' H'=>v'=v∧H'=H)∧K v H:=by
 cases i<;>simp[de.cls]at hc
 ·obtain⟨p,hp,h⟩:=aD h
  obtain⟨b,o,rfl,h⟩:=fN h
  obtain⟨l,hl,h⟩:=aD h
  obtain⟨v,hv,h⟩:=aD h
  exact⟨v,by simp only[de.vc,hp,aE,zB,hl,hv,and_self],h⟩
 ·obtain⟨p,hp,h⟩:=aD h
  obtain⟨b,o,rfl,h⟩:=fN h
  obtain⟨l,hl,h⟩:=aD h
  obtain⟨hn,h⟩:=h.out
  exact⟨_,by simp only[de.vc,hp,aE,zB,hl,eB,hn,and_self],h⟩
 ·rename_i s z ok m k
  obtain⟨p,hp,h⟩:=aD h
  obtain⟨q,hq,h⟩:=aD h
  obtain⟨r,rfl,h⟩:=nj h
  obtain⟨hn,h⟩:=h.out
  cases r with
  |none=>exact⟨_,by simp only[de.vc,hp,hq,aE,EB,eB,hn,zM,and_self],h⟩
  |some b=>
   obtain⟨x,hx,h⟩:=aD h
   obtain⟨y,hy,h⟩:=aD h
   exact⟨_,by simp only[de.vc,hp,hq,aE,EB,eB,hn,zM,hx,hy,and_self],h⟩
 ·obtain⟨p,hp,h⟩:=aD h
  obtain⟨r,rfl,h⟩:=nj h
  cases r with
  |none=>exact⟨_,by simp only[de.vc,hp,aE,EB,Mq,and_self],h⟩
  |some b=>
   obtain⟨x,hx,h⟩:=aD h
   exact⟨_,by simp only[de.vc,hp,aE,EB,Mq,hx,and_self],h⟩
 ·obtain⟨p,hp,h⟩:=aD h
  have key:∃l,K (.string ⟨l.toArray⟩) H∧xM H p (fun l'=>l'=l):=by
   unfold xM at*
   split at h
   ·rename_i a n c
    unfold rowOf at*
    simp only at*
    cases hn:n==0
    ·rw[hn]at h
     obtain⟨b,o,rfl,h⟩:=qQ h
     obtain⟨l,hl,h⟩:=aD h
     obtain⟨h1,h⟩:=h.out
     obtain⟨bs,hb,h⟩:=aD h
     exact⟨bs,h,by simp only[Hv,xI,aE,hl,eB,h1,hb,and_self]⟩
    ·rw[hn]at h
     have h:aE (bytesOf []) fun l=>K (.string ⟨l.toArray⟩) H:=h
     obtain⟨bs,hb,h⟩:=aD h
     exact⟨bs,h,by simp only[Hv,aE,hb]⟩
   ·exact h.elim
  obtain⟨l,h1,h2⟩:=key
  refine⟨_,?_,h1⟩
  simp only[de.vc,hp,aE]
  exact EY h2 fun b e=>by rw[e];exact⟨rfl,rfl⟩
end
end Go.Vc
