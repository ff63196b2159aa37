/- Texts put behind each other. -/
import Derived.Test.YtjlnnljohemifaaGreatK98
import Derived.Test.YtjlnnljohemifaaGreatK6
import Derived.Lib.ConvBytes
import Derived.Laws.AppendOwn
import Derived.Laws.Append
set_option maxRecDepth 100000
set_option maxHeartbeats 8000000
set_option linter.unusedVariables false
set_option linter.unusedSimpArgs false
namespace Go.Vc
section
variable {P : Program} {o : Oper} {a : Act} {ev : Ev} {H : Hp} {K : Value → Hp → Prop}
theorem KO{t kt e:TypeId}{s:Shape}{z:Value}{x y:Operand}{ok:Bool}(bC:bM ev a)(ho:o.op= .lookup t x y ok)(ht:P.underlying t=some (.map kt e))
  (hs:cu P kt=some s)(hz:fh P e=some z)(h:(c7.lookup s z ok x y).vc P ev H K):dJ P o a H K:=by
 intro w hw
 subst hw
 obtain⟨r,hx,h⟩:=jH (aS bC (aS bC h))
 obtain⟨hk,h⟩:=h.out
 cases r with
 |none=>
  refine .inl ⟨gL ok z none,w,?_,bX.refl w,h⟩
  have hf:=jf (P:=P) (k:=a.eval y) (es:=[]) (r:=none) hs rfl w
  simp only[execOp,ho,Instr.lookup,Sem.run_bind,ap ht,Result.andThen_ok,hx,Sem.run_pure,gP hs hk,hf,cF hz]
  cases ok<;>rfl
 |some b=>
  obtain⟨m,hm,h⟩:=ay h
  obtain⟨rr,hr,h⟩:=ay h
  obtain⟨es,he,hl⟩:=DB hm
  rw[←hl]at hr
  refine .inl ⟨gL ok z (rr.map (·.2)),w,?_,bX.refl w,h⟩
  simp only[execOp,ho,Instr.lookup,Sem.run_bind,ap ht,Result.andThen_ok,hx,Sem.run_pure,ng he,gP hs hk,jf hs hr]
  cases rr with
  |none=>simp only[cF hz,Result.andThen_ok,Sem.run_bind,Sem.run_pure];cases ok<;>rfl
  |some q=>cases ok<;>rfl
theorem KP{t kt e:TypeId}{s:Shape}{x y z:Operand}(bC:bM ev a)(ho:o.op= .mapUpdate t x y z)(ht:P.underlying t=some (.map kt e))
  (hs:cu P kt=some s)(h:(c7.update s x y z).vc P ev H K):dJ P o a H K:=by
 intro w hw
 subst hw
 obtain⟨r,hx,h⟩:=jH (aS bC (aS bC (aS bC h)))
 obtain⟨b,rfl,h⟩:=ay h
 obtain⟨hk,h⟩:=h.out
 obtain⟨m,hm,h⟩:=ay h
 obtain⟨rr,hr,h⟩:=ay h
 obtain⟨sY,h⟩:=h.out
 obtain⟨es,he,hl⟩:=DB hm
 rw[←hl]at hr
 refine .inr (.inl ⟨{w with heap:=Hp.Ch w.heap b (Kk m.1 rr (a.eval y) (a.eval z) m.2) (IM rr m.2)},?_,⟨rfl,rfl⟩,h⟩)
 simp only[execOp,ho,Instr.mapUpdate,Sem.run_bind,ap ht,Result.andThen_ok,hx,ng he,gP hs hk,jf hs hr]
 cases rr with
 |none=>
  simp only[nh he,Result.andThen_ok,Sem.run_pure,Kk,IM,←hl]
  simp
 |some q=>
  obtain⟨i,v⟩:=q
  have hb:Instr.sameBits 10000 (((es[i]?).map (·.key)).getD (a.eval y)) (a.eval y)=true:=by
   simp only[DA,←hl]at sY
   simpa using sY
  simp only[Instr.keyThatStays,hb,if_true,Sem.run_bind,Sem.run_pure,Result.andThen_ok,nh he,Kk,IM,←hl]
  simp
theorem KQ{kt e:TypeId}{s:Shape}{c:Call}{x y:Operand}(bC:bM ev a)(ho:o.op= .call c)(hc:c.callee= .builtin .delete)(jS:c.args.toList=[x,y])
  (tU:(c.argTypes[0]?).bind P.underlying=some (.map kt e))(hs:cu P kt=some s)(h:(c7.delete s x y).vc P ev H K):dJ P o a H K:=by
 intro w hw
 subst hw
 obtain⟨r,hx,h⟩:=jH (aS bC (aS bC h))
 obtain⟨b,rfl,h⟩:=ay h
 obtain⟨hk,h⟩:=h.out
 obtain⟨m,hm,h⟩:=ay h
 obtain⟨rr,hr,h⟩:=ay h
 obtain⟨es,he,hl⟩:=DB hm
 rw[←hl]at hr
 have ha:c.args= #[x,y]:=Array.ext' jS
 obtain⟨t,ER,FD⟩:=Option.bind_eq_some_iff.1 tU
 refine .inl ⟨.tuple [].toArray,{w with heap:=Hp.Ch w.heap b (Fa m.1 rr) m.2},?_,⟨rfl,rfl⟩,h⟩
 simp only[execOp,ho,resolve,hc,Sem.run_bind,Sem.run_pure,Result.andThen_ok,invoke,builtin,ha,Builtin.delete_,ER]
 simp only[List.map_toArray,an3,List.map_nil,ao3,anG,aod,Sem.run_bind,ap FD,Result.andThen_ok,hx,ng he,gP hs hk,jf hs hr]
 cases rr with
 |none=>simp only[Sem.run_bind,nh he,Result.andThen_ok,Sem.run_pure,Fa,←hl]
 |some q=>
  obtain⟨i,v⟩:=q
  simp only[Sem.run_bind,nh he,Result.andThen_ok,Sem.run_pure,Fa,←hl,Array.toList_eraseIdxIfInBounds]
theorem MU{e:TypeId}{z:Value}{c:Call}{x:Operand}(bC:bM ev a)(ho:o.op= .call c)(hc:c.callee= .builtin .clear)(jS:c.args.toList=[x])
  (tU:(c.argTypes[0]?).bind P.underlying=some (.slice e))(hz:fh P e=some z)(Cp:(aF z).length≠0)(h:(c7.ML (aF z) x).vc P ev H K):dJ P o a H K:=by
 intro w hw
 subst hw
 obtain⟨ad,n,cp,hx,h⟩:=iw (aS bC h)
 have ha:c.args= #[x]:=Array.ext' jS
 obtain⟨t,ER,FD⟩:=Option.bind_eq_some_iff.1 tU
 have MQ:z.cells.toList=aF z:=eo z
 rcases h with ⟨rfl,h⟩| ⟨hn,b,off,l,rfl,hl,h1,h2,h⟩
 ·refine .inl ⟨.tuple [].toArray,w,?_,bX.refl w,h⟩
  simp only[execOp,ho,resolve,hc,Sem.run_bind,Sem.run_pure,Result.andThen_ok,invoke,builtin,ha,Builtin.clear_,ER]
  simp only[List.map_toArray,an3,List.map_nil,ao3,anG,Sem.run_bind,ap FD,Result.andThen_ok,hx]
  cases ad<;>simp
 ·have e1:(Builtin.zeroCells z.cells n).toList=cz (aF z) n:=by
   unfold Builtin.zeroCells
   rw[Ax rfl (by rw[←MQ]at Cp;simpa using Cp),MQ]
  have aV:(cz (aF z) n).length=n*(aF z).length:=by simp[cz]
  obtain⟨w',hs,LG,hk,_⟩:=gW (P:=P) (b:=b) (o:=off) (cz (aF z) n) 0 w l hl (by omega) h1
  have aM:cz (aF z) n≠[]:=fun e=>by
   rw[e]at aV
   simp only[aoi]at aV
   rcases Nat.mul_eq_zero.1 aV.symm with h|h
   ·exact hn h
   ·exact Cp h
  refine .inl ⟨.tuple [].toArray,w',?_,LG,?_⟩
  ·simp only[execOp,ho,resolve,hc,Sem.run_bind,Sem.run_pure,Result.andThen_ok,invoke,builtin,ha,Builtin.clear_,ER]
   simp only[List.map_toArray,an3,List.map_nil,ao3,anG,Sem.run_bind,ap FD,Result.andThen_ok,hx]
   cases n with
   |zero=>exact absurd rfl hn
   |succ n=>simp[cF hz,e1,hs]
  ·rw[hk aM];exact h
theorem qE{f:FuncId}(hc:ee P f=true)(args:Array Value)(w:World):(callFunc f args).run P w= .ok (.enter f args) w:=by
 unfold ee at hc
 split at hc
 ·rename_i fn hf
  simp only[an4,bne_iff_ne,ne_eq]at hc
  obtain⟨bd,hb⟩:=Option.isSome_iff_exists.1 hc.2
  simp[callFunc,hf,hc.1,hb]
 ·cases hc
theorem Pf{f:FuncId}{c:Call}(bC:bM ev a)(ho:o.op= .call c)(hc:c.callee= .value (.func f))(hb:ee P f=true)
  (h:(c7.call f c.args.toList).vc P ev H K):dJ P o a H K:=by
 intro w hw
 subst hw
 have h:=kE bC h
 refine .inr (.inr ⟨f,(c.args.map a.eval),w,?_,bX.refl w,by simpa using h⟩)
 simp[execOp,ho,resolve,hc,Act.eval,Deferred.ofValue,invoke,qE hb]
theorem RF{f:FuncId}{c:Call}(bC:bM ev a)(ho:o.op= .call c)(hc:c.callee= .value (.func f))
  (h:(c7.ext f c.args.toList).vc P ev H K):dJ P o a H K:=by
 intro w hw
 subst hw
 obtain⟨v,hv,hk⟩:=kE bC h
 refine .inl ⟨v,w,?_,bX.refl w,hk⟩
 have Nt:(callFunc f (c.args.map a.eval)).run P w= .ok (.value v) w:=by
  have h1:=hv w
  rw[show(List.map a.eval c.args.toList).toArray=c.args.map a.eval from Array.ext' (by simp)]at h1
  exact h1
 simp[execOp,ho,resolve,hc,Act.eval,Deferred.ofValue,invoke,Nt]
theorem RG{f:Operand}{c:Call}(bC:bM ev a)(ho:o.op= .call c)(hc:c.callee= .value f)
  (h:(c7.dyn f c.args.toList).vc P ev H K):dJ P o a H K:=by
 intro w hw
 subst hw
 have h:=kE bC (aS bC h)
 unfold Xa at h
 split at h
 ·rename_i g first captured hf
  refine .inr (.inr ⟨g,first++c.args.map a.eval++captured,w,?_,bX.refl w,by simpa using h.2⟩)
  simp only[execOp,ho,resolve,hc,hf,Deferred.ofValue,Sem.run_bind,Sem.run_pure,Result.andThen_ok,invoke,qE h.1]
 ·exact h.elim
theorem KR{r:Operand}{name:String}{c:Call}(bC:bM ev a)(ho:o.op= .call c)(hc:c.callee= .invoke r name)
  (h:(c7.invoke r name c.args.toList).vc P ev H K):dJ P o a H K:=by
 intro w hw
 subst hw
 obtain⟨T,v,f,rv,hr,⟨C5,hm⟩,h⟩:=kE bC (aS bC h)
 refine .inr (.inr ⟨f, #[rv]++c.args.map a.eval,w,?_,bX.refl w,by simpa using h⟩)
 have hx:(#[Value.iface T v]++c.args.map a.eval)[0]? =some (.iface T v):=by rw[aoJ (by simp)];rfl
 have r7:(#[Value.iface T v]++c.args.map a.eval).extract 1 (#[Value.iface T v]++c.args.map a.eval).size=c.args.map a.eval:=by
  apply Array.ext'
  simp only[Array.toList_extract,Array.toList_append,Array.toList_map,Array.size_append]
  simp[ao0]
 simp only[execOp,ho,resolve,hc,hr,Sem.run_bind,Sem.run_pure,Result.andThen_ok,invoke,hx,r7,callMethod,run_program,hm w rfl,qE C5]
theorem lN{c:Call}{x:Operand}(ho:o.op= .call c)(hc:c.callee= .builtin .len)(jS:c.args.toList=[x]){w:World}{n:Nat}
  (hr:(Builtin.len_ c.argTypes o.type #[a.eval x]).run P w= .ok (goInt n) w):(execOp a.eval o).run P w= .ok (.value (.int .i64 n)) w:=by
 have ha:c.args= #[x]:=Array.ext' jS
 have hav:c.args.map a.eval= #[a.eval x]:=by rw[ha];simp
 simp only[execOp,ho,resolve,hc,Sem.run_bind,Sem.run_pure,Result.andThen_ok,invoke,builtin,hav,hr,goInt]
theorem Pg{c:Call}{x:Operand}{e:TypeId}(bC:bM ev a)(ho:o.op= .call c)(hc:c.callee= .builtin .len)(jS:c.args.toList=[x])
  (tU:(c.argTypes[0]?).bind P.underlying=some (.slice e))(h:(c7.TI x).vc P ev H K):dN P o a H K:=by
 obtain⟨t,ER,FD⟩:=Option.bind_eq_some_iff.1 tU
 obtain⟨ad,n,cp,hx,h⟩:=iw (aS bC h)
 refine⟨_,fun w=>lN ho hc jS (n:=n) ?_,h⟩
 simp[Builtin.len_,ER,ap FD,goInt,hx]
theorem Ph{c:Call}{x:Operand}(bC:bM ev a)(ho:o.op= .call c)(hc:c.callee= .builtin .len)(jS:c.args.toList=[x])
  (tU:(c.argTypes[0]?).bind P.underlying=some .string)(h:(c7.TJ x).vc P ev H K):dN P o a H K:=by
 obtain⟨t,ER,FD⟩:=Option.bind_eq_some_iff.1 tU
 obtain⟨s,hx,h⟩:=lM (aS bC h)
 refine⟨_,fun w=>lN ho hc jS (n:=s.size) ?_,h⟩
 simp[Builtin.len_,ER,ap FD,goInt,hx]
theorem Pj{c:Call}{x:Operand}{k e:TypeId}(bC:bM ev a)(ho:o.op= .call c)(hc:c.callee= .builtin .len)(jS:c.args.toList=[x])
  (tU:(c.argTypes[0]?).bind P.underlying=some (.map k e))(h:(c7.TK x).vc P ev H K):dJ P o a H K:=by
 intro w hw
 subst hw
 obtain⟨t,ER,FD⟩:=Option.bind_eq_some_iff.1 tU
 obtain⟨r,hx,h⟩:=jH (aS bC h)
 cases r with
 |none=>
  refine .inl ⟨_,w,lN ho hc jS (n:=0) ?_,bX.refl w,h⟩
  simp[Builtin.len_,ER,ap FD,goInt,hx]
 |some b=>
  obtain⟨m,hm,h⟩:=ay h
  obtain⟨es,he,hl⟩:=DB hm
  refine .inl ⟨_,w,lN ho hc jS (n:=m.1.length) ?_,bX.refl w,h⟩
  simp[Builtin.len_,ER,ap FD,goInt,hx,ng he,←hl]
theorem TS:∀ (r:List Value) (x v:Value),KE x r=some v→∀w:World,(r.foldlM Builtin.min2 x).run P w= .ok v w:=by
 intro r
 induction r with
 |nil=>intro x v h w;injection h with h;subst h;rfl
 |cons y r ih=>
  intro x v h w
  unfold KE at h
  split at h
  ·rename_i k p k' q
   simp[List.foldlM_cons,Builtin.min2,ih _ v h w]
  ·cases h
theorem TT:∀ (r:List Value) (x v:Value),KF x r=some v→∀w:World,(r.foldlM Builtin.max2 x).run P w= .ok v w:=by
 intro r
 induction r with
 |nil=>intro x v h w;injection h with h;subst h;rfl
 |cons y r ih=>
  intro x v h w
  unfold KF at h
  split at h
  ·rename_i k p k' q
   simp[List.foldlM_cons,Builtin.max2,ih _ v h w]
  ·cases h
theorem RH{c:Call}(bC:bM ev a)(ho:o.op= .call c)(hc:c.callee= .builtin .min)(h:(c7.TL c.args.toList).vc P ev H K):dN P o a H K:=by
 obtain⟨v,hv,h⟩:=ay (kE bC h)
 refine⟨v,fun w=>?_,h⟩
 have e:(Builtin.min_ c.argTypes o.type (c.args.map a.eval)).run P w= .ok v w:=by
  unfold Builtin.min_
  rw[Array.toList_map]
  cases hl:c.args.toList.map a.eval with
  |nil=>rw[hl]at hv;cases hv
  |cons x r=>rw[hl]at hv;exact TS r x v hv w
 simp only[execOp,ho,resolve,hc,Sem.run_bind,Sem.run_pure,Result.andThen_ok,invoke,builtin,e]
theorem RI{c:Call}(bC:bM ev a)(ho:o.op= .call c)(hc:c.callee= .builtin .max)(h:(c7.TM c.args.toList).vc P ev H K):dN P o a H K:=by
 obtain⟨v,hv,h⟩:=ay (kE bC h)
 refine⟨v,fun w=>?_,h⟩
 have e:(Builtin.max_ c.argTypes o.type (c.args.map a.eval)).run P w= .ok v w:=by
  unfold Builtin.max_
  rw[Array.toList_map]
  cases hl:c.args.toList.map a.eval with
  |nil=>rw[hl]at hv;cases hv
  |cons x r=>rw[hl]at hv;exact TT r x v hv w
 simp only[execOp,ho,resolve,hc,Sem.run_bind,Sem.run_pure,Result.andThen_ok,invoke,builtin,e]
theorem yx{H:Hp}{size:Nat}{v:Value}{F:Nat→List Value→Prop}(h:rowOf H size v F):
  ∃ (n:Nat) (l:List Value),F n l∧(∀w:World,(Builtin.lenOf v).run P w= .ok n w)∧(∀w:World,w.heap=H→(Builtin.firstCells size n v).run P w= .ok l.toArray w)∧l.length=n*size∧
   (∀b m c,v= .slice b m c→m=n):=by
 unfold rowOf at h
 split at h
 ·rename_i a n c
  by_cases JW:n=0
  ·subst JW
   refine⟨0,[],h,fun _=>rfl,fun w hw=>?_,by simp,fun _ _ _ e=>by injection e with _ e _;exact e.symm⟩
   cases a with
   |none=>rfl
   |some a=>simp only[Builtin.firstCells,anU];rfl
  ·have e0:(n==0)=false:=by simpa using JW
   rw[e0]at h
   obtain⟨b,off,rfl,h1⟩:=mG (F:=fun b o=>aA (H.rd b) fun l=>dt (o+n*size≤l.length) (F n ((l.drop o).take (n*size)))) h
   obtain⟨l,hl,h2⟩:=ay h1
   obtain⟨hn,h3⟩:=h2.out
   refine⟨n,_,h3,fun _=>rfl,fun w hw=>?_,by simp;omega,fun _ _ _ e=>by injection e with _ e _;exact e.symm⟩
   subst hw
   exact oY (P:=P) (a:=⟨b,off,none⟩) rfl hl hn
 ·rename_i s
  obtain⟨e1,h2⟩:=h.out
  subst e1
  refine⟨s.size,_,h2,fun _=>rfl,fun w _=>?_,?_,fun _ _ _ e=>by cases e⟩
  ·simp only[Builtin.firstCells,Sem.run_pure]
   congr 1
   apply Array.ext'
   have:s.extract 0 s.size=s:=by
    apply ByteArray.ext
    simp
   rw[this]
   simp
  ·rw[anz,ane,Array.length_toList];rfl
 ·exact h.elim
theorem IV{s t e:TypeId}{x:Operand}(bC:bM ev a)(ho:o.op= .convert s t x)(hs:P.underlying s=some .string)(ht:P.underlying t=some (.slice e))(he:P.underlying e=some (.int .u8))
  (h:(c7.IR e x).vc P ev H K):dJ P o a H K:=by
 intro w hw
 subst hw
 have h:=aS bC h
 unfold jd at h
 split at h
 ·rename_i bs hx
  have hr:=Lib.run_convert_string_bytes (P:=P) w s t e bs hs ht he
  have M7:=grownCap_ge w bs.size 0 e
  refine .inl ⟨.slice (some ⟨w.heap.size,0,none⟩) bs.size (grownCap w bs.size 0 e),Lib.bytesWorld w e bs,?_,⟨rfl,rfl⟩,?_⟩
  ·simp only[execOp,ho]
   rw[hx]at*
   simp only[Sem.run_bind,hr,Result.andThen_ok,Sem.run_pure]
  ·have hk:=h _ M7
   have e1:(Lib.bytesWorld w e bs).heap=Hp.MD w.heap e ((bs.data.toList.map fun b=>.int .u8 b.toNat)++List.replicate (grownCap w bs.size 0 e - bs.size) (.int .u8 0)):=by
    apply Array.ext_getElem?
    intro i
    rcases aoG i w.heap.size with hi|hi|hi
    ·rw[Lib.bytesWorld_at_old w e bs i hi,Ky _ _ _ hi]
    ·subst hi
     rw[Lib.bytesWorld_at_new]
     simp[Hp.MD,Lib.bytesCells]
    ·rw[aou (by rw[Lib.bytesWorld_size];omega),aou (by rw[O5];omega)]
   rw[e1]
   exact hk
 ·exact h.elim
theorem MV:∀ (l:List Value) (bs:List UInt8),bytesOf l=some bs→∀ (s:ByteArray) (w:World),
  (forIn l s fun c (s:ByteArray)=>(match c with| .int .u8 n=>pure (ForInStep.yield (s.push (UInt8.ofNat n.toNat)))|_=>(do stuck "bytesToString: byte expected";pure (ForInStep.yield s)):Sem (ForInStep ByteArray))).run P w= .ok ⟨s.data++bs.toArray⟩ w:=by
 intro l
 induction l with
 |nil=>intro bs h s w;simp only[bytesOf,anl]at h;subst h;simp
 |cons v l ih=>
  intro bs h s w
  cases v with
  |int k n=>
   cases k with
   |u8=>
    simp only[bytesOf]at h
    cases hb:bytesOf l with
    |none=>rw[hb]at h;cases h
    |some r=>
     rw[hb]at h
     simp only[Option.map_some,anl]at h
     subst h
     simp only[List.forIn_cons,Sem.run_bind,Sem.run_pure,Result.andThen_ok]
     rw[ih r hb]
     congr 1
     apply ByteArray.ext
     apply Array.ext'
     simp[ByteArray.push]
   |_=>simp[bytesOf]at h
  |_=>simp[bytesOf]at h
theorem MW{s t e:TypeId}{x:Operand}(bC:bM ev a)(ho:o.op= .convert s t x)(hs:P.underlying s=some (.slice e))(ht:P.underlying t=some .string)(he:P.underlying e=some (.int .u8))
  (h:(c7.NL x).vc P ev H K):dJ P o a H K:=by
 intro w hw
 subst hw
 have h:=aS bC h
 unfold tO at h
 split at h
 ·rename_i ad n c hx
  obtain⟨m,l,h,h1,h2,h3,h4⟩:=yx (P:=P) h
  obtain⟨bs,hb,h⟩:=ay h
  refine .inl ⟨_,w,?_,bX.refl w,h⟩
  have hm:n=m:=h4 _ _ _ rfl
  subst hm
  have h5:=h2 w rfl
  have key:(Conv.bytesToString (.slice ad n c)).run P w= .ok (.string ⟨bs.toArray⟩) w:=by
   cases ad with
   |none=>
    simp only[Builtin.firstCells,Sem.run_pure,Result.ok.injEq,and_true]at h5
    have hl:l=[]:=by
     have:=anx Array.toList h5
     simpa using this.symm
    subst hl
    simp only[bytesOf,anl]at hb
    subst hb
    rfl
   |some ad=>
    simp only[Builtin.firstCells,ane]at h5
    simp only[Conv.bytesToString,Sem.run_bind,h5,Result.andThen_ok]
    rw[List.forIn_toArray]
    refine(anx (fun r=>Result.andThen r fun a w'=>Sem.run P (pure (Value.string a)) w') (MV (P:=P) l bs hb ByteArray.empty w)).trans ?_
    simp only[Result.andThen_ok,Sem.run_pure]
    congr 3
    simp
  simp only[execOp,ho,convert,hx,Sem.run_bind,ap hs,ap ht,ap he,Result.andThen_ok,key]
  rfl
 ·exact h.elim
theorem UM{d:TypeDesc}(hd:Fb d=true):(∃e,d= .slice e)∨d= .string:=by
 cases d<;>first|exact .inl ⟨_,rfl⟩|exact .inr rfl| (cases hd)
theorem GV{Xf:Array TypeId}{ty t t' e:TypeId}{d:TypeDesc}{w:World}{base:Option Addr}{n cap m:Nat}{y:Value}{new:Array Value}(ER:Xf[0]? =some t)(Pk:Xf[1]? =some t')
  (FD:P.underlying t=some (.slice e))(BQ:P.underlying t'=some d)(hd:Fb d=true)(hi:(P.info? e).isSome=true)
  (aV:(Builtin.lenOf y).run P w= .ok m w)(qt:(Builtin.firstCells (P.cellsOf e) m y).run P w= .ok new w)(mJ:n+m≤cap):
  (Builtin.append_ Xf ty #[.slice base n cap,y]).run P w=
   ((match base with|some a=>storeCells (a.add (n*P.cellsOf e)) new.toList|none=>(pure ():Sem Unit)).run P w).andThen fun _ w'=>.ok (.slice base (n+m) cap) w':=by
 rcases UM hd with ⟨e',rfl⟩|rfl<;>unfold Builtin.append_<;>
 simp only[ao3,anG,aod,ER,Pk,Sem.run_bind,ap FD,ap BQ,Result.andThen_ok,bG hi,Sem.run_pure,aV,aof,if_false,if_pos mJ,aoT,if_true,qt]<;>
 cases base<;>simp only[Sem.run_pure,Result.andThen_ok,Sem.run_bind]
theorem Fo{Xf:Array TypeId}{ty t t' e:TypeId}{d:TypeDesc}{w:World}{base:Option Addr}{n cap m:Nat}{y z:Value}{new Q4:Array Value}(ER:Xf[0]? =some t)(Pk:Xf[1]? =some t')
  (FD:P.underlying t=some (.slice e))(BQ:P.underlying t'=some d)(hd:Fb d=true)(hi:(P.info? e).isSome=true)(hz:fh P e=some z)
  (aV:(Builtin.lenOf y).run P w= .ok m w)(qt:(Builtin.firstCells (P.cellsOf e) m y).run P w.drew= .ok new w.drew)
  (hold:(Builtin.firstCells (P.cellsOf e) n (.slice base n cap)).run P w.drew= .ok Q4 w.drew)
  (mJ:cap<n+m)(hb:Builtin.nextslicecap (n+m) cap*P.bytesOf e≤2^48)(Qh:P.bytesOf e≠0):
  ∃c',n+m≤c'∧(Builtin.append_ Xf ty #[.slice base n cap,y]).run P w=
   .ok (.slice (some ⟨w.heap.size,0,none⟩) (n+m) c') {w with drawn:=w.drawn+1,heap:=Hp.new w.heap e ((Q4++new++Builtin.zeroCells z.cells (c' - (n+m))).toList)}:=by
 obtain⟨inf,abG⟩:=Option.isSome_iff_exists.1 hi
 have Xg:inf.bytes=P.bytesOf e:=by simp[Program.bytesOf,abG]
 refine⟨(Question.appendCap (n+m) cap e).cut (w.tape w.drawn (.appendCap (n+m) cap e)),by simp[Question.cut],?_⟩
 have aM:n+m≤2^48:=by
  have h1:=le_nextslicecap mJ
  have h2:Builtin.nextslicecap (n+m) cap≤Builtin.nextslicecap (n+m) cap*P.bytesOf e:=Nat.le_mul_of_pos_right _ (by omega)
  omega
 have bJ:¬ (9223372036854775807< ((n:Int)+(m:Int))):=by omega
 have agq:¬ (281474976710656<Builtin.nextslicecap (n+m) cap*P.bytesOf e):=by omega
 have hn:¬ (n+m≤cap):=by omega
 rcases UM hd with ⟨e',rfl⟩|rfl<;>
  simp[Builtin.append_,ER,Pk,ap FD,ap BQ,bG hi,aV,hn,dQ abG,Xg,Qh,agq,Question.forced,cF hz,hold,qt,kF]<;>
  exact⟨rfl,rfl,rfl⟩
theorem KS{c:Call}{e:TypeId}{d:TypeDesc}{z:Value}{x y:Operand}(bC:bM ev a)(ho:o.op= .call c)(hc:c.callee= .builtin .append)(jS:c.args.toList=[x,y])
  (tU:(c.argTypes[0]?).bind P.underlying=some (.slice e))(agr:(c.argTypes[1]?).bind P.underlying=some d)(hd:Fb d=true)(hz:fh P e=some z)(hi:(P.info? e).isSome=true)
  (h0:P.cellsOf e≠0)(hl:(aF z).length=P.cellsOf e)(Qh:P.bytesOf e≠0)(h:(c7.append e (P.cellsOf e) (P.bytesOf e) (aF z) x y).vc P ev H K):dJ P o a H K:=by
 intro w hw
 subst hw
 have ha:c.args= #[x,y]:=Array.ext' jS
 obtain⟨t,ER,FD⟩:=Option.bind_eq_some_iff.1 tU
 obtain⟨t',Pk,BQ⟩:=Option.bind_eq_some_iff.1 agr
 have MQ:z.cells.toList=aF z:=eo z
 have Nd:z.cells.size=P.cellsOf e:=by rw[←hl,←MQ];simp
 obtain⟨base,n,cap,hx,h⟩:=iw (aS bC (aS bC h))
 have h':=h
 obtain⟨m,new,h,aV,qt,hnl,_⟩:=yx (P:=P) h
 obtain⟨hA,hB,hC⟩:=h
 have hav:c.args.map a.eval= #[.slice base n cap,a.eval y]:=by rw[ha];simp[hx]
 have pre:∀v w',(Builtin.append_ c.argTypes o.type #[.slice base n cap,a.eval y]).run P w= .ok v w'→(execOp a.eval o).run P w= .ok (.value v) w':=by
  intro v w' hr
  simp only[execOp,ho,resolve,hc,Sem.run_bind,Sem.run_pure,Result.andThen_ok,invoke,builtin,hav,hr]
 by_cases mJ:n+m≤cap
 ·have hr:=GV (ty:=o.type) (base:=base) ER Pk FD BQ hd hi (aV w) (qt w rfl) mJ
  by_cases hm:m=0
  ·subst hm
   have JW:new=[]:=anL.1 (by omega)
   subst JW
   refine .inl ⟨_,w,pre _ w ?_,bX.refl w,hA mJ rfl⟩
   rw[hr]
   cases base<;>simp[storeCells]
  ·obtain⟨b,off,rfl,hB⟩:=mG (hB mJ hm)
   obtain⟨l,Dy,hB⟩:=ay hB
   obtain⟨⟨h1,h2⟩,hB⟩:=hB.out
   obtain⟨w',hs,LG,hk,_⟩:=gW (P:=P) (b:=b) (o:=off+n*P.cellsOf e) new 0 w l Dy (by rw[aox]at h1;omega) h2
   have aM:new≠[]:=fun e'=>by
    rw[e']at hnl
    rcases Nat.mul_eq_zero.1 hnl.symm with h|h
    ·exact hm h
    ·exact h0 h
   refine .inl ⟨_,w',pre _ w' ?_,LG,hk aM▸hB⟩
   rw[hr]
   simp only[xS,List.toList_toArray,hs,Result.andThen_ok]
 ·obtain⟨hb,hC⟩:=hC (by omega)
  rw[hx]at hC
  obtain⟨n',Q4,hC,_,hold,ZW,hn'⟩:=yx (P:=P) hC
  have:n=n':=hn' _ _ _ rfl
  subst this
  obtain⟨c',HJ,hr⟩:=Fo (ty:=o.type) (base:=base) ER Pk FD BQ hd hi hz (aV w) (qt w.drew rfl) (hold w.drew rfl) (by omega) hb Qh
  refine .inl ⟨_,_,pre _ _ hr,⟨rfl,rfl⟩,?_⟩
  have e1:(Q4.toArray++new.toArray++Builtin.zeroCells z.cells (c' - (n+m))).toList=Q4++new++cz (aF z) (c' - (n+m)):=by
   rw[Array.toList_append,Array.toList_append]
   congr 1
   unfold Builtin.zeroCells
   rw[Ax rfl (by omega),MQ]
  rw[e1]
  exact hC c' HJ
end
end Go.Vc

namespace Go.Vc
def c7.cls:c7→JQ
 | .mov _| .pick .. | .build .. | .nilCheck _| .bin .. | .un .. | .conv .. | .iface .. | .func .. | .slice .. | .IN .. | .fieldAddr .. | .field .. | .indexAddr .. | .Au .. | .IP .. | .extract ..
 | .TI _| .TJ _| .TL _| .TM _| .IQ .. | .TN .. =>.pure
 | .NJ _| .NK .. | .lookup .. | .TK _| .NL _=>.quiet
 |_=>.Gj
section
variable {P : Program} {o : Oper} {a : Act} {ev : Ev} {H : Hp} {K : Value → Hp → Prop}
theorem sound(i:c7)(hd:Hy P o=some i)(bC:bM ev a)(h:i.vc P ev H K):(i.cls= .pure→dN P o a H K)∧dJ P o a H K:=by
 have mk:dN P o a H K→(i.cls= .pure→dN P o a H K)∧dJ P o a H K:=fun hp=>⟨fun _=>hp,hp.agj⟩
 have mk':i.cls≠ .pure→dJ P o a H K→(i.cls= .pure→dN P o a H K)∧dJ P o a H K:=fun hn hp=>⟨fun e=>absurd e hn,hp⟩
 unfold Hy at hd
 split at hd
 ·rename_i x ho;injection hd with hd;subst hd;exact mk (KI bC (.inl ho) h)
 ·rename_i x ho;injection hd with hd;subst hd;exact mk (KI bC (.inr ho) h)
 ·rename_i c x y ho;injection hd with hd;subst hd;exact mk (O9 bC ho h)
 ·rename_i T x ho;injection hd with hd;subst hd;exact mk' (by simp[c7.cls]) (RE bC ho h)
 ·rename_i T ho
  cases hz:fh P T with
  |none=>rw[hz]at hd;cases hd
  |some z=>rw[hz]at hd;injection hd with hd;subst hd;exact mk' (by simp[c7.cls]) (Pe hz ho h)
 ·rename_i t ps ho
  cases hz:fh P t with
  |none=>rw[hz]at hd;cases hd
  |some z=>
   rw[hz,Option.bind_some]at hd
   cases hq:parts P t (aF z).length ps.toList with
   |none=>rw[hq]at hd;cases hd
   |some qs=>rw[hq]at hd;injection hd with hd;subst hd;exact mk (MP bC ho hz hq h)
 ·rename_i t n ps ho
  split at hd
  ·rename_i e hu
   cases hz:fh P e with
   |none=>rw[hz]at hd;cases hd
   |some z=>
    rw[hz,Option.bind_some]at hd
    split at hd
    ·rename_i hc
     cases hq:jN (fun i=>some (i*P.cellsOf e,P.cellsOf e)) (n*P.cellsOf e) ps.toList with
     |none=>rw[hq]at hd;cases hd
     |some qs=>rw[hq]at hd;injection hd with hd;subst hd;exact mk' (by simp[c7.cls]) (RD bC ho hu hz hc.1 hc.2.1 hc.2.2.1 hc.2.2.2 hq h)
    ·cases hd
  ·cases hd
 ·rename_i t x ho
  split at hd
  ·rename_i hc
   split at hd
   ·rename_i hg;injection hd with hd;subst hd;exact mk' (by simp[c7.cls]) (MS bC ho hc.1 hc.2 hg h)
   ·rename_i hg;injection hd with hd;subst hd;exact mk' (by simp[c7.cls]) (MR bC ho hc.1 hc.2 (by simpa using hg) h)
  ·cases hd
 ·rename_i t x y ho
  split at hd
  ·rename_i hc;injection hd with hd;subst hd;exact mk' (by simp[c7.cls]) (MT bC ho hc.1 hc.2 h)
  ·cases hd
 ·rename_i x ho;injection hd with hd;subst hd;exact mk (GS bC ho h)
 ·rename_i op t x y t' ho
  split at hd
  ·split at hd
   ·rename_i ms hu;injection hd with hd;subst hd;exact mk (Hz bC ho hu (.inl ⟨rfl,rfl⟩) h)
   ·cases hs:shapeOf P eF t with
    |none=>rw[hs]at hd;cases hd
    |some s=>
     rw[hs,Option.bind_some]at hd
     split at hd
     ·rename_i hc;injection hd with hd;subst hd;exact mk (Ff bC ho (fun _=>⟨hs,hc⟩) h)
     ·cases hd
  ·split at hd
   ·rename_i ms hu;injection hd with hd;subst hd;exact mk (Hz bC ho hu (.inr ⟨rfl,rfl⟩) h)
   ·cases hs:shapeOf P eF t with
    |none=>rw[hs]at hd;cases hd
    |some s=>
     rw[hs,Option.bind_some]at hd
     split at hd
     ·rename_i hc;injection hd with hd;subst hd;exact mk (Ff bC ho (fun _=>⟨hs,hc⟩) h)
     ·cases hd
  ·rename_i h1 h2
   injection hd with hd;subst hd;exact mk (Ff bC ho (fun he=>by rcases he with he|he<;>first|exact absurd he h1|exact absurd he h2) h)
 ·rename_i op t x ho;injection hd with hd;subst hd;exact mk (TR bC ho h)
 ·rename_i s t x ho
  split at hd
  ·rename_i k' k h1 h2;injection hd with hd;subst hd;exact mk (Pa bC ho h1 h2 h)
  ·rename_i e h1 h2
   split at hd
   ·rename_i h3;injection hd with hd;subst hd;exact mk' (by simp[c7.cls]) (MW bC ho h1 h2 h3 h)
   ·cases hd
  ·rename_i e h1 h2
   split at hd
   ·rename_i h3;injection hd with hd;subst hd;exact mk' (by simp[c7.cls]) (IV bC ho h1 h2 h3 h)
   ·cases hd
  ·cases hd
 ·rename_i t x ho
  split at hd
  ·cases hd
  ·rename_i d hu hn;injection hd with hd;subst hd;exact mk (MM bC ho hn (fun ms e=>hu ms (by rw[e])) h)
  ·cases hd
 ·rename_i fn first captured ho;injection hd with hd;subst hd;exact mk (Pb bC ho h)
 ·rename_i t ho;injection hd with hd;subst hd;exact mk' (by simp[c7.cls]) (KN ho h)
 ·rename_i t x y ho
  split at hd
  ·rename_i e hu
   cases hz:fh P e with
   |none=>rw[hz]at hd;cases hd
   |some z=>
    rw[hz,Option.bind_some]at hd
    split at hd
    ·rename_i hc;injection hd with hd;subst hd;exact mk' (by simp[c7.cls]) (Fj bC ho hu hz hc.1 hc.2.1 hc.2.2 h)
    ·cases hd
  ·cases hd
 ·rename_i t x lo hi mx ho
  split at hd
  ·rename_i e hu
   split at hd
   ·rename_i hc;injection hd with hd;subst hd;exact mk (MO bC ho hu hc.1 (fun hm=>hc.2.elim (fun h1=>by cases mx<;>simp_all) id) h)
   ·cases hd
  ·rename_i hu
   split at hd
   ·rename_i hc;injection hd with hd;subst hd
    cases mx with
    |none=>exact mk (KL bC ho hu h)
    |some m=>simp at hc
   ·cases hd
  ·cases hd
 ·rename_i s x f ho
  split at hd
  ·rename_i fields hu
   cases hf:fields[f]? with
   |none=>rw[hf]at hd;cases hd
   |some fd=>
    rw[hf,Option.bind_some]at hd
    split at hd
    ·rename_i hc;injection hd with hd;subst hd;exact mk (Fg bC ho hu hf hc.1 hc.2 h)
    ·cases hd
  ·cases hd
 ·rename_i t x f ho
  split at hd
  ·rename_i fields hu
   cases hf:fields[f]? with
   |none=>rw[hf]at hd;cases hd
   |some fd=>
    rw[hf,Option.bind_some]at hd
    split at hd
    ·rename_i hc;injection hd with hd;subst hd;exact mk (MN bC ho hu hf hc.1 hc.2 h)
    ·cases hd
  ·cases hd
 ·rename_i t x i' ho
  split at hd
  ·rename_i e hu
   split at hd
   ·rename_i hc;injection hd with hd;subst hd;exact mk (Fh bC ho hu hc h)
   ·cases hd
  ·rename_i n e hu
   split at hd
   ·rename_i hc;injection hd with hd;subst hd;exact mk (GU bC ho hu hc h)
   ·cases hd
  ·cases hd
 ·rename_i t x i' ho
  split at hd
  ·rename_i hu;injection hd with hd;subst hd;exact mk (KK bC ho hu h)
  ·cases hd
 ·rename_i t x i' ok ho
  split at hd
  ·rename_i k e hu
   cases hs:cu P k with
   |none=>rw[hs]at hd;cases hd
   |some s=>
    rw[hs,Option.bind_some]at hd
    cases hz:fh P e with
    |none=>rw[hz]at hd;cases hd
    |some z=>rw[hz]at hd;injection hd with hd;subst hd;exact mk' (by simp[c7.cls]) (KO bC ho hu hs hz h)
  ·cases hd
 ·rename_i t m k v ho
  split at hd
  ·rename_i kt e hu
   cases hs:cu P kt with
   |none=>rw[hs]at hd;cases hd
   |some s=>rw[hs]at hd;injection hd with hd;subst hd;exact mk' (by simp[c7.cls]) (KP bC ho hu hs h)
  ·cases hd
 ·rename_i x i' ho;injection hd with hd;subst hd;exact mk (IT bC ho h)
 ·rename_i x s T ho
  split at hd
  ·cases hd
  ·rename_i d hu hn;injection hd with hd;subst hd;exact mk (KJ bC ho hn (fun ms e=>hu ms (by rw[e])) h)
  ·cases hd
 ·rename_i c ho
  split at hd
  ·rename_i f hc
   split at hd
   ·rename_i hb;injection hd with hd;subst hd;exact mk' (by simp[c7.cls]) (Pf bC ho hc hb h)
   ·injection hd with hd;subst hd;exact mk' (by simp[c7.cls]) (RF bC ho hc h)
  ·rename_i x hx hc;injection hd with hd;subst hd;exact mk' (by simp[c7.cls]) (RG bC ho hc h)
  ·rename_i r name hc;injection hd with hd;subst hd;exact mk' (by simp[c7.cls]) (KR bC ho hc h)
  ·rename_i hc
   split at hd
   ·rename_i x e h1 h2;injection hd with hd;subst hd;exact mk (Pg bC ho hc h1 h2 h)
   ·rename_i x h1 h2;injection hd with hd;subst hd;exact mk (Ph bC ho hc h1 h2 h)
   ·rename_i x k e h1 h2;injection hd with hd;subst hd;exact mk' (by simp[c7.cls]) (Pj bC ho hc h1 h2 h)
   ·cases hd
  ·rename_i hc
   split at hd
   ·rename_i x y e d h1 h2 h3
    cases hz:fh P e with
    |none=>rw[hz]at hd;cases hd
    |some z=>
     rw[hz,Option.bind_some]at hd
     split at hd
     ·rename_i hq;injection hd with hd;subst hd;exact mk' (by simp[c7.cls]) (KS bC ho hc h1 h2 h3 hq.2.2.2.2 hz hq.1 hq.2.1 hq.2.2.1 hq.2.2.2.1 h)
     ·cases hd
   ·cases hd
  ·rename_i hc
   split at hd
   ·rename_i m k kt e h1 h2
    cases hs:cu P kt with
    |none=>rw[hs]at hd;cases hd
    |some s=>rw[hs]at hd;injection hd with hd;subst hd;exact mk' (by simp[c7.cls]) (KQ bC ho hc h1 h2 hs h)
   ·cases hd
  ·rename_i hc
   split at hd
   ·rename_i x e h1 h2
    cases hz:fh P e with
    |none=>rw[hz]at hd;cases hd
    |some z=>
     rw[hz,Option.bind_some]at hd
     split at hd
     ·rename_i hq;injection hd with hd;subst hd;exact mk' (by simp[c7.cls]) (MU bC ho hc h1 h2 hz hq h)
     ·cases hd
   ·cases hd
  ·rename_i hc;injection hd with hd;subst hd;exact mk (RH bC ho hc h)
  ·rename_i hc;injection hd with hd;subst hd;exact mk (RI bC ho hc h)
  ·cases hd
 ·cases hd
theorem aj{α:Type}{o:Option α}{F G:α→Prop}(h:aA o F)(hk:∀v,F v→G v):aA o G:=by cases o;exact h;exact hk _ h
theorem bI{c F G:Prop}(h:dt c F)(hk:F→G):dt c G:=⟨h.1,hk h.2⟩
theorem Fp{v:Value}{F G:Bool→Prop}(h:Ao v F)(hk:∀b,F b→G b):Ao v G:=by unfold Ao at*;split at h;exact hk _ h;exact h.elim
theorem kH{F G:List Value→Prop}:∀ {xs:List Operand},MH ev xs F→(∀l,F l→G l)→MH ev xs G:=by
 intro xs
 induction xs generalizing F G with
 |nil=>intro h hk;exact hk _ h
 |cons x xs ih=>intro h hk;exact aj h fun v h=>ih h fun l=>hk _
theorem Fq{F G:List Value→Prop}:∀ {r:List (Nat×Nat×Operand)} {z:List Value},Aq ev z r F→(∀l,F l→G l)→Aq ev z r G:=by
 intro r
 induction r with
 |nil=>intro z h hk;exact hk _ h
 |cons p r ih=>obtain⟨off,size,x⟩:=p;intro z h hk;exact aj h fun v h=>bI h fun h=>ih h hk
theorem oZ{v:Value}{F G:Nat→Nat→Prop}(h:wk v F)(hk:∀b o,F b o→G b o):wk v G:=by obtain⟨b,o,rfl,h⟩:=eQ h;exact hk _ _ h
theorem jI{v:Value}{F G:Int→Prop}(h:B6 v F)(hk:∀b,F b→G b):B6 v G:=by obtain⟨b,o,rfl,h⟩:=iu h;exact hk _ h
theorem kI{v:Value}{F G:Option Addr→Nat→Nat→Prop}(h:nQ v F)(hk:∀a n c,F a n c→G a n c):nQ v G:=by obtain⟨a,n,c,rfl,h⟩:=iw h;exact hk _ _ _ h
theorem yy{v:Option Addr}{F G:Nat→Nat→Prop}(h:tH v F)(hk:∀b o,F b o→G b o):tH v G:=by obtain⟨b,o,rfl,h⟩:=mG h;exact hk _ _ h
theorem qF{v:Value}{F G:ByteArray→Prop}(h:jd v F)(hk:∀b,F b→G b):jd v G:=by obtain⟨b,rfl,h⟩:=lM h;exact hk _ h
theorem Pm{v:Value}{F G:List Value→Prop}(h:O7 v F)(hk:∀b,F b→G b):O7 v G:=by obtain⟨b,rfl,h⟩:=Hv h;exact hk _ h
theorem Pn{v:Value}{F G:List Value→Prop}(h:O8 v F)(hk:∀b,F b→G b):O8 v G:=by obtain⟨b,rfl,h⟩:=Hw h;exact hk _ h
theorem uB{v:Value}{F G:Option Nat→Prop}(h:B7 v F)(hk:∀b,F b→G b):B7 v G:=by obtain⟨b,rfl,h⟩:=jH h;exact hk _ h
theorem Po{v:Value}{F G:Bool→Prop}(h:MI v F)(hk:∀b,F b→G b):MI v G:=by
 rcases Hx h with ⟨e,h⟩| ⟨t,u,e,h⟩<;>subst e<;>exact hk _ h
theorem IW{T:TypeId}{v:Value}{F G:Value→Prop}(h:uw T v F)(hk:∀b,F b→G b):uw T v G:=by obtain⟨b,e,h2⟩:=As h;subst e;exact⟨rfl,hk _ h2⟩
theorem yz{H:Hp}{size:Nat}{v:Value}{F G:Nat→List Value→Prop}(h:rowOf H size v F)(hk:∀n l,F n l→G n l):rowOf H size v G:=by
 unfold rowOf at*
 split at h
 ·rename_i a n c
  cases hn:n==0
  ·rw[hn]at h
   exact yy h fun b o h=>aj h fun l h=>bI h (hk _ _)
  ·rw[hn]at h
   exact hk _ _ h
 ·exact bI h (hk _ _)
 ·exact h.elim
theorem Cy{H:Hp}{v:Value}{F G:List UInt8→Prop}(h:tO H v F)(hk:∀b,F b→G b):tO H v G:=by
 unfold tO at*
 split at h
 ·exact yz h fun n l h=>aj h hk
 ·exact h.elim
theorem kJ{x:Option Operand}{d:Nat}{F G:Int→Prop}(h:nR ev x d F)(hk:∀b,F b→G b):nR ev x d G:=by
 cases x with
 |none=>exact hk _ h
 |some x=>exact aj h fun v h=>jI h hk
theorem NM{K':Value→Hp→Prop}(i:c7)(hc:i.cls= .pure)(h:i.vc P ev H K)(hk:∀v H',K v H'→K' v H'):i.vc P ev H K':=by
 cases i<;>simp[c7.cls]at hc<;>simp only[c7.vc]at h ⊢
 ·exact aj h fun v=>hk _ _
 ·exact aj h fun v h=>Fp h fun b h=>aj h fun v=>hk _ _
 ·exact Fq h fun l=>hk _ _
 ·exact aj h fun v h=>bI h (hk _ _)
 ·exact aj h fun v h=>aj h fun v h=>aj h fun v=>hk _ _
 ·exact aj h fun v h=>aj h fun v=>hk _ _
 ·exact aj h fun v h=>jI h fun v=>hk _ _
 ·exact aj h fun v=>hk _ _
 ·exact kH h fun l h=>kH h fun l=>hk _ _
 ·exact aj h fun v h=>kI h fun a n c h=>kJ h fun m h=>kJ h fun m h=>kJ h fun m h=>bI h (hk _ _)
 ·exact aj h fun v h=>qF h fun s h=>kJ h fun m h=>kJ h fun m h=>bI h (hk _ _)
 ·exact aj h fun v h=>oZ h fun b o=>hk _ _
 ·exact aj h fun v h=>Pn h fun l h=>aj h fun v=>hk _ _
 ·exact aj h fun v h=>aj h fun v h=>kI h fun a n c h=>jI h fun i h=>bI h fun h=>yy h fun b o=>hk _ _
 ·exact aj h fun v h=>aj h fun v h=>oZ h fun b o h=>jI h fun i h=>bI h (hk _ _)
 ·exact aj h fun v h=>aj h fun v h=>qF h fun s h=>jI h fun i h=>bI h fun h=>aj h fun b=>hk _ _
 ·exact aj h fun v h=>Pm h fun l h=>aj h fun v=>hk _ _
 ·exact aj h fun v h=>kI h fun a n c=>hk _ _
 ·exact aj h fun v h=>qF h fun s=>hk _ _
 ·exact kH h fun l h=>aj h fun v=>hk _ _
 ·exact kH h fun l h=>aj h fun v=>hk _ _
 ·exact aj h fun v h=>IW h fun v=>hk _ _
 ·exact aj h fun v h=>Po h fun v=>hk _ _
theorem RJ(i:c7)(hc:i.cls= .quiet)(h:i.vc P ev H K):∃v,i.vc P ev H (fun v' H'=>v'=v∧H'=H)∧K v H:=by
 cases i<;>simp[c7.cls]at hc
 ·obtain⟨p,hp,h⟩:=ay h
  obtain⟨b,o,rfl,h⟩:=eQ h
  obtain⟨l,hl,h⟩:=ay h
  obtain⟨v,hv,h⟩:=ay h
  exact⟨v,by simp only[c7.vc,hp,aA,wk,hl,hv,and_self],h⟩
 ·obtain⟨p,hp,h⟩:=ay h
  obtain⟨b,o,rfl,h⟩:=eQ h
  obtain⟨l,hl,h⟩:=ay h
  obtain⟨hn,h⟩:=h.out
  exact⟨_,by simp only[c7.vc,hp,aA,wk,hl,dt,hn,and_self],h⟩
 ·rename_i s z ok m k
  obtain⟨p,hp,h⟩:=ay h
  obtain⟨q,hq,h⟩:=ay h
  obtain⟨r,rfl,h⟩:=jH h
  obtain⟨hn,h⟩:=h.out
  cases r with
  |none=>exact⟨_,by simp only[c7.vc,hp,hq,aA,B7,dt,hn,wM,and_self],h⟩
  |some b=>
   obtain⟨x,hx,h⟩:=ay h
   obtain⟨y,hy,h⟩:=ay h
   exact⟨_,by simp only[c7.vc,hp,hq,aA,B7,dt,hn,wM,hx,hy,and_self],h⟩
 ·obtain⟨p,hp,h⟩:=ay h
  obtain⟨r,rfl,h⟩:=jH h
  cases r with
  |none=>exact⟨_,by simp only[c7.vc,hp,aA,B7,KG,and_self],h⟩
  |some b=>
   obtain⟨x,hx,h⟩:=ay h
   exact⟨_,by simp only[c7.vc,hp,aA,B7,KG,hx,and_self],h⟩
 ·obtain⟨p,hp,h⟩:=ay h
  have key:∃l,K (.string ⟨l.toArray⟩) H∧tO H p (fun l'=>l'=l):=by
   unfold tO at*
   split at h
   ·rename_i a n c
    unfold rowOf at*
    simp only at*
    cases hn:n==0
    ·rw[hn]at h
     obtain⟨b,o,rfl,h⟩:=mG h
     obtain⟨l,hl,h⟩:=ay h
     obtain⟨h1,h⟩:=h.out
     obtain⟨bs,hb,h⟩:=ay h
     exact⟨bs,h,by simp only[E8,tH,aA,hl,dt,h1,hb,and_self]⟩
    ·rw[hn]at h
     have h:aA (bytesOf []) fun l=>K (.string ⟨l.toArray⟩) H:=h
     obtain⟨bs,hb,h⟩:=ay h
     exact⟨bs,h,by simp only[E8,aA,hb]⟩
   ·exact h.elim
  obtain⟨l,h1,h2⟩:=key
  refine⟨_,?_,h1⟩
  simp only[c7.vc,hp,aA]
  exact Cy h2 fun b e=>by rw[e];exact⟨rfl,rfl⟩
end
end Go.Vc
