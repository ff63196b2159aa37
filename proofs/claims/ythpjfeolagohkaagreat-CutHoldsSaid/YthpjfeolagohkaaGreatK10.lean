/- Texts put behind each other. -/
import Derived.Test.YthpjfeolagohkaaGreatK98
import Derived.Test.YthpjfeolagohkaaGreatK9
import Derived.Lib.ConvBytes
import Derived.Laws.AppendOwn
import Derived.Laws.Append
set_option maxRecDepth 100000
set_option maxHeartbeats 8000000
set_option linter.unusedVariables false
set_option linter.unusedSimpArgs false
namespace Go.Vc
section
variable {P : Program} {o : Oper} {a : Act} {ev : Ev} {H : Hp} {K : Value → Hp → Prop}
theorem Lx{t kt e:TypeId}{s:Shape}{z:Value}{x y:Operand}{ok:Bool}(bJ:bT ev a)(ho:o.op= .lookup t x y ok)(ht:P.underlying t=some (.map kt e))
  (hs:cC P kt=some s)(hz:fO P e=some z)(h:(dw.lookup s z ok x y).vc P ev H K):eC P o a H K:=by
 intro w hw
 subst hw
 obtain⟨r,hx,h⟩:=j0 (aU bJ (aU bJ h))
 obtain⟨hk,h⟩:=h.out
 cases r with
 |none=>
  refine .inl ⟨hX ok z none,w,?_,cu.refl w,h⟩
  have hf:=iT (P:=P) (k:=a.eval y) (es:=[]) (r:=none) hs rfl w
  simp only[execOp,ho,Instr.lookup,Sem.run_bind,au ht,Result.andThen_ok,hx,Sem.run_pure,hY hs hk,hf,cO hz]
  cases ok<;>rfl
 |some b=>
  obtain⟨m,hm,h⟩:=aD h
  obtain⟨rr,hr,h⟩:=aD h
  obtain⟨es,he,hl⟩:=FH hm
  rw[←hl]at hr
  refine .inl ⟨hX ok z (rr.map (·.2)),w,?_,cu.refl w,h⟩
  simp only[execOp,ho,Instr.lookup,Sem.run_bind,au ht,Result.andThen_ok,hx,Sem.run_pure,oN he,hY hs hk,iT hs hr]
  cases rr with
  |none=>simp only[cO hz,Result.andThen_ok,Sem.run_bind,Sem.run_pure];cases ok<;>rfl
  |some q=>cases ok<;>rfl
theorem Ly{t kt e:TypeId}{s:Shape}{x y z:Operand}(bJ:bT ev a)(ho:o.op= .mapUpdate t x y z)(ht:P.underlying t=some (.map kt e))
  (hs:cC P kt=some s)(h:(dw.update s x y z).vc P ev H K):eC P o a H K:=by
 intro w hw
 subst hw
 obtain⟨r,hx,h⟩:=j0 (aU bJ (aU bJ (aU bJ h)))
 obtain⟨b,rfl,h⟩:=aD h
 obtain⟨hk,h⟩:=h.out
 obtain⟨m,hm,h⟩:=aD h
 obtain⟨rr,hr,h⟩:=aD h
 obtain⟨uO,h⟩:=h.out
 obtain⟨es,he,hl⟩:=FH hm
 rw[←hl]at hr
 refine .inr (.inl ⟨{w with heap:=Hp.Ei w.heap b (Lz m.1 rr (a.eval y) (a.eval z) m.2) (J2 rr m.2)},?_,⟨rfl,rfl⟩,h⟩)
 simp only[execOp,ho,Instr.mapUpdate,Sem.run_bind,au ht,Result.andThen_ok,hx,oN he,hY hs hk,iT hs hr]
 cases rr with
 |none=>
  simp only[oO he,Result.andThen_ok,Sem.run_pure,Lz,J2,←hl]
  simp
 |some q=>
  obtain⟨i,v⟩:=q
  have hb:Instr.sameBits 10000 (((es[i]?).map (·.key)).getD (a.eval y)) (a.eval y)=true:=by
   simp only[FI,←hl]at uO
   simpa using uO
  simp only[Instr.keyThatStays,hb,if_true,Sem.run_bind,Sem.run_pure,Result.andThen_ok,oO he,Lz,J2,←hl]
  simp
theorem LA{kt e:TypeId}{s:Shape}{c:Call}{x y:Operand}(bJ:bT ev a)(ho:o.op= .call c)(hc:c.callee= .builtin .delete)(kK:c.args.toList=[x,y])
  (wO:(c.argTypes[0]?).bind P.underlying=some (.map kt e))(hs:cC P kt=some s)(h:(dw.delete s x y).vc P ev H K):eC P o a H K:=by
 intro w hw
 subst hw
 obtain⟨r,hx,h⟩:=j0 (aU bJ (aU bJ h))
 obtain⟨b,rfl,h⟩:=aD h
 obtain⟨hk,h⟩:=h.out
 obtain⟨m,hm,h⟩:=aD h
 obtain⟨rr,hr,h⟩:=aD h
 obtain⟨es,he,hl⟩:=FH hm
 rw[←hl]at hr
 have ha:c.args= #[x,y]:=Array.ext' kK
 obtain⟨t,FJ,HR⟩:=Option.bind_eq_some_iff.1 wO
 refine .inl ⟨.tuple [].toArray,{w with heap:=Hp.Ei w.heap b (F7 m.1 rr) m.2},?_,⟨rfl,rfl⟩,h⟩
 simp only[execOp,ho,resolve,hc,Sem.run_bind,Sem.run_pure,Result.andThen_ok,invoke,builtin,ha,Builtin.delete_,FJ]
 simp only[List.map_toArray,aqY,ase,arW,aqE,aq6,Sem.run_bind,au HR,Result.andThen_ok,hx,oN he,hY hs hk,iT hs hr]
 cases rr with
 |none=>simp only[Sem.run_bind,oO he,Result.andThen_ok,Sem.run_pure,F7,←hl]
 |some q=>
  obtain⟨i,v⟩:=q
  simp only[Sem.run_bind,oO he,Result.andThen_ok,Sem.run_pure,F7,←hl,Array.toList_eraseIdxIfInBounds]
theorem Ny{e:TypeId}{z:Value}{c:Call}{x:Operand}(bJ:bT ev a)(ho:o.op= .call c)(hc:c.callee= .builtin .clear)(kK:c.args.toList=[x])
  (wO:(c.argTypes[0]?).bind P.underlying=some (.slice e))(hz:fO P e=some z)(LC:(aH z).length≠0)(h:(dw.Nz (aH z) x).vc P ev H K):eC P o a H K:=by
 intro w hw
 subst hw
 obtain⟨ad,n,cp,hx,h⟩:=iz (aU bJ h)
 have ha:c.args= #[x]:=Array.ext' kK
 obtain⟨t,FJ,HR⟩:=Option.bind_eq_some_iff.1 wO
 have NA:z.cells.toList=aH z:=eU z
 rcases h with ⟨rfl,h⟩| ⟨hn,b,off,l,rfl,hl,h1,h2,h⟩
 ·refine .inl ⟨.tuple [].toArray,w,?_,cu.refl w,h⟩
  simp only[execOp,ho,resolve,hc,Sem.run_bind,Sem.run_pure,Result.andThen_ok,invoke,builtin,ha,Builtin.clear_,FJ]
  simp only[List.map_toArray,aqY,ase,arW,aqE,Sem.run_bind,au HR,Result.andThen_ok,hx]
  cases ad<;>simp
 ·have e1:(Builtin.zeroCells z.cells n).toList=aV (aH z) n:=by
   unfold Builtin.zeroCells
   rw[AQ rfl (by rw[←NA]at LC;simpa using LC),NA]
  have bf:(aV (aH z) n).length=n*(aH z).length:=by simp[aV]
  obtain⟨w',hs,NB,hk,_⟩:=is (P:=P) (b:=b) (o:=off) (aV (aH z) n) 0 w l hl (by omega) h1
  have aR:aV (aH z) n≠[]:=fun e=>by
   rw[e]at bf
   simp only[arh]at bf
   rcases Nat.mul_eq_zero.1 bf.symm with h|h
   ·exact hn h
   ·exact LC h
  refine .inl ⟨.tuple [].toArray,w',?_,NB,?_⟩
  ·simp only[execOp,ho,resolve,hc,Sem.run_bind,Sem.run_pure,Result.andThen_ok,invoke,builtin,ha,Builtin.clear_,FJ]
   simp only[List.map_toArray,aqY,ase,arW,aqE,Sem.run_bind,au HR,Result.andThen_ok,hx]
   cases n with
   |zero=>exact absurd rfl hn
   |succ n=>simp[cO hz,e1,hs]
  ·rw[hk aR];exact h
theorem rK{f:FuncId}(hc:dN P f=true)(args:Array Value)(w:World):(callFunc f args).run P w= .ok (.enter f args) w:=by
 unfold dN at hc
 split at hc
 ·rename_i fn hf
  simp only[aq0,bne_iff_ne,ne_eq]at hc
  obtain⟨bd,hb⟩:=Option.isSome_iff_exists.1 hc.2
  simp[callFunc,hf,hc.1,hb]
 ·cases hc
theorem Qh{f:FuncId}{c:Call}(bJ:bT ev a)(ho:o.op= .call c)(hc:c.callee= .value (.func f))(hb:dN P f=true)
  (h:(dw.call f c.args.toList).vc P ev H K):eC P o a H K:=by
 intro w hw
 subst hw
 have h:=kL bJ h
 refine .inr (.inr ⟨f,(c.args.map a.eval),w,?_,cu.refl w,by simpa using h⟩)
 simp[execOp,ho,resolve,hc,Act.eval,Deferred.ofValue,invoke,rK hb]
theorem R2{f:FuncId}{c:Call}(bJ:bT ev a)(ho:o.op= .call c)(hc:c.callee= .value (.func f))
  (h:(dw.ext f c.args.toList).vc P ev H K):eC P o a H K:=by
 intro w hw
 subst hw
 obtain⟨v,hv,hk⟩:=kL bJ h
 refine .inl ⟨v,w,?_,cu.refl w,hk⟩
 have Pp:(callFunc f (c.args.map a.eval)).run P w= .ok (.value v) w:=by
  have h1:=hv w
  rw[show(List.map a.eval c.args.toList).toArray=c.args.map a.eval from Array.ext' (by simp)]at h1
  exact h1
 simp[execOp,ho,resolve,hc,Act.eval,Deferred.ofValue,invoke,Pp]
theorem R3{f:Operand}{c:Call}(bJ:bT ev a)(ho:o.op= .call c)(hc:c.callee= .value f)
  (h:(dw.dyn f c.args.toList).vc P ev H K):eC P o a H K:=by
 intro w hw
 subst hw
 have h:=kL bJ (aU bJ h)
 unfold XG at h
 split at h
 ·rename_i g first captured hf
  refine .inr (.inr ⟨g,first++c.args.map a.eval++captured,w,?_,cu.refl w,by simpa using h.2⟩)
  simp only[execOp,ho,resolve,hc,hf,Deferred.ofValue,Sem.run_bind,Sem.run_pure,Result.andThen_ok,invoke,rK h.1]
 ·exact h.elim
theorem LD{r:Operand}{name:String}{c:Call}(bJ:bT ev a)(ho:o.op= .call c)(hc:c.callee= .invoke r name)
  (h:(dw.invoke r name c.args.toList).vc P ev H K):eC P o a H K:=by
 intro w hw
 subst hw
 obtain⟨T,v,f,rv,hr,⟨wP,hm⟩,h⟩:=kL bJ (aU bJ h)
 refine .inr (.inr ⟨f, #[rv]++c.args.map a.eval,w,?_,cu.refl w,by simpa using h⟩)
 have hx:(#[Value.iface T v]++c.args.map a.eval)[0]? =some (.iface T v):=by rw[arC (by simp)];rfl
 have tR:(#[Value.iface T v]++c.args.map a.eval).extract 1 (#[Value.iface T v]++c.args.map a.eval).size=c.args.map a.eval:=by
  apply Array.ext'
  simp only[Array.toList_extract,Array.toList_append,Array.toList_map,Array.size_append]
  simp[List.take_of_length_le]
 simp only[execOp,ho,resolve,hc,hr,Sem.run_bind,Sem.run_pure,Result.andThen_ok,invoke,hx,tR,callMethod,run_program,hm w rfl,rK wP]
theorem mM{c:Call}{x:Operand}(ho:o.op= .call c)(hc:c.callee= .builtin .len)(kK:c.args.toList=[x]){w:World}{n:Nat}
  (hr:(Builtin.len_ c.argTypes o.type #[a.eval x]).run P w= .ok (goInt n) w):(execOp a.eval o).run P w= .ok (.value (.int .i64 n)) w:=by
 have ha:c.args= #[x]:=Array.ext' kK
 have hav:c.args.map a.eval= #[a.eval x]:=by rw[ha];simp
 simp only[execOp,ho,resolve,hc,Sem.run_bind,Sem.run_pure,Result.andThen_ok,invoke,builtin,hav,hr,goInt]
theorem Qi{c:Call}{x:Operand}{e:TypeId}(bJ:bT ev a)(ho:o.op= .call c)(hc:c.callee= .builtin .len)(kK:c.args.toList=[x])
  (wO:(c.argTypes[0]?).bind P.underlying=some (.slice e))(h:(dw.lL x).vc P ev H K):eD P o a H K:=by
 obtain⟨t,FJ,HR⟩:=Option.bind_eq_some_iff.1 wO
 obtain⟨ad,n,cp,hx,h⟩:=iz (aU bJ h)
 refine⟨_,fun w=>mM ho hc kK (n:=n) ?_,h⟩
 simp[Builtin.len_,FJ,au HR,goInt,hx]
theorem Qj{c:Call}{x:Operand}(bJ:bT ev a)(ho:o.op= .call c)(hc:c.callee= .builtin .len)(kK:c.args.toList=[x])
  (wO:(c.argTypes[0]?).bind P.underlying=some .string)(h:(dw.UJ x).vc P ev H K):eD P o a H K:=by
 obtain⟨t,FJ,HR⟩:=Option.bind_eq_some_iff.1 wO
 obtain⟨s,hx,h⟩:=mN (aU bJ h)
 refine⟨_,fun w=>mM ho hc kK (n:=s.size) ?_,h⟩
 simp[Builtin.len_,FJ,au HR,goInt,hx]
theorem Qk{c:Call}{x:Operand}{k e:TypeId}(bJ:bT ev a)(ho:o.op= .call c)(hc:c.callee= .builtin .len)(kK:c.args.toList=[x])
  (wO:(c.argTypes[0]?).bind P.underlying=some (.map k e))(h:(dw.UK x).vc P ev H K):eC P o a H K:=by
 intro w hw
 subst hw
 obtain⟨t,FJ,HR⟩:=Option.bind_eq_some_iff.1 wO
 obtain⟨r,hx,h⟩:=j0 (aU bJ h)
 cases r with
 |none=>
  refine .inl ⟨_,w,mM ho hc kK (n:=0) ?_,cu.refl w,h⟩
  simp[Builtin.len_,FJ,au HR,goInt,hx]
 |some b=>
  obtain⟨m,hm,h⟩:=aD h
  obtain⟨es,he,hl⟩:=FH hm
  refine .inl ⟨_,w,mM ho hc kK (n:=m.1.length) ?_,cu.refl w,h⟩
  simp[Builtin.len_,FJ,au HR,goInt,hx,oN he,←hl]
theorem UL:∀ (r:List Value) (x v:Value),LF x r=some v→∀w:World,(r.foldlM Builtin.min2 x).run P w= .ok v w:=by
 intro r
 induction r with
 |nil=>intro x v h w;injection h with h;subst h;rfl
 |cons y r ih=>
  intro x v h w
  unfold LF at h
  split at h
  ·rename_i k p k' q
   simp[List.foldlM_cons,Builtin.min2,ih _ v h w]
  ·cases h
theorem UM:∀ (r:List Value) (x v:Value),LG x r=some v→∀w:World,(r.foldlM Builtin.max2 x).run P w= .ok v w:=by
 intro r
 induction r with
 |nil=>intro x v h w;injection h with h;subst h;rfl
 |cons y r ih=>
  intro x v h w
  unfold LG at h
  split at h
  ·rename_i k p k' q
   simp[List.foldlM_cons,Builtin.max2,ih _ v h w]
  ·cases h
theorem R4{c:Call}(bJ:bT ev a)(ho:o.op= .call c)(hc:c.callee= .builtin .min)(h:(dw.UN c.args.toList).vc P ev H K):eD P o a H K:=by
 obtain⟨v,hv,h⟩:=aD (kL bJ h)
 refine⟨v,fun w=>?_,h⟩
 have e:(Builtin.min_ c.argTypes o.type (c.args.map a.eval)).run P w= .ok v w:=by
  unfold Builtin.min_
  rw[Array.toList_map]
  cases hl:c.args.toList.map a.eval with
  |nil=>rw[hl]at hv;cases hv
  |cons x r=>rw[hl]at hv;exact UL r x v hv w
 simp only[execOp,ho,resolve,hc,Sem.run_bind,Sem.run_pure,Result.andThen_ok,invoke,builtin,e]
theorem R5{c:Call}(bJ:bT ev a)(ho:o.op= .call c)(hc:c.callee= .builtin .max)(h:(dw.UO c.args.toList).vc P ev H K):eD P o a H K:=by
 obtain⟨v,hv,h⟩:=aD (kL bJ h)
 refine⟨v,fun w=>?_,h⟩
 have e:(Builtin.max_ c.argTypes o.type (c.args.map a.eval)).run P w= .ok v w:=by
  unfold Builtin.max_
  rw[Array.toList_map]
  cases hl:c.args.toList.map a.eval with
  |nil=>rw[hl]at hv;cases hv
  |cons x r=>rw[hl]at hv;exact UM r x v hv w
 simp only[execOp,ho,resolve,hc,Sem.run_bind,Sem.run_pure,Result.andThen_ok,invoke,builtin,e]
theorem zb{H:Hp}{size:Nat}{v:Value}{F:Nat→List Value→Prop}(h:rowOf H size v F):
  ∃ (n:Nat) (l:List Value),F n l∧(∀w:World,(Builtin.lenOf v).run P w= .ok n w)∧(∀w:World,w.heap=H→(Builtin.firstCells size n v).run P w= .ok l.toArray w)∧l.length=n*size∧
   (∀b m c,v= .slice b m c→m=n):=by
 unfold rowOf at h
 split at h
 ·rename_i a n c
  by_cases LH:n=0
  ·subst LH
   refine⟨0,[],h,fun _=>rfl,fun w hw=>?_,by simp,fun _ _ _ e=>by injection e with _ e _;exact e.symm⟩
   cases a with
   |none=>rfl
   |some a=>simp only[Builtin.firstCells,aqT];rfl
  ·have e0:(n==0)=false:=by simpa using LH
   rw[e0]at h
   obtain⟨b,off,rfl,h1⟩:=nu (F:=fun b o=>aE (H.rd b) fun l=>dO (o+n*size≤l.length) (F n ((l.drop o).take (n*size)))) h
   obtain⟨l,hl,h2⟩:=aD h1
   obtain⟨hn,h3⟩:=h2.out
   refine⟨n,_,h3,fun _=>rfl,fun w hw=>?_,by simp;omega,fun _ _ _ e=>by injection e with _ e _;exact e.symm⟩
   subst hw
   exact qj (P:=P) (a:=⟨b,off,none⟩) rfl hl hn
 ·rename_i s
  obtain⟨e1,h2⟩:=h.out
  subst e1
  refine⟨s.size,_,h2,fun _=>rfl,fun w _=>?_,?_,fun _ _ _ e=>by cases e⟩
  ·simp only[Builtin.firstCells,Sem.run_pure]
   congr 1
   apply Array.ext'
   have:s.extract 0 s.size=s:=by
    apply ByteArray.ext
    simp
   rw[this]
   simp
  ·rw[aqr,aqd,Array.length_toList];rfl
 ·exact h.elim
theorem J3{s t e:TypeId}{x:Operand}(bJ:bT ev a)(ho:o.op= .convert s t x)(hs:P.underlying s=some .string)(ht:P.underlying t=some (.slice e))(he:P.underlying e=some (.int .u8))
  (h:(dw.J4 e x).vc P ev H K):eC P o a H K:=by
 intro w hw
 subst hw
 have h:=aU bJ h
 unfold iU at h
 split at h
 ·rename_i bs hx
  have hr:=Lib.run_convert_string_bytes (P:=P) w s t e bs hs ht he
  have Nv:=grownCap_ge w bs.size 0 e
  refine .inl ⟨.slice (some ⟨w.heap.size,0,none⟩) bs.size (grownCap w bs.size 0 e),Lib.bytesWorld w e bs,?_,⟨rfl,rfl⟩,?_⟩
  ·simp only[execOp,ho]
   rw[hx]at*
   simp only[Sem.run_bind,hr,Result.andThen_ok,Sem.run_pure]
  ·have hk:=h _ Nv
   have e1:(Lib.bytesWorld w e bs).heap=Hp.NC w.heap e ((bs.data.toList.map fun b=>.int .u8 b.toNat)++List.replicate (grownCap w bs.size 0 e - bs.size) (.int .u8 0)):=by
    apply Array.ext_getElem?
    intro i
    rcases arA i w.heap.size with hi|hi|hi
    ·rw[Lib.bytesWorld_at_old w e bs i hi,LI _ _ _ hi]
    ·subst hi
     rw[Lib.bytesWorld_at_new]
     simp[Hp.NC,Lib.bytesCells]
    ·rw[arj (by rw[Lib.bytesWorld_size];omega),arj (by rw[Ql];omega)]
   rw[e1]
   exact hk
 ·exact h.elim
theorem ND:∀ (l:List Value) (bs:List UInt8),bytesOf l=some bs→∀ (s:ByteArray) (w:World),
  (forIn l s fun c (s:ByteArray)=>(match c with| .int .u8 n=>pure (ForInStep.yield (s.push (UInt8.ofNat n.toNat)))|_=>(do stuck "bytesToString: byte expected";pure (ForInStep.yield s)):Sem (ForInStep ByteArray))).run P w= .ok ⟨s.data++bs.toArray⟩ w:=by
 intro l
 induction l with
 |nil=>intro bs h s w;simp only[bytesOf,aqk]at h;subst h;simp
 |cons v l ih=>
  intro bs h s w
  cases v with
  |int k n=>
   cases k with
   |u8=>
    simp only[bytesOf]at h
    cases hb:bytesOf l with
    |none=>rw[hb]at h;cases h
    |some r=>
     rw[hb]at h
     simp only[Option.map_some,aqk]at h
     subst h
     simp only[List.forIn_cons,Sem.run_bind,Sem.run_pure,Result.andThen_ok]
     rw[ih r hb]
     congr 1
     apply ByteArray.ext
     apply Array.ext'
     simp[ByteArray.push]
   |_=>simp[bytesOf]at h
  |_=>simp[bytesOf]at h
theorem NE{s t e:TypeId}{x:Operand}(bJ:bT ev a)(ho:o.op= .convert s t x)(hs:P.underlying s=some (.slice e))(ht:P.underlying t=some .string)(he:P.underlying e=some (.int .u8))
  (h:(dw.Pq x).vc P ev H K):eC P o a H K:=by
 intro w hw
 subst hw
 have h:=aU bJ h
 unfold uP at h
 split at h
 ·rename_i ad n c hx
  obtain⟨m,l,h,h1,h2,h3,h4⟩:=zb (P:=P) h
  obtain⟨bs,hb,h⟩:=aD h
  refine .inl ⟨_,w,?_,cu.refl w,h⟩
  have hm:n=m:=h4 _ _ _ rfl
  subst hm
  have h5:=h2 w rfl
  have key:(Conv.bytesToString (.slice ad n c)).run P w= .ok (.string ⟨bs.toArray⟩) w:=by
   cases ad with
   |none=>
    simp only[Builtin.firstCells,Sem.run_pure,Result.ok.injEq,and_true]at h5
    have hl:l=[]:=by
     have:=aqv Array.toList h5
     simpa using this.symm
    subst hl
    simp only[bytesOf,aqk]at hb
    subst hb
    rfl
   |some ad=>
    simp only[Builtin.firstCells,aqd]at h5
    simp only[Conv.bytesToString,Sem.run_bind,h5,Result.andThen_ok]
    rw[List.forIn_toArray]
    refine(aqv (fun r=>Result.andThen r fun a w'=>Sem.run P (pure (Value.string a)) w') (ND (P:=P) l bs hb ByteArray.empty w)).trans ?_
    simp only[Result.andThen_ok,Sem.run_pure]
    congr 3
    simp
  simp only[execOp,ho,convert,hx,Sem.run_bind,au hs,au ht,au he,Result.andThen_ok,key]
  rfl
 ·exact h.elim
theorem Wn{d:TypeDesc}(hd:F8 d=true):(∃e,d= .slice e)∨d= .string:=by
 cases d<;>first|exact .inl ⟨_,rfl⟩|exact .inr rfl| (cases hd)
theorem HX{XH:Array TypeId}{ty t t' e:TypeId}{d:TypeDesc}{w:World}{base:Option Addr}{n cap m:Nat}{y:Value}{new:Array Value}(FJ:XH[0]? =some t)(Qm:XH[1]? =some t')
  (HR:P.underlying t=some (.slice e))(CN:P.underlying t'=some d)(hd:F8 d=true)(hi:(P.info? e).isSome=true)
  (bf:(Builtin.lenOf y).run P w= .ok m w)(rL:(Builtin.firstCells (P.cellsOf e) m y).run P w= .ok new w)(oP:n+m≤cap):
  (Builtin.append_ XH ty #[.slice base n cap,y]).run P w=
   ((match base with|some a=>storeCells (a.add (n*P.cellsOf e)) new.toList|none=>(pure ():Sem Unit)).run P w).andThen fun _ w'=>.ok (.slice base (n+m) cap) w':=by
 rcases Wn hd with ⟨e',rfl⟩|rfl<;>unfold Builtin.append_<;>
 simp only[arW,aqE,aq6,FJ,Qm,Sem.run_bind,au HR,au CN,Result.andThen_ok,bL hi,Sem.run_pure,bf,ara,if_false,if_pos oP,ars,if_true,rL]<;>
 cases base<;>simp only[Sem.run_pure,Result.andThen_ok,Sem.run_bind]
theorem F9{XH:Array TypeId}{ty t t' e:TypeId}{d:TypeDesc}{w:World}{base:Option Addr}{n cap m:Nat}{y z:Value}{new R6:Array Value}(FJ:XH[0]? =some t)(Qm:XH[1]? =some t')
  (HR:P.underlying t=some (.slice e))(CN:P.underlying t'=some d)(hd:F8 d=true)(hi:(P.info? e).isSome=true)(hz:fO P e=some z)
  (bf:(Builtin.lenOf y).run P w= .ok m w)(rL:(Builtin.firstCells (P.cellsOf e) m y).run P w.drew= .ok new w.drew)
  (hold:(Builtin.firstCells (P.cellsOf e) n (.slice base n cap)).run P w.drew= .ok R6 w.drew)
  (oP:cap<n+m)(hb:Builtin.nextslicecap (n+m) cap*P.bytesOf e≤2^48)(R7:P.bytesOf e≠0):
  ∃c',n+m≤c'∧(Builtin.append_ XH ty #[.slice base n cap,y]).run P w=
   .ok (.slice (some ⟨w.heap.size,0,none⟩) (n+m) c') {w with drawn:=w.drawn+1,heap:=Hp.new w.heap e ((R6++new++Builtin.zeroCells z.cells (c' - (n+m))).toList)}:=by
 obtain⟨inf,abA⟩:=Option.isSome_iff_exists.1 hi
 have XI:inf.bytes=P.bytesOf e:=by simp[Program.bytesOf,abA]
 refine⟨(Question.appendCap (n+m) cap e).cut (w.tape w.drawn (.appendCap (n+m) cap e)),by simp[Question.cut],?_⟩
 have aR:n+m≤2^48:=by
  have h1:=le_nextslicecap oP
  have h2:Builtin.nextslicecap (n+m) cap≤Builtin.nextslicecap (n+m) cap*P.bytesOf e:=Nat.le_mul_of_pos_right _ (by omega)
  omega
 have bO:¬ (9223372036854775807< ((n:Int)+(m:Int))):=by omega
 have XJ:¬ (281474976710656<Builtin.nextslicecap (n+m) cap*P.bytesOf e):=by omega
 have hn:¬ (n+m≤cap):=by omega
 rcases Wn hd with ⟨e',rfl⟩|rfl<;>
  simp[Builtin.append_,FJ,Qm,au HR,au CN,bL hi,bf,hn,eM abA,XI,R7,XJ,Question.forced,cO hz,hold,rL,kM]<;>
  exact⟨rfl,rfl,rfl⟩
theorem LJ{c:Call}{e:TypeId}{d:TypeDesc}{z:Value}{x y:Operand}(bJ:bT ev a)(ho:o.op= .call c)(hc:c.callee= .builtin .append)(kK:c.args.toList=[x,y])
  (wO:(c.argTypes[0]?).bind P.underlying=some (.slice e))(agu:(c.argTypes[1]?).bind P.underlying=some d)(hd:F8 d=true)(hz:fO P e=some z)(hi:(P.info? e).isSome=true)
  (h0:P.cellsOf e≠0)(hl:(aH z).length=P.cellsOf e)(R7:P.bytesOf e≠0)(h:(dw.append e (P.cellsOf e) (P.bytesOf e) (aH z) x y).vc P ev H K):eC P o a H K:=by
 intro w hw
 subst hw
 have ha:c.args= #[x,y]:=Array.ext' kK
 obtain⟨t,FJ,HR⟩:=Option.bind_eq_some_iff.1 wO
 obtain⟨t',Qm,CN⟩:=Option.bind_eq_some_iff.1 agu
 have NA:z.cells.toList=aH z:=eU z
 have Ps:z.cells.size=P.cellsOf e:=by rw[←hl,←NA];simp
 obtain⟨base,n,cap,hx,h⟩:=iz (aU bJ (aU bJ h))
 have h':=h
 obtain⟨m,new,h,bf,rL,hnl,_⟩:=zb (P:=P) h
 obtain⟨hA,hB,hC⟩:=h
 have hav:c.args.map a.eval= #[.slice base n cap,a.eval y]:=by rw[ha];simp[hx]
 have pre:∀v w',(Builtin.append_ c.argTypes o.type #[.slice base n cap,a.eval y]).run P w= .ok v w'→(execOp a.eval o).run P w= .ok (.value v) w':=by
  intro v w' hr
  simp only[execOp,ho,resolve,hc,Sem.run_bind,Sem.run_pure,Result.andThen_ok,invoke,builtin,hav,hr]
 by_cases oP:n+m≤cap
 ·have hr:=HX (ty:=o.type) (base:=base) FJ Qm HR CN hd hi (bf w) (rL w rfl) oP
  by_cases hm:m=0
  ·subst hm
   have LH:new=[]:=aqN.1 (by omega)
   subst LH
   refine .inl ⟨_,w,pre _ w ?_,cu.refl w,hA oP rfl⟩
   rw[hr]
   cases base<;>simp[storeCells]
  ·obtain⟨b,off,rfl,hB⟩:=nu (hB oP hm)
   obtain⟨l,FK,hB⟩:=aD hB
   obtain⟨⟨h1,h2⟩,hB⟩:=hB.out
   obtain⟨w',hs,NB,hk,_⟩:=is (P:=P) (b:=b) (o:=off+n*P.cellsOf e) new 0 w l FK (by rw[arn]at h1;omega) h2
   have aR:new≠[]:=fun e'=>by
    rw[e']at hnl
    rcases Nat.mul_eq_zero.1 hnl.symm with h|h
    ·exact hm h
    ·exact h0 h
   refine .inl ⟨_,w',pre _ w' ?_,NB,hk aR▸hB⟩
   rw[hr]
   simp only[zc,List.toList_toArray,hs,Result.andThen_ok]
 ·obtain⟨hb,hC⟩:=hC (by omega)
  rw[hx]at hC
  obtain⟨n',R6,hC,_,hold,hol,hn'⟩:=zb (P:=P) hC
  have:n=n':=hn' _ _ _ rfl
  subst this
  obtain⟨c',NF,hr⟩:=F9 (ty:=o.type) (base:=base) FJ Qm HR CN hd hi hz (bf w) (rL w.drew rfl) (hold w.drew rfl) (by omega) hb R7
  refine .inl ⟨_,_,pre _ _ hr,⟨rfl,rfl⟩,?_⟩
  have e1:(R6.toArray++new.toArray++Builtin.zeroCells z.cells (c' - (n+m))).toList=R6++new++aV (aH z) (c' - (n+m)):=by
   rw[Array.toList_append,Array.toList_append]
   congr 1
   unfold Builtin.zeroCells
   rw[AQ rfl (by omega),NA]
  rw[e1]
  exact hC c' NF
end
end Go.Vc

namespace Go.Vc
def dw.cls:dw→LK
 | .ak _| .pick .. | .build .. | .nilCheck _| .fj .. | .un .. | .conv .. | .iface .. | .func .. | .slice .. | .J5 .. | .fieldAddr .. | .field .. | .indexAddr .. | .AR .. | .J6 .. | .extract ..
 | .lL _| .UJ _| .UN _| .UO _| .J7 .. | .UP .. =>.pure
 | .aj _| .cJ .. | .lookup .. | .UK _| .Pq _=>.quiet
 |_=>.HY
section
variable {P : Program} {o : Oper} {a : Act} {ev : Ev} {H : Hp} {K : Value → Hp → Prop}
theorem sound(i:dw)(hd:Jn P o=some i)(bJ:bT ev a)(h:i.vc P ev H K):(i.cls= .pure→eD P o a H K)∧eC P o a H K:=by
 have mk:eD P o a H K→(i.cls= .pure→eD P o a H K)∧eC P o a H K:=fun hp=>⟨fun _=>hp,hp.agv⟩
 have mk':i.cls≠ .pure→eC P o a H K→(i.cls= .pure→eD P o a H K)∧eC P o a H K:=fun hn hp=>⟨fun e=>absurd e hn,hp⟩
 unfold Jn at hd
 split at hd
 ·rename_i x ho;injection hd with hd;subst hd;exact mk (LL bJ (.inl ho) h)
 ·rename_i x ho;injection hd with hd;subst hd;exact mk (LL bJ (.inr ho) h)
 ·rename_i c x y ho;injection hd with hd;subst hd;exact mk (Qn bJ ho h)
 ·rename_i T x ho;injection hd with hd;subst hd;exact mk' (by simp[dw.cls]) (R9 bJ ho h)
 ·rename_i T ho
  cases hz:fO P T with
  |none=>rw[hz]at hd;cases hd
  |some z=>rw[hz]at hd;injection hd with hd;subst hd;exact mk' (by simp[dw.cls]) (Qo hz ho h)
 ·rename_i t ps ho
  cases hz:fO P t with
  |none=>rw[hz]at hd;cases hd
  |some z=>
   rw[hz,Option.bind_some]at hd
   cases hq:parts P t (aH z).length ps.toList with
   |none=>rw[hq]at hd;cases hd
   |some qs=>rw[hq]at hd;injection hd with hd;subst hd;exact mk (NG bJ ho hz hq h)
 ·rename_i t n ps ho
  split at hd
  ·rename_i e hu
   cases hz:fO P e with
   |none=>rw[hz]at hd;cases hd
   |some z=>
    rw[hz,Option.bind_some]at hd
    split at hd
    ·rename_i hc
     cases hq:kw (fun i=>some (i*P.cellsOf e,P.cellsOf e)) (n*P.cellsOf e) ps.toList with
     |none=>rw[hq]at hd;cases hd
     |some qs=>rw[hq]at hd;injection hd with hd;subst hd;exact mk' (by simp[dw.cls]) (Sa bJ ho hu hz hc.1 hc.2.1 hc.2.2.1 hc.2.2.2 hq h)
    ·cases hd
  ·cases hd
 ·rename_i t x ho
  split at hd
  ·rename_i hc
   split at hd
   ·rename_i hg;injection hd with hd;subst hd;exact mk' (by simp[dw.cls]) (NH bJ ho hc.1 hc.2 hg h)
   ·rename_i hg;injection hd with hd;subst hd;exact mk' (by simp[dw.cls]) (NI bJ ho hc.1 hc.2 (by simpa using hg) h)
  ·cases hd
 ·rename_i t x y ho
  split at hd
  ·rename_i hc;injection hd with hd;subst hd;exact mk' (by simp[dw.cls]) (NJ bJ ho hc.1 hc.2 h)
  ·cases hd
 ·rename_i x ho;injection hd with hd;subst hd;exact mk (HZ bJ ho h)
 ·rename_i op t x y t' ho
  split at hd
  ·split at hd
   ·rename_i ms hu;injection hd with hd;subst hd;exact mk (Jo bJ ho hu (.inl ⟨rfl,rfl⟩) h)
   ·cases hs:shapeOf P fu t with
    |none=>rw[hs]at hd;cases hd
    |some s=>
     rw[hs,Option.bind_some]at hd
     split at hd
     ·rename_i hc;injection hd with hd;subst hd;exact mk (Ga bJ ho (fun _=>⟨hs,hc⟩) h)
     ·cases hd
  ·split at hd
   ·rename_i ms hu;injection hd with hd;subst hd;exact mk (Jo bJ ho hu (.inr ⟨rfl,rfl⟩) h)
   ·cases hs:shapeOf P fu t with
    |none=>rw[hs]at hd;cases hd
    |some s=>
     rw[hs,Option.bind_some]at hd
     split at hd
     ·rename_i hc;injection hd with hd;subst hd;exact mk (Ga bJ ho (fun _=>⟨hs,hc⟩) h)
     ·cases hd
  ·rename_i h1 h2
   injection hd with hd;subst hd;exact mk (Ga bJ ho (fun he=>by rcases he with he|he<;>first|exact absurd he h1|exact absurd he h2) h)
 ·rename_i op t x ho;injection hd with hd;subst hd;exact mk (UQ bJ ho h)
 ·rename_i s t x ho
  split at hd
  ·rename_i k' k h1 h2;injection hd with hd;subst hd;exact mk (Qp bJ ho h1 h2 h)
  ·rename_i e h1 h2
   split at hd
   ·rename_i h3;injection hd with hd;subst hd;exact mk' (by simp[dw.cls]) (NE bJ ho h1 h2 h3 h)
   ·cases hd
  ·rename_i e h1 h2
   split at hd
   ·rename_i h3;injection hd with hd;subst hd;exact mk' (by simp[dw.cls]) (J3 bJ ho h1 h2 h3 h)
   ·cases hd
  ·cases hd
 ·rename_i t x ho
  split at hd
  ·cases hd
  ·rename_i d hu hn;injection hd with hd;subst hd;exact mk (NK bJ ho hn (fun ms e=>hu ms (by rw[e])) h)
  ·cases hd
 ·rename_i fn first captured ho;injection hd with hd;subst hd;exact mk (Qq bJ ho h)
 ·rename_i t ho;injection hd with hd;subst hd;exact mk' (by simp[dw.cls]) (LM ho h)
 ·rename_i t x y ho
  split at hd
  ·rename_i e hu
   cases hz:fO P e with
   |none=>rw[hz]at hd;cases hd
   |some z=>
    rw[hz,Option.bind_some]at hd
    split at hd
    ·rename_i hc;injection hd with hd;subst hd;exact mk' (by simp[dw.cls]) (Gb bJ ho hu hz hc.1 hc.2.1 hc.2.2 h)
    ·cases hd
  ·cases hd
 ·rename_i t x lo hi mx ho
  split at hd
  ·rename_i e hu
   split at hd
   ·rename_i hc;injection hd with hd;subst hd;exact mk (NL bJ ho hu hc.1 (fun hm=>hc.2.elim (fun h1=>by cases mx<;>simp_all) id) h)
   ·cases hd
  ·rename_i hu
   split at hd
   ·rename_i hc;injection hd with hd;subst hd
    cases mx with
    |none=>exact mk (LN bJ ho hu h)
    |some m=>simp at hc
   ·cases hd
  ·cases hd
 ·rename_i s x f ho
  split at hd
  ·rename_i fields hu
   cases hf:fields[f]? with
   |none=>rw[hf]at hd;cases hd
   |some fd=>
    rw[hf,Option.bind_some]at hd
    split at hd
    ·rename_i hc;injection hd with hd;subst hd;exact mk (Gc bJ ho hu hf hc.1 hc.2 h)
    ·cases hd
  ·cases hd
 ·rename_i t x f ho
  split at hd
  ·rename_i fields hu
   cases hf:fields[f]? with
   |none=>rw[hf]at hd;cases hd
   |some fd=>
    rw[hf,Option.bind_some]at hd
    split at hd
    ·rename_i hc;injection hd with hd;subst hd;exact mk (NM bJ ho hu hf hc.1 hc.2 h)
    ·cases hd
  ·cases hd
 ·rename_i t x i' ho
  split at hd
  ·rename_i e hu
   split at hd
   ·rename_i hc;injection hd with hd;subst hd;exact mk (Gd bJ ho hu hc h)
   ·cases hd
  ·rename_i n e hu
   split at hd
   ·rename_i hc;injection hd with hd;subst hd;exact mk (Ia bJ ho hu hc h)
   ·cases hd
  ·cases hd
 ·rename_i t x i' ho
  split at hd
  ·rename_i hu;injection hd with hd;subst hd;exact mk (LO bJ ho hu h)
  ·cases hd
 ·rename_i t x i' ok ho
  split at hd
  ·rename_i k e hu
   cases hs:cC P k with
   |none=>rw[hs]at hd;cases hd
   |some s=>
    rw[hs,Option.bind_some]at hd
    cases hz:fO P e with
    |none=>rw[hz]at hd;cases hd
    |some z=>rw[hz]at hd;injection hd with hd;subst hd;exact mk' (by simp[dw.cls]) (Lx bJ ho hu hs hz h)
  ·cases hd
 ·rename_i t m k v ho
  split at hd
  ·rename_i kt e hu
   cases hs:cC P kt with
   |none=>rw[hs]at hd;cases hd
   |some s=>rw[hs]at hd;injection hd with hd;subst hd;exact mk' (by simp[dw.cls]) (Ly bJ ho hu hs h)
  ·cases hd
 ·rename_i x i' ho;injection hd with hd;subst hd;exact mk (J8 bJ ho h)
 ·rename_i x s T ho
  split at hd
  ·cases hd
  ·rename_i d hu hn;injection hd with hd;subst hd;exact mk (LP bJ ho hn (fun ms e=>hu ms (by rw[e])) h)
  ·cases hd
 ·rename_i c ho
  split at hd
  ·rename_i f hc
   split at hd
   ·rename_i hb;injection hd with hd;subst hd;exact mk' (by simp[dw.cls]) (Qh bJ ho hc hb h)
   ·injection hd with hd;subst hd;exact mk' (by simp[dw.cls]) (R2 bJ ho hc h)
  ·rename_i x hx hc;injection hd with hd;subst hd;exact mk' (by simp[dw.cls]) (R3 bJ ho hc h)
  ·rename_i r name hc;injection hd with hd;subst hd;exact mk' (by simp[dw.cls]) (LD bJ ho hc h)
  ·rename_i hc
   split at hd
   ·rename_i x e h1 h2;injection hd with hd;subst hd;exact mk (Qi bJ ho hc h1 h2 h)
   ·rename_i x h1 h2;injection hd with hd;subst hd;exact mk (Qj bJ ho hc h1 h2 h)
   ·rename_i x k e h1 h2;injection hd with hd;subst hd;exact mk' (by simp[dw.cls]) (Qk bJ ho hc h1 h2 h)
   ·cases hd
  ·rename_i hc
   split at hd
   ·rename_i x y e d h1 h2 h3
    cases hz:fO P e with
    |none=>rw[hz]at hd;cases hd
    |some z=>
     rw[hz,Option.bind_some]at hd
     split at hd
     ·rename_i hq;injection hd with hd;subst hd;exact mk' (by simp[dw.cls]) (LJ bJ ho hc h1 h2 h3 hq.2.2.2.2 hz hq.1 hq.2.1 hq.2.2.1 hq.2.2.2.1 h)
     ·cases hd
   ·cases hd
  ·rename_i hc
   split at hd
   ·rename_i m k kt e h1 h2
    cases hs:cC P kt with
    |none=>rw[hs]at hd;cases hd
    |some s=>rw[hs]at hd;injection hd with hd;subst hd;exact mk' (by simp[dw.cls]) (LA bJ ho hc h1 h2 hs h)
   ·cases hd
  ·rename_i hc
   split at hd
   ·rename_i x e h1 h2
    cases hz:fO P e with
    |none=>rw[hz]at hd;cases hd
    |some z=>
     rw[hz,Option.bind_some]at hd
     split at hd
     ·rename_i hq;injection hd with hd;subst hd;exact mk' (by simp[dw.cls]) (Ny bJ ho hc h1 h2 hz hq h)
     ·cases hd
   ·cases hd
  ·rename_i hc;injection hd with hd;subst hd;exact mk (R4 bJ ho hc h)
  ·rename_i hc;injection hd with hd;subst hd;exact mk (R5 bJ ho hc h)
  ·cases hd
 ·cases hd
theorem aq{α:Type}{o:Option α}{F G:α→Prop}(h:aE o F)(hk:∀v,F v→G v):aE o G:=by cases o;exact h;exact hk _ h
theorem bP{c F G:Prop}(h:dO c F)(hk:F→G):dO c G:=⟨h.1,hk h.2⟩
theorem Ge{v:Value}{F G:Bool→Prop}(h:AS v F)(hk:∀b,F b→G b):AS v G:=by unfold AS at*;split at h;exact hk _ h;exact h.elim
theorem kN{F G:List Value→Prop}:∀ {xs:List Operand},NN ev xs F→(∀l,F l→G l)→NN ev xs G:=by
 intro xs
 induction xs generalizing F G with
 |nil=>intro h hk;exact hk _ h
 |cons x xs ih=>intro h hk;exact aq h fun v h=>ih h fun l=>hk _
theorem Gf{F G:List Value→Prop}:∀ {r:List (Nat×Nat×Operand)} {z:List Value},AT ev z r F→(∀l,F l→G l)→AT ev z r G:=by
 intro r
 induction r with
 |nil=>intro z h hk;exact hk _ h
 |cons p r ih=>obtain⟨off,size,x⟩:=p;intro z h hk;exact aq h fun v h=>bP h fun h=>ih h hk
theorem qm{v:Value}{F G:Nat→Nat→Prop}(h:wQ v F)(hk:∀b o,F b o→G b o):wQ v G:=by obtain⟨b,o,rfl,h⟩:=fL h;exact hk _ _ h
theorem j5{v:Value}{F G:Int→Prop}(h:CO v F)(hk:∀b,F b→G b):CO v G:=by obtain⟨b,o,rfl,h⟩:=iA h;exact hk _ h
theorem kO{v:Value}{F G:Option Addr→Nat→Nat→Prop}(h:pA v F)(hk:∀a n c,F a n c→G a n c):pA v G:=by obtain⟨a,n,c,rfl,h⟩:=iz h;exact hk _ _ _ h
theorem zd{v:Option Addr}{F G:Nat→Nat→Prop}(h:uQ v F)(hk:∀b o,F b o→G b o):uQ v G:=by obtain⟨b,o,rfl,h⟩:=nu h;exact hk _ _ h
theorem rM{v:Value}{F G:ByteArray→Prop}(h:iU v F)(hk:∀b,F b→G b):iU v G:=by obtain⟨b,rfl,h⟩:=mN h;exact hk _ h
theorem Qr{v:Value}{F G:List Value→Prop}(h:Qs v F)(hk:∀b,F b→G b):Qs v G:=by obtain⟨b,rfl,h⟩:=Jp h;exact hk _ h
theorem Qt{v:Value}{F G:List Value→Prop}(h:Qu v F)(hk:∀b,F b→G b):Qu v G:=by obtain⟨b,rfl,h⟩:=Jq h;exact hk _ h
theorem wx{v:Value}{F G:Option Nat→Prop}(h:CP v F)(hk:∀b,F b→G b):CP v G:=by obtain⟨b,rfl,h⟩:=j0 h;exact hk _ h
theorem Qv{v:Value}{F G:Bool→Prop}(h:NO v F)(hk:∀b,F b→G b):NO v G:=by
 rcases Jr h with ⟨e,h⟩| ⟨t,u,e,h⟩<;>subst e<;>exact hk _ h
theorem J9{T:TypeId}{v:Value}{F G:Value→Prop}(h:wz T v F)(hk:∀b,F b→G b):wz T v G:=by obtain⟨b,e,h2⟩:=AU h;subst e;exact⟨rfl,hk _ h2⟩
theorem ze{H:Hp}{size:Nat}{v:Value}{F G:Nat→List Value→Prop}(h:rowOf H size v F)(hk:∀n l,F n l→G n l):rowOf H size v G:=by
 unfold rowOf at*
 split at h
 ·rename_i a n c
  cases hn:n==0
  ·rw[hn]at h
   exact zd h fun b o h=>aq h fun l h=>bP h (hk _ _)
  ·rw[hn]at h
   exact hk _ _ h
 ·exact bP h (hk _ _)
 ·exact h.elim
theorem Ej{H:Hp}{v:Value}{F G:List UInt8→Prop}(h:uP H v F)(hk:∀b,F b→G b):uP H v G:=by
 unfold uP at*
 split at h
 ·exact ze h fun n l h=>aq h hk
 ·exact h.elim
theorem kP{x:Option Operand}{d:Nat}{F G:Int→Prop}(h:pB ev x d F)(hk:∀b,F b→G b):pB ev x d G:=by
 cases x with
 |none=>exact hk _ h
 |some x=>exact aq h fun v h=>j5 h hk
theorem Pt{K':Value→Hp→Prop}(i:dw)(hc:i.cls= .pure)(h:i.vc P ev H K)(hk:∀v H',K v H'→K' v H'):i.vc P ev H K':=by
 cases i<;>simp[dw.cls]at hc<;>simp only[dw.vc]at h ⊢
 ·exact aq h fun v=>hk _ _
 ·exact aq h fun v h=>Ge h fun b h=>aq h fun v=>hk _ _
 ·exact Gf h fun l=>hk _ _
 ·exact aq h fun v h=>bP h (hk _ _)
 ·exact aq h fun v h=>aq h fun v h=>aq h fun v=>hk _ _
 ·exact aq h fun v h=>aq h fun v=>hk _ _
 ·exact aq h fun v h=>j5 h fun v=>hk _ _
 ·exact aq h fun v=>hk _ _
 ·exact kN h fun l h=>kN h fun l=>hk _ _
 ·exact aq h fun v h=>kO h fun a n c h=>kP h fun m h=>kP h fun m h=>kP h fun m h=>bP h (hk _ _)
 ·exact aq h fun v h=>rM h fun s h=>kP h fun m h=>kP h fun m h=>bP h (hk _ _)
 ·exact aq h fun v h=>qm h fun b o=>hk _ _
 ·exact aq h fun v h=>Qt h fun l h=>aq h fun v=>hk _ _
 ·exact aq h fun v h=>aq h fun v h=>kO h fun a n c h=>j5 h fun i h=>bP h fun h=>zd h fun b o=>hk _ _
 ·exact aq h fun v h=>aq h fun v h=>qm h fun b o h=>j5 h fun i h=>bP h (hk _ _)
 ·exact aq h fun v h=>aq h fun v h=>rM h fun s h=>j5 h fun i h=>bP h fun h=>aq h fun b=>hk _ _
 ·exact aq h fun v h=>Qr h fun l h=>aq h fun v=>hk _ _
 ·exact aq h fun v h=>kO h fun a n c=>hk _ _
 ·exact aq h fun v h=>rM h fun s=>hk _ _
 ·exact kN h fun l h=>aq h fun v=>hk _ _
 ·exact kN h fun l h=>aq h fun v=>hk _ _
 ·exact aq h fun v h=>J9 h fun v=>hk _ _
 ·exact aq h fun v h=>Qv h fun v=>hk _ _
theorem Sb(i:dw)(hc:i.cls= .quiet)(h:i.vc P ev H K):∃v,i.vc P ev H (fun v' H'=>v'=v∧H'=H)∧K v H:=by
 cases i<;>simp[dw.cls]at hc
 ·obtain⟨p,hp,h⟩:=aD h
  obtain⟨b,o,rfl,h⟩:=fL h
  obtain⟨l,hl,h⟩:=aD h
  obtain⟨v,hv,h⟩:=aD h
  exact⟨v,by simp only[dw.vc,hp,aE,wQ,hl,hv,and_self],h⟩
 ·obtain⟨p,hp,h⟩:=aD h
  obtain⟨b,o,rfl,h⟩:=fL h
  obtain⟨l,hl,h⟩:=aD h
  obtain⟨hn,h⟩:=h.out
  exact⟨_,by simp only[dw.vc,hp,aE,wQ,hl,dO,hn,and_self],h⟩
 ·rename_i s z ok m k
  obtain⟨p,hp,h⟩:=aD h
  obtain⟨q,hq,h⟩:=aD h
  obtain⟨r,rfl,h⟩:=j0 h
  obtain⟨hn,h⟩:=h.out
  cases r with
  |none=>exact⟨_,by simp only[dw.vc,hp,hq,aE,CP,dO,hn,yo,and_self],h⟩
  |some b=>
   obtain⟨x,hx,h⟩:=aD h
   obtain⟨y,hy,h⟩:=aD h
   exact⟨_,by simp only[dw.vc,hp,hq,aE,CP,dO,hn,yo,hx,hy,and_self],h⟩
 ·obtain⟨p,hp,h⟩:=aD h
  obtain⟨r,rfl,h⟩:=j0 h
  cases r with
  |none=>exact⟨_,by simp only[dw.vc,hp,aE,CP,LQ,and_self],h⟩
  |some b=>
   obtain⟨x,hx,h⟩:=aD h
   exact⟨_,by simp only[dw.vc,hp,aE,CP,LQ,hx,and_self],h⟩
 ·obtain⟨p,hp,h⟩:=aD h
  have key:∃l,K (.string ⟨l.toArray⟩) H∧uP H p (fun l'=>l'=l):=by
   unfold uP at*
   split at h
   ·rename_i a n c
    unfold rowOf at*
    simp only at*
    cases hn:n==0
    ·rw[hn]at h
     obtain⟨b,o,rfl,h⟩:=nu h
     obtain⟨l,hl,h⟩:=aD h
     obtain⟨h1,h⟩:=h.out
     obtain⟨bs,hb,h⟩:=aD h
     exact⟨bs,h,by simp only[Gg,uQ,aE,hl,dO,h1,hb,and_self]⟩
    ·rw[hn]at h
     have h:aE (bytesOf []) fun l=>K (.string ⟨l.toArray⟩) H:=h
     obtain⟨bs,hb,h⟩:=aD h
     exact⟨bs,h,by simp only[Gg,aE,hb]⟩
   ·exact h.elim
  obtain⟨l,h1,h2⟩:=key
  refine⟨_,?_,h1⟩
  simp only[dw.vc,hp,aE]
  exact Ej h2 fun b e=>by rw[e];exact⟨rfl,rfl⟩
end
end Go.Vc
