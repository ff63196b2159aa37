/- Texts put behind each other. -/
import Derived.Test.YtjlnnljohemifaaGreatK98
import Derived.Test.YtjlnnljohemifaaGreatK6
import Derived.Lib.ConvBytes
import Derived.Laws.AppendOwn
import Derived.Laws.Append
set_option linter.unusedVariables false
set_option linter.unusedSimpArgs false
namespace Go.Vc
section
variable {P : Program} {o : Oper} {a : Act} {ev : Ev} {H : Hp} {K : Value → Hp → Prop}
theorem M1{t kt e:TypeId}{s:Shape}{z:Value}{x y:Operand}{ok:Bool}(bI:bT ev a)(ho:o.op= .lookup t x y ok)(ht:P.underlying t=some (.map kt e))
  (hs:cE P kt=some s)(hz:gw P e=some z)(h:(df.lookup s z ok x y).vc P ev H K):dX P o a H K:=by
 intro w hw
 subst hw
 obtain⟨r,hx,h⟩:=nh (bc bI (bc bI h))
 obtain⟨hk,h⟩:=h.out
 cases r with
 |none=>
  refine .inl ⟨jw ok z none,w,?_,bZ.refl w,h⟩
  have hf:=mi (P:=P) (k:=a.eval y) (es:=[]) (r:=none) hs rfl w
  simp only[execOp,ho,Instr.lookup,Sem.run_bind,ap ht,Result.andThen_ok,hx,Sem.run_pure,jA hs hk,hf,cR hz]
  cases ok<;>rfl
 |some b=>
  obtain⟨m,hm,h⟩:=aC h
  obtain⟨rr,hr,h⟩:=aC h
  obtain⟨es,he,hl⟩:=Gq hm
  rw[←hl]at hr
  refine .inl ⟨jw ok z (rr.map (·.2)),w,?_,bZ.refl w,h⟩
  simp only[execOp,ho,Instr.lookup,Sem.run_bind,ap ht,Result.andThen_ok,hx,Sem.run_pure,rN he,jA hs hk,mi hs hr]
  cases rr with
  |none=>simp only[cR hz,Result.andThen_ok,Sem.run_bind,Sem.run_pure];cases ok<;>rfl
  |some q=>cases ok<;>rfl
theorem M2{t kt e:TypeId}{s:Shape}{x y z:Operand}(bI:bT ev a)(ho:o.op= .mapUpdate t x y z)(ht:P.underlying t=some (.map kt e))
  (hs:cE P kt=some s)(h:(df.update s x y z).vc P ev H K):dX P o a H K:=by
 intro w hw
 subst hw
 obtain⟨r,hx,h⟩:=nh (bc bI (bc bI (bc bI h)))
 obtain⟨b,rfl,h⟩:=aC h
 obtain⟨hk,h⟩:=h.out
 obtain⟨m,hm,h⟩:=aC h
 obtain⟨rr,hr,h⟩:=aC h
 obtain⟨vu,h⟩:=h.out
 obtain⟨es,he,hl⟩:=Gq hm
 rw[←hl]at hr
 refine .inr (.inl ⟨{w with heap:=Hp.EW w.heap b (MD m.1 rr (a.eval y) (a.eval z) m.2) (Lb rr m.2)},?_,⟨rfl,rfl⟩,h⟩)
 simp only[execOp,ho,Instr.mapUpdate,Sem.run_bind,ap ht,Result.andThen_ok,hx,rN he,jA hs hk,mi hs hr]
 cases rr with
 |none=>
  simp only[rO he,Result.andThen_ok,Sem.run_pure,MD,Lb,←hl]
  simp
 |some q=>
  obtain⟨i,v⟩:=q
  have hb:Instr.sameBits 10000 (((es[i]?).map (·.key)).getD (a.eval y)) (a.eval y)=true:=by
   simp only[Gp,←hl]at vu
   simpa using vu
  simp only[Instr.keyThatStays,hb,if_true,Sem.run_bind,Sem.run_pure,Result.andThen_ok,rO he,MD,Lb,←hl]
  simp
theorem M3{kt e:TypeId}{s:Shape}{c:Call}{x y:Operand}(bI:bT ev a)(ho:o.op= .call c)(hc:c.callee= .builtin .delete)(nw:c.args.toList=[x,y])
  (rP:(c.argTypes[0]?).bind P.underlying=some (.map kt e))(hs:cE P kt=some s)(h:(df.delete s x y).vc P ev H K):dX P o a H K:=by
 intro w hw
 subst hw
 obtain⟨r,hx,h⟩:=nh (bc bI (bc bI h))
 obtain⟨b,rfl,h⟩:=aC h
 obtain⟨hk,h⟩:=h.out
 obtain⟨m,hm,h⟩:=aC h
 obtain⟨rr,hr,h⟩:=aC h
 obtain⟨es,he,hl⟩:=Gq hm
 rw[←hl]at hr
 have ha:c.args= #[x,y]:=Array.ext' nw
 obtain⟨t,HF,Iu⟩:=Option.bind_eq_some_iff.1 rP
 refine .inl ⟨.tuple [].toArray,{w with heap:=Hp.EW w.heap b (HS m.1 rr) m.2},?_,⟨rfl,rfl⟩,h⟩
 simp only[execOp,ho,resolve,hc,Sem.run_bind,Sem.run_pure,Result.andThen_ok,invoke,builtin,ha,Builtin.delete_,HF]
 simp only[List.map_toArray,aoy,List.map_nil,apo,an7,aox,Sem.run_bind,ap Iu,Result.andThen_ok,hx,rN he,jA hs hk,mi hs hr]
 cases rr with
 |none=>simp only[Sem.run_bind,rO he,Result.andThen_ok,Sem.run_pure,HS,←hl]
 |some q=>
  obtain⟨i,v⟩:=q
  simp only[Sem.run_bind,rO he,Result.andThen_ok,Sem.run_pure,HS,←hl,Array.toList_eraseIdxIfInBounds]
theorem O3{e:TypeId}{z:Value}{c:Call}{x:Operand}(bI:bT ev a)(ho:o.op= .call c)(hc:c.callee= .builtin .clear)(nw:c.args.toList=[x])
  (rP:(c.argTypes[0]?).bind P.underlying=some (.slice e))(hz:gw P e=some z)(Lv:(aM z).length≠0)(h:(df.Ks (aM z) x).vc P ev H K):dX P o a H K:=by
 intro w hw
 subst hw
 obtain⟨ad,n,cp,hx,h⟩:=kN (bc bI h)
 have ha:c.args= #[x]:=Array.ext' nw
 obtain⟨t,HF,Iu⟩:=Option.bind_eq_some_iff.1 rP
 have OZ:z.cells.toList=aM z:=eX z
 rcases h with ⟨rfl,h⟩| ⟨hn,b,off,l,rfl,hl,h1,h2,h⟩
 ·refine .inl ⟨.tuple [].toArray,w,?_,bZ.refl w,h⟩
  simp only[execOp,ho,resolve,hc,Sem.run_bind,Sem.run_pure,Result.andThen_ok,invoke,builtin,ha,Builtin.clear_,HF]
  simp only[List.map_toArray,aoy,List.map_nil,apo,an7,Sem.run_bind,ap Iu,Result.andThen_ok,hx]
  cases ad<;>simp
 ·have e1:(Builtin.zeroCells z.cells n).toList=cN (aM z) n:=by
   unfold Builtin.zeroCells
   rw[Dm rfl (by rw[←OZ]at Lv;simpa using Lv),OZ]
  have bv:(cN (aM z) n).length=n*(aM z).length:=by simp[cN]
  obtain⟨w',hs,NR,hk,_⟩:=ke (P:=P) (b:=b) (o:=off) (cN (aM z) n) 0 w l hl (by omega) h1
  have aS:cN (aM z) n≠[]:=fun e=>by
   rw[e]at bv
   simp only[aoF]at bv
   rcases Nat.mul_eq_zero.1 bv.symm with h|h
   ·exact hn h
   ·exact Lv h
  refine .inl ⟨.tuple [].toArray,w',?_,NR,?_⟩
  ·simp only[execOp,ho,resolve,hc,Sem.run_bind,Sem.run_pure,Result.andThen_ok,invoke,builtin,ha,Builtin.clear_,HF]
   simp only[List.map_toArray,aoy,List.map_nil,apo,an7,Sem.run_bind,ap Iu,Result.andThen_ok,hx]
   cases n with
   |zero=>exact absurd rfl hn
   |succ n=>simp[cR hz,e1,hs]
  ·rw[hk aS];exact h
theorem uY{f:FuncId}(hc:eW P f=true)(args:Array Value)(w:World):(callFunc f args).run P w= .ok (.enter f args) w:=by
 unfold eW at hc
 split at hc
 ·rename_i fn hf
  simp only[aoz,bne_iff_ne,ne_eq]at hc
  obtain⟨bd,hb⟩:=Option.isSome_iff_exists.1 hc.2
  simp[callFunc,hf,hc.1,hb]
 ·cases hc
theorem Rh{f:FuncId}{c:Call}(bI:bT ev a)(ho:o.op= .call c)(hc:c.callee= .value (.func f))(hb:eW P f=true)
  (h:(df.call f c.args.toList).vc P ev H K):dX P o a H K:=by
 intro w hw
 subst hw
 have h:=nY bI h
 refine .inr (.inr ⟨f,(c.args.map a.eval),w,?_,bZ.refl w,by simpa using h⟩)
 simp[execOp,ho,resolve,hc,Act.eval,Deferred.ofValue,invoke,uY hb]
theorem TQ{f:FuncId}{c:Call}(bI:bT ev a)(ho:o.op= .call c)(hc:c.callee= .value (.func f))
  (h:(df.ext f c.args.toList).vc P ev H K):dX P o a H K:=by
 intro w hw
 subst hw
 obtain⟨v,hv,hk⟩:=nY bI h
 refine .inl ⟨v,w,?_,bZ.refl w,hk⟩
 have PG:(callFunc f (c.args.map a.eval)).run P w= .ok (.value v) w:=by
  have h1:=hv w
  rw[show(List.map a.eval c.args.toList).toArray=c.args.map a.eval from Array.ext' (by simp)]at h1
  exact h1
 simp[execOp,ho,resolve,hc,Act.eval,Deferred.ofValue,invoke,PG]
theorem TR{f:Operand}{c:Call}(bI:bT ev a)(ho:o.op= .call c)(hc:c.callee= .value f)
  (h:(df.dyn f c.args.toList).vc P ev H K):dX P o a H K:=by
 intro w hw
 subst hw
 have h:=nY bI (bc bI h)
 unfold Ys at h
 split at h
 ·rename_i g first captured hf
  refine .inr (.inr ⟨g,first++c.args.map a.eval++captured,w,?_,bZ.refl w,by simpa using h.2⟩)
  simp only[execOp,ho,resolve,hc,hf,Deferred.ofValue,Sem.run_bind,Sem.run_pure,Result.andThen_ok,invoke,uY h.1]
 ·exact h.elim
theorem M4{r:Operand}{name:String}{c:Call}(bI:bT ev a)(ho:o.op= .call c)(hc:c.callee= .invoke r name)
  (h:(df.invoke r name c.args.toList).vc P ev H K):dX P o a H K:=by
 intro w hw
 subst hw
 obtain⟨T,v,f,rv,hr,⟨FT,hm⟩,h⟩:=nY bI (bc bI h)
 refine .inr (.inr ⟨f, #[rv]++c.args.map a.eval,w,?_,bZ.refl w,by simpa using h⟩)
 have hx:(#[Value.iface T v]++c.args.map a.eval)[0]? =some (.iface T v):=by rw[ao5 (by simp)];rfl
 have wu:(#[Value.iface T v]++c.args.map a.eval).extract 1 (#[Value.iface T v]++c.args.map a.eval).size=c.args.map a.eval:=by
  apply Array.ext'
  simp only[Array.toList_extract,Array.toList_append,Array.toList_map,Array.size_append]
  simp[apG]
 simp only[execOp,ho,resolve,hc,hr,Sem.run_bind,Sem.run_pure,Result.andThen_ok,invoke,hx,wu,callMethod,run_program,hm w rfl,uY FT]
theorem pT{c:Call}{x:Operand}(ho:o.op= .call c)(hc:c.callee= .builtin .len)(nw:c.args.toList=[x]){w:World}{n:Nat}
  (hr:(Builtin.len_ c.argTypes o.type #[a.eval x]).run P w= .ok (goInt n) w):(execOp a.eval o).run P w= .ok (.value (.int .i64 n)) w:=by
 have ha:c.args= #[x]:=Array.ext' nw
 have hav:c.args.map a.eval= #[a.eval x]:=by rw[ha];simp
 simp only[execOp,ho,resolve,hc,Sem.run_bind,Sem.run_pure,Result.andThen_ok,invoke,builtin,hav,hr,goInt]
theorem Ri{c:Call}{x:Operand}{e:TypeId}(bI:bT ev a)(ho:o.op= .call c)(hc:c.callee= .builtin .len)(nw:c.args.toList=[x])
  (rP:(c.argTypes[0]?).bind P.underlying=some (.slice e))(h:(df.bu x).vc P ev H K):dZ P o a H K:=by
 obtain⟨t,HF,Iu⟩:=Option.bind_eq_some_iff.1 rP
 obtain⟨ad,n,cp,hx,h⟩:=kN (bc bI h)
 refine⟨_,fun w=>pT ho hc nw (n:=n) ?_,h⟩
 simp[Builtin.len_,HF,ap Iu,goInt,hx]
theorem Rj{c:Call}{x:Operand}(bI:bT ev a)(ho:o.op= .call c)(hc:c.callee= .builtin .len)(nw:c.args.toList=[x])
  (rP:(c.argTypes[0]?).bind P.underlying=some .string)(h:(df.VD x).vc P ev H K):dZ P o a H K:=by
 obtain⟨t,HF,Iu⟩:=Option.bind_eq_some_iff.1 rP
 obtain⟨s,hx,h⟩:=pS (bc bI h)
 refine⟨_,fun w=>pT ho hc nw (n:=s.size) ?_,h⟩
 simp[Builtin.len_,HF,ap Iu,goInt,hx]
theorem Rk{c:Call}{x:Operand}{k e:TypeId}(bI:bT ev a)(ho:o.op= .call c)(hc:c.callee= .builtin .len)(nw:c.args.toList=[x])
  (rP:(c.argTypes[0]?).bind P.underlying=some (.map k e))(h:(df.VE x).vc P ev H K):dX P o a H K:=by
 intro w hw
 subst hw
 obtain⟨t,HF,Iu⟩:=Option.bind_eq_some_iff.1 rP
 obtain⟨r,hx,h⟩:=nh (bc bI h)
 cases r with
 |none=>
  refine .inl ⟨_,w,pT ho hc nw (n:=0) ?_,bZ.refl w,h⟩
  simp[Builtin.len_,HF,ap Iu,goInt,hx]
 |some b=>
  obtain⟨m,hm,h⟩:=aC h
  obtain⟨es,he,hl⟩:=Gq hm
  refine .inl ⟨_,w,pT ho hc nw (n:=m.1.length) ?_,bZ.refl w,h⟩
  simp[Builtin.len_,HF,ap Iu,goInt,hx,rN he,←hl]
theorem VL:∀ (r:List Value) (x v:Value),MR x r=some v→∀w:World,(r.foldlM Builtin.min2 x).run P w= .ok v w:=by
 intro r
 induction r with
 |nil=>intro x v h w;injection h with h;subst h;rfl
 |cons y r ih=>
  intro x v h w
  unfold MR at h
  split at h
  ·rename_i k p k' q
   simp[List.foldlM_cons,Builtin.min2,ih _ v h w]
  ·cases h
theorem VM:∀ (r:List Value) (x v:Value),MS x r=some v→∀w:World,(r.foldlM Builtin.max2 x).run P w= .ok v w:=by
 intro r
 induction r with
 |nil=>intro x v h w;injection h with h;subst h;rfl
 |cons y r ih=>
  intro x v h w
  unfold MS at h
  split at h
  ·rename_i k p k' q
   simp[List.foldlM_cons,Builtin.max2,ih _ v h w]
  ·cases h
theorem TS{c:Call}(bI:bT ev a)(ho:o.op= .call c)(hc:c.callee= .builtin .min)(h:(df.VF c.args.toList).vc P ev H K):dZ P o a H K:=by
 obtain⟨v,hv,h⟩:=aC (nY bI h)
 refine⟨v,fun w=>?_,h⟩
 have e:(Builtin.min_ c.argTypes o.type (c.args.map a.eval)).run P w= .ok v w:=by
  unfold Builtin.min_
  rw[Array.toList_map]
  cases hl:c.args.toList.map a.eval with
  |nil=>rw[hl]at hv;cases hv
  |cons x r=>rw[hl]at hv;exact VL r x v hv w
 simp only[execOp,ho,resolve,hc,Sem.run_bind,Sem.run_pure,Result.andThen_ok,invoke,builtin,e]
theorem TT{c:Call}(bI:bT ev a)(ho:o.op= .call c)(hc:c.callee= .builtin .max)(h:(df.Qc c.args.toList).vc P ev H K):dZ P o a H K:=by
 obtain⟨v,hv,h⟩:=aC (nY bI h)
 refine⟨v,fun w=>?_,h⟩
 have e:(Builtin.max_ c.argTypes o.type (c.args.map a.eval)).run P w= .ok v w:=by
  unfold Builtin.max_
  rw[Array.toList_map]
  cases hl:c.args.toList.map a.eval with
  |nil=>rw[hl]at hv;cases hv
  |cons x r=>rw[hl]at hv;exact VM r x v hv w
 simp only[execOp,ho,resolve,hc,Sem.run_bind,Sem.run_pure,Result.andThen_ok,invoke,builtin,e]
theorem BE{H:Hp}{size:Nat}{v:Value}{F:Nat→List Value→Prop}(h:rowOf H size v F):
  ∃ (n:Nat) (l:List Value),F n l∧(∀w:World,(Builtin.lenOf v).run P w= .ok n w)∧(∀w:World,w.heap=H→(Builtin.firstCells size n v).run P w= .ok l.toArray w)∧l.length=n*size∧
   (∀b m c,v= .slice b m c→m=n):=by
 unfold rowOf at h
 split at h
 ·rename_i a n c
  by_cases QB:n=0
  ·subst QB
   refine⟨0,[],h,fun _=>rfl,fun w hw=>?_,by simp,fun _ _ _ e=>by injection e with _ e _;exact e.symm⟩
   cases a with
   |none=>rfl
   |some a=>simp only[Builtin.firstCells,aol];rfl
  ·have e0:(n==0)=false:=by simpa using QB
   rw[e0]at h
   obtain⟨b,off,rfl,h1⟩:=qS (F:=fun b o=>aF (H.rd b) fun l=>eB (o+n*size≤l.length) (F n ((l.drop o).take (n*size)))) h
   obtain⟨l,hl,h2⟩:=aC h1
   obtain⟨hn,h3⟩:=h2.out
   refine⟨n,_,h3,fun _=>rfl,fun w hw=>?_,by simp;omega,fun _ _ _ e=>by injection e with _ e _;exact e.symm⟩
   subst hw
   exact tO (P:=P) (a:=⟨b,off,none⟩) rfl hl hn
 ·rename_i s
  obtain⟨e1,h2⟩:=h.out
  subst e1
  refine⟨s.size,_,h2,fun _=>rfl,fun w _=>?_,?_,fun _ _ _ e=>by cases e⟩
  ·simp only[Builtin.firstCells,Sem.run_pure]
   congr 1
   apply Array.ext'
   have:s.extract 0 s.size=s:=by
    apply ByteArray.ext
    simp
   rw[this]
   simp
  ·rw[anW,anD,Array.length_toList];rfl
 ·exact h.elim
theorem Li{s t e:TypeId}{x:Operand}(bI:bT ev a)(ho:o.op= .convert s t x)(hs:P.underlying s=some .string)(ht:P.underlying t=some (.slice e))(he:P.underlying e=some (.int .u8))
  (h:(df.Le e x).vc P ev H K):dX P o a H K:=by
 intro w hw
 subst hw
 have h:=bc bI h
 unfold mf at h
 split at h
 ·rename_i bs hx
  have hr:=Lib.run_convert_string_bytes (P:=P) w s t e bs hs ht he
  have SU:=grownCap_ge w bs.size 0 e
  refine .inl ⟨.slice (some ⟨w.heap.size,0,none⟩) bs.size (grownCap w bs.size 0 e),Lib.bytesWorld w e bs,?_,⟨rfl,rfl⟩,?_⟩
  ·simp only[execOp,ho]
   rw[hx]at*
   simp only[Sem.run_bind,hr,Result.andThen_ok,Sem.run_pure]
  ·have hk:=h _ SU
   have e1:(Lib.bytesWorld w e bs).heap=Hp.OO w.heap e ((bs.data.toList.map fun b=>.int .u8 b.toNat)++List.replicate (grownCap w bs.size 0 e - bs.size) (.int .u8 0)):=by
    apply Array.ext_getElem?
    intro i
    rcases ao3 i w.heap.size with hi|hi|hi
    ·rw[Lib.bytesWorld_at_old w e bs i hi,MN _ _ _ hi]
    ·subst hi
     rw[Lib.bytesWorld_at_new]
     simp[Hp.OO,Lib.bytesCells]
    ·rw[aoS (by rw[Lib.bytesWorld_size];omega),aoS (by rw[Q7];omega)]
   rw[e1]
   exact hk
 ·exact h.elim
theorem O4:∀ (l:List Value) (bs:List UInt8),bytesOf l=some bs→∀ (s:ByteArray) (w:World),
  (forIn l s fun c (s:ByteArray)=>(match c with| .int .u8 n=>pure (ForInStep.yield (s.push (UInt8.ofNat n.toNat)))|_=>(do stuck "bytesToString: byte expected";pure (ForInStep.yield s)):Sem (ForInStep ByteArray))).run P w= .ok ⟨s.data++bs.toArray⟩ w:=by
 intro l
 induction l with
 |nil=>intro bs h s w;simp only[bytesOf,anK]at h;subst h;simp
 |cons v l ih=>
  intro bs h s w
  cases v with
  |int k n=>
   cases k with
   |u8=>
    simp only[bytesOf]at h
    cases hb:bytesOf l with
    |none=>rw[hb]at h;cases h
    |some r=>
     rw[hb]at h
     simp only[Option.map_some,anK]at h
     subst h
     simp only[List.forIn_cons,Sem.run_bind,Sem.run_pure,Result.andThen_ok]
     rw[ih r hb]
     congr 1
     apply ByteArray.ext
     apply Array.ext'
     simp[ByteArray.push]
   |_=>simp[bytesOf]at h
  |_=>simp[bytesOf]at h
theorem O5{s t e:TypeId}{x:Operand}(bI:bT ev a)(ho:o.op= .convert s t x)(hs:P.underlying s=some (.slice e))(ht:P.underlying t=some .string)(he:P.underlying e=some (.int .u8))
  (h:(df.PT x).vc P ev H K):dX P o a H K:=by
 intro w hw
 subst hw
 have h:=bc bI h
 unfold xX at h
 split at h
 ·rename_i ad n c hx
  obtain⟨m,l,h,h1,h2,h3,h4⟩:=BE (P:=P) h
  obtain⟨bs,hb,h⟩:=aC h
  refine .inl ⟨_,w,?_,bZ.refl w,h⟩
  have hm:n=m:=h4 _ _ _ rfl
  subst hm
  have h5:=h2 w rfl
  have key:(Conv.bytesToString (.slice ad n c)).run P w= .ok (.string ⟨bs.toArray⟩) w:=by
   cases ad with
   |none=>
    simp only[Builtin.firstCells,Sem.run_pure,Result.ok.injEq,and_true]at h5
    have hl:l=[]:=by
     have:=an4 Array.toList h5
     simpa using this.symm
    subst hl
    simp only[bytesOf,anK]at hb
    subst hb
    rfl
   |some ad=>
    simp only[Builtin.firstCells,anD]at h5
    simp only[Conv.bytesToString,Sem.run_bind,h5,Result.andThen_ok]
    rw[List.forIn_toArray]
    refine(an4 (fun r=>Result.andThen r fun a w'=>Sem.run P (pure (Value.string a)) w') (O4 (P:=P) l bs hb ByteArray.empty w)).trans ?_
    simp only[Result.andThen_ok,Sem.run_pure]
    congr 3
    simp
  simp only[execOp,ho,convert,hx,Sem.run_bind,ap hs,ap ht,ap he,Result.andThen_ok,key]
  rfl
 ·exact h.elim
theorem WB{d:TypeDesc}(hd:HT d=true):(∃e,d= .slice e)∨d= .string:=by
 cases d<;>first|exact .inl ⟨_,rfl⟩|exact .inr rfl| (cases hd)
theorem JB{Yx:Array TypeId}{ty t t' e:TypeId}{d:TypeDesc}{w:World}{base:Option Addr}{n cap m:Nat}{y:Value}{new:Array Value}(HF:Yx[0]? =some t)(Rm:Yx[1]? =some t')
  (Iu:P.underlying t=some (.slice e))(Ez:P.underlying t'=some d)(hd:HT d=true)(hi:(P.info? e).isSome=true)
  (bv:(Builtin.lenOf y).run P w= .ok m w)(zI:(Builtin.firstCells (P.cellsOf e) m y).run P w= .ok new w)(vf:n+m≤cap):
  (Builtin.append_ Yx ty #[.slice base n cap,y]).run P w=
   ((match base with|some a=>storeCells (a.add (n*P.cellsOf e)) new.toList|none=>(pure ():Sem Unit)).run P w).andThen fun _ w'=>.ok (.slice base (n+m) cap) w':=by
 rcases WB hd with ⟨e',rfl⟩|rfl<;>unfold Builtin.append_<;>
 simp only[apo,an7,aox,HF,Rm,Sem.run_bind,ap Iu,ap Ez,Result.andThen_ok,bN hi,Sem.run_pure,bv,aoQ,if_false,if_pos vf,Bool.not_false,if_true,zI]<;>
 cases base<;>simp only[Sem.run_pure,Result.andThen_ok,Sem.run_bind]
theorem Ig{Yx:Array TypeId}{ty t t' e:TypeId}{d:TypeDesc}{w:World}{base:Option Addr}{n cap m:Nat}{y z:Value}{new Tm:Array Value}(HF:Yx[0]? =some t)(Rm:Yx[1]? =some t')
  (Iu:P.underlying t=some (.slice e))(Ez:P.underlying t'=some d)(hd:HT d=true)(hi:(P.info? e).isSome=true)(hz:gw P e=some z)
  (bv:(Builtin.lenOf y).run P w= .ok m w)(zI:(Builtin.firstCells (P.cellsOf e) m y).run P w.drew= .ok new w.drew)
  (hold:(Builtin.firstCells (P.cellsOf e) n (.slice base n cap)).run P w.drew= .ok Tm w.drew)
  (vf:cap<n+m)(hb:Builtin.nextslicecap (n+m) cap*P.bytesOf e≤2^48)(Qy:P.bytesOf e≠0):
  ∃c',n+m≤c'∧(Builtin.append_ Yx ty #[.slice base n cap,y]).run P w=
   .ok (.slice (some ⟨w.heap.size,0,none⟩) (n+m) c') {w with drawn:=w.drawn+1,heap:=Hp.new w.heap e ((Tm++new++Builtin.zeroCells z.cells (c' - (n+m))).toList)}:=by
 obtain⟨inf,acB⟩:=Option.isSome_iff_exists.1 hi
 have Yy:inf.bytes=P.bytesOf e:=by simp[Program.bytesOf,acB]
 refine⟨(Question.appendCap (n+m) cap e).cut (w.tape w.drawn (.appendCap (n+m) cap e)),by simp[Question.cut],?_⟩
 have aS:n+m≤2^48:=by
  have h1:=le_nextslicecap vf
  have h2:Builtin.nextslicecap (n+m) cap≤Builtin.nextslicecap (n+m) cap*P.bytesOf e:=Nat.le_mul_of_pos_right _ (by omega)
  omega
 have cw:¬ (9223372036854775807< ((n:Int)+(m:Int))):=by omega
 have ag4:¬ (281474976710656<Builtin.nextslicecap (n+m) cap*P.bytesOf e):=by omega
 have hn:¬ (n+m≤cap):=by omega
 rcases WB hd with ⟨e',rfl⟩|rfl<;>
  simp[Builtin.append_,HF,Rm,ap Iu,ap Ez,bN hi,bv,hn,et acB,Yy,Qy,ag4,Question.forced,cR hz,hold,zI,nZ]<;>
  exact⟨rfl,rfl,rfl⟩
theorem M5{c:Call}{e:TypeId}{d:TypeDesc}{z:Value}{x y:Operand}(bI:bT ev a)(ho:o.op= .call c)(hc:c.callee= .builtin .append)(nw:c.args.toList=[x,y])
  (rP:(c.argTypes[0]?).bind P.underlying=some (.slice e))(ag5:(c.argTypes[1]?).bind P.underlying=some d)(hd:HT d=true)(hz:gw P e=some z)(hi:(P.info? e).isSome=true)
  (h0:P.cellsOf e≠0)(hl:(aM z).length=P.cellsOf e)(Qy:P.bytesOf e≠0)(h:(df.append e (P.cellsOf e) (P.bytesOf e) (aM z) x y).vc P ev H K):dX P o a H K:=by
 intro w hw
 subst hw
 have ha:c.args= #[x,y]:=Array.ext' nw
 obtain⟨t,HF,Iu⟩:=Option.bind_eq_some_iff.1 rP
 obtain⟨t',Rm,Ez⟩:=Option.bind_eq_some_iff.1 ag5
 have OZ:z.cells.toList=aM z:=eX z
 have Pp:z.cells.size=P.cellsOf e:=by rw[←hl,←OZ];simp
 obtain⟨base,n,cap,hx,h⟩:=kN (bc bI (bc bI h))
 have h':=h
 obtain⟨m,new,h,bv,zI,Zj,_⟩:=BE (P:=P) h
 obtain⟨hA,hB,hC⟩:=h
 have hav:c.args.map a.eval= #[.slice base n cap,a.eval y]:=by rw[ha];simp[hx]
 have pre:∀v w',(Builtin.append_ c.argTypes o.type #[.slice base n cap,a.eval y]).run P w= .ok v w'→(execOp a.eval o).run P w= .ok (.value v) w':=by
  intro v w' hr
  simp only[execOp,ho,resolve,hc,Sem.run_bind,Sem.run_pure,Result.andThen_ok,invoke,builtin,hav,hr]
 by_cases vf:n+m≤cap
 ·have hr:=JB (ty:=o.type) (base:=base) HF Rm Iu Ez hd hi (bv w) (zI w rfl) vf
  by_cases hm:m=0
  ·subst hm
   have QB:new=[]:=aoe.1 (by omega)
   subst QB
   refine .inl ⟨_,w,pre _ w ?_,bZ.refl w,hA vf rfl⟩
   rw[hr]
   cases base<;>simp[storeCells]
  ·obtain⟨b,off,rfl,hB⟩:=qS (hB vf hm)
   obtain⟨l,Om,hB⟩:=aC hB
   obtain⟨⟨h1,h2⟩,hB⟩:=hB.out
   obtain⟨w',hs,NR,hk,_⟩:=ke (P:=P) (b:=b) (o:=off+n*P.cellsOf e) new 0 w l Om (by rw[aoR]at h1;omega) h2
   have aS:new≠[]:=fun e'=>by
    rw[e']at Zj
    rcases Nat.mul_eq_zero.1 Zj.symm with h|h
    ·exact hm h
    ·exact h0 h
   refine .inl ⟨_,w',pre _ w' ?_,NR,hk aS▸hB⟩
   rw[hr]
   simp only[Bf,List.toList_toArray,hs,Result.andThen_ok]
 ·obtain⟨hb,hC⟩:=hC (by omega)
  rw[hx]at hC
  obtain⟨n',Tm,hC,_,hold,hol,hn'⟩:=BE (P:=P) hC
  have:n=n':=hn' _ _ _ rfl
  subst this
  obtain⟨c',LD,hr⟩:=Ig (ty:=o.type) (base:=base) HF Rm Iu Ez hd hi hz (bv w) (zI w.drew rfl) (hold w.drew rfl) (by omega) hb Qy
  refine .inl ⟨_,_,pre _ _ hr,⟨rfl,rfl⟩,?_⟩
  have e1:(Tm.toArray++new.toArray++Builtin.zeroCells z.cells (c' - (n+m))).toList=Tm++new++cN (aM z) (c' - (n+m)):=by
   rw[Array.toList_append,Array.toList_append]
   congr 1
   unfold Builtin.zeroCells
   rw[Dm rfl (by omega),OZ]
  rw[e1]
  exact hC c' LD
end
end Go.Vc

namespace Go.Vc
def df.cls:df→Mb
 | .dk _| .pick .. | .build .. | .nilCheck _| .aD .. | .un .. | .conv .. | .iface .. | .func .. | .slice .. | .Lc .. | .fieldAddr .. | .field .. | .indexAddr .. | .gO .. | .Ld .. | .extract ..
 | .bu _| .VD _| .VF _| .Qc _| .GJ .. | .VG .. =>.pure
 | .eK _| .zQ .. | .lookup .. | .VE _| .PT _=>.quiet
 |_=>.I2
section
variable {P : Program} {o : Oper} {a : Act} {ev : Ev} {H : Hp} {K : Value → Hp → Prop}
theorem sound(i:df)(hd:J4 P o=some i)(bI:bT ev a)(h:i.vc P ev H K):(i.cls= .pure→dZ P o a H K)∧dX P o a H K:=by
 have mk:dZ P o a H K→(i.cls= .pure→dZ P o a H K)∧dX P o a H K:=fun hp=>⟨fun _=>hp,hp.agX⟩
 have mk':i.cls≠ .pure→dX P o a H K→(i.cls= .pure→dZ P o a H K)∧dX P o a H K:=fun hn hp=>⟨fun e=>absurd e hn,hp⟩
 unfold J4 at hd
 split at hd
 ·rename_i x ho;injection hd with hd;subst hd;exact mk (MV bI (.inl ho) h)
 ·rename_i x ho;injection hd with hd;subst hd;exact mk (MV bI (.inr ho) h)
 ·rename_i c x y ho;injection hd with hd;subst hd;exact mk (Rb bI ho h)
 ·rename_i T x ho;injection hd with hd;subst hd;exact mk' (by simp[df.cls]) (TP bI ho h)
 ·rename_i T ho
  cases hz:gw P T with
  |none=>rw[hz]at hd;cases hd
  |some z=>rw[hz]at hd;injection hd with hd;subst hd;exact mk' (by simp[df.cls]) (Rg hz ho h)
 ·rename_i t ps ho
  cases hz:gw P t with
  |none=>rw[hz]at hd;cases hd
  |some z=>
   rw[hz,Option.bind_some]at hd
   cases hq:parts P t (aM z).length ps.toList with
   |none=>rw[hq]at hd;cases hd
   |some qs=>rw[hq]at hd;injection hd with hd;subst hd;exact mk (OY bI ho hz hq h)
 ·rename_i t n ps ho
  split at hd
  ·rename_i e hu
   cases hz:gw P e with
   |none=>rw[hz]at hd;cases hd
   |some z=>
    rw[hz,Option.bind_some]at hd
    split at hd
    ·rename_i hc
     cases hq:nq (fun i=>some (i*P.cellsOf e,P.cellsOf e)) (n*P.cellsOf e) ps.toList with
     |none=>rw[hq]at hd;cases hd
     |some qs=>rw[hq]at hd;injection hd with hd;subst hd;exact mk' (by simp[df.cls]) (TO bI ho hu hz hc.1 hc.2.1 hc.2.2.1 hc.2.2.2 hq h)
    ·cases hd
  ·cases hd
 ·rename_i t x ho
  split at hd
  ·rename_i hc
   split at hd
   ·rename_i hg;injection hd with hd;subst hd;exact mk' (by simp[df.cls]) (O1 bI ho hc.1 hc.2 hg h)
   ·rename_i hg;injection hd with hd;subst hd;exact mk' (by simp[df.cls]) (O0 bI ho hc.1 hc.2 (by simpa using hg) h)
  ·cases hd
 ·rename_i t x y ho
  split at hd
  ·rename_i hc;injection hd with hd;subst hd;exact mk' (by simp[df.cls]) (O2 bI ho hc.1 hc.2 h)
  ·cases hd
 ·rename_i x ho;injection hd with hd;subst hd;exact mk (Jz bI ho h)
 ·rename_i op t x y t' ho
  split at hd
  ·split at hd
   ·rename_i ms hu;injection hd with hd;subst hd;exact mk (J5 bI ho hu (.inl ⟨rfl,rfl⟩) h)
   ·cases hs:shapeOf P fD t with
    |none=>rw[hs]at hd;cases hd
    |some s=>
     rw[hs,Option.bind_some]at hd
     split at hd
     ·rename_i hc;injection hd with hd;subst hd;exact mk (HW bI ho (fun _=>⟨hs,hc⟩) h)
     ·cases hd
  ·split at hd
   ·rename_i ms hu;injection hd with hd;subst hd;exact mk (J5 bI ho hu (.inr ⟨rfl,rfl⟩) h)
   ·cases hs:shapeOf P fD t with
    |none=>rw[hs]at hd;cases hd
    |some s=>
     rw[hs,Option.bind_some]at hd
     split at hd
     ·rename_i hc;injection hd with hd;subst hd;exact mk (HW bI ho (fun _=>⟨hs,hc⟩) h)
     ·cases hd
  ·rename_i h1 h2
   injection hd with hd;subst hd;exact mk (HW bI ho (fun he=>by rcases he with he|he<;>first|exact absurd he h1|exact absurd he h2) h)
 ·rename_i op t x ho;injection hd with hd;subst hd;exact mk (VK bI ho h)
 ·rename_i s t x ho
  split at hd
  ·rename_i k' k h1 h2;injection hd with hd;subst hd;exact mk (Rc bI ho h1 h2 h)
  ·rename_i e h1 h2
   split at hd
   ·rename_i h3;injection hd with hd;subst hd;exact mk' (by simp[df.cls]) (O5 bI ho h1 h2 h3 h)
   ·cases hd
  ·rename_i e h1 h2
   split at hd
   ·rename_i h3;injection hd with hd;subst hd;exact mk' (by simp[df.cls]) (Li bI ho h1 h2 h3 h)
   ·cases hd
  ·cases hd
 ·rename_i t x ho
  split at hd
  ·cases hd
  ·rename_i d hu hn;injection hd with hd;subst hd;exact mk (OV bI ho hn (fun ms e=>hu ms (by rw[e])) h)
  ·cases hd
 ·rename_i fn first captured ho;injection hd with hd;subst hd;exact mk (Re bI ho h)
 ·rename_i t ho;injection hd with hd;subst hd;exact mk' (by simp[df.cls]) (M0 ho h)
 ·rename_i t x y ho
  split at hd
  ·rename_i e hu
   cases hz:gw P e with
   |none=>rw[hz]at hd;cases hd
   |some z=>
    rw[hz,Option.bind_some]at hd
    split at hd
    ·rename_i hc;injection hd with hd;subst hd;exact mk' (by simp[df.cls]) (Ib bI ho hu hz hc.1 hc.2.1 hc.2.2 h)
    ·cases hd
  ·cases hd
 ·rename_i t x lo hi mx ho
  split at hd
  ·rename_i e hu
   split at hd
   ·rename_i hc;injection hd with hd;subst hd;exact mk (OX bI ho hu hc.1 (fun hm=>hc.2.elim (fun h1=>by cases mx<;>simp_all) id) h)
   ·cases hd
  ·rename_i hu
   split at hd
   ·rename_i hc;injection hd with hd;subst hd
    cases mx with
    |none=>exact mk (MY bI ho hu h)
    |some m=>simp at hc
   ·cases hd
  ·cases hd
 ·rename_i s x f ho
  split at hd
  ·rename_i fields hu
   cases hf:fields[f]? with
   |none=>rw[hf]at hd;cases hd
   |some fd=>
    rw[hf,Option.bind_some]at hd
    split at hd
    ·rename_i hc;injection hd with hd;subst hd;exact mk (HY bI ho hu hf hc.1 hc.2 h)
    ·cases hd
  ·cases hd
 ·rename_i t x f ho
  split at hd
  ·rename_i fields hu
   cases hf:fields[f]? with
   |none=>rw[hf]at hd;cases hd
   |some fd=>
    rw[hf,Option.bind_some]at hd
    split at hd
    ·rename_i hc;injection hd with hd;subst hd;exact mk (OW bI ho hu hf hc.1 hc.2 h)
    ·cases hd
  ·cases hd
 ·rename_i t x i' ho
  split at hd
  ·rename_i e hu
   split at hd
   ·rename_i hc;injection hd with hd;subst hd;exact mk (HZ bI ho hu hc h)
   ·cases hd
  ·rename_i n e hu
   split at hd
   ·rename_i hc;injection hd with hd;subst hd;exact mk (JA bI ho hu hc h)
   ·cases hd
  ·cases hd
 ·rename_i t x i' ho
  split at hd
  ·rename_i hu;injection hd with hd;subst hd;exact mk (MX bI ho hu h)
  ·cases hd
 ·rename_i t x i' ok ho
  split at hd
  ·rename_i k e hu
   cases hs:cE P k with
   |none=>rw[hs]at hd;cases hd
   |some s=>
    rw[hs,Option.bind_some]at hd
    cases hz:gw P e with
    |none=>rw[hz]at hd;cases hd
    |some z=>rw[hz]at hd;injection hd with hd;subst hd;exact mk' (by simp[df.cls]) (M1 bI ho hu hs hz h)
  ·cases hd
 ·rename_i t m k v ho
  split at hd
  ·rename_i kt e hu
   cases hs:cE P kt with
   |none=>rw[hs]at hd;cases hd
   |some s=>rw[hs]at hd;injection hd with hd;subst hd;exact mk' (by simp[df.cls]) (M2 bI ho hu hs h)
  ·cases hd
 ·rename_i x i' ho;injection hd with hd;subst hd;exact mk (Lg bI ho h)
 ·rename_i x s T ho
  split at hd
  ·cases hd
  ·rename_i d hu hn;injection hd with hd;subst hd;exact mk (MW bI ho hn (fun ms e=>hu ms (by rw[e])) h)
  ·cases hd
 ·rename_i c ho
  split at hd
  ·rename_i f hc
   split at hd
   ·rename_i hb;injection hd with hd;subst hd;exact mk' (by simp[df.cls]) (Rh bI ho hc hb h)
   ·injection hd with hd;subst hd;exact mk' (by simp[df.cls]) (TQ bI ho hc h)
  ·rename_i x hx hc;injection hd with hd;subst hd;exact mk' (by simp[df.cls]) (TR bI ho hc h)
  ·rename_i r name hc;injection hd with hd;subst hd;exact mk' (by simp[df.cls]) (M4 bI ho hc h)
  ·rename_i hc
   split at hd
   ·rename_i x e h1 h2;injection hd with hd;subst hd;exact mk (Ri bI ho hc h1 h2 h)
   ·rename_i x h1 h2;injection hd with hd;subst hd;exact mk (Rj bI ho hc h1 h2 h)
   ·rename_i x k e h1 h2;injection hd with hd;subst hd;exact mk' (by simp[df.cls]) (Rk bI ho hc h1 h2 h)
   ·cases hd
  ·rename_i hc
   split at hd
   ·rename_i x y e d h1 h2 h3
    cases hz:gw P e with
    |none=>rw[hz]at hd;cases hd
    |some z=>
     rw[hz,Option.bind_some]at hd
     split at hd
     ·rename_i hq;injection hd with hd;subst hd;exact mk' (by simp[df.cls]) (M5 bI ho hc h1 h2 h3 hq.2.2.2.2 hz hq.1 hq.2.1 hq.2.2.1 hq.2.2.2.1 h)
     ·cases hd
   ·cases hd
  ·rename_i hc
   split at hd
   ·rename_i m k kt e h1 h2
    cases hs:cE P kt with
    |none=>rw[hs]at hd;cases hd
    |some s=>rw[hs]at hd;injection hd with hd;subst hd;exact mk' (by simp[df.cls]) (M3 bI ho hc h1 h2 hs h)
   ·cases hd
  ·rename_i hc
   split at hd
   ·rename_i x e h1 h2
    cases hz:gw P e with
    |none=>rw[hz]at hd;cases hd
    |some z=>
     rw[hz,Option.bind_some]at hd
     split at hd
     ·rename_i hq;injection hd with hd;subst hd;exact mk' (by simp[df.cls]) (O3 bI ho hc h1 h2 hz hq h)
     ·cases hd
   ·cases hd
  ·rename_i hc;injection hd with hd;subst hd;exact mk (TS bI ho hc h)
  ·rename_i hc;injection hd with hd;subst hd;exact mk (TT bI ho hc h)
  ·cases hd
 ·cases hd
theorem ak{α:Type}{o:Option α}{F G:α→Prop}(h:aF o F)(hk:∀v,F v→G v):aF o G:=by cases o;exact h;exact hk _ h
theorem bP{c F G:Prop}(h:eB c F)(hk:F→G):eB c G:=⟨h.1,hk h.2⟩
theorem Ih{v:Value}{F G:Bool→Prop}(h:Dg v F)(hk:∀b,F b→G b):Dg v G:=by unfold Dg at*;split at h;exact hk _ h;exact h.elim
theorem n9{F G:List Value→Prop}:∀ {xs:List Operand},OS ev xs F→(∀l,F l→G l)→OS ev xs G:=by
 intro xs
 induction xs generalizing F G with
 |nil=>intro h hk;exact hk _ h
 |cons x xs ih=>intro h hk;exact ak h fun v h=>ih h fun l=>hk _
theorem Ii{F G:List Value→Prop}:∀ {r:List (Nat×Nat×Operand)} {z:List Value},Di ev z r F→(∀l,F l→G l)→Di ev z r G:=by
 intro r
 induction r with
 |nil=>intro z h hk;exact hk _ h
 |cons p r ih=>obtain⟨off,size,x⟩:=p;intro z h hk;exact ak h fun v h=>bP h fun h=>ih h hk
theorem tP{v:Value}{F G:Nat→Nat→Prop}(h:zO v F)(hk:∀b o,F b o→G b o):zO v G:=by obtain⟨b,o,rfl,h⟩:=fM h;exact hk _ _ h
theorem ni{v:Value}{F G:Int→Prop}(h:EN v F)(hk:∀b,F b→G b):EN v G:=by obtain⟨b,o,rfl,h⟩:=kM h;exact hk _ h
theorem od{v:Value}{F G:Option Addr→Nat→Nat→Prop}(h:sK v F)(hk:∀a n c,F a n c→G a n c):sK v G:=by obtain⟨a,n,c,rfl,h⟩:=kN h;exact hk _ _ _ h
theorem BF{v:Option Addr}{F G:Nat→Nat→Prop}(h:xT v F)(hk:∀b o,F b o→G b o):xT v G:=by obtain⟨b,o,rfl,h⟩:=qS h;exact hk _ _ h
theorem uZ{v:Value}{F G:ByteArray→Prop}(h:mf v F)(hk:∀b,F b→G b):mf v G:=by obtain⟨b,rfl,h⟩:=pS h;exact hk _ h
theorem Rn{v:Value}{F G:List Value→Prop}(h:Q9 v F)(hk:∀b,F b→G b):Q9 v G:=by obtain⟨b,rfl,h⟩:=J1 h;exact hk _ h
theorem Ro{v:Value}{F G:List Value→Prop}(h:Ra v F)(hk:∀b,F b→G b):Ra v G:=by obtain⟨b,rfl,h⟩:=J2 h;exact hk _ h
theorem yy{v:Value}{F G:Option Nat→Prop}(h:EO v F)(hk:∀b,F b→G b):EO v G:=by obtain⟨b,rfl,h⟩:=nh h;exact hk _ h
theorem Rp{v:Value}{F G:Bool→Prop}(h:OT v F)(hk:∀b,F b→G b):OT v G:=by
 rcases J3 h with ⟨e,h⟩| ⟨t,u,e,h⟩<;>subst e<;>exact hk _ h
theorem Lj{T:TypeId}{v:Value}{F G:Value→Prop}(h:yw T v F)(hk:∀b,F b→G b):yw T v G:=by obtain⟨b,e,h2⟩:=Dj h;subst e;exact⟨rfl,hk _ h2⟩
theorem BG{H:Hp}{size:Nat}{v:Value}{F G:Nat→List Value→Prop}(h:rowOf H size v F)(hk:∀n l,F n l→G n l):rowOf H size v G:=by
 unfold rowOf at*
 split at h
 ·rename_i a n c
  cases hn:n==0
  ·rw[hn]at h
   exact BF h fun b o h=>ak h fun l h=>bP h (hk _ _)
  ·rw[hn]at h
   exact hk _ _ h
 ·exact bP h (hk _ _)
 ·exact h.elim
theorem Ff{H:Hp}{v:Value}{F G:List UInt8→Prop}(h:xX H v F)(hk:∀b,F b→G b):xX H v G:=by
 unfold xX at*
 split at h
 ·exact BG h fun n l h=>ak h hk
 ·exact h.elim
theorem og{x:Option Operand}{d:Nat}{F G:Int→Prop}(h:sL ev x d F)(hk:∀b,F b→G b):sL ev x d G:=by
 cases x with
 |none=>exact hk _ h
 |some x=>exact ak h fun v h=>ni h hk
theorem PU{K':Value→Hp→Prop}(i:df)(hc:i.cls= .pure)(h:i.vc P ev H K)(hk:∀v H',K v H'→K' v H'):i.vc P ev H K':=by
 cases i<;>simp[df.cls]at hc<;>simp only[df.vc]at h ⊢
 ·exact ak h fun v=>hk _ _
 ·exact ak h fun v h=>Ih h fun b h=>ak h fun v=>hk _ _
 ·exact Ii h fun l=>hk _ _
 ·exact ak h fun v h=>bP h (hk _ _)
 ·exact ak h fun v h=>ak h fun v h=>ak h fun v=>hk _ _
 ·exact ak h fun v h=>ak h fun v=>hk _ _
 ·exact ak h fun v h=>ni h fun v=>hk _ _
 ·exact ak h fun v=>hk _ _
 ·exact n9 h fun l h=>n9 h fun l=>hk _ _
 ·exact ak h fun v h=>od h fun a n c h=>og h fun m h=>og h fun m h=>og h fun m h=>bP h (hk _ _)
 ·exact ak h fun v h=>uZ h fun s h=>og h fun m h=>og h fun m h=>bP h (hk _ _)
 ·exact ak h fun v h=>tP h fun b o=>hk _ _
 ·exact ak h fun v h=>Ro h fun l h=>ak h fun v=>hk _ _
 ·exact ak h fun v h=>ak h fun v h=>od h fun a n c h=>ni h fun i h=>bP h fun h=>BF h fun b o=>hk _ _
 ·exact ak h fun v h=>ak h fun v h=>tP h fun b o h=>ni h fun i h=>bP h (hk _ _)
 ·exact ak h fun v h=>ak h fun v h=>uZ h fun s h=>ni h fun i h=>bP h fun h=>ak h fun b=>hk _ _
 ·exact ak h fun v h=>Rn h fun l h=>ak h fun v=>hk _ _
 ·exact ak h fun v h=>od h fun a n c=>hk _ _
 ·exact ak h fun v h=>uZ h fun s=>hk _ _
 ·exact n9 h fun l h=>ak h fun v=>hk _ _
 ·exact n9 h fun l h=>ak h fun v=>hk _ _
 ·exact ak h fun v h=>Lj h fun v=>hk _ _
 ·exact ak h fun v h=>Rp h fun v=>hk _ _
theorem TU(i:df)(hc:i.cls= .quiet)(h:i.vc P ev H K):∃v,i.vc P ev H (fun v' H'=>v'=v∧H'=H)∧K v H:=by
 cases i<;>simp[df.cls]at hc
 ·obtain⟨p,hp,h⟩:=aC h
  obtain⟨b,o,rfl,h⟩:=fM h
  obtain⟨l,hl,h⟩:=aC h
  obtain⟨v,hv,h⟩:=aC h
  exact⟨v,by simp only[df.vc,hp,aF,zO,hl,hv,and_self],h⟩
 ·obtain⟨p,hp,h⟩:=aC h
  obtain⟨b,o,rfl,h⟩:=fM h
  obtain⟨l,hl,h⟩:=aC h
  obtain⟨hn,h⟩:=h.out
  exact⟨_,by simp only[df.vc,hp,aF,zO,hl,eB,hn,and_self],h⟩
 ·rename_i s z ok m k
  obtain⟨p,hp,h⟩:=aC h
  obtain⟨q,hq,h⟩:=aC h
  obtain⟨r,rfl,h⟩:=nh h
  obtain⟨hn,h⟩:=h.out
  cases r with
  |none=>exact⟨_,by simp only[df.vc,hp,hq,aF,EO,eB,hn,z8,and_self],h⟩
  |some b=>
   obtain⟨x,hx,h⟩:=aC h
   obtain⟨y,hy,h⟩:=aC h
   exact⟨_,by simp only[df.vc,hp,hq,aF,EO,eB,hn,z8,hx,hy,and_self],h⟩
 ·obtain⟨p,hp,h⟩:=aC h
  obtain⟨r,rfl,h⟩:=nh h
  cases r with
  |none=>exact⟨_,by simp only[df.vc,hp,aF,EO,MT,and_self],h⟩
  |some b=>
   obtain⟨x,hx,h⟩:=aC h
   exact⟨_,by simp only[df.vc,hp,aF,EO,MT,hx,and_self],h⟩
 ·obtain⟨p,hp,h⟩:=aC h
  have key:∃l,K (.string ⟨l.toArray⟩) H∧xX H p (fun l'=>l'=l):=by
   unfold xX at*
   split at h
   ·rename_i a n c
    unfold rowOf at*
    simp only at*
    cases hn:n==0
    ·rw[hn]at h
     obtain⟨b,o,rfl,h⟩:=qS h
     obtain⟨l,hl,h⟩:=aC h
     obtain⟨h1,h⟩:=h.out
     obtain⟨bs,hb,h⟩:=aC h
     exact⟨bs,h,by simp only[HQ,xT,aF,hl,eB,h1,hb,and_self]⟩
    ·rw[hn]at h
     have h:aF (bytesOf []) fun l=>K (.string ⟨l.toArray⟩) H:=h
     obtain⟨bs,hb,h⟩:=aC h
     exact⟨bs,h,by simp only[HQ,aF,hb]⟩
   ·exact h.elim
  obtain⟨l,h1,h2⟩:=key
  refine⟨_,?_,h1⟩
  simp only[df.vc,hp,aF]
  exact Ff h2 fun b e=>by rw[e];exact⟨rfl,rfl⟩
end
end Go.Vc
