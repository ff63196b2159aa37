/- Texts put behind each other. -/
import Derived.Test.YtnanofhkpglbaaaGreatDoorK9
import Derived.Lib.ConvBytes
import Derived.Laws.AppendOwn
import Derived.Laws.Append
set_option linter.unusedSimpArgs false
set_option linter.unusedVariables false
set_option maxRecDepth 100000
set_option maxHeartbeats 80000000
namespace Go.Vc
section
variable{e t:TypeId}{x y:Operand}{z:Value}{s:Shape}{f:FuncId}{w:World}{n m:Nat}
section
variable {P : Program} {o : Oper} {a : Act} {ev : Ev} {H : Hp} {K : Value → Hp → Prop}
theorem Iv{f:TypeId}{ok:Bool}(n:bN ev a)(v:o.op= .lookup t x y ok)(j:P.underlying t=some (.map f e))
  (l:cA P f=some s)(p:fF P e=some z)(h:(dC.lookup s z ok x y).vc P ev H K):ef P o a H K:=by
 intro w C;subst C;obtain⟨r,d,h⟩:=jr (bg n (bg n h));obtain⟨c,h⟩:=h.out;cases r with
 |none=>
  refine .inl ⟨gO ok z none,w,?_,bH.refl w,h⟩;have L:=iA (P:=P) (k:=a.eval y) (es:=[]) (r:=none) l rfl w;simp only[execOp,v,Instr.lookup,Sem.run_bind,aq j,Result.andThen_ok,d,Sem.run_pure,gP l c,L,cG p];cases ok<;>rfl
 |some b=>
  obtain⟨m,hm,h⟩:=aC h;obtain⟨u,g,h⟩:=aC h;obtain⟨es,B,A⟩:=B9 hm;rw[<-A]at g;refine .inl ⟨gO ok z (u.map (·.2)),w,?_,bH.refl w,h⟩;simp only[execOp,v,Instr.lookup,Sem.run_bind,aq j,Result.andThen_ok,d,Sem.run_pure,mz B,gP l c,iA l g];cases u with
  |none=>simp only[cG p,Result.andThen_ok,Sem.run_bind,Sem.run_pure];cases ok<;>rfl
  |some q=>cases ok<;>rfl
theorem Iw{f:TypeId}{z:Operand}(c:bN ev a)(L:o.op= .mapUpdate t x y z)(A:P.underlying t=some (.map f e))
  (d:cA P f=some s)(h:(dC.update s x y z).vc P ev H K):ef P o a H K:=by
 intro w C;subst C;obtain⟨r,T,h⟩:=jr (bg c (bg c (bg c h)));obtain⟨b,rfl,h⟩:=aC h;obtain⟨B,h⟩:=h.out;obtain⟨m,hm,h⟩:=aC h;obtain⟨g,j,h⟩:=aC h;obtain⟨p,h⟩:=h.out;obtain⟨es,n,l⟩:=B9 hm;rw[<-l]at j;refine .inr (.inl ⟨{w with heap:=Hp.AO w.heap b (Ix m.1 g (a.eval y) (a.eval z) m.2) (GN g m.2)},?_,⟨rfl,rfl⟩,h⟩);simp only[execOp,L,Instr.mapUpdate,Sem.run_bind,aq A,Result.andThen_ok,T,mz n,gP d B,iA d j];cases g with
 |none=>
  simp only[mA n,Result.andThen_ok,Sem.run_pure,Ix,GN,<-l];simp
 |some q=>
  obtain⟨i,v⟩:=q;have u:Instr.sameBits 10000 (((es[i]?).map (·.key)).getD (a.eval y)) (a.eval y)=true:=by
   simp only[Ca,<-l]at p;simpa using p
  simp only[Instr.keyThatStays,u,if_true,Sem.run_bind,Sem.run_pure,Result.andThen_ok,mA n,Ix,GN,<-l];simp
theorem Iy{d:TypeId}{c:Call}(n:bN ev a)(C:o.op= .call c)(L:c.callee= .builtin .delete)(u:c.args.toList=[x,y])
  (B:(c.argTypes[0]?).bind P.underlying=some (.map d e))(j:cA P d=some s)(h:(dC.delete s x y).vc P ev H K):ef P o a H K:=by
 intro w N;subst N;obtain⟨r,Q,h⟩:=jr (bg n (bg n h));obtain⟨b,rfl,h⟩:=aC h;obtain⟨A,h⟩:=h.out;obtain⟨m,hm,h⟩:=aC h;obtain⟨p,g,h⟩:=aC h;obtain⟨es,z,l⟩:=B9 hm;rw[<-l]at g;have f:c.args= #[x,y]:=Array.ext' u;obtain⟨t,T,F⟩:=Option.bind_eq_some_iff.1 B;refine .inl ⟨.tuple [].toArray,{w with heap:=Hp.AO w.heap b (Cr m.1 p) m.2},?_,⟨rfl,rfl⟩,h⟩;simp only[execOp,C,resolve,L,Sem.run_bind,Sem.run_pure,Result.andThen_ok,invoke,builtin,f,Builtin.delete_,T];simp only[List.map_toArray,alM,amS,amC,alN,amj,Sem.run_bind,aq F,Result.andThen_ok,Q,mz z,gP j A,iA j g];cases p with
 |none=>simp only[Sem.run_bind,mA z,Result.andThen_ok,Sem.run_pure,Cr,<-l]
 |some q=>
  obtain⟨i,v⟩:=q;simp only[Sem.run_bind,mA z,Result.andThen_ok,Sem.run_pure,Cr,<-l,Array.toList_eraseIdxIfInBounds]
theorem Kp{c:Call}(L:bN ev a)(y:o.op= .call c)(g:c.callee= .builtin .clear)(u:c.args.toList=[x])
  (B:(c.argTypes[0]?).bind P.underlying=some (.slice e))(N:fF P e=some z)(G:(aK z).length≠0)(h:(dC.Kq (aK z) x).vc P ev H K):ef P o a H K:=by
 intro w F;subst F;obtain⟨p,n,Q,d,h⟩:=hV (bg L h);have v:c.args= #[x]:=Array.ext' u;obtain⟨t,r,j⟩:=Option.bind_eq_some_iff.1 B;have D:z.cells.toList=aK z:=eO z;rcases h with ⟨rfl,h⟩| ⟨I,b,off,l,rfl,A,f,U,h⟩
 ·refine .inl ⟨.tuple [].toArray,w,?_,bH.refl w,h⟩;simp only[execOp,y,resolve,g,Sem.run_bind,Sem.run_pure,Result.andThen_ok,invoke,builtin,v,Builtin.clear_,r];simp only[List.map_toArray,alM,amS,amC,alN,Sem.run_bind,aq j,Result.andThen_ok,d];cases p<;>simp
 ·have q:(Builtin.zeroCells z.cells n).toList=dm (aK z) n:=by
   unfold Builtin.zeroCells;grind [xd]
  have m:(dm (aK z) n).length=n*(aK z).length:=by simp[dm]
  obtain⟨w',C,T,W,_⟩:=gY (P:=P) (b:=b) (o:=off) (dm (aK z) n) 0 w l A O f;have V:dm (aK z) n≠[]:=fun e=>by
   rw[e]at m;simp only[alP]at m;rcases Nat.mul_eq_zero.1 m.symm with h|h
   ·omega
   omega
  refine .inl ⟨.tuple [].toArray,w',?_,T,?_⟩
  ·simp only[execOp,y,resolve,g,Sem.run_bind,Sem.run_pure,Result.andThen_ok,invoke,builtin,v,Builtin.clear_,r];simp only[List.map_toArray,alM,amS,amC,alN,Sem.run_bind,aq j,Result.andThen_ok,d];cases n with
   |zero=>omega
   |succ n=>simp[cG N,q,C]
  grind
theorem oJ(x:eQ P f=true)(args:Array Value)(w:World):(callFunc f args).run P w= .ok (.enter f args) w:=by
 unfold eQ at x;split at x
 ·rename_i fn z;simp only[alJ,bne_iff_ne,ne_eq]at x;obtain⟨l,h⟩:=Option.isSome_iff_exists.1 x.2;simp[callFunc,z,x.1,h]
 grind
theorem MH{c:Call}(l:bN ev a)(n:o.op= .call c)(z:c.callee= .value (.func f))(x:eQ P f=true)
  (h:(dC.call f c.args.toList).vc P ev H K):ef P o a H K:=by
 intro w m;subst m;have h:=jK l h;refine .inr (.inr ⟨f,(c.args.map a.eval),w,?_,bH.refl w,by simpa using h⟩);simp[execOp,n,resolve,z,Act.eval,Deferred.ofValue,invoke,oJ x]
theorem OD{c:Call}(l:bN ev a)(m:o.op= .call c)(z:c.callee= .value (.func f))
  (h:(dC.ext f c.args.toList).vc P ev H K):ef P o a H K:=by
 intro w y;subst y;obtain⟨v,e,n⟩:=jK l h;refine .inl ⟨v,w,?_,bH.refl w,n⟩;have g:(callFunc f (c.args.map a.eval)).run P w= .ok (.value v) w:=by
  have x:=e w;rw[show(List.map a.eval c.args.toList).toArray=c.args.map a.eval from Z]at x;exact x
 simp[execOp,m,resolve,z,Act.eval,Deferred.ofValue,invoke,g]
theorem OE{f:Operand}{c:Call}(x:bN ev a)(n:o.op= .call c)(z:c.callee= .value f)
  (h:(dC.dyn f c.args.toList).vc P ev H K):ef P o a H K:=by
 intro w m;subst m;have h:=jK x (bg x h);unfold Tw at h;split at h
 ·rename_i g first captured l
  refine .inr (.inr ⟨g,first++c.args.map a.eval++captured,w,?_,bH.refl w,by simpa using h.2⟩);simp only[execOp,n,resolve,z,l,Deferred.ofValue,Sem.run_bind,Sem.run_pure,Result.andThen_ok,invoke,oJ h.1]
 ·exact h.elim
theorem Iz{r:Operand}{name:String}{c:Call}(x:bN ev a)(m:o.op= .call c)(z:c.callee= .invoke r name)
  (h:(dC.invoke r name c.args.toList).vc P ev H K):ef P o a H K:=by
 intro w g;subst g;obtain⟨T,v,f,rv,e,⟨l,hm⟩,h⟩:=jK x (bg x h);refine .inr (.inr ⟨f, #[rv]++c.args.map a.eval,w,?_,bH.refl w,by simpa using h⟩);have y:(#[Value.iface T v]++c.args.map a.eval)[0]? =some (.iface T v):=by rw[Array.getElem?_append_left (by simp)];rfl
 have n:(#[Value.iface T v]++c.args.map a.eval).extract 1 (#[Value.iface T v]++c.args.map a.eval).size=c.args.map a.eval:=by
  apply Array.ext';simp only[Array.toList_extract,Array.toList_append,Array.toList_map,Array.size_append];simp[alW]
 simp only[execOp,m,resolve,z,e,Sem.run_bind,Sem.run_pure,Result.andThen_ok,invoke,y,n,callMethod,run_program,hm w rfl,oJ l]
theorem kP{c:Call}(v:o.op= .call c)(m:c.callee= .builtin .len)(z:c.args.toList=[x])
  (e:(Builtin.len_ c.argTypes o.type #[a.eval x]).run P w= .ok (goInt n) w):(execOp a.eval o).run P w= .ok (.value (.int .i64 n)) w:=by
 have h:c.args= #[x]:=Array.ext' z;have l:c.args.map a.eval= #[a.eval x]:=by rw[h];simp
 simp only[execOp,v,resolve,m,Sem.run_bind,Sem.run_pure,Result.andThen_ok,invoke,builtin,l,e,goInt]
theorem MI{c:Call}(v:bN ev a)(g:o.op= .call c)(m:c.callee= .builtin .len)(z:c.args.toList=[x])
  (l:(c.argTypes[0]?).bind P.underlying=some (.slice e))(h:(dC.Ks x).vc P ev H K):dX P o a H K:=by
 obtain⟨t,y,r⟩:=Option.bind_eq_some_iff.1 l;obtain⟨d,n,p,j,h⟩:=hV (bg v h);refine⟨_,fun w=>kP g m z (n:=n) ?_,h⟩;simp[Builtin.len_,y,aq r,goInt,j]
theorem MJ{c:Call}(v:bN ev a)(e:o.op= .call c)(m:c.callee= .builtin .len)(z:c.args.toList=[x])
  (l:(c.argTypes[0]?).bind P.underlying=some .string)(h:(dC.Q2 x).vc P ev H K):dX P o a H K:=by
 obtain⟨t,g,y⟩:=Option.bind_eq_some_iff.1 l;obtain⟨s,r,h⟩:=kQ (bg v h);refine⟨_,fun w=>kP e m z (n:=s.size) ?_,h⟩;simp[Builtin.len_,g,aq y,goInt,r]
theorem MK{c:Call}{k:TypeId}(q:bN ev a)(v:o.op= .call c)(l:c.callee= .builtin .len)(z:c.args.toList=[x])
  (d:(c.argTypes[0]?).bind P.underlying=some (.map k e))(h:(dC.Q3 x).vc P ev H K):ef P o a H K:=by
 intro w u;subst u;obtain⟨t,g,y⟩:=Option.bind_eq_some_iff.1 d;obtain⟨r,j,h⟩:=jr (bg q h);cases r with
 |none=>
  refine .inl ⟨_,w,kP v l z (n:=0) ?_,bH.refl w,h⟩;simp[Builtin.len_,g,aq y,goInt,j]
 |some b=>
  obtain⟨m,hm,h⟩:=aC h;obtain⟨es,p,f⟩:=B9 hm;refine .inl ⟨_,w,kP v l z (n:=m.1.length) ?_,bH.refl w,h⟩;simp[Builtin.len_,g,aq y,goInt,j,mz p,<-f]
theorem Q4:∀ (r:List Value) (x v:Value),IA x r=some v->∀w:World,(r.foldlM Builtin.min2 x).run P w= .ok v w:=by
 intro r;induction r with
 |nil=>intro x v h w;injection h with h;simp_all
 |cons y r z=>
  intro x v h w;unfold IA at h;split at h
  ·rename_i k p l q;simp[List.foldlM_cons,Builtin.min2,z _ v h w]
  grind
theorem Q5:∀ (r:List Value) (x v:Value),IB x r=some v->∀w:World,(r.foldlM Builtin.max2 x).run P w= .ok v w:=by
 intro r;induction r with
 |nil=>intro x v h w;injection h with h;simp_all
 |cons y r z=>
  intro x v h w;unfold IB at h;split at h
  ·rename_i k p l q;simp[List.foldlM_cons,Builtin.max2,z _ v h w]
  grind
theorem OF{c:Call}(m:bN ev a)(g:o.op= .call c)(n:c.callee= .builtin .min)(h:(dC.Q6 c.args.toList).vc P ev H K):dX P o a H K:=by
 obtain⟨v,z,h⟩:=aC (jK m h);refine⟨v,fun w=>?_,h⟩;have e:(Builtin.min_ c.argTypes o.type (c.args.map a.eval)).run P w= .ok v w:=by
  unfold Builtin.min_;rw[Array.toList_map];cases l:c.args.toList.map a.eval with
  |nil=>rw[l]at z;cases z
  |cons x r=>rw[l]at z;exact Q4 r x v z w
 simp only[execOp,g,resolve,n,Sem.run_bind,Sem.run_pure,Result.andThen_ok,invoke,builtin,e]
theorem OG{c:Call}(m:bN ev a)(g:o.op= .call c)(n:c.callee= .builtin .max)(h:(dC.Q7 c.args.toList).vc P ev H K):dX P o a H K:=by
 obtain⟨v,z,h⟩:=aC (jK m h);refine⟨v,fun w=>?_,h⟩;have e:(Builtin.max_ c.argTypes o.type (c.args.map a.eval)).run P w= .ok v w:=by
  unfold Builtin.max_;rw[Array.toList_map];cases l:c.args.toList.map a.eval with
  |nil=>rw[l]at z;cases z
  |cons x r=>rw[l]at z;exact Q5 r x v z w
 simp only[execOp,g,resolve,n,Sem.run_bind,Sem.run_pure,Result.andThen_ok,invoke,builtin,e]
theorem vm{H:Hp}{size:Nat}{v:Value}{F:Nat->List Value->Prop}(h:rowOf H size v F):
  ∃ (n:Nat) (l:List Value),F n l/\(∀w:World,(Builtin.lenOf v).run P w= .ok n w)/\(∀w:World,w.heap=H->(Builtin.firstCells size n v).run P w= .ok l.toArray w)/\l.length=n*size/\
   (∀b m c,v= .slice b m c->m=n):=by
 unfold rowOf at h;split at h
 ·rename_i a n c;by_cases z:n=0
  ·subst z;refine⟨0,[],h,fun _=>rfl,fun w e=>?_,by simp,Z⟩;cases a with
   |none=>rfl
   |some a=>simp only[Builtin.firstCells,aly];rfl
  ·have g:(n==0)=false:=by simpa using z
   rw[g]at h;obtain⟨b,off,rfl,t⟩:=lw (F:=fun b o=>aF (H.rd b) fun l=>dW (o+n*size<=l.length) (F n ((l.drop o).take (n*size)))) h;obtain⟨l,j,x⟩:=aC t;obtain⟨d,r⟩:=x.out;refine⟨n,_,r,fun _=>rfl,fun w e=>?_,Z,Z⟩;subst e;exact nD (P:=P) (a:=⟨b,off,none⟩) rfl j d
 ·rename_i s;obtain⟨y,x⟩:=h.out;subst y;refine⟨s.size,_,x,fun _=>rfl,fun w _=>?_,?_,Z⟩
  ·simp only[Builtin.firstCells,Sem.run_pure];congr 1;apply Array.ext';simp_all
  simp_all
 grind
theorem GO{s:TypeId}(n:bN ev a)(c:o.op= .convert s t x)(v:P.underlying s=some .string)(g:P.underlying t=some (.slice e))(l:P.underlying e=some (.int .u8))
  (h:(dC.GP e x).vc P ev H K):ef P o a H K:=by
 intro w y;subst y;have h:=bg n h;unfold iB at h;split at h
 ·rename_i z p;have d:=Lib.run_convert_string_bytes (P:=P) w s t e z v g l;have m:=grownCap_ge w z.size 0 e;refine .inl ⟨.slice (some ⟨w.heap.size,0,none⟩) z.size (grownCap w z.size 0 e),Lib.bytesWorld w e z,?_,⟨rfl,rfl⟩,?_⟩
  ·simp only[execOp,c];simp_all
  ·have j:=h _ m;have r:(Lib.bytesWorld w e z).heap=Hp.Kt w.heap e ((z.data.toList.map fun b=>.int .u8 b.toNat)++List.replicate (grownCap w z.size 0 e - z.size) (.int .u8 0)):=by
    apply Array.ext_getElem?;intro i;rcases Nat.lt_trichotomy i w.heap.size with hi|hi|hi
    ·rw[Lib.bytesWorld_at_old w e z i hi,IC _ _ _ hi]
    ·subst hi;rw[Lib.bytesWorld_at_new];simp[Hp.Kt,Lib.bytesCells]
    ·rw[amn (by rw[Lib.bytesWorld_size];omega),amn (by rw[ML];omega)]
   grind
 ·exact h.elim
theorem Ku:∀ (l:List Value) (x:List UInt8),bytesOf l=some x->∀ (s:ByteArray) (w:World),
  (forIn l s fun c (s:ByteArray)=>(match c with| .int .u8 n=>pure (ForInStep.yield (s.push (UInt8.ofNat n.toNat)))|_=>(do stuck "bytesToString: byte expected";pure (ForInStep.yield s)):Sem (ForInStep ByteArray))).run P w= .ok ⟨s.data++x.toArray⟩ w:=by
 intro l;induction l with
 |nil=>intro x h s w;simp only[bytesOf,alg]at h;simp_all
 |cons v l m=>
  intro x h s w;cases v with
  |int k n=>
   cases k with
   |u8=>
    simp only[bytesOf]at h;cases z:bytesOf l with
    |none=>grind
    |some r=>
     simp_all
   |_=>simp[bytesOf]at h
  |_=>simp[bytesOf]at h
theorem Kv{s:TypeId}(q:bN ev a)(u:o.op= .convert s t x)(B:P.underlying s=some (.slice e))(L:P.underlying t=some .string)(p:P.underlying e=some (.int .u8))
  (h:(dC.Mc x).vc P ev H K):ef P o a H K:=by
 intro w A;subst A;have h:=bg q h;unfold ri at h;split at h
 ·rename_i v n c C;obtain⟨m,l,h,T,j,F,d⟩:=vm (P:=P) h;obtain⟨y,g,h⟩:=aC h;refine .inl ⟨_,w,?_,bH.refl w,h⟩;have hm:n=m:=d _ _ _ rfl;subst hm;have z:=j w rfl;have key:(Conv.bytesToString (.slice v n c)).run P w= .ok (.string ⟨y.toArray⟩) w:=by
   cases v with
   |none=>
    simp only[Builtin.firstCells,Sem.run_pure,Result.ok.injEq,and_true]at z;have f:l=[]:=by
     have:=ald Array.toList z;simpa using this.symm
    subst f;simp only[bytesOf,alg]at g;subst g;rfl
   |some v=>
    simp only[Builtin.firstCells,ala]at z;simp only[Conv.bytesToString,Sem.run_bind,z,Result.andThen_ok];rw[List.forIn_toArray];refine(ald (fun r=>Result.andThen r fun a w'=>Sem.run P (pure (Value.string a)) w') (Ku (P:=P) l y g ByteArray.empty w)).trans ?_;simp only[Result.andThen_ok,Sem.run_pure];congr 3;simp
  simp only[execOp,u,convert,C,Sem.run_bind,aq B,aq L,aq p,Result.andThen_ok,key];rfl
 ·exact h.elim
theorem isRow{d:TypeDesc}(x:y8 d=true):(∃e,d= .slice e)\/d= .string:=by
 cases d<;>grind [y8]
theorem EJ{x:Array TypeId}{ty h:TypeId}{d:TypeDesc}{base:Option Addr}{cap:Nat}{y:Value}{new:Array Value}(g:x[0]? =some t)(r:x[1]? =some h)
  (j:P.underlying t=some (.slice e))(p:P.underlying h=some d)(z:y8 d=true)(hi:(P.info? e).isSome=true)
  (c:(Builtin.lenOf y).run P w= .ok m w)(v:(Builtin.firstCells (P.cellsOf e) m y).run P w= .ok new w)(l:n+m<=cap):
  (Builtin.append_ x ty #[.slice base n cap,y]).run P w=
   ((match base with|some a=>storeCells (a.add (n*P.cellsOf e)) new.toList|none=>(pure ():Sem Unit)).run P w).andThen fun _ w'=>.ok (.slice base (n+m) cap) w':=by
 rcases isRow z with ⟨q,rfl⟩|rfl<;>unfold Builtin.append_<;>
 simp only[amC,alN,amj,g,r,Sem.run_bind,aq j,aq p,Result.andThen_ok,bF hi,Sem.run_pure,c,al4,if_false,if_pos l,al6,if_true,v]<;>
 cases base<;>simp only[Sem.run_pure,Result.andThen_ok,Sem.run_bind]
theorem Cs{x:Array TypeId}{ty c:TypeId}{d:TypeDesc}{base:Option Addr}{cap:Nat}{y:Value}{new l:Array Value}(B:x[0]? =some t)(L:x[1]? =some c)
  (A:P.underlying t=some (.slice e))(C:P.underlying c=some d)(r:y8 d=true)(hi:(P.info? e).isSome=true)(T:fF P e=some z)
  (p:(Builtin.lenOf y).run P w= .ok m w)(f:(Builtin.firstCells (P.cellsOf e) m y).run P w.drew= .ok new w.drew)
  (hold:(Builtin.firstCells (P.cellsOf e) n (.slice base n cap)).run P w.drew= .ok l w.drew)
  (j:cap<n+m)(U:Builtin.nextslicecap (n+m) cap*P.bytesOf e<=2^48)(v:P.bytesOf e≠0):
  ∃c',n+m<=c'/\(Builtin.append_ x ty #[.slice base n cap,y]).run P w=
   .ok (.slice (some ⟨w.heap.size,0,none⟩) (n+m) c') {w with drawn:=w.drawn+1,heap:=Hp.new w.heap e ((l++new++Builtin.zeroCells z.cells (c' - (n+m))).toList)}:=by
 obtain⟨inf,h⟩:=Option.isSome_iff_exists.1 hi;have g:inf.bytes=P.bytesOf e:=by simp[Program.bytesOf,h]
 refine⟨(Question.appendCap (n+m) cap e).cut (w.tape w.drawn (.appendCap (n+m) cap e)),by simp[Question.cut],?_⟩;have W:n+m<=2^48:=by
  have N:=le_nextslicecap j;have Q:Builtin.nextslicecap (n+m) cap<=Builtin.nextslicecap (n+m) cap*P.bytesOf e:=Nat.le_mul_of_pos_right _ O;omega
 have I:¬ (9223372036854775807< ((n:Int)+(m:Int))):=O;have u:¬ (281474976710656<Builtin.nextslicecap (n+m) cap*P.bytesOf e):=O;have q:¬ (n+m<=cap):=O;rcases isRow r with ⟨F,rfl⟩|rfl<;>
  simp[Builtin.append_,B,L,aq A,aq C,bF hi,p,q,et h,g,v,u,Question.forced,cG T,hold,f,jL]<;>
  exact⟨rfl,rfl,rfl⟩
theorem ID{c:Call}{d:TypeDesc}(f:bN ev a)(ho:o.op= .call c)(hc:c.callee= .builtin .append)(G:c.args.toList=[x,y])
  (D:(c.argTypes[0]?).bind P.underlying=some (.slice e))(M:(c.argTypes[1]?).bind P.underlying=some d)(q:y8 d=true)(hz:fF P e=some z)(hi:(P.info? e).isSome=true)
  (h0:P.cellsOf e≠0)(hl:(aK z).length=P.cellsOf e)(N9:P.bytesOf e≠0)(h:(dC.append e (P.cellsOf e) (P.bytesOf e) (aK z) x y).vc P ev H K):ef P o a H K:=by
 intro w hw;subst hw;have V:c.args= #[x,y]:=Array.ext' G;obtain⟨t,A,T⟩:=Option.bind_eq_some_iff.1 D;obtain⟨t',C,F⟩:=Option.bind_eq_some_iff.1 M;have hzc:z.cells.toList=aK z:=eO z;have ZU:z.cells.size=P.cellsOf e:=by rw[<-hl,<-hzc];simp
 obtain⟨base,n,cap,N,h⟩:=hV (bg f (bg f h));have h':=h;obtain⟨m,new,h,u,B,L,_⟩:=vm (P:=P) h;obtain⟨I,g,j⟩:=h;have E:c.args.map a.eval= #[.slice base n cap,a.eval y]:=by rw[V];simp[N]
 have pre:∀v w',(Builtin.append_ c.argTypes o.type #[.slice base n cap,a.eval y]).run P w= .ok v w'->(execOp a.eval o).run P w= .ok (.value v) w':=by
  intro v w' r;simp only[execOp,ho,resolve,hc,Sem.run_bind,Sem.run_pure,Result.andThen_ok,invoke,builtin,E,r]
 by_cases p:n+m<=cap
 ·have r:=EJ (ty:=o.type) (base:=base) A C T F q hi (u w) (B w rfl) p;by_cases hm:m=0
  ·subst hm;have SG:new=[]:=Z;subst SG;refine .inl ⟨_,w,pre _ w ?_,bH.refl w,I p rfl⟩;rw[r];cases base<;>rfl
  ·obtain⟨b,off,rfl,g⟩:=lw (g p hm);obtain⟨l,Xd,g⟩:=aC g;obtain⟨⟨h1,W⟩,g⟩:=g.out;obtain⟨w',hs,hsm,hk,_⟩:=gY (P:=P) (b:=b) (o:=off+n*P.cellsOf e) new 0 w l Xd Z W;have ny:new≠[]:=fun U=>by
    rw[U]at L;rcases Nat.mul_eq_zero.1 L.symm with h|h
    ·omega
    omega
   refine .inl ⟨_,w',pre _ w' ?_,hsm,hk ny▸g⟩;rw[r];simp only[vp,List.toList_toArray,hs,Result.andThen_ok]
 ·obtain⟨X,j⟩:=j O;rw[N]at j;obtain⟨n',Q,j,_,hold,hol,Xe⟩:=vm (P:=P) j;have:n=n':=Xe _ _ _ rfl;subst this;obtain⟨c',F3,r⟩:=Cs (ty:=o.type) (base:=base) A C T F q hi hz (u w) (B w.drew rfl) (hold w.drew rfl) O X N9;refine .inl ⟨_,_,pre _ _ r,⟨rfl,rfl⟩,?_⟩;have e1:(Q.toArray++new.toArray++Builtin.zeroCells z.cells (c' - (n+m))).toList=Q++new++dm (aK z) (c' - (n+m)):=by
   rw[Array.toList_append,Array.toList_append];congr 1;unfold Builtin.zeroCells;grind [xd]
  grind
end
end
section
variable{v:Value}
def dC.cls:dC->IE
 | .mR _| .pick .. | .build .. | .nilCheck _| .j5 .. | .un .. | .conv .. | .iface .. | .func .. | .slice .. | .GQ .. | .fieldAddr .. | .field .. | .indexAddr .. | .xf .. | .GR .. | .extract ..
 | .Ks _| .Q2 _| .Q6 _| .Q7 _| .GS .. | .Q8 .. =>.pure
 | .GU .. =>.pure
 | .mB _| .iC .. | .lookup .. | .Q3 _| .Mc _=>.quiet
 |_=>.EK
section
variable {P : Program} {o : Oper} {a : Act} {ev : Ev} {H : Hp} {K : Value → Hp → Prop}
theorem sound(i:dC)(w:F5 P o=some i)(j:bN ev a)(h:i.vc P ev H K):(i.cls= .pure->dX P o a H K)/\ef P o a H K:=by
 have mk:dX P o a H K->(i.cls= .pure->dX P o a H K)/\ef P o a H K:=fun I=>⟨fun _=>I,I.abi⟩;have mk':i.cls≠ .pure->ef P o a H K->(i.cls= .pure->dX P o a H K)/\ef P o a H K:=Z;unfold F5 at w;split at w
 ·rename_i x l;injection w with w;subst w;exact mk (IF j (.inl l) h)
 ·rename_i x l;injection w with w;subst w;exact mk (IF j (.inr l) h)
 ·rename_i c x y l;injection w with w;subst w;exact mk (MM j l h)
 ·rename_i T x l;injection w with w;subst w;exact mk' (by simp[dC.cls]) (OH j l h)
 ·rename_i T l;cases B:fF P T with
  |none=>grind
  |some z=>rw[B]at w;injection w with w;subst w;exact mk' (by simp[dC.cls]) (MN B l h)
 ·rename_i t ps l;cases B:fF P t with
  |none=>grind
  |some z=>
   rw[B,Option.bind_some]at w;cases L:parts P t (aK z).length ps.toList with
   |none=>grind
   |some M=>grind [Kw]
 ·rename_i t n ps l;split at w
  ·rename_i e p;cases B:fF P e with
   |none=>grind
   |some z=>
    rw[B,Option.bind_some]at w;split at w
    ·rename_i g;cases L:jE (fun i=>some (i*P.cellsOf e,P.cellsOf e)) (n*P.cellsOf e) ps.toList with
     |none=>grind
     |some M=>grind [dC.cls,OI]
    grind
  grind
 ·rename_i t x l;split at w
  ·rename_i g;split at w
   ·rename_i W;injection w with w;subst w;exact mk' (by simp[dC.cls]) (Ky j l g.1 g.2 W h)
   ·rename_i W;injection w with w;subst w;exact mk' (by simp[dC.cls]) (Kz j l g.1 g.2 Z h)
  grind
 ·rename_i t x y l;split at w
  ·rename_i g;injection w with w;subst w;exact mk' (by simp[dC.cls]) (KA j l g.1 g.2 h)
  grind
 ·rename_i x l;injection w with w;subst w;exact mk (EL j l h)
 ·rename_i op t x y t' l;split at w
  ·split at w
   ·rename_i D p;injection w with w;subst w;exact mk (F6 j l p Z h)
   ·cases A:shapeOf P fN t with
    |none=>grind
    |some s=>
     rw[A,Option.bind_some]at w;split at w
     ·rename_i g;injection w with w;subst w;exact mk (Ct j l Z h)
     grind
  ·split at w
   ·rename_i D p;injection w with w;subst w;exact mk (F6 j l p Z h)
   ·cases A:shapeOf P fN t with
    |none=>grind
    |some s=>
     rw[A,Option.bind_some]at w;split at w
     ·rename_i g;injection w with w;subst w;exact mk (Ct j l Z h)
     grind
  ·rename_i q u;injection w with w;subst w;exact mk (Ct j l Z h)
 ·rename_i op t x l;injection w with w;subst w;exact mk (Q9 j l h)
 ·rename_i s t x l;split at w
  ·rename_i X k q u;injection w with w;subst w;exact mk (MO j l q u h)
  ·rename_i e q u;split at w
   ·rename_i C;injection w with w;subst w;exact mk' (by simp[dC.cls]) (Kv j l q u C h)
   grind
  ·rename_i e q u;split at w
   ·rename_i C;injection w with w;subst w;exact mk' (by simp[dC.cls]) (GO j l q u C h)
   grind
  grind
 ·rename_i t x l;split at w
  ·cases w
  ·rename_i d p N;injection w with w;subst w;exact mk (KD j l N O h)
  grind
 ·rename_i fn first captured l;injection w with w;subst w;exact mk (MP j l h)
 ·rename_i t l;injection w with w;subst w;exact mk' (by simp[dC.cls]) (IG l h)
 ·rename_i t x y l;split at w
  ·rename_i e p;cases B:fF P e with
   |none=>grind
   |some z=>
    rw[B,Option.bind_some]at w;split at w
    ·rename_i g;injection w with w;subst w;exact mk' (by simp[dC.cls]) (Cu j l p B g.1 g.2.1 g.2.2 h)
    grind
  grind
 ·rename_i t x lo hi mx l;split at w
  ·rename_i e p;split at w
   ·rename_i g;injection w with w;subst w;exact mk (KE j l p g.1 (fun hm=>g.2.elim (fun q=>by simp_all) id) h)
   grind
  ·rename_i p;split at w
   ·rename_i g;injection w with w;subst w;cases mx with
    |none=>exact mk (IH j l p h)
    |some m=>grind
   grind
  grind
 ·rename_i s x f l;split at w
  ·rename_i fields p;cases F:fields[f]? with
   |none=>grind
   |some V=>
    rw[F,Option.bind_some]at w;split at w
    ·rename_i g;injection w with w;subst w;exact mk (Cv j l p F g.1 g.2 h)
    grind
  grind
 ·rename_i t x f l;split at w
  ·rename_i fields p;cases F:fields[f]? with
   |none=>grind
   |some V=>
    rw[F,Option.bind_some]at w;split at w
    ·rename_i g;injection w with w;subst w;exact mk (KF j l p F g.1 g.2 h)
    grind
  grind
 ·rename_i t x Q l;split at w
  ·rename_i e p;split at w
   ·rename_i g;injection w with w;subst w;exact mk (Cw j l p g h)
   grind
  ·rename_i n e p;split at w
   ·rename_i g;injection w with w;subst w;exact mk (EM j l p g h)
   grind
  grind
 ·rename_i t x Q l;split at w
  ·rename_i p;injection w with w;subst w;exact mk (II j l p h)
  ·rename_i n e p;split at w
   ·rename_i g;injection w with w;subst w;exact mk (IJ j l p g.1 g.2 h)
   grind
  grind
 ·rename_i t x Q ok l;split at w
  ·rename_i k e p;cases A:cA P k with
   |none=>grind
   |some s=>
    rw[A,Option.bind_some]at w;cases B:fF P e with
    |none=>grind
    |some z=>grind [dC.cls,Iv]
  grind
 ·rename_i t m k v l;split at w
  ·rename_i U e p;cases A:cA P U with
   |none=>grind
   |some s=>grind [dC.cls,Iw]
  ·cases w
 ·rename_i x Q l;injection w with w;subst w;exact mk (GV j l h)
 ·rename_i x s T l;split at w;grind
  ·rename_i d p N;injection w with w;subst w;exact mk (IK j l N O h)
  grind
 ·rename_i c l;split at w
  ·rename_i f g;split at w
   ·rename_i G;injection w with w;subst w;exact mk' (by simp[dC.cls]) (MH j l g G h)
   ·injection w with w;subst w;exact mk' (by simp[dC.cls]) (OD j l g h)
  ·rename_i x E g;injection w with w;subst w;exact mk' (by simp[dC.cls]) (OE j l g h)
  ·rename_i r name g;injection w with w;subst w;exact mk' (by simp[dC.cls]) (Iz j l g h)
  ·rename_i g;split at w
   ·rename_i x e q u;injection w with w;subst w;exact mk (MI j l g q u h)
   ·rename_i x q u;injection w with w;subst w;exact mk (MJ j l g q u h)
   ·rename_i x k e q u;injection w with w;subst w;exact mk' (by simp[dC.cls]) (MK j l g q u h)
   grind
  ·rename_i g;split at w
   ·rename_i x y e d q u C;cases B:fF P e with
    |none=>grind
    |some z=>
     rw[B,Option.bind_some]at w;split at w
     ·rename_i L;injection w with w;subst w;exact mk' (by simp[dC.cls]) (ID j l g q u C L.2.2.2.2 B L.1 L.2.1 L.2.2.1 L.2.2.2.1 h)
     grind
   grind
  ·rename_i g;split at w
   ·rename_i m k U e q u;cases A:cA P U with
    |none=>grind
    |some s=>grind [dC.cls,Iy]
   grind
  ·rename_i g;split at w
   ·rename_i x e q u;cases B:fF P e with
    |none=>grind
    |some z=>
     rw[B,Option.bind_some]at w;split at w
     ·rename_i L;injection w with w;subst w;exact mk' (by simp[dC.cls]) (Kp j l g q u B L h)
     grind
   grind
  ·rename_i g;injection w with w;subst w;exact mk (OF j l g h)
  ·rename_i g;injection w with w;subst w;exact mk (OG j l g h)
  grind
 ·injection w with w;subst w;exact False.elim h
 ·cases w
theorem ap{α:Type}{o:Option α}{F G:α->Prop}(h:aF o F)(x:∀v,F v->G v):aF o G:=by cases o;exact h;exact x _ h
theorem bL{c F G:Prop}(h:dW c F)(x:F->G):dW c G:=⟨h.1,x h.2⟩
theorem Cx{F G:Bool->Prop}(h:xg v F)(x:∀b,F b->G b):xg v G:=by unfold xg at*;split at h;exact x _ h;omega
theorem jM{F G:List Value->Prop}:∀ {xs:List Operand},KG ev xs F->(∀l,F l->G l)->KG ev xs G:=by
 intro xs;induction xs generalizing F G with
 |nil=>intro h z;exact z _ h
 |cons x xs w=>intro h z;exact ap h Z
theorem Cy{F G:List Value->Prop}:∀ {r:List (Nat×Nat×Operand)} {z:List Value},xh ev z r F->(∀l,F l->G l)->xh ev z r G:=by
 intro r;induction r with
 |nil=>intro z h w;exact w _ h
 |cons p r n=>obtain⟨off,size,x⟩:=p;intro z h w;exact ap h fun v h=>bL h fun h=>n h w
theorem nE{F G:Nat->Nat->Prop}(h:tI v F)(x:∀b o,F b o->G b o):tI v G:=by obtain⟨b,o,rfl,h⟩:=fz h;exact x _ _ h
theorem hZ{F G:Int->Prop}(h:xi v F)(x:∀b,F b->G b):xi v G:=by obtain⟨b,o,rfl,h⟩:=gg h;exact x _ h
theorem jN{F G:Option Addr->Nat->Nat->Prop}(h:mS v F)(x:∀a n c,F a n c->G a n c):mS v G:=by obtain⟨a,n,c,rfl,h⟩:=hV h;exact x _ _ _ h
theorem vq{v:Option Addr}{F G:Nat->Nat->Prop}(h:p9 v F)(x:∀b o,F b o->G b o):p9 v G:=by obtain⟨b,o,rfl,h⟩:=lw h;exact x _ _ h
theorem oK{F G:ByteArray->Prop}(h:iB v F)(x:∀b,F b->G b):iB v G:=by obtain⟨b,rfl,h⟩:=kQ h;exact x _ h
theorem MQ{F G:List Value->Prop}(h:MR v F)(x:∀b,F b->G b):MR v G:=by obtain⟨b,rfl,h⟩:=F7 h;exact x _ h
theorem F8{F G:List Value->Prop}(h:KH v F)(x:∀b,F b->G b):KH v G:=by obtain⟨b,rfl,h⟩:=y9 h;exact x _ h
theorem tm{F G:Option Nat->Prop}(h:zd v F)(x:∀b,F b->G b):zd v G:=by obtain⟨b,rfl,h⟩:=jr h;exact x _ h
theorem MS{F G:Bool->Prop}(h:KI v F)(x:∀b,F b->G b):KI v G:=by
 rcases Ga h with ⟨e,h⟩| ⟨t,u,e,h⟩<;>subst e<;>exact x _ h
theorem GW{T:TypeId}{F G:Value->Prop}(h:tn T v F)(z:∀b,F b->G b):tn T v G:=by obtain⟨b,e,x⟩:=xj h;subst e;exact⟨rfl,z _ x⟩
theorem vr{H:Hp}{size:Nat}{F G:Nat->List Value->Prop}(h:rowOf H size v F)(x:∀n l,F n l->G n l):rowOf H size v G:=by
 unfold rowOf at*;split at h
 ·rename_i a n c;cases z:n==0
  ·rw[z]at h;exact vq h fun b o h=>ap h fun l h=>bL h (x _ _)
  ·rw[z]at h;exact x _ _ h
 ·exact bL h (x _ _)
 omega
theorem IL{H:Hp}{F G:List UInt8->Prop}(h:ri H v F)(x:∀b,F b->G b):ri H v G:=by
 unfold ri at*;split at h
 ·exact vr h fun n l h=>ap h x
 omega
theorem jO{x:Option Operand}{d:Nat}{F G:Int->Prop}(h:mT ev x d F)(z:∀b,F b->G b):mT ev x d G:=by
 cases x with
 |none=>exact z _ h
 |some x=>exact ap h fun v h=>hZ h z
theorem Md{K':Value->Hp->Prop}(i:dC)(z:i.cls= .pure)(h:i.vc P ev H K)(x:∀v J,K v J->K' v J):i.vc P ev H K':=by
 cases i<;>simp[dC.cls]at z<;>simp only[dC.vc]at h ⊢
 ·exact ap h fun v=>x _ _
 ·exact ap h fun v h=>Cx h fun b h=>ap h fun v=>x _ _
 ·exact Cy h fun l=>x _ _
 ·exact ap h fun v h=>bL h (x _ _)
 ·exact ap h fun v h=>ap h fun v h=>ap h fun v=>x _ _
 ·exact ap h fun v h=>ap h fun v=>x _ _
 ·exact ap h fun v h=>hZ h fun v=>x _ _
 ·exact ap h fun v=>x _ _
 ·exact jM h fun l h=>jM h fun l=>x _ _
 ·exact ap h fun v h=>jN h fun a n c h=>jO h fun m h=>jO h fun m h=>jO h fun m h=>bL h (x _ _)
 ·exact ap h fun v h=>oK h fun s h=>jO h fun m h=>jO h fun m h=>bL h (x _ _)
 ·exact ap h fun v h=>nE h fun b o=>x _ _
 ·exact ap h fun v h=>F8 h fun l h=>ap h fun v=>x _ _
 ·exact ap h fun v h=>ap h fun v h=>jN h fun a n c h=>hZ h fun i h=>bL h fun h=>vq h fun b o=>x _ _
 ·exact ap h fun v h=>ap h fun v h=>nE h fun b o h=>hZ h fun i h=>bL h (x _ _)
 ·exact ap h fun v h=>ap h fun v h=>oK h fun s h=>hZ h fun i h=>bL h fun h=>ap h fun b=>x _ _
 ·exact ap h fun v h=>ap h fun v h=>F8 h fun s h=>hZ h fun i h=>bL h fun h=>ap h fun b=>x _ _
 ·exact ap h fun v h=>MQ h fun l h=>ap h fun v=>x _ _
 ·exact ap h fun v h=>jN h fun a n c=>x _ _
 ·exact ap h fun v h=>oK h fun s=>x _ _
 ·exact jM h fun l h=>ap h fun v=>x _ _
 ·exact jM h fun l h=>ap h fun v=>x _ _
 ·exact ap h fun v h=>GW h fun v=>x _ _
 ·exact ap h fun v h=>MS h fun v=>x _ _
theorem OJ(i:dC)(B:i.cls= .quiet)(h:i.vc P ev H K):∃v,i.vc P ev H (fun C J=>C=v/\J=H)/\K v H:=by
 cases i<;>simp[dC.cls]at B
 ·obtain⟨p,w,h⟩:=aC h;obtain⟨b,o,rfl,h⟩:=fz h;obtain⟨l,g,h⟩:=aC h;obtain⟨v,L,h⟩:=aC h;exact⟨v,by simp only[dC.vc,w,aF,tI,g,L,and_self],h⟩
 ·obtain⟨p,w,h⟩:=aC h;obtain⟨b,o,rfl,h⟩:=fz h;obtain⟨l,g,h⟩:=aC h;obtain⟨e,h⟩:=h.out;exact⟨_,by simp only[dC.vc,w,aF,tI,g,dW,e,and_self],h⟩
 ·rename_i s z ok m k;obtain⟨p,w,h⟩:=aC h;obtain⟨q,u,h⟩:=aC h;obtain⟨r,rfl,h⟩:=jr h;obtain⟨e,h⟩:=h.out;cases r with
  |none=>exact⟨_,by simp only[dC.vc,w,u,aF,zd,dW,e,uJ,and_self],h⟩
  |some b=>
   obtain⟨x,f,h⟩:=aC h;obtain⟨y,A,h⟩:=aC h;exact⟨_,by simp only[dC.vc,w,u,aF,zd,dW,e,uJ,f,A,and_self],h⟩
 ·obtain⟨p,w,h⟩:=aC h;obtain⟨r,rfl,h⟩:=jr h;cases r with
  |none=>exact⟨_,by simp only[dC.vc,w,aF,zd,IM,and_self],h⟩
  |some b=>
   obtain⟨x,f,h⟩:=aC h;exact⟨_,by simp only[dC.vc,w,aF,zd,IM,f,and_self],h⟩
 ·obtain⟨p,w,h⟩:=aC h;have key:∃l,K (.string ⟨l.toArray⟩) H/\ri H p (fun l'=>l'=l):=by
   unfold ri at*;split at h
   ·rename_i a n c;unfold rowOf at*;simp only at*;cases e:n==0
    ·rw[e]at h;obtain⟨b,o,rfl,h⟩:=lw h;obtain⟨l,g,h⟩:=aC h;obtain⟨j,h⟩:=h.out;obtain⟨t,d,h⟩:=aC h;exact⟨t,h,by simp only[Cz,p9,aF,g,dW,j,d,and_self]⟩
    ·rw[e]at h;have h:aF (bytesOf []) fun l=>K (.string ⟨l.toArray⟩) H:=h;obtain⟨t,d,h⟩:=aC h;exact⟨t,h,by simp only[Cz,aF,d]⟩
   ·grind
  obtain⟨l,j,T⟩:=key;refine⟨_,?_,j⟩;simp only[dC.vc,w,aF];grind
end
end
end Go.Vc
