/- Texts put behind each other. -/
import Derived.Test.YtjkkkibiegfecaaGreatDoorK8
import Derived.Lib.ConvBytes
import Derived.Laws.AppendOwn
import Derived.Laws.Append
set_option linter.unusedSimpArgs false
set_option linter.unusedVariables false
set_option maxRecDepth 100000
set_option maxHeartbeats 8000000
namespace Go.Vc
section
variable{e t:TypeId}{x y:Operand}{z:Value}{s:Shape}{f:FuncId}{w:World}{n m:Nat}
section
variable {P : Program} {o : Oper} {a : Act} {ev : Ev} {H : Hp} {K : Value → Hp → Prop}
theorem HV{f:TypeId}{ok:Bool}(n:bO ev a)(v:o.op= .lookup t x y ok)(j:P.underlying t=some (.map f e))
  (l:cD P f=some s)(p:fI P e=some z)(h:(dH.lookup s z ok x y).vc P ev H K):ej P o a H K:=by
 intro w C;subst C;obtain⟨r,d,h⟩:=ju (bh n (bh n h));obtain⟨c,h⟩:=h.out;cases r with
 |none=>
  refine .inl ⟨gN ok z none,w,?_,cv.refl w,h⟩;have L:=iA (P:=P) (k:=a.eval y) (es:=[]) (r:=none) l rfl w;simp only[execOp,v,Instr.lookup,Sem.run_bind,ar j,Result.andThen_ok,d,Sem.run_pure,gO l c,L,cK p];cases ok<;>rfl
 |some b=>
  obtain⟨m,hm,h⟩:=aB h;obtain⟨u,g,h⟩:=aB h;obtain⟨es,B,A⟩:=Ca hm;rw[<-A]at g;refine .inl ⟨gN ok z (u.map (·.2)),w,?_,cv.refl w,h⟩;simp only[execOp,v,Instr.lookup,Sem.run_bind,ar j,Result.andThen_ok,d,Sem.run_pure,mJ B,gO l c,iA l g];cases u with
  |none=>simp only[cK p,Result.andThen_ok,Sem.run_bind,Sem.run_pure];cases ok<;>rfl
  |some q=>cases ok<;>rfl
theorem HW{f:TypeId}{z:Operand}(c:bO ev a)(L:o.op= .mapUpdate t x y z)(A:P.underlying t=some (.map f e))
  (d:cD P f=some s)(h:(dH.update s x y z).vc P ev H K):ej P o a H K:=by
 intro w C;subst C;obtain⟨r,T,h⟩:=ju (bh c (bh c (bh c h)));obtain⟨b,rfl,h⟩:=aB h;obtain⟨B,h⟩:=h.out;obtain⟨m,hm,h⟩:=aB h;obtain⟨g,j,h⟩:=aB h;obtain⟨p,h⟩:=h.out;obtain⟨es,n,l⟩:=Ca hm;rw[<-l]at j;refine .inr (.inl ⟨{w with heap:=Hp.A9 w.heap b (JU m.1 g (a.eval y) (a.eval z) m.2) (Gw g m.2)},?_,⟨rfl,rfl⟩,h⟩);simp only[execOp,L,Instr.mapUpdate,Sem.run_bind,ar A,Result.andThen_ok,T,mJ n,gO d B,iA d j];cases g with
 |none=>
  simp only[mK n,Result.andThen_ok,Sem.run_pure,JU,Gw,<-l];simp
 |some q=>
  obtain⟨i,v⟩:=q;have u:Instr.sameBits 10000 (((es[i]?).map (·.key)).getD (a.eval y)) (a.eval y)=true:=by
   simp only[Cb,<-l]at p;simpa using p
  simp only[Instr.keyThatStays,u,if_true,Sem.run_bind,Sem.run_pure,Result.andThen_ok,mK n,JU,Gw,<-l];simp
theorem HX{d:TypeId}{c:Call}(n:bO ev a)(C:o.op= .call c)(L:c.callee= .builtin .delete)(u:c.args.toList=[x,y])
  (B:(c.argTypes[0]?).bind P.underlying=some (.map d e))(j:cD P d=some s)(h:(dH.delete s x y).vc P ev H K):ej P o a H K:=by
 intro w N;subst N;obtain⟨r,Q,h⟩:=ju (bh n (bh n h));obtain⟨b,rfl,h⟩:=aB h;obtain⟨A,h⟩:=h.out;obtain⟨m,hm,h⟩:=aB h;obtain⟨p,g,h⟩:=aB h;obtain⟨es,z,l⟩:=Ca hm;rw[<-l]at g;have f:c.args= #[x,y]:=Array.ext' u;obtain⟨t,T,F⟩:=Option.bind_eq_some_iff.1 B;refine .inl ⟨.tuple [].toArray,{w with heap:=Hp.A9 w.heap b (Cp m.1 p) m.2},?_,⟨rfl,rfl⟩,h⟩;simp only[execOp,C,resolve,L,Sem.run_bind,Sem.run_pure,Result.andThen_ok,invoke,builtin,f,Builtin.delete_,T];simp only[List.map_toArray,akJ,List.map_nil,ak9,akp,ak5,Sem.run_bind,ar F,Result.andThen_ok,Q,mJ z,gO j A,iA j g];cases p with
 |none=>simp only[Sem.run_bind,mK z,Result.andThen_ok,Sem.run_pure,Cp,<-l]
 |some q=>
  obtain⟨i,v⟩:=q;simp only[Sem.run_bind,mK z,Result.andThen_ok,Sem.run_pure,Cp,<-l,Array.toList_eraseIdxIfInBounds]
theorem JV{c:Call}(L:bO ev a)(y:o.op= .call c)(g:c.callee= .builtin .clear)(u:c.args.toList=[x])
  (B:(c.argTypes[0]?).bind P.underlying=some (.slice e))(N:fI P e=some z)(G:(aK z).length≠0)(h:(dH.JW (aK z) x).vc P ev H K):ej P o a H K:=by
 intro w F;subst F;obtain⟨p,n,Q,d,h⟩:=hO (bh L h);have v:c.args= #[x]:=Array.ext' u;obtain⟨t,r,j⟩:=Option.bind_eq_some_iff.1 B;have D:z.cells.toList=aK z:=eQ z;rcases h with ⟨rfl,h⟩| ⟨I,b,off,l,rfl,A,f,U,h⟩
 ·refine .inl ⟨.tuple [].toArray,w,?_,cv.refl w,h⟩;simp only[execOp,y,resolve,g,Sem.run_bind,Sem.run_pure,Result.andThen_ok,invoke,builtin,v,Builtin.clear_,r];simp only[List.map_toArray,akJ,List.map_nil,ak9,akp,Sem.run_bind,ar j,Result.andThen_ok,d];cases p<;>simp
 ·have q:(Builtin.zeroCells z.cells n).toList=dw (aK z) n:=by
   unfold Builtin.zeroCells;grind [xo]
  have m:(dw (aK z) n).length=n*(aK z).length:=by simp[dw]
  obtain⟨w',C,T,W,_⟩:=gY (P:=P) (b:=b) (o:=off) (dw (aK z) n) 0 w l A O f;have V:dw (aK z) n≠[]:=fun e=>by
   rw[e]at m;simp only[akB]at m;rcases Nat.mul_eq_zero.1 m.symm with h|h
   ·omega
   omega
  refine .inl ⟨.tuple [].toArray,w',?_,T,?_⟩
  ·simp only[execOp,y,resolve,g,Sem.run_bind,Sem.run_pure,Result.andThen_ok,invoke,builtin,v,Builtin.clear_,r];simp only[List.map_toArray,akJ,List.map_nil,ak9,akp,Sem.run_bind,ar j,Result.andThen_ok,d];cases n with
   |zero=>omega
   |succ n=>simp[cK N,q,C]
  grind
theorem oT(x:eR P f=true)(args:Array Value)(w:World):(callFunc f args).run P w= .ok (.enter f args) w:=by
 unfold eR at x;split at x
 ·rename_i fn z;simp only[aki,bne_iff_ne,ne_eq]at x;obtain⟨l,h⟩:=Option.isSome_iff_exists.1 x.2;simp[callFunc,z,x.1,h]
 grind
theorem L9{c:Call}(l:bO ev a)(n:o.op= .call c)(z:c.callee= .value (.func f))(x:eR P f=true)
  (h:(dH.call f c.args.toList).vc P ev H K):ej P o a H K:=by
 intro w m;subst m;have h:=jL l h;refine .inr (.inr ⟨f,(c.args.map a.eval),w,?_,cv.refl w,by simpa using h⟩);simp[execOp,n,resolve,z,Act.eval,Deferred.ofValue,invoke,oT x]
theorem NJ{c:Call}(l:bO ev a)(m:o.op= .call c)(z:c.callee= .value (.func f))
  (h:(dH.ext f c.args.toList).vc P ev H K):ej P o a H K:=by
 intro w y;subst y;obtain⟨v,e,n⟩:=jL l h;refine .inl ⟨v,w,?_,cv.refl w,n⟩;have g:(callFunc f (c.args.map a.eval)).run P w= .ok (.value v) w:=by
  have x:=e w;rw[show(List.map a.eval c.args.toList).toArray=c.args.map a.eval from Z]at x;exact x
 simp[execOp,m,resolve,z,Act.eval,Deferred.ofValue,invoke,g]
theorem NK{f:Operand}{c:Call}(x:bO ev a)(n:o.op= .call c)(z:c.callee= .value f)
  (h:(dH.dyn f c.args.toList).vc P ev H K):ej P o a H K:=by
 intro w m;subst m;have h:=jL x (bh x h);unfold Su at h;split at h
 ·rename_i g first captured l
  refine .inr (.inr ⟨g,first++c.args.map a.eval++captured,w,?_,cv.refl w,by simpa using h.2⟩);simp only[execOp,n,resolve,z,l,Deferred.ofValue,Sem.run_bind,Sem.run_pure,Result.andThen_ok,invoke,oT h.1]
 ·exact h.elim
theorem HY{r:Operand}{name:String}{c:Call}(x:bO ev a)(m:o.op= .call c)(z:c.callee= .invoke r name)
  (h:(dH.invoke r name c.args.toList).vc P ev H K):ej P o a H K:=by
 intro w g;subst g;obtain⟨T,v,f,rv,e,⟨l,hm⟩,h⟩:=jL x (bh x h);refine .inr (.inr ⟨f, #[rv]++c.args.map a.eval,w,?_,cv.refl w,by simpa using h⟩);have y:(#[Value.iface T v]++c.args.map a.eval)[0]? =some (.iface T v):=by rw[Array.getElem?_append_left (by simp)];rfl
 have n:(#[Value.iface T v]++c.args.map a.eval).extract 1 (#[Value.iface T v]++c.args.map a.eval).size=c.args.map a.eval:=by
  apply Array.ext';simp only[Array.toList_extract,Array.toList_append,Array.toList_map,Array.size_append];simp[akE]
 simp only[execOp,m,resolve,z,e,Sem.run_bind,Sem.run_pure,Result.andThen_ok,invoke,y,n,callMethod,run_program,hm w rfl,oT l]
theorem kY{c:Call}(v:o.op= .call c)(m:c.callee= .builtin .len)(z:c.args.toList=[x])
  (e:(Builtin.len_ c.argTypes o.type #[a.eval x]).run P w= .ok (goInt n) w):(execOp a.eval o).run P w= .ok (.value (.int .i64 n)) w:=by
 have h:c.args= #[x]:=Array.ext' z;have l:c.args.map a.eval= #[a.eval x]:=by rw[h];simp
 simp only[execOp,v,resolve,m,Sem.run_bind,Sem.run_pure,Result.andThen_ok,invoke,builtin,l,e,goInt]
theorem Ma{c:Call}(v:bO ev a)(g:o.op= .call c)(m:c.callee= .builtin .len)(z:c.args.toList=[x])
  (l:(c.argTypes[0]?).bind P.underlying=some (.slice e))(h:(dH.JX x).vc P ev H K):ed P o a H K:=by
 obtain⟨t,y,r⟩:=Option.bind_eq_some_iff.1 l;obtain⟨d,n,p,j,h⟩:=hO (bh v h);refine⟨_,fun w=>kY g m z (n:=n) ?_,h⟩;simp[Builtin.len_,y,ar r,goInt,j]
theorem Mb{c:Call}(v:bO ev a)(e:o.op= .call c)(m:c.callee= .builtin .len)(z:c.args.toList=[x])
  (l:(c.argTypes[0]?).bind P.underlying=some .string)(h:(dH.Qi x).vc P ev H K):ed P o a H K:=by
 obtain⟨t,g,y⟩:=Option.bind_eq_some_iff.1 l;obtain⟨s,r,h⟩:=kZ (bh v h);refine⟨_,fun w=>kY e m z (n:=s.size) ?_,h⟩;simp[Builtin.len_,g,ar y,goInt,r]
theorem Mc{c:Call}{k:TypeId}(q:bO ev a)(v:o.op= .call c)(l:c.callee= .builtin .len)(z:c.args.toList=[x])
  (d:(c.argTypes[0]?).bind P.underlying=some (.map k e))(h:(dH.Qj x).vc P ev H K):ej P o a H K:=by
 intro w u;subst u;obtain⟨t,g,y⟩:=Option.bind_eq_some_iff.1 d;obtain⟨r,j,h⟩:=ju (bh q h);cases r with
 |none=>
  refine .inl ⟨_,w,kY v l z (n:=0) ?_,cv.refl w,h⟩;simp[Builtin.len_,g,ar y,goInt,j]
 |some b=>
  obtain⟨m,hm,h⟩:=aB h;obtain⟨es,p,f⟩:=Ca hm;refine .inl ⟨_,w,kY v l z (n:=m.1.length) ?_,cv.refl w,h⟩;simp[Builtin.len_,g,ar y,goInt,j,mJ p,<-f]
theorem Qk:∀ (r:List Value) (x v:Value),HZ x r=some v->∀w:World,(r.foldlM Builtin.min2 x).run P w= .ok v w:=by
 intro r;induction r with
 |nil=>intro x v h w;injection h with h;simp_all
 |cons y r z=>
  intro x v h w;unfold HZ at h;split at h
  ·rename_i k p l q;simp[List.foldlM_cons,Builtin.min2,z _ v h w]
  grind
theorem Ql:∀ (r:List Value) (x v:Value),Ia x r=some v->∀w:World,(r.foldlM Builtin.max2 x).run P w= .ok v w:=by
 intro r;induction r with
 |nil=>intro x v h w;injection h with h;simp_all
 |cons y r z=>
  intro x v h w;unfold Ia at h;split at h
  ·rename_i k p l q;simp[List.foldlM_cons,Builtin.max2,z _ v h w]
  grind
theorem NL{c:Call}(m:bO ev a)(g:o.op= .call c)(n:c.callee= .builtin .min)(h:(dH.Qm c.args.toList).vc P ev H K):ed P o a H K:=by
 obtain⟨v,z,h⟩:=aB (jL m h);refine⟨v,fun w=>?_,h⟩;have e:(Builtin.min_ c.argTypes o.type (c.args.map a.eval)).run P w= .ok v w:=by
  unfold Builtin.min_;rw[Array.toList_map];cases l:c.args.toList.map a.eval with
  |nil=>rw[l]at z;cases z
  |cons x r=>rw[l]at z;exact Qk r x v z w
 simp only[execOp,g,resolve,n,Sem.run_bind,Sem.run_pure,Result.andThen_ok,invoke,builtin,e]
theorem NM{c:Call}(m:bO ev a)(g:o.op= .call c)(n:c.callee= .builtin .max)(h:(dH.Qn c.args.toList).vc P ev H K):ed P o a H K:=by
 obtain⟨v,z,h⟩:=aB (jL m h);refine⟨v,fun w=>?_,h⟩;have e:(Builtin.max_ c.argTypes o.type (c.args.map a.eval)).run P w= .ok v w:=by
  unfold Builtin.max_;rw[Array.toList_map];cases l:c.args.toList.map a.eval with
  |nil=>rw[l]at z;cases z
  |cons x r=>rw[l]at z;exact Ql r x v z w
 simp only[execOp,g,resolve,n,Sem.run_bind,Sem.run_pure,Result.andThen_ok,invoke,builtin,e]
theorem vJ{H:Hp}{size:Nat}{v:Value}{F:Nat->List Value->Prop}(h:rowOf H size v F):
  ∃ (n:Nat) (l:List Value),F n l/\(∀w:World,(Builtin.lenOf v).run P w= .ok n w)/\(∀w:World,w.heap=H->(Builtin.firstCells size n v).run P w= .ok l.toArray w)/\l.length=n*size/\
   (∀b m c,v= .slice b m c->m=n):=by
 unfold rowOf at h;split at h
 ·rename_i a n c;by_cases z:n=0
  ·subst z;refine⟨0,[],h,fun _=>rfl,fun w e=>?_,by simp,Z⟩;cases a with
   |none=>rfl
   |some a=>simp only[Builtin.firstCells,aj7];rfl
  ·have g:(n==0)=false:=by simpa using z
   rw[g]at h;obtain⟨b,off,rfl,t⟩:=lE (F:=fun b o=>aE (H.rd b) fun l=>dZ (o+n*size<=l.length) (F n ((l.drop o).take (n*size)))) h;obtain⟨l,j,x⟩:=aB t;obtain⟨d,r⟩:=x.out;refine⟨n,_,r,fun _=>rfl,fun w e=>?_,Z,Z⟩;subst e;exact nO (P:=P) (a:=⟨b,off,none⟩) rfl j d
 ·rename_i s;obtain⟨y,x⟩:=h.out;subst y;refine⟨s.size,_,x,fun _=>rfl,fun w _=>?_,?_,Z⟩
  ·simp only[Builtin.firstCells,Sem.run_pure];congr 1;apply Array.ext';simp_all
  simp_all
 grind
theorem Gx{s:TypeId}(n:bO ev a)(c:o.op= .convert s t x)(v:P.underlying s=some .string)(g:P.underlying t=some (.slice e))(l:P.underlying e=some (.int .u8))
  (h:(dH.Gy e x).vc P ev H K):ej P o a H K:=by
 intro w y;subst y;have h:=bh n h;unfold iB at h;split at h
 ·rename_i z p;have d:=Lib.run_convert_string_bytes (P:=P) w s t e z v g l;have m:=grownCap_ge w z.size 0 e;refine .inl ⟨.slice (some ⟨w.heap.size,0,none⟩) z.size (grownCap w z.size 0 e),Lib.bytesWorld w e z,?_,⟨rfl,rfl⟩,?_⟩
  ·simp only[execOp,c];simp_all
  ·have j:=h _ m;have r:(Lib.bytesWorld w e z).heap=Hp.JY w.heap e ((z.data.toList.map fun b=>.int .u8 b.toNat)++List.replicate (grownCap w z.size 0 e - z.size) (.int .u8 0)):=by
    apply Array.ext_getElem?;intro i;rcases Nat.lt_trichotomy i w.heap.size with hi|hi|hi
    ·rw[Lib.bytesWorld_at_old w e z i hi,Ib _ _ _ hi]
    ·subst hi;rw[Lib.bytesWorld_at_new];simp[Hp.JY,Lib.bytesCells]
    ·rw[akW (by rw[Lib.bytesWorld_size];omega),akW (by rw[Md];omega)]
   grind
 ·exact h.elim
theorem JZ:∀ (l:List Value) (x:List UInt8),bytesOf l=some x->∀ (s:ByteArray) (w:World),
  (forIn l s fun c (s:ByteArray)=>(match c with| .int .u8 n=>pure (ForInStep.yield (s.push (UInt8.ofNat n.toNat)))|_=>(do stuck "bytesToString: byte expected";pure (ForInStep.yield s)):Sem (ForInStep ByteArray))).run P w= .ok ⟨s.data++x.toArray⟩ w:=by
 intro l;induction l with
 |nil=>intro x h s w;simp only[bytesOf,ajS]at h;simp_all
 |cons v l m=>
  intro x h s w;cases v with
  |int k n=>
   cases k with
   |u8=>
    simp only[bytesOf]at h;cases z:bytesOf l with
    |none=>grind
    |some r=>
     simp_all
   |_=>simp[bytesOf]at h
  |_=>simp[bytesOf]at h
theorem J0{s:TypeId}(q:bO ev a)(u:o.op= .convert s t x)(B:P.underlying s=some (.slice e))(L:P.underlying t=some .string)(p:P.underlying e=some (.int .u8))
  (h:(dH.Lz x).vc P ev H K):ej P o a H K:=by
 intro w A;subst A;have h:=bh q h;unfold rG at h;split at h
 ·rename_i v n c C;obtain⟨m,l,h,T,j,F,d⟩:=vJ (P:=P) h;obtain⟨y,g,h⟩:=aB h;refine .inl ⟨_,w,?_,cv.refl w,h⟩;have hm:n=m:=d _ _ _ rfl;subst hm;have z:=j w rfl;have key:(Conv.bytesToString (.slice v n c)).run P w= .ok (.string ⟨y.toArray⟩) w:=by
   cases v with
   |none=>
    simp only[Builtin.firstCells,Sem.run_pure,Result.ok.injEq,and_true]at z;have f:l=[]:=by
     have:=ajP Array.toList z;simpa using this.symm
    subst f;simp only[bytesOf,ajS]at g;subst g;rfl
   |some v=>
    simp only[Builtin.firstCells,ajM]at z;simp only[Conv.bytesToString,Sem.run_bind,z,Result.andThen_ok];rw[List.forIn_toArray];refine(ajP (fun r=>Result.andThen r fun a w'=>Sem.run P (pure (Value.string a)) w') (JZ (P:=P) l y g ByteArray.empty w)).trans ?_;simp only[Result.andThen_ok,Sem.run_pure];congr 3;simp
  simp only[execOp,u,convert,C,Sem.run_bind,ar B,ar L,ar p,Result.andThen_ok,key];rfl
 ·exact h.elim
theorem RF{d:TypeDesc}(x:zj d=true):(∃e,d= .slice e)\/d= .string:=by
 cases d<;>grind [zj]
theorem EC{x:Array TypeId}{ty h:TypeId}{d:TypeDesc}{base:Option Addr}{cap:Nat}{y:Value}{new:Array Value}(g:x[0]? =some t)(r:x[1]? =some h)
  (j:P.underlying t=some (.slice e))(p:P.underlying h=some d)(z:zj d=true)(hi:(P.info? e).isSome=true)
  (c:(Builtin.lenOf y).run P w= .ok m w)(v:(Builtin.firstCells (P.cellsOf e) m y).run P w= .ok new w)(l:n+m<=cap):
  (Builtin.append_ x ty #[.slice base n cap,y]).run P w=
   ((match base with|some a=>storeCells (a.add (n*P.cellsOf e)) new.toList|none=>(pure ():Sem Unit)).run P w).andThen fun _ w'=>.ok (.slice base (n+m) cap) w':=by
 rcases RF z with ⟨q,rfl⟩|rfl<;>unfold Builtin.append_<;>
 simp only[ak9,akp,ak5,g,r,Sem.run_bind,ar j,ar p,Result.andThen_ok,bI hi,Sem.run_pure,c,akC,if_false,if_pos l,akF,if_true,v]<;>
 cases base<;>simp only[Sem.run_pure,Result.andThen_ok,Sem.run_bind]
theorem Cq{x:Array TypeId}{ty c:TypeId}{d:TypeDesc}{base:Option Addr}{cap:Nat}{y:Value}{new l:Array Value}(B:x[0]? =some t)(L:x[1]? =some c)
  (A:P.underlying t=some (.slice e))(C:P.underlying c=some d)(r:zj d=true)(hi:(P.info? e).isSome=true)(T:fI P e=some z)
  (p:(Builtin.lenOf y).run P w= .ok m w)(f:(Builtin.firstCells (P.cellsOf e) m y).run P w.drew= .ok new w.drew)
  (hold:(Builtin.firstCells (P.cellsOf e) n (.slice base n cap)).run P w.drew= .ok l w.drew)
  (j:cap<n+m)(U:Builtin.nextslicecap (n+m) cap*P.bytesOf e<=2^48)(v:P.bytesOf e≠0):
  ∃c',n+m<=c'/\(Builtin.append_ x ty #[.slice base n cap,y]).run P w=
   .ok (.slice (some ⟨w.heap.size,0,none⟩) (n+m) c') {w with drawn:=w.drawn+1,heap:=Hp.new w.heap e ((l++new++Builtin.zeroCells z.cells (c' - (n+m))).toList)}:=by
 obtain⟨inf,h⟩:=Option.isSome_iff_exists.1 hi;have g:inf.bytes=P.bytesOf e:=by simp[Program.bytesOf,h]
 refine⟨(Question.appendCap (n+m) cap e).cut (w.tape w.drawn (.appendCap (n+m) cap e)),by simp[Question.cut],?_⟩;have W:n+m<=2^48:=by
  have N:=le_nextslicecap j;have Q:Builtin.nextslicecap (n+m) cap<=Builtin.nextslicecap (n+m) cap*P.bytesOf e:=Nat.le_mul_of_pos_right _ O;omega
 have I:¬ (9223372036854775807< ((n:Int)+(m:Int))):=O;have u:¬ (281474976710656<Builtin.nextslicecap (n+m) cap*P.bytesOf e):=O;have q:¬ (n+m<=cap):=O;rcases RF r with ⟨F,rfl⟩|rfl<;>
  simp[Builtin.append_,B,L,ar A,ar C,bI hi,p,q,ew h,g,v,u,Question.forced,cK T,hold,f,jM]<;>
  exact⟨rfl,rfl,rfl⟩
theorem Ic{c:Call}{d:TypeDesc}(f:bO ev a)(ho:o.op= .call c)(hc:c.callee= .builtin .append)(G:c.args.toList=[x,y])
  (D:(c.argTypes[0]?).bind P.underlying=some (.slice e))(M:(c.argTypes[1]?).bind P.underlying=some d)(q:zj d=true)(hz:fI P e=some z)(hi:(P.info? e).isSome=true)
  (h0:P.cellsOf e≠0)(hl:(aK z).length=P.cellsOf e)(PO:P.bytesOf e≠0)(h:(dH.append e (P.cellsOf e) (P.bytesOf e) (aK z) x y).vc P ev H K):ej P o a H K:=by
 intro w hw;subst hw;have V:c.args= #[x,y]:=Array.ext' G;obtain⟨t,A,T⟩:=Option.bind_eq_some_iff.1 D;obtain⟨t',C,F⟩:=Option.bind_eq_some_iff.1 M;have hzc:z.cells.toList=aK z:=eQ z;have YE:z.cells.size=P.cellsOf e:=by rw[<-hl,<-hzc];simp
 obtain⟨base,n,cap,N,h⟩:=hO (bh f (bh f h));have h':=h;obtain⟨m,new,h,u,B,L,_⟩:=vJ (P:=P) h;obtain⟨I,g,j⟩:=h;have E:c.args.map a.eval= #[.slice base n cap,a.eval y]:=by rw[V];simp[N]
 have pre:∀v w',(Builtin.append_ c.argTypes o.type #[.slice base n cap,a.eval y]).run P w= .ok v w'->(execOp a.eval o).run P w= .ok (.value v) w':=by
  intro v w' r;simp only[execOp,ho,resolve,hc,Sem.run_bind,Sem.run_pure,Result.andThen_ok,invoke,builtin,E,r]
 by_cases p:n+m<=cap
 ·have r:=EC (ty:=o.type) (base:=base) A C T F q hi (u w) (B w rfl) p;by_cases hm:m=0
  ·subst hm;have RG:new=[]:=Z;subst RG;refine .inl ⟨_,w,pre _ w ?_,cv.refl w,I p rfl⟩;rw[r];cases base<;>rfl
  ·obtain⟨b,off,rfl,g⟩:=lE (g p hm);obtain⟨l,V9,g⟩:=aB g;obtain⟨⟨h1,W⟩,g⟩:=g.out;obtain⟨w',hs,hsm,hk,_⟩:=gY (P:=P) (b:=b) (o:=off+n*P.cellsOf e) new 0 w l V9 Z W;have nj:new≠[]:=fun U=>by
    rw[U]at L;rcases Nat.mul_eq_zero.1 L.symm with h|h
    ·omega
    omega
   refine .inl ⟨_,w',pre _ w' ?_,hsm,hk nj▸g⟩;rw[r];simp only[vK,List.toList_toArray,hs,Result.andThen_ok]
 ·obtain⟨X,j⟩:=j O;rw[N]at j;obtain⟨n',Q,j,_,hold,hol,Wa⟩:=vJ (P:=P) j;have:n=n':=Wa _ _ _ rfl;subst this;obtain⟨c',FR,r⟩:=Cq (ty:=o.type) (base:=base) A C T F q hi hz (u w) (B w.drew rfl) (hold w.drew rfl) O X PO;refine .inl ⟨_,_,pre _ _ r,⟨rfl,rfl⟩,?_⟩;have e1:(Q.toArray++new.toArray++Builtin.zeroCells z.cells (c' - (n+m))).toList=Q++new++dw (aK z) (c' - (n+m)):=by
   rw[Array.toList_append,Array.toList_append];congr 1;unfold Builtin.zeroCells;grind [xo]
  grind
end
end
section
variable{v:Value}
def dH.cls:dH->Ie
 | .cY _| .pick .. | .build .. | .nilCheck _| .eV .. | .un .. | .conv .. | .iface .. | .func .. | .slice .. | .Gz .. | .fieldAddr .. | .field .. | .indexAddr .. | .xp .. | .GA .. | .extract ..
 | .JX _| .Qi _| .Qm _| .Qn _| .GB .. | .Qo .. =>.pure
 | .GC .. =>.pure
 | .bB _| .cE .. | .lookup .. | .Qj _| .Lz _=>.quiet
 |_=>.ED
section
variable {P : Program} {o : Oper} {a : Act} {ev : Ev} {H : Hp} {K : Value → Hp → Prop}
theorem sound(i:dH)(w:FS P o=some i)(j:bO ev a)(h:i.vc P ev H K):(i.cls= .pure->ed P o a H K)/\ej P o a H K:=by
 have mk:ed P o a H K->(i.cls= .pure->ed P o a H K)/\ej P o a H K:=fun I=>⟨fun _=>I,I.Z2⟩;have mk':i.cls≠ .pure->ej P o a H K->(i.cls= .pure->ed P o a H K)/\ej P o a H K:=Z;unfold FS at w;split at w
 ·rename_i x l;injection w with w;subst w;exact mk (If j (.inl l) h)
 ·rename_i x l;injection w with w;subst w;exact mk (If j (.inr l) h)
 ·rename_i c x y l;injection w with w;subst w;exact mk (Me j l h)
 ·rename_i T x l;injection w with w;subst w;exact mk' (by simp[dH.cls]) (NN j l h)
 ·rename_i T l;cases B:fI P T with
  |none=>grind
  |some z=>rw[B]at w;injection w with w;subst w;exact mk' (by simp[dH.cls]) (Mf B l h)
 ·rename_i t ps l;cases B:fI P t with
  |none=>grind
  |some z=>
   rw[B,Option.bind_some]at w;cases L:parts P t (aK z).length ps.toList with
   |none=>grind
   |some M=>grind [J1]
 ·rename_i t n ps l;split at w
  ·rename_i e p;cases B:fI P e with
   |none=>grind
   |some z=>
    rw[B,Option.bind_some]at w;split at w
    ·rename_i g;cases L:jG (fun i=>some (i*P.cellsOf e,P.cellsOf e)) (n*P.cellsOf e) ps.toList with
     |none=>grind
     |some M=>grind [dH.cls,NO]
    grind
  grind
 ·rename_i t x l;split at w
  ·rename_i g;split at w
   ·rename_i W;injection w with w;subst w;exact mk' (by simp[dH.cls]) (J2 j l g.1 g.2 W h)
   ·rename_i W;injection w with w;subst w;exact mk' (by simp[dH.cls]) (J3 j l g.1 g.2 Z h)
  grind
 ·rename_i t x y l;split at w
  ·rename_i g;injection w with w;subst w;exact mk' (by simp[dH.cls]) (J4 j l g.1 g.2 h)
  grind
 ·rename_i x l;injection w with w;subst w;exact mk (EE j l h)
 ·rename_i op t x y t' l;split at w
  ·split at w
   ·rename_i D p;injection w with w;subst w;exact mk (FT j l p Z h)
   ·cases A:shapeOf P fP t with
    |none=>grind
    |some s=>
     rw[A,Option.bind_some]at w;split at w
     ·rename_i g;injection w with w;subst w;exact mk (Cr j l Z h)
     grind
  ·split at w
   ·rename_i D p;injection w with w;subst w;exact mk (FT j l p Z h)
   ·cases A:shapeOf P fP t with
    |none=>grind
    |some s=>
     rw[A,Option.bind_some]at w;split at w
     ·rename_i g;injection w with w;subst w;exact mk (Cr j l Z h)
     grind
  ·rename_i q u;injection w with w;subst w;exact mk (Cr j l Z h)
 ·rename_i op t x l;injection w with w;subst w;exact mk (Qp j l h)
 ·rename_i s t x l;split at w
  ·rename_i X k q u;injection w with w;subst w;exact mk (Mh j l q u h)
  ·rename_i e q u;split at w
   ·rename_i C;injection w with w;subst w;exact mk' (by simp[dH.cls]) (J0 j l q u C h)
   grind
  ·rename_i e q u;split at w
   ·rename_i C;injection w with w;subst w;exact mk' (by simp[dH.cls]) (Gx j l q u C h)
   grind
  grind
 ·rename_i t x l;split at w
  ·cases w
  ·rename_i d p N;injection w with w;subst w;exact mk (J5 j l N O h)
  grind
 ·rename_i fn first captured l;injection w with w;subst w;exact mk (Mi j l h)
 ·rename_i t l;injection w with w;subst w;exact mk' (by simp[dH.cls]) (Ig l h)
 ·rename_i t x y l;split at w
  ·rename_i e p;cases B:fI P e with
   |none=>grind
   |some z=>
    rw[B,Option.bind_some]at w;split at w
    ·rename_i g;injection w with w;subst w;exact mk' (by simp[dH.cls]) (Cs j l p B g.1 g.2.1 g.2.2 h)
    grind
  grind
 ·rename_i t x lo hi mx l;split at w
  ·rename_i e p;split at w
   ·rename_i g;injection w with w;subst w;exact mk (J6 j l p g.1 (fun hm=>g.2.elim (fun q=>by simp_all) id) h)
   grind
  ·rename_i p;split at w
   ·rename_i g;injection w with w;subst w;cases mx with
    |none=>exact mk (Ih j l p h)
    |some m=>grind
   grind
  grind
 ·rename_i s x f l;split at w
  ·rename_i fields p;cases F:fields[f]? with
   |none=>grind
   |some V=>
    rw[F,Option.bind_some]at w;split at w
    ·rename_i g;injection w with w;subst w;exact mk (Ct j l p F g.1 g.2 h)
    grind
  grind
 ·rename_i t x f l;split at w
  ·rename_i fields p;cases F:fields[f]? with
   |none=>grind
   |some V=>
    rw[F,Option.bind_some]at w;split at w
    ·rename_i g;injection w with w;subst w;exact mk (J7 j l p F g.1 g.2 h)
    grind
  grind
 ·rename_i t x Q l;split at w
  ·rename_i e p;split at w
   ·rename_i g;injection w with w;subst w;exact mk (Cu j l p g h)
   grind
  ·rename_i n e p;split at w
   ·rename_i g;injection w with w;subst w;exact mk (EF j l p g h)
   grind
  grind
 ·rename_i t x Q l;split at w
  ·rename_i p;injection w with w;subst w;exact mk (Ii j l p h)
  ·rename_i n e p;split at w
   ·rename_i g;injection w with w;subst w;exact mk (Ij j l p g.1 g.2 h)
   grind
  grind
 ·rename_i t x Q ok l;split at w
  ·rename_i k e p;cases A:cD P k with
   |none=>grind
   |some s=>
    rw[A,Option.bind_some]at w;cases B:fI P e with
    |none=>grind
    |some z=>grind [dH.cls,HV]
  grind
 ·rename_i t m k v l;split at w
  ·rename_i U e p;cases A:cD P U with
   |none=>grind
   |some s=>grind [dH.cls,HW]
  ·cases w
 ·rename_i x Q l;injection w with w;subst w;exact mk (GD j l h)
 ·rename_i x s T l;split at w;grind
  ·rename_i d p N;injection w with w;subst w;exact mk (Ik j l N O h)
  grind
 ·rename_i c l;split at w
  ·rename_i f g;split at w
   ·rename_i G;injection w with w;subst w;exact mk' (by simp[dH.cls]) (L9 j l g G h)
   ·injection w with w;subst w;exact mk' (by simp[dH.cls]) (NJ j l g h)
  ·rename_i x E g;injection w with w;subst w;exact mk' (by simp[dH.cls]) (NK j l g h)
  ·rename_i r name g;injection w with w;subst w;exact mk' (by simp[dH.cls]) (HY j l g h)
  ·rename_i g;split at w
   ·rename_i x e q u;injection w with w;subst w;exact mk (Ma j l g q u h)
   ·rename_i x q u;injection w with w;subst w;exact mk (Mb j l g q u h)
   ·rename_i x k e q u;injection w with w;subst w;exact mk' (by simp[dH.cls]) (Mc j l g q u h)
   grind
  ·rename_i g;split at w
   ·rename_i x y e d q u C;cases B:fI P e with
    |none=>grind
    |some z=>
     rw[B,Option.bind_some]at w;split at w
     ·rename_i L;injection w with w;subst w;exact mk' (by simp[dH.cls]) (Ic j l g q u C L.2.2.2.2 B L.1 L.2.1 L.2.2.1 L.2.2.2.1 h)
     grind
   grind
  ·rename_i g;split at w
   ·rename_i m k U e q u;cases A:cD P U with
    |none=>grind
    |some s=>grind [dH.cls,HX]
   grind
  ·rename_i g;split at w
   ·rename_i x e q u;cases B:fI P e with
    |none=>grind
    |some z=>
     rw[B,Option.bind_some]at w;split at w
     ·rename_i L;injection w with w;subst w;exact mk' (by simp[dH.cls]) (JV j l g q u B L h)
     grind
   grind
  ·rename_i g;injection w with w;subst w;exact mk (NL j l g h)
  ·rename_i g;injection w with w;subst w;exact mk (NM j l g h)
  grind
 ·cases w
theorem ap{α:Type}{o:Option α}{F G:α->Prop}(h:aE o F)(x:∀v,F v->G v):aE o G:=by cases o;exact h;exact x _ h
theorem bM{c F G:Prop}(h:dZ c F)(x:F->G):dZ c G:=⟨h.1,x h.2⟩
theorem Cv{F G:Bool->Prop}(h:xq v F)(x:∀b,F b->G b):xq v G:=by unfold xq at*;split at h;exact x _ h;omega
theorem jN{F G:List Value->Prop}:∀ {xs:List Operand},J8 ev xs F->(∀l,F l->G l)->J8 ev xs G:=by
 intro xs;induction xs generalizing F G with
 |nil=>intro h z;exact z _ h
 |cons x xs w=>intro h z;exact ap h Z
theorem Cw{F G:List Value->Prop}:∀ {r:List (Nat×Nat×Operand)} {z:List Value},xt ev z r F->(∀l,F l->G l)->xt ev z r G:=by
 intro r;induction r with
 |nil=>intro z h w;exact w _ h
 |cons p r n=>obtain⟨off,size,x⟩:=p;intro z h w;exact ap h fun v h=>bM h fun h=>n h w
theorem nP{F G:Nat->Nat->Prop}(h:tP v F)(x:∀b o,F b o->G b o):tP v G:=by obtain⟨b,o,rfl,h⟩:=fD h;exact x _ _ h
theorem hP{F G:Int->Prop}(h:xu v F)(x:∀b,F b->G b):xu v G:=by obtain⟨b,o,rfl,h⟩:=gh h;exact x _ h
theorem jO{F G:Option Addr->Nat->Nat->Prop}(h:nl v F)(x:∀a n c,F a n c->G a n c):nl v G:=by obtain⟨a,n,c,rfl,h⟩:=hO h;exact x _ _ _ h
theorem vL{v:Option Addr}{F G:Nat->Nat->Prop}(h:qq v F)(x:∀b o,F b o->G b o):qq v G:=by obtain⟨b,o,rfl,h⟩:=lE h;exact x _ _ h
theorem oU{F G:ByteArray->Prop}(h:iB v F)(x:∀b,F b->G b):iB v G:=by obtain⟨b,rfl,h⟩:=kZ h;exact x _ h
theorem Mj{F G:List Value->Prop}(h:Mk v F)(x:∀b,F b->G b):Mk v G:=by obtain⟨b,rfl,h⟩:=FU h;exact x _ h
theorem FV{F G:List Value->Prop}(h:J9 v F)(x:∀b,F b->G b):J9 v G:=by obtain⟨b,rfl,h⟩:=zk h;exact x _ h
theorem tA{F G:Option Nat->Prop}(h:zm v F)(x:∀b,F b->G b):zm v G:=by obtain⟨b,rfl,h⟩:=ju h;exact x _ h
theorem Ml{F G:Bool->Prop}(h:Ka v F)(x:∀b,F b->G b):Ka v G:=by
 rcases FW h with ⟨e,h⟩| ⟨t,u,e,h⟩<;>subst e<;>exact x _ h
theorem GF{T:TypeId}{F G:Value->Prop}(h:tB T v F)(z:∀b,F b->G b):tB T v G:=by obtain⟨b,e,x⟩:=xv h;subst e;exact⟨rfl,z _ x⟩
theorem vM{H:Hp}{size:Nat}{F G:Nat->List Value->Prop}(h:rowOf H size v F)(x:∀n l,F n l->G n l):rowOf H size v G:=by
 unfold rowOf at*;split at h
 ·rename_i a n c;cases z:n==0
  ·rw[z]at h;exact vL h fun b o h=>ap h fun l h=>bM h (x _ _)
  ·rw[z]at h;exact x _ _ h
 ·exact bM h (x _ _)
 omega
theorem Il{H:Hp}{F G:List UInt8->Prop}(h:rG H v F)(x:∀b,F b->G b):rG H v G:=by
 unfold rG at*;split at h
 ·exact vM h fun n l h=>ap h x
 omega
theorem jP{x:Option Operand}{d:Nat}{F G:Int->Prop}(h:nq ev x d F)(z:∀b,F b->G b):nq ev x d G:=by
 cases x with
 |none=>exact z _ h
 |some x=>exact ap h fun v h=>hP h z
theorem LA{K':Value->Hp->Prop}(i:dH)(z:i.cls= .pure)(h:i.vc P ev H K)(x:∀v J,K v J->K' v J):i.vc P ev H K':=by
 cases i<;>simp[dH.cls]at z<;>simp only[dH.vc]at h ⊢
 ·exact ap h fun v=>x _ _
 ·exact ap h fun v h=>Cv h fun b h=>ap h fun v=>x _ _
 ·exact Cw h fun l=>x _ _
 ·exact ap h fun v h=>bM h (x _ _)
 ·exact ap h fun v h=>ap h fun v h=>ap h fun v=>x _ _
 ·exact ap h fun v h=>ap h fun v=>x _ _
 ·exact ap h fun v h=>hP h fun v=>x _ _
 ·exact ap h fun v=>x _ _
 ·exact jN h fun l h=>jN h fun l=>x _ _
 ·exact ap h fun v h=>jO h fun a n c h=>jP h fun m h=>jP h fun m h=>jP h fun m h=>bM h (x _ _)
 ·exact ap h fun v h=>oU h fun s h=>jP h fun m h=>jP h fun m h=>bM h (x _ _)
 ·exact ap h fun v h=>nP h fun b o=>x _ _
 ·exact ap h fun v h=>FV h fun l h=>ap h fun v=>x _ _
 ·exact ap h fun v h=>ap h fun v h=>jO h fun a n c h=>hP h fun i h=>bM h fun h=>vL h fun b o=>x _ _
 ·exact ap h fun v h=>ap h fun v h=>nP h fun b o h=>hP h fun i h=>bM h (x _ _)
 ·exact ap h fun v h=>ap h fun v h=>oU h fun s h=>hP h fun i h=>bM h fun h=>ap h fun b=>x _ _
 ·exact ap h fun v h=>ap h fun v h=>FV h fun s h=>hP h fun i h=>bM h fun h=>ap h fun b=>x _ _
 ·exact ap h fun v h=>Mj h fun l h=>ap h fun v=>x _ _
 ·exact ap h fun v h=>jO h fun a n c=>x _ _
 ·exact ap h fun v h=>oU h fun s=>x _ _
 ·exact jN h fun l h=>ap h fun v=>x _ _
 ·exact jN h fun l h=>ap h fun v=>x _ _
 ·exact ap h fun v h=>GF h fun v=>x _ _
 ·exact ap h fun v h=>Ml h fun v=>x _ _
theorem NP(i:dH)(B:i.cls= .quiet)(h:i.vc P ev H K):∃v,i.vc P ev H (fun C J=>C=v/\J=H)/\K v H:=by
 cases i<;>simp[dH.cls]at B
 ·obtain⟨p,w,h⟩:=aB h;obtain⟨b,o,rfl,h⟩:=fD h;obtain⟨l,g,h⟩:=aB h;obtain⟨v,L,h⟩:=aB h;exact⟨v,by simp only[dH.vc,w,aE,tP,g,L,and_self],h⟩
 ·obtain⟨p,w,h⟩:=aB h;obtain⟨b,o,rfl,h⟩:=fD h;obtain⟨l,g,h⟩:=aB h;obtain⟨e,h⟩:=h.out;exact⟨_,by simp only[dH.vc,w,aE,tP,g,dZ,e,and_self],h⟩
 ·rename_i s z ok m k;obtain⟨p,w,h⟩:=aB h;obtain⟨q,u,h⟩:=aB h;obtain⟨r,rfl,h⟩:=ju h;obtain⟨e,h⟩:=h.out;cases r with
  |none=>exact⟨_,by simp only[dH.vc,w,u,aE,zm,dZ,e,AM,and_self],h⟩
  |some b=>
   obtain⟨x,f,h⟩:=aB h;obtain⟨y,A,h⟩:=aB h;exact⟨_,by simp only[dH.vc,w,u,aE,zm,dZ,e,AM,f,A,and_self],h⟩
 ·obtain⟨p,w,h⟩:=aB h;obtain⟨r,rfl,h⟩:=ju h;cases r with
  |none=>exact⟨_,by simp only[dH.vc,w,aE,zm,Im,and_self],h⟩
  |some b=>
   obtain⟨x,f,h⟩:=aB h;exact⟨_,by simp only[dH.vc,w,aE,zm,Im,f,and_self],h⟩
 ·obtain⟨p,w,h⟩:=aB h;have key:∃l,K (.string ⟨l.toArray⟩) H/\rG H p (fun l'=>l'=l):=by
   unfold rG at*;split at h
   ·rename_i a n c;unfold rowOf at*;simp only at*;cases e:n==0
    ·rw[e]at h;obtain⟨b,o,rfl,h⟩:=lE h;obtain⟨l,g,h⟩:=aB h;obtain⟨j,h⟩:=h.out;obtain⟨t,d,h⟩:=aB h;exact⟨t,h,by simp only[Cx,qq,aE,g,dZ,j,d,and_self]⟩
    ·rw[e]at h;have h:aE (bytesOf []) fun l=>K (.string ⟨l.toArray⟩) H:=h;obtain⟨t,d,h⟩:=aB h;exact⟨t,h,by simp only[Cx,aE,d]⟩
   ·grind
  obtain⟨l,j,T⟩:=key;refine⟨_,?_,j⟩;simp only[dH.vc,w,aE];grind
end
end
end Go.Vc
