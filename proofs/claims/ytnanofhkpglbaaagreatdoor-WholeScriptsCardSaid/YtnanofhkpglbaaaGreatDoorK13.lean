/- Texts put behind each other. -/
import Derived.Test.YtnanofhkpglbaaaGreatDoorK12
set_option linter.unusedSimpArgs false
set_option linter.unusedVariables false
set_option maxRecDepth 100000
set_option maxHeartbeats 80000000
namespace Go.Vc
section
variable{a:Act}{n:Nat}
abbrev tt(n:Nat):Operand:=.tmp n
abbrev ki(n:Int):Operand:=.const (.int .i64 n)
abbrev kb(b:Bool):Operand:=.const (.bool b)
abbrev s1(d:Nat)(op:dC):gh:=⟨false,none,some d,op⟩
abbrev s0(op:dC):gh:=⟨false,none,none,op⟩
abbrev sg(g:Nat)(w:Bool)(d:Nat)(op:dC):gh:=⟨false,some (g,w),some d,op⟩
abbrev sq(d:Nat)(op:dC):gh:=⟨true,none,some d,op⟩
abbrev sqg(g:Nat)(w:Bool)(d:Nat)(op:dC):gh:=⟨true,some (g,w),some d,op⟩
inductive S where
 |skip
 |bQ(ops:List gh)(aW:List Nat)
 |EN(t:IP)(aW:List Nat)
 |seq(a b:S)
 |cond(c:Operand)(x y:S)
 |Gb(id:Nat)(b:S)
 |loop(adR:List Nat)(b:S)
 |exit(id:Nat)
 |ret
 |bad
 deriving Inhabited
def ba(F:Env->Hp->(Env->Hp->Prop)->Prop)(env:Env)(H:Hp)(_t:Tag F:=⟨⟩):Prop:=
 ∃I:Nat->Env->Hp->Prop,(∃m,I m env H)/\∀m env H,I m env H->F env H fun h J=>∃x,x<m/\I x h J
theorem ba.intro{F:Env->Hp->(Env->Hp->Prop)->Prop}{env:Env}{H:Hp}(I:Nat->Env->Hp->Prop)(m:Nat)(z:I m env H)
  (round:∀m env H,I m env H->F env H fun h J=>∃x,x<m/\I x h J):ba F env H:=⟨I,⟨m,z⟩,round⟩
def vc(P:Program):S->Env->Hp->(Env->Hp->Prop)->(Nat->Env->Hp->Prop)->(Env->Hp->Prop)->Prop
 | .skip,env,H,Kn,_,_=>Kn env H
 | .bQ ops w,env,H,Kn,_,_=>ic P (fun z J=>now (Env.aW z w) fun e=>Kn e J) ops env H
 | .EN t w,env,H,Kn,_,_=>di H fun Inv=>ze P Inv (fun z J=>now (Env.aW z w) fun e=>Kn e J) t env H
 | .seq a b,env,H,Kn,Kx,Kr=>vc P a env H (fun z J=>vc P b z J Kn Kx Kr) Kx Kr
 | .cond c x y,env,H,Kn,Kx,Kr=>CA (Env.ev env c) fun t=>Cz t (vc P x env H Kn Kx Kr) (vc P y env H Kn Kx Kr)
 | .Gb id b,env,H,Kn,Kx,Kr=>vc P b env H Kn (fun i z J=>Cz (i==id) (Kn z J) (Kx i z J)) Kr
 | .loop L b,env,H,_,Kx,Kr=>ba (fun z J again=>vc P b z J (fun e h=>again (Env.aW e L) h) Kx Kr) (Env.aW env L) H
 | .exit id,env,H,_,Kx,_=>Kx id env H
 | .ret,env,H,_,_,Kr=>Kr env H
 | .bad,_,_,_,_,_=>False
section
variable (P : Program) (env : Env) (H : Hp) (Kn : Env → Hp → Prop) (Kx : Nat → Env → Hp → Prop) (Kr : Env → Hp → Prop)
@[go_sem ↓] theorem Ra:vc P .skip env H Kn Kx Kr=Kn env H:=(rfl)
@[go_sem ↓] theorem abk(ops:List gh)(x:List Nat):vc P (.bQ ops x) env H Kn Kx Kr=ic P (fun h J=>now (Env.aW h x) fun e=>Kn e J) ops env H:=(rfl)
@[go_sem ↓] theorem ZZ(t:IP)(x:List Nat):vc P (.EN t x) env H Kn Kx Kr=di H fun Inv=>ze P Inv (fun h J=>now (Env.aW h x) fun e=>Kn e J) t env H:=(rfl)
@[go_sem ↓] theorem TD(a b:S):vc P (.seq a b) env H Kn Kx Kr=vc P a env H (fun x J=>vc P b x J Kn Kx Kr) Kx Kr:=(rfl)
@[go_sem ↓] theorem Rb(c:Operand)(x y:S):vc P (.cond c x y) env H Kn Kx Kr=CA (Env.ev env c) fun t=>Cz t (vc P x env H Kn Kx Kr) (vc P y env H Kn Kx Kr):=(rfl)
@[go_sem ↓] theorem TE(id:Nat)(b:S):vc P (.Gb id b) env H Kn Kx Kr=vc P b env H Kn (fun i x J=>Cz (i==id) (Kn x J) (Kx i x J)) Kr:=(rfl)
@[go_sem ↓] theorem Z0(L:List Nat)(b:S):vc P (.loop L b) env H Kn Kx Kr=ba (fun x J again=>vc P b x J (fun e h=>again (Env.aW e L) h) Kx Kr) (Env.aW env L) H:=(rfl)
@[go_sem ↓] theorem Z1(id:Nat):vc P (.exit id) env H Kn Kx Kr=Kx id env H:=(rfl)
@[go_sem ↓] theorem abl:vc P .bad env H Kn Kx Kr=False:=(rfl)
@[go_sem ↓] theorem abm:vc P .ret env H Kn Kx Kr=Kr env H:=(rfl)
end
attribute [go_sem] cond_true cond_false
abbrev iu:=List Nat×List Nat×List Nat
def CC:Nat->List Nat->Option (Ot×List Nat)
 |0,_=>none
 |_+1,0::r=>some (.done,r)
 |f+1,1::i::r=>match CC f r with
  |some (t,r)=>some (.step i t,r)
  |none=>none
 |f+1,2::i::r=>match CC f r with
  |some (t,r)=>match CC f r with
   |some (u,r)=>some (.eR i t u,r)
   |none=>none
  |none=>none
 |_+1,3::r=>some (.stop,r)
 |_+1,_=>none
def nF(P:Program)(n:Nat):Code->List iu->Option (S×List iu)
 | .skip,an=>some (.skip,an)
 | .region _ ops draw,an=>
  match an with
  | []=>none
  | (h,q,x::z)::an=>
   match gC P n ops q 0 ops.toList with
   |none=>none
   |some ss=>
    match CC (z.length+2) (x::z)with
    |some (t,[])=>
     if draw=true/\xn ops (Region.before ops)=true/\QF ops (Region.before ops) (IQ ss) t (Array.replicate ops.size false) []=true/\Region.noSelect ops=true then(attach ss t).map fun w=>(.EN w h,an)else none
    |_=>none
  | (h,q,[])::an=>
   match gC P n ops q 0 ops.toList with
   |none=>none
   |some ss=>
    if draw=false\/(xn ops (Region.before ops)=true/\to ops (Region.before ops) (OK ss)=true/\Region.noSelect ops=true)then some (.bQ ss h,an)else none
 | .seq a b,an=>
  match nF P n a an with
  |none=>none
  |some (x,an)=>match nF P n b an with
   |none=>none
   |some (y,an)=>some (.seq x y,an)
 | .cond c a b,an=>
  match nF P n a an with
  |none=>none
  |some (x,an)=>match nF P n b an with
   |none=>none
   |some (y,an)=>some (.cond c x y,an)
 | .block id a,an=>match nF P n a an with
  |none=>none
  |some (x,an)=>some (.Gb id x,an)
 | .loop a,an=>
  match an with
  | []=>none
  | (L,_,_)::an=>match nF P n a an with
   |none=>none
   |some (x,an)=>some (.loop L x,an)
 | .exit id,an=>some (.exit id,an)
 | .ret,an=>some (.ret,an)
 | .refuse _,an=>some (.bad,an)
 |_,_=>none
theorem wp_loop_ghost{P:Program}{Q:Exit->Act->World->Prop}{w:World}{c:Code}(I:Nat->Act->World->Prop){m:Nat}(u:I m a w)
  (round:∀m a w,I m a w->c.wp P (Exit.then (fun v w'=>∃t,t<m/\I t v w') Q) a w):(Code.loop c).wp P Q a w:=by
 intro b k cs;have key:∀n a w,I n a w->∃e v w',Q e v w'/\Arrives P (lone (b.at a (.code c:: .inLoop c::k)) cs w) b k cs e v w':=by
  intro n;induction n using Nat.strongRecOn with
  |_ n B=>
   intro a w d;obtain⟨e,g,y,z,h⟩:=round n a w d b (.inLoop c::k) cs;cases e with
   |normal=>
    obtain⟨t,o,p⟩:=z;obtain⟨j,r,L,f,q⟩:=B t o g y p;exact⟨j,r,L,f,.of_steps (Steps.trans h (.one step_inLoop)) q⟩
   |exit id=>exact⟨_,g,y,z,.pass (x:=.inLoop c) rfl Z h⟩
   |goto l=>exact⟨_,g,y,z,.pass (x:=.inLoop c) rfl Z h⟩
   |ret=>exact⟨_,g,y,z,.pass (x:=.inLoop c) rfl Z h⟩
   |panic A=>exact⟨_,g,y,z,.pass (x:=.inLoop c) rfl Z h⟩
   |outgrown=>exact⟨_,g,y,z,.pass (x:=.inLoop c) rfl Z h⟩
 obtain⟨e,v,w',z,h⟩:=key _ a w u;exact⟨e,v,w',z,.of_steps (.one step_loop) h⟩
theorem IS{P:Program}(hm:P.follows .mixedOrders=true):∀ (c:Code) (an:List iu) (s:S) (A:List iu),nF P n c an=some (s,A)->
  ∀ (env:Env) (a:Act) (w:World) (Kn:Env->Hp->Prop) (Kx:Nat->Env->Hp->Prop) (Kr:Env->Hp->Prop) (Q:Exit->Act->World->Prop),Holds env a n->vc P s env w.heap Kn Kx Kr->
   (∀g l w',bH w w'->Holds g l n->Kn g w'.heap->Q .normal l w')->
   (∀i g l w',bH w w'->Holds g l n->Kx i g w'.heap->Q (.exit i) l w')->
   (∀g l w',bH w w'->Holds g l n->Kr g w'.heap->Q .ret l w')->c.wp P Q a w:=by
 intro c;induction c with
 |skip=>
  intro an s A z env a w Kn Kx Kr Q d h f B u;simp only[nF,alg,Prod.mk.injEq]at z;obtain⟨rfl,rfl⟩:=z;exact wp_skip (f env a w (bH.refl w) d h)
 |region id ops draw=>
  intro an s A z env a w Kn Kx Kr Q d h f B u;unfold nF at z;split at z
  ·cases z
  ·rename_i U q x tr E;split at z
   ·cases z
   ·rename_i ss M;split at z
    ·rename_i t ht;split at z
     ·rename_i hc;obtain⟨rfl,G,V,h3⟩:=hc;cases hts:attach ss t with
      |none=>grind
      |some ts=>
       rw[hts]at z;simp only[Option.map_some,alg,Prod.mk.injEq]at z;obtain⟨rfl,rfl⟩:=z;have D:∀k,ops.toList[k]? =ops[0+k]? :=fun k=>by simp
       have X:∀l w',bH w w'->(∃g,Holds g l n/\Kn (Env.aW g U) w'.heap)->Q .normal l w':=fun l w' p ⟨g,o,j⟩=>f _ l w' p (o.aW U) j;have TF:=KL (P:=P) (ops:=ops) (n:=n) ops.toList 0 ss D M;obtain⟨Inv,hI,h⟩:=h;have h4:=IR (P:=P) (ops:=ops) (n:=n) (q:=q) (Inv:=Inv) (ss:=ss) Z t ts hts env a w.heap d h;grind [CD,KM]
     grind
    grind
  ·rename_i U q E;split at z
   ·cases z
   ·rename_i ss M;split at z
    ·rename_i Xs;simp only[alg,Prod.mk.injEq]at z;obtain⟨rfl,rfl⟩:=z;have D:∀k,ops.toList[k]? =ops[0+k]? :=fun k=>by simp
     have X:∀l w',bH w w'->(∃g,Holds g l n/\Kn (Env.aW g U) w'.heap)->Q .normal l w':=fun l w' p ⟨g,o,j⟩=>f _ l w' p (o.aW U) j;cases draw with
     |false=>
      have G:=KJ (P:=P) (ops:=ops) (n:=n) ops.toList 0 ss D M env a w.heap d h;refine CE (K:=fun l J=>∃g,Holds g l n/\Kn (Env.aW g U) J) X ?_;rw[List.range_eq_range'];simpa[KM]using G
     |true=>
      obtain⟨G,V,h3⟩:=Xs.resolve_left (by simp);have h4:=KK (P:=P) (ops:=ops) (n:=n) (cls:=OK ss) ops.toList 0 ss D M (fun k s j=>by simp[OK,j]) env a w.heap d h;refine CF (K:=fun l J=>∃g,Holds g l n/\Kn (Env.aW g U) J) hm G V h3 X ?_;rw[List.range_eq_range'];simpa[KM]using h4
    grind
 |seq x y ihx ihy=>
  intro an s A z env a w Kn Kx Kr Q d h f B u;unfold nF at z;split at z
  ·cases z
  ·rename_i W F N;split at z
   ·cases z
   ·rename_i sy an2 hdy;simp only[alg,Prod.mk.injEq]at z;obtain⟨rfl,rfl⟩:=z;refine wp_seq (ihx an W F N env a w _ Kx Kr _ d h ?_ ?_ ?_)
    ·intro g l w' p o j;exact ihy F sy _ hdy g l w' Kn Kx Kr Q o j (fun e b v T=>f e b v (p.trans T)) (fun i e b v T=>B i e b v (p.trans T)) (fun e b v T=>u e b v (p.trans T))
    ·intro i g l w' p o j;exact B i g l w' p o j
    ·intro g l w' p o j;exact u g l w' p o j
 |cond c x y ihx ihy=>
  intro an s A z env a w Kn Kx Kr Q d h f B u;unfold nF at z;split at z
  ·cases z
  ·rename_i W F N;split at z
   ·cases z
   ·rename_i sy an2 hdy;simp only[alg,Prod.mk.injEq]at z;obtain⟨rfl,rfl⟩:=z;rw[Rb]at h;unfold CA at h;split at h
    ·rename_i v hv;obtain⟨b,C,V⟩:=vt h;subst C;have hc:=d.rj _ _ hv;refine wp_cond_split hc (fun C=>?_) (fun C=>?_)
     ·subst C;exact ihx an W F N env a w Kn Kx Kr Q d V f B u
     ·subst C;exact ihy F sy _ hdy env a w Kn Kx Kr Q d V f B u
    grind
 |block id x ih=>
  intro an s A z env a w Kn Kx Kr Q d h f B u;unfold nF at z;split at z
  ·cases z
  ·rename_i W F N;simp only[alg,Prod.mk.injEq]at z;obtain⟨rfl,rfl⟩:=z;refine wp_block (ih an W _ N env a w Kn _ Kr _ d h (fun e b v p o j=>f e b v p o j) ?_ (fun e b v p o j=>u e b v p o j));intro i g l w' p o j;show if i=id then Q .normal l w' else Q (.exit i) l w'
   by_cases e:i=id
   ·subst e;simp only[beq_self_eq_true,Cz]at j;grind
   ·have:(i==id)=false:=by simpa using e
    simp only[this,Cz]at j;grind
 |loop x ih=>
  intro an s A z env a w Kn Kx Kr Q d h f B u;unfold nF at z;split at z
  ·cases z
  ·rename_i L q tr E;split at z
   ·cases z
   ·rename_i W F N;simp only[alg,Prod.mk.injEq]at z;obtain⟨rfl,rfl⟩:=z;obtain⟨I,⟨m,h0⟩,round⟩:=h;refine wp_loop_ghost (fun m l w'=>bH w w'/\∃g,Holds g l n/\I m g w'.heap) ⟨bH.refl w,_,d.aW L,h0⟩ ?_;rintro m l w' ⟨p,g,o,hI⟩;refine ih E W _ N g l w' _ Kx Kr _ o (round m g w'.heap hI) ?_ ?_ ?_
    ·rintro e b v T C ⟨m',iD,hI'⟩;exact⟨m',iD,p.trans T,_,C.aW L,hI'⟩
    ·intro i e b v T C j;exact B i e b v (p.trans T) C j
    ·intro e b v T C j;exact u e b v (p.trans T) C j
 |exit id=>
  intro an s A z env a w Kn Kx Kr Q d h f B u;simp only[nF,alg,Prod.mk.injEq]at z;obtain⟨rfl,rfl⟩:=z;exact wp_exit (B id env a w (bH.refl w) d h)
 |ret=>
  intro an s A z env a w Kn Kx Kr Q d h f B u;simp only[nF,alg,Prod.mk.injEq]at z;obtain⟨rfl,rfl⟩:=z;exact wp_ret (u env a w (bH.refl w) d h)
 |refuse r=>
  intro an s A z env a w Kn Kx Kr Q d h f B u;simp only[nF,alg,Prod.mk.injEq]at z;obtain⟨rfl,rfl⟩:=z;exact h.elim
 |_=>intro an s A z;simp[nF]at z
inductive TG where
 |tmp(t:Nat)
 |one(t:Nat)
 |agg(t n:Nat)
 deriving Inhabited
structure Fn where
 np:Nat
 VZ:List TG
 body:S
 deriving Inhabited
def oN(env:Env)(H:Hp):List TG->(List Value->Prop)->Prop
 | [],F=>F []
 | .tmp t::r,F=>aF (Env.find env t) fun v=>oN env H r fun vs=>F (v::vs)
 | .one t::r,F=>aF (Env.find env t) fun p=>tI p fun b o=>aF (H.rd b) fun l=>aF l[o]? fun v=>oN env H r fun vs=>F (v::vs)
 | .agg t n::r,F=>aF (Env.find env t) fun p=>tI p fun b o=>aF (H.rd b) fun l=>dW (o+n<=l.length) (oN env H r fun vs=>F (.agg ((l.drop o).take n).toArray::vs))
@[go_sem ↓] theorem Xt(env:Env)(H:Hp)(F:List Value->Prop):oN env H [] F=F []:=(rfl)
@[go_sem ↓] theorem Xu(env:Env)(H:Hp)(t:Nat)(r:List TG)(F:List Value->Prop):oN env H (.tmp t::r) F=aF (Env.find env t) fun v=>oN env H r fun vs=>F (v::vs):=(rfl)
@[go_sem ↓] theorem Xv(env:Env)(H:Hp)(t:Nat)(r:List TG)(F:List Value->Prop):
  oN env H (.one t::r) F=aF (Env.find env t) fun p=>tI p fun b o=>aF (H.rd b) fun l=>aF l[o]? fun v=>oN env H r fun vs=>F (v::vs):=(rfl)
@[go_sem ↓] theorem Xw(env:Env)(H:Hp)(t n:Nat)(r:List TG)(F:List Value->Prop):
  oN env H (.agg t n::r) F=aF (Env.find env t) fun p=>tI p fun b o=>aF (H.rd b) fun l=>dW (o+n<=l.length) (oN env H r fun vs=>F (.agg ((l.drop o).take n).toArray::vs)):=(rfl)
def Cd:List Value->Value
 | [v]=>v
 |vs=>.tuple vs.toArray
@[go_sem] theorem Z2(v:Value):Cd [v]=v:=(rfl)
@[go_sem] theorem Z3:Cd []= .tuple [].toArray:=(rfl)
@[go_sem] theorem Z4(v u:Value)(r:List Value):Cd (v::u::r)= .tuple (v::u::r).toArray:=(rfl)
def iE:Nat->List Value->Env
 |_,[]=>[]
 |i,v::r=>(i,v)::iE (i+1) r
@[go_sem] theorem SJ(i:Nat):iE i []=[]:=(rfl)
@[go_sem] theorem Rc(i:Nat)(v:Value)(r:List Value):iE i (v::r)=(i,v)::iE (i+1) r:=(rfl)
def Fn.vc(P:Program)(F:Fn)(args:List Value)(H:Hp)(K:Value->Hp->Prop):Prop:=
 args.length=F.np/\Go.Vc.vc P F.body (iE 0 args) H (fun env H=>oN env H F.VZ fun vs=>K (Cd vs) H) (fun _ _ _=>False) (fun env H=>oN env H F.VZ fun vs=>K (Cd vs) H)
def j9(P:Program):List ResultVar->Option (List TG)
 | []=>some []
 | .tmp t::r=>(j9 P r).map (.tmp t:: ·)
 | .cell t T::r=>if(P.info? T).isSome/\(P.underlying T).isSome then(j9 P r).map ((if eu P T then .agg t (P.cellsOf T)else .one t):: ·)else none
def jj(P:Program)(f:FuncId)(an:List iu):Option Fn:=
 match P.funcs[f]? with
 |none=>none
 |some fn=>
  match fn.body with
  |none=>none
  |some c=>
   match nF P fn.ntmps c an with
   |some (s,[])=>if fn.params.size<=fn.ntmps then(j9 P fn.results.toList).map fun rs=>⟨fn.params.size,rs,s⟩else none
   |_=>none
def zf(tmps:Array Value):ResultVar->Sem Value
 | .tmp t=>pure (tmps.getD t undef)
 | .cell p t=>do loadVar t (<-asAddr (tmps.getD p undef))
theorem xo{P:Program}{w:World}{env:Env}(j:Holds env a n):∀ (rs:List ResultVar) (l:List TG) (F:List Value->Prop),j9 P rs=some l->oN env w.heap l F->
  ∃vs,F vs/\(rs.mapM (zf a.tmps)).run P w= .ok vs w:=by
 intro rs;induction rs with
 |nil=>intro l F x h;simp only[j9,alg]at x;subst x;exact⟨[],h,rfl⟩
 |cons r rs u=>
  intro l F x h;cases r with
  |tmp t=>
   unfold j9 at x;cases z:j9 P rs with
   |none=>grind
   |some l'=>
    rw[z]at x;simp only[Option.map_some,alg]at x;subst x;obtain⟨v,f,h⟩:=aC h;obtain⟨vs,m,c⟩:=u l' _ z h;have e:a.tmps.getD t undef=v:=by simp[j.xk t v f]
    exact⟨v::vs,m,by rw[List.mapM_cons];simp only[zf,Sem.run_bind,Sem.run_pure,Result.andThen_ok,e,c]⟩
  |cell t T=>
   unfold j9 at x;split at x
   ·rename_i y;cases z:j9 P rs with
    |none=>grind
    |some l'=>
     rw[z]at x;simp only[Option.map_some,alg]at x;subst x;cases g:eu P T
     ·rw[g]at h;obtain⟨p,q,h⟩:=aC h;obtain⟨b,o,rfl,h⟩:=fz h;obtain⟨lb,d,h⟩:=aC h;obtain⟨v,f,h⟩:=aC h;obtain⟨vs,m,c⟩:=u l' _ z h;have e:a.tmps.getD t undef= .pointer (some ⟨b,o,none⟩):=by simp[j.xk t _ q]
      exact⟨v::vs,m,by rw[List.mapM_cons];simp only[zf,Sem.run_bind,Sem.run_pure,Result.andThen_ok,e,asAddr,(iG y.1 y.2 d).2 g v f,c]⟩
     ·rw[g]at h;obtain⟨p,q,h⟩:=aC h;obtain⟨b,o,rfl,h⟩:=fz h;obtain⟨lb,d,h⟩:=aC h;obtain⟨B,h⟩:=h.out;obtain⟨vs,m,c⟩:=u l' _ z h;have e:a.tmps.getD t undef= .pointer (some ⟨b,o,none⟩):=by simp[j.xk t _ q]
      exact⟨_,m,by rw[List.mapM_cons];simp only[zf,Sem.run_bind,Sem.run_pure,Result.andThen_ok,e,asAddr,(iG y.1 y.2 d).1 g B,c]⟩
   grind
theorem Gc:∀ (args:List Value) (i k:Nat) (v:Value),Env.find (iE i args) k=some v->i<=k/\args[k - i]? =some v:=by
 intro args;induction args with
 |nil=>intro i k v h;cases h
 |cons x r z=>
  intro i k v h;simp only[iE,Env.find]at h;constructor<;>grind
theorem IT{P:Program}(hm:P.follows .mixedOrders=true){f:FuncId}{an:List iu}{F:Fn}(z:jj P f an=some F){args:List Value}{H:Hp}{K:Value->Hp->Prop}
  (h:F.vc P args H K):dO P f args H K:=by
 unfold jj at z;split at z
 ·cases z
 ·rename_i fn u;split at z
  ·cases z
  ·rename_i c o;split at z
   ·rename_i s C;split at z
    ·rename_i N;cases g:j9 P fn.results.toList with
     |none=>rw[g]at z;cases z
     |some rs=>
      rw[g]at z;simp only[Option.map_some,alg]at z;subst z;obtain⟨L,h⟩:=h;simp only at L h;intro w T;subst T;refine calls_of_wp u o ?_;have B:Holds (iE 0 args) {tmps:=args.toArray++Array.replicate (fn.ntmps - args.toArray.size) undef,defers:=[]} fn.ntmps:=by
       refine⟨Z,rfl,fun k v n=>?_⟩;obtain⟨_,p⟩:=Gc args 0 k v n;have Q:k<args.length:=by
        rcases al1 k args.length with t|t
        ·exact t
        ·grind
       rw[Array.getElem?_append_left O];simpa using p
      have j:∀a l w',bH w w'->Holds a l fn.ntmps->oN a w'.heap rs (fun vs=>K (Cd vs) w'.heap)->
        l.defers=[]/\∃v,(results fn l.tmps).run P w'= .ok v w'/\(∃d,Ending.returned v=Ending.returned d/\bH w w'/\K d w'.heap):=by
       intro a l w' e m n;obtain⟨vs,q,A⟩:=xo (P:=P) m fn.results.toList rs _ g n;refine⟨m.defers,Cd vs,?_,_,rfl,e,q⟩;change (do let vs <-fn.results.mapM (zf l.tmps);pure (if h:vs.size=1 then vs[0]else .tuple vs):Sem Value).run P w'=_;rw[Array.mapM_eq_mapM_toList];simp only[Sem.run_bind,Sem.run_map,A,Result.andThen_ok,Sem.run_pure];congr 1;cases vs with
       |nil=>rfl
       |cons x r=>cases r with
        |nil=>rfl
        |cons y r=>rfl
      refine IS hm c an s [] C _ _ w _ _ _ _ B h ?_ ?_ ?_
      ·exact fun a l w' e m n=>j a l w' e m n
      ·grind
      ·exact fun a l w' e m n=>j a l w' e m n
    ·cases z
   ·cases z
end
section
variable{H J:Hp}{xs:List Value}{n size b c s:Nat}{v:Value}{i:Int}
theorem wrap64{n:Int}(h: -9223372036854775808<=n)(z:n<=9223372036854775807):IntKind.i64.wrap n=n:=by
 have e:(2^IntKind.i64.bits:Int)=18446744073709551616:=rfl;have x:(2^ (IntKind.i64.bits - 1):Int)=9223372036854775808:=rfl;unfold IntKind.wrap;simp only[e,x,IntKind.signed,Bool.true_and,amv];omega
theorem eG{n:Int}(x:0<=n)(h:n<=18446744073709551615):IntKind.u64.wrap n=n:=by
 have e:(2^IntKind.u64.bits:Int)=18446744073709551616:=rfl;unfold IntKind.wrap;simp only[e,IntKind.signed,Bool.false_and];grind
theorem ON{n:Int}(x:0<=n)(h:n<=255):IntKind.u8.wrap n=n:=by
 have e:(2^IntKind.u8.bits:Int)=256:=rfl;unfold IntKind.wrap;simp only[e,IntKind.signed,Bool.false_and];grind
theorem Cf{n:Int}(x:0<=n)(h:n<=4294967295):IntKind.u32.wrap n=n:=by
 have e:(2^IntKind.u32.bits:Int)=4294967296:=rfl;unfold IntKind.wrap;simp only[e,IntKind.signed,Bool.false_and];grind
def Sl(H:Hp)(size:Nat)(v:Value)(n:Nat)(xs:List Value)(fp:Option Nat):Prop:=
 xs.length=n*size/\
 match fp with
 |none=>n=0/\v= .slice none 0 0
 |some b=>∃l c,v= .slice (some ⟨b,0,none⟩) n c/\H.own b=some l/\n<=c/\c*size<=l.length/\l.take (n*size)=xs
theorem Sl.nil(H:Hp)(size:Nat):Sl H size (.slice none 0 0) 0 [] none:=⟨by simp,rfl,rfl⟩
theorem Sl.ext{fp:Option Nat}{S:Nat->Prop}(h:Sl H size v n xs fp)(e:aj S H J)(m:∀b,fp=some b->¬S b):Sl J size v n xs fp:=by
 obtain⟨a,h⟩:=h;refine⟨a,?_⟩;cases fp with
 |none=>exact h
 |some b=>
  obtain⟨l,c,x,z,w⟩:=h;exact⟨l,c,x,e.own z (m b rfl),w⟩
theorem Sl.lt(h:Sl H size v n xs (some b)):b<H.size:=by
 obtain⟨_,l,c,_,x,_⟩:=h;exact aB x
theorem Sl.lit(H:Hp)(T:TypeId)(size n:Nat)(xs:List Value)(x:xs.length=n*size):Sl (H.new T xs) size (.slice (some ⟨H.size,0,none⟩) n n) n xs (some H.size):=
 ⟨x,xs,n,rfl,am H T xs,alj _,O,Z⟩
theorem Sl.bs{T:TypeId}(h:xs.length=n*size)(x:b=H.size):Sl (H.new T xs) size (.slice (some ⟨b,0,none⟩) n n) n xs (some b):=
 x▸Sl.lit H T size n xs h
def bD(H:Hp)(size:Nat)(v:Value)(n:Nat)(xs:List Value):Prop:=
 xs.length=n*size/\((n=0/\∃a c,v= .slice a 0 c)\/∃b o c l,v= .slice (some ⟨b,o,none⟩) n c/\H.rd b=some l/\o+n*size<=l.length/\(l.drop o).take (n*size)=xs)
theorem Sl.rd{fp:Option Nat}(h:Sl H size v n xs fp):bD H size v n xs:=by
 obtain⟨w,h⟩:=h;refine⟨w,?_⟩;cases fp with
 |none=>grind
 |some b=>
  obtain⟨l,c,x,z,a,m,e⟩:=h;refine .inr ⟨b,0,c,l,x,ae z,?_,Z⟩;grind
theorem bD.rowOf{F:Nat->List Value->Prop}(h:bD H size v n xs)(x:F n xs):rowOf H size v F:=by
 obtain⟨y,⟨rfl,a,c,rfl⟩| ⟨b,o,c,l,rfl,m,e,g⟩⟩:=h
 ·have:xs=[]:=Z;subst this;exact x
 ·by_cases z:n=0
  ·subst z;have:xs=[]:=Z;subst this;exact x
  ·have w:(n==0)=false:=by simpa using z
   show Cz (n==0) _ _;rw[w];show aF (H.rd b) _;rw[m];exact⟨e,Z⟩
theorem bD.ext{S:Nat->Prop}(h:bD H size v n xs)(e:aj S H J)(a:∀b,b<H.size->¬S b):bD J size v n xs:=by
 obtain⟨z,h| ⟨b,o,c,l,rfl,x,w⟩⟩:=h
 ·exact⟨z,.inl h⟩
 ·exact⟨z,.inr ⟨b,o,c,l,rfl,e.rd x (a b (Ge x)),w⟩⟩
theorem bD.fresh(h:bD H size v n xs)(e:af H J):bD J size v n xs:=h.ext e fun _ _ h=>h
theorem AP{l new:List Value}{p:Nat}(z:l.take p=xs)(h:xs.length=p)(x:p+new.length<=l.length):(aQ l p new).take (p+new.length)=xs++new:=by
 apply alB;grind [getElem?_splice]
theorem Sl.append{T bytes m:Nat}{z:List Value}{s x:Value}{v:List Value}{fp:Option Nat}{K:Value->Hp->Prop}(h:Sl H size s n xs fp)(w:bD H size x m v)
  (U:z.length=size)(f:dK v)(V:(n+m)*bytes<=2^47)
  (y:∀p J g,Sl J size p (n+m) (xs++v) g->aj (fun b=>fp=some b) H J->(g=fp\/∃b,g=some b/\H.size<=b/\b<J.size)->K p J):
  eh T size bytes z s x H K:=by
 obtain⟨a,h⟩:=h;have key:∀base c,s= .slice base n c->(∀b,base=some b->fp≠none)->eh T size bytes z s x H K:=by
  intro base c N G;subst N;refine bD.rowOf w (F:=fun m new=>(n+m<=c->m=0->K (.slice base n c) H)/\
   (n+m<=c->m≠0->p9 base fun b o=>aF (EO (H.own b) (H.wQ b)) fun l=>dW (o+(n+m)*size<=l.length/\dK new) (K (.slice base (n+m) c) (H.wr b (aQ l (o+n*size) new))))/\
   (c<n+m->Builtin.nextslicecap (n+m) c*bytes<=2^48/\
    rowOf H size (.slice base n c) fun _ W=>∀c',n+m<=c'->K (.slice (some ⟨H.size,0,none⟩) (n+m) c') (H.new T (W++new++dm z (c' - (n+m)))))) ?_
  refine⟨fun t hm=>?_,fun t hm=>?_,fun C=>⟨?_,?_⟩⟩
  ·subst hm;have Q:v=[]:=alI.1 (by have:=w.1;omega);subst Q;exact y _ _ fp (by rw[alE];exact⟨O,h⟩) (aj.refl _ _) (.inl rfl)
  ·cases fp with
   |none=>
    obtain⟨rfl,r⟩:=h;injection r with j q d;omega
   |some b=>
    obtain⟨l,c',r,e,u,B,L⟩:=h;injection r with j q d;subst j;subst d;show aF (EO (H.own b) (H.wQ b)) _;rw[e];have I:=amd size t;refine⟨⟨O,f⟩,?_⟩;rw[ak7];refine y _ _ (some b) ⟨by simp[a,w.1,amo],_,c,rfl,ah e,t,by rw[ew];exact B,?_⟩ ((aj.refl (fun x=>some b=some x) H).wr (fun _=>rfl) _) (.inl rfl);have:=AP (new:=v) L a (by rw[w.1];grind);rw[w.1]at this;grind
  ·have e:Builtin.nextslicecap (n+m) c<=2*(n+m):=nextslicecap_le C;have u:=amd bytes e;grind
  ·refine bD.rowOf (n:=n) (xs:=xs) (Sl.rd (fp:=fp) ⟨a,h⟩) ?_;intro c' A;refine y _ _ (some H.size) ⟨by simp[a,w.1,amo],_,c',rfl,am _ _ _,A,?_,?_⟩ ((aj.refl _ _).new _ _) (.inr ⟨_,rfl,alj _,by rw[ag];omega⟩)
   ·simp only[alm,a,w.1,rz,U];rw[<-amo,<-amo];grind
   ·rw[show(n+m)*size=(xs++v).length by simp[a,w.1,amo]];grind
 grind
theorem tq(l:List Value)(i n:Nat)(x:Value):(l.set i x).take n=(l.take n).set i x:=by
 apply alB;grind
theorem Sl.nG{l:List Value}(h:Sl H 1 (.slice (some ⟨s,0,none⟩) n c) n xs (some s))(w:H.own s=some l)(i:Nat)(x:Value):
  Sl (H.wr s (l.set i x)) 1 (.slice (some ⟨s,0,none⟩) n c) n (xs.set i x) (some s):=by
 obtain⟨g,l',c',e,z,a,y,m⟩:=h;rw[w]at z;injection z with z;subst z;injection e with _ _ v;subst v;exact⟨Z,_,c,rfl,ah w,a,Z,by rw[tq,m]⟩
theorem Sl.get{l:List Value}(h:Sl H size (.slice (some ⟨s,0,none⟩) n c) n xs (some s))(e:H.own s=some l){i:Nat}{x:Value}(y:xs[i]? =some x):l[i]? =some x:=by
 obtain⟨z,l',c',g,w,a,m,v⟩:=h;grind
def nH(es:List MapEntry)(i:Int):Option Value:=(es.find? fun e=>match e.key with| .int .i64 j=>i==j|_=>false).map (·.val)
def xp(es:List MapEntry):Prop:=∃ks:List Int,es.map (·.key)=ks.map (Value.int .i64)/\ks.Nodup
def ke(H:Hp)(b:Nat)(f:Int->Option Value):Prop:=∃es k,H.mp b=some (es,k)/\xp es/\∀i,nH es i=f i
theorem ke.new(H:Hp):ke H.gD H.size (fun _=>none):=⟨[],0,GX H,⟨[],rfl,amy⟩,fun _=>rfl⟩
theorem ke.ext{f:Int->Option Value}{S:Nat->Prop}(h:ke H b f)(e:aj S H J)(w:¬S b):ke J b f:=by
 obtain⟨es,k,x,z⟩:=h;exact⟨es,k,e.mp x w,z⟩
theorem ke.lt{f:Int->Option Value}(h:ke H b f):b<H.size:=by
 obtain⟨es,k,x,z⟩:=h;exact Mf x
theorem k8(e:MapEntry)(es:List MapEntry)(j i:Int)(x:e.key= .int .i64 j):nH (e::es) i=if i=j then some e.val else nH es i:=by
 grind [nH]
theorem vu{e:MapEntry}{es:List MapEntry}(h:xp (e::es)):∃j,e.key= .int .i64 j/\xp es/\∀x∈es,x.key≠ .int .i64 j:=by
 obtain⟨ks,z,w⟩:=h;cases ks with
 |nil=>grind
 |cons j ks=>
  simp only[alM,List.cons.injEq]at z;rw[alo]at w;refine⟨j,z.1,⟨ks,z.2,w.2⟩,fun x a l=>w.1 ?_⟩;have hm:x.key∈es.map (·.key):=Z;grind
theorem zg(i:Int):∀ (es:List MapEntry),xp es->∀n:Nat,
  (nH es i=none/\fG .int (.int .i64 i) es n=some none)\/
  ∃j e,es[j]? =some e/\e.key= .int .i64 i/\nH es i=some e.val/\fG .int (.int .i64 i) es n=some (some (n+j,e.val)):=by
 intro es;induction es with
 |nil=>grind [fG,nH]
 |cons e es t=>
  intro h n;obtain⟨j,x,g,d⟩:=vu h;have y:tJ .int (.int .i64 i) e.key=some (decide (i=j)):=by rw[x];simp[tJ,cH]
  by_cases z:i=j
  ·subst z;refine .inr ⟨0,e,rfl,x,by rw[k8 e es i i x,if_pos rfl],?_⟩;unfold fG;grind
  ·have a:fG .int (.int .i64 i) (e::es) n=fG .int (.int .i64 i) es (n+1):=by
    rw[fG,y,alc z]
   have m:nH (e::es) i=nH es i:=by rw[k8 e es j i x,if_neg z]
   rw[a,m];rcases t g (n+1)with ⟨c,w⟩| ⟨k,l,c,w,v,r⟩
   ·grind
   ·exact .inr ⟨k+1,l,Z,w,v,Z⟩
theorem ke.look{f:Int->Option Value}(h:ke H b f)(i:Int)(F:Option Value->Prop):uJ H .int (some b) (.int .i64 i) F=F (f i):=by
 obtain⟨es,k,l,a,x⟩:=h;unfold uJ;simp only[l,ly];rcases zg i es a 0 with ⟨z,w⟩| ⟨j,e,z,w,n,m⟩
 ·rw[w,<-x i,z];rfl
 ·rw[m,<-x i,n];rfl
def GY(f:Int->Option Value)(i:Int)(v:Value):Int->Option Value:=fun j=>if j=i then some v else f j
def KN(f:Int->Option Value)(i:Int):Int->Option Value:=fun j=>if j=i then none else f j
theorem IU(es:List MapEntry)(e:MapEntry)(i j:Int)(x:e.key= .int .i64 j)(h:nH es j=none):nH (es++[e]) i=if i=j then some e.val else nH es i:=by
 grind [nH]
theorem MW{es:List MapEntry}(h:nH es i=none):∀e∈es,e.key≠ .int .i64 i:=by
 intro e x z;unfold nH at h;simp only[Option.map_eq_none_iff,List.find?_eq_none]at h;grind
theorem GZ{es:List MapEntry}(h:xp es)(j:Nat)(e:MapEntry)(l:es[j]? =some e)(v:Value)(i:Int)(a:e.key= .int .i64 i):
  xp (es.modify j fun x=>{x with key:=.int .i64 i,val:=v}):=by
 obtain⟨ks,z,w⟩:=h;refine⟨ks,?_,w⟩;rw[<-z];apply alB;grind
theorem IV:∀ (es:List MapEntry),xp es->∀ (j:Nat) (e:MapEntry) (v:Value) (i:Int),es[j]? =some e->e.key= .int .i64 i->∀n,
  nH (es.modify j fun x=>{x with key:=.int .i64 i,val:=v}) n=if n=i then some v else nH es n:=by
 intro es;induction es with
 |nil=>grind
 |cons x es a=>
  intro h j e v i m l n;obtain⟨q,z,w,c⟩:=vu h;cases j with
  |zero=>
   grind [k8]
  |succ j=>
   rw[List.modify_succ_cons,k8 x _ q n z,k8 x es q n z,a w j e v i Z l n];grind
theorem KO:∀ (es:List MapEntry),xp es->∀ (j:Nat) (e:MapEntry) (i:Int),es[j]? =some e->e.key= .int .i64 i->xp (es.eraseIdx j)/\∀n,nH (es.eraseIdx j) n=if n=i then none else nH es n:=by
 intro es;induction es with
 |nil=>grind
 |cons x es t=>
  intro h j e i p c;have r:=h;obtain⟨q,f,m,v⟩:=vu h;cases j with
  |zero=>
   grind [nH]
  |succ j=>
   obtain⟨a,d⟩:=t m j e i Z c;have hm:e∈es:=Z;have u:q≠i:=Z;refine⟨?_,fun n=>?_⟩
   ·obtain⟨ks,z,w⟩:=a;refine⟨q::ks,Z,?_⟩;rw[alo];refine⟨fun o=>?_,w⟩;have:Value.int .i64 q∈(es.eraseIdx j).map (·.key):=by rw[z];exact Z
    obtain⟨y,g,l⟩:=alQ.1 this;exact v y (List.mem_of_mem_eraseIdx g) l
   grind [k8]
theorem G0(n:Nat)(i:Int):Instr.sameBits (n+1) (.int .i64 i) (.int .i64 i)=true:=by simp[Instr.sameBits]
theorem ke.TH{f:Int->Option Value}(h:ke H b f){F:Hp->Prop}(p:∀J,ke J b (GY f i v)->aj (fun x=>x=b) H J->F J):
  OO H .int b (.int .i64 i) v F:=by
 obtain⟨es,k,l,z,C⟩:=h;unfold OO;simp only[l,ly];have d:∀t q,aj (fun x=>x=b) H (H.AO b t q):=fun t q=>(aj.refl (fun x=>x=b) H).AO (fun _=>rfl) _ _;rcases zg i es z 0 with ⟨m,w⟩| ⟨j,e,m,w,T,B⟩
 ·rw[w];refine⟨rfl,p _ ⟨_,_,jQ l,?_,fun n=>?_⟩ (d _ _)⟩
  ·obtain⟨ks,g,o⟩:=z;refine⟨ks++[i],by simp[Ix,g],?_⟩;rw[alK];refine⟨o,by simp,fun a N c r L=>?_⟩;simp only[alv]at r;subst r;subst L;have:Value.int .i64 a∈es.map (·.key):=by rw[g];exact Z
   obtain⟨y,A,u⟩:=alQ.1 this;exact MW m y A u
  grind [GY,Ix.eq_2,IU]
 ·rw[B];refine⟨?_,p _ ⟨_,_,jQ l,GZ z _ e Z _ _ w,fun n=>?_⟩ (d _ _)⟩
  ·grind [Ca,G0]
  ·rw[Ix,ak7,IV es z j e v i m w n];unfold GY;grind
theorem ke.del{f:Int->Option Value}(h:ke H b f){F:Hp->Prop}(v:∀J,ke J b (KN f i)->aj (fun x=>x=b) H J->F J):
  TI H .int b (.int .i64 i) F:=by
 obtain⟨es,k,z,w,d⟩:=h;unfold TI;simp only[z,ly];have c:∀a g,aj (fun x=>x=b) H (H.AO b a g):=fun a g=>(aj.refl (fun x=>x=b) H).AO (fun _=>rfl) _ _;rcases zg i es w 0 with ⟨m,l⟩| ⟨j,e,m,l,p,t⟩
 ·rw[l];refine v _ ⟨_,_,jQ z,w,fun n=>?_⟩ (c _ _);grind [KN,Cr.eq_2]
 ·rw[t];obtain⟨y,r⟩:=KO es w j e i m l;refine v _ ⟨_,_,jQ z,by rw[Cr,ak7];exact y,fun n=>?_⟩ (c _ _);grind [KN,Cr.eq_1]
end
section
variable {P : Program} {ev : Ev} {H : Hp} {K K' : Value → Hp → Prop}
theorem KP{s:Shape}{r:Option Nat}{k:Value}{F G:Option Value->Prop}(h:uJ H s r k F)(z:∀x,F x->G x):uJ H s r k G:=by
 unfold uJ at*;cases r with
 |none=>exact z _ h
 |some b=>exact ap h fun m h=>ap h fun x=>z _
theorem G1{T size bytes:Nat}{z:List Value}{s x:Value}(h:eh T size bytes z s x H K)(g:∀v J,K v J->K' v J):eh T size bytes z s x H K':=by
 refine jN h fun base n c h=>vr h fun m new h=>?_;obtain⟨y,e,w⟩:=h;exact⟨Z,fun a b=>vq (e a b) fun b o h=>ap h fun l h=>bL h (g _ _),fun a=>⟨(w a).1,vr (w a).2 Z⟩⟩
theorem CG(i:dC)(h:i.vc P ev H K)(z:∀v J,K v J->K' v J):i.vc P ev H K':=by
 cases w:i.cls with
 |pure=>exact Md i w h z
 |quiet=>
  cases i<;>simp[dC.cls]at w<;>simp only[dC.vc]at h ⊢
  ·exact ap h fun v h=>nE h fun b o h=>ap h fun l h=>ap h fun v=>z _ _
  ·exact ap h fun v h=>nE h fun b o h=>ap h fun l h=>bL h (z _ _)
  ·exact ap h fun v h=>ap h fun v h=>tm h fun r h=>bL h fun h=>KP h fun x=>z _ _
  ·refine ap h fun v h=>tm h fun r h=>?_;unfold IM at*;cases r with
   |none=>exact z _ _ h
   |some b=>exact ap h fun m=>z _ _
  ·exact ap h fun v h=>IL h fun l=>z _ _
 |EK=>
  cases i<;>simp[dC.cls]at w<;>simp only[dC.vc]at h ⊢
  ·exact ap h fun v=>z _ _
  ·exact z _ _ h
  ·exact Cy h fun l=>z _ _
  ·exact ap h fun v h=>nE h fun b o h=>ap h fun v h=>ap h fun l h=>bL h fun h=>bL h fun h=>bL h (z _ _)
  ·grind
  ·exact ap h fun v h=>ap h fun v h=>hZ h fun n h=>hZ h fun c h=>bL h (z _ _)
  ·exact ap h fun v h=>ap h fun v h=>ap h fun v h=>tm h fun r h=>ap h fun b h=>bL h fun h=>ap h fun es h=>ap h fun x h=>bL h (z _ _)
  ·exact jM h fun l h=>dO.mono h z
  ·refine ap h fun v h=>jM h fun l h=>?_;unfold Tw at*;split at h
   ·exact⟨h.1,h.2.mono z⟩
   omega
  ·refine ap h fun v h=>jM h fun l h=>?_;obtain⟨T,v,f,rv,e,hm,w⟩:=h;exact⟨T,v,f,rv,e,hm,w.mono z⟩
  ·exact ap h fun v h=>ap h fun v h=>G1 h z
  ·exact ap h fun v h=>ap h fun v h=>tm h fun r h=>ap h fun b h=>bL h fun h=>ap h fun es h=>ap h fun x=>z _ _
  ·exact ap h fun v h=>jN h fun a n c h=>by
    rcases h with ⟨g,y⟩| ⟨g,b,o,l,y,t,j,d,p⟩
    ·exact .inl ⟨g,z _ _ y⟩
    ·exact .inr Z
  ·refine ap h fun v h=>?_;unfold iB at*;split at h
   ·exact fun c w=>z _ _ (h c w)
   omega
  ·exact jM h fun l h=>by obtain⟨v,g,y⟩:=h;exact⟨v,g,z _ _ y⟩
theorem IW(s:gh)(h:s.vc P ev H K)(x:∀v J,K v J->K' v J):s.vc P ev H K':=by
 unfold gh.vc at*;cases z:s.quiet
 ·rw[z]at h;exact CG s.op h x
 grind
theorem Mh{o:Option Value}{F x:Bool->Prop}{N N':Prop}(h:gV o F N)(z:∀b,F b->x b)(w:N->N'):gV o x N':=by
 rcases Cb h with ⟨b,rfl,h⟩| ⟨vs,rfl,h⟩
 ·exact z b h
 ·exact w h
theorem xq{b:Bool}{A A' B B':Prop}(h:Cz b A B)(x:A->A')(z:B->B'):Cz b A' B':=by
 cases b
 ·exact z h
 ·exact x h
theorem KQ{F z:Env->Hp->Prop}(a:∀e H,F e H->z e H):∀ (l:List gh) (env:Env) (H:Hp),ic P F l env H->ic P z l env H:=by
 intro l;induction l with
 |nil=>intro env H h;exact a _ _ h
 |cons s l x=>
  intro env H h;unfold ic at h ⊢;cases w:s.guard with
  |none=>rw[w]at h;exact IW s h fun v J=>x _ _
  |some g=>
   rw[w]at h;exact Mh h (fun b h=>xq h (fun h=>IW s h fun v J=>x _ _) (x _ _)) (x _ _)
theorem zh{s:gh}{env:Env}{F x N N':Env->Prop}(h:xl s env F N)(w:∀e,F e->x e)(z:∀e,N e->N' e):xl s env x N':=by
 unfold xl at*;cases l:s.guard with
 |none=>grind
 |some g=>rw[l]at h;exact Mh h (fun b h=>xq h (w _) (z _)) (z _)
theorem OP{Inv:Hp->Prop}{F z:Env->Hp->Prop}(a:∀e H,F e H->z e H):∀ (t:IP) (env:Env) (H:Hp),ze P Inv F t env H->ze P Inv z t env H:=by
 intro t;induction t with
 |done=>intro env H h;exact a _ _ h
 |stop=>intro env H h;trivial
 |Cc s t x=>intro env H h;exact zh h (fun e h=>CG s.op h fun v J=>x _ _) (fun e=>x _ _)
 |QE s t x=>intro env H h;exact zh h (fun e h=>by obtain⟨v,w,l⟩:=h;exact⟨v,w,x _ _ l⟩) (fun e=>x _ _)
 |eR s t r x n=>intro env H h;exact⟨zh h.1 (fun e h=>CG s.op h fun v J h=>bL h (x _ _)) (fun e=>x _ _),n _ _ h.2⟩
theorem AQ:∀ (s:S) (env:Env) (H:Hp) (Kn n:Env->Hp->Prop) (Kx v:Nat->Env->Hp->Prop) (Kr Oa:Env->Hp->Prop),(∀e H,Kn e H->n e H)->(∀i e H,Kx i e H->v i e H)->(∀e H,Kr e H->Oa e H)->
  vc P s env H Kn Kx Kr->vc P s env H n v Oa:=by
 intro s;induction s with
 |skip=>intro env H Kn n Kx v Kr Oa z l w h;exact z _ _ h
 |bQ ops f=>intro env H Kn n Kx v Kr Oa z l w h;exact KQ (fun e H h=>z _ _ h) ops env H h
 |EN t f=>intro env H Kn n Kx v Kr Oa z l w h;obtain⟨Inv,g,h⟩:=h;exact⟨Inv,g,OP (fun e H h=>z _ _ h) t env H h⟩
 |seq a b d p=>intro env H Kn n Kx v Kr Oa z l w h;exact d env H _ _ _ _ _ _ (fun e H h=>p e H _ _ _ _ _ _ z l w h) l w h
 |cond c x y q o=>
  intro env H Kn n Kx v Kr Oa z l w h;simp only[vc]at*;unfold CA at*;split at h
  ·exact Cx h fun b h=>xq h (q _ _ _ _ _ _ _ _ z l w) (o _ _ _ _ _ _ _ _ z l w)
  omega
 |Gb id b r=>intro env H Kn n Kx v Kr Oa z l w h;exact r env H _ _ _ _ _ _ z (fun i e H h=>xq h (z _ _) (l _ _ _)) w h
 |loop L b r=>
  intro env H Kn n Kx v Kr Oa z l w h;obtain⟨I,j,round⟩:=h;exact⟨I,j,fun m env H g=>r env H _ _ _ _ _ _ (fun e H h=>h) l w (round m env H g)⟩
 |exit id=>intro env H Kn n Kx v Kr Oa z l w h;exact l _ _ _ h
 |ret=>intro env H Kn n Kx v Kr Oa z l w h;exact w _ _ h
 |bad=>intro env H Kn n Kx v Kr Oa z l w h;exact h.elim
def jc(a b:S):S:=.seq a b
theorem iH(a b:S)(env:Env)(H:Hp)(Kn:Env->Hp->Prop)(Kx:Nat->Env->Hp->Prop)(Kr:Env->Hp->Prop):vc P (jc a b) env H Kn Kx Kr=vc P a env H (fun x J=>vc P b x J Kn Kx Kr) Kx Kr:=rfl
theorem ez{a b:S}{env:Env}{H:Hp}{Kn:Env->Hp->Prop}{Kx:Nat->Env->Hp->Prop}{Kr:Env->Hp->Prop}(M:Env->Hp->Prop)(x:vc P a env H M Kx Kr)(z:∀e J,M e J->vc P b e J Kn Kx Kr):vc P (jc a b) env H Kn Kx Kr:=
 AQ a env H _ _ _ _ _ _ z (fun _ _ _ h=>h) (fun _ _ h=>h) x
end
section
variable{P:Program}{name:String}{T:TypeId}{H:Hp}
def G2(P:Program)(T:TypeId)(name:String):Option (List FieldStep×Option (FuncId×Bool)):=
 ((P.info? T).bind fun i=>i.methods.find? (·.name==name)).map fun m=>(m.path.toList,m.func)
theorem rA{p:List FieldStep}{f:Option (FuncId×Bool)}(h:G2 P T name=some (p,f)):
  ∃i m,P.info? T=some i/\i.methods.find? (·.name==name)=some m/\m.path.toList=p/\m.func=f:=by
 unfold G2 at h;cases hi:P.info? T with
 |none=>grind
 |some i=>
  simp_all
def SK(P:Program)(T:TypeId)(name:String):Option FuncId:=
 match G2 P T name,P.underlying T with
 |some ([],some (f,true)),some (.pointer _)=>if eQ P f then some f else none
 |_,_=>none
theorem aZ{v:Value}{f:FuncId}(h:SK P T name=some f):OQ P H T v name f v:=by
 unfold SK at h;split at h
 ·rename_i y e n g;split at h
  ·rename_i c;injection h with h;subst h;refine⟨c,fun w t=>?_⟩;obtain⟨i,m,x,z,l,a⟩:=rA n;show(method ((P.types.size+99)+1) T v name).run P w=_;unfold method;simp[et x,z,l,a,follow,receiverAt,run_underlying g,Place.get]
  grind
 grind
def Mi(P:Program)(T:TypeId)(name:String):Option (Nat×FuncId):=
 match G2 P T name with
 |some ([s],some (f,true))=>
  match s.deref,P.underlying s.struct with
  |true,some (.struct h)=>
   match h[s.index]? with
   |some x=>match P.underlying x.type with
    |some (.pointer _)=>if(P.info? x.type).isSome/\P.cellsOf x.type≠0/\eQ P f=true then some (x.offset,f)else none
    |_=>none
   |none=>none
  |_,_=>none
 |_=>none
theorem A5{x:Field}(hi:(P.info? x.type).isSome=true)(h:P.cellsOf x.type≠0)(a:Addr)(w:World):(fieldPlace a x).run P w= .ok (a.add x.offset) w:=by
 simp[fieldPlace,bF hi,h]
theorem cz{b o off:Nat}{l:List Value}{rv:Value}{f:FuncId}(h:Mi P T name=some (off,f))(q:H.rd b=some l)(L:l[o+off]? =some rv):
  OQ P H T (.pointer (some ⟨b,o,none⟩)) name f rv:=by
 unfold Mi at h;split at h
 ·rename_i s C y;split at h
  ·rename_i F j u;split at h
   ·rename_i z d;split at h
    ·rename_i e a;split at h
     ·rename_i x;simp only[alg,Prod.mk.injEq]at h;obtain⟨rfl,rfl⟩:=h;refine⟨x.2.2,fun w A=>?_⟩;subst A;obtain⟨i,m,n,c,v,g⟩:=rA y;have B:(P.underlying z.type).isSome=true:=by rw[a];rfl
      have r:eu P z.type=false:=by unfold eu;rw[a]
      have p:=(iG (P:=P) (w:=w) (t:=z.type) x.1 B q).2 r rv L;show(method ((P.types.size+99)+1) T _ name).run P w=_;unfold method;simp[et n,c,v,g,follow,run_underlying u,d,j,Place.get,asAddr,A5 x.1 x.2.1,receiverAt,run_underlying a,vp,p]
     grind
    grind
   grind
  grind
 grind
theorem Xx{a:Addr}{x:Nat×FuncId}{cap:Array Value}(h:Mi P T name=some x):MX P (.func (.method name) #[.iface T (.pointer (some a))] cap):=by
 unfold Mi at h;split at h
 ·rename_i s t v;split at h
  ·rename_i j e y;split at h
   ·rename_i r g;refine .inr ⟨name,T,_,cap,rfl,fun w=>?_⟩;obtain⟨i,m,z,l,n,c⟩:=rA v;show(nilAhead ((P.types.size+99)+1) T _ name).run P w=_;unfold nilAhead;simp[et z,l,n,c,followBlind,run_underlying y,g,e]
   grind
  grind
 grind
theorem fL.mono{recv:Value}{args:List Value}{K K':Value->Hp->Prop}(h:fL P recv name args H K)(l:∀v J,K v J->K' v J):fL P recv name args H K':=by
 obtain⟨T,v,f,rv,x,z,w⟩:=h;exact⟨T,v,f,rv,x,z,w.mono l⟩
end
end Go.Vc
