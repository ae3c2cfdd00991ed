/-Lemmas.-/
import Derived.Test.YtojgbkiejjingaaGreatDoorV2
set_option linter.all false
section
namespace Go.Dl
open Go Go.RowKit
variable{vs:List Value}{M':Mem}{N:Nat->Prop}{v:Value}
theorem SA{M:Mem}{x:I}(h:Rep M x v)(hf:IP.flat1 x=true):Rep M' x v:=by cases x<;>simp[IP.flat1]at hf<;>cases h<;>constructor
theorem Wp{M:Mem}{xs:List I}(h:Ak M xs vs)(hf:xs.all IP.flat1=true):Ak M' xs vs:=
 ⟨h.1,fun j a b=>SA (h.2 j a b) (by rw[Zcu]at hf;exact hf _ (Zef _))⟩
theorem gi{M:Mem}{x:I}(h:Rep M x v)(hf:IP.flat2 x=true):Rep M' x v:=by
 cases x with
 |agg cs=>obtain⟨vs,rfl,hl⟩:=h.agg_inv;exact Rep.agg' (Wp hl hf)
 |_=>first|(simp[IP.flat2]at hf;done)|exact SA h rfl
theorem gj{M:Mem}{x:I}(h:Rep M x v)(hf:IP x=true):Rep M' x v:=by
 cases x with
 |agg cs=>obtain⟨vs,rfl,hl⟩:=h.agg_inv;exact Rep.agg' (Wp hl hf)
 |tup cs=>obtain⟨vs,rfl,hl⟩:=h.tup_inv;refine Rep.tup' ⟨hl.1,fun j a b=>gi (hl.2 j a b) ?_⟩;grind[IP]
 |_=>first|(simp[IP]at hf;done)|exact SA h rfl
section
variable {P:Program}{GL:List (Nat×List I)}{n:Nat}{S:Sh}{M:Mem}{μ:Place}{st:St}{a:Act}{w:World}{K:St->Prop}{Q:Exit->Act->World->Prop}{o:Oper}{d:Nat}
theorem J6{f:FuncId}(h:Ck P f=true)(args:Array Value):(callFunc f args).run P w=.ok (.enter f args) w:=by
 unfold Ck at h;rw[Zbz]at h;replace h:=h.2;split at h
 ·rename_i fn hf;simp only[Zbz,bne_iff_ne,Zaj]at h;have hb:fn.body≠none:=by grind
  simp[callFunc,hf,h.1,hb]
 ·cases h
def GM(f:FuncId)(vs:Array Value):Sem Next:=if Nat.blt f 1000000000=true then callFunc f vs else Instr.yield (f-1000000000) vs
theorem SB{f:FuncId}{vs:Array Value}{R:Value->World->Prop}{nx:Act->World->Prop}(qd:(execOp a.eval o).run P w=(GM f vs).run P w)(h:KO P f vs w R)(hn:∀v w',R v w'->nx (a.put o.dst v) w'):
  o.wpX P a w nx Q:=by
 unfold Oper.wpX;rw[qd];rcases h with⟨h1,h2⟩|⟨hy,row,h1,h2⟩|⟨hy,v,w',h1,h2⟩|⟨hy,fn,tmps,as,bd,h1,h2⟩
 ·have hy:Nat.blt f 1000000000=true:=by unfold Ck at h1;rw[Zbz]at h1;exact h1.1
  rw[show GM f vs=callFunc f vs from Zaa hy,J6 h1];refine(Oper.uponIn_enter ..).mpr ⟨fun hh=>(by simp[Fence.wide]at hh),callsIn_wide.2 (h2.mono ?_)⟩;rintro e w' ⟨v,rfl,hR⟩;exact hn v w' hR
 ·rw[show GM f vs=callFunc f vs from Zaa hy,h1];refine(Oper.uponIn_row ..).mpr ⟨fun hh=>(by simp[Fence.wide]at hh),fun c cs _=>?_⟩;obtain⟨v,w',r,s⟩:=(h2.mono hn) c cs;exact⟨v,w',r,stepsIn_wide.2 s⟩
 ·rw[show GM f vs=callFunc f vs from Zaa hy,h1];exact hn v w' h2
 ·rw[show GM f vs=Instr.yield (f-1000000000) vs from Zac (by rw[hy];simp),h1];refine(Oper.uponIn_round ..).mpr ⟨fun hh=>(by simp[Fence.wide]at hh),h2.mono ?_⟩;rintro e w' ⟨v,rfl,hR⟩;exact hn v w' hR
theorem J7:∀{l:List (Nat×Blk)} {s:List (Nat×Blk)},Be l s->∀m b,Aa l m=some b->Aa s m=some b
 |[],s,_,m,b,h=>by cases h
 |(k,d)::r,s,h,m,b,hb=>by
  simp only[Aa]at hb;split at hb
  ·rename_i e;subst e;cases hb;exact h.1
  ·exact J7 h.2 m b hb
theorem E1{l:List (Nat×Blk)}{ns:List Nat}(h:Oe l ns=true):∀m∈ns,names l m:=fun m hm=>by simp only[Oe,Zcu]at h;exact h m hm
theorem I4{T:List (Nat×Blk)}:∀{l:List (Nat×Blk)},PW T l=true->∀m b,Aa l m=some b->∀q∈b.nms,names T q
 |[],_,m,cs,h=>by cases h
 |(k,c)::r,hh,m,b,hb=>by
  simp only[PW,Zbz]at hh;simp only[Aa]at hb;split at hb
  ·cases hb;exact E1 hh.1
  ·exact I4 hh.2 m b hb
theorem Wq:∀{l:List (Nat×D)} {e:Env},Oj l e->∀s,Cv l s=.any\/Cv l s=Aj e s
 |[],e,_,s=>.inl rfl
 |(m,d)::r,e,h,s=>by
  simp only[Cv];split
  ·rename_i e;subst e;exact .inr h.1.symm
  ·exact Wq h.2 s
theorem Wr{T:List (Nat×Blk)}:∀{l:List (Nat×D)},clE T l=true->∀s,∀q∈(Cv l s).nms,names T q
 |[],_,s=>fun q hq=>by simp[Cv,D.nms]at hq
 |(m,d)::r,h,s=>by
  simp only[clE,Zbz]at h;simp only[Cv];split
  ·exact E1 h.1
  ·exact Wr h.2 s
theorem StoOk.less{M:Mem}{μ:Place}{sto sto':List (Nat×Blk)}{w:World}(h:StoOk S M μ sto w)(hs:Be sto' sto)(hc:PW sto' sto'=true):StoOk S M μ sto' w where
 sub:=h.sub
 blk:=fun nm b hb=>(h.blk nm b (J7 hs nm b hb)).mono (Mem.le_refl _) rfl (fun m hm _=>⟨I4 hc nm b hb m hm,rfl⟩) (fun _ _ _=>rfl) (fun _ _ _=>Mem.same_refl _ _)
 sep:=fun m m' k k' jg h1 h2=>by
  refine h.sep m m' k k' jg ?_ ?_
  ·obtain⟨x,hx⟩:=Zhi.1 h1;simp[names,J7 hs m x hx]
  ·obtain⟨x,hx⟩:=Zhi.1 h2;simp[names,J7 hs m' x hx]
 low:=h.low
theorem Rel.sub' {M:Mem}{μ:Place}{st st':St}{a:Act}{w:World}(h:Rel GL n S M μ st a w)(hs:Sub st' st):Rel GL n S M μ st' a w:=by
 unfold Sub at hs;split at hs
 ·rename_i es he;obtain⟨h1,h2,h3,h4⟩:=hs;refine{toStoOk:=h.toStoOk.less h2 h4,small:=h.small,pin:=h.pin,defers:=h.defers,size:=h.size,env:=fun s=>?_,glob:=h.glob};rw[he];simp only[Aj];rcases Wq h1 s with e|e
  ·rw[e];trivial
  ·have:=Wr h3 s;rw[e]at this⊢;exact(h.env s).mono' (Mem.le_refl _) fun q hq _=>⟨this q hq,rfl⟩
 ·exact hs.elim
theorem SC{N':Nat->Prop}{xs:List D}(h:Db M μ N xs vs)(hn:∀x∈xs,∀q∈x.nms,N' q):Db M μ N' xs vs:=
 ⟨h.1,fun j a b=>(h.2 j a b).mono' (Mem.le_refl _) fun q hq _=>⟨hn _ (Zef a) q hq,rfl⟩⟩
theorem SD(h:Rel GL n S M μ st a w){get:St->Option (FuncId×List D)}(hd:∀d,o.dst=some d->d<n)(hn:n<=999)
  (ki:∀(M1:Mem) (st1:St),Rel GL n S M1 μ st1 a w->∀f ds,get st1=some (f,ds)->∃vs:Array Value,Db M1 μ (names st1.sto) ds vs.toList/\(execOp a.eval o).run P w=(GM f vs).run P w)
  (hs:Ah P GL get st o.dst K):o.wpX P a w (Aw GL n S M w K) Q:=by
 obtain⟨l,hs⟩:=hs;obtain⟨M1,h1,m1⟩:=h.frzNs l;cases hg:get (frzNs l st)with
 |none=>simp[hg]at hs
 |some p=>
  obtain⟨f,ds⟩:=p;simp only[hg]at hs;obtain⟨vs,jr,qd⟩:=ki M1 _ h1 f ds hg;have hd9:o.dst.getD 999<1000:=by
   cases e:o.dst with
   |none=>simp
   |some d=>have:=hd d e;simp only[Zhh];exact Zgy this (by omega)
  rcases hs with hs|hs|hs
  ·obtain⟨sto,mv,R,hmc,kh,vw,j9,w7,hR⟩:=hs;have hands:∀m b,Aa sto m=some b->Aa (frzNs l st).sto m=some b:=J7 kh;have hhand:=h1.toStoOk.hand (sto:=sto) hands (fun m b hm q hq=>I4 vw m b hm q hq);have jz:=SC jr (N':=names sto) (fun x hx=>by rw[Zcu]at j9;exact E1 (j9 x hx));refine SB qd (hmc M1 μ w vs hhand h1.glob jz) ?_;rintro v w' ⟨r,sto',M',μ',hr,q1,q2,q3,q4,q5⟩;obtain⟨hfr,wm,hK⟩:=hR r sto' hr;obtain⟨μ2,h2,m2,k2,hret⟩:=h1.afterCall hd9 hands q1 q3 q4 q5 (fun m hm=>by
    have:=hfr m (Cl.2 hm);exact this) (fun m hm hp=>by
    rw[Zcu]at w7;have:=w7 m hm;unfold pinned at hp;simp only[Zcb,Zgp,Zgo]at this;omega) (fun m h1 h2=>wm m (Cl.2 h1) h2)
   refine⟨_,hK,M',μ2,?_,m1.trans m2,k2⟩;cases e:o.dst with
   |none=>simp only[e]at h2⊢;exact h2
   |some s=>simp only[e,Zhh]at h2 hret⊢;exact h2.put (hd s e) (hret r v q2)
  ·obtain⟨R,hmc,j9,hR⟩:=hs;have hempty:StoOk (AL μ [] w) M1 μ [] w:={sub:=h1.sub,blk:=fun m b hb=>(by cases hb),sep:=fun m m' k k' _ hm=>(by simp[names,Aa]at hm),low:=fun b hb=>hb.1};have jz:=SC jr (N':=names []) (fun x hx=>by rw[Zcu]at j9;exact E1 (j9 x hx));refine SB qd (hmc M1 μ w vs hempty h1.glob jz) ?_;rintro v w' ⟨r,sto',M',μ',hr,q1,q2,q3,q4,q5⟩;obtain⟨y,rfl,hflat,hK⟩:=hR r sto' hr;have hk:∀k,k<w.heap.size->w'.heap[k]? =w.heap[k]? :=fun k hk=>q4.block k ⟨hk,fun m hm=>by simp[names,Aa]at hm⟩
   have h2:Rel GL n S M μ st a w':=h.of (h.toStoOk.world q4.size hk) (Mem.le_refl _) fun _ _ hv=>hv
   have hy:Rep M y v:=gj q2 hflat;refine⟨_,hK,M,μ,?_,MExt.refl _ _,q4.mono fun k hk=>⟨h.low k hk,fun m hm=>by simp[names,Aa]at hm⟩⟩;cases e:o.dst with
   |none=>exact h2
   |some s=>exact h2.put (hd s e) (AJ hy)
  ·obtain⟨sto,mv,R,hmc,kh,vw,j9,w7,hR⟩:=hs;have hands:∀m b,Aa sto m=some b->Aa (frzNs l st).sto m=some b:=J7 kh;have hhand:=h1.toStoOk.hand (sto:=sto) hands (fun m b hm q hq=>I4 vw m b hm q hq);have jz:=SC jr (N':=names sto) (fun x hx=>by rw[Zcu]at j9;exact E1 (j9 x hx));refine SB qd (hmc M1 μ w vs hhand h1.glob jz) ?_;rintro v w' ⟨r,sto',M',μ',hr,q1,q2,q3,q4,q5⟩;obtain⟨hfr,wm,y,s',rfl,xh,hK⟩:=hR r sto' hr;obtain⟨μ2,h2,m2,k2,hret⟩:=h1.afterCall hd9 hands q1 q3 q4 q5 (fun m hm=>by
    have:=hfr m (Cl.2 hm);exact this) (fun m hm hp=>by
    rw[Zcu]at w7;have:=w7 m hm;unfold pinned at hp;simp only[Zcb,Zgp,Zgo]at this;omega) (fun m h1 h2=>wm m (Cl.2 h1) h2)
   refine⟨_,hK,M',μ2,?_,m1.trans m2,k2⟩;cases e:o.dst with
   |none=>simp only[e]at h2 xh⊢;exact h2.sub' xh
   |some s=>simp only[e,Zhh]at h2 hret xh⊢;exact(h2.sub' xh).put (hd s e) (AJ q2)
theorem Ws(h:Rel GL n S M μ st a w){f:FuncId}{args:Array Operand}{tys:Array TypeId}{os:List O}(hfy:Nat.blt f 1000000000=true)(ho:o.op=.call {callee:=.value (.func f),args:=args,argTypes:=tys})
  (hd:∀d,o.dst=some d->d<n)(hn:n<=999)(hx:args.toList.mapM (cO GL)=some os)(hs:step P GL (.call o.dst f os) st K):o.wpX P a w (Aw GL n S M w K) Q:=by
 refine SD (get:=EX GL f os) h hd hn (fun M1 st1 h1 f' ds hg=>?_) (by simpa only[step]using hs);simp only[EX,Zhp,Zhr]at hg;obtain⟨rfl,rfl⟩:=hg;refine⟨args.map a.eval,by simpa using MF h1 hx,?_⟩;rw[show GM f (args.map a.eval)=callFunc f (args.map a.eval)from Zaa hfy];simp[execOp,ho,resolve,Act.eval,Deferred.ofValue,invoke]
theorem gk(h:Rel GL n S M μ st a w){f d:Nat}{args:Array Operand}{tys:Array TypeId}{os:List O}(hfy:Nat.blt f 1000000000=true)(ho:o.op=.call {callee:=.value (.func f),args:=args,argTypes:=tys})
  (hd:o.dst=some d)(hdn:d<n)(hn:n<=999)(hx:args.toList.mapM (cO GL)=some os)(hs:step P GL (.callo d f os) st K):o.wpX P a w (Aw GL n S M w K) Q:=by
 simp only[step,P4]at hs;obtain⟨hI,R,hmc,hR⟩:=hs;refine Ws h hfy ho (fun d' e=>by rw[hd]at e;cases e;exact hdn) hn hx ?_;simp only[step];refine⟨[],.inl ⟨[],[],R,hmc,trivial,rfl,?_,rfl,fun r sto' hr=>?_⟩⟩
 ·rw[Zcu]at hI⊢;intro x hx;have:=hI x hx;cases x<;>simp[JH]at this;rfl
 ·obtain⟨h1,h2⟩:=hR r sto' hr;refine⟨fun nm hm=>.inr (h1 nm ?_),fun nm hm=>by simp at hm,?_⟩
  ·rw[hd]at hm;exact hm
  ·rw[hd];exact h2
theorem gl(h:Rel GL n S M μ st a w){f e k:Nat}{args:Array Operand}{tys:Array TypeId}{xs:List Operand}{os:List O}(hfy:Nat.blt f 1000000000=true)(ho:o.op=.call {callee:=.value (.func f),args:=args,argTypes:=tys})
  (hd:o.dst=some d)(hdn:d<n)(hn:n<=999)(ha:args.toList=.const (.slice none 0 0)::xs)(hx:xs.mapM (cO GL)=some os)(hs:step P GL (.calln d f e k os) st K):o.wpX P a w (Aw GL n S M w K) Q:=by
 simp only[step,Mo]at hs;split at hs
 ·rename_i jl;have hb:=h.bindEmptyA (nm:=d+2000) jl (by unfold pinned;omega) none e k;rw[<-hd]at hs;refine SD (get:=Ok GL f (d+2000) k os) hb (fun d' h'=>by rw[hd]at h';cases h';exact hdn) hn (fun M1 st1 h1 f' ds hg=>?_) hs;unfold Ok at hg;split at hg
  ·rename_i hnm1;cases hg;have hr:=MF h1 hx;refine⟨(args.map a.eval),?_,?_⟩
   ·have e1:(args.map a.eval).toList=.slice none 0 0::xs.map a.eval:=by simp[ha,Act.eval]
    rw[e1];refine⟨by simpa using hr.1,fun j a b=>?_⟩;cases j with
    |zero=>exact⟨hnm1,by rw[Bh];exact J5 _ _⟩
    |succ j=>exact hr.2 j (by simpa using a) (by simpa using b)
   ·rw[show GM f (args.map a.eval)=callFunc f (args.map a.eval)from Zaa hfy];simp[execOp,ho,resolve,Act.eval,Deferred.ofValue,invoke]
  ·cases hg
 ·exact hs.elim
theorem Ot{xs ys:List D}{us:List Value}(h:Db M μ N xs vs)(k:Db M μ N ys us):Db M μ N (xs++ys) (vs++us):=by
 refine⟨by simp[h.1,k.1],fun j a b=>?_⟩;by_cases hj:j<xs.length
 ·rw[Zea hj,Zea (by rw[h.1];exact hj)];exact h.2 j hj _
 ·have e:vs.length=xs.length:=h.1;rw[Zeb (by omega),Zeb (by omega)];have:=k.2 (j-xs.length) (by simp at a;omega) (by simp at b;omega);grind
theorem SE{xs:List I}(h:Ak M xs vs):Db M μ N (xs.map .i) vs:=
 ⟨by simpa using h.1,fun j a b=>by rw[Zee];exact AJ (h.2 j (by simpa using a) b)⟩
theorem Wt{xs:List Cp}(h:DU M μ N xs vs):Db M μ N (xs.map Cp.toD) vs:=
 ⟨by simpa using h.1,fun j a b=>by rw[Zee];exact(h.2 j (by simpa using a) b).toD⟩
theorem gm(h:Rel GL n S M μ st a w){fv:Operand}{of:O}{args:Array Operand}{tys:Array TypeId}{os:List O}(ho:o.op=.call {callee:=.value fv,args:=args,argTypes:=tys})
  (hd:∀d,o.dst=some d->d<n)(hn:n<=999)(hfv:cO GL fv=some of)(hx:args.toList.mapM (cO GL)=some os)(hs:step P GL (.callv o.dst of os) st K):o.wpX P a w (Aw GL n S M w K) Q:=by
 refine SD (get:=DF GL of os) h hd hn (fun M1 st1 h1 f' ds hg=>?_) (by simpa only[step]using hs);have hf:=Az h1 hfv;have jz:=MF h1 hx;simp only[DF,EA]at hg;split at hg
 ·rename_i f first caps e
  cases hg;rw[e]at hf;obtain⟨va,vb,e2,hy,ra,rb⟩:=(AE hf).fn_inv;refine⟨va++args.map a.eval++vb,?_,?_⟩
  ·have:=Ot (Ot (SE (μ:=μ) (N:=names st1.sto) ra) jz) (SE rb);simpa using this
  ·cases hb:Nat.blt f' 1000000000 with
   |true=>rw[show GM f' (va++args.map a.eval++vb)=callFunc f' (va++args.map a.eval++vb)from Zaa hb];simp[execOp,ho,resolve,e2,Deferred.ofValue,invoke,FV,hb]
   |false=>
    have hvb:vb=#[]:=by have h1:=hy.resolve_left (by rw[hb];simp);subst h1;have:=rb.1;grind
    subst hvb;rw[show GM f' (va++args.map a.eval++#[])=Instr.yield (f'-1000000000) (va++args.map a.eval++#[])from Zac (by rw[hb];simp)];simp[execOp,ho,resolve,e2,Deferred.ofValue,invoke,FV,hb]
 ·rename_i f first caps e
  cases hg;rw[e]at hf;obtain⟨va,vb,e2,hy,ra,rb⟩:=hf;refine⟨va++args.map a.eval++vb,?_,?_⟩
  ·have:=Ot (Ot (Wt ra) jz) (Wt rb);simpa using this
  ·cases hb:Nat.blt f' 1000000000 with
   |true=>rw[show GM f' (va++args.map a.eval++vb)=callFunc f' (va++args.map a.eval++vb)from Zaa hb];simp[execOp,ho,resolve,e2,Deferred.ofValue,invoke,FV,hb]
   |false=>
    have hvb:vb=#[]:=by have h1:=hy.resolve_left (by rw[hb];simp);subst h1;have:=rb.1;grind
    subst hvb;rw[show GM f' (va++args.map a.eval++#[])=Instr.yield (f'-1000000000) (va++args.map a.eval++#[])from Zac (by rw[hb];simp)];simp[execOp,ho,resolve,e2,Deferred.ofValue,invoke,FV,hb]
 ·cases hg
end
end Go.Dl
end
section
namespace Go.Dl
open Go Go.RowKit
theorem I5{α:Type}(l:List α)(off:Nat)(us:List α)(h:off+us.length<=l.length)(j:Nat):(setL l off us)[j]? =if off<=j/\j<off+us.length then us[j-off]? else l[j]? :=by simp only[setL,List.getElem?_append,Zel,Zex,Zd8,Zd1,Nat.min_eq_left (show off<=l.length by omega)];grind
theorem CP{α:Type}(l:List α)(off:Nat)(us:List α)(h:off+us.length<=l.length):(setL l off us).length=l.length:=by grind[setL]
section
variable {P:Program}{GL:List (Nat×List I)}{n:Nat}{S:Sh}{M:Mem}{μ:Place}{st:St}{a:Act}{w:World}{K:St->Prop}{Q:Exit->Act->World->Prop}{o:Oper}{d:Nat}
theorem SF{t:TypeId}{k b off:Nat}{vs:Array Value}{ty:TypeId}{v:Value}(hk:PY P t=some k)(hheap:w.heap[b]? =some (.cells vs ty (0,0)))(hv:v.cells.size=k)(kd:off+k<=vs.size)
  (h1:∀u∈v.cells.toList,u.oneCell'=true):(Instr.storeAt t (.pointer (some ⟨b,off,none⟩)) v).run P w=.ok () (w.setRow b (setL vs.toList off v.cells.toList).toArray):=by
 have jf:=Zak P b off ty v.cells.toList 0 vs w hheap (by simp;omega) h1;simp only[Zgn]at jf;simp only[Instr.storeAt,Instr.sureAddr,Sem.run_bind,Sem.run_pure,Result.andThen_ok,storeVar,EE hk,hv,Zaj,not_true,Zag,jf,setL]
theorem SG{t:TypeId}{x v:Operand}{w':World}(ho:o.op=.store t x v)(h:(Instr.storeAt t (a.eval x) (a.eval v)).run P w=.ok () w'):(execOp a.eval o).run P w=.ok .skip w':=by simp only[execOp,ho,Sem.run_bind,h,Result.andThen_ok,Sem.run_pure]
theorem Rel.storeLoc(h:Rel GL n S M μ st a w){nm off:Nat}{cs ds:List D}{v:Value}{b:Nat}{vs:Array Value}{ty:TypeId}(hg:Aa st.sto nm=some (.cells cs))(hμ:μ nm=.pointer (some ⟨b,0,none⟩))
  (jc:Owns S M w b (.cells vs ty (0,0)))(j0:vs.size=cs.length)(hv:∀j (h:j<cs.length) (h':j<vs.size),AD M μ (names st.sto) (cs[j]) (vs[j]))
  (c1:v.cells.size=ds.length)(c2:∀j (hj:j<ds.length) (h':j<v.cells.size),AD M μ (names st.sto) (ds[j]) (v.cells[j]))(kd:off+ds.length<=cs.length):
  Rel GL n S M μ (st.setB nm (.cells (setL cs off ds))) a (w.setRow b (setL vs.toList off v.cells.toList).toArray)/\Keeps S w (w.setRow b (setL vs.toList off v.cells.toList).toArray):=by
 have hb:=JL w b (setL vs.toList off v.cells.toList).toArray jc.low;refine⟨h.setBlk hg (by rw[hμ];rfl) hb.size (fun k hk _=>Zab w b k _ hk) ⟨b,_,ty,hμ,⟨jc.low,Zal w b vs _ ty _ jc.heap,jc.unk⟩,?_,fun j h1 h2=>?_⟩,hb⟩
 ·simp only[Zf6];rw[CP _ _ _ (by simp;omega),CP _ _ _ (by omega)];simpa using j0
 ·rw[CC];have h1':j<cs.length:=by grind[CP]
  have e1:(setL cs off ds)[j]? =some ((setL cs off ds)[j]):=Zd2 h1;have e2:(setL vs.toList off v.cells.toList)[j]? =some ((setL vs.toList off v.cells.toList)[j]'(by simpa using h2)):=Zd2 _;rw[I5 _ _ _ (by omega)]at e1;rw[I5 _ _ _ (by simp;omega)]at e2;have hl:v.cells.toList.length=ds.length:=by omega
  rw[hl]at e2;by_cases hc:off<=j/\j<off+ds.length
  ·rw[Zaa hc]at e1 e2;have q1:j-off<ds.length:=by omega
   have q2:j-off<v.cells.size:=by omega
   rw[Zd2 q1]at e1;rw[Zd2 (by simpa using q2)]at e2;simp only[Zej];rw[<-Zho e1,<-Zho e2];simpa using c2 (j-off) q1 q2
  ·rw[Zac hc]at e1 e2;have q2:j<vs.size:=by omega
   rw[Zd2 h1']at e1;rw[Zd2 (by simpa using q2)]at e2;simp only[Zej];rw[<-Zho e1,<-Zho e2];simpa using hv j h1' q2
theorem SH(y:I):A9 (.i y)=(cellsI y).map .i:=by cases y<;>rfl
theorem gn{sto:List (Nat×Blk)}{nm:Nat}{b b':Blk}(h:Aa sto nm=some b):Aa (B7 sto nm b') nm=some b':=by simp[CO,h]
theorem gp(l:List (Nat×Blk))(nm:Nat)(b:Blk)(c:Blk):B6 (Sk nm c (B7 l nm b)) nm=B6 (Sk nm c l) nm:=by
 induction l with
 |nil=>rfl
 |cons x r ih=>grind[B7,Sk,B6]
theorem gq(h:Rel GL n S M μ st a w){t:TypeId}{x v:Operand}{ox ov:O}{k:Nat}(ho:o.op=.store t x v)(hd:o.dst=none)(hx:cO GL x=some ox)(hv:cO GL v=some ov)(hk:PY P t=some k)
  (hs:step P GL (.stfrz ox ov k) st K):o.wpX P a w (Aw GL n S M w K) Q:=by
 have hr:=Az h hx;have hrv:=Az h hv;simp only[step,Mu]at hs;split at hs
 ·rename_i nm off e;rw[e]at hr;obtain⟨hN,b,hμ,hxv⟩:=hr;unfold Mt at hs;split at hs
  ·rename_i cs hg;obtain⟨rfl,je,hi,hkv,kt,hs⟩:=hs;obtain⟨b',vs,ty,hμ',jc,j0,hcv⟩:=h.blk nm _ hg;obtain rfl:b'=b:=by grind
   generalize AZ GL st ov=dv at hrv hi hkv kt hs;cases dv with
   |i y=>
    simp only[H1]at hkv kt hs;have hone':(A9 (.i y)).all Ez=true:=by grind[SH,Ez]
    obtain⟨c1,c2,c3⟩:=Sq hrv hone';have kn:(A9 (.i y)).length=k:=by grind[SH]
    obtain⟨h2,hb⟩:=h.storeLoc (off:=0) hg hμ jc j0 hcv c1 c2 (by omega);have jj:setL cs 0 (A9 (.i y))=(cellsI y).map .i:=by grind[setL,SH]
    rw[jj]at h2;have hg2:Aa (st.setB nm (.cells ((cellsI y).map .i))).sto nm=some (.cells ((cellsI y).map .i)):=gn hg;obtain⟨M',h3,hm⟩:=h2.freeze hg2 (by simp[Fr,BG,JH]);have e3:(st.setB nm (.cells ((cellsI y).map .i))).frz nm (.cells ((cellsI y).map .i))=st.frz nm (.cells ((cellsI y).map .i)):=by simp[St.frz,St.setB,gp]
    rw[e3]at h3;exact MG (SG ho (by rw[hxv];exact SF hk jc.heap (by omega) (by omega) c3)) ⟨_,hs,M',μ,by rw[hd];exact h3,hm,hb⟩
   |_=>simp[JH]at hi
  ·exact hs.elim
 ·exact hs.elim
theorem Wu{rs:List (List I)}{k:Nat}(hk:∀r∈rs,r.length=k){p:Nat}(hp:p<rs.length*k):∃i j,∃(hi:i<rs.length),j<rs[i].length/\p=i*k+j:=by
 have vg:0<k:=Nat.pos_of_ne_zero fun h=>by subst h;simp at hp
 have hi:p/k<rs.length:=by rw[Nat.div_lt_iff_lt_mul vg];exact hp
 refine⟨p/k,p%k,hi,?_,?_⟩
 ·rw[hk _ (Zef hi)];exact Zg1 _ vg
 ·rw[Zg2];exact(Nat.div_add_mod p k).symm
theorem Ex.set{cur:Array Value}{o k row off:Nat}{rs:List (List I)}{cs:List I}{us:List Value}(h:Ex M cur o k rs)(jv:row<rs.length)(hc:Ak M cs us)(kd:off+cs.length<=k)(j0:o+rs.length*k<=cur.size):
  Ex M (setL cur.toList (o+row*k+off) us).toArray o k (rs.set row (setL rs[row] off cs)):=by
 have qg:=hc.1;have wv:rs[row].length=k:=h.1 _ (Zef jv);have ji:(row+1)*k<=rs.length*k:=Zg4 _ jv;rw[Zgm]at ji;have hfit2:o+row*k+off+us.length<=cur.toList.length:=by simp;omega
 refine⟨fun r hr=>?_,fun i hi j hj=>?_⟩
 ·rcases Zfm hr with h1|h1
  ·exact h.1 r h1
  ·rw[h1,CP _ _ _ (by omega)];exact wv
 ·have ja:i<rs.length:=by simpa using hi
  simp only[Zd9];rw[I5 _ _ _ hfit2];by_cases hir:row=i
  ·subst hir;have jp:j<k:=by grind[CP]
   have e8:(setL rs[row] off cs)[j]? =some ((setL rs[row] off cs)[j]'(by rw[CP _ _ _ (by omega)];omega)):=Zd2 _;rw[I5 _ _ _ (by omega)]at e8;by_cases hcc:off<=j/\j<off+cs.length
   ·rw[Zaa hcc]at e8;rw[Zaa (by omega)];have q1:j-off<cs.length:=by omega
    rw[Zd2 q1]at e8;refine⟨us[j-off]'(by omega),?_,?_⟩
    ·rw[show o+row*k+j-(o+row*k+off)=j-off by omega];exact Zd2 _
    ·have:=hc.2 (j-off) q1 (by omega);have e9:(rs.set row (setL rs[row] off cs))[row][j]=(setL rs[row] off cs)[j]'(by rw[CP _ _ _ (by omega)];omega):=by simp
     rw[e9,<-Zho e8];exact this
   ·rw[Zac hcc]at e8;rw[Zac (by omega)];have q1:j<rs[row].length:=by omega
    rw[Zd2 q1]at e8;obtain⟨v,hv,hr⟩:=h.2 row jv j q1;refine⟨v,by simpa using hv,?_⟩;have e9:(rs.set row (setL rs[row] off cs))[row][j]=(setL rs[row] off cs)[j]'(by rw[CP _ _ _ (by omega)];omega):=by simp
    rw[e9,<-Zho e8];exact hr
  ·have e8:(rs.set row (setL rs[row] off cs))[i]=rs[i]:=by rw[List.getElem_set];rw[Zac hir]
   have jp:j<rs[i].length:=by grind
   have hji:j<k:=by rw[<-h.1 _ (Zef ja)];exact jp
   obtain⟨v,hv,hr⟩:=h.2 i ja j jp;rw[Zac]
   ·refine⟨v,by simpa using hv,?_⟩;simp only[e8];exact hr
   ·intro hcc;rcases Nat.lt_or_gt_of_ne hir with h1|h1
    ·have:(row+1)*k<=i*k:=Zg4 _ h1;rw[Zgm]at this;omega
    ·have:(i+1)*k<=row*k:=Zg4 _ h1;rw[Zgm]at this;omega
theorem Ou(h:Rel GL n S M μ st a w){nm:Nat}{et k:Nat}{rs:List (List I)}(hg:Aa st.sto nm=some (.rows et k rs)){b oo cap:Nat}(hμ:μ nm=.slice (some ⟨b,oo,none⟩) 0 cap)(km:0<cap):
  ∃cur,Owns S M w b (.cells cur et (0,0))/\cap<=maxLen/\cur.size=oo+cap*k/\rs.length<=cap/\Ex M cur oo k rs:=by
 obtain⟨aa,cap',e1,hh⟩:=h.blk nm _ hg;rw[hμ]at e1;injection e1 with e1 _ e2
 subst e1;subst e2;rcases hh with⟨rfl,_⟩|⟨b',o',cur,e3,hc,ho,q⟩
 ·omega
 ·injection e3 with e3;injection e3 with e4 e5;subst e4;subst e5
  exact⟨cur,ho,q⟩
theorem gr(h:Rel GL n S M μ st a w){t:TypeId}{x v:Operand}{ox ov:O}{k:Nat}(ho:o.op=.store t x v)(hd:o.dst=none)(hx:cO GL x=some ox)(hv:cO GL v=some ov)(hk:PY P t=some k)
  (hs:step P GL (.store ox ov k) st K):o.wpX P a w (Aw GL n S M w K) Q:=by
 have hr:=Az h hx;have hrv:=Az h hv;simp only[step,Ho]at hs;split at hs
 ·rename_i nm off e;rw[e]at hr;obtain⟨hN,b,hμ,hxv⟩:=hr;unfold JR at hs;split at hs
  ·rename_i cs hg;obtain⟨je,kt,kd,hs⟩:=hs;obtain⟨b',vs,ty,hμ',jc,j0,hcv⟩:=h.blk nm _ hg;obtain rfl:b'=b:=by grind
   obtain⟨c1,c2,c3⟩:=Sq hrv kt;obtain⟨h2,hb⟩:=h.storeLoc (off:=off) hg hμ jc j0 hcv c1 c2 (by omega);exact MG (SG ho (by rw[hxv];exact SF hk jc.heap (by omega) (by omega) c3)) ⟨_,hs,M,μ,by rw[hd];exact h2,MExt.refl _ _,hb⟩
  ·exact hs.elim
 ·rename_i nm kk row off e;rw[e]at hr;obtain⟨hN,b,oo,cap,hμ,hrc,hxv⟩:=hr;unfold Ms at hs;split at hs
  ·rename_i et k' rs hg;obtain⟨rfl,jv,hi,hkv,kt,kd,hs⟩:=hs;obtain⟨cur,jc,q1,q2,q3,q4⟩:=Ou h hg hμ (by omega);have hrow':rs.getD row []=rs[row]:=by grind
   rw[hrow']at kd hs;have wv:rs[row].length=kk:=q4.1 _ (Zef jv);have jr:=(Oo hrv hi).cellsI;have j0:(a.eval v).cells.size=k:=by have:=jr.1;simp at this;omega
   have hones:∀u∈(a.eval v).cells.toList,u.oneCell'=true:=fun u hu=>by
    obtain⟨j,hj,rfl⟩:=Zfg.1 hu;have jp:j<(cellsI (H1 (AZ GL st ov))).length:=by grind
    exact(jr.2 j jp hj).oneCell (by simp only[Zcu]at kt;exact kt _ (Zef jp))
   have hm1:rs.length*kk<=cap*kk:=Zg4 _ q3;have hm2:(row+1)*kk<=rs.length*kk:=Zg4 _ jv;rw[Zgm]at hm2;have hb:=JL w b (setL cur.toList (oo+row*kk+off) (a.eval v).cells.toList).toArray jc.low;refine MG (SG ho (by rw[hxv];exact SF hk jc.heap j0 (by omega) hones)) ⟨_,hs,M,μ,?_,MExt.refl _ _,hb⟩;rw[hd];refine h.setBlk hg (by rw[hμ];simp only[An];rw[Zac (by omega)]) hb.size (fun q hq _=>Zab w b q _ hq) ⟨_,cap,hμ,.inr ⟨b,oo,_,rfl,by omega,⟨jc.low,Zal w b cur _ et _ jc.heap,jc.unk⟩,q1,?_,by simpa using q3,q4.set jv jr (by omega) (by omega)⟩⟩;simp only[Zf6];rw[CP _ _ _ (by simp;omega)];simpa using q2
  ·exact hs.elim
 ·exact hs.elim
end
end Go.Dl
end
section
namespace Go.Dl
open Go Go.RowKit
variable{k len cap:Nat}{cur:Array Value}
section
variable {P:Program}{GL:List (Nat×List I)}{n:Nat}{S:Sh}{M:Mem}{μ:Place}{st:St}{sto:List (Nat×Blk)}{a:Act}{w w':World}{K:St->Prop}{Q:Exit->Act->World->Prop}{o:Oper}{d nm:Nat}
theorem StoOk.reset(h:StoOk S M μ sto w){blk blk':Blk}(jl:Aa sto nm=some blk){x:Value}(hs:w.heap.size<=w'.heap.size)(k7:∀k,k<w.heap.size->An (μ nm)≠some k->w'.heap[k]? =w.heap[k]?)
  (qu:∀q,An x=some q->An (μ nm)=some q\/w.heap.size<=q)(hb:AP S M (BA μ nm x) (names (B7 (Sk nm (.iter none []) sto) nm blk')) w' nm blk'):
  StoOk S M (BA μ nm x) (B7 (Sk nm (.iter none []) sto) nm blk') w':=by
 have hN:∀m,names (B7 (Sk nm (.iter none []) sto) nm blk') m↔names sto m:=fun m=>by rw[CC,VT]
 have hn0:names sto nm:=by simp[names,jl]
 have hoth:∀m k,m≠nm->names sto m->An (μ m)=some k->An (μ nm)≠some k:=fun m k hm hs hk e=>h.sep m nm k k hm hs hn0 hk e rfl
 refine⟨h.sub.world fun k hk hu=>k7 k hk fun e=>hu (h.lt hn0 e).2.2,fun m bb hm=>?_,fun m m' k k' jg h1 h2 hk jk=>?_,fun b hb=>Zgy (h.low b hb) hs⟩
 ·simp only[CO,Hl]at hm;split at hm
  ·rename_i e;subst e;simp only[jl,Zhn,Zhp]at hm;subst hm;exact hb
  ·rename_i jg;cases hy:Aa sto m with
   |none=>simp[hy]at hm
   |some y=>
    simp only[hy,Zhn,Zhp]at hm;subst hm;have hmn:names sto m:=by simp[names,hy]
    refine(h.blk m y hy).sb (Mem.le_refl _) (fun q hq hqn=>⟨(hN q).2 hqn,CD _ _ hq⟩) (fun r v e _=>by simp only[VP,Zaa e];cases r<;>trivial) (CD _ _ jg) (fun k hk jn=>k7 k jn (hoth m k jg hmn hk)) (fun _ _ _=>Mem.same_refl _ _)
 ·rw[hN]at h1 h2;have key:∀m q,m≠nm->names sto m->An (μ m)=some q->An x≠some q:=fun m q hm hs hq hv=>by
   rcases qu q hv with e'|e'
   ·exact hoth m q hm hs hq e'
   ·have:=(h.lt hs hq).1;omega
  by_cases e1:m=nm
  ·by_cases e2:m'=nm
   ·exact absurd (e1.trans e2.symm) jg
   ·subst e1;rw[Bh]at hk;rw[CD _ _ e2]at jk;intro hqq;subst hqq;exact key m' k e2 h2 jk hk
  ·rw[CD _ _ e1]at hk;by_cases e2:m'=nm
   ·subst e2;rw[Bh]at jk;intro hqq;subst hqq;exact key m k e1 h1 hk jk
   ·rw[CD _ _ e2]at jk;exact h.sep m m' k k' jg h1 h2 hk jk
theorem Rel.reset(h:Rel GL n S M μ st a w)(hpin:¬pinned nm){blk blk':Blk}(jl:Aa st.sto nm=some blk){x:Value}(hs:w.heap.size<=w'.heap.size)(k7:∀k,k<w.heap.size->An (μ nm)≠some k->w'.heap[k]? =w.heap[k]?)
  (qu:∀q,An x=some q->An (μ nm)=some q\/w.heap.size<=q)(hb:AP S M (BA μ nm x) (names (B7 (Sk nm (.iter none []) st.sto) nm blk')) w' nm blk'):
  Rel GL n S M (BA μ nm x) ((⟨.sb nm (.iter none []) st.env,Sk nm (.iter none []) st.sto⟩:St).setB nm blk') a w':=
 h.of (st':=(⟨.sb nm (.iter none []) st.env,Sk nm (.iter none []) st.sto⟩:St).setB nm blk') (h.toStoOk.reset jl hs k7 qu hb) (Mem.le_refl _) (fun s v hv=>by simp only[St.setB,Aj];exact hv.sb (Mem.le_refl _) (fun q hq hqn=>⟨by rw[CC,VT];exact hqn,CD _ _ hq⟩) (fun r v e _=>by simp only[VP,Zaa e];cases r<;>trivial)) fun m hm=>CD _ _ fun e=>hpin (e▸hm)
theorem Wv{rows:List (List I)}{v:Value}(h:Rep M (.sl rows) v)(jg:rows≠[]){k:Nat}(hk:∀r∈rows,r.length=k)(kt:∀r∈rows,r.all I.one=true):
  ∃b oo cap,∃us:List Value,v=.slice (some ⟨b,oo,none⟩) rows.length cap/\us.length=rows.length*k/\(∀j u,us[j]? =some u->M.c b (oo+j)=some u)/\(∀u∈us,u.oneCell'=true)/\
   ∀i (hi:i<rows.length) j (hj:j<rows[i].length),∃u,us[i*k+j]? =some u/\Rep M (rows[i][j]) u:=by
 cases h with
 |slnil=>exact absurd rfl jg
 |slempty=>exact absurd rfl jg
 |sl _ k' b oo cap vv jk hc hm hr=>
  have ju:0<rows.length:=by grind
  obtain rfl:k'=k:=by rw[<-jk _ (Zef ju),hk _ (Zef ju)]
  have j6:∀p,p<rows.length*k'->∃u,M.c b (oo+p)=some u/\u.oneCell'=true:=fun p hp=>by obtain⟨i,j,hi,hj,rfl⟩:=Wu hk hp;have:=hm i hi j hj;rw[Zgl]at this;refine⟨_,this,(hr i hi j hj).oneCell ?_⟩;grind
  refine⟨b,oo,cap,(List.range (rows.length*k')).map (fun p=>(M.c b (oo+p)).getD Go.undef),rfl,by simp,?_,?_,?_⟩
  ·intro j u hu;simp only[Zd5,Zhl]at hu;obtain⟨p,hp,rfl⟩:=hu;obtain⟨jn,hp⟩:=Zd4.1 hp;simp at jn hp;subst hp;obtain⟨u,hu,_⟩:=j6 j jn;simp[hu]
  ·intro u hu;simp only[Zfh,Zfn]at hu;obtain⟨p,hp,rfl⟩:=hu;obtain⟨u,hu,h1⟩:=j6 p hp;simp[hu,h1]
  ·intro i hi j hj;have jn:i*k'+j<rows.length*k':=by have:(i+1)*k'<=rows.length*k':=Zg4 _ hi;grind
   refine⟨_,?_,hr i hi j hj⟩;have:=hm i hi j hj;rw[Zgl]at this;simp[jn,this]
theorem Ww(t ty e:TypeId)(i:TypeInfo)(ht:P.underlying t=some (.slice e))(hi:P.info? e=some i)(g og sLen sCap:Nat)(cur:Array Value)(hg:w.heap[g]? =some (.cells cur e (0,0)))
  (b:Addr)(m c:Nat)(news:List Value)(hl:news.length=m*i.size)(qo:∀j u,news[j]? =some u->w.cell? (b.add j)=some u)(h1:∀u∈news,u.oneCell'=true)
  (j7:sLen+m<=sCap)(kd:og+sLen*i.size+news.length<=cur.size):
  (Builtin.append_ #[t,t] ty #[.slice (some ⟨g,og,none⟩) sLen sCap,.slice (some b) m c]).run P w=
   .ok (.slice (some ⟨g,og,none⟩) (sLen+m) sCap) (w.setRow g (setL cur.toList (og+sLen*i.size) news).toArray):=by
 have hf:=Zam (P:=P) w i.size m b m c news hl qo;have jf:=Zak P g (og+sLen*i.size) e news 0 cur w hg (by simpa using kd) h1;simp only[Zgn]at jf;simp[Builtin.append_,Zaf ht,sizeOf,typeInfo,hi,Builtin.lenOf,j7,hf,EZ,jf,setL]
theorem SI(t ty e:TypeId)(i:TypeInfo)(ht:P.underlying t=some (.slice e))(hi:P.info? e=some i)(aa:Option Addr)(haa:∀x,aa=some x->x.spot=none)(l cap:Nat)(hlc:l<=cap)(b:Option Addr)(c:Nat):
  (Builtin.append_ #[t,t] ty #[.slice aa l cap,.slice b 0 c]).run P w=.ok (.slice aa l cap) w:=by
 cases aa<;>cases b<;>simp[Builtin.append_,Zaf ht,sizeOf,typeInfo,Builtin.lenOf,Builtin.firstCells,loadCells,loadCellsFrom,storeCells, *]
def Cf(cur:Array Value)(o k lo hi:Nat):List Value:=(cur.toList.drop (o+lo*k)).take ((hi-lo)*k)
theorem Ex.view{o lo hi:Nat}{rs:List (List I)}(h:Ex M cur o k rs)(qi:lo<=hi)(qw:hi<=rs.length)(j0:o+rs.length*k<=cur.size):
  (Cf cur o k lo hi).length=(hi-lo)*k/\∀i (ja:i<((rs.take hi).drop lo).length) j (hj:j<((rs.take hi).drop lo)[i].length),∃u,(Cf cur o k lo hi)[i*k+j]? =some u/\Rep M (((rs.take hi).drop lo)[i][j]) u:=by
 have hm:hi*k<=rs.length*k:=Zg4 _ qw;have hm2:lo*k+(hi-lo)*k=hi*k:=by rw[<-Zgm];congr 1;omega
 refine⟨by simp[Cf];omega,fun i ja j hj=>?_⟩;have hl:((rs.take hi).drop lo).length=hi-lo:=by simp;omega
 have e:((rs.take hi).drop lo)[i]=rs[lo+i]'(by omega):=by simp
 have jp:=hj;rw[e]at jp;obtain⟨v,hv,hr⟩:=h.2 (lo+i) (by omega) j jp;have hjk:j<k:=by rw[<-h.1 _ (Zef (show lo+i<rs.length by omega))];exact jp
 have jn:i*k+j<(hi-lo)*k:=by have:(i+1)*k<=(hi-lo)*k:=Zg4 _ (by omega);grind
 refine⟨v,?_,?_⟩
 ·simp only[Cf,Zd8,Zaa jn,Zd1];rw[show o+lo*k+(i*k+j)=o+(lo+i)*k+j by rw[Zgm];omega];simpa using hv
 ·have e9:((rs.take hi).drop lo)[i][j]=rs[lo+i][j]:=by simp
  rw[e9];exact hr
theorem Ov{o:Nat}{as bs:List (List I)}{xs us:List Value}(vm:xs.length=as.length*k)(hka:∀r∈as,r.length=k)(hkb:∀r∈bs,r.length=k)
  (hx:∀i (hi:i<as.length) j (hj:j<as[i].length),∃u,xs[i*k+j]? =some u/\Rep M (as[i][j]) u)(hu:∀i (hi:i<bs.length) j (hj:j<bs[i].length),∃u,us[i*k+j]? =some u/\Rep M (bs[i][j]) u)
  (hcur:∀j v,(xs++us)[j]? =some v->cur[o+j]? =some v):Ex M cur o k (as++bs):=by
 refine⟨fun r hr=>(Ze9.1 hr).elim (hka r) (hkb r),fun i hi j hj=>?_⟩;by_cases ja:i<as.length
 ·have e8:(as++bs)[i]=as[i]:=Zea ja;obtain⟨u,hu,hr⟩:=hx i ja j (by rw[<-e8];exact hj);refine⟨u,?_,by simp only[e8];exact hr⟩;rw[Zgl];refine hcur _ _ ?_;rw[Zdy (Zd4.1 hu).1];exact hu
 ·have jx:i-as.length<bs.length:=by rw[Zel]at hi;omega
  have e8:(as++bs)[i]=bs[i-as.length]:=Zeb (by omega);obtain⟨u,hu,hr⟩:=hu (i-as.length) jx j (by rw[<-e8];exact hj);refine⟨u,?_,by simp only[e8];exact hr⟩;have ji:as.length*k<=i*k:=Zg4 _ (by omega);rw[Zgl];refine hcur _ _ ?_;rw[Zdz (by rw[vm];omega),vm,<-hu];congr 1;rw[Nat.sub_mul];omega
theorem Fu{t:TypeId}{x y:Operand}{v':Value}{w':World}(ho:o.op=.call {callee:=.builtin .append,args:=#[x,y],argTypes:=#[t,t]})
  (h:(Builtin.append_ #[t,t] o.type #[a.eval x,a.eval y]).run P w=.ok v' w'):(execOp a.eval o).run P w=.ok (.value v') w':=by
 simp only[execOp,ho,resolve,Sem.run_bind,Sem.run_pure,Result.andThen_ok,invoke,builtin,Ze8,Ze1,Ze5,h]
theorem Ow:∀{l:List (Option (List I))} {as:List (List I)},Ft l=some as->l=as.map some
 |[],as,h=>by grind[Ft]
 |some r::rs,as,h=>by
  simp only[Ft]at h;split at h
  ·rename_i l hl;cases h;simp[<-Ow hl]
  ·cases h
 |none::_,as,h=>by grind[Ft]
theorem Lj(h:Rel GL n S M μ st a w){nm e k:Nat}{rs:List (Option (List I))}(hg:Aa st.sto nm=some (.arr e k rs)){b oo cap:Nat}(hμ:μ nm=.slice (some ⟨b,oo,none⟩) 0 cap)(km:0<cap):
  ∃cur,Owns S M w b (.cells cur e (0,0))/\rs.length=cap/\cap<=maxLen/\cur.size=oo+cap*k/\Hk M cur oo k rs:=by
 obtain⟨aa,e1,hh⟩:=h.blk nm _ hg;rw[hμ]at e1;injection e1 with e1 _ e2
 subst e1;subst e2;rcases hh with rfl|⟨b',o',cur,e3,jg,ho,q1,q2,q3⟩
 ·simp at km
 ·injection e3 with e3;injection e3 with e4 e5;subst e4;subst e5
  exact⟨cur,ho,rfl,q1,q2,q3⟩
theorem Lk(h:Rel GL n S M μ st a w){nm e k:Nat}{rs:List (Option (List I))}(hg:Aa st.sto nm=some (.arr e k rs)){aa:Option Addr}{cap:Nat}(hμ:μ nm=.slice aa 0 cap):rs.length=cap:=by obtain⟨aa',e1,_⟩:=h.blk nm _ hg;grind
theorem Hk.set{o:Nat}{rs:List (Option (List I))}(h:Hk M cur o k rs)(j0:o+rs.length*k<=cur.size){lo:Nat}{bs:List (List I)}{us:List Value}(hb:∀r∈bs,r.length=k)(qg:us.length=bs.length*k)
  (hu:∀i (hi:i<bs.length) j (hj:j<bs[i].length),∃u,us[i*k+j]? =some u/\Rep M (bs[i][j]) u)(kd:lo+bs.length<=rs.length):
  Hk M (setL cur.toList (o+lo*k) us).toArray o k (setL rs lo (bs.map some)):=by
 have hm:(lo+bs.length)*k<=rs.length*k:=Zg4 _ kd;rw[Zgm]at hm;have hfit2:o+lo*k+us.length<=cur.toList.length:=by simp;omega
 intro i r hr;rw[I5 _ _ _ (by simpa using kd)]at hr;have cell:∀q:Nat,(setL cur.toList (o+lo*k) us).toArray[q]? =if o+lo*k<=q/\q<o+lo*k+us.length then us[q-(o+lo*k)]? else cur[q]? :=fun q=>by grind[I5]
 split at hr
 ·rename_i j9;simp only[Zes]at j9;have jn:i-lo<bs.length:=by omega
  simp only[Zd5,Zd2 jn,Zhn,Zhp]at hr;subst hr;have hk:=hb _ (Zef jn);refine⟨hk,fun j hj=>?_⟩;obtain⟨u,hu1,hu2⟩:=hu (i-lo) jn j hj;refine⟨u,?_,hu2⟩;have e1:i*k=lo*k+(i-lo)*k:=by rw[<-Zgm];congr 1;omega
  have h1:=(Zd4.1 hu1).1;rw[cell,Zaa (by omega),<-hu1];congr 1;omega
 ·rename_i hout;simp only[Zes]at hout;obtain⟨h1,h2⟩:=h i r hr;refine⟨h1,fun j hj=>?_⟩;obtain⟨v,hv,vl⟩:=h2 j hj;refine⟨v,?_,vl⟩;rw[cell,Zac,hv];rintro⟨g1,g2⟩;by_cases qi:i<lo
  ·have:(i+1)*k<=lo*k:=Zg4 _ qi;rw[Zgm]at this;omega
  ·have:(lo+bs.length)*k<=i*k:=Zg4 _ (by omega);rw[Zgm]at this;omega
theorem Hk.view{o lo hi:Nat}{rs:List (Option (List I))}{as:List (List I)}(h:Hk M cur o k rs)(qi:lo<=hi)(qw:hi<=rs.length)(j0:o+rs.length*k<=cur.size)(ha:(rs.take hi).drop lo=as.map some):
  as.length=hi-lo/\(∀r∈as,r.length=k)/\(Cf cur o k lo hi).length=(hi-lo)*k/\∀i (ja:i<as.length) j (hj:j<as[i].length),∃u,(Cf cur o k lo hi)[i*k+j]? =some u/\Rep M (as[i][j]) u:=by
 have hl:as.length=hi-lo:=by have:=Zae List.length ha;simp at this;omega
 have ki:∀i (ja:i<as.length),rs[lo+i]? =some (some as[i]):=fun i ja=>by have:=Zae (·[i]?) ha;grind
 have hm:hi*k<=rs.length*k:=Zg4 _ qw;have hm2:lo*k+(hi-lo)*k=hi*k:=by rw[<-Zgm];congr 1;omega
 refine⟨hl,fun r hr=>?_,by simp[Cf];omega,fun i ja j hj=>?_⟩
 ·obtain⟨i,ja,rfl⟩:=Zeh hr;exact(h _ _ (ki i ja)).1
 ·obtain⟨hk,hc⟩:=h _ _ (ki i ja);obtain⟨v,hv,hr⟩:=hc j hj;refine⟨v,?_,hr⟩;have jn:i*k+j<(hi-lo)*k:=by have:(i+1)*k<=(hi-lo)*k:=Zg4 _ (by omega);grind
  simp only[Cf,Zd8,Zaa jn,Zd1];rw[show o+lo*k+(i*k+j)=o+(lo+i)*k+j by rw[Zgm];omega];simpa using hv
theorem gt{ys:List (List I)}{us:List Value}(hk:Lf k ys)(qg:us.length=ys.length*k)(hu:∀i (hi:i<ys.length) j (hj:j<ys[i].length),∃u,us[i*k+j]? =some u/\Rep M (ys[i][j]) u):∀u∈us,u.oneCell'=true:=fun u hm=>by obtain⟨p,hp,rfl⟩:=Zeh hm;obtain⟨i,j,hi,hj,rfl⟩:=Wu hk.1 (by rw[<-qg];exact hp);obtain⟨v,hv,hr⟩:=hu i hi j hj;rw[Zd2 hp]at hv;cases hv;refine hr.oneCell ?_;have:=hk.2 _ (Zef hi);grind
theorem SJ(h:Rel GL n S M μ st a w){Y:D}{v:Value}(hr:AD M μ (names st.sto) Y v){ys:List (List I)}(hs:GF (Aa st.sto) Y=some ys){k:Nat}(hk:Lf k ys):
  (ys=[]->∃bb c,v=.slice bb 0 c)/\(ys≠[]->∃bb oo ycap,∃us:List Value,v=.slice (some ⟨bb,oo,none⟩) ys.length ycap/\us.length=ys.length*k/\(∀j u,us[j]? =some u->w.cell? ⟨bb,oo+j,none⟩=some u)/\(∀u∈us,u.oneCell'=true)/\
   ∀i (hi:i<ys.length) j (hj:j<ys[i].length),∃u,us[i*k+j]? =some u/\Rep M (ys[i][j]) u):=by
 have first:(Y=.i (.sl ys))->_:=fun e=>by
  subst e;have hr:Rep M (.sl ys) v:=hr;show(ys=[]->∃bb c,v=.slice bb 0 c)/\(ys≠[]->∃bb oo ycap,∃us:List Value,v=.slice (some ⟨bb,oo,none⟩) ys.length ycap/\us.length=ys.length*k/\(∀j u,us[j]? =some u->w.cell? ⟨bb,oo+j,none⟩=some u)/\(∀u∈us,u.oneCell'=true)/\
   ∀i (hi:i<ys.length) j (hj:j<ys[i].length),∃u,us[i*k+j]? =some u/\Rep M (ys[i][j]) u)
  refine⟨fun e=>?_,fun jg=>?_⟩
  ·subst e;cases hr with
   |slnil=>exact⟨_,_,rfl⟩
   |slempty=>exact⟨_,_,rfl⟩
   |sl=>exact⟨_,_,rfl⟩
  ·obtain⟨bb,oo,ycap,us,q1,q2,q3,q4,q5⟩:=Wv hr jg hk.1 hk.2;exact⟨bb,oo,ycap,us,q1,q2,fun j u hu=>h.sub.1 _ _ _ (q3 j u hu),q4,q5⟩
 cases Y with
 |i x=>
  cases x with
  |sl rows=>simp only[GF,Zhp]at hs;exact first (by rw[hs])
  |_=>simp[GF]at hs
 |ref r=>
  cases r with
  |sl nm k0 lo hi=>
  simp only[GF]at hs;obtain⟨hN,aa,cap,hμ,qi,km,qq⟩:=hr;have fin:∀{e:Nat} {cur:Array Value} {b o:Nat},hi-lo=ys.length->v=.slice (some ⟨b,o+lo*k0,none⟩) (hi-lo) (cap-lo)->Owns S M w b (.cells cur e (0,0))->(Cf cur o k0 lo hi).length=(hi-lo)*k0->(∀r∈ys,r.length=k0)->
    (∀i (ja:i<ys.length) j (hj:j<ys[i].length),∃u,(Cf cur o k0 lo hi)[i*k0+j]? =some u/\Rep M (ys[i][j]) u)->
    (ys=[]->∃bb c,v=.slice bb 0 c)/\(ys≠[]->∃bb oo ycap,∃us:List Value,v=.slice (some ⟨bb,oo,none⟩) ys.length ycap/\us.length=ys.length*k/\(∀j u,us[j]? =some u->w.cell? ⟨bb,oo+j,none⟩=some u)/\(∀u∈us,u.oneCell'=true)/\
     ∀i (hi:i<ys.length) j (hj:j<ys[i].length),∃u,us[i*k+j]? =some u/\Rep M (ys[i][j]) u):=fun{e cur b o} hl hv jc vn hkk hvw=>by
   refine⟨fun e=>?_,fun jg=>?_⟩
   ·subst e;exact⟨_,_,by rw[hv,hl];rfl⟩
   ·have ju:0<ys.length:=by cases ys<;>simp_all
    obtain rfl:k0=k:=by rw[<-hkk _ (Zef ju),hk.1 _ (Zef ju)]
    refine⟨b,o+lo*k0,cap-lo,Cf cur o k0 lo hi,by rw[hv,hl],by rw[vn,hl],fun j u hu=>?_,gt hk (by rw[vn,hl]) hvw,hvw⟩;simp only[Cf,Zd8,Zd1]at hu;split at hu
    ·simp only[World.cell?,jc.heap];simpa using hu
    ·cases hu
  unfold Le at hs;split at hs
  ·rename_i e k' rs hg;split at hs
   ·rename_i hc;obtain⟨rfl,qw⟩:=hc;cases hs;rcases qq with⟨rfl,a',hv⟩|⟨b,o,rfl,hv⟩
    ·have:(rs.take hi).drop cap=[]:=by rw[Zc9];simp;omega
     rw[this];exact⟨fun _=>⟨_,_,hv⟩,fun jg=>(jg rfl).elim⟩
    ·by_cases wh:cap=0
     ·have:(rs.take hi).drop lo=[]:=by rw[Zc9];simp;omega
      rw[this];refine⟨fun _=>⟨some ⟨b,o+lo*k',none⟩,cap-lo,by rw[hv];congr 1;omega⟩,fun jg=>(jg rfl).elim⟩
     ·obtain⟨cur,jc,q1,q2,q3,q4⟩:=Ou h hg hμ (by omega);have ww:rs.length*k'<=cap*k':=Zg4 _ q3;obtain⟨v1,v2⟩:=q4.view qi qw (by omega);exact fin (by simp;omega) hv jc v1 (fun r hr=>q4.1 r (Zfl (Zfj hr))) v2
   ·cases hs
  ·rename_i e k' rs hg;split at hs
   ·rename_i hc;obtain⟨rfl,qw⟩:=hc;have ha:=Ow hs;have vw:=Lk h hg hμ;rcases qq with⟨rfl,a',hv⟩|⟨b,o,rfl,hv⟩
    ·have e0:(rs.take hi).drop cap=[]:=by rw[Zc9];simp;omega
     rw[e0]at ha;have:ys=[]:=by have:=Zae List.length ha;simp at this;exact Zdf this.symm
     subst this;exact⟨fun _=>⟨_,_,hv⟩,fun jg=>(jg rfl).elim⟩
    ·by_cases wh:cap=0
     ·have e0:(rs.take hi).drop lo=[]:=by rw[Zc9];simp;omega
      rw[e0]at ha;have:ys=[]:=by have:=Zae List.length ha;simp at this;exact Zdf this.symm
      subst this;refine⟨fun _=>⟨some ⟨b,o+lo*k',none⟩,cap-lo,by rw[hv];congr 1;omega⟩,fun jg=>(jg rfl).elim⟩
     ·obtain⟨cur,jc,q1,q2,q3,q4⟩:=Lj h hg hμ (by omega);obtain⟨v0,v3,v1,v2⟩:=q4.view qi qw (by rw[q1];omega) ha;exact fin (by omega) hv jc v1 v3 v2
   ·cases hs
  ·cases hs
  |_=>simp[GF]at hs
 |_=>simp[GF]at hs
theorem Qa{α:Type}(l:List α)(o:Nat):setL l o []=l:=by simp[setL]
theorem gu(h:Rel GL n S M μ st a w){t e:TypeId}{i:TypeInfo}{z:Value}{x y:Operand}{oy:O}{k b e' k' nm k0 lo hi:Nat}{rs:List (Option (List I))}{ys:List (List I)}(ho:o.op=.call {callee:=.builtin .append,args:=#[x,y],argTypes:=#[t,t]})
  (hd:o.dst=some d)(hn:d<n)(hr:BF μ (names st.sto) (.sl nm k0 lo hi) (a.eval x))(hy:cO GL y=some oy)(ht:P.underlying t=some (.slice e))(ja:P.info? e=some i)(hz:i.zero=some z)(hk:i.size=k)(hb:i.bytes=b)
  (vh:z.cells.size=k)(vg:0<k)(hg:Aa st.sto nm=some (.arr e' k' rs))(hsrc:GF (Aa st.sto) (AZ GL st oy)=some ys)(hs:J1 (Aa st.sto d) e' k' rs nm k0 lo hi d e k b ys st K):o.wpX P a w (Aw GL n S M w K) Q:=by
 obtain⟨rfl,rfl,rfl,qi,qw,kt,j9,hout⟩:=hs;subst hk;subst hb;obtain⟨hN,aa,cap,hμ,hlo',km,qq⟩:=hr;have wn:=Az h hy;obtain⟨s1,s2⟩:=SJ h wn hsrc kt;have vw:=Lk h hg hμ;by_cases j7:hi+ys.length<=rs.length
 ·have hs:=j9 j7;by_cases jg:ys=[]
  ·subst jg;obtain⟨bb,c,vi⟩:=s1 rfl;simp only[Ze5,Qa,Zeu,Zgn]at hs;have k9:Rel GL n S M μ (st.setB nm (.arr e' i.size rs)) a w:=by
    refine h.of (st':=st.setB nm (.arr e' i.size rs)) ⟨h.sub,fun m x hx=>?_,fun m m' k k' jg h1 h2=>?_,h.low⟩ (Mem.le_refl _) fun s v hv=>by simp only[St.setB];rw[CC];exact hv
    ·simp only[St.setB,CO]at hx⊢;rw[CC];split at hx
     ·rename_i e;subst e;rw[hg]at hx;cases hx;exact h.blk _ _ hg
     ·exact h.blk _ _ hx
    ·simp only[St.setB,CC]at h1 h2;exact h.sep m m' k k' jg h1 h2
   have hv:∃A l c',a.eval x=.slice A l c'/\(∀x,A=some x->x.spot=none\/(l=0/\c'=0))/\l<=c':=by
    rcases qq with⟨rfl,a',hv⟩|⟨b1,o1,rfl,hv⟩
    ·exact⟨a',0,0,hv,fun _ _=>.inr ⟨rfl,rfl⟩,Zgu _⟩
    ·exact⟨_,_,_,hv,fun x e=>by cases e;exact .inl rfl,by omega⟩
   obtain⟨A,l,c',hv,hsp,hlc⟩:=hv;refine B0 (v:=a.eval x) (w':=w) (Fu ho ?_) ⟨_,hs,M,μ,by rw[hd];exact k9.put hn ⟨by simp only[St.setB];rw[CC];exact hN,aa,cap,hμ,hlo',km,qq⟩,MExt.refl _ _,Keeps.refl _ _⟩;rw[hv,vi];cases A with
   |none=>cases bb<;>simp[Builtin.append_,Zaf ht,sizeOf,typeInfo,Builtin.lenOf,Builtin.firstCells,loadCells,loadCellsFrom,ja,hlc]
   |some A=>cases bb<;>simp[Builtin.append_,Zaf ht,sizeOf,typeInfo,Builtin.lenOf,Builtin.firstCells,loadCells,loadCellsFrom,storeCells,ja,hlc]
  ·obtain⟨bb,oo,ycap,us,vi,qg,hum,huo,hur⟩:=s2 jg;have ju:0<ys.length:=by cases ys<;>simp_all
   rcases qq with⟨rfl,a',hv⟩|⟨b1,o1,rfl,hv⟩
   ·omega
   ·obtain⟨cur,jc,q1,q2,q3,q4⟩:=Lj h hg hμ (by omega);have hbo:An (μ nm)=some b1:=by rw[hμ];simp only[An];rw[Zac (by omega)]
    have hmul:lo*i.size+(hi-lo)*i.size=hi*i.size:=by rw[<-Zgm];congr 1;omega
    have hm5:(hi+ys.length)*i.size<=cap*i.size:=Zg4 _ (by omega);rw[Zgm]at hm5;have hr:=Ww (P:=P) t o.type e' i ht ja b1 (o1+lo*i.size) (hi-lo) (cap-lo) cur jc.heap ⟨bb,oo,none⟩ ys.length ycap us qg (fun j u hu=>by rw[EZ];exact hum j u hu) huo (by omega) (by omega);rw[show o1+lo*i.size+(hi-lo)*i.size=o1+hi*i.size by omega]at hr;have qm:=JL w b1 (setL cur.toList (o1+hi*i.size) us).toArray jc.low;have qa:=q4.set (by rw[q1];omega) (lo:=hi) kt.1 qg hur j7;have qv:(setL rs hi (ys.map some)).length=rs.length:=CP _ _ _ (by simpa using j7);have k9:Rel GL n S M μ (st.setB nm (.arr e' i.size (setL rs hi (ys.map some)))) a (w.setRow b1 (setL cur.toList (o1+hi*i.size) us).toArray):=by
     refine h.setBlk (blk':=.arr e' i.size (setL rs hi (ys.map some))) hg hbo qm.size (fun q hq _=>Zab w b1 q _ hq) ⟨some ⟨b1,o1,none⟩,by rw[qv];rw[hμ,vw],.inr ⟨b1,o1,(setL cur.toList (o1+hi*i.size) us).toArray,rfl,?_,⟨jc.low,Zal w b1 cur _ e' _ jc.heap,jc.unk⟩,by rw[qv,q1];exact q2,?_,qa⟩⟩
     ·intro e;rw[e]at qv;simp at qv;omega
     ·rw[qv,q1];simp only[Zf6];rw[CP _ _ _ (by simp;omega)];simpa using q3
    exact B0 (Fu ho (by rw[hv,vi];exact hr)) ⟨_,hs,M,μ,by
     rw[hd];exact k9.put hn ⟨by simp only[St.setB];rw[CC];exact hN,_,cap,hμ,by omega,by omega,.inr ⟨b1,o1,rfl,by congr 1;omega⟩⟩,MExt.refl _ _,qm⟩
 ·obtain⟨as,has,hao,ke,je,hfr,hs⟩:=hout (by omega);have ha:=Ow has;have jg:ys≠[]:=fun e=>by subst e;simp at j7;omega
  obtain⟨bb,oo,ycap,us,vi,qg,hum,huo,hur⟩:=s2 jg;have ju:0<ys.length:=by cases ys<;>simp_all
  have qr:hi-lo+ys.length<=maxLen:=by simp only[maxLen];omega
  have hasl:as.length=hi-lo:=by have:=Zae List.length ha;simp at this;omega
  have qo:∀j u,us[j]? =some u->w.cell? ((⟨bb,oo,none⟩:Addr).add j)=some u:=fun j u hu=>by rw[EZ];exact hum j u hu
  have grow:∀(old:Nat) (xs:List Value),xs.length=(hi-lo)*i.size->(∀i1 (hi1:i1<as.length) j (hj:j<as[i1].length),∃u,xs[i1*i.size+j]? =some u/\Rep M (as[i1][j]) u)->
    ∀cells:Array Value,cells.toList=xs++us->(execOp a.eval o).run P w=.ok (.value (.slice (some ⟨w.heap.size,0,none⟩) (hi-lo+ys.length) (grownCap w (hi-lo+ys.length) old e'))) (w.drew.alloc (.cells (cells++Builtin.zeroCells z.cells (grownCap w (hi-lo+ys.length) old e'-(hi-lo+ys.length))) e'))->
    o.wpX P a w (Aw GL n S M w K) Q:=fun old xs vm hxr cells hcl2 jh=>by
   have hge:=Zan w (hi-lo+ys.length) old e';have hcm:grownCap w (hi-lo+ys.length) old e'<=maxLen:=Zao w (hi-lo+ys.length) old e' qr;generalize hG:grownCap w (hi-lo+ys.length) old e'=G at hge hcm jh;have kq:cells.size=(hi-lo+ys.length)*i.size:=by rw[<-Zbr,hcl2,Zel,vm,qg,Zgm]
   have hL:((as++ys).map some++List.replicate (G-(hi-lo+ys.length)) (none:Option (List I))).length=G:=by simp;omega
   have js:Ex M cells 0 i.size (as++ys):=Ov (xs:=xs) (us:=us) (by rw[vm,hasl]) hao.1 kt.1 hxr hur (fun j v hv=>by rw[Zg8];rw[<-hcl2]at hv;simpa using hv)
   have h0:Rel GL n S M μ st a (w.drew.alloc (.cells (cells++Builtin.zeroCells z.cells (G-(hi-lo+ys.length))) e')):=h.of ((h.toStoOk.drew).alloc _) (Mem.le_refl _) fun _ _ hv=>hv
   have h2:=h0.bindName (nm:=d) (b:=.arr e' i.size ((as++ys).map some++List.replicate (G-(hi-lo+ys.length)) none)) (x:=.slice (some ⟨w.heap.size,0,none⟩) 0 G) hfr hn ⟨_,by rw[Bh,hL],.inr ⟨w.heap.size,0,_,rfl,fun e=>by rw[e]at hL;simp at hL;omega,⟨fun hS=>by have:=h.low _ hS;omega,GA w.drew _,Mem.unk_new h.sub (Zgu _)⟩,by rw[hL];exact hcm,?_,?_⟩⟩ (fun m q hm hq=>?_)
   ·exact B0 jh ⟨_,hs (G-(hi-lo+ys.length)),M,_,by
     rw[hd];exact h2.put hn ⟨D9,_,G,Bh _ _ _,by omega,hge,.inr ⟨w.heap.size,0,rfl,by simp⟩⟩,MExt.refl _ _,(Keeps.refl S w).drew.trans (FW w.drew _ h.low)⟩
   ·rw[hL];simp only[Zbt,Zap,vh,kq,Zg8,<-Zgm];congr 1;omega
   ·intro i1 r hr;by_cases jn:i1<(as++ys).length
    ·rw[Zdy (by simpa using jn),Zd5,Zd2 jn]at hr;simp only[Zhn,Zhp]at hr;subst hr;refine⟨js.1 _ (Zef jn),fun j hj=>?_⟩;obtain⟨v,hv,hr⟩:=js.2 i1 jn j hj;refine⟨v,?_,hr⟩;rw[Zbg (Zbj.1 hv).1];exact hv
    ·rw[Zdz (by simpa using jn),Zd6]at hr;split at hr<;>cases hr
   ·have:=(h.toStoOk.lt hm hq).1;simp only[An];rw[Zac (by omega)];intro e;cases e;omega
  rcases qq with⟨rfl,a',hv⟩|⟨b1,o1,rfl,hv⟩
  ·obtain rfl:hi=cap:=by omega
   have has0:as=[]:=Zdf (by omega);subst has0;cases a' with
   |none=>have hr:=run_append_nil (P:=P) w t o.type e' i z ht ja hz ⟨bb,oo,none⟩ ys.length ycap us qg qo ju (by omega) (by have hb:=ke;simp only[Zg5,Zg8]at hb;omega);refine grow 0 [] (by simp) (fun i1 h1=>by simp at h1) us.toArray (by simp) (Fu ho ?_);rw[hv,vi];simpa using hr
   |some aa=>have hr:=Zaq (P:=P) w t o.type e' i z ht ja hz aa 0 0 [] (by simp) (by simp) ⟨bb,oo,none⟩ ys.length ycap us qg qo (by omega) (by omega) (Zar (by omega) (by simpa using ke));refine grow 0 [] (by simp) (fun i1 h1=>by simp at h1) us.toArray (by simp) (Fu ho ?_);rw[hv,vi];simpa using hr
  ·by_cases wh:cap=0
   ·subst wh;obtain rfl:lo=0:=by omega
    obtain rfl:hi=0:=by omega
    have has0:as=[]:=Zdf (by omega);subst has0;have hr:=Zaq (P:=P) w t o.type e' i z ht ja hz ⟨b1,o1+0*i.size,none⟩ 0 0 [] (by simp) (by simp) ⟨bb,oo,none⟩ ys.length ycap us qg qo (by omega) (by omega) (Zar (by omega) (by simpa using ke));refine grow 0 [] (by simp) (fun i1 h1=>by simp at h1) us.toArray (by simp) (Fu ho ?_);rw[hv,vi];simpa using hr
   ·obtain⟨cur,jc,q1,q2,q3,q4⟩:=Lj h hg hμ (by omega);obtain⟨v0,v3,v1,v2⟩:=q4.view qi qw (by rw[q1];omega) ha;have hr:=Zaq (P:=P) w t o.type e' i z ht ja hz ⟨b1,o1+lo*i.size,none⟩ (hi-lo) (cap-lo) (Cf cur o1 i.size lo hi) v1 (fun j v hv=>by
     simp only[Cf,Zd8,Zd1]at hv;split at hv
     ·rw[EZ];simp[World.cell?,jc.heap];simpa using hv
     ·cases hv) ⟨bb,oo,none⟩ ys.length ycap us qg qo (by omega) (by omega) (Zar (by omega) ke)
    refine grow (cap-lo) (Cf cur o1 i.size lo hi) v1 v2 ((Cf cur o1 i.size lo hi).toArray++us.toArray) (by simp) (Fu ho ?_);rw[hv,vi];exact hr
theorem gv(h:Rel GL n S M μ st a w){t e:TypeId}{i:TypeInfo}{z:Value}{x y:Operand}{ox oy:O}{k b:Nat}{t':TypeId}(ho:o.op=.call {callee:=.builtin .append,args:=#[x,y],argTypes:=#[t,t']})(htt:t=t')
  (hd:o.dst=some d)(hn:d<n)(hx:cO GL x=some ox)(hy:cO GL y=some oy)(ht:P.underlying t=some (.slice e))(hi:P.info? e=some i)(hz:i.zero=some z)(hk:i.size=k)(hb:i.bytes=b)
  (vh:z.cells.size=k)(vg:0<k)(hs:step P GL (.app d e k b ox oy) st K):o.wpX P a w (Aw GL n S M w K) Q:=by
 subst htt;have hr:=Az h hx;have wn:=Az h hy;simp only[step,I2]at hs;split at hs
 rotate_left
 ·exact hs.elim
 rename_i nm k0 lo ja e1;rw[e1]at hr;unfold J2 at hs;split at hs
 ·rename_i e' k' rs hg;split at hs
  ·rename_i ys hsrc;exact gu h ho hd hn hr hy ht hi hz hk hb vh vg hg hsrc hs
  ·exact hs.elim
 split at hs
 ·rename_i rows e2;rw[e2]at wn;obtain⟨hN,aa,cap,hμ,qi,km,qq⟩:=hr;have wn:=AE wn;unfold JT at hs;split at hs
  ·rename_i e' k' rs hg;obtain⟨hpin,rfl,rfl,rfl,qw,wv,kt,ke,je,hs⟩:=hs;have hpin:¬pinned nm:=fun hp=>by unfold pinned at hp;simp only[Zcb,Zgp,Zgo]at hpin;omega
   subst hk;subst hb;have hn0:names st.sto nm:=by simp[names,hg]
   have fin:∀(x':Value) (v':Value) (w':World),(execOp a.eval o).run P w=.ok (.value v') w'->w.heap.size<=w'.heap.size->Keeps S w w'->(∀q,q<w.heap.size->An (μ nm)≠some q->w'.heap[q]? =w.heap[q]?)->
     (∀q,An x'=some q->An (μ nm)=some q\/w.heap.size<=q)->AP S M (BA μ nm x') (fun _=>False) w' nm (.rows e' i.size ((rs.take ja).drop lo++rows))->Of x' i.size 0 (ja-lo+rows.length) v'->
     o.wpX P a w (Aw GL n S M w K) Q:=fun x' v' w' jh h1 h2 h3 h4 h5 h6=>by
    have k9:=h.reset hpin (blk':=.rows e' i.size ((rs.take ja).drop lo++rows)) hg h1 h3 h4 h5;refine B0 jh ⟨_,hs,M,BA μ nm x',?_,MExt.refl _ _,h2⟩;rw[hd];exact k9.put hn ⟨by simp[names,St.setB,CO,Hl,hg],by rw[Bh];exact h6⟩
   by_cases jg:rows=[]
   ·
    subst jg;have vi:∃bb c,a.eval y=.slice bb 0 c:=by
     generalize a.eval y=vy at wn;cases wn with
     |slnil=>exact⟨_,_,rfl⟩
     |slempty=>exact⟨_,_,rfl⟩
     |sl=>exact⟨_,_,rfl⟩
    obtain⟨bb,c,vi⟩:=vi;rcases qq with⟨rfl,a',hv⟩|⟨b1,o1,rfl,hv⟩
    ·obtain rfl:ja=cap:=by omega
     have js:(rs.take ja).drop ja=[]:=by rw[Zc9];simp;omega
     refine fin (.slice a' 0 0) (.slice a' 0 0) w ?_ (Zgu _) (Keeps.refl _ _) (fun _ _ _=>rfl) (fun q hq=>by cases a'<;>simp[An]at hq) ⟨a',0,Bh _ _ _,.inl ⟨rfl,by rw[js];rfl⟩⟩ (by
      have:ja-ja+([]:List (List I)).length=0:=by simp
      rw[this];exact J5 _ _)
     refine Fu ho ?_;rw[hv,vi];cases a' with
     |none=>exact SI t _ _ i ht hi none (by simp) _ _ (Zgu _) bb c
     |some aa=>cases bb<;>simp[Builtin.append_,Zaf ht,sizeOf,typeInfo,Builtin.lenOf,Builtin.firstCells,loadCells,loadCellsFrom,storeCells,hi]
    ·by_cases wh:cap=lo
     ·subst wh;obtain rfl:ja=cap:=by omega
      have js:(rs.take ja).drop ja=[]:=by rw[Zc9];simp;omega
      rw[Zg5]at hv;refine fin (.slice (some ⟨b1,o1+ja*i.size,none⟩) 0 0) (.slice (some ⟨b1,o1+ja*i.size,none⟩) 0 0) w ?_ (Zgu _) (Keeps.refl _ _) (fun _ _ _=>rfl) (fun q hq=>by simp[An]at hq) ⟨_,0,Bh _ _ _,.inl ⟨rfl,by rw[js];rfl⟩⟩ (by
       have:ja-ja+([]:List (List I)).length=0:=by simp
       rw[this];exact J5 _ _)
      exact Fu ho (by rw[hv,vi];exact SI t _ _ i ht hi _ (by simp) _ _ (Zgu _) bb c)
     ·obtain⟨cur,jc,q1,q2,q3,q4⟩:=Ou h hg hμ (by omega);have hmul:lo*i.size+(cap-lo)*i.size=cap*i.size:=by rw[<-Zgm];congr 1;omega
      have ww:rs.length*i.size<=cap*i.size:=Zg4 _ q3;have hbo:An (μ nm)=some b1:=by rw[hμ];simp only[An];rw[Zac (by omega)]
      obtain⟨v1,v2⟩:=q4.view qi qw (by omega);refine fin (.slice (some ⟨b1,o1+lo*i.size,none⟩) 0 (cap-lo)) _ w (Fu ho (by rw[hv,vi];exact SI t _ _ i ht hi _ (by simp) _ _ (by omega) bb c)) (Zgu _) (Keeps.refl _ _) (fun _ _ _=>rfl)
       (fun q hq=>.inl (by simp only[An]at hq;rw[Zac (by omega)]at hq;rw[hbo];exact hq)) ⟨_,_,Bh _ _ _,.inr ⟨b1,_,cur,rfl,by omega,jc,by omega,by omega,by simp;omega,?_⟩⟩ ⟨_,_,rfl,by omega,by simp;omega,.inr ⟨b1,_,rfl,by simp⟩⟩
      refine Ov (as:=(rs.take ja).drop lo) (bs:=[]) (xs:=Cf cur o1 i.size lo ja) (us:=[]) (by rw[v1];congr 1;simp;omega) (fun r hr=>q4.1 r (Zfl (Zfj hr))) (by simp) v2 (by simp) (fun j v hv=>?_);simp only[Zc1,Cf,Zd8,Zd1]at hv;split at hv
      ·simpa using hv
      ·cases hv
   ·
    obtain⟨bb,oo,ycap,us,vi,qg,hum,huo,hur⟩:=Wv wn jg wv kt;have ju:0<rows.length:=by cases rows<;>simp_all
    have qo:∀j u,us[j]? =some u->w.cell? ((⟨bb,oo,none⟩:Addr).add j)=some u:=fun j u hu=>by rw[EZ];exact h.sub.1 _ _ _ (hum j u hu)
    have qr:ja-lo+rows.length<=maxLen:=by simp only[maxLen];omega
    have hasl:((rs.take ja).drop lo).length=ja-lo:=by simp;omega
    have grow:∀(old:Nat) (xs:List Value),xs.length=(ja-lo)*i.size->(∀i_1 (hi_1:i_1<((rs.take ja).drop lo).length) j (hj:j<((rs.take ja).drop lo)[i_1].length),∃u,xs[i_1*i.size+j]? =some u/\Rep M (((rs.take ja).drop lo)[i_1][j]) u)->(∀r∈(rs.take ja).drop lo,r.length=i.size)->
      ∀cells:Array Value,cells.toList=xs++us->(execOp a.eval o).run P w=.ok (.value (.slice (some ⟨w.heap.size,0,none⟩) (ja-lo+rows.length) (grownCap w (ja-lo+rows.length) old e'))) (w.drew.alloc (.cells (cells++Builtin.zeroCells z.cells (grownCap w (ja-lo+rows.length) old e'-(ja-lo+rows.length))) e'))->
      o.wpX P a w (Aw GL n S M w K) Q:=fun old xs vm hxr hka cells vw jh=>by
     have hge:=Zan w (ja-lo+rows.length) old e';have hcm:grownCap w (ja-lo+rows.length) old e'<=maxLen:=Zao w (ja-lo+rows.length) old e' qr;have kq:cells.size=(ja-lo+rows.length)*i.size:=by rw[<-Zbr,vw,Zel,vm,qg,Zgm]
     refine fin (.slice (some ⟨w.heap.size,0,none⟩) 0 (grownCap w (ja-lo+rows.length) old e')) _ _ jh (by rw[Ml];show w.heap.size<=w.heap.size+1;omega) ((Keeps.refl S w).drew.trans (FW w.drew _ h.low)) (fun q hq _=>Sl w.drew _ q hq)
      (fun q hq=>.inr (by simp only[An]at hq;split at hq;cases hq;cases hq;exact Zgu _)) ⟨_,_,Bh _ _ _,.inr ⟨w.heap.size,0,_,rfl,by omega,⟨fun hS=>by have:=h.low _ hS;omega,GA w.drew _,Mem.unk_new h.sub (Zgu _)⟩,hcm,?_,?_,?_⟩⟩
      ⟨_,_,rfl,by omega,hge,.inr ⟨w.heap.size,0,rfl,by simp⟩⟩
     ·simp only[Zbt,Zap,vh,kq,Zg8,<-Zgm];congr 1;omega
     ·simp only[Zel,hasl];omega
     ·refine Ov (xs:=xs) (us:=us) (by rw[vm,hasl]) hka wv hxr hur (fun j v hv=>?_);rw[Zg8,Zbg]
      ·rw[<-vw]at hv;simpa using hv
      ·rw[<-vw]at hv;simpa using(Zd4.1 hv).1
    rcases qq with⟨rfl,a',hv⟩|⟨b1,o1,rfl,hv⟩
    ·obtain rfl:ja=cap:=by omega
     have js:(rs.take ja).drop ja=[]:=by rw[Zc9];simp;omega
     cases a' with
     |none=>have hr:=run_append_nil (P:=P) w t o.type e' i z ht hi hz ⟨bb,oo,none⟩ rows.length ycap us qg qo ju (by omega) (by have hb:=ke;simp only[Zg5,Zg8]at hb;omega);refine grow 0 [] (by simp) (fun i1 h1=>by rw[js]at h1;simp at h1) (fun r hr=>by rw[js]at hr;simp at hr) us.toArray (by simp) (Fu ho ?_);rw[hv,vi];simpa using hr
     |some aa=>have hr:=Zaq (P:=P) w t o.type e' i z ht hi hz aa 0 0 [] (by simp) (by simp) ⟨bb,oo,none⟩ rows.length ycap us qg qo (by omega) (by omega) (Zar (by omega) (by simpa using ke));refine grow 0 [] (by simp) (fun i1 h1=>by rw[js]at h1;simp at h1) (fun r hr=>by rw[js]at hr;simp at hr) us.toArray (by simp) (Fu ho ?_);rw[hv,vi];simpa using hr
    ·by_cases wh:cap=lo
     ·subst wh;obtain rfl:ja=cap:=by omega
      have js:(rs.take ja).drop ja=[]:=by rw[Zc9];simp;omega
      rw[Zg5]at hv;have hr:=Zaq (P:=P) w t o.type e' i z ht hi hz ⟨b1,o1+ja*i.size,none⟩ 0 0 [] (by simp) (by simp) ⟨bb,oo,none⟩ rows.length ycap us qg qo (by omega) (by omega) (Zar (by omega) (by simpa using ke));refine grow 0 [] (by simp) (fun i1 h1=>by rw[js]at h1;simp at h1) (fun r hr=>by rw[js]at hr;simp at hr) us.toArray (by simp) (Fu ho ?_);rw[hv,vi];simpa using hr
     ·obtain⟨cur,jc,q1,q2,q3,q4⟩:=Ou h hg hμ (by omega);have hmul:lo*i.size+(cap-lo)*i.size=cap*i.size:=by rw[<-Zgm];congr 1;omega
      have hmul2:lo*i.size+(ja-lo)*i.size=ja*i.size:=by rw[<-Zgm];congr 1;omega
      have hhl:ja*i.size<=cap*i.size:=Zg4 _ km;have ww:rs.length*i.size<=cap*i.size:=Zg4 _ q3;have hbo:An (μ nm)=some b1:=by rw[hμ];simp only[An];rw[Zac (by omega)]
      obtain⟨v1,v2⟩:=q4.view qi qw (by omega);have hka:∀r∈(rs.take ja).drop lo,r.length=i.size:=fun r hr=>q4.1 r (Zfl (Zfj hr))
      by_cases j7:ja-lo+rows.length<=cap-lo
      ·have hm5:(ja-lo+rows.length)*i.size<=(cap-lo)*i.size:=Zg4 _ j7;rw[Zgm]at hm5;have hr:=Ww (P:=P) t o.type e' i ht hi b1 (o1+lo*i.size) (ja-lo) (cap-lo) cur jc.heap ⟨bb,oo,none⟩ rows.length ycap us qg qo huo j7 (by omega);have qm:=JL w b1 (setL cur.toList (o1+lo*i.size+(ja-lo)*i.size) us).toArray jc.low;refine fin (.slice (some ⟨b1,o1+lo*i.size,none⟩) 0 (cap-lo)) _ _ (Fu ho (by rw[hv,vi];exact hr)) qm.size qm (fun q _ hq=>Zab w b1 q _ (fun e=>hq (by rw[hbo,e])))
        (fun q hq=>.inl (by simp only[An]at hq;rw[Zac (by omega)]at hq;rw[hbo];exact hq)) ⟨_,_,Bh _ _ _,.inr ⟨b1,_,_,rfl,by omega,⟨jc.low,Zal w b1 cur _ e' _ jc.heap,jc.unk⟩,by omega,?_,by rw[Zel,hasl];exact j7,?_⟩⟩ ⟨_,_,rfl,by omega,j7,.inr ⟨b1,_,rfl,by simp⟩⟩
       ·simp only[Zf6];rw[CP _ _ _ (by simp;omega)];simp;omega
       ·refine Ov (xs:=Cf cur o1 i.size lo ja) (us:=us) (by rw[v1,hasl]) hka wv v2 hur (fun j v hv=>?_);simp only[Zd9];rw[I5 _ _ _ (by simp;omega)];by_cases hj:j<(ja-lo)*i.size
        ·rw[Zdy (by rw[v1];exact hj)]at hv;rw[Zac (by omega)];simp only[Cf,Zd8,Zaa hj,Zd1]at hv;exact hv
        ·rw[Zdz (by rw[v1];omega),v1]at hv;have:=(Zd4.1 hv).1;rw[Zaa (by omega),<-hv];congr 1;omega
      ·have hr:=Zaq (P:=P) w t o.type e' i z ht hi hz ⟨b1,o1+lo*i.size,none⟩ (ja-lo) (cap-lo) (Cf cur o1 i.size lo ja) v1 (fun j v hv=>by
        simp only[Cf,Zd8,Zd1]at hv;split at hv
        ·rw[EZ];simp[World.cell?,jc.heap];simpa using hv
        ·cases hv) ⟨bb,oo,none⟩ rows.length ycap us qg qo (by omega) (by omega) (Zar (by omega) ke)
       refine grow (cap-lo) (Cf cur o1 i.size lo ja) v1 v2 hka ((Cf cur o1 i.size lo ja).toArray++us.toArray) (by simp) (Fu ho ?_);rw[hv,vi];exact hr
  ·exact hs.elim
 ·exact hs.elim
theorem Ox{k:IntKind}{v:Value}{i:Int}{y:Nat}{c:BoundsCode}(hv:v=.int k i)(h:0<=i/\i<=(y:Int)):(Instr.sliceBound v y c).run P w=.ok i.toNat w:=by subst hv;simp only[Instr.sliceBound,asIntOf,Sem.run_bind,Sem.run_pure,Result.andThen_ok,Zaa h]
theorem gw{isS:Bool}{l u:Nat}{lo hi:Option Value}(qw:(hi=none/\u=len)\/∃k,hi=some (.int k (u:Int)))(qi:(lo=none/\l=0)\/∃k,lo=some (.int k (l:Int)))(hlu:l<=u)(huc:u<=cap):
  (Instr.sliceBounds isS len cap lo hi none).run P w=.ok (l,u,cap) w:=by
 have b1:∀(k:IntKind) (i y:Nat) (c:BoundsCode),i<=y->(Instr.sliceBound (.int k (i:Int)) y c).run P w=.ok i w:=fun k i y c hy=>by rw[Ox rfl ⟨by omega,by omega⟩];simp
 rcases qw with⟨rfl,rfl⟩|⟨k,rfl⟩<;>rcases qi with⟨rfl,rfl⟩|⟨k',rfl⟩<;>
  simp[Instr.sliceBounds,b1 _ _ _ _ huc,b1 _ _ _ _ hlu]
theorem Qb(h:Rel GL n S M μ st a w){isS:Bool}{len cap top:Nat}{lo hi:Option Operand}{olo ohi:Option O}(qi:lo.map (cO GL)=olo.map some)(qw:hi.map (cO GL)=ohi.map some){T:Nat->Nat->Prop}(htop:top<=cap)
  (hs:EC (Wd (olo.map (AZ GL st))) (eY (len:Int) (ohi.map (AZ GL st))) top T):∃l u,l<=u/\u<=top/\T l u/\(Instr.sliceBounds isS len cap (lo.map a.eval) (hi.map a.eval) none).run P w=.ok (l,u,cap) w:=by
 unfold EC at hs;split at hs
 ·rename_i l u e1 e2;obtain⟨⟨b1,b2,b3⟩,hT⟩:=hs;refine⟨l.toNat,u.toNat,by omega,by omega,hT,gw ?_ ?_ (by omega) (by omega)⟩
  ·cases hi with
   |none=>
    cases ohi with
    |some ox=>simp at qw
    |none=>simp only[Zhm,eY,Zhp]at e2;exact .inl ⟨rfl,by omega⟩
   |some x=>
    cases ohi with
    |none=>simp at qw
    |some ox=>
     simp only[Zhn,Zhp]at qw;have hr:=Az h qw;simp only[Zhn]at e2;generalize AZ GL st ox=V at hr e2;unfold eY at e2;split at e2<;>cases e2
     ·rename_i q;cases q
     ·rename_i q;cases q;exact .inr ⟨_,by simp only[Zhn];rw[Ce (AE hr),Zcp (by omega)]⟩
  ·cases lo with
   |none=>
    cases olo with
    |some ox=>simp at qi
    |none=>simp only[Zhm,Wd,Zhp]at e1;exact .inl ⟨rfl,by omega⟩
   |some x=>
    cases olo with
    |none=>simp at qi
    |some ox=>
     simp only[Zhn,Zhp]at qi;have hr:=Az h qi;simp only[Zhn]at e1;generalize AZ GL st ox=V at hr e1;unfold Wd at e1;split at e1<;>cases e1
     ·rename_i q;cases q
     ·rename_i q;cases q;exact .inr ⟨_,by simp only[Zhn];rw[Ce (AE hr),Zcp (by omega)]⟩
 ·exact hs.elim
theorem Rep.slice{rows:List (List I)}{l u:Nat}{aa:Option Addr}(h:Rep M (.sl rows) (.slice aa len cap))(hk:∀r∈rows,r.length=k)(hlu:l<=u)(hu:u<=rows.length):
  Rep M (.sl ((rows.take u).drop l)) (.slice (if cap=l then aa else aa.map (·.add (l*k))) (u-l) (cap-l)):=by
 have je:((rows.take u).drop l).length=u-l:=by simp;omega
 by_cases he:u=l
 ·subst he;have:(rows.take u).drop u=[]:=Zdf (by omega);rw[this,Zg5];cases h with
  |slnil=>simp;exact .slnil
  |slempty a cap=>split<;>exact .slempty _ _
  |sl _=>split<;>exact .slempty _ _
 ·cases h with
  |slnil=>simp at hu;omega
  |slempty=>simp at hu;omega
  |sl _ k' b o cap v jk hc hm hr=>
   have ju:0<rows.length:=by omega
   obtain rfl:k'=k:=by rw[<-jk _ (Zef ju),hk _ (Zef ju)]
   rw[Zac (by omega)];simp only[Zhn,EZ];have ki:∀i (ja:i<((rows.take u).drop l).length),((rows.take u).drop l)[i]=rows[l+i]'(by omega):=fun i ja=>by simp
   have:=Rep.sl (M:=M) ((rows.take u).drop l) k' b (o+l*k') (cap-l) (fun i j=>v (l+i) j) (fun r hr=>hk r (Zfl (Zfj hr))) (by omega)
    (fun i ja j hj=>by rw[ki i ja]at hj;have:=hm (l+i) (by omega) j hj;rw[show o+l*k'+i*k'+j=o+(l+i)*k'+j by rw[Zgm];omega];exact this)
    (fun i ja j hj=>by
     have jp:=hj;rw[ki i ja]at jp;have e:((rows.take u).drop l)[i][j]=rows[l+i][j]:=by simp
     rw[e];exact hr (l+i) (by omega) j jp)
   rw[je]at this;exact this
theorem SK{t e:TypeId}{x:Operand}{lo hi:Option Operand}{l u:Nat}{aa:Option Addr}(ho:o.op=.slice t x lo hi none)(hu:P.underlying t=some (.slice e))(hk:PY P e=some k)(hx:a.eval x=.slice aa len cap)
  (hb:(Instr.sliceBounds true len cap (lo.map a.eval) (hi.map a.eval) none).run P w=.ok (l,u,cap) w):
  (execOp a.eval o).run P w=.ok (.value (.slice (if cap=l then aa else aa.map (·.add (l*k))) (u-l) (cap-l))) w:=by
 simp only[execOp,ho,hx,Instr.sliceAt,Instr.slice,Sem.run_bind,Zaf hu w,Result.andThen_ok,Zhm,hb,EE hk,Sem.run_pure]
theorem gx(h:Rel GL n S M μ st a w){t e:TypeId}{x:Operand}{ox:O}{lo hi:Option Operand}{olo ohi:Option O}{k:Nat}(ho:o.op=.slice t x lo hi none)(hd:o.dst=some d)(hn:d<n)(hx:cO GL x=some ox)
  (qi:lo.map (cO GL)=olo.map some)(qw:hi.map (cO GL)=ohi.map some)(hu:P.underlying t=some (.slice e))(hk:PY P e=some k)(hs:step P GL (.slc d ox olo ohi k) st K):o.wpX P a w (Aw GL n S M w K) Q:=by
 have hr:=Az h hx;simp only[step,K4]at hs;split at hs
 ·rename_i rows e1;rw[e1]at hr;have hr:=AE hr;obtain⟨wv,hs⟩:=hs;obtain⟨aa,len,cap,hv,je,km⟩:∃aa len cap,a.eval x=.slice aa len cap/\len=rows.length/\rows.length<=cap:=by
   generalize a.eval x=vx at hr;cases hr with
   |slnil=>exact⟨_,_,_,rfl,rfl,Zgu _⟩
   |slempty=>exact⟨_,_,_,rfl,rfl,Zg9 _⟩
   |sl _ _ _ _ _ _ _ hc=>exact⟨_,_,_,rfl,rfl,hc⟩
  subst je;obtain⟨l,u,q1,q2,hT,hb⟩:=Qb (P:=P) h (isS:=true) qi qw km hs;rw[hv]at hr;exact AX h hd hn (SK ho hu hk hv hb) (AJ (hr.slice wv q1 q2)) hT
 ·rename_i nm k0 lo' ja e1;rw[e1]at hr;obtain⟨hN,aa,cap,hμ,h1,h2,hh⟩:=hr;have core:∀R:Nat,R<=cap->k0=k->EC (Wd (Option.map (AZ GL st) olo)) (eY ((ja-lo':Nat):Int) (Option.map (AZ GL st) ohi)) (R-lo') (fun a c=>K (st.put d (.ref (.sl nm k (lo'+a) (lo'+c)))))->o.wpX P a w (Aw GL n S M w K) Q:=by
   intro R hrc hkk hs;subst hkk;rcases hh with⟨rfl,a',hv⟩|⟨b,oo,rfl,hv⟩
   ·obtain rfl:ja=cap:=by omega
    have e0:R-ja=0:=by omega
    have e00:ja-ja=0:=by omega
    rw[e0,e00]at hs;obtain⟨l,u,q1,q2,hT,hb⟩:=Qb (P:=P) (cap:=0) h (isS:=true) qi qw (Zgu _) hs;obtain rfl:u=0:=by omega
    obtain rfl:l=0:=by omega
    refine AX h hd hn (SK ho hu hk hv hb) (x:=.ref (.sl nm k0 (ja+0) (ja+0))) ⟨hN,aa,ja,hμ,by omega,by omega,.inl ⟨by omega,?_⟩⟩ hT;simp
   ·obtain⟨l,u,q1,q2,hT,hb⟩:=Qb (P:=P) (cap:=cap-lo') h (isS:=true) qi qw (by omega) hs;refine AX h hd hn (SK ho hu hk hv hb) (x:=.ref (.sl nm k0 (lo'+l) (lo'+u))) ⟨hN,_,cap,hμ,by omega,by omega,?_⟩ hT;by_cases hc:cap-lo'=l
    ·refine .inl ⟨by omega,?_⟩;have e1:u-l=0:=by omega
     simp_all
    ·refine .inr ⟨b,oo,rfl,?_⟩;rw[Zac hc];simp only[Zhn,EZ];grind
  unfold Mv at hs;split at hs
  ·rename_i et k' rs hg;obtain⟨rfl,rfl,hs⟩:=hs;refine core rs.length ?_ rfl hs;obtain⟨aa',cap',e2,hbk⟩:=h.blk nm _ hg;rw[hμ]at e2;injection e2 with _ _ e2;subst e2
   rcases hbk with⟨rfl,rfl⟩|⟨_,_,_,_,_,_,_,_,q,_⟩
   ·simp
   ·exact q
  ·rename_i et k' rs hg;obtain⟨rfl,rfl,hs⟩:=hs;exact core rs.length (by rw[Lk h hg hμ];exact Zgu _) rfl hs
  ·exact hs.elim
 ·exact hs.elim
theorem gy(h:Rel GL n S M μ st a w){t e:TypeId}{x:Operand}{ox:O}{hi mx:Operand}{k ee:Nat}{k1 k2:IntKind}(ho:o.op=.slice t x none (some hi) (some mx))(hh:hi=.const (.int k1 0))(hm:mx=.const (.int k2 0))(hd:o.dst=some d)(hn:d<n)(hx:cO GL x=some ox)
  (hu:P.underlying t=some (.slice e))(hk:PY P e=some k)(hs:step P GL (.slc0 d ee k ox) st K):o.wpX P a w (Aw GL n S M w K) Q:=by
 have hr:=Az h hx;simp only[step,Mw]at hs;split at hs
 ·rename_i rows jl e1;rw[e1]at hr;have hr:=AE hr;obtain⟨aa,len,cap,hv⟩:∃aa len cap,a.eval x=.slice aa len cap:=by
   generalize a.eval x=vx at hr;cases hr with
   |slnil=>exact⟨_,_,_,rfl⟩
   |slempty=>exact⟨_,_,_,rfl⟩
   |sl _ _ _ _ _ _ _ hc=>exact⟨_,_,_,rfl⟩
  have b1:∀(k:IntKind) (y:Nat) (c:BoundsCode),(Instr.sliceBound (.int k 0) y c).run P w=.ok 0 w:=fun k y c=>Ox (i:=0) rfl ⟨by omega,by omega⟩
  have qd:(execOp a.eval o).run P w=.ok (.value (.slice aa 0 0)) w:=by
   subst hh;subst hm;have ec:∀v,a.eval (.const v)=v:=fun _=>rfl
   simp[execOp,ho,hv,Instr.sliceAt,Instr.slice,Zaf hu w,Instr.sliceBounds,b1,EE hk,ec]
  exact B0 qd ⟨_,hs,M,_,by rw[hd];exact(h.bindEmpty jl hn aa ee k).put hn ⟨D9,by rw[Bh];exact J5 _ _⟩,MExt.refl _ _,Keeps.refl _ _⟩
 ·exact hs.elim
theorem gz(s:List UInt8)(l u:Nat)(hlu:l<=u)(hu:u<=s.length):(By s).extract l u=By ((s.take u).drop l):=by
 have:((By s).extract l u).data=(By ((s.take u).drop l)).data:=by simp[By,ByteArray.data_extract];rw[List.drop_take]
 cases h:(By s).extract l u;simp_all
theorem gA(h:Rel GL n S M μ st a w){t:TypeId}{x:Operand}{ox:O}{lo hi:Option Operand}{olo ohi:Option O}(ho:o.op=.slice t x lo hi none)(hd:o.dst=some d)(hn:d<n)(hx:cO GL x=some ox)
  (qi:lo.map (cO GL)=olo.map some)(qw:hi.map (cO GL)=ohi.map some)(hu:P.underlying t=some .string)(hs:step P GL (.sslc d ox olo ohi) st K):o.wpX P a w (Aw GL n S M w K) Q:=by
 have hr:=Az h hx;simp only[step,K5]at hs;split at hs
 ·rename_i s e1;rw[e1]at hr;have hv:=GK (AE hr);obtain⟨l,u,q1,q2,hT,hb⟩:=Qb (P:=P) (cap:=s.length) h (isS:=false) qi qw (Zgu _) hs;refine AX h hd hn (v:=.string (By ((s.take u).drop l))) ?_ (AJ (.str _)) hT;rw[<-gz s l u q1 q2];simp[execOp,ho,hv,Instr.sliceAt,Instr.slice,Zaf hu w,Su,hb]
 ·exact hs.elim
end
end Go.Dl
end
section
namespace Go.Dl
open Go Go.RowKit
variable{k:Nat}
section
variable {P:Program}{GL:List (Nat×List I)}{n:Nat}{S:Sh}{M:Mem}{μ:Place}{st:St}{a:Act}{w:World}{K:St->Prop}{Q:Exit->Act->World->Prop}{o:Oper}{d:Nat}
theorem gB(us:List Value):∀(off j:Nat) (cs:Array Value),((us.zipIdx j).foldl (fun cs x=>cs.setIfInBounds (off+x.2) x.1) cs).size=cs.size/\
  ∀p,((us.zipIdx j).foldl (fun cs x=>cs.setIfInBounds (off+x.2) x.1) cs)[p]? =if off+j<=p/\p<off+j+us.length/\p<cs.size then us[p-off-j]? else cs[p]? :=by
 induction us with
 |nil=>intro off j cs;refine⟨rfl,fun p=>?_⟩;rw[Zac (by simp;omega)];rfl
 |cons u us ih=>
  intro off j cs;simp only[Zgk,Zdt];obtain⟨h1,h2⟩:=ih off (j+1) (cs.setIfInBounds (off+j) u);refine⟨by rw[h1];simp,fun p=>?_⟩;rw[h2 p];simp only[Array.size_setIfInBounds,Zem,Zbm];by_cases hp:p=off+j
  ·subst hp;rw[Zac (fun hh=>by omega)];by_cases hs:off+j<cs.size
   ·rw[Zaa rfl,Zaa hs,Zaa ⟨Zgu _,by omega,hs⟩];simp
   ·rw[Zaa rfl,Zac hs,Zac (fun hh=>hs hh.2.2)];simp;omega
  ·by_cases hc:off+(j+1)<=p/\p<off+(j+1)+us.length/\p<cs.size
   ·rw[Zaa hc,Zaa ⟨by omega,by omega,hc.2.2⟩];rw[show p-off-j=(p-off-(j+1))+1 by omega];simp
   ·rw[Zac hc,Zac (fun h=>hp h.symm),Zac (fun hh=>hc ⟨by omega,by omega,hh.2.2⟩)]
theorem gC(us cs:Array Value)(off:Nat)(h:off+us.size<=cs.size):(us.zipIdx.foldl (fun cs (c,j)=>cs.setIfInBounds (off+j) c) cs)=(setL cs.toList off us.toList).toArray:=by
 have:=gB us.toList off 0 cs;have e:us.zipIdx.foldl (fun cs (c,j)=>cs.setIfInBounds (off+j) c) cs=(us.toList.zipIdx 0).foldl (fun cs x=>cs.setIfInBounds (off+x.2) x.1) cs:=by rw[<-Array.foldl_toList,Array.toList_zipIdx]
 rw[e];apply Array.ext_getElem?;grind[I5]
theorem Ak.setL{zs cs:List I}{vs us:List Value}{off:Nat}(h:Ak M zs vs)(k:Ak M cs us)(kd:off+cs.length<=zs.length):Ak M (setL zs off cs) (Dl.setL vs off us):=by
 have e1:=h.1;have e2:=k.1;refine⟨by rw[CP _ _ _ (by omega),CP _ _ _ (by omega)];exact e1,fun j a b=>?_⟩;have g1:(Dl.setL zs off cs)[j]? =some ((Dl.setL zs off cs)[j]):=Zd2 a;have g2:(Dl.setL vs off us)[j]? =some ((Dl.setL vs off us)[j]):=Zd2 b;rw[I5 _ _ _ (by omega)]at g1 g2;rw[CP _ _ _ (by omega)]at a b;by_cases hc:off<=j/\j<off+cs.length
 ·rw[Zaa hc,Zd2 (by omega)]at g1;rw[Zaa (by omega),Zd2 (by omega)]at g2;rw[<-Zho g1,<-Zho g2];exact k.2 _ (by omega) (by omega)
 ·rw[Zac hc,Zd2 a]at g1;rw[Zac (by omega),Zd2 b]at g2;rw[<-Zho g1,<-Zho g2];exact h.2 _ a b
theorem Qc{place:Nat->Option (Nat×Nat)}:∀(parts:List (Nat×Nat×Nat×I×Value)) (zs:List I) (cells:Array Value),Ak M zs cells.toList->
  (∀p∈parts,place p.1=some (p.2.1,p.2.2.1)/\p.2.1+p.2.2.1<=zs.length/\(cellsI p.2.2.2.1).length=p.2.2.1/\Rep M p.2.2.2.1 p.2.2.2.2)->
  ∃cells',Instr.fill place cells (parts.map fun p=>(p.1,p.2.2.2.2))=some cells'/\Ak M (Hm zs (parts.map fun p=>(p.2.1,cellsI p.2.2.2.1))) cells'.toList
 |[],zs,cells,h,_=>⟨cells,rfl,h⟩
 |(i,off,size,x,v)::r,zs,cells,h,hp=>by
  obtain⟨h1,h2,h3,h4⟩:=hp (i,off,size,x,v) (by simp);simp only at h1 h2 h3 h4;have hc:=h4.cellsI;have j0:v.cells.size=size:=by have:=hc.1;simp at this;omega
  have kq:cells.size=zs.length:=by have:=h.1;simpa using this
  have jq:Ak M (setL zs off (cellsI x)) (setL cells.toList off v.cells.toList).toArray.toList:=by simpa using h.setL hc (by omega)
  obtain⟨cells',e1,e2⟩:=Qc r (setL zs off (cellsI x)) _ jq (fun p hpp=>by obtain⟨a1,a2,a3,a4⟩:=hp p (by simp[hpp]);exact⟨a1,by rw[CP _ _ _ (by omega)];exact a2,a3,a4⟩)
  refine⟨cells',?_,e2⟩;simp only[Ze1,Instr.fill,h1];rw[Zac (by simp;omega)];rw[gC _ _ _ (by omega)];exact e1
theorem Qe(h:Rel GL n S M μ st a w):∀(parts:List (Nat×Operand)) (qs:List (Nat×Nat×O)) (place:Nat->Option (Nat×Nat)) (len:Nat),
  parts.mapM (fun p=>match place p.1,cO GL p.2 with|some (off,size),some oo=>if off+size<=len then some (off,size,oo)else none|_,_=>none)=some qs->
  (qs.all fun p=>JH (AZ GL st p.2.2)&&((cellsI (H1 (AZ GL st p.2.2))).length==p.2.1))=true->
  ∃ps:List (Nat×Nat×Nat×I×Value),ps.map (fun p=>(p.1,p.2.2.2.2))=parts.map (fun p=>(p.1,a.eval p.2))/\ps.map (fun p=>(p.2.1,cellsI p.2.2.2.1))=qs.map (fun p=>(p.1,cellsI (H1 (AZ GL st p.2.2))))/\
   ∀p∈ps,place p.1=some (p.2.1,p.2.2.1)/\p.2.1+p.2.2.1<=len/\(cellsI p.2.2.2.1).length=p.2.2.1/\Rep M p.2.2.2.1 p.2.2.2.2
 |[],qs,place,len,hq,_=>by simp_all
 |(i,x)::r,qs,place,len,hq,hi=>by
  rw[Zey]at hq;simp only at hq;cases hp:place i with
  |none=>simp[hp]at hq
  |some os=>
   obtain⟨off,size⟩:=os;cases hx:cO GL x with
   |none=>simp[hp,hx]at hq
   |some oo=>
    by_cases hf:off+size<=len
    ·simp only[hp,hx,Zaa hf,Option.pure_def,Zhc,Zhf,Zhd,Zhp]at hq;obtain⟨qs',jd,rfl⟩:=hq;simp only[Zct,Zbz,Zas]at hi;obtain⟨ps,e1,e2,e3⟩:=Qe h r qs' place len jd hi.2;refine⟨(i,off,size,H1 (AZ GL st oo),a.eval x)::ps,by simp[e1],by simp[e2],?_⟩;intro p hpm;rcases Zfb.1 hpm with rfl|hpm
     ·exact⟨hp,hf,hi.1.2,Oo (Az h hx) hi.1.1⟩
     ·grind
    all_goals grind
theorem gD{fs:Array Field}{ks:List Nat}(hks:fs.toList.mapM (fun f=>PY P f.type)=some ks)(w:World):
  (fs.mapM fun f=>(do pure (f.offset,<-sizeOf f.type):Sem (Nat×Nat))).run P w=.ok ((fs.toList.zip ks).map fun p=>(p.1.offset,p.2)).toArray w:=by
 have key:∀(l:List Field) (ks:List Nat),l.mapM (fun f=>PY P f.type)=some ks->(l.mapM fun f=>(do pure (f.offset,<-sizeOf f.type):Sem (Nat×Nat))).run P w=.ok ((l.zip ks).map fun p=>(p.1.offset,p.2)) w:=by
  intro l
  induction l with
  |nil=>intro ks h;simp at h;subst h;rfl
  |cons f r ih=>
   intro ks h;rw[Zey]at h;cases h1:PY P f.type with
   |none=>simp[h1]at h
   |some k=>
    cases h2:r.mapM (fun f=>PY P f.type)with
    |none=>simp[h1,h2]at h
    |some ks'=>simp[h1,h2]at h;subst h;simp_all[EE]
 rw[<-Zbu (xs:=fs),List.mapM_toArray];simp only[Sem.run_map,key _ _ hks,Result.andThen_ok]
end
def SL(P:Program)(fs:Array Field):Option (List (Nat×Nat)):=(fs.toList.mapM (fun f=>PY P f.type)).map fun ks=>(fs.toList.zip ks).map fun p=>(p.1.offset,p.2)
def MH(GL:List (Nat×List I))(place:Nat->Option (Nat×Nat))(len:Nat)(parts:List (Nat×Operand)):Option (List (Nat×Nat×O)):=
 parts.mapM (fun p=>match place p.1,cO GL p.2 with|some (off,size),some oo=>if off+size<=len then some (off,size,oo)else none|_,_=>none)
section
variable {P:Program}{GL:List (Nat×List I)}{n:Nat}{S:Sh}{M:Mem}{μ:Place}{st:St}{a:Act}{w:World}{K:St->Prop}{Q:Exit->Act->World->Prop}{o:Oper}{d:Nat}
theorem gE(h:Rel GL n S M μ st a w){t:TypeId}{parts:Array (Nat×Operand)}{i:TypeInfo}{z:Value}{zi:I}{fs:Array Field}{pl:List (Nat×Nat)}{qs:List (Nat×Nat×O)}
  (ho:o.op=.build t parts)(hd:o.dst=some d)(hn:d<n)(hi:P.info? t=some i)(hz:i.zero=some z)(hc:DH z=some zi)(hu:P.underlying t=some (.struct fs))(vz:SL P fs=some pl)
  (hq:MH GL (fun j=>pl[j]?) (cellsI zi).length parts.toList=some qs)(hs:step P GL (.build d (cellsI zi) qs) st K):o.wpX P a w (Aw GL n S M w K) Q:=by
 obtain⟨jj,hs⟩:=hs;have hrz:Ak M (cellsI zi) z.cells.toList:=(GH hc).cellsI;obtain⟨ps,e1,e2,e3⟩:=Qe h parts.toList qs _ _ hq jj;obtain⟨cells',e4,e5⟩:=Qc (place:=fun j=>pl[j]?) ps (cellsI zi) z.cells hrz e3;unfold SL at vz;cases hks:fs.toList.mapM (fun f=>PY P f.type)with
 |none=>simp[hks]at vz
 |some ks=>
  simp[hks]at vz;rw[e2]at e5;refine AX h hd hn (v:=.agg cells') ?_ (AJ (Rep.agg' e5)) hs;rw[e1]at e4;have e4':Instr.fill (fun x=>((fs.toList.zip ks).map fun p=>(p.1.offset,p.2)).toArray[x]?) z.cells ((parts.map fun(i,x)=>(i,a.eval x)).toList)=some cells':=by simp_all
  simp only[execOp,ho,Instr.build,Sem.run_bind,zeroValue,typeInfo,hi,hz,Zai,Result.andThen_ok,Sem.run_pure,Zaf hu w,gD hks w,e4']
theorem Wx(k:Nat):∀(rows:List (List I)) (pre zs:List I),(∀r∈rows,r.length=k)->zs.length=rows.length*k->∀m,pre.length=m*k->
  Hm (pre++zs) ((rows.zipIdx m).map fun p=>(p.2*k,p.1))=pre++rows.flatten
 |[],pre,zs,_,hz,m,hm=>by simp_all[Hm]
 |r::rows,pre,zs,hr,hz,m,hm=>by
  have hk:r.length=k:=hr r (by simp);simp only[Zgk,Ze1,Hm];have hz':zs.length=rows.length*k+k:=by grind
  have e:setL (pre++zs) (m*k) r=(pre++r)++zs.drop k:=by simp only[setL];rw[Zgb (by omega),Zgf (by omega),<-hm,List.drop_append];simp_all
  rw[e,Wx k rows (pre++r) (zs.drop k) (fun x hx=>hr x (by simp[hx])) (by simp;omega) (m+1) (by simp[Zgm,hm,hk])];simp
theorem Wy{k:Nat}:∀{rows:List (List I)},(∀r∈rows,r.length=k)->∀i (hi:i<rows.length) j (hj:j<rows[i].length),rows.flatten[i*k+j]? =some (rows[i][j])
 |r::rows,hr,0,hi,j,hj=>by grind
 |r::rows,hr,i+1,hi,j,hj=>by have hk:r.length=k:=hr r (by simp);simp only[List.flatten_cons,Zec];rw[Zdz (by rw[Zgm];omega),show(i+1)*k+j-r.length=i*k+j by rw[Zgm];omega];exact Wy (fun x hx=>hr x (by simp[hx])) i (by simpa using hi) j (by simpa using hj)
theorem Wz{rows:List (List I)}(h:∀r∈rows,r.length=k):rows.flatten.length=rows.length*k:=by
 induction rows with
 |nil=>simp
 |cons r rows ih=>grind
theorem gG{z:Value}{zi:I}{len:Nat}(hz:Rep M zi z)(hk:(cellsI zi).length=k)(vg:0<k):
  ∃zs:List I,zs.length=len*k/\Ak M zs ((Array.range (len*k)).map (fun x=>z.cells[x%z.cells.size]!)).toList:=by
 have hl:=hz.cellsI;have hs:z.cells.size=k:=by have:=hl.1;simp at this;omega
 refine⟨(List.range (len*k)).map fun x=>(cellsI zi).getD (x%k) .undef,by simp,by simp,fun j a b=>?_⟩;simp at a;have hm:j%k<k:=Zg1 _ vg;have:=hl.2 (j%k) (by omega) (by simp;omega);simp only[Zee,Zei,Array.toList_map,Array.toList_range,hs];rw[Zdx,Zd2 (by omega),Zhh,getElem!_pos _ _ (by omega)];simpa using this
theorem gH{e:Nat}{os:List O}(hs:step P GL (.bsn d e k os) st K):step P GL (.bsl d e k os) st K:=by grind[step]
theorem WA(h:Rel GL n S M μ st a w){t e:TypeId}{len k:Nat}{parts:Array (Nat×Operand)}{i:TypeInfo}{z:Value}{zi:I}{os:List O}
  (ho:o.op=.buildSlice t len parts)(hu:P.underlying t=some (.slice e))(hi:P.info? e=some i)(hk:i.size=k)(hz:i.zero=some z)(hc:DH z=some zi)
  (hzk:(cellsI zi).length=k)(vg:0<k)(je:len*k<=16777216)(hidx:parts.toList.map (·.1)=List.range len)(hos:(parts.toList.map (·.2)).mapM (cO GL)=some os)
  (hne0:os≠[])(jj:(os.all fun o=>JH (AZ GL st o)&&((cellsI (H1 (AZ GL st o))).length==k)&&(cellsI (H1 (AZ GL st o))).all I.one)=true){rows:List (List I)}(js:os.map (fun o=>cellsI (H1 (AZ GL st o)))=rows):
  ∃cells',(execOp a.eval o).run P w=.ok (.value (.slice (some ⟨w.heap.size,0,none⟩) len len)) (w.alloc (.cells cells' e))/\rows.length=len/\0<len/\cells'.size=len*k/\(∀r∈rows,r.length=k)/\
   ∀i (hi:i<rows.length) j (hj:j<rows[i].length),∃u,cells'[i*k+j]? =some u/\Rep M (rows[i][j]) u:=by
 have j0:PY P e=some k:=by simp[PY,hi,hk]
 have vz:parts.toList.length=len:=by have:=Zae List.length hidx;simpa using this
 have hol:os.length=len:=by
  have:∀(xs:List Operand) (os:List O),xs.mapM (cO GL)=some os->os.length=xs.length:=by
   intro xs
   induction xs with
   |nil=>intro os h;simp at h;subst h;rfl
   |cons x xs ih=>
    intro os h;rw[Zey]at h;cases h1:cO GL x with
    |none=>simp[h1]at h
    |some o=>
     cases h2:xs.mapM (cO GL)with
     |none=>simp[h1,h2]at h
     |some os'=>simp[h1,h2]at h;subst h;simp[ih os' h2]
  rw[this _ _ hos];simpa using vz
 cases os with
 |nil=>exact(hne0 rfl).elim
 |cons o1 orest=>
  have hlpos:0<len:=by simp at hol;omega
  have wv:∀r∈(o1::orest).map (fun o=>cellsI (H1 (AZ GL st o))),r.length=k:=fun r hr=>by obtain⟨oo,ho,rfl⟩:=Zfh.1 hr;rw[Zcu]at jj;have:=jj oo ho;simp only[Zbz,Zas]at this;exact this.1.2
  have hparts:∀(ps:List (Nat×Operand)) (m:Nat) (os:List O),ps.map (·.1)=List.range' m ps.length->m+ps.length<=len->(ps.map (·.2)).mapM (cO GL)=some os->
    MH GL (fun i=>some (i*k,k)) (len*k) ps=some ((os.zipIdx m).map fun p=>(p.2*k,k,p.1)):=by
   intro ps
   induction ps with
   |nil=>intro m os _ _ h;simp at h;subst h;rfl
   |cons p ps ih=>
    intro m os h1 h2 h3;obtain⟨i,x⟩:=p;simp only[Ze1,Zem,List.range'_succ,Zc2]at h1;obtain⟨rfl,h1⟩:=h1;rw[Ze1,Zey]at h3;simp only at h3;cases hx:cO GL x with
    |none=>simp[hx]at h3
    |some oo=>
     cases hr:(ps.map (·.2)).mapM (cO GL)with
     |none=>simp[hx,hr]at h3
     |some os'=>
      simp[hx,hr]at h3;subst h3;have:=ih (i+1) os' h1 (by simp at h2;omega) hr;have hf:i*k+k<=len*k:=by have:(i+1)*k<=len*k:=Zg4 _ (by simp at h2;omega);rw[Zgm]at this;omega
      unfold MH at this⊢;rw[Zey];simp only[hx,Zaa hf,this];simp[Zgk]
  have hq:=hparts parts.toList 0 (o1::orest) (by rw[hidx,Zf3,vz]) (by omega) hos;obtain⟨zs,vj,hzr⟩:=gG (M:=M) (len:=len) (GH hc) hzk vg;have hall2:(((o1::orest).zipIdx 0).map fun p=>(p.2*k,k,p.1)).all (fun p=>JH (AZ GL st p.2.2)&&((cellsI (H1 (AZ GL st p.2.2))).length==p.2.1))=true:=by simp only[Zcv,Zcu];rintro⟨oo,m⟩ hm;have hm':oo∈o1::orest:=(List.mem_zipIdx hm).2.2▸Zef _;rw[Zcu]at jj;have:=jj oo hm';simp only[Zbz]at this;simp[this.1.1,this.1.2]
  obtain⟨ps,e1,e2,e3⟩:=Qe h parts.toList _ (fun i=>some (i*k,k)) (len*k) hq hall2;have hzsz:z.cells.size=k:=by have:=(GH (M:=M) hc).cellsI.1;simp at this;omega
  obtain⟨cells',e4,e5⟩:=Qc (place:=fun i=>some (i*k,k)) ps zs _ hzr (fun p hp=>by rw[vj];exact e3 p hp);rw[e2]at e5;have e6:Hm zs ((((o1::orest).zipIdx 0).map fun p=>(p.2*k,k,p.1)).map fun p=>(p.1,cellsI (H1 (AZ GL st p.2.2))))=((o1::orest).map fun o=>cellsI (H1 (AZ GL st o))).flatten:=by have:=Wx k ((o1::orest).map fun o=>cellsI (H1 (AZ GL st o))) [] zs wv (by rw[vj,Zes,hol]) 0 (by simp);simp only[Zft]at this;rw[<-this];congr 1;rw[Ze4,List.zipIdx_map,Ze4];apply Ze0;rintro⟨x,y⟩ _;rfl
  rw[e6]at e5;rw[js]at e5 wv;have ww:rows.length=len:=by rw[<-js];simpa using hol
  have kq:cells'.size=len*k:=by have:=e5.1;rw[Wz wv,ww]at this;simpa using this
  have j9:∀i (hi:i<rows.length) j,j<rows[i].length->i*k+j<cells'.size:=fun i hi j hj=>by have:(i+1)*k<=rows.length*k:=Zg4 _ hi;have h2:=wv _ (Zef hi);rw[Zgm]at this;rw[kq,<-ww];omega
  refine⟨cells',?_,ww,hlpos,kq,wv,fun i hi j hj=>?_⟩
  ·have jg:¬(len*k>2 ^ 24):=by simpa using je
   have hne2:len*k≠0:=Nat.ne_of_gt (Nat.mul_pos hlpos vg);rw[e1]at e4;have e4':Instr.fill (fun i=>some (i*k,k)) ((Array.range (len*k)).map (z.cells[·%z.cells.size]!)) ((parts.map fun(i,x)=>(i,a.eval x)).toList)=some cells':=by rw[<-e4];congr 1;simp
   simp only[execOp,ho,Instr.buildSlice,Sem.run_bind,Zaf hu w,Result.andThen_ok,EE j0,Zac jg,Zac hne2,zeroValue,typeInfo,hi,hz,Zai,Sem.run_pure,e4',newRow,Zah];rfl
  ·have jn:=j9 i hi j hj;have vn:i*k+j<rows.flatten.length:=by rw[Wz wv,ww,<-kq];exact jn
   have:=e5.2 (i*k+j) vn (by simpa using jn);have e7:=Wy wv i hi j hj;rw[Zd2 vn]at e7;rw[Zho e7]at this;exact⟨cells'[i*k+j],by simp[jn],by simpa using this⟩
theorem gI(h:Rel GL n S M μ st a w){t e:TypeId}{len k:Nat}{parts:Array (Nat×Operand)}{i:TypeInfo}{z:Value}{zi:I}{os:List O}
  (ho:o.op=.buildSlice t len parts)(hd:o.dst=some d)(hn:d<n)(hu:P.underlying t=some (.slice e))(hi:P.info? e=some i)(hk:i.size=k)(hz:i.zero=some z)(hc:DH z=some zi)
  (hzk:(cellsI zi).length=k)(vg:0<k)(je:len*k<=16777216)(hidx:parts.toList.map (·.1)=List.range len)(hos:(parts.toList.map (·.2)).mapM (cO GL)=some os)
  (hs:step P GL (.bsl d e k os) st K):o.wpX P a w (Aw GL n S M w K) Q:=by
 cases os with
 |nil=>
  have j0:PY P e=some k:=by simp[PY,hi,hk]
  have hp:parts=#[]:=by
   cases hp:parts.toList with
   |nil=>exact Zbd hp
   |cons p ps=>rw[hp]at hos;simp[Zey,Zhd]at hos
  subst hp;obtain rfl:len=0:=by have:=Zae List.length hidx;simpa using this.symm
  simp only[step,step.nilsE']at hs;split at hs
  ·rename_i jl;have qd:(execOp a.eval o).run P w=.ok (.value (.slice (some ⟨w.heap.size,0,none⟩) 0 0)) (w.alloc (.cells #[] e)):=by
    simp only[execOp,ho,Instr.buildSlice,Sem.run_bind,Zaf hu w,Result.andThen_ok,EE j0,Zhb];have e0:Array.map (fun x=>(default:Value)) (Array.range 0)=#[]:=by simp
    simp[Instr.fill,newRow,e0]
   have h0:Rel GL n S M μ st a (w.alloc (.cells #[] e)):=h.of (h.toStoOk.alloc _) (Mem.le_refl _) fun _ _ hv=>hv
   exact B0 qd ⟨_,hs,M,_,by rw[hd];exact(h0.bindEmpty jl hn (some ⟨w.heap.size,0,none⟩) e k).put hn ⟨D9,by rw[Bh];exact J5 _ _⟩,MExt.refl _ _,FW w _ h.low⟩
  ·exact hs.elim
 |cons o1 orest=>
  simp only[step]at hs;obtain⟨jj,hs⟩:=hs;generalize js:(o1::orest).map (fun o=>cellsI (H1 (AZ GL st o)))=rows at*;obtain⟨cells',jh,ww,hlpos,kq,wv,jr⟩:=WA h ho hu hi hk hz hc hzk vg je hidx hos (by simp) jj js;obtain⟨h2,hm,hb⟩:=h.allocKnown cells' e;have hp:Rep (M.with w.heap.size cells') (.sl rows) (.slice (some ⟨w.heap.size,0,none⟩) rows.length len):=by
   refine Rep.sl rows k w.heap.size 0 len (fun i j=>cells'.getD (i*k+j) Go.undef) wv (by omega) (fun i hi j hj=>?_) (fun i hi j hj=>?_)
   all_goals
    obtain⟨u,hu,hr⟩:=jr i hi j hj;have:=hr.mono hm.le;simpa[Mem.with,hu]
  rw[ww]at hp;exact B0 jh ⟨_,hs,_,μ,by rw[hd];exact h2.put hn (AJ hp),hm,hb⟩
theorem gJ(h:Rel GL n S M μ st a w){t e:TypeId}{len k:Nat}{parts:Array (Nat×Operand)}{i:TypeInfo}{z:Value}{zi:I}{os:List O}
  (ho:o.op=.buildSlice t len parts)(hd:o.dst=some d)(hn:d<n)(hu:P.underlying t=some (.slice e))(hi:P.info? e=some i)(hk:i.size=k)(hz:i.zero=some z)(hc:DH z=some zi)
  (hzk:(cellsI zi).length=k)(vg:0<k)(je:len*k<=16777216)(hidx:parts.toList.map (·.1)=List.range len)(hos:(parts.toList.map (·.2)).mapM (cO GL)=some os)
  (hs:step P GL (.bso d e k os) st K):o.wpX P a w (Aw GL n S M w K) Q:=by
 cases os with
 |nil=>simp[step]at hs
 |cons o1 orest=>
  simp only[step,List.isEmpty_cons,Zb8,Zce]at hs;obtain⟨jj,hs⟩:=hs;generalize js:(o1::orest).map (fun o=>cellsI (H1 (AZ GL st o)))=rows at*;obtain⟨cells',jh,ww,hlpos,kq,wv,jr⟩:=WA h ho hu hi hk hz hc hzk vg je hidx hos (by simp) jj js;unfold JU at hs;split at hs
  ·rename_i jl;have qr:len<=maxLen:=by have:len*1<=len*k:=Nat.mul_le_mul_left _ vg;simp only[maxLen];omega
   have h0:Rel GL n S M μ st a (w.alloc (.cells cells' e)):=h.of (h.toStoOk.alloc _) (Mem.le_refl _) fun _ _ hv=>hv
   have h1:=h0.bindName jl hn (b:=.rows e k rows) (x:=.slice (some ⟨w.heap.size,0,none⟩) 0 len)
    ⟨some ⟨w.heap.size,0,none⟩,len,Bh _ _ _,.inr ⟨w.heap.size,0,cells',rfl,hlpos,⟨fun hS=>by have:=h.low _ hS;omega,GA w _,Mem.unk_new h.sub (Zgu _)⟩,qr,by rw[kq,Zg8],by omega,wv,fun i hi j hj=>by simpa using jr i hi j hj⟩⟩
    (fun m q hm hq=>by have:=(h.toStoOk.lt hm hq).1;simp only[An];rw[Zac (by omega)];intro e;cases e;omega)
   exact B0 (v:=.slice (some ⟨w.heap.size,0,none⟩) len len) (w':=w.alloc (.cells cells' e)) jh ⟨_,hs,M,_,by rw[hd];exact h1.put hn ⟨D9,by rw[Bh];exact⟨some ⟨w.heap.size,0,none⟩,len,rfl,Zg9 _,by omega,.inr ⟨w.heap.size,0,rfl,by simp[ww]⟩⟩⟩,MExt.refl _ _,FW w _ h.low⟩
  ·exact hs.elim
end
end Go.Dl
end
