/-Lemmas.-/
import Derived.Test.YtkhlddbmhehbbaaGreatDoorU2
set_option linter.all false
section
namespace Go.Dl
open Go Go.RowKit
variable{vs:List Value}{M':Mem}{N:Nat->Prop}{v:Value}
theorem SY{M:Mem}{x:I}(h:Rep M x v)(hf:Jc.flat1 x=true):Rep M' x v:=by cases x<;>simp[Jc.flat1]at hf<;>cases h<;>constructor
theorem W3{M:Mem}{xs:List I}(h:Ak M xs vs)(hf:xs.all Jc.flat1=true):Ak M' xs vs:=
 ⟨h.1,fun j a b=>SY (h.2 j a b) (by rw[List.all_eq_true]at hf;exact hf _ (List.getElem_mem _))⟩
theorem iu{M:Mem}{x:I}(h:Rep M x v)(hf:Jc.flat2 x=true):Rep M' x v:=by
 cases x with
 |agg cs=>obtain⟨vs,rfl,hl⟩:=h.agg_inv;exact Rep.agg' (W3 hl hf)
 |_=>first|(simp[Jc.flat2]at hf;done)|exact SY h rfl
theorem iv{M:Mem}{x:I}(h:Rep M x v)(hf:Jc x=true):Rep M' x v:=by
 cases x with
 |agg cs=>obtain⟨vs,rfl,hl⟩:=h.agg_inv;exact Rep.agg' (W3 hl hf)
 |tup cs=>obtain⟨vs,rfl,hl⟩:=h.tup_inv;refine Rep.tup' ⟨hl.1,fun j a b=>iu (hl.2 j a b) ?_⟩;grind[Jc]
 |_=>first|(simp[Jc]at hf;done)|exact SY h rfl
section
variable {P:Program}{GL:List (Nat×List I)}{n:Nat}{S:Sh}{M:Mem}{μ:Place}{st:St}{a:Act}{w:World}{K:St->Prop}{Q:Exit->Act->World->Prop}{o:Oper}{d:Nat}
theorem Kw{f:FuncId}(h:De P f=true)(args:Array Value):(callFunc f args).run P w=.ok (.enter f args) w:=by
 unfold De at h;rw[Bool.and_eq_true]at h;replace h:=h.2;split at h
 ·rename_i fn hf;simp only[Bool.and_eq_true,bne_iff_ne,ne_eq]at h;have hb:fn.body≠none:=by grind
  simp[callFunc,hf,h.1,hb]
 ·cases h
def G5(f:FuncId)(vs:Array Value):Sem Next:=if Nat.blt f 1000000000=true then callFunc f vs else Instr.yield (f-1000000000) vs
theorem SZ{f:FuncId}{vs:Array Value}{R:Value->World->Prop}{nx:Act->World->Prop}(kz:(execOp a.eval o).run P w=(G5 f vs).run P w)(h:Lp P f vs w R)(hn:∀v w',R v w'->nx (a.put o.dst v) w'):
  o.wpX P a w nx Q:=by
 unfold Oper.wpX;rw[kz];rcases h with⟨h1,h2⟩|⟨hy,row,h1,h2⟩|⟨hy,v,w',h1,h2⟩|⟨hy,fn,tmps,as,bd,h1,h2⟩
 ·have hy:Nat.blt f 1000000000=true:=by unfold De at h1;rw[Bool.and_eq_true]at h1;exact h1.1
  rw[show G5 f vs=callFunc f vs from if_pos hy,Kw h1];refine(Oper.uponIn_enter ..).mpr ⟨fun hh=>(by simp[Fence.wide]at hh),callsIn_wide.2 (h2.mono ?_)⟩;rintro e w' ⟨v,rfl,hR⟩;exact hn v w' hR
 ·rw[show G5 f vs=callFunc f vs from if_pos hy,h1];refine(Oper.uponIn_row ..).mpr ⟨fun hh=>(by simp[Fence.wide]at hh),fun c cs _=>?_⟩;obtain⟨v,w',r,s⟩:=(h2.mono hn) c cs;exact⟨v,w',r,stepsIn_wide.2 s⟩
 ·rw[show G5 f vs=callFunc f vs from if_pos hy,h1];exact hn v w' h2
 ·rw[show G5 f vs=Instr.yield (f-1000000000) vs from if_neg (by rw[hy];simp),h1];refine(Oper.uponIn_round ..).mpr ⟨fun hh=>(by simp[Fence.wide]at hh),h2.mono ?_⟩;rintro e w' ⟨v,rfl,hR⟩;exact hn v w' hR
theorem Kz:∀{l:List (Nat×Blk)} {s:List (Nat×Blk)},Br l s->∀m b,Aa l m=some b->Aa s m=some b
 |[],s,_,m,b,h=>by cases h
 |(k,d)::r,s,h,m,b,hb=>by
  simp only[Aa]at hb;split at hb
  ·rename_i e;subst e;cases hb;exact h.1
  ·exact Kz h.2 m b hb
theorem Fl{l:List (Nat×Blk)}{ns:List Nat}(h:OL l ns=true):∀m∈ns,names l m:=fun m hm=>by simp only[OL,List.all_eq_true]at h;exact h m hm
theorem Js{T:List (Nat×Blk)}:∀{l:List (Nat×Blk)},Qo T l=true->∀m b,Aa l m=some b->∀q∈b.nms,names T q
 |[],_,m,cs,h=>by cases h
 |(k,c)::r,hh,m,b,hb=>by
  simp only[Qo,Bool.and_eq_true]at hh;simp only[Aa]at hb;split at hb
  ·cases hb;exact Fl hh.1
  ·exact Js hh.2 m b hb
theorem W4:∀{l:List (Nat×D)} {e:Env},OM l e->∀s,CW l s=.any\/CW l s=Aj e s
 |[],e,_,s=>.inl rfl
 |(m,d)::r,e,h,s=>by
  simp only[CW];split
  ·rename_i e;subst e;exact .inr h.1.symm
  ·exact W4 h.2 s
theorem W5{T:List (Nat×Blk)}:∀{l:List (Nat×D)},clE T l=true->∀s,∀q∈(CW l s).nms,names T q
 |[],_,s=>fun q hq=>by simp[CW,D.nms]at hq
 |(m,d)::r,h,s=>by
  simp only[clE,Bool.and_eq_true]at h;simp only[CW];split
  ·exact Fl h.1
  ·exact W5 h.2 s
theorem StoOk.less{M:Mem}{μ:Place}{sto sto':List (Nat×Blk)}{w:World}(h:StoOk S M μ sto w)(hs:Br sto' sto)(hc:Qo sto' sto'=true):StoOk S M μ sto' w where
 sub:=h.sub
 blk:=fun nm b hb=>(h.blk nm b (Kz hs nm b hb)).mono (Mem.le_refl _) rfl (fun m hm _=>⟨Js hc nm b hb m hm,rfl⟩) (fun _ _ _=>rfl) (fun _ _ _=>Mem.same_refl _ _)
 sep:=fun m m' k k' ji h1 h2=>by
  refine h.sep m m' k k' ji ?_ ?_
  ·obtain⟨x,hx⟩:=Option.isSome_iff_exists.1 h1;simp[names,Kz hs m x hx]
  ·obtain⟨x,hx⟩:=Option.isSome_iff_exists.1 h2;simp[names,Kz hs m' x hx]
 low:=h.low
theorem Rel.sub' {M:Mem}{μ:Place}{st st':St}{a:Act}{w:World}(h:Rel GL n S M μ st a w)(hs:Sub st' st):Rel GL n S M μ st' a w:=by
 unfold Sub at hs;split at hs
 ·rename_i es he;obtain⟨h1,h2,h3,h4⟩:=hs;refine{toStoOk:=h.toStoOk.less h2 h4,small:=h.small,pin:=h.pin,defers:=h.defers,size:=h.size,env:=fun s=>?_,glob:=h.glob};rw[he];simp only[Aj];rcases W4 h1 s with e|e
  ·rw[e];trivial
  ·have:=W5 h3 s;rw[e]at this⊢;exact(h.env s).mono' (Mem.le_refl _) fun q hq _=>⟨this q hq,rfl⟩
 ·exact hs.elim
theorem S0{N':Nat->Prop}{xs:List D}(h:Dq M μ N xs vs)(hn:∀x∈xs,∀q∈x.nms,N' q):Dq M μ N' xs vs:=
 ⟨h.1,fun j a b=>(h.2 j a b).mono' (Mem.le_refl _) fun q hq _=>⟨hn _ (List.getElem_mem a) q hq,rfl⟩⟩
theorem S4(h:Rel GL n S M μ st a w){get:St->Option (FuncId×List D)}(hd:∀d,o.dst=some d->d<n)(hn:n<=999)
  (ka:∀(M1:Mem) (st1:St),Rel GL n S M1 μ st1 a w->∀f ds,get st1=some (f,ds)->∃vs:Array Value,Dq M1 μ (names st1.sto) ds vs.toList/\(execOp a.eval o).run P w=(G5 f vs).run P w)
  (hs:Ah P GL get st o.dst K):o.wpX P a w (Ax GL n S M w K) Q:=by
 obtain⟨l,hs⟩:=hs;obtain⟨M1,h1,m1⟩:=h.frzNs l;cases hg:get (frzNs l st)with
 |none=>simp[hg]at hs
 |some p=>
  obtain⟨f,ds⟩:=p;simp only[hg]at hs;obtain⟨vs,jp,kz⟩:=ka M1 _ h1 f ds hg;have hd9:o.dst.getD 999<1000:=by
   cases e:o.dst with
   |none=>simp
   |some d=>have:=hd d e;simp only[Option.getD_some];exact Nat.lt_of_lt_of_le this (by omega)
  rcases hs with hs|hs|hs
  ·obtain⟨sto,mv,R,hmc,j9,wh,kh,ww,hR⟩:=hs;have hands:∀m b,Aa sto m=some b->Aa (frzNs l st).sto m=some b:=Kz j9;have hhand:=h1.toStoOk.hand (sto:=sto) hands (fun m b hm q hq=>Js wh m b hm q hq);have jz:=S0 jp (N':=names sto) (fun x hx=>by rw[List.all_eq_true]at kh;exact Fl (kh x hx));refine SZ kz (hmc M1 μ w vs hhand h1.glob jz) ?_;rintro v w' ⟨r,sto',M',μ',hr,q1,q2,q3,q4,q5⟩;obtain⟨hfr,wg,hK⟩:=hR r sto' hr;obtain⟨μ2,h2,m2,k2,hret⟩:=h1.afterCall hd9 hands q1 q3 q4 q5 (fun m hm=>by
    have:=hfr m (CE.2 hm);exact this) (fun m hm hp=>by
    rw[List.all_eq_true]at ww;have:=ww m hm;unfold pinned at hp;simp only[Bool.or_eq_true,Nat.blt_eq,Nat.ble_eq]at this;omega) (fun m h1 h2=>wg m (CE.2 h1) h2)
   refine⟨_,hK,M',μ2,?_,m1.trans m2,k2⟩;cases e:o.dst with
   |none=>simp only[e]at h2⊢;exact h2
   |some s=>simp only[e,Option.getD_some]at h2 hret⊢;exact h2.put (hd s e) (hret r v q2)
  ·obtain⟨R,hmc,kh,hR⟩:=hs;have hempty:StoOk (AN μ [] w) M1 μ [] w:={sub:=h1.sub,blk:=fun m b hb=>(by cases hb),sep:=fun m m' k k' _ hm=>(by simp[names,Aa]at hm),low:=fun b hb=>hb.1};have jz:=S0 jp (N':=names []) (fun x hx=>by rw[List.all_eq_true]at kh;exact Fl (kh x hx));refine SZ kz (hmc M1 μ w vs hempty h1.glob jz) ?_;rintro v w' ⟨r,sto',M',μ',hr,q1,q2,q3,q4,q5⟩;obtain⟨y,rfl,hflat,hK⟩:=hR r sto' hr;have hk:∀k,k<w.heap.size->w'.heap[k]? =w.heap[k]? :=fun k hk=>q4.block k ⟨hk,fun m hm=>by simp[names,Aa]at hm⟩
   have h2:Rel GL n S M μ st a w':=h.of (h.toStoOk.world q4.size hk) (Mem.le_refl _) fun _ _ hv=>hv
   have hy:Rep M y v:=iv q2 hflat;refine⟨_,hK,M,μ,?_,MExt.refl _ _,q4.mono fun k hk=>⟨h.low k hk,fun m hm=>by simp[names,Aa]at hm⟩⟩;cases e:o.dst with
   |none=>exact h2
   |some s=>exact h2.put (hd s e) (AM hy)
  ·obtain⟨sto,mv,R,hmc,j9,wh,kh,ww,hR⟩:=hs;have hands:∀m b,Aa sto m=some b->Aa (frzNs l st).sto m=some b:=Kz j9;have hhand:=h1.toStoOk.hand (sto:=sto) hands (fun m b hm q hq=>Js wh m b hm q hq);have jz:=S0 jp (N':=names sto) (fun x hx=>by rw[List.all_eq_true]at kh;exact Fl (kh x hx));refine SZ kz (hmc M1 μ w vs hhand h1.glob jz) ?_;rintro v w' ⟨r,sto',M',μ',hr,q1,q2,q3,q4,q5⟩;obtain⟨hfr,wg,y,s',rfl,w8,hK⟩:=hR r sto' hr;obtain⟨μ2,h2,m2,k2,hret⟩:=h1.afterCall hd9 hands q1 q3 q4 q5 (fun m hm=>by
    have:=hfr m (CE.2 hm);exact this) (fun m hm hp=>by
    rw[List.all_eq_true]at ww;have:=ww m hm;unfold pinned at hp;simp only[Bool.or_eq_true,Nat.blt_eq,Nat.ble_eq]at this;omega) (fun m h1 h2=>wg m (CE.2 h1) h2)
   refine⟨_,hK,M',μ2,?_,m1.trans m2,k2⟩;cases e:o.dst with
   |none=>simp only[e]at h2 w8⊢;exact h2.sub' w8
   |some s=>simp only[e,Option.getD_some]at h2 hret w8⊢;exact(h2.sub' w8).put (hd s e) (AM q2)
theorem W6(h:Rel GL n S M μ st a w){f:FuncId}{args:Array Operand}{tys:Array TypeId}{os:List O}(hfy:Nat.blt f 1000000000=true)(ho:o.op=.call {callee:=.value (.func f),args:=args,argTypes:=tys})
  (hd:∀d,o.dst=some d->d<n)(hn:n<=999)(hx:args.toList.mapM (cO GL)=some os)(hs:step P GL (.call o.dst f os) st K):o.wpX P a w (Ax GL n S M w K) Q:=by
 refine S4 (get:=Fi GL f os) h hd hn (fun M1 st1 h1 f' ds hg=>?_) (by simpa only[step]using hs);simp only[Fi,Option.some.injEq,Prod.mk.injEq]at hg;obtain⟨rfl,rfl⟩:=hg;refine⟨args.map a.eval,by simpa using OR h1 hx,?_⟩;rw[show G5 f (args.map a.eval)=callFunc f (args.map a.eval)from if_pos hfy];simp[execOp,ho,resolve,Act.eval,Deferred.ofValue,invoke]
theorem iw(h:Rel GL n S M μ st a w){f d:Nat}{args:Array Operand}{tys:Array TypeId}{os:List O}(hfy:Nat.blt f 1000000000=true)(ho:o.op=.call {callee:=.value (.func f),args:=args,argTypes:=tys})
  (hd:o.dst=some d)(hdn:d<n)(hn:n<=999)(hx:args.toList.mapM (cO GL)=some os)(hs:step P GL (.callo d f os) st K):o.wpX P a w (Ax GL n S M w K) Q:=by
 simp only[step,Qx]at hs;obtain⟨hI,R,hmc,hR⟩:=hs;refine W6 h hfy ho (fun d' e=>by rw[hd]at e;cases e;exact hdn) hn hx ?_;simp only[step];refine⟨[],.inl ⟨[],[],R,hmc,trivial,rfl,?_,rfl,fun r sto' hr=>?_⟩⟩
 ·rw[List.all_eq_true]at hI⊢;intro x hx;have:=hI x hx;cases x<;>simp[Ja]at this;rfl
 ·obtain⟨h1,h2⟩:=hR r sto' hr;refine⟨fun nm hm=>.inr (h1 nm ?_),fun nm hm=>by simp at hm,?_⟩
  ·rw[hd]at hm;exact hm
  ·rw[hd];exact h2
def S5:Operand->Bool
 |.const (.slice none 0 0)=>true
 |_=>false
def cN(GL:List (Nat×List I))(x:Operand):Option O:=if S5 x=true then some (.c .undef)else(cO GL x).bind fun o=>match o with|.c .undef=>none|o=>some o
theorem iz(h:Rel GL n S M μ st a w){nm k:Nat}(hn:names st.sto nm)(hm:Lo (μ nm) k 0 0 (.slice none 0 0)){x:Operand}{o:O}(hc:cN GL x=some o):AI M μ (names st.sto) (Lu GL nm k st o) (a.eval x):=by
 unfold cN at hc;split at hc
 ·rename_i hx;cases hc;obtain rfl:x=.const (.slice none 0 0):=by unfold S5 at hx;split at hx<;>simp_all
  exact⟨hn,hm⟩
 ·cases hq:cO GL x with
  |none=>simp[hq]at hc
  |some q=>
   rw[hq]at hc;simp only[Option.bind_some]at hc;split at hc
   ·cases hc
   ·rename_i ji;cases hc;have e:Lu GL nm k st o=A8 GL st o:=by unfold Lu;split;exact(ji rfl).elim;rfl
    rw[e];exact Az h hq
theorem W7(h:Rel GL n S M μ st a w){nm k:Nat}(hn:names st.sto nm)(hm:Lo (μ nm) k 0 0 (.slice none 0 0)):∀{xs:List Operand} {os:List O},xs.mapM (cN GL)=some os->Dq M μ (names st.sto) (os.map (Lu GL nm k st)) (xs.map a.eval)
 |[],os,hc=>by simp at hc;subst hc;exact⟨rfl,fun j hj=>by simp at hj⟩
 |x::xs,os,hc=>by
  rw[List.mapM_cons]at hc;cases h1:cN GL x with
  |none=>simp[h1]at hc
  |some o=>
   cases h2:xs.mapM (cN GL)with
   |none=>simp[h1,h2]at hc
   |some os'=>
    simp[h1,h2]at hc;subst hc;obtain⟨q1,q2⟩:=W7 h hn hm h2;have q3:=iz h hn hm h1;refine⟨by simp at q1⊢;exact q1,fun j hj jq=>?_⟩;cases j with
    |zero=>exact q3
    |succ j=>exact q2 j (by simpa using hj) (by simpa using jq)
theorem iA(h:Rel GL n S M μ st a w){f e k:Nat}{args:Array Operand}{tys:Array TypeId}{os:List O}(hfy:Nat.blt f 1000000000=true)(ho:o.op=.call {callee:=.value (.func f),args:=args,argTypes:=tys})
  (hd:o.dst=some d)(hdn:d<n)(hn:n<=999)(hx:args.toList.mapM (cN GL)=some os)(hs:step P GL (.calln d f e k os) st K):o.wpX P a w (Ax GL n S M w K) Q:=by
 simp only[step,MZ]at hs;split at hs
 ·rename_i jl;have hb:=h.bindEmptyA (nm:=d+2000) jl (by unfold pinned;omega) none e k;rw[<-hd]at hs;refine S4 (get:=ON GL f (d+2000) k os) hb (fun d' h'=>by rw[hd]at h';cases h';exact hdn) hn (fun M1 st1 h1 f' ds hg=>?_) hs;unfold ON at hg;split at hg
  ·rename_i hnm1;cases hg;have hr:=W7 (k:=k) h1 hnm1 (by rw[Bq];exact Kv _ _) hx;refine⟨(args.map a.eval),by simpa using hr,?_⟩
   ·rw[show G5 f (args.map a.eval)=callFunc f (args.map a.eval)from if_pos hfy];simp[execOp,ho,resolve,Act.eval,Deferred.ofValue,invoke]
  ·cases hg
 ·exact hs.elim
theorem OU{xs ys:List D}{us:List Value}(h:Dq M μ N xs vs)(k:Dq M μ N ys us):Dq M μ N (xs++ys) (vs++us):=by
 refine⟨by simp[h.1,k.1],fun j a b=>?_⟩;by_cases hj:j<xs.length
 ·rw[List.getElem_append_left hj,List.getElem_append_left (by rw[h.1];exact hj)];exact h.2 j hj _
 ·have e:vs.length=xs.length:=h.1;rw[List.getElem_append_right (by omega),List.getElem_append_right (by omega)];have:=k.2 (j-xs.length) (by simp at a;omega) (by simp at b;omega);grind
theorem S6{xs:List I}(h:Ak M xs vs):Dq M μ N (xs.map .i) vs:=
 ⟨by simpa using h.1,fun j a b=>by rw[List.getElem_map];exact AM (h.2 j (by simpa using a) b)⟩
theorem W8{xs:List Cp}(h:Ed M μ N xs vs):Dq M μ N (xs.map Cp.toD) vs:=
 ⟨by simpa using h.1,fun j a b=>by rw[List.getElem_map];exact(h.2 j (by simpa using a) b).toD⟩
theorem iB(h:Rel GL n S M μ st a w){fv:Operand}{of:O}{args:Array Operand}{tys:Array TypeId}{os:List O}(ho:o.op=.call {callee:=.value fv,args:=args,argTypes:=tys})
  (hd:∀d,o.dst=some d->d<n)(hn:n<=999)(hfv:cO GL fv=some of)(hx:args.toList.mapM (cO GL)=some os)(hs:step P GL (.callv o.dst of os) st K):o.wpX P a w (Ax GL n S M w K) Q:=by
 refine S4 (get:=DZ GL of os) h hd hn (fun M1 st1 h1 f' ds hg=>?_) (by simpa only[step]using hs);have hf:=Az h1 hfv;have jz:=OR h1 hx;simp only[DZ,EQ]at hg;split at hg
 ·rename_i f first caps e
  cases hg;rw[e]at hf;obtain⟨va,vb,e2,hy,ra,rb⟩:=(AJ hf).fn_inv;refine⟨va++args.map a.eval++vb,?_,?_⟩
  ·have:=OU (OU (S6 (μ:=μ) (N:=names st1.sto) ra) jz) (S6 rb);simpa using this
  ·cases hb:Nat.blt f' 1000000000 with
   |true=>rw[show G5 f' (va++args.map a.eval++vb)=callFunc f' (va++args.map a.eval++vb)from if_pos hb];simp[execOp,ho,resolve,e2,Deferred.ofValue,invoke,Gn,hb]
   |false=>
    have hvb:vb=#[]:=by have h1:=hy.resolve_left (by rw[hb];simp);subst h1;have:=rb.1;grind
    subst hvb;rw[show G5 f' (va++args.map a.eval++#[])=Instr.yield (f'-1000000000) (va++args.map a.eval++#[])from if_neg (by rw[hb];simp)];simp[execOp,ho,resolve,e2,Deferred.ofValue,invoke,Gn,hb]
 ·rename_i f first caps e
  cases hg;rw[e]at hf;obtain⟨va,vb,e2,hy,ra,rb⟩:=hf;refine⟨va++args.map a.eval++vb,?_,?_⟩
  ·have:=OU (OU (W8 ra) jz) (W8 rb);simpa using this
  ·cases hb:Nat.blt f' 1000000000 with
   |true=>rw[show G5 f' (va++args.map a.eval++vb)=callFunc f' (va++args.map a.eval++vb)from if_pos hb];simp[execOp,ho,resolve,e2,Deferred.ofValue,invoke,Gn,hb]
   |false=>
    have hvb:vb=#[]:=by have h1:=hy.resolve_left (by rw[hb];simp);subst h1;have:=rb.1;grind
    subst hvb;rw[show G5 f' (va++args.map a.eval++#[])=Instr.yield (f'-1000000000) (va++args.map a.eval++#[])from if_neg (by rw[hb];simp)];simp[execOp,ho,resolve,e2,Deferred.ofValue,invoke,Gn,hb]
 ·cases hg
end
end Go.Dl
end
section
namespace Go.Dl
open Go Go.RowKit
theorem Jt{α:Type}(l:List α)(off:Nat)(us:List α)(h:off+us.length<=l.length)(j:Nat):(setL l off us)[j]? =if off<=j/\j<off+us.length then us[j-off]? else l[j]? :=by simp only[setL,List.getElem?_append,List.length_append,List.length_take,List.getElem?_take,List.getElem?_drop,Nat.min_eq_left (show off<=l.length by omega)];grind
theorem C4{α:Type}(l:List α)(off:Nat)(us:List α)(h:off+us.length<=l.length):(setL l off us).length=l.length:=by grind[setL]
section
variable {P:Program}{GL:List (Nat×List I)}{n:Nat}{S:Sh}{M:Mem}{μ:Place}{st:St}{a:Act}{w:World}{K:St->Prop}{Q:Exit->Act->World->Prop}{o:Oper}{d:Nat}
theorem S7{t:TypeId}{k b off:Nat}{vs:Array Value}{ty:TypeId}{v:Value}(hk:Qp P t=some k)(hheap:w.heap[b]? =some (.cells vs ty (0,0)))(hv:v.cells.size=k)(j6:off+k<=vs.size)
  (h1:∀u∈v.cells.toList,u.oneCell'=true):(Instr.storeAt t (.pointer (some ⟨b,off,none⟩)) v).run P w=.ok () (w.setRow b (setL vs.toList off v.cells.toList).toArray):=by
 have jh:=run_storeCells_at P b off ty v.cells.toList 0 vs w hheap (by simp;omega) h1;simp only[Nat.add_zero]at jh;simp only[Instr.storeAt,Instr.sureAddr,Sem.run_bind,Sem.run_pure,Result.andThen_ok,storeVar,EU hk,hv,ne_eq,not_true,if_false,jh,setL]
theorem S8{t:TypeId}{x v:Operand}{w':World}(ho:o.op=.store t x v)(h:(Instr.storeAt t (a.eval x) (a.eval v)).run P w=.ok () w'):(execOp a.eval o).run P w=.ok .skip w':=by simp only[execOp,ho,Sem.run_bind,h,Result.andThen_ok,Sem.run_pure]
theorem Rel.storeLoc(h:Rel GL n S M μ st a w){nm off:Nat}{cs ds:List D}{v:Value}{b:Nat}{vs:Array Value}{ty:TypeId}(hg:Aa st.sto nm=some (.cells cs))(hμ:μ nm=.pointer (some ⟨b,0,none⟩))
  (jc:Owns S M w b (.cells vs ty (0,0)))(j0:vs.size=cs.length)(hv:∀j (h:j<cs.length) (h':j<vs.size),AI M μ (names st.sto) (cs[j]) (vs[j]))
  (c1:v.cells.size=ds.length)(c2:∀j (hj:j<ds.length) (h':j<v.cells.size),AI M μ (names st.sto) (ds[j]) (v.cells[j]))(j6:off+ds.length<=cs.length):
  Rel GL n S M μ (st.setB nm (.cells (setL cs off ds))) a (w.setRow b (setL vs.toList off v.cells.toList).toArray)/\Keeps S w (w.setRow b (setL vs.toList off v.cells.toList).toArray):=by
 have hb:=J9 w b (setL vs.toList off v.cells.toList).toArray jc.low;refine⟨h.setBlk hg (by rw[hμ];rfl) hb.size (fun k hk _=>setRow_other w b k _ hk) ⟨b,_,ty,hμ,⟨jc.low,setRow_heap w b vs _ ty _ jc.heap,jc.unk⟩,?_,fun j h1 h2=>?_⟩,hb⟩
 ·simp only[List.size_toArray];rw[C4 _ _ _ (by simp;omega),C4 _ _ _ (by omega)];simpa using j0
 ·rw[CX];have h1':j<cs.length:=by grind[C4]
  have e1:(setL cs off ds)[j]? =some ((setL cs off ds)[j]):=List.getElem?_eq_getElem h1;have e2:(setL vs.toList off v.cells.toList)[j]? =some ((setL vs.toList off v.cells.toList)[j]'(by simpa using h2)):=List.getElem?_eq_getElem _;rw[Jt _ _ _ (by omega)]at e1;rw[Jt _ _ _ (by simp;omega)]at e2;have hl:v.cells.toList.length=ds.length:=by omega
  rw[hl]at e2;by_cases hc:off<=j/\j<off+ds.length
  ·rw[if_pos hc]at e1 e2;have q1:j-off<ds.length:=by omega
   have q2:j-off<v.cells.size:=by omega
   rw[List.getElem?_eq_getElem q1]at e1;rw[List.getElem?_eq_getElem (by simpa using q2)]at e2;simp only[List.getElem_toArray];rw[<-Option.some.inj e1,<-Option.some.inj e2];simpa using c2 (j-off) q1 q2
  ·rw[if_neg hc]at e1 e2;have q2:j<vs.size:=by omega
   rw[List.getElem?_eq_getElem h1']at e1;rw[List.getElem?_eq_getElem (by simpa using q2)]at e2;simp only[List.getElem_toArray];rw[<-Option.some.inj e1,<-Option.some.inj e2];simpa using hv j h1' q2
theorem S9(y:I):Bh (.i y)=(cellsI y).map .i:=by cases y<;>rfl
theorem iC{sto:List (Nat×Blk)}{nm:Nat}{b b':Blk}(h:Aa sto nm=some b):Aa (Ch sto nm b') nm=some b':=by simp[C3,h]
theorem iD(l:List (Nat×Blk))(nm:Nat)(b:Blk)(c:Blk):Cs (SL nm c (Ch l nm b)) nm=Cs (SL nm c l) nm:=by
 induction l with
 |nil=>rfl
 |cons x r ih=>grind[Ch,SL,Cs]
theorem iE(h:Rel GL n S M μ st a w){t:TypeId}{x v:Operand}{ox ov:O}{k:Nat}(ho:o.op=.store t x v)(hd:o.dst=none)(hx:cO GL x=some ox)(hv:cO GL v=some ov)(hk:Qp P t=some k)
  (hs:step P GL (.stfrz ox ov k) st K):o.wpX P a w (Ax GL n S M w K) Q:=by
 have hr:=Az h hx;have hrv:=Az h hv;simp only[step,M8]at hs;split at hs
 ·rename_i nm off e;rw[e]at hr;obtain⟨hN,b,hμ,hxv⟩:=hr;unfold M7 at hs;split at hs
  ·rename_i cs hg;obtain⟨rfl,jd,hi,hkv,kd,hs⟩:=hs;obtain⟨b',vs,ty,hμ',jc,j0,hcv⟩:=h.blk nm _ hg;obtain rfl:b'=b:=by grind
   generalize A8 GL st ov=dv at hrv hi hkv kd hs;cases dv with
   |i y=>
    simp only[Ii]at hkv kd hs;have hone':(Bh (.i y)).all EP=true:=by grind[S9,EP]
    obtain⟨c1,c2,c3⟩:=ST hrv hone';have kp:(Bh (.i y)).length=k:=by grind[S9]
    obtain⟨h2,hb⟩:=h.storeLoc (off:=0) hg hμ jc j0 hcv c1 c2 (by omega);have jg:setL cs 0 (Bh (.i y))=(cellsI y).map .i:=by grind[setL,S9]
    rw[jg]at h2;have hg2:Aa (st.setB nm (.cells ((cellsI y).map .i))).sto nm=some (.cells ((cellsI y).map .i)):=iC hg;obtain⟨M',h3,hm⟩:=h2.freeze hg2 (by simp[FL,BV,Ja]);have e3:(st.setB nm (.cells ((cellsI y).map .i))).frz nm (.cells ((cellsI y).map .i))=st.frz nm (.cells ((cellsI y).map .i)):=by simp[St.frz,St.setB,iD]
    rw[e3]at h3;exact Nj (S8 ho (by rw[hxv];exact S7 hk jc.heap (by omega) (by omega) c3)) ⟨_,hs,M',μ,by rw[hd];exact h3,hm,hb⟩
   |_=>simp[Ja]at hi
  ·exact hs.elim
 ·exact hs.elim
theorem W9{rs:List (List I)}{k:Nat}(hk:∀r∈rs,r.length=k){p:Nat}(hp:p<rs.length*k):∃i j,∃(hi:i<rs.length),j<rs[i].length/\p=i*k+j:=by
 have vk:0<k:=Nat.pos_of_ne_zero fun h=>by subst h;simp at hp
 have hi:p/k<rs.length:=by rw[Nat.div_lt_iff_lt_mul vk];exact hp
 refine⟨p/k,p%k,hi,?_,?_⟩
 ·rw[hk _ (List.getElem_mem hi)];exact Nat.mod_lt _ vk
 ·rw[Nat.mul_comm];exact(Nat.div_add_mod p k).symm
theorem EN.set{cur:Array Value}{o k row off:Nat}{rs:List (List I)}{cs:List I}{us:List Value}(h:EN M cur o k rs)(ju:row<rs.length)(hc:Ak M cs us)(j6:off+cs.length<=k)(j0:o+rs.length*k<=cur.size):
  EN M (setL cur.toList (o+row*k+off) us).toArray o k (rs.set row (setL rs[row] off cs)):=by
 have k9:=hc.1;have w9:rs[row].length=k:=h.1 _ (List.getElem_mem ju);have jj:(row+1)*k<=rs.length*k:=Nat.mul_le_mul_right _ ju;rw[Nat.add_mul]at jj;have hfit2:o+row*k+off+us.length<=cur.toList.length:=by simp;omega
 refine⟨fun r hr=>?_,fun i hi j hj=>?_⟩
 ·rcases List.mem_or_eq_of_mem_set hr with h1|h1
  ·exact h.1 r h1
  ·rw[h1,C4 _ _ _ (by omega)];exact w9
 ·have ja:i<rs.length:=by simpa using hi
  simp only[List.getElem?_toArray];rw[Jt _ _ _ hfit2];by_cases hir:row=i
  ·subst hir;have jq:j<k:=by grind[C4]
   have e8:(setL rs[row] off cs)[j]? =some ((setL rs[row] off cs)[j]'(by rw[C4 _ _ _ (by omega)];omega)):=List.getElem?_eq_getElem _;rw[Jt _ _ _ (by omega)]at e8;by_cases hcc:off<=j/\j<off+cs.length
   ·rw[if_pos hcc]at e8;rw[if_pos (by omega)];have q1:j-off<cs.length:=by omega
    rw[List.getElem?_eq_getElem q1]at e8;refine⟨us[j-off]'(by omega),?_,?_⟩
    ·rw[show o+row*k+j-(o+row*k+off)=j-off by omega];exact List.getElem?_eq_getElem _
    ·have:=hc.2 (j-off) q1 (by omega);have e9:(rs.set row (setL rs[row] off cs))[row][j]=(setL rs[row] off cs)[j]'(by rw[C4 _ _ _ (by omega)];omega):=by simp
     rw[e9,<-Option.some.inj e8];exact this
   ·rw[if_neg hcc]at e8;rw[if_neg (by omega)];have q1:j<rs[row].length:=by omega
    rw[List.getElem?_eq_getElem q1]at e8;obtain⟨v,hv,hr⟩:=h.2 row ju j q1;refine⟨v,by simpa using hv,?_⟩;have e9:(rs.set row (setL rs[row] off cs))[row][j]=(setL rs[row] off cs)[j]'(by rw[C4 _ _ _ (by omega)];omega):=by simp
    rw[e9,<-Option.some.inj e8];exact hr
  ·have e8:(rs.set row (setL rs[row] off cs))[i]=rs[i]:=by rw[List.getElem_set];rw[if_neg hir]
   have jq:j<rs[i].length:=by grind
   have hji:j<k:=by rw[<-h.1 _ (List.getElem_mem ja)];exact jq
   obtain⟨v,hv,hr⟩:=h.2 i ja j jq;rw[if_neg]
   ·refine⟨v,by simpa using hv,?_⟩;simp only[e8];exact hr
   ·intro hcc;rcases Nat.lt_or_gt_of_ne hir with h1|h1
    ·have:(row+1)*k<=i*k:=Nat.mul_le_mul_right _ h1;rw[Nat.add_mul]at this;omega
    ·have:(i+1)*k<=row*k:=Nat.mul_le_mul_right _ h1;rw[Nat.add_mul]at this;omega
theorem OV(h:Rel GL n S M μ st a w){nm:Nat}{et k:Nat}{rs:List (List I)}(hg:Aa st.sto nm=some (.rows et k rs)){b oo cap:Nat}(hμ:μ nm=.slice (some ⟨b,oo,none⟩) 0 cap)(kc:0<cap):
  ∃cur,Owns S M w b (.cells cur et (0,0))/\cap<=maxLen/\cur.size=oo+cap*k/\rs.length<=cap/\EN M cur oo k rs:=by
 obtain⟨aa,cap',e1,hh⟩:=h.blk nm _ hg;rw[hμ]at e1;injection e1 with e1 _ e2
 subst e1;subst e2;rcases hh with⟨rfl,_⟩|⟨b',o',cur,e3,hc,ho,q⟩
 ·omega
 ·injection e3 with e3;injection e3 with e4 e5;subst e4;subst e5
  exact⟨cur,ho,q⟩
theorem iF(h:Rel GL n S M μ st a w){t:TypeId}{x v:Operand}{ox ov:O}{k:Nat}(ho:o.op=.store t x v)(hd:o.dst=none)(hx:cO GL x=some ox)(hv:cO GL v=some ov)(hk:Qp P t=some k)
  (hs:step P GL (.store ox ov k) st K):o.wpX P a w (Ax GL n S M w K) Q:=by
 have hr:=Az h hx;have hrv:=Az h hv;simp only[step,HD]at hs;split at hs
 ·rename_i nm off e;rw[e]at hr;obtain⟨hN,b,hμ,hxv⟩:=hr;unfold Kh at hs;split at hs
  ·rename_i cs hg;obtain⟨jd,kd,j6,hs⟩:=hs;obtain⟨b',vs,ty,hμ',jc,j0,hcv⟩:=h.blk nm _ hg;obtain rfl:b'=b:=by grind
   obtain⟨c1,c2,c3⟩:=ST hrv kd;obtain⟨h2,hb⟩:=h.storeLoc (off:=off) hg hμ jc j0 hcv c1 c2 (by omega);exact Nj (S8 ho (by rw[hxv];exact S7 hk jc.heap (by omega) (by omega) c3)) ⟨_,hs,M,μ,by rw[hd];exact h2,MExt.refl _ _,hb⟩
  ·exact hs.elim
 ·rename_i nm kk row off e;rw[e]at hr;obtain⟨hN,b,oo,cap,hμ,hrc,hxv⟩:=hr;unfold M6 at hs;split at hs
  ·rename_i et k' rs hg;obtain⟨rfl,ju,hi,hkv,kd,j6,hs⟩:=hs;obtain⟨cur,jc,q1,q2,q3,q4⟩:=OV h hg hμ (by omega);have hrow':rs.getD row []=rs[row]:=by grind
   rw[hrow']at j6 hs;have w9:rs[row].length=kk:=q4.1 _ (List.getElem_mem ju);have jp:=(OS hrv hi).cellsI;have j0:(a.eval v).cells.size=k:=by have:=jp.1;simp at this;omega
   have hones:∀u∈(a.eval v).cells.toList,u.oneCell'=true:=fun u hu=>by
    obtain⟨j,hj,rfl⟩:=List.mem_iff_getElem.1 hu;have jq:j<(cellsI (Ii (A8 GL st ov))).length:=by grind
    exact(jp.2 j jq hj).oneCell (by simp only[List.all_eq_true]at kd;exact kd _ (List.getElem_mem jq))
   have hm1:rs.length*kk<=cap*kk:=Nat.mul_le_mul_right _ q3;have hm2:(row+1)*kk<=rs.length*kk:=Nat.mul_le_mul_right _ ju;rw[Nat.add_mul]at hm2;have hb:=J9 w b (setL cur.toList (oo+row*kk+off) (a.eval v).cells.toList).toArray jc.low;refine Nj (S8 ho (by rw[hxv];exact S7 hk jc.heap j0 (by omega) hones)) ⟨_,hs,M,μ,?_,MExt.refl _ _,hb⟩;rw[hd];refine h.setBlk hg (by rw[hμ];simp only[An];rw[if_neg (by omega)]) hb.size (fun q hq _=>setRow_other w b q _ hq) ⟨_,cap,hμ,.inr ⟨b,oo,_,rfl,by omega,⟨jc.low,setRow_heap w b cur _ et _ jc.heap,jc.unk⟩,q1,?_,by simpa using q3,q4.set ju jp (by omega) (by omega)⟩⟩;simp only[List.size_toArray];rw[C4 _ _ _ (by simp;omega)];simpa using q2
  ·exact hs.elim
 ·exact hs.elim
end
end Go.Dl
end
section
namespace Go.Dl
open Go Go.RowKit
variable{k len cap:Nat}{cur:Array Value}
section
variable {P:Program}{GL:List (Nat×List I)}{n:Nat}{S:Sh}{M:Mem}{μ:Place}{st:St}{sto:List (Nat×Blk)}{a:Act}{w w':World}{K:St->Prop}{Q:Exit->Act->World->Prop}{o:Oper}{d nm:Nat}
theorem StoOk.reset(h:StoOk S M μ sto w){blk blk':Blk}(jl:Aa sto nm=some blk){x:Value}(hs:w.heap.size<=w'.heap.size)(kn:∀k,k<w.heap.size->An (μ nm)≠some k->w'.heap[k]? =w.heap[k]?)
  (qn:∀q,An x=some q->An (μ nm)=some q\/w.heap.size<=q)(hb:AQ S M (BP μ nm x) (names (Ch (SL nm (.iter none []) sto) nm blk')) w' nm blk'):
  StoOk S M (BP μ nm x) (Ch (SL nm (.iter none []) sto) nm blk') w':=by
 have hN:∀m,names (Ch (SL nm (.iter none []) sto) nm blk') m↔names sto m:=fun m=>by rw[CX,WG]
 have hn0:names sto nm:=by simp[names,jl]
 have hoth:∀m k,m≠nm->names sto m->An (μ m)=some k->An (μ nm)≠some k:=fun m k hm hs hk e=>h.sep m nm k k hm hs hn0 hk e rfl
 refine⟨h.sub.world fun k hk hu=>kn k hk fun e=>hu (h.lt hn0 e).2.2,fun m bb hm=>?_,fun m m' k k' ji h1 h2 hk jk=>?_,fun b hb=>Nat.lt_of_lt_of_le (h.low b hb) hs⟩
 ·simp only[C3,Hz]at hm;split at hm
  ·rename_i e;subst e;simp only[jl,Option.map_some,Option.some.injEq]at hm;subst hm;exact hb
  ·rename_i ji;cases hy:Aa sto m with
   |none=>simp[hy]at hm
   |some y=>
    simp only[hy,Option.map_some,Option.some.injEq]at hm;subst hm;have hmn:names sto m:=by simp[names,hy]
    refine(h.blk m y hy).sb (Mem.le_refl _) (fun q hq hqn=>⟨(hN q).2 hqn,CY _ _ hq⟩) (fun r v e _=>by simp only[WD,if_pos e];cases r<;>trivial) (CY _ _ ji) (fun k hk jn=>kn k jn (hoth m k ji hmn hk)) (fun _ _ _=>Mem.same_refl _ _)
 ·rw[hN]at h1 h2;have key:∀m q,m≠nm->names sto m->An (μ m)=some q->An x≠some q:=fun m q hm hs hq hv=>by
   rcases qn q hv with e'|e'
   ·exact hoth m q hm hs hq e'
   ·have:=(h.lt hs hq).1;omega
  by_cases e1:m=nm
  ·by_cases e2:m'=nm
   ·exact absurd (e1.trans e2.symm) ji
   ·subst e1;rw[Bq]at hk;rw[CY _ _ e2]at jk;intro hqq;subst hqq;exact key m' k e2 h2 jk hk
  ·rw[CY _ _ e1]at hk;by_cases e2:m'=nm
   ·subst e2;rw[Bq]at jk;intro hqq;subst hqq;exact key m k e1 h1 hk jk
   ·rw[CY _ _ e2]at jk;exact h.sep m m' k k' ji h1 h2 hk jk
theorem Rel.reset(h:Rel GL n S M μ st a w)(hpin:¬pinned nm){blk blk':Blk}(jl:Aa st.sto nm=some blk){x:Value}(hs:w.heap.size<=w'.heap.size)(kn:∀k,k<w.heap.size->An (μ nm)≠some k->w'.heap[k]? =w.heap[k]?)
  (qn:∀q,An x=some q->An (μ nm)=some q\/w.heap.size<=q)(hb:AQ S M (BP μ nm x) (names (Ch (SL nm (.iter none []) st.sto) nm blk')) w' nm blk'):
  Rel GL n S M (BP μ nm x) ((⟨.sb nm (.iter none []) st.env,SL nm (.iter none []) st.sto⟩:St).setB nm blk') a w':=
 h.of (st':=(⟨.sb nm (.iter none []) st.env,SL nm (.iter none []) st.sto⟩:St).setB nm blk') (h.toStoOk.reset jl hs kn qn hb) (Mem.le_refl _) (fun s v hv=>by simp only[St.setB,Aj];exact hv.sb (Mem.le_refl _) (fun q hq hqn=>⟨by rw[CX,WG];exact hqn,CY _ _ hq⟩) (fun r v e _=>by simp only[WD,if_pos e];cases r<;>trivial)) fun m hm=>CY _ _ fun e=>hpin (e▸hm)
theorem Xa{rows:List (List I)}{v:Value}(h:Rep M (.sl rows) v)(ji:rows≠[]){k:Nat}(hk:∀r∈rows,r.length=k)(kd:∀r∈rows,r.all I.one=true):
  ∃b oo cap,∃us:List Value,v=.slice (some ⟨b,oo,none⟩) rows.length cap/\us.length=rows.length*k/\(∀j u,us[j]? =some u->M.c b (oo+j)=some u)/\(∀u∈us,u.oneCell'=true)/\
   ∀i (hi:i<rows.length) j (hj:j<rows[i].length),∃u,us[i*k+j]? =some u/\Rep M (rows[i][j]) u:=by
 cases h with
 |slnil=>exact absurd rfl ji
 |slempty=>exact absurd rfl ji
 |sl _ k' b oo cap vv jk hc hm hr=>
  have jx:0<rows.length:=by grind
  obtain rfl:k'=k:=by rw[<-jk _ (List.getElem_mem jx),hk _ (List.getElem_mem jx)]
  have j4:∀p,p<rows.length*k'->∃u,M.c b (oo+p)=some u/\u.oneCell'=true:=fun p hp=>by obtain⟨i,j,hi,hj,rfl⟩:=W9 hk hp;have:=hm i hi j hj;rw[Nat.add_assoc]at this;refine⟨_,this,(hr i hi j hj).oneCell ?_⟩;grind
  refine⟨b,oo,cap,(List.range (rows.length*k')).map (fun p=>(M.c b (oo+p)).getD Go.undef),rfl,by simp,?_,?_,?_⟩
  ·intro j u hu;simp only[List.getElem?_map,Option.map_eq_some_iff]at hu;obtain⟨p,hp,rfl⟩:=hu;obtain⟨jn,hp⟩:=List.getElem?_eq_some_iff.1 hp;simp at jn hp;subst hp;obtain⟨u,hu,_⟩:=j4 j jn;simp[hu]
  ·intro u hu;simp only[List.mem_map,List.mem_range]at hu;obtain⟨p,hp,rfl⟩:=hu;obtain⟨u,hu,h1⟩:=j4 p hp;simp[hu,h1]
  ·intro i hi j hj;have jn:i*k'+j<rows.length*k':=by have:(i+1)*k'<=rows.length*k':=Nat.mul_le_mul_right _ hi;grind
   refine⟨_,?_,hr i hi j hj⟩;have:=hm i hi j hj;rw[Nat.add_assoc]at this;simp[jn,this]
theorem Xb(t ty e:TypeId)(i:TypeInfo)(ht:P.underlying t=some (.slice e))(hi:P.info? e=some i)(g og sLen sCap:Nat)(cur:Array Value)(hg:w.heap[g]? =some (.cells cur e (0,0)))
  (b:Addr)(m c:Nat)(news:List Value)(hl:news.length=m*i.size)(qf:∀j u,news[j]? =some u->w.cell? (b.add j)=some u)(h1:∀u∈news,u.oneCell'=true)
  (j5:sLen+m<=sCap)(j6:og+sLen*i.size+news.length<=cur.size):
  (Builtin.append_ #[t,t] ty #[.slice (some ⟨g,og,none⟩) sLen sCap,.slice (some b) m c]).run P w=
   .ok (.slice (some ⟨g,og,none⟩) (sLen+m) sCap) (w.setRow g (setL cur.toList (og+sLen*i.size) news).toArray):=by
 have hf:=run_firstCells_some (P:=P) w i.size m b m c news hl qf;have jh:=run_storeCells_at P g (og+sLen*i.size) e news 0 cur w hg (by simpa using j6) h1;simp only[Nat.add_zero]at jh;simp[Builtin.append_,run_underlying ht,sizeOf,typeInfo,hi,Builtin.lenOf,j5,hf,Fk,jh,setL]
theorem Ta(t ty e:TypeId)(i:TypeInfo)(ht:P.underlying t=some (.slice e))(hi:P.info? e=some i)(aa:Option Addr)(haa:∀x,aa=some x->x.spot=none)(l cap:Nat)(hlc:l<=cap)(b:Option Addr)(c:Nat):
  (Builtin.append_ #[t,t] ty #[.slice aa l cap,.slice b 0 c]).run P w=.ok (.slice aa l cap) w:=by
 cases aa<;>cases b<;>simp[Builtin.append_,run_underlying ht,sizeOf,typeInfo,Builtin.lenOf,Builtin.firstCells,loadCells,loadCellsFrom,storeCells, *]
def Cu(cur:Array Value)(o k lo hi:Nat):List Value:=(cur.toList.drop (o+lo*k)).take ((hi-lo)*k)
theorem EN.view{o lo hi:Nat}{rs:List (List I)}(h:EN M cur o k rs)(qc:lo<=hi)(qx:hi<=rs.length)(j0:o+rs.length*k<=cur.size):
  (Cu cur o k lo hi).length=(hi-lo)*k/\∀i (ja:i<((rs.take hi).drop lo).length) j (hj:j<((rs.take hi).drop lo)[i].length),∃u,(Cu cur o k lo hi)[i*k+j]? =some u/\Rep M (((rs.take hi).drop lo)[i][j]) u:=by
 have hm:hi*k<=rs.length*k:=Nat.mul_le_mul_right _ qx;have hm2:lo*k+(hi-lo)*k=hi*k:=by rw[<-Nat.add_mul];congr 1;omega
 refine⟨by simp[Cu];omega,fun i ja j hj=>?_⟩;have hl:((rs.take hi).drop lo).length=hi-lo:=by simp;omega
 have e:((rs.take hi).drop lo)[i]=rs[lo+i]'(by omega):=by simp
 have jq:=hj;rw[e]at jq;obtain⟨v,hv,hr⟩:=h.2 (lo+i) (by omega) j jq;have hjk:j<k:=by rw[<-h.1 _ (List.getElem_mem (show lo+i<rs.length by omega))];exact jq
 have jn:i*k+j<(hi-lo)*k:=by have:(i+1)*k<=(hi-lo)*k:=Nat.mul_le_mul_right _ (by omega);grind
 refine⟨v,?_,?_⟩
 ·simp only[Cu,List.getElem?_take,if_pos jn,List.getElem?_drop];rw[show o+lo*k+(i*k+j)=o+(lo+i)*k+j by rw[Nat.add_mul];omega];simpa using hv
 ·have e9:((rs.take hi).drop lo)[i][j]=rs[lo+i][j]:=by simp
  rw[e9];exact hr
theorem OW{o:Nat}{as bs:List (List I)}{xs us:List Value}(vl:xs.length=as.length*k)(hka:∀r∈as,r.length=k)(hkb:∀r∈bs,r.length=k)
  (hx:∀i (hi:i<as.length) j (hj:j<as[i].length),∃u,xs[i*k+j]? =some u/\Rep M (as[i][j]) u)(hu:∀i (hi:i<bs.length) j (hj:j<bs[i].length),∃u,us[i*k+j]? =some u/\Rep M (bs[i][j]) u)
  (hcur:∀j v,(xs++us)[j]? =some v->cur[o+j]? =some v):EN M cur o k (as++bs):=by
 refine⟨fun r hr=>(List.mem_append.1 hr).elim (hka r) (hkb r),fun i hi j hj=>?_⟩;by_cases ja:i<as.length
 ·have e8:(as++bs)[i]=as[i]:=List.getElem_append_left ja;obtain⟨u,hu,hr⟩:=hx i ja j (by rw[<-e8];exact hj);refine⟨u,?_,by simp only[e8];exact hr⟩;rw[Nat.add_assoc];refine hcur _ _ ?_;rw[List.getElem?_append_left (List.getElem?_eq_some_iff.1 hu).1];exact hu
 ·have jt:i-as.length<bs.length:=by rw[List.length_append]at hi;omega
  have e8:(as++bs)[i]=bs[i-as.length]:=List.getElem_append_right (by omega);obtain⟨u,hu,hr⟩:=hu (i-as.length) jt j (by rw[<-e8];exact hj);refine⟨u,?_,by simp only[e8];exact hr⟩;have jj:as.length*k<=i*k:=Nat.mul_le_mul_right _ (by omega);rw[Nat.add_assoc];refine hcur _ _ ?_;rw[List.getElem?_append_right (by rw[vl];omega),vl,<-hu];congr 1;rw[Nat.sub_mul];omega
theorem FO{t:TypeId}{x y:Operand}{v':Value}{w':World}(ho:o.op=.call {callee:=.builtin .append,args:=#[x,y],argTypes:=#[t,t]})
  (h:(Builtin.append_ #[t,t] o.type #[a.eval x,a.eval y]).run P w=.ok v' w'):(execOp a.eval o).run P w=.ok (.value v') w':=by
 simp only[execOp,ho,resolve,Sem.run_bind,Sem.run_pure,Result.andThen_ok,invoke,builtin,List.map_toArray,List.map_cons,List.map_nil,h]
theorem OX:∀{l:List (Option (List I))} {as:List (List I)},FN l=some as->l=as.map some
 |[],as,h=>by grind[FN]
 |some r::rs,as,h=>by
  simp only[FN]at h;split at h
  ·rename_i l hl;cases h;simp[<-OX hl]
  ·cases h
 |none::_,as,h=>by grind[FN]
theorem LV(h:Rel GL n S M μ st a w){nm e k:Nat}{rs:List (Option (List I))}(hg:Aa st.sto nm=some (.arr e k rs)){b oo cap:Nat}(hμ:μ nm=.slice (some ⟨b,oo,none⟩) 0 cap)(kc:0<cap):
  ∃cur,Owns S M w b (.cells cur e (0,0))/\rs.length=cap/\cap<=maxLen/\cur.size=oo+cap*k/\Hy M cur oo k rs:=by
 obtain⟨aa,e1,hh⟩:=h.blk nm _ hg;rw[hμ]at e1;injection e1 with e1 _ e2
 subst e1;subst e2;rcases hh with rfl|⟨b',o',cur,e3,ji,ho,q1,q2,q3⟩
 ·simp at kc
 ·injection e3 with e3;injection e3 with e4 e5;subst e4;subst e5
  exact⟨cur,ho,rfl,q1,q2,q3⟩
theorem LW(h:Rel GL n S M μ st a w){nm e k:Nat}{rs:List (Option (List I))}(hg:Aa st.sto nm=some (.arr e k rs)){aa:Option Addr}{cap:Nat}(hμ:μ nm=.slice aa 0 cap):rs.length=cap:=by obtain⟨aa',e1,_⟩:=h.blk nm _ hg;grind
theorem Hy.set{o:Nat}{rs:List (Option (List I))}(h:Hy M cur o k rs)(j0:o+rs.length*k<=cur.size){lo:Nat}{bs:List (List I)}{us:List Value}(hb:∀r∈bs,r.length=k)(k9:us.length=bs.length*k)
  (hu:∀i (hi:i<bs.length) j (hj:j<bs[i].length),∃u,us[i*k+j]? =some u/\Rep M (bs[i][j]) u)(j6:lo+bs.length<=rs.length):
  Hy M (setL cur.toList (o+lo*k) us).toArray o k (setL rs lo (bs.map some)):=by
 have hm:(lo+bs.length)*k<=rs.length*k:=Nat.mul_le_mul_right _ j6;rw[Nat.add_mul]at hm;have hfit2:o+lo*k+us.length<=cur.toList.length:=by simp;omega
 intro i r hr;rw[Jt _ _ _ (by simpa using j6)]at hr;have cell:∀q:Nat,(setL cur.toList (o+lo*k) us).toArray[q]? =if o+lo*k<=q/\q<o+lo*k+us.length then us[q-(o+lo*k)]? else cur[q]? :=fun q=>by grind[Jt]
 split at hr
 ·rename_i kh;simp only[List.length_map]at kh;have jn:i-lo<bs.length:=by omega
  simp only[List.getElem?_map,List.getElem?_eq_getElem jn,Option.map_some,Option.some.injEq]at hr;subst hr;have hk:=hb _ (List.getElem_mem jn);refine⟨hk,fun j hj=>?_⟩;obtain⟨u,hu1,hu2⟩:=hu (i-lo) jn j hj;refine⟨u,?_,hu2⟩;have e1:i*k=lo*k+(i-lo)*k:=by rw[<-Nat.add_mul];congr 1;omega
  have h1:=(List.getElem?_eq_some_iff.1 hu1).1;rw[cell,if_pos (by omega),<-hu1];congr 1;omega
 ·rename_i hout;simp only[List.length_map]at hout;obtain⟨h1,h2⟩:=h i r hr;refine⟨h1,fun j hj=>?_⟩;obtain⟨v,hv,vj⟩:=h2 j hj;refine⟨v,?_,vj⟩;rw[cell,if_neg,hv];rintro⟨g1,g2⟩;by_cases qc:i<lo
  ·have:(i+1)*k<=lo*k:=Nat.mul_le_mul_right _ qc;rw[Nat.add_mul]at this;omega
  ·have:(lo+bs.length)*k<=i*k:=Nat.mul_le_mul_right _ (by omega);rw[Nat.add_mul]at this;omega
theorem Hy.view{o lo hi:Nat}{rs:List (Option (List I))}{as:List (List I)}(h:Hy M cur o k rs)(qc:lo<=hi)(qx:hi<=rs.length)(j0:o+rs.length*k<=cur.size)(ha:(rs.take hi).drop lo=as.map some):
  as.length=hi-lo/\(∀r∈as,r.length=k)/\(Cu cur o k lo hi).length=(hi-lo)*k/\∀i (ja:i<as.length) j (hj:j<as[i].length),∃u,(Cu cur o k lo hi)[i*k+j]? =some u/\Rep M (as[i][j]) u:=by
 have hl:as.length=hi-lo:=by have:=congrArg List.length ha;simp at this;omega
 have ka:∀i (ja:i<as.length),rs[lo+i]? =some (some as[i]):=fun i ja=>by have:=congrArg (·[i]?) ha;grind
 have hm:hi*k<=rs.length*k:=Nat.mul_le_mul_right _ qx;have hm2:lo*k+(hi-lo)*k=hi*k:=by rw[<-Nat.add_mul];congr 1;omega
 refine⟨hl,fun r hr=>?_,by simp[Cu];omega,fun i ja j hj=>?_⟩
 ·obtain⟨i,ja,rfl⟩:=List.getElem_of_mem hr;exact(h _ _ (ka i ja)).1
 ·obtain⟨hk,hc⟩:=h _ _ (ka i ja);obtain⟨v,hv,hr⟩:=hc j hj;refine⟨v,?_,hr⟩;have jn:i*k+j<(hi-lo)*k:=by have:(i+1)*k<=(hi-lo)*k:=Nat.mul_le_mul_right _ (by omega);grind
  simp only[Cu,List.getElem?_take,if_pos jn,List.getElem?_drop];rw[show o+lo*k+(i*k+j)=o+(lo+i)*k+j by rw[Nat.add_mul];omega];simpa using hv
theorem iG{ys:List (List I)}{us:List Value}(hk:LP k ys)(k9:us.length=ys.length*k)(hu:∀i (hi:i<ys.length) j (hj:j<ys[i].length),∃u,us[i*k+j]? =some u/\Rep M (ys[i][j]) u):∀u∈us,u.oneCell'=true:=fun u hm=>by obtain⟨p,hp,rfl⟩:=List.getElem_of_mem hm;obtain⟨i,j,hi,hj,rfl⟩:=W9 hk.1 (by rw[<-k9];exact hp);obtain⟨v,hv,hr⟩:=hu i hi j hj;rw[List.getElem?_eq_getElem hp]at hv;cases hv;refine hr.oneCell ?_;have:=hk.2 _ (List.getElem_mem hi);grind
theorem Tb(h:Rel GL n S M μ st a w){Y:D}{v:Value}(hr:AI M μ (names st.sto) Y v){ys:List (List I)}(hs:G2 (Aa st.sto) Y=some ys){k:Nat}(hk:LP k ys):
  (ys=[]->∃bb c,v=.slice bb 0 c)/\(ys≠[]->∃bb oo ycap,∃us:List Value,v=.slice (some ⟨bb,oo,none⟩) ys.length ycap/\us.length=ys.length*k/\(∀j u,us[j]? =some u->w.cell? ⟨bb,oo+j,none⟩=some u)/\(∀u∈us,u.oneCell'=true)/\
   ∀i (hi:i<ys.length) j (hj:j<ys[i].length),∃u,us[i*k+j]? =some u/\Rep M (ys[i][j]) u):=by
 have first:(Y=.i (.sl ys))->_:=fun e=>by
  subst e;have hr:Rep M (.sl ys) v:=hr;show(ys=[]->∃bb c,v=.slice bb 0 c)/\(ys≠[]->∃bb oo ycap,∃us:List Value,v=.slice (some ⟨bb,oo,none⟩) ys.length ycap/\us.length=ys.length*k/\(∀j u,us[j]? =some u->w.cell? ⟨bb,oo+j,none⟩=some u)/\(∀u∈us,u.oneCell'=true)/\
   ∀i (hi:i<ys.length) j (hj:j<ys[i].length),∃u,us[i*k+j]? =some u/\Rep M (ys[i][j]) u)
  refine⟨fun e=>?_,fun ji=>?_⟩
  ·subst e;cases hr with
   |slnil=>exact⟨_,_,rfl⟩
   |slempty=>exact⟨_,_,rfl⟩
   |sl=>exact⟨_,_,rfl⟩
  ·obtain⟨bb,oo,ycap,us,q1,q2,q3,q4,q5⟩:=Xa hr ji hk.1 hk.2;exact⟨bb,oo,ycap,us,q1,q2,fun j u hu=>h.sub.1 _ _ _ (q3 j u hu),q4,q5⟩
 cases Y with
 |i x=>
  cases x with
  |sl rows=>simp only[G2,Option.some.injEq]at hs;exact first (by rw[hs])
  |_=>simp[G2]at hs
 |ref r=>
  cases r with
  |sl nm k0 lo hi=>
  simp only[G2]at hs;obtain⟨hN,aa,cap,hμ,qc,kc,qi⟩:=hr;have fin:∀{e:Nat} {cur:Array Value} {b o:Nat},hi-lo=ys.length->v=.slice (some ⟨b,o+lo*k0,none⟩) (hi-lo) (cap-lo)->Owns S M w b (.cells cur e (0,0))->(Cu cur o k0 lo hi).length=(hi-lo)*k0->(∀r∈ys,r.length=k0)->
    (∀i (ja:i<ys.length) j (hj:j<ys[i].length),∃u,(Cu cur o k0 lo hi)[i*k0+j]? =some u/\Rep M (ys[i][j]) u)->
    (ys=[]->∃bb c,v=.slice bb 0 c)/\(ys≠[]->∃bb oo ycap,∃us:List Value,v=.slice (some ⟨bb,oo,none⟩) ys.length ycap/\us.length=ys.length*k/\(∀j u,us[j]? =some u->w.cell? ⟨bb,oo+j,none⟩=some u)/\(∀u∈us,u.oneCell'=true)/\
     ∀i (hi:i<ys.length) j (hj:j<ys[i].length),∃u,us[i*k+j]? =some u/\Rep M (ys[i][j]) u):=fun{e cur b o} hl hv jc hfl hkk hvw=>by
   refine⟨fun e=>?_,fun ji=>?_⟩
   ·subst e;exact⟨_,_,by rw[hv,hl];rfl⟩
   ·have jx:0<ys.length:=by cases ys<;>simp_all
    obtain rfl:k0=k:=by rw[<-hkk _ (List.getElem_mem jx),hk.1 _ (List.getElem_mem jx)]
    refine⟨b,o+lo*k0,cap-lo,Cu cur o k0 lo hi,by rw[hv,hl],by rw[hfl,hl],fun j u hu=>?_,iG hk (by rw[hfl,hl]) hvw,hvw⟩;simp only[Cu,List.getElem?_take,List.getElem?_drop]at hu;split at hu
    ·simp only[World.cell?,jc.heap];simpa using hu
    ·cases hu
  unfold LO at hs;split at hs
  ·rename_i e k' rs hg;split at hs
   ·rename_i hc;obtain⟨rfl,qx⟩:=hc;cases hs;rcases qi with⟨rfl,a',hv⟩|⟨b,o,rfl,hv⟩
    ·have:(rs.take hi).drop cap=[]:=by rw[List.drop_eq_nil_iff];simp;omega
     rw[this];exact⟨fun _=>⟨_,_,hv⟩,fun ji=>(ji rfl).elim⟩
    ·by_cases xa:cap=0
     ·have:(rs.take hi).drop lo=[]:=by rw[List.drop_eq_nil_iff];simp;omega
      rw[this];refine⟨fun _=>⟨some ⟨b,o+lo*k',none⟩,cap-lo,by rw[hv];congr 1;omega⟩,fun ji=>(ji rfl).elim⟩
     ·obtain⟨cur,jc,q1,q2,q3,q4⟩:=OV h hg hμ (by omega);have xb:rs.length*k'<=cap*k':=Nat.mul_le_mul_right _ q3;obtain⟨v1,v2⟩:=q4.view qc qx (by omega);exact fin (by simp;omega) hv jc v1 (fun r hr=>q4.1 r (List.mem_of_mem_take (List.mem_of_mem_drop hr))) v2
   ·cases hs
  ·rename_i e k' rs hg;split at hs
   ·rename_i hc;obtain⟨rfl,qx⟩:=hc;have ha:=OX hs;have wh:=LW h hg hμ;rcases qi with⟨rfl,a',hv⟩|⟨b,o,rfl,hv⟩
    ·have e0:(rs.take hi).drop cap=[]:=by rw[List.drop_eq_nil_iff];simp;omega
     rw[e0]at ha;have:ys=[]:=by have:=congrArg List.length ha;simp at this;exact List.eq_nil_of_length_eq_zero this.symm
     subst this;exact⟨fun _=>⟨_,_,hv⟩,fun ji=>(ji rfl).elim⟩
    ·by_cases xa:cap=0
     ·have e0:(rs.take hi).drop lo=[]:=by rw[List.drop_eq_nil_iff];simp;omega
      rw[e0]at ha;have:ys=[]:=by have:=congrArg List.length ha;simp at this;exact List.eq_nil_of_length_eq_zero this.symm
      subst this;refine⟨fun _=>⟨some ⟨b,o+lo*k',none⟩,cap-lo,by rw[hv];congr 1;omega⟩,fun ji=>(ji rfl).elim⟩
     ·obtain⟨cur,jc,q1,q2,q3,q4⟩:=LV h hg hμ (by omega);obtain⟨v0,v3,v1,v2⟩:=q4.view qc qx (by rw[q1];omega) ha;exact fin (by omega) hv jc v1 v3 v2
   ·cases hs
  ·cases hs
  |_=>simp[G2]at hs
 |_=>simp[G2]at hs
theorem QE{α:Type}(l:List α)(o:Nat):setL l o []=l:=by simp[setL]
theorem iH(h:Rel GL n S M μ st a w){t e:TypeId}{i:TypeInfo}{z:Value}{x y:Operand}{oy:O}{k b e' k' nm k0 lo hi:Nat}{rs:List (Option (List I))}{ys:List (List I)}(ho:o.op=.call {callee:=.builtin .append,args:=#[x,y],argTypes:=#[t,t]})
  (hd:o.dst=some d)(hn:d<n)(hr:BU μ (names st.sto) (.sl nm k0 lo hi) (a.eval x))(hy:cO GL y=some oy)(ht:P.underlying t=some (.slice e))(ja:P.info? e=some i)(hz:i.zero=some z)(hk:i.size=k)(hb:i.bytes=b)
  (vd:z.cells.size=k)(vk:0<k)(hg:Aa st.sto nm=some (.arr e' k' rs))(hsrc:G2 (Aa st.sto) (A8 GL st oy)=some ys)(hs:Kr (Aa st.sto d) e' k' rs nm k0 lo hi d e k b ys st K):o.wpX P a w (Ax GL n S M w K) Q:=by
 obtain⟨rfl,rfl,rfl,qc,qx,kd,kh,hout⟩:=hs;subst hk;subst hb;obtain⟨hN,aa,cap,hμ,hlo',kc,qi⟩:=hr;have wi:=Az h hy;obtain⟨s1,s2⟩:=Tb h wi hsrc kd;have wh:=LW h hg hμ;by_cases j5:hi+ys.length<=rs.length
 ·have hs:=kh j5;by_cases ji:ys=[]
  ·subst ji;obtain⟨bb,c,vg⟩:=s1 rfl;simp only[List.map_nil,QE,List.length_nil,Nat.add_zero]at hs;have kq:Rel GL n S M μ (st.setB nm (.arr e' i.size rs)) a w:=by
    refine h.of (st':=st.setB nm (.arr e' i.size rs)) ⟨h.sub,fun m x hx=>?_,fun m m' k k' ji h1 h2=>?_,h.low⟩ (Mem.le_refl _) fun s v hv=>by simp only[St.setB];rw[CX];exact hv
    ·simp only[St.setB,C3]at hx⊢;rw[CX];split at hx
     ·rename_i e;subst e;rw[hg]at hx;cases hx;exact h.blk _ _ hg
     ·exact h.blk _ _ hx
    ·simp only[St.setB,CX]at h1 h2;exact h.sep m m' k k' ji h1 h2
   have hv:∃A l c',a.eval x=.slice A l c'/\(∀x,A=some x->x.spot=none\/(l=0/\c'=0))/\l<=c':=by
    rcases qi with⟨rfl,a',hv⟩|⟨b1,o1,rfl,hv⟩
    ·exact⟨a',0,0,hv,fun _ _=>.inr ⟨rfl,rfl⟩,Nat.le_refl _⟩
    ·exact⟨_,_,_,hv,fun x e=>by cases e;exact .inl rfl,by omega⟩
   obtain⟨A,l,c',hv,hsp,hlc⟩:=hv;refine B9 (v:=a.eval x) (w':=w) (FO ho ?_) ⟨_,hs,M,μ,by rw[hd];exact kq.put hn ⟨by simp only[St.setB];rw[CX];exact hN,aa,cap,hμ,hlo',kc,qi⟩,MExt.refl _ _,Keeps.refl _ _⟩;rw[hv,vg];cases A with
   |none=>cases bb<;>simp[Builtin.append_,run_underlying ht,sizeOf,typeInfo,Builtin.lenOf,Builtin.firstCells,loadCells,loadCellsFrom,ja,hlc]
   |some A=>cases bb<;>simp[Builtin.append_,run_underlying ht,sizeOf,typeInfo,Builtin.lenOf,Builtin.firstCells,loadCells,loadCellsFrom,storeCells,ja,hlc]
  ·obtain⟨bb,oo,ycap,us,vg,k9,hum,huo,hur⟩:=s2 ji;have jx:0<ys.length:=by cases ys<;>simp_all
   rcases qi with⟨rfl,a',hv⟩|⟨b1,o1,rfl,hv⟩
   ·omega
   ·obtain⟨cur,jc,q1,q2,q3,q4⟩:=LV h hg hμ (by omega);have hbo:An (μ nm)=some b1:=by rw[hμ];simp only[An];rw[if_neg (by omega)]
    have hmul:lo*i.size+(hi-lo)*i.size=hi*i.size:=by rw[<-Nat.add_mul];congr 1;omega
    have hm5:(hi+ys.length)*i.size<=cap*i.size:=Nat.mul_le_mul_right _ (by omega);rw[Nat.add_mul]at hm5;have hr:=Xb (P:=P) t o.type e' i ht ja b1 (o1+lo*i.size) (hi-lo) (cap-lo) cur jc.heap ⟨bb,oo,none⟩ ys.length ycap us k9 (fun j u hu=>by rw[Fk];exact hum j u hu) huo (by omega) (by omega);rw[show o1+lo*i.size+(hi-lo)*i.size=o1+hi*i.size by omega]at hr;have qu:=J9 w b1 (setL cur.toList (o1+hi*i.size) us).toArray jc.low;have k7:=q4.set (by rw[q1];omega) (lo:=hi) kd.1 k9 hur j5;have qq:(setL rs hi (ys.map some)).length=rs.length:=C4 _ _ _ (by simpa using j5);have kq:Rel GL n S M μ (st.setB nm (.arr e' i.size (setL rs hi (ys.map some)))) a (w.setRow b1 (setL cur.toList (o1+hi*i.size) us).toArray):=by
     refine h.setBlk (blk':=.arr e' i.size (setL rs hi (ys.map some))) hg hbo qu.size (fun q hq _=>setRow_other w b1 q _ hq) ⟨some ⟨b1,o1,none⟩,by rw[qq];rw[hμ,wh],.inr ⟨b1,o1,(setL cur.toList (o1+hi*i.size) us).toArray,rfl,?_,⟨jc.low,setRow_heap w b1 cur _ e' _ jc.heap,jc.unk⟩,by rw[qq,q1];exact q2,?_,k7⟩⟩
     ·intro e;rw[e]at qq;simp at qq;omega
     ·rw[qq,q1];simp only[List.size_toArray];rw[C4 _ _ _ (by simp;omega)];simpa using q3
    exact B9 (FO ho (by rw[hv,vg];exact hr)) ⟨_,hs,M,μ,by
     rw[hd];exact kq.put hn ⟨by simp only[St.setB];rw[CX];exact hN,_,cap,hμ,by omega,by omega,.inr ⟨b1,o1,rfl,by congr 1;omega⟩⟩,MExt.refl _ _,qu⟩
 ·obtain⟨as,has,hao,j7,jd,hfr,hs⟩:=hout (by omega);have ha:=OX has;have ji:ys≠[]:=fun e=>by subst e;simp at j5;omega
  obtain⟨bb,oo,ycap,us,vg,k9,hum,huo,hur⟩:=s2 ji;have jx:0<ys.length:=by cases ys<;>simp_all
  have vt:hi-lo+ys.length<=maxLen:=by simp only[maxLen];omega
  have hasl:as.length=hi-lo:=by have:=congrArg List.length ha;simp at this;omega
  have qf:∀j u,us[j]? =some u->w.cell? ((⟨bb,oo,none⟩:Addr).add j)=some u:=fun j u hu=>by rw[Fk];exact hum j u hu
  have grow:∀(old:Nat) (xs:List Value),xs.length=(hi-lo)*i.size->(∀i1 (xc:i1<as.length) j (hj:j<as[i1].length),∃u,xs[i1*i.size+j]? =some u/\Rep M (as[i1][j]) u)->
    ∀cells:Array Value,cells.toList=xs++us->(execOp a.eval o).run P w=.ok (.value (.slice (some ⟨w.heap.size,0,none⟩) (hi-lo+ys.length) (grownCap w (hi-lo+ys.length) old e'))) (w.drew.alloc (.cells (cells++Builtin.zeroCells z.cells (grownCap w (hi-lo+ys.length) old e'-(hi-lo+ys.length))) e'))->
    o.wpX P a w (Ax GL n S M w K) Q:=fun old xs vl hxr cells hcl2 jf=>by
   have hge:=grownCap_ge w (hi-lo+ys.length) old e';have hcm:grownCap w (hi-lo+ys.length) old e'<=maxLen:=grownCap_le_maxLen w (hi-lo+ys.length) old e' vt;generalize hG:grownCap w (hi-lo+ys.length) old e'=G at hge hcm jf;have qt:cells.size=(hi-lo+ys.length)*i.size:=by rw[<-Array.length_toList,hcl2,List.length_append,vl,k9,Nat.add_mul]
   have hL:((as++ys).map some++List.replicate (G-(hi-lo+ys.length)) (none:Option (List I))).length=G:=by simp;omega
   have js:EN M cells 0 i.size (as++ys):=OW (xs:=xs) (us:=us) (by rw[vl,hasl]) hao.1 kd.1 hxr hur (fun j v hv=>by rw[Nat.zero_add];rw[<-hcl2]at hv;simpa using hv)
   have h0:Rel GL n S M μ st a (w.drew.alloc (.cells (cells++Builtin.zeroCells z.cells (G-(hi-lo+ys.length))) e')):=h.of ((h.toStoOk.drew).alloc _) (Mem.le_refl _) fun _ _ hv=>hv
   have h2:=h0.bindName (nm:=d) (b:=.arr e' i.size ((as++ys).map some++List.replicate (G-(hi-lo+ys.length)) none)) (x:=.slice (some ⟨w.heap.size,0,none⟩) 0 G) hfr hn ⟨_,by rw[Bq,hL],.inr ⟨w.heap.size,0,_,rfl,fun e=>by rw[e]at hL;simp at hL;omega,⟨fun hS=>by have:=h.low _ hS;omega,GY w.drew _,Mem.unk_new h.sub (Nat.le_refl _)⟩,by rw[hL];exact hcm,?_,?_⟩⟩ (fun m q hm hq=>?_)
   ·exact B9 jf ⟨_,hs (G-(hi-lo+ys.length)),M,_,by
     rw[hd];exact h2.put hn ⟨Eo,_,G,Bq _ _ _,by omega,hge,.inr ⟨w.heap.size,0,rfl,by simp⟩⟩,MExt.refl _ _,(Keeps.refl S w).drew.trans (Gp w.drew _ h.low)⟩
   ·rw[hL];simp only[Array.size_append,size_zeroCells,vd,qt,Nat.zero_add,<-Nat.add_mul];congr 1;omega
   ·intro i1 r hr;by_cases jn:i1<(as++ys).length
    ·rw[List.getElem?_append_left (by simpa using jn),List.getElem?_map,List.getElem?_eq_getElem jn]at hr;simp only[Option.map_some,Option.some.injEq]at hr;subst hr;refine⟨js.1 _ (List.getElem_mem jn),fun j hj=>?_⟩;obtain⟨v,hv,hr⟩:=js.2 i1 jn j hj;refine⟨v,?_,hr⟩;rw[Array.getElem?_append_left (Array.getElem?_eq_some_iff.1 hv).1];exact hv
    ·rw[List.getElem?_append_right (by simpa using jn),List.getElem?_replicate]at hr;split at hr<;>cases hr
   ·have:=(h.toStoOk.lt hm hq).1;simp only[An];rw[if_neg (by omega)];intro e;cases e;omega
  rcases qi with⟨rfl,a',hv⟩|⟨b1,o1,rfl,hv⟩
  ·obtain rfl:hi=cap:=by omega
   have has0:as=[]:=List.eq_nil_of_length_eq_zero (by omega);subst has0;cases a' with
   |none=>have hr:=run_append_nil (P:=P) w t o.type e' i z ht ja hz ⟨bb,oo,none⟩ ys.length ycap us k9 qf jx (by omega) (by have hb:=j7;simp only[Nat.sub_self,Nat.zero_add]at hb;omega);refine grow 0 [] (by simp) (fun i1 h1=>by simp at h1) us.toArray (by simp) (FO ho ?_);rw[hv,vg];simpa using hr
   |some aa=>have hr:=run_append_grow (P:=P) w t o.type e' i z ht ja hz aa 0 0 [] (by simp) (by simp) ⟨bb,oo,none⟩ ys.length ycap us k9 qf (by omega) (by omega) (growslice_fits (by omega) (by simpa using j7));refine grow 0 [] (by simp) (fun i1 h1=>by simp at h1) us.toArray (by simp) (FO ho ?_);rw[hv,vg];simpa using hr
  ·by_cases xa:cap=0
   ·subst xa;obtain rfl:lo=0:=by omega
    obtain rfl:hi=0:=by omega
    have has0:as=[]:=List.eq_nil_of_length_eq_zero (by omega);subst has0;have hr:=run_append_grow (P:=P) w t o.type e' i z ht ja hz ⟨b1,o1+0*i.size,none⟩ 0 0 [] (by simp) (by simp) ⟨bb,oo,none⟩ ys.length ycap us k9 qf (by omega) (by omega) (growslice_fits (by omega) (by simpa using j7));refine grow 0 [] (by simp) (fun i1 h1=>by simp at h1) us.toArray (by simp) (FO ho ?_);rw[hv,vg];simpa using hr
   ·obtain⟨cur,jc,q1,q2,q3,q4⟩:=LV h hg hμ (by omega);obtain⟨v0,v3,v1,v2⟩:=q4.view qc qx (by rw[q1];omega) ha;have hr:=run_append_grow (P:=P) w t o.type e' i z ht ja hz ⟨b1,o1+lo*i.size,none⟩ (hi-lo) (cap-lo) (Cu cur o1 i.size lo hi) v1 (fun j v hv=>by
     simp only[Cu,List.getElem?_take,List.getElem?_drop]at hv;split at hv
     ·rw[Fk];simp[World.cell?,jc.heap];simpa using hv
     ·cases hv) ⟨bb,oo,none⟩ ys.length ycap us k9 qf (by omega) (by omega) (growslice_fits (by omega) j7)
    refine grow (cap-lo) (Cu cur o1 i.size lo hi) v1 v2 ((Cu cur o1 i.size lo hi).toArray++us.toArray) (by simp) (FO ho ?_);rw[hv,vg];exact hr
theorem iJ(h:Rel GL n S M μ st a w){t e:TypeId}{i:TypeInfo}{z:Value}{x y:Operand}{ox oy:O}{k b:Nat}{t':TypeId}(ho:o.op=.call {callee:=.builtin .append,args:=#[x,y],argTypes:=#[t,t']})(htt:t=t')
  (hd:o.dst=some d)(hn:d<n)(hx:cO GL x=some ox)(hy:cO GL y=some oy)(ht:P.underlying t=some (.slice e))(hi:P.info? e=some i)(hz:i.zero=some z)(hk:i.size=k)(hb:i.bytes=b)
  (vd:z.cells.size=k)(vk:0<k)(hs:step P GL (.app d e k b ox oy) st K):o.wpX P a w (Ax GL n S M w K) Q:=by
 subst htt;have hr:=Az h hx;have wi:=Az h hy;simp only[step,Jq]at hs;split at hs
 rotate_left
 ·exact hs.elim
 rename_i nm k0 lo ja e1;rw[e1]at hr;unfold Ks at hs;split at hs
 ·rename_i e' k' rs hg;split at hs
  ·rename_i ys hsrc;exact iH h ho hd hn hr hy ht hi hz hk hb vd vk hg hsrc hs
  ·exact hs.elim
 split at hs
 ·rename_i rows e2;rw[e2]at wi;obtain⟨hN,aa,cap,hμ,qc,kc,qi⟩:=hr;have wi:=AJ wi;unfold Kj at hs;split at hs
  ·rename_i e' k' rs hg;obtain⟨hpin,rfl,rfl,rfl,qx,w9,kd,j7,jd,hs⟩:=hs;have hpin:¬pinned nm:=fun hp=>by unfold pinned at hp;simp only[Bool.or_eq_true,Nat.blt_eq,Nat.ble_eq]at hpin;omega
   subst hk;subst hb;have hn0:names st.sto nm:=by simp[names,hg]
   have fin:∀(x':Value) (v':Value) (w':World),(execOp a.eval o).run P w=.ok (.value v') w'->w.heap.size<=w'.heap.size->Keeps S w w'->(∀q,q<w.heap.size->An (μ nm)≠some q->w'.heap[q]? =w.heap[q]?)->
     (∀q,An x'=some q->An (μ nm)=some q\/w.heap.size<=q)->AQ S M (BP μ nm x') (fun _=>False) w' nm (.rows e' i.size ((rs.take ja).drop lo++rows))->Lo x' i.size 0 (ja-lo+rows.length) v'->
     o.wpX P a w (Ax GL n S M w K) Q:=fun x' v' w' jf h1 h2 h3 h4 h5 h6=>by
    have kq:=h.reset hpin (blk':=.rows e' i.size ((rs.take ja).drop lo++rows)) hg h1 h3 h4 h5;refine B9 jf ⟨_,hs,M,BP μ nm x',?_,MExt.refl _ _,h2⟩;rw[hd];exact kq.put hn ⟨by simp[names,St.setB,C3,Hz,hg],by rw[Bq];exact h6⟩
   by_cases ji:rows=[]
   ·
    subst ji;have vg:∃bb c,a.eval y=.slice bb 0 c:=by
     generalize a.eval y=vy at wi;cases wi with
     |slnil=>exact⟨_,_,rfl⟩
     |slempty=>exact⟨_,_,rfl⟩
     |sl=>exact⟨_,_,rfl⟩
    obtain⟨bb,c,vg⟩:=vg;rcases qi with⟨rfl,a',hv⟩|⟨b1,o1,rfl,hv⟩
    ·obtain rfl:ja=cap:=by omega
     have js:(rs.take ja).drop ja=[]:=by rw[List.drop_eq_nil_iff];simp;omega
     refine fin (.slice a' 0 0) (.slice a' 0 0) w ?_ (Nat.le_refl _) (Keeps.refl _ _) (fun _ _ _=>rfl) (fun q hq=>by cases a'<;>simp[An]at hq) ⟨a',0,Bq _ _ _,.inl ⟨rfl,by rw[js];rfl⟩⟩ (by
      have:ja-ja+([]:List (List I)).length=0:=by simp
      rw[this];exact Kv _ _)
     refine FO ho ?_;rw[hv,vg];cases a' with
     |none=>exact Ta t _ _ i ht hi none (by simp) _ _ (Nat.le_refl _) bb c
     |some aa=>cases bb<;>simp[Builtin.append_,run_underlying ht,sizeOf,typeInfo,Builtin.lenOf,Builtin.firstCells,loadCells,loadCellsFrom,storeCells,hi]
    ·by_cases xa:cap=lo
     ·subst xa;obtain rfl:ja=cap:=by omega
      have js:(rs.take ja).drop ja=[]:=by rw[List.drop_eq_nil_iff];simp;omega
      rw[Nat.sub_self]at hv;refine fin (.slice (some ⟨b1,o1+ja*i.size,none⟩) 0 0) (.slice (some ⟨b1,o1+ja*i.size,none⟩) 0 0) w ?_ (Nat.le_refl _) (Keeps.refl _ _) (fun _ _ _=>rfl) (fun q hq=>by simp[An]at hq) ⟨_,0,Bq _ _ _,.inl ⟨rfl,by rw[js];rfl⟩⟩ (by
       have:ja-ja+([]:List (List I)).length=0:=by simp
       rw[this];exact Kv _ _)
      exact FO ho (by rw[hv,vg];exact Ta t _ _ i ht hi _ (by simp) _ _ (Nat.le_refl _) bb c)
     ·obtain⟨cur,jc,q1,q2,q3,q4⟩:=OV h hg hμ (by omega);have hmul:lo*i.size+(cap-lo)*i.size=cap*i.size:=by rw[<-Nat.add_mul];congr 1;omega
      have xb:rs.length*i.size<=cap*i.size:=Nat.mul_le_mul_right _ q3;have hbo:An (μ nm)=some b1:=by rw[hμ];simp only[An];rw[if_neg (by omega)]
      obtain⟨v1,v2⟩:=q4.view qc qx (by omega);refine fin (.slice (some ⟨b1,o1+lo*i.size,none⟩) 0 (cap-lo)) _ w (FO ho (by rw[hv,vg];exact Ta t _ _ i ht hi _ (by simp) _ _ (by omega) bb c)) (Nat.le_refl _) (Keeps.refl _ _) (fun _ _ _=>rfl)
       (fun q hq=>.inl (by simp only[An]at hq;rw[if_neg (by omega)]at hq;rw[hbo];exact hq)) ⟨_,_,Bq _ _ _,.inr ⟨b1,_,cur,rfl,by omega,jc,by omega,by omega,by simp;omega,?_⟩⟩ ⟨_,_,rfl,by omega,by simp;omega,.inr ⟨b1,_,rfl,by simp⟩⟩
      refine OW (as:=(rs.take ja).drop lo) (bs:=[]) (xs:=Cu cur o1 i.size lo ja) (us:=[]) (by rw[v1];congr 1;simp;omega) (fun r hr=>q4.1 r (List.mem_of_mem_take (List.mem_of_mem_drop hr))) (by simp) v2 (by simp) (fun j v hv=>?_);simp only[List.append_nil,Cu,List.getElem?_take,List.getElem?_drop]at hv;split at hv
      ·simpa using hv
      ·cases hv
   ·
    obtain⟨bb,oo,ycap,us,vg,k9,hum,huo,hur⟩:=Xa wi ji w9 kd;have jx:0<rows.length:=by cases rows<;>simp_all
    have qf:∀j u,us[j]? =some u->w.cell? ((⟨bb,oo,none⟩:Addr).add j)=some u:=fun j u hu=>by rw[Fk];exact h.sub.1 _ _ _ (hum j u hu)
    have vt:ja-lo+rows.length<=maxLen:=by simp only[maxLen];omega
    have hasl:((rs.take ja).drop lo).length=ja-lo:=by simp;omega
    have grow:∀(old:Nat) (xs:List Value),xs.length=(ja-lo)*i.size->(∀i_1 (hi_1:i_1<((rs.take ja).drop lo).length) j (hj:j<((rs.take ja).drop lo)[i_1].length),∃u,xs[i_1*i.size+j]? =some u/\Rep M (((rs.take ja).drop lo)[i_1][j]) u)->(∀r∈(rs.take ja).drop lo,r.length=i.size)->
      ∀cells:Array Value,cells.toList=xs++us->(execOp a.eval o).run P w=.ok (.value (.slice (some ⟨w.heap.size,0,none⟩) (ja-lo+rows.length) (grownCap w (ja-lo+rows.length) old e'))) (w.drew.alloc (.cells (cells++Builtin.zeroCells z.cells (grownCap w (ja-lo+rows.length) old e'-(ja-lo+rows.length))) e'))->
      o.wpX P a w (Ax GL n S M w K) Q:=fun old xs vl hxr hka cells wh jf=>by
     have hge:=grownCap_ge w (ja-lo+rows.length) old e';have hcm:grownCap w (ja-lo+rows.length) old e'<=maxLen:=grownCap_le_maxLen w (ja-lo+rows.length) old e' vt;have qt:cells.size=(ja-lo+rows.length)*i.size:=by rw[<-Array.length_toList,wh,List.length_append,vl,k9,Nat.add_mul]
     refine fin (.slice (some ⟨w.heap.size,0,none⟩) 0 (grownCap w (ja-lo+rows.length) old e')) _ _ jf (by rw[MV];show w.heap.size<=w.heap.size+1;omega) ((Keeps.refl S w).drew.trans (Gp w.drew _ h.low)) (fun q hq _=>SO w.drew _ q hq)
      (fun q hq=>.inr (by simp only[An]at hq;split at hq;cases hq;cases hq;exact Nat.le_refl _)) ⟨_,_,Bq _ _ _,.inr ⟨w.heap.size,0,_,rfl,by omega,⟨fun hS=>by have:=h.low _ hS;omega,GY w.drew _,Mem.unk_new h.sub (Nat.le_refl _)⟩,hcm,?_,?_,?_⟩⟩
      ⟨_,_,rfl,by omega,hge,.inr ⟨w.heap.size,0,rfl,by simp⟩⟩
     ·simp only[Array.size_append,size_zeroCells,vd,qt,Nat.zero_add,<-Nat.add_mul];congr 1;omega
     ·simp only[List.length_append,hasl];omega
     ·refine OW (xs:=xs) (us:=us) (by rw[vl,hasl]) hka w9 hxr hur (fun j v hv=>?_);rw[Nat.zero_add,Array.getElem?_append_left]
      ·rw[<-wh]at hv;simpa using hv
      ·rw[<-wh]at hv;simpa using(List.getElem?_eq_some_iff.1 hv).1
    rcases qi with⟨rfl,a',hv⟩|⟨b1,o1,rfl,hv⟩
    ·obtain rfl:ja=cap:=by omega
     have js:(rs.take ja).drop ja=[]:=by rw[List.drop_eq_nil_iff];simp;omega
     cases a' with
     |none=>have hr:=run_append_nil (P:=P) w t o.type e' i z ht hi hz ⟨bb,oo,none⟩ rows.length ycap us k9 qf jx (by omega) (by have hb:=j7;simp only[Nat.sub_self,Nat.zero_add]at hb;omega);refine grow 0 [] (by simp) (fun i1 h1=>by rw[js]at h1;simp at h1) (fun r hr=>by rw[js]at hr;simp at hr) us.toArray (by simp) (FO ho ?_);rw[hv,vg];simpa using hr
     |some aa=>have hr:=run_append_grow (P:=P) w t o.type e' i z ht hi hz aa 0 0 [] (by simp) (by simp) ⟨bb,oo,none⟩ rows.length ycap us k9 qf (by omega) (by omega) (growslice_fits (by omega) (by simpa using j7));refine grow 0 [] (by simp) (fun i1 h1=>by rw[js]at h1;simp at h1) (fun r hr=>by rw[js]at hr;simp at hr) us.toArray (by simp) (FO ho ?_);rw[hv,vg];simpa using hr
    ·by_cases xa:cap=lo
     ·subst xa;obtain rfl:ja=cap:=by omega
      have js:(rs.take ja).drop ja=[]:=by rw[List.drop_eq_nil_iff];simp;omega
      rw[Nat.sub_self]at hv;have hr:=run_append_grow (P:=P) w t o.type e' i z ht hi hz ⟨b1,o1+ja*i.size,none⟩ 0 0 [] (by simp) (by simp) ⟨bb,oo,none⟩ rows.length ycap us k9 qf (by omega) (by omega) (growslice_fits (by omega) (by simpa using j7));refine grow 0 [] (by simp) (fun i1 h1=>by rw[js]at h1;simp at h1) (fun r hr=>by rw[js]at hr;simp at hr) us.toArray (by simp) (FO ho ?_);rw[hv,vg];simpa using hr
     ·obtain⟨cur,jc,q1,q2,q3,q4⟩:=OV h hg hμ (by omega);have hmul:lo*i.size+(cap-lo)*i.size=cap*i.size:=by rw[<-Nat.add_mul];congr 1;omega
      have hmul2:lo*i.size+(ja-lo)*i.size=ja*i.size:=by rw[<-Nat.add_mul];congr 1;omega
      have hhl:ja*i.size<=cap*i.size:=Nat.mul_le_mul_right _ kc;have xb:rs.length*i.size<=cap*i.size:=Nat.mul_le_mul_right _ q3;have hbo:An (μ nm)=some b1:=by rw[hμ];simp only[An];rw[if_neg (by omega)]
      obtain⟨v1,v2⟩:=q4.view qc qx (by omega);have hka:∀r∈(rs.take ja).drop lo,r.length=i.size:=fun r hr=>q4.1 r (List.mem_of_mem_take (List.mem_of_mem_drop hr))
      by_cases j5:ja-lo+rows.length<=cap-lo
      ·have hm5:(ja-lo+rows.length)*i.size<=(cap-lo)*i.size:=Nat.mul_le_mul_right _ j5;rw[Nat.add_mul]at hm5;have hr:=Xb (P:=P) t o.type e' i ht hi b1 (o1+lo*i.size) (ja-lo) (cap-lo) cur jc.heap ⟨bb,oo,none⟩ rows.length ycap us k9 qf huo j5 (by omega);have qu:=J9 w b1 (setL cur.toList (o1+lo*i.size+(ja-lo)*i.size) us).toArray jc.low;refine fin (.slice (some ⟨b1,o1+lo*i.size,none⟩) 0 (cap-lo)) _ _ (FO ho (by rw[hv,vg];exact hr)) qu.size qu (fun q _ hq=>setRow_other w b1 q _ (fun e=>hq (by rw[hbo,e])))
        (fun q hq=>.inl (by simp only[An]at hq;rw[if_neg (by omega)]at hq;rw[hbo];exact hq)) ⟨_,_,Bq _ _ _,.inr ⟨b1,_,_,rfl,by omega,⟨jc.low,setRow_heap w b1 cur _ e' _ jc.heap,jc.unk⟩,by omega,?_,by rw[List.length_append,hasl];exact j5,?_⟩⟩ ⟨_,_,rfl,by omega,j5,.inr ⟨b1,_,rfl,by simp⟩⟩
       ·simp only[List.size_toArray];rw[C4 _ _ _ (by simp;omega)];simp;omega
       ·refine OW (xs:=Cu cur o1 i.size lo ja) (us:=us) (by rw[v1,hasl]) hka w9 v2 hur (fun j v hv=>?_);simp only[List.getElem?_toArray];rw[Jt _ _ _ (by simp;omega)];by_cases hj:j<(ja-lo)*i.size
        ·rw[List.getElem?_append_left (by rw[v1];exact hj)]at hv;rw[if_neg (by omega)];simp only[Cu,List.getElem?_take,if_pos hj,List.getElem?_drop]at hv;exact hv
        ·rw[List.getElem?_append_right (by rw[v1];omega),v1]at hv;have:=(List.getElem?_eq_some_iff.1 hv).1;rw[if_pos (by omega),<-hv];congr 1;omega
      ·have hr:=run_append_grow (P:=P) w t o.type e' i z ht hi hz ⟨b1,o1+lo*i.size,none⟩ (ja-lo) (cap-lo) (Cu cur o1 i.size lo ja) v1 (fun j v hv=>by
        simp only[Cu,List.getElem?_take,List.getElem?_drop]at hv;split at hv
        ·rw[Fk];simp[World.cell?,jc.heap];simpa using hv
        ·cases hv) ⟨bb,oo,none⟩ rows.length ycap us k9 qf (by omega) (by omega) (growslice_fits (by omega) j7)
       refine grow (cap-lo) (Cu cur o1 i.size lo ja) v1 v2 hka ((Cu cur o1 i.size lo ja).toArray++us.toArray) (by simp) (FO ho ?_);rw[hv,vg];exact hr
  ·exact hs.elim
 ·exact hs.elim
theorem OY{k:IntKind}{v:Value}{i:Int}{y:Nat}{c:BoundsCode}(hv:v=.int k i)(h:0<=i/\i<=(y:Int)):(Instr.sliceBound v y c).run P w=.ok i.toNat w:=by subst hv;simp only[Instr.sliceBound,asIntOf,Sem.run_bind,Sem.run_pure,Result.andThen_ok,if_pos h]
theorem iK{isS:Bool}{l u:Nat}{lo hi:Option Value}(qx:(hi=none/\u=len)\/∃k,hi=some (.int k (u:Int)))(qc:(lo=none/\l=0)\/∃k,lo=some (.int k (l:Int)))(hlu:l<=u)(huc:u<=cap):
  (Instr.sliceBounds isS len cap lo hi none).run P w=.ok (l,u,cap) w:=by
 have b1:∀(k:IntKind) (i y:Nat) (c:BoundsCode),i<=y->(Instr.sliceBound (.int k (i:Int)) y c).run P w=.ok i w:=fun k i y c hy=>by rw[OY rfl ⟨by omega,by omega⟩];simp
 rcases qx with⟨rfl,rfl⟩|⟨k,rfl⟩<;>rcases qc with⟨rfl,rfl⟩|⟨k',rfl⟩<;>
  simp[Instr.sliceBounds,b1 _ _ _ _ huc,b1 _ _ _ _ hlu]
theorem Tc(h:Rel GL n S M μ st a w){isS:Bool}{len cap top:Nat}{lo hi:Option Operand}{olo ohi:Option O}(qc:lo.map (cO GL)=olo.map some)(qx:hi.map (cO GL)=ohi.map some){T:Nat->Nat->Prop}(htop:top<=cap)
  (hs:ER (WP (olo.map (A8 GL st))) (gl (len:Int) (ohi.map (A8 GL st))) top T):∃l u,l<=u/\u<=top/\T l u/\(Instr.sliceBounds isS len cap (lo.map a.eval) (hi.map a.eval) none).run P w=.ok (l,u,cap) w:=by
 unfold ER at hs;split at hs
 ·rename_i l u e1 e2;obtain⟨⟨b1,b2,b3⟩,hT⟩:=hs;refine⟨l.toNat,u.toNat,by omega,by omega,hT,iK ?_ ?_ (by omega) (by omega)⟩
  ·cases hi with
   |none=>
    cases ohi with
    |some ox=>simp at qx
    |none=>simp only[Option.map_none,gl,Option.some.injEq]at e2;exact .inl ⟨rfl,by omega⟩
   |some x=>
    cases ohi with
    |none=>simp at qx
    |some ox=>
     simp only[Option.map_some,Option.some.injEq]at qx;have hr:=Az h qx;simp only[Option.map_some]at e2;generalize A8 GL st ox=V at hr e2;unfold gl at e2;split at e2<;>cases e2
     ·rename_i q;cases q
     ·rename_i q;cases q;exact .inr ⟨_,by simp only[Option.map_some];rw[Ct (AJ hr),Int.toNat_of_nonneg (by omega)]⟩
  ·cases lo with
   |none=>
    cases olo with
    |some ox=>simp at qc
    |none=>simp only[Option.map_none,WP,Option.some.injEq]at e1;exact .inl ⟨rfl,by omega⟩
   |some x=>
    cases olo with
    |none=>simp at qc
    |some ox=>
     simp only[Option.map_some,Option.some.injEq]at qc;have hr:=Az h qc;simp only[Option.map_some]at e1;generalize A8 GL st ox=V at hr e1;unfold WP at e1;split at e1<;>cases e1
     ·rename_i q;cases q
     ·rename_i q;cases q;exact .inr ⟨_,by simp only[Option.map_some];rw[Ct (AJ hr),Int.toNat_of_nonneg (by omega)]⟩
 ·exact hs.elim
theorem Rep.slice{rows:List (List I)}{l u:Nat}{aa:Option Addr}(h:Rep M (.sl rows) (.slice aa len cap))(hk:∀r∈rows,r.length=k)(hlu:l<=u)(hu:u<=rows.length):
  Rep M (.sl ((rows.take u).drop l)) (.slice (if cap=l then aa else aa.map (·.add (l*k))) (u-l) (cap-l)):=by
 have jd:((rows.take u).drop l).length=u-l:=by simp;omega
 by_cases he:u=l
 ·subst he;have:(rows.take u).drop u=[]:=List.eq_nil_of_length_eq_zero (by omega);rw[this,Nat.sub_self];cases h with
  |slnil=>simp;exact .slnil
  |slempty a cap=>split<;>exact .slempty _ _
  |sl _=>split<;>exact .slempty _ _
 ·cases h with
  |slnil=>simp at hu;omega
  |slempty=>simp at hu;omega
  |sl _ k' b o cap v jk hc hm hr=>
   have jx:0<rows.length:=by omega
   obtain rfl:k'=k:=by rw[<-jk _ (List.getElem_mem jx),hk _ (List.getElem_mem jx)]
   rw[if_neg (by omega)];simp only[Option.map_some,Fk];have ka:∀i (ja:i<((rows.take u).drop l).length),((rows.take u).drop l)[i]=rows[l+i]'(by omega):=fun i ja=>by simp
   have:=Rep.sl (M:=M) ((rows.take u).drop l) k' b (o+l*k') (cap-l) (fun i j=>v (l+i) j) (fun r hr=>hk r (List.mem_of_mem_take (List.mem_of_mem_drop hr))) (by omega)
    (fun i ja j hj=>by rw[ka i ja]at hj;have:=hm (l+i) (by omega) j hj;rw[show o+l*k'+i*k'+j=o+(l+i)*k'+j by rw[Nat.add_mul];omega];exact this)
    (fun i ja j hj=>by
     have jq:=hj;rw[ka i ja]at jq;have e:((rows.take u).drop l)[i][j]=rows[l+i][j]:=by simp
     rw[e];exact hr (l+i) (by omega) j jq)
   rw[jd]at this;exact this
theorem Td{t e:TypeId}{x:Operand}{lo hi:Option Operand}{l u:Nat}{aa:Option Addr}(ho:o.op=.slice t x lo hi none)(hu:P.underlying t=some (.slice e))(hk:Qp P e=some k)(hx:a.eval x=.slice aa len cap)
  (hb:(Instr.sliceBounds true len cap (lo.map a.eval) (hi.map a.eval) none).run P w=.ok (l,u,cap) w):
  (execOp a.eval o).run P w=.ok (.value (.slice (if cap=l then aa else aa.map (·.add (l*k))) (u-l) (cap-l))) w:=by
 simp only[execOp,ho,hx,Instr.sliceAt,Instr.slice,Sem.run_bind,run_underlying hu w,Result.andThen_ok,Option.map_none,hb,EU hk,Sem.run_pure]
theorem iL(h:Rel GL n S M μ st a w){t e:TypeId}{x:Operand}{ox:O}{lo hi:Option Operand}{olo ohi:Option O}{k:Nat}(ho:o.op=.slice t x lo hi none)(hd:o.dst=some d)(hn:d<n)(hx:cO GL x=some ox)
  (qc:lo.map (cO GL)=olo.map some)(qx:hi.map (cO GL)=ohi.map some)(hu:P.underlying t=some (.slice e))(hk:Qp P e=some k)(hs:step P GL (.slc d ox olo ohi k) st K):o.wpX P a w (Ax GL n S M w K) Q:=by
 have hr:=Az h hx;simp only[step,LF]at hs;split at hs
 ·rename_i rows e1;rw[e1]at hr;have hr:=AJ hr;obtain⟨w9,hs⟩:=hs;obtain⟨aa,len,cap,hv,jd,kc⟩:∃aa len cap,a.eval x=.slice aa len cap/\len=rows.length/\rows.length<=cap:=by
   generalize a.eval x=vx at hr;cases hr with
   |slnil=>exact⟨_,_,_,rfl,rfl,Nat.le_refl _⟩
   |slempty=>exact⟨_,_,_,rfl,rfl,Nat.zero_le _⟩
   |sl _ _ _ _ _ _ _ hc=>exact⟨_,_,_,rfl,rfl,hc⟩
  subst jd;obtain⟨l,u,q1,q2,hT,hb⟩:=Tc (P:=P) h (isS:=true) qc qx kc hs;rw[hv]at hr;exact A3 h hd hn (Td ho hu hk hv hb) (AM (hr.slice w9 q1 q2)) hT
 ·rename_i nm k0 lo' ja e1;rw[e1]at hr;obtain⟨hN,aa,cap,hμ,h1,h2,hh⟩:=hr;have core:∀R:Nat,R<=cap->k0=k->ER (WP (Option.map (A8 GL st) olo)) (gl ((ja-lo':Nat):Int) (Option.map (A8 GL st) ohi)) (R-lo') (fun a c=>K (st.put d (.ref (.sl nm k (lo'+a) (lo'+c)))))->o.wpX P a w (Ax GL n S M w K) Q:=by
   intro R hrc hkk hs;subst hkk;rcases hh with⟨rfl,a',hv⟩|⟨b,oo,rfl,hv⟩
   ·obtain rfl:ja=cap:=by omega
    have e0:R-ja=0:=by omega
    have e00:ja-ja=0:=by omega
    rw[e0,e00]at hs;obtain⟨l,u,q1,q2,hT,hb⟩:=Tc (P:=P) (cap:=0) h (isS:=true) qc qx (Nat.le_refl _) hs;obtain rfl:u=0:=by omega
    obtain rfl:l=0:=by omega
    refine A3 h hd hn (Td ho hu hk hv hb) (x:=.ref (.sl nm k0 (ja+0) (ja+0))) ⟨hN,aa,ja,hμ,by omega,by omega,.inl ⟨by omega,?_⟩⟩ hT;simp
   ·obtain⟨l,u,q1,q2,hT,hb⟩:=Tc (P:=P) (cap:=cap-lo') h (isS:=true) qc qx (by omega) hs;refine A3 h hd hn (Td ho hu hk hv hb) (x:=.ref (.sl nm k0 (lo'+l) (lo'+u))) ⟨hN,_,cap,hμ,by omega,by omega,?_⟩ hT;by_cases hc:cap-lo'=l
    ·refine .inl ⟨by omega,?_⟩;have e1:u-l=0:=by omega
     simp_all
    ·refine .inr ⟨b,oo,rfl,?_⟩;rw[if_neg hc];simp only[Option.map_some,Fk];grind
  unfold M9 at hs;split at hs
  ·rename_i et k' rs hg;obtain⟨rfl,rfl,hs⟩:=hs;refine core rs.length ?_ rfl hs;obtain⟨aa',cap',e2,hbk⟩:=h.blk nm _ hg;rw[hμ]at e2;injection e2 with _ _ e2;subst e2
   rcases hbk with⟨rfl,rfl⟩|⟨_,_,_,_,_,_,_,_,q,_⟩
   ·simp
   ·exact q
  ·rename_i et k' rs hg;obtain⟨rfl,rfl,hs⟩:=hs;exact core rs.length (by rw[LW h hg hμ];exact Nat.le_refl _) rfl hs
  ·exact hs.elim
 ·exact hs.elim
theorem iM(h:Rel GL n S M μ st a w){t e:TypeId}{x:Operand}{ox:O}{hi mx:Operand}{k ee:Nat}{k1 k2:IntKind}(ho:o.op=.slice t x none (some hi) (some mx))(hh:hi=.const (.int k1 0))(hm:mx=.const (.int k2 0))(hd:o.dst=some d)(hn:d<n)(hx:cO GL x=some ox)
  (hu:P.underlying t=some (.slice e))(hk:Qp P e=some k)(hs:step P GL (.slc0 d ee k ox) st K):o.wpX P a w (Ax GL n S M w K) Q:=by
 have hr:=Az h hx;simp only[step,Na]at hs;split at hs
 ·rename_i rows jl e1;rw[e1]at hr;have hr:=AJ hr;obtain⟨aa,len,cap,hv⟩:∃aa len cap,a.eval x=.slice aa len cap:=by
   generalize a.eval x=vx at hr;cases hr with
   |slnil=>exact⟨_,_,_,rfl⟩
   |slempty=>exact⟨_,_,_,rfl⟩
   |sl _ _ _ _ _ _ _ hc=>exact⟨_,_,_,rfl⟩
  have b1:∀(k:IntKind) (y:Nat) (c:BoundsCode),(Instr.sliceBound (.int k 0) y c).run P w=.ok 0 w:=fun k y c=>OY (i:=0) rfl ⟨by omega,by omega⟩
  have kz:(execOp a.eval o).run P w=.ok (.value (.slice aa 0 0)) w:=by
   subst hh;subst hm;have ec:∀v,a.eval (.const v)=v:=fun _=>rfl
   simp[execOp,ho,hv,Instr.sliceAt,Instr.slice,run_underlying hu w,Instr.sliceBounds,b1,EU hk,ec]
  exact B9 kz ⟨_,hs,M,_,by rw[hd];exact(h.bindEmpty jl hn aa ee k).put hn ⟨Eo,by rw[Bq];exact Kv _ _⟩,MExt.refl _ _,Keeps.refl _ _⟩
 ·exact hs.elim
end
end Go.Dl
end
