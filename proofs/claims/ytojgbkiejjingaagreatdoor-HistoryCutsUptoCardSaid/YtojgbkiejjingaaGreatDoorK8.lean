/-
  Lemmas, no statement.
-/
import Derived.Test.YtojgbkiejjingaaGreatDoorK7
set_option linter.all false
namespace Go.Dl
open Go Go.RowKit
variable{vs:List Value}{M':Mem}{N:Nat->Prop}{v:Value}
theorem PF{M:Mem}{x:I}(h:Rep M x v)(hf:Hc.flat1 x=true):Rep M' x v:=by cases x<;>simp[Hc.flat1]at hf<;>cases h<;>constructor
theorem SL{M:Mem}{xs:List I}(h:Ai M xs vs)(hf:xs.all Hc.flat1=true):Ai M' xs vs:=
 ⟨h.1,fun j a b=>PF (h.2 j a b) (by rw[List.all_eq_true]at hf;exact hf _ (List.getElem_mem _))⟩
theorem Zz{M:Mem}{x:I}(h:Rep M x v)(hf:Hc.flat2 x=true):Rep M' x v:=by
 cases x with
 |agg cs=>obtain⟨vs,rfl,hl⟩:=h.agg_inv;exact Rep.agg' (SL hl hf)
 |_=>first|(simp[Hc.flat2]at hf;done)|exact PF h rfl
theorem ZA{M:Mem}{x:I}(h:Rep M x v)(hf:Hc x=true):Rep M' x v:=by
 cases x with
 |agg cs=>obtain⟨vs,rfl,hl⟩:=h.agg_inv;exact Rep.agg' (SL hl hf)
 |tup cs=>obtain⟨vs,rfl,hl⟩:=h.tup_inv;refine Rep.tup' ⟨hl.1,fun j a b=>Zz (hl.2 j a b) ?_⟩;grind[Hc]
 |_=>first|(simp[Hc]at hf;done)|exact PF h rfl
section
variable {P:Program}{GL:List (Nat×List I)}{n:Nat}{S:Sh}{M:Mem}{μ:Place}{st:St}{a:Act}{w:World}{K:St->Prop}{Q:Exit->Act->World->Prop}{o:Oper}{d:Nat}
theorem IL{f:FuncId}(h:B9 P f=true)(args:Array Value):(callFunc f args).run P w=.ok (.enter f args) w:=by
 unfold B9 at h;rw[Bool.and_eq_true]at h;replace h:=h.2;split at h
 ·rename_i fn hf;simp only[Bool.and_eq_true,bne_iff_ne,ne_eq]at h;have hb:fn.body≠none:=by grind
  simp[callFunc,hf,h.1,hb]
 ·cases h
def E7(f:FuncId)(vs:Array Value):Sem Next:=if Nat.blt f 1000000000=true then callFunc f vs else Instr.yield (f-1000000000) vs
theorem PG{f:FuncId}{vs:Array Value}{R:Value->World->Prop}{nx:Act->World->Prop}(qh:(execOp a.eval o).run P w=(E7 f vs).run P w)(h:Jq P f vs w R)(hn:∀v w',R v w'->nx (a.put o.dst v) w'):
  o.wpX P a w nx Q:=by
 unfold Oper.wpX;rw[qh];rcases h with⟨h1,h2⟩|⟨hy,row,h1,h2⟩|⟨hy,v,w',h1,h2⟩|⟨hy,fn,tmps,as,bd,h1,h2⟩
 ·have hy:Nat.blt f 1000000000=true:=by unfold B9 at h1;rw[Bool.and_eq_true]at h1;exact h1.1
  rw[show E7 f vs=callFunc f vs from if_pos hy,IL h1];refine(Oper.uponIn_enter ..).mpr ⟨fun hh=>(by simp[Fence.wide]at hh),callsIn_wide.2 (h2.mono ?_)⟩;rintro e w' ⟨v,rfl,hR⟩;exact hn v w' hR
 ·rw[show E7 f vs=callFunc f vs from if_pos hy,h1];refine(Oper.uponIn_row ..).mpr ⟨fun hh=>(by simp[Fence.wide]at hh),fun c cs _=>?_⟩;obtain⟨v,w',r,s⟩:=(h2.mono hn) c cs;exact⟨v,w',r,stepsIn_wide.2 s⟩
 ·rw[show E7 f vs=callFunc f vs from if_pos hy,h1];exact hn v w' h2
 ·rw[show E7 f vs=Instr.yield (f-1000000000) vs from if_neg (by rw[hy];simp),h1];refine(Oper.uponIn_round ..).mpr ⟨fun hh=>(by simp[Fence.wide]at hh),h2.mono ?_⟩;rintro e w' ⟨v,rfl,hR⟩;exact hn v w' hR
theorem IM:∀{l:List (Nat×Blk)} {s:List (Nat×Blk)},Bl l s->∀m b,Ac l m=some b->Ac s m=some b
 |[],s,_,m,b,h=>by cases h
 |(k,d)::r,s,h,m,b,hb=>by
  simp only[Ac]at hb;split at hb
  ·rename_i e;subst e;cases hb;exact h.1
  ·exact IM h.2 m b hb
theorem DZ{l:List (Nat×Blk)}{ns:List Nat}(h:Pq l ns=true):∀m∈ns,names l m:=fun m hm=>by simp only[Pq,List.all_eq_true]at h;exact h m hm
theorem Hu{T:List (Nat×Blk)}:∀{l:List (Nat×Blk)},Ps T l=true->∀m b,Ac l m=some b->∀q∈b.nms,names T q
 |[],_,m,cs,h=>by cases h
 |(k,c)::r,hh,m,b,hb=>by
  simp only[Ps,Bool.and_eq_true]at hh;simp only[Ac]at hb;split at hb
  ·cases hb;exact DZ hh.1
  ·exact Hu hh.2 m b hb
theorem SM:∀{l:List (Nat×D)} {e:Env},Jr l e->∀s,B2 l s=.any\/B2 l s=Af e s
 |[],e,_,s=>.inl rfl
 |(m,d)::r,e,h,s=>by
  simp only[B2];split
  ·rename_i e;subst e;exact .inr h.1.symm
  ·exact SM h.2 s
theorem SN{T:List (Nat×Blk)}:∀{l:List (Nat×D)},rH T l=true->∀s,∀q∈(B2 l s).nms,names T q
 |[],_,s=>fun q hq=>by simp[B2,D.nms]at hq
 |(m,d)::r,h,s=>by
  simp only[rH,Bool.and_eq_true]at h;simp only[B2];split
  ·exact DZ h.1
  ·exact SN h.2 s
theorem StoOk.less{M:Mem}{μ:Place}{sto sto':List (Nat×Blk)}{w:World}(h:StoOk S M μ sto w)(hs:Bl sto' sto)(hc:Ps sto' sto'=true):StoOk S M μ sto' w where
 sub:=h.sub
 blk:=fun nm b hb=>(h.blk nm b (IM hs nm b hb)).mono (Mem.le_refl _) rfl (fun m hm _=>⟨Hu hc nm b hb m hm,rfl⟩) (fun _ _ _=>rfl) (fun _ _ _=>Mem.same_refl _ _)
 sep:=fun m m' k k' jh h1 h2=>by
  refine h.sep m m' k k' jh ?_ ?_
  ·obtain⟨x,hx⟩:=Option.isSome_iff_exists.1 h1;simp[names,IM hs m x hx]
  ·obtain⟨x,hx⟩:=Option.isSome_iff_exists.1 h2;simp[names,IM hs m' x hx]
 low:=h.low
theorem Rel.sub' {M:Mem}{μ:Place}{st st':St}{a:Act}{w:World}(h:Rel GL n S M μ st a w)(hs:Sub st' st):Rel GL n S M μ st' a w:=by
 unfold Sub at hs;split at hs
 ·rename_i es he;obtain⟨h1,h2,h3,h4⟩:=hs;refine{toStoOk:=h.toStoOk.less h2 h4,small:=h.small,pin:=h.pin,defers:=h.defers,size:=h.size,env:=fun s=>?_,glob:=h.glob};rw[he];simp only[Af];rcases SM h1 s with e|e
  ·rw[e];trivial
  ·have:=SN h3 s;rw[e]at this⊢;exact(h.env s).mono' (Mem.le_refl _) fun q hq _=>⟨this q hq,rfl⟩
 ·exact hs.elim
theorem PH{N':Nat->Prop}{xs:List D}(h:CL M μ N xs vs)(hn:∀x∈xs,∀q∈x.nms,N' q):CL M μ N' xs vs:=
 ⟨h.1,fun j a b=>(h.2 j a b).mono' (Mem.le_refl _) fun q hq _=>⟨hn _ (List.getElem_mem a) q hq,rfl⟩⟩
theorem PI(h:Rel GL n S M μ st a w){get:St->Option (FuncId×List D)}(hd:∀d,o.dst=some d->d<n)(hn:n<=999)
  (jv:∀(M1:Mem) (st1:St),Rel GL n S M1 μ st1 a w->∀f ds,get st1=some (f,ds)->∃vs:Array Value,CL M1 μ (names st1.sto) ds vs.toList/\(execOp a.eval o).run P w=(E7 f vs).run P w)
  (hs:Ah P GL get st o.dst K):o.wpX P a w (Ar GL n S M w K) Q:=by
 obtain⟨l,hs⟩:=hs;obtain⟨M1,h1,m1⟩:=h.frzNs l;cases hg:get (frzNs l st)with
 |none=>simp[hg]at hs
 |some p=>
  obtain⟨f,ds⟩:=p;simp only[hg]at hs;obtain⟨vs,j7,qh⟩:=jv M1 _ h1 f ds hg;have hd9:o.dst.getD 999<1000:=by
   cases e:o.dst with
   |none=>simp
   |some d=>have:=hd d e;simp only[Option.getD_some];exact Nat.lt_of_lt_of_le this (by omega)
  rcases hs with hs|hs|hs
  ·obtain⟨sto,mv,R,hmc,ky,kq,jr,xe,hR⟩:=hs;have zY:∀m b,Ac sto m=some b->Ac (frzNs l st).sto m=some b:=IM ky;have hhand:=h1.toStoOk.hand (sto:=sto) zY (fun m b hm q hq=>Hu kq m b hm q hq);have ke:=PH j7 (N':=names sto) (fun x hx=>by rw[List.all_eq_true]at jr;exact DZ (jr x hx));refine PG qh (hmc M1 μ w vs hhand h1.glob ke) ?_;rintro v w' ⟨r,sto',M',μ',hr,q1,q2,q3,q4,q5⟩;obtain⟨hfr,wq,hK⟩:=hR r sto' hr;obtain⟨μ2,h2,m2,k2,hret⟩:=h1.afterCall hd9 zY q1 q3 q4 q5 (fun m hm=>by
    have:=hfr m (BX.2 hm);exact this) (fun m hm hp=>by
    rw[List.all_eq_true]at xe;have:=xe m hm;unfold pinned at hp;simp only[Bool.or_eq_true,Nat.blt_eq,Nat.ble_eq]at this;omega) (fun m h1 h2=>wq m (BX.2 h1) h2)
   refine⟨_,hK,M',μ2,?_,m1.trans m2,k2⟩;cases e:o.dst with
   |none=>simp only[e]at h2⊢;exact h2
   |some s=>simp only[e,Option.getD_some]at h2 hret⊢;exact h2.put (hd s e) (hret r v q2)
  ·obtain⟨R,hmc,jr,hR⟩:=hs;have hempty:StoOk (AH μ [] w) M1 μ [] w:={sub:=h1.sub,blk:=fun m b hb=>(by cases hb),sep:=fun m m' k k' _ hm=>(by simp[names,Ac]at hm),low:=fun b hb=>hb.1};have ke:=PH j7 (N':=names []) (fun x hx=>by rw[List.all_eq_true]at jr;exact DZ (jr x hx));refine PG qh (hmc M1 μ w vs hempty h1.glob ke) ?_;rintro v w' ⟨r,sto',M',μ',hr,q1,q2,q3,q4,q5⟩;obtain⟨y,rfl,hflat,hK⟩:=hR r sto' hr;have hk:∀k,k<w.heap.size->w'.heap[k]? =w.heap[k]? :=fun k hk=>q4.block k ⟨hk,fun m hm=>by simp[names,Ac]at hm⟩
   have h2:Rel GL n S M μ st a w':=h.of (h.toStoOk.world q4.size hk) (Mem.le_refl _) fun _ _ hv=>hv
   have hy:Rep M y v:=ZA q2 hflat;refine⟨_,hK,M,μ,?_,MExt.refl _ _,q4.mono fun k hk=>⟨h.low k hk,fun m hm=>by simp[names,Ac]at hm⟩⟩;cases e:o.dst with
   |none=>exact h2
   |some s=>exact h2.put (hd s e) (AG hy)
  ·obtain⟨sto,mv,R,hmc,ky,kq,jr,xe,hR⟩:=hs;have zY:∀m b,Ac sto m=some b->Ac (frzNs l st).sto m=some b:=IM ky;have hhand:=h1.toStoOk.hand (sto:=sto) zY (fun m b hm q hq=>Hu kq m b hm q hq);have ke:=PH j7 (N':=names sto) (fun x hx=>by rw[List.all_eq_true]at jr;exact DZ (jr x hx));refine PG qh (hmc M1 μ w vs hhand h1.glob ke) ?_;rintro v w' ⟨r,sto',M',μ',hr,q1,q2,q3,q4,q5⟩;obtain⟨hfr,wq,y,s',rfl,zC,hK⟩:=hR r sto' hr;obtain⟨μ2,h2,m2,k2,hret⟩:=h1.afterCall hd9 zY q1 q3 q4 q5 (fun m hm=>by
    have:=hfr m (BX.2 hm);exact this) (fun m hm hp=>by
    rw[List.all_eq_true]at xe;have:=xe m hm;unfold pinned at hp;simp only[Bool.or_eq_true,Nat.blt_eq,Nat.ble_eq]at this;omega) (fun m h1 h2=>wq m (BX.2 h1) h2)
   refine⟨_,hK,M',μ2,?_,m1.trans m2,k2⟩;cases e:o.dst with
   |none=>simp only[e]at h2 zC⊢;exact h2.sub' zC
   |some s=>simp only[e,Option.getD_some]at h2 hret zC⊢;exact(h2.sub' zC).put (hd s e) (AG q2)
theorem SO(h:Rel GL n S M μ st a w){f:FuncId}{args:Array Operand}{tys:Array TypeId}{os:List O}(xh:Nat.blt f 1000000000=true)(ho:o.op=.call {callee:=.value (.func f),args:=args,argTypes:=tys})
  (hd:∀d,o.dst=some d->d<n)(hn:n<=999)(hx:args.toList.mapM (cO GL)=some os)(hs:step P GL (.call o.dst f os) st K):o.wpX P a w (Ar GL n S M w K) Q:=by
 refine PI (get:=DX GL f os) h hd hn (fun M1 st1 h1 f' ds hg=>?_) (by simpa only[step]using hs);simp only[DX,Option.some.injEq,Prod.mk.injEq]at hg;obtain⟨rfl,rfl⟩:=hg;refine⟨args.map a.eval,by simpa using KL h1 hx,?_⟩;rw[show E7 f (args.map a.eval)=callFunc f (args.map a.eval)from if_pos xh];simp[execOp,ho,resolve,Act.eval,Deferred.ofValue,invoke]
theorem ZB(h:Rel GL n S M μ st a w){f d:Nat}{args:Array Operand}{tys:Array TypeId}{os:List O}(xh:Nat.blt f 1000000000=true)(ho:o.op=.call {callee:=.value (.func f),args:=args,argTypes:=tys})
  (hd:o.dst=some d)(hdn:d<n)(hn:n<=999)(hx:args.toList.mapM (cO GL)=some os)(hs:step P GL (.callo d f os) st K):o.wpX P a w (Ar GL n S M w K) Q:=by
 simp only[step,NB]at hs;obtain⟨hI,R,hmc,hR⟩:=hs;refine SO h xh ho (fun d' e=>by rw[hd]at e;cases e;exact hdn) hn hx ?_;simp only[step];refine⟨[],.inl ⟨[],[],R,hmc,trivial,rfl,?_,rfl,fun r sto' hr=>?_⟩⟩
 ·rw[List.all_eq_true]at hI⊢;intro x hx;have:=hI x hx;cases x<;>simp[G5]at this;rfl
 ·obtain⟨h1,h2⟩:=hR r sto' hr;refine⟨fun nm hm=>.inr (h1 nm ?_),fun nm hm=>by simp at hm,?_⟩
  ·rw[hd]at hm;exact hm
  ·rw[hd];exact h2
theorem ZC(h:Rel GL n S M μ st a w){f e k:Nat}{args:Array Operand}{tys:Array TypeId}{xs:List Operand}{os:List O}(xh:Nat.blt f 1000000000=true)(ho:o.op=.call {callee:=.value (.func f),args:=args,argTypes:=tys})
  (hd:o.dst=some d)(hdn:d<n)(hn:n<=999)(ha:args.toList=.const (.slice none 0 0)::xs)(hx:xs.mapM (cO GL)=some os)(hs:step P GL (.calln d f e k os) st K):o.wpX P a w (Ar GL n S M w K) Q:=by
 simp only[step,Js]at hs;split at hs
 ·rename_i jo;have hb:=h.bindEmptyA (nm:=d+2000) jo (by unfold pinned;omega) none e k;rw[<-hd]at hs;refine PI (get:=KG GL f (d+2000) k os) hb (fun d' h'=>by rw[hd]at h';cases h';exact hdn) hn (fun M1 st1 h1 f' ds hg=>?_) hs;unfold KG at hg;split at hg
  ·rename_i hnm1;cases hg;have hr:=KL h1 hx;refine⟨(args.map a.eval),?_,?_⟩
   ·have e1:(args.map a.eval).toList=.slice none 0 0::xs.map a.eval:=by simp[ha,Act.eval]
    rw[e1];refine⟨by simpa using hr.1,fun j a b=>?_⟩;cases j with
    |zero=>exact⟨hnm1,by rw[Bb];exact JH _ _⟩
    |succ j=>exact hr.2 j (by simpa using a) (by simpa using b)
   ·rw[show E7 f (args.map a.eval)=callFunc f (args.map a.eval)from if_pos xh];simp[execOp,ho,resolve,Act.eval,Deferred.ofValue,invoke]
  ·cases hg
 ·exact hs.elim
theorem L0{xs ys:List D}{us:List Value}(h:CL M μ N xs vs)(k:CL M μ N ys us):CL M μ N (xs++ys) (vs++us):=by
 refine⟨by simp[h.1,k.1],fun j a b=>?_⟩;by_cases hj:j<xs.length
 ·rw[List.getElem_append_left hj,List.getElem_append_left (by rw[h.1];exact hj)];exact h.2 j hj _
 ·have e:vs.length=xs.length:=h.1;rw[List.getElem_append_right (by omega),List.getElem_append_right (by omega)];have:=k.2 (j-xs.length) (by simp at a;omega) (by simp at b;omega);grind
theorem PJ{xs:List I}(h:Ai M xs vs):CL M μ N (xs.map .i) vs:=
 ⟨by simpa using h.1,fun j a b=>by rw[List.getElem_map];exact AG (h.2 j (by simpa using a) b)⟩
theorem SP{xs:List Cp}(h:C9 M μ N xs vs):CL M μ N (xs.map Cp.toD) vs:=
 ⟨by simpa using h.1,fun j a b=>by rw[List.getElem_map];exact(h.2 j (by simpa using a) b).toD⟩
theorem ZD(h:Rel GL n S M μ st a w){fv:Operand}{of:O}{args:Array Operand}{tys:Array TypeId}{os:List O}(ho:o.op=.call {callee:=.value fv,args:=args,argTypes:=tys})
  (hd:∀d,o.dst=some d->d<n)(hn:n<=999)(hfv:cO GL fv=some of)(hx:args.toList.mapM (cO GL)=some os)(hs:step P GL (.callv o.dst of os) st K):o.wpX P a w (Ar GL n S M w K) Q:=by
 refine PI (get:=Dr GL of os) h hd hn (fun M1 st1 h1 f' ds hg=>?_) (by simpa only[step]using hs);have hf:=AB h1 hfv;have ke:=KL h1 hx;simp only[Dr,EE]at hg;split at hg
 ·rename_i f first caps e
  cases hg;rw[e]at hf;obtain⟨va,vb,e2,hy,ra,rb⟩:=(AK hf).fn_inv;refine⟨va++args.map a.eval++vb,?_,?_⟩
  ·have:=L0 (L0 (PJ (μ:=μ) (N:=names st1.sto) ra) ke) (PJ rb);simpa using this
  ·cases hb:Nat.blt f' 1000000000 with
   |true=>rw[show E7 f' (va++args.map a.eval++vb)=callFunc f' (va++args.map a.eval++vb)from if_pos hb];simp[execOp,ho,resolve,e2,Deferred.ofValue,invoke,EA,hb]
   |false=>
    have hvb:vb=#[]:=by have h1:=hy.resolve_left (by rw[hb];simp);subst h1;have:=rb.1;grind
    subst hvb;rw[show E7 f' (va++args.map a.eval++#[])=Instr.yield (f'-1000000000) (va++args.map a.eval++#[])from if_neg (by rw[hb];simp)];simp[execOp,ho,resolve,e2,Deferred.ofValue,invoke,EA,hb]
 ·rename_i f first caps e
  cases hg;rw[e]at hf;obtain⟨va,vb,e2,hy,ra,rb⟩:=hf;refine⟨va++args.map a.eval++vb,?_,?_⟩
  ·have:=L0 (L0 (SP ra) ke) (SP rb);simpa using this
  ·cases hb:Nat.blt f' 1000000000 with
   |true=>rw[show E7 f' (va++args.map a.eval++vb)=callFunc f' (va++args.map a.eval++vb)from if_pos hb];simp[execOp,ho,resolve,e2,Deferred.ofValue,invoke,EA,hb]
   |false=>
    have hvb:vb=#[]:=by have h1:=hy.resolve_left (by rw[hb];simp);subst h1;have:=rb.1;grind
    subst hvb;rw[show E7 f' (va++args.map a.eval++#[])=Instr.yield (f'-1000000000) (va++args.map a.eval++#[])from if_neg (by rw[hb];simp)];simp[execOp,ho,resolve,e2,Deferred.ofValue,invoke,EA,hb]
 ·cases hg
end
end Go.Dl
