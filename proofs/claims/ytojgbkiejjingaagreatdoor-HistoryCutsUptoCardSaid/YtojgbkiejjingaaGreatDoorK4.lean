/-
  Lemmas, no statement.
-/
import Derived.Test.YtojgbkiejjingaaGreatDoorK3
set_option linter.all false
namespace Go.Dl
open Go Go.RowKit
def B9(P:Program)(f:FuncId):Bool:=
 Nat.blt f 1000000000&&match P.funcs[f]? with
 |some fn=>fn.name != "runtime.NumGoroutine"&&fn.body.isSome
 |none=>false
def Jq(P:Program)(f:FuncId)(vs:Array Value)(w:World)(R:Value->World->Prop):Prop:=
 (B9 P f=true/\Calls P f vs w fun e w'=>∃v,e=.returned v/\R v w')\/(Nat.blt f 1000000000=true/\∃row,(callFunc f vs).run P w=.ok (.row row vs) w/\Rows P row vs w R)\/(Nat.blt f 1000000000=true/\∃v w',(callFunc f vs).run P w=.ok (.value v) w'/\R v w')\/
  (Nat.blt f 1000000000=false/\∃fn tmps assign body,(Instr.yield (f-1000000000) vs).run P w=.ok (.round (f-1000000000) fn tmps assign body) w/\RoundIn Fence.wide 0 P (f-1000000000) fn tmps assign body w fun e w'=>∃v,e=.returned v/\R v w')
theorem Jq.mono{P:Program}{f:FuncId}{vs:Array Value}{w:World}{R R':Value->World->Prop}(h:Jq P f vs w R)(hr:∀v w',R v w'->R' v w'):Jq P f vs w R':=by
 rcases h with⟨h1,h2⟩|⟨hy,row,h1,h2⟩|⟨hy,v,w',h1,h2⟩|⟨hy,fn,tmps,as,bd,h1,h2⟩
 ·exact .inl ⟨h1,h2.mono fun _ _ ⟨v,a,b⟩=>⟨v,a,hr _ _ b⟩⟩
 ·exact .inr (.inl ⟨hy,row,h1,h2.mono hr⟩)
 ·exact .inr (.inr (.inl ⟨hy,v,w',h1,hr _ _ h2⟩))
 ·exact .inr (.inr (.inr ⟨hy,fn,tmps,as,bd,h1,h2.mono fun _ _ ⟨v,a,b⟩=>⟨v,a,hr _ _ b⟩⟩))
def CL(M:Mem)(μ:Place)(N:Nat->Prop)(xs:List D)(vs:List Value):Prop:=vs.length=xs.length/\∀j (h:j<xs.length) (h':j<vs.length),Az M μ N (xs[j]) (vs[j])
def AH(μ:Place)(sto:List (Nat×Blk))(w:World):Sh:=⟨fun b=>b<w.heap.size/\∀nm,names sto nm->An (μ nm)≠some b,μ,[]⟩
def MC(P:Program)(GL:List (Nat×List I))(f:FuncId)(args:List D)(sto:List (Nat×Blk))(mv:List Nat)(R:D->List (Nat×Blk)->Prop):Prop:=
 ∀(M:Mem) (μ:Place) (w:World) (vs:Array Value),StoOk (AH μ sto w) M μ sto w->Gl GL M->CL M μ (names sto) args vs.toList->
  Jq P f vs w fun v w'=>∃r sto' M' μ',R r sto'/\StoOk (AH μ sto w) M' μ' sto' w'/\Az M' μ' (names sto') r v/\MExt (AH μ sto w) M M'/\Keeps (AH μ sto w) w w'/\∀nm,names sto nm->nm∉mv->μ' nm=μ nm
theorem MC.mono{P:Program}{GL:List (Nat×List I)}{f:FuncId}{args:List D}{sto:List (Nat×Blk)}{mv:List Nat}{R R':D->List (Nat×Blk)->Prop}(h:MC P GL f args sto mv R)(hr:∀r s,R r s->R' r s):MC P GL f args sto mv R':=
 fun M μ w vs h1 h2 h3=>(h M μ w vs h1 h2 h3).mono fun _ _ ⟨r,s,M',μ',a,b⟩=>⟨r,s,M',μ',hr _ _ a,b⟩
def ren(d n:Nat):Nat:=if n=6000 then d else if n=d then 6000 else if n=6001 then d+1000 else if n=d+1000 then 6001 else n
theorem G6{d:Nat}(h:d<1000)(n:Nat):ren d (ren d n)=n:=by unfold ren;grind
def G7(d:Nat):Ref->Ref
 |.loc nm off=>.loc (ren d nm) off
 |.sl nm k lo hi=>.sl (ren d nm) k lo hi
 |.lel nm k row off=>.lel (ren d nm) k row off
 |.mp nm=>.mp (ren d nm)
 |.it nm=>.it (ren d nm)
def G8(d:Nat):Cp->Cp
 |.ref r=>.ref (G7 d r)
 |c=>c
def Ca(d:Nat):D->D
 |.ref r=>.ref (G7 d r)
 |.fn f first caps=>.fn f (first.map (G8 d)) (caps.map (G8 d))
 |.tup cs=>.tup (cs.map (G8 d))
 |x=>x
def Do(d:Nat):Blk->Blk
 |.cells cs=>.cells (cs.map (Ca d))
 |.lp l q cs=>.lp l q (cs.map (Ca d))
 |.gmap ls clk es=>.gmap ls clk (es.map fun e=>(e.1,e.2.1,Ca d e.2.2))
 |x=>x
def AY(d:Nat):List (Nat×Blk)->List (Nat×Blk)
 |[]=>[]
 |(m,x)::r=>(ren d m,Do d x)::AY d r
theorem Y3{d:Nat}(h:d<1000){a b:Nat}(e:ren d a=ren d b):a=b:=by grind[G6]
theorem Pw{d:Nat}(h:d<1000)(l:List (Nat×Blk))(m:Nat):Ac (AY d l) m=(Ac l (ren d m)).map (Do d):=by
 induction l with
 |nil=>rfl
 |cons x r ih=>grind[AY,Ac,ren]
theorem Sq{d:Nat}(h:d<1000)(l:List (Nat×Blk))(m:Nat):names (AY d l) m↔names l (ren d m):=by grind[names,Pw,Ac,ren]
section
variable {GL:List (Nat×List I)}{n:Nat}{S:Sh}{M M':Mem}{μ μ':Place}{N N':Nat->Prop}{st:St}{sto sto':List (Nat×Blk)}{a:Act}{w w':World}{nm d:Nat}{b:Blk}
theorem Bo.ren(_hd:d<1000)(hN:∀m,N m->N' (ren d m))(hμ:∀m,N m->μ' (Dl.ren d m)=μ m){r:Ref}{v:Value}(h:Bo μ N r v):Bo μ' N' (G7 d r) v:=by cases r<;>exact⟨hN _ h.1,by rw[hμ _ h.1];exact h.2⟩
theorem BJ.ren(hd:d<1000)(hN:∀m,N m->N' (ren d m))(hμ:∀m,N m->μ' (Dl.ren d m)=μ m){x:Cp}{v:Value}(h:BJ M μ N x v):BJ M μ' N' (G8 d x) v:=by
 cases x with
 |ref r=>exact Bo.ren hd hN hμ h
 |_=>exact h
theorem Az.ren(hd:d<1000)(hN:∀m,N m->N' (ren d m))(hμ:∀m,N m->μ' (Dl.ren d m)=μ m){x:D}{v:Value}(h:Az M μ N x v):Az M μ' N' (Ca d x) v:=by
 cases x with
 |ref r=>exact Bo.ren hd hN hμ h
 |fn f first caps=>
  obtain⟨va,vb,e,hy,h1,h2⟩:=h;have key:∀{l:List Cp} {vs:List Value},C9 M μ N l vs->C9 M μ' N' (l.map (G8 d)) vs:=fun h=>⟨by simpa using h.1,fun j a b=>by rw[List.getElem_map];exact(h.2 j (by simpa using a) b).ren hd hN hμ⟩
  exact⟨va,vb,e,hy.imp id (fun q=>by rw[q];rfl),key h1,key h2⟩
 |tup cs=>obtain⟨vs,e,h1⟩:=h;exact⟨vs,e,by simpa using h1.1,fun j a b=>by rw[List.getElem_map];exact(h1.2 j (by simpa using a) b).ren hd hN hμ⟩
 |_=>exact h
theorem Gk.ren(hd:d<1000)(hN:∀m,N m->N' (ren d m))(hμ:∀m,N m->μ' (Dl.ren d m)=μ m){xs:List MapEntry}{es:List (I×Nat×D)}(h:Gk M μ N xs es):Gk M μ' N' xs (es.map fun e=>(e.1,e.2.1,Ca d e.2.2)):=
 ⟨by simpa using h.1,fun j a b=>by rw[List.getElem_map];have:=h.2 j (by simpa using a) b;exact⟨this.1,this.2.1,this.2.2.ren hd hN hμ⟩⟩
theorem AI.ren(hd:d<1000)(hN:∀m,N m->N' (ren d m))(hμ:∀m,N m->μ' (Dl.ren d m)=μ m){x:Blk}(hn:N nm)(h:AI S M μ N w nm x):AI S M μ' N' w (Dl.ren d nm) (Do d x):=by
 cases x with
 |cells cs=>obtain⟨bb,vs,t,e,ho,hs,hr⟩:=h;exact⟨bb,vs,t,by rw[hμ _ hn];exact e,ho,by simpa using hs,fun j h h'=>by rw[List.getElem_map];exact(hr j (by simpa using h) h').ren hd hN hμ⟩
 |lp l q cs=>obtain⟨vs,e,ho,hs,hr⟩:=h;exact⟨vs,by rw[hμ _ hn];exact e,ho,by simpa using hs,fun j h h'=>by rw[List.getElem_map];exact(hr j (by simpa using h) h').ren hd hN hμ⟩
 |gmap ls clk es=>obtain⟨bb,xs,e,ho,q1,q2,q3⟩:=h;exact⟨bb,xs,by rw[hμ _ hn];exact e,ho,q1.ren hd hN hμ,q2,fun e he=>by obtain⟨e0,he0,rfl⟩:=List.mem_map.1 he;exact q3 e0 he0⟩
 |_=>simp only[Do,AI]at h⊢;rw[hμ _ hn];exact h
def Ik:List Nat->Env->Env
 |[],e=>e
 |nm::r,e=>Ik r (.sb nm (.iter none []) e)
def KF:List Nat->D->D
 |[],x=>x
 |nm::r,x=>KF r (Pp nm (.iter none []) x)
def G9:List Nat->List (Nat×Blk)->List (Nat×Blk)
 |[],s=>s
 |nm::r,s=>G9 r (Pt nm (.iter none []) s)
def LO:List Nat->Blk->Blk
 |[],x=>x
 |nm::r,x=>LO r (YO nm (.iter none []) x)
def Ha(sto:List (Nat×Blk)):List Nat->List (Nat×Blk)
 |[]=>sto
 |nm::r=>Ha (BC sto nm) r
theorem Px:∀(l:List Nat) (e:Env) (s:Nat),Af (Ik l e) s=KF l (Af e s)
 |[],_,_=>rfl
 |nm::r,e,s=>by simp only[Ik,KF,Px r];rfl
theorem Nz:∀(l:List Nat) (s:List (Nat×Blk)) (m:Nat),Ac (G9 l s) m=(Ac s m).map (LO l)
 |[],s,m=>by simp only[G9];cases Ac s m<;>rfl
 |nm::r,s,m=>by simp only[G9,Nz r,FF];cases Ac s m<;>rfl
theorem NA:∀(l:List Nat) (s:List (Nat×Blk)) (m:Nat),Ac (Ha s l) m=if m∈l then none else Ac s m
 |[],s,m=>by simp[Ha]
 |nm::r,s,m=>by simp only[Ha,NA r,Ij,List.mem_cons];grind
theorem BJ.scr(hN:∀m,m≠nm->N m->N' m/\μ' m=μ m){x:Cp}{v:Value}(h:BJ M μ N x v):BJ M μ' N' (YN nm (.iter none []) x) v:=
 h.sb (Mem.le_refl _) hN fun r v e _=>by simp only[Sj,if_pos e];cases r<;>trivial
theorem Az.scr1(hN:∀m,m≠nm->N m->N' m/\μ' m=μ m){x:D}{v:Value}(h:Az M μ N x v):Az M μ' N' (Pp nm (.iter none []) x) v:=
 h.sb (Mem.le_refl _) hN fun r v e _=>by simp only[Sj,if_pos e];cases r<;>trivial
theorem Az.scr:∀(l:List Nat) {N N':Nat->Prop} {μ μ':Place} {x:D} {v:Value},(∀m,m∉l->N m->N' m/\μ' m=μ m)->Az M μ N x v->Az M μ' N' (KF l x) v
 |[],N,N',μ,μ',x,v,hN,h=>h.mono' (Mem.le_refl _) fun m _ hm=>hN m (by simp) hm
 |nm::r,N,N',μ,μ',x,v,hN,h=>by
  have h1:Az M μ (fun m=>N m/\m≠nm) (Pp nm (.iter none []) x) v:=h.scr1 fun m hm hn=>⟨⟨hn,hm⟩,rfl⟩
  exact Az.scr r (fun m hm hn=>hN m (by simp[hn.2,hm]) hn.1) h1
theorem AI.scr:∀(l:List Nat) {N N':Nat->Prop} {μ μ':Place} {x:Blk},(∀m,m∉l->N m->N' m/\μ' m=μ m)->μ' nm=μ nm->AI S M μ N w nm x->AI S M μ' N' w nm (LO l x)
 |[],N,N',μ,μ',x,hN,hμ,h=>h.mono (Mem.le_refl _) hμ (fun m _ hm=>hN m (by simp) hm) (fun _ _ _=>rfl) (fun _ _ _=>Mem.same_refl _ _)
 |p::r,N,N',μ,μ',x,hN,hμ,h=>by have h1:AI S M μ (fun m=>N m/\m≠p) w nm (YO p (.iter none []) x):=h.sb (Mem.le_refl _) (fun m hm hn=>⟨⟨hn,hm⟩,rfl⟩) (fun r v e _=>by simp only[Sj,if_pos e];cases r<;>trivial) rfl (fun _ _ _=>rfl) (fun _ _ _=>Mem.same_refl _ _);exact AI.scr r (fun m hm hn=>hN m (by simp[hn.2,hm]) hn.1) hμ h1
def Hb(sto sto':List (Nat×Blk))(mv:List Nat):List Nat:=(sto.map (·.1)).filter fun nm=>mv.contains nm||(Ac sto' nm).isNone
def C0(st:St)(sto sto':List (Nat×Blk))(mv:List Nat)(d:Nat):St:=
 ⟨Ik (Hb sto sto' mv) st.env,AY d sto'++G9 (Hb sto sto' mv) (Ha st.sto (sto.map (·.1)))⟩
theorem Il(l r:List (Nat×Blk))(m:Nat):Ac (l++r) m=match Ac l m with|some b=>some b|none=>Ac r m:=by
 induction l with
 |nil=>rfl
 |cons x l ih=>obtain⟨p,q⟩:=x;simp only[List.cons_append,Ac];split;rfl;exact ih
theorem BX{m:Nat}:m∈sto.map (·.1)↔names sto m:=by
 induction sto with
 |nil=>simp[names,Ac]
 |cons x r ih=>grind[names,Ac]
theorem StoOk.hand(h:StoOk S M μ st.sto w)(hs:∀nm b,Ac sto nm=some b->Ac st.sto nm=some b)(hc:∀nm b,Ac sto nm=some b->∀m∈b.nms,names sto m):StoOk (AH μ sto w) M μ sto w where
 sub:=h.sub
 blk:=fun m x hx=>by
  have hk:=h.blk m x (hs m x hx);have hn:names sto m:=by simp[names,hx]
  have own:∀{bb:Nat} {o:Obj},An (μ m)=some bb->Owns S M w bb o->Owns (AH μ sto w) M w bb o:=fun e ho=>⟨fun hsh=>hsh.2 m hn e,ho.heap,ho.unk⟩
  cases x with
  |cells cs=>obtain⟨bb,vs,t,e,ho,js,hr⟩:=hk;exact⟨bb,vs,t,e,own (by rw[e];rfl) ho,js,fun j h h'=>(hr j h h').mono' (Mem.le_refl _) fun q hq _=>⟨hc m _ hx q (List.mem_flatMap.2 ⟨_,List.getElem_mem h,hq⟩),rfl⟩⟩
  |rows e k rs=>
   obtain⟨aa,cap,e,hh⟩:=hk;refine⟨aa,cap,e,?_⟩;rcases hh with hh|⟨bb,o,cur,rfl,kd,ho,q⟩
   ·exact .inl hh
   ·exact .inr ⟨bb,o,cur,rfl,kd,own (by rw[e];simp only[An];rw[if_neg (by omega)]) ho,q⟩
  |map ls es=>obtain⟨bb,xs,clk,e,ho,q⟩:=hk;exact⟨bb,xs,clk,e,own (by rw[e];rfl) ho,q⟩
  |iter cur rest=>obtain⟨bb,mm,since,seen,last,e,ho,q⟩:=hk;exact⟨bb,mm,since,seen,last,e,own (by rw[e];rfl) ho,q⟩
  |gmap ls clk es=>obtain⟨bb,xs,e,ho,q1,q⟩:=hk;exact⟨bb,xs,e,own (by rw[e];rfl) ho,q1.mono (Mem.le_refl _) (fun e he q hq _=>⟨hc m _ hx q (List.mem_flatMap.2 ⟨e,he,hq⟩),rfl⟩),q⟩
  |arr e k rs=>
   obtain⟨aa,e1,hh⟩:=hk;refine⟨aa,e1,?_⟩;rcases hh with hh|⟨bb,o,cur,rfl,jh,ho,q⟩
   ·exact .inl hh
   ·exact .inr ⟨bb,o,cur,rfl,jh,own (by rw[e1];exact Ny (by simpa using jh)) ho,q⟩
  |lp l lq cs=>obtain⟨vs,e,ho,js,hr⟩:=hk;exact⟨vs,e,own (by rw[e];rfl) ho,js,fun j h h'=>(hr j h h').mono' (Mem.le_refl _) fun q hq _=>⟨hc m _ hx q (List.mem_flatMap.2 ⟨_,List.getElem_mem h,hq⟩),rfl⟩⟩
 sep:=fun m m' k k' jh h1 h2=>by
  refine h.sep m m' k k' jh ?_ ?_
  ·obtain⟨x,hx⟩:=Option.isSome_iff_exists.1 h1;simp[names,hs m x hx]
  ·obtain⟨x,hx⟩:=Option.isSome_iff_exists.1 h2;simp[names,hs m' x hx]
 low:=fun b hb=>hb.1
theorem Rel.afterCall(h:Rel GL n S M μ st a w){mv:List Nat}(hd:d<1000)(hs:∀nm b,Ac sto nm=some b->Ac st.sto nm=some b)
  (h1:StoOk (AH μ sto w) M' μ' sto' w')(hm:MExt (AH μ sto w) M M')(hk:Keeps (AH μ sto w) w w')(hmv:∀nm,names sto nm->nm∉mv->μ' nm=μ nm)
  (hfresh:∀nm,names (AY d sto') nm->names sto nm\/(Ac st.sto nm=none/\nm<5000))(xe:∀nm∈mv,¬pinned nm)(wq:∀nm,names sto nm->names sto' nm->ren d nm=nm):
  ∃μ2,Rel GL n S M' μ2 (C0 st sto sto' mv d) a w'/\MExt S M M'/\Keeps S w w'/\∀r v,Az M' μ' (names sto') r v->Az M' μ2 (names (C0 st sto sto' mv d).sto) (Ca d r) v:=by
 have hns:∀m,names sto m->names st.sto m:=fun m hm=>by obtain⟨x,hx⟩:=Option.isSome_iff_exists.1 hm;simp[names,hs m x hx]
 have hSsh:∀k,S k->AH μ sto w k:=fun k hk=>⟨h.low k hk,fun m hm e=>(h.toStoOk.lt (hns m hm) e).2.1 hk⟩
 have hoth:∀m k,names st.sto m->¬names sto m->An (μ m)=some k->AH μ sto w k:=fun m k hm hn e=>
  ⟨(h.toStoOk.lt hm e).1,fun m' hm' e'=>h.sep m m' k k (fun q=>hn (q▸hm')) hm (hns m' hm') e e' rfl⟩
 have hN2:∀m,names (C0 st sto sto' mv d).sto m↔names sto' (ren d m)\/(names st.sto m/\¬names sto m):=fun m=>by
  simp only[C0,names,Il,Pw hd,Nz,NA,BX];cases e1:Ac sto' (ren d m)with
  |some x=>simp
  |none=>
   simp only[Option.map_none,Option.isSome_none,Bool.false_eq_true,false_or];by_cases e2:(Ac sto m).isSome=true
   ·simp[e2]
   ·cases Ac st.sto m<;>simp[e2]
 have hdis:∀m,names sto' (ren d m)->¬(names st.sto m/\¬names sto m):=fun m hm hh=>by
  rcases hfresh m ((Sq hd _ _).2 hm)with q|q
  ·exact hh.2 q
  ·have:=hh.1;simp[names,q.1]at this
 let μ2:Place:=fun m=>if(Ac sto' (ren d m)).isSome=true then μ' (ren d m)else μ m
 have hμ2:∀m,names sto' m->μ2 (ren d m)=μ' m:=fun m hm=>by simp only[μ2,G6 hd];exact if_pos hm
 have hμ2o:∀m,names st.sto m->¬names sto m->μ2 m=μ m:=fun m h1 h2=>by simp only[μ2];exact if_neg fun hc=>hdis m hc ⟨h1,h2⟩
 have hsee:∀m,m∉Hb sto sto' mv->names st.sto m->names (C0 st sto sto' mv d).sto m/\μ2 m=μ m:=fun m hg hm=>by
  by_cases jr:names sto m
  ·have qq:m∉mv/\names sto' m:=by simp only[Hb,List.mem_filter,not_and]at hg;have:=hg (BX.2 jr);simp only[Bool.or_eq_true,not_or,List.contains_iff_mem]at this;exact⟨this.1,by have:=this.2;simp only[names];cases hx:Ac sto' m<;>simp_all⟩
   have hr:=wq m jr qq.2;refine⟨(hN2 m).2 (.inl (by rw[hr];exact qq.2)),?_⟩;have:=hμ2 m qq.2;rw[hr]at this;rw[this];exact hmv m jr qq.1
  ·exact⟨(hN2 m).2 (.inr ⟨hm,jr⟩),hμ2o m hm jr⟩
 refine⟨μ2,?_,⟨hm.le,fun b hb=>hm.old b (hSsh b hb)⟩,hk.mono hSsh,fun r v hr=>hr.ren hd (fun m hm=>(hN2 _).2 (.inl (by rw[G6 hd];exact hm))) hμ2⟩;have kp:StoOk S M' μ2 (C0 st sto sto' mv d).sto w':=by
  refine⟨h1.sub,fun m x hx=>?_,fun m m' k k' jh hm1 hm2 qr qm=>?_,fun b hb=>Nat.lt_of_lt_of_le (h.low b hb) hk.size⟩
  ·simp only[C0,Il,Pw hd,Nz,NA,BX]at hx;cases e1:Ac sto' (ren d m)with
   |some y=>
    simp only[e1,Option.map_some,Option.some.injEq]at hx;subst hx;have hy:=h1.blk _ y e1;have:=hy.ren (N':=names (C0 st sto sto' mv d).sto) hd (fun m hm=>(hN2 _).2 (.inl (by rw[G6 hd];exact hm))) hμ2 (by simp[names,e1]);rw[G6 hd]at this;have low:∀{bb:Nat} {o:Obj},Owns (AH μ sto w) M' w' bb o->Owns S M' w' bb o:=fun ho=>⟨fun hS=>ho.low (hSsh _ hS),ho.heap,ho.unk⟩
    revert this;generalize Do d y=z;intro this;cases z with
    |cells cs=>obtain⟨bb,vs,t,e,ho,q⟩:=this;exact⟨bb,vs,t,e,low ho,q⟩
    |rows e k rs=>
     obtain⟨aa,cap,e,hh⟩:=this;refine⟨aa,cap,e,?_⟩;rcases hh with hh|⟨bb,o,cur,q1,kd,ho,q⟩
     ·exact .inl hh
     ·exact .inr ⟨bb,o,cur,q1,kd,low ho,q⟩
    |map ls es=>obtain⟨bb,xs,clk,e,ho,q⟩:=this;exact⟨bb,xs,clk,e,low ho,q⟩
    |iter cur rest=>obtain⟨bb,mm,since,seen,last,e,ho,q⟩:=this;exact⟨bb,mm,since,seen,last,e,low ho,q⟩
    |lp l lq cs=>obtain⟨vs,e,ho,q⟩:=this;exact⟨vs,e,low ho,q⟩
    |gmap ls clk es=>obtain⟨bb,xs,e,ho,q⟩:=this;exact⟨bb,xs,e,low ho,q⟩
    |arr e k rs=>
     obtain⟨aa,e1,hh⟩:=this;refine⟨aa,e1,?_⟩;rcases hh with hh|⟨bb,o,cur,q1,jh,ho,q⟩
     ·exact .inl hh
     ·exact .inr ⟨bb,o,cur,q1,jh,low ho,q⟩
   |none=>
    simp only[e1,Option.map_none]at hx;by_cases jr:names sto m
    ·rw[if_pos (BX.2 jr)]at hx;cases hx
    ·rw[if_neg (fun q=>jr (BX.1 q))]at hx;cases e2:Ac st.sto m with
     |none=>simp[e2]at hx
     |some y=>
      simp only[e2,Option.map_some,Option.some.injEq]at hx;subst hx;have jo:names st.sto m:=by simp[names,e2]
      have hy:AI S M' μ (names st.sto) w' m y:=(h.blk m y e2).mono hm.le rfl (fun _ _ k=>⟨k,rfl⟩) (fun k jn _=>hk.block k (hoth m k jo jr jn)) (fun k jn _=>hm.old k (hoth m k jo jr jn));exact hy.scr _ hsee (hμ2o m jo jr)
  ·
   rw[hN2]at hm1 hm2;rcases hm1 with q1|q1<;>rcases hm2 with q2|q2
   ·refine h1.sep (ren d m) (ren d m') k k' (fun e=>jh (Y3 hd e)) q1 q2 ?_ ?_
    ·rw[<-hμ2 _ q1,G6 hd];exact qr
    ·rw[<-hμ2 _ q2,G6 hd];exact qm
   ·rw[hμ2o m' q2.1 q2.2]at qm;have e1:An (μ' (ren d m))=some k:=by rw[<-hμ2 _ q1,G6 hd];exact qr
    intro e;subst e;exact(h1.lt q1 e1).2.1 (hoth m' k q2.1 q2.2 qm)
   ·rw[hμ2o m q1.1 q1.2]at qr;have e1:An (μ' (ren d m'))=some k':=by rw[<-hμ2 _ q2,G6 hd];exact qm
    intro e;subst e;exact(h1.lt q2 e1).2.1 (hoth m k q1.1 q1.2 qr)
   ·rw[hμ2o m q1.1 q1.2]at qr;rw[hμ2o m' q2.1 q2.2]at qm;exact h.sep m m' k k' jh q1.1 q2.1 qr qm
 refine h.of (st':=C0 st sto sto' mv d) kp hm.le (fun s v hv=>by simp only[C0,Px];exact Az.scr _ hsee (hv.mono hm.le fun _ k=>k)) fun m hp=>?_
 have hrm:ren d m=m:=by unfold pinned at hp;unfold ren;rw[if_neg (by omega),if_neg (by omega),if_neg (by omega),if_neg (by omega)]
 by_cases jr:names sto' m
 ·rcases hfresh m ((Sq hd _ _).2 (by rw[hrm];exact jr))with q|q
  ·have:=hμ2 m jr;rw[hrm]at this;rw[this];exact hmv m q fun hc=>xe m hc hp
  ·unfold pinned at hp;omega
 ·simp only[μ2,hrm];exact if_neg jr
end
end Go.Dl
