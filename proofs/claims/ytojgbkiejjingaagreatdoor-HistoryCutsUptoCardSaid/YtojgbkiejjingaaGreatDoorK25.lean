/-
  Lemmas, no statement.
-/
import Derived.Test.YtojgbkiejjingaaGreatDoorK24
set_option linter.all false
namespace Go.Dl
open Go Go.RowKit
variable{g:Nat->Nat}{l:List (Nat×Blk)}{N:Nat->Prop}{mv:List Nat}{nm:Nat}
section
variable {P:Program}{GL:List (Nat×List I)}{n:Nat}{S:Sh}{M:Mem}{μ:Place}{st:St}{a:Act}{w:World}{sto:List (Nat×Blk)}
theorem AI.reS{S S':Nat->Prop}{M:Mem}{μ:Place}{w:World}{x:Blk}(h:AI S M μ N w nm x)(hs:∀k,An (μ nm)=some k->S' k->S k):AI S' M μ N w nm x:=by
 have own:∀{k:Nat} {q:Obj},An (μ nm)=some k->Owns S M w k q->Owns S' M w k q:=fun e hq=>⟨fun hb=>hq.low (hs _ e hb),hq.heap,hq.unk⟩
 cases x with
 |cells cs=>obtain⟨bb,vs,t,e,ho,js,hr⟩:=h;exact⟨bb,vs,t,e,own (by rw[e];rfl) ho,js,hr⟩
 |rows e k rs=>obtain⟨aa,cap,e,hh⟩:=h;refine⟨aa,cap,e,hh.imp id ?_⟩;grind[An]
 |map ls es=>obtain⟨bb,xs,clk,e,ho,q⟩:=h;exact⟨bb,xs,clk,e,own (by rw[e];rfl) ho,q⟩
 |iter cur rest=>obtain⟨bb,mm,since,seen,last,e,ho,q⟩:=h;exact⟨bb,mm,since,seen,last,e,own (by rw[e];rfl) ho,q⟩
 |lp l q cs=>obtain⟨vs,e,ho,q⟩:=h;exact⟨vs,e,own (by rw[e];rfl) ho,q⟩
 |gmap ls clk es=>obtain⟨bb,xs,e,ho,q⟩:=h;exact⟨bb,xs,e,own (by rw[e];rfl) ho,q⟩
 |arr e k rs=>obtain⟨aa,e1,hh⟩:=h;refine⟨aa,e1,hh.imp id ?_⟩;rintro⟨bb,o',cur,rfl,jh,ho,q⟩;exact⟨bb,o',cur,rfl,jh,own (by rw[e1];exact Ny (by simpa using jh)) ho,q⟩
theorem AI.putN{S:Nat->Prop}{M:Mem}{μ:Place}{w:World}{b:Nat}{x:Blk}{o:Obj}(h:AI S M μ N w nm x)(hb:An (μ nm)≠some b):AI S M μ N (w.putObj b o) nm x:=
 AI.mono (S:=⟨S,μ,[]⟩) h (Mem.le_refl _) rfl (fun _ _ k=>⟨k,rfl⟩) (fun k hk _=>World.putObj_heap_other (fun e=>hb (e▸hk))) (fun _ _ _=>Mem.same_refl _ _)
theorem AI.nameMono{S:Nat->Prop}{M:Mem}{μ:Place}{N':Nat->Prop}{w:World}{x:Blk}(h:AI S M μ N w nm x)(hN:∀m∈x.nms,N m->N' m):AI S M μ N' w nm x:=
 AI.mono (S:=⟨S,μ,[]⟩) h (Mem.le_refl _) rfl (fun m hm k=>⟨hN m hm k,rfl⟩) (fun _ _ _=>rfl) (fun _ _ _=>Mem.same_refl _ _)
theorem StoOk.putN{S:Nat->Prop}{b:Nat}{o:Obj}(h:StoOk S M μ sto w)(hu:M.unk b)(hb:∀m,names sto m->An (μ m)≠some b):StoOk S M μ sto (w.putObj b o) where
 sub:=h.sub.world fun k _ hk=>World.putObj_heap_other (fun e=>hk (e▸hu))
 blk:=fun nm x hx=>(h.blk nm x hx).putN (hb nm (by simp[names,hx]))
 sep:=h.sep
 low:=fun k hk=>by rw[World.putObj_size];exact h.low k hk
theorem Rel.putN(h:Rel GL n S M μ st a w){b:Nat}{o:Obj}(hu:M.unk b)(hb:∀m,names st.sto m->An (μ m)≠some b):Rel GL n S M μ st a (w.putObj b o):=
 h.of (st':=st) (h.toStoOk.putN hu hb) (Mem.le_refl _) fun _ _ hv=>hv
theorem StoOk.reS{S S':Nat->Prop}(h:StoOk S M μ sto w)(hs:∀m k,names sto m->An (μ m)=some k->S' k->S k)(hlow:∀b,S' b->b<w.heap.size):StoOk S' M μ sto w where
 sub:=h.sub
 blk:=fun nm x hx=>(h.blk nm x hx).reS fun k hk hS=>hs nm k (by simp[names,hx]) hk hS
 sep:=h.sep
 low:=hlow
theorem StoOk.part{S:Nat->Prop}{sto':List (Nat×Blk)}(h:StoOk S M μ sto w)(hs:∀m b,Ac sto' m=some b->Ac sto m=some b)(hc:∀nm b,Ac sto' nm=some b->∀m∈b.nms,names sto' m):StoOk S M μ sto' w where
 sub:=h.sub
 blk:=fun nm b hb=>(h.blk nm b (hs nm b hb)).nameMono fun m hm _=>hc nm b hb m hm
 sep:=fun m m' k k' jh h1 h2=>by
  refine h.sep m m' k k' jh ?_ ?_
  ·obtain⟨x,hx⟩:=Option.isSome_iff_exists.1 h1;simp[names,hs m x hx]
  ·obtain⟨x,hx⟩:=Option.isSome_iff_exists.1 h2;simp[names,hs m' x hx]
 low:=h.low
theorem Jq.calls{f:FuncId}{vs:Array Value}{R:Value->World->Prop}(he:B9 P f=true)(h:Jq P f vs w R):Calls P f vs w fun e w'=>∃v,e=.returned v/\R v w':=by
 have hy:Nat.blt f 1000000000=true:=by grind[B9]
 rcases h with⟨_,h2⟩|⟨_,row,h1,_⟩|⟨_,v,w',h1,_⟩|⟨h1,_⟩
 all_goals grind[IL]
theorem Uk{r:Ref}:(Nv g r).nm=g r.nm:=by cases r<;>rfl
theorem Ul{c:Cp}{q:Nat}(h:q∈(ri g c).nms):∃p∈c.nms,q=g p:=by
 cases c with
 |ref r=>simp[ri,Cp.nms,Uk]at h⊢;exact h
 |_=>simp[ri,Cp.nms]at h
theorem N3{d:D}{q:Nat}(h:q∈(If g d).nms):∃p∈d.nms,q=g p:=by
 cases d with
 |ref r=>simp[If,D.nms,Uk]at h⊢;exact h
 |fn f a b=>grind[If,D.nms,Ul]
 |tup cs=>grind[If,D.nms,Ul]
 |_=>simp[If,D.nms]at h
theorem aZ{b:Blk}{q:Nat}(h:q∈(KC g b).nms):∃p∈b.nms,q=g p:=by
 cases b with
 |cells cs=>grind[KC,Blk.nms,N3]
 |lp l q cs=>grind[KC,Blk.nms,N3]
 |gmap ls clk es=>grind[KC,Blk.nms,N3]
 |_=>simp[KC,Blk.nms]at h
theorem FW{T:List (Nat×Blk)}{k:Nat}{b:Blk}(h:Ps T l=true):Ps ((k,b)::T) l=true:=by
 induction l with
 |nil=>rfl
 |cons x r ih=>obtain⟨m,y⟩:=x;simp only[Ps,Bool.and_eq_true]at h⊢;refine⟨?_,ih h.2⟩;simp only[Pq,List.all_eq_true]at h⊢;intro q hq;exact ED q (h.1 q hq)
theorem Ep(h:Pu mv l=true):Ps l l=true:=by grind[Pu]
theorem bc(h:Pu mv l=true):∀q,names l q->pinned q\/q∈mv:=fun q hq=>by
 simp only[Pu,Bool.and_eq_true,List.all_eq_true]at h;have:=h.1.1 q (BX.2 hq);simp only[Bool.or_eq_true,Bool.and_eq_true,Nat.ble_eq,Nat.blt_eq]at this;rcases this with q1|q1
 ·exact .inl q1
 all_goals grind
theorem Mk(h:JP l=true):Ac l 5499=none:=by
 cases hg:Ac l 5499 with
 |none=>rfl
 |some b=>grind[names,JP,BX]
theorem Um{N:Nat->Prop}:∀(ps:List Nat) (xs:List I) (vs:List Value) (e:List (Nat×D)) (t:Array Value),ps.length=xs.length->Ai M xs vs->(∀p∈ps,p<t.size)->(∀s,Az M μ N (B2 e s) (t.getD s Go.undef))->
  ∀s,Az M μ N (B2 (D0 ps xs e) s) (((ps.zip vs).foldl (fun t p=>t.setIfInBounds p.1 p.2) t).getD s Go.undef)
 |[],xs,vs,e,t,_,_,_,h,s=>by simp_all[D0]
 |p::ps,[],vs,e,t,hl,_,_,_,s=>by simp at hl
 |p::ps,x::xs,[],e,t,hl,hr,_,_,s=>by have:=hr.1;simp at this
 |p::ps,x::xs,v::vs,e,t,hl,hr,hp,h,s=>by
  simp only[D0,List.zip_cons_cons,List.foldl_cons];refine Um ps xs vs _ _ (by simpa using hl) ⟨by simpa using hr.1,fun j a b=>by have:=hr.2 (j+1) (by simpa using a) (by simpa using b);simpa using this⟩ (fun q hq=>by simpa using hp q (List.mem_cons_of_mem _ hq)) (fun s=>?_) s;have hpt:p<t.size:=hp p List.mem_cons_self;simp only[B2];by_cases e':p=s
  ·subst e';simp only[if_true];have:=hr.2 0 (by simp) (by simp);show Rep M x _;simp_all
  all_goals simp_all
theorem Un(l:Nat):Nat.blt (1000000000+l) 1000000000=false:=by
 cases h:Nat.blt (1000000000+l) 1000000000 with
 |false=>rfl
 |true=>rw[Nat.blt_eq]at h;omega
theorem bf{q:LQ}{l:Nat}{L:List D}{mj mk:List (Nat×Blk)}{xj:List I}{jm:Jm}{ix iy:IR}(hn9:n<=999)(hq:q.jump=none)
  (hx:∀(S:Sh) (K:Exit->St->Prop) (M:Mem) (μ:Place) (st:St) (a:Act) (w:World),Rel GL n S M μ st a w->W P GL ix K st->q.assign.wpIn (FR (some l)) 0 P (AZ GL n S M w K) a w)
  (hy:∀(S:Sh) (K:Exit->St->Prop) (M:Mem) (μ:Place) (st:St) (a:Act) (w:World),Rel GL n S M μ st a w->W P GL iy K st->q.body.wpIn (FR (some l)) 0 P (AZ GL n S M w K) a w)
  (kc:Pu mv mj=true)(hok':Pu mv mk=true)(h99:JP mj=true)(h99':JP mk=true)(hL:rQ mj L=true)(hL':rQ mk L=true)(hLn:L.length=n)(hps:xj.length=q.ps.toList.length)(zG:∀p∈q.ps.toList,p<n)
  (hw:W P GL ix (Ue (W P GL iy) (aT mk jm)) ⟨.l (D0 q.ps.toList xj (C3 0 L)),mj⟩):
  MC P GL (1000000000+l) (xj.map .i) ((5499,.lp l q L)::mj) mv (fun r s=>r=.i (.bool jm.go)/\s=(5499,.lp l {q with jump:=jm.code} L)::mk):=by
 intro Mr μr wr vs kp vz j7;obtain⟨ts,hμ,jd,js,hrs⟩:=kp.blk 5499 (.lp l q L) (by simp[Ac]);have qp:An (μr 5499)=some l:=by rw[hμ];rfl
 have h5:Ac mj 5499=none:=Mk h99;have h5':Ac mk 5499=none:=Mk h99';have kq:Ps mj mj=true:=by exact Ep kc
 have hcl':Ps mk mk=true:=by exact Ep hok'
 have hup:∀m b,Ac mj m=some b->Ac ((5499,.lp l q L)::mj) m=some b:=fun m b hb=>by simp only[Ac];rw[if_neg (fun e=>by subst e;rw[h5]at hb;cases hb)];exact hb
 have hnl:∀m k,names mj m->An (μr m)=some k->k≠l:=fun m k hm hk=>by refine kp.sep m 5499 k l (fun e=>by subst e;simp[names,h5]at hm) (ED m hm) DG hk qp
 refine .inr (.inr (.inr ⟨Un l,q.fn,(q.ps.zip vs).foldl (fun t x=>t.setIfInBounds x.1 x.2) ts,q.assign,q.body,?_,?_⟩))
 ·have e:1000000000+l-1000000000=l:=by omega
  rw[e];exact run_yield (P:=P) (args:=vs) jd.heap (by have h1:=j7.1;have h2:(q.lp ts).params=q.ps:=rfl;rw[h2];simp at h1 hps;omega)
 ·have e:1000000000+l-1000000000=l:=by omega
  rw[e];refine roundIn_of_wpIn (F:=Fence.wide) trivial ?_
  let Sr:Sh:=⟨fun b=>(AH μr ((5499,.lp l q L)::mj) wr).p b\/b=l,μr,[]⟩
  have vt:l<wr.heap.size:=jd.lt;have hRepL:CL Mr μr (names mj) L ts.toList:=⟨by simpa using js,fun j a b=>by
   have hj:j<ts.size:=by simpa using b
   have:=(hrs j a hj).mono' (N':=names mj) (μ':=μr) (Mem.le_refl _) fun m hm _=>⟨by
    simp only[rQ,List.all_eq_true,Bool.and_eq_true]at hL;exact DZ (hL _ (List.getElem_mem a)).1 m hm,rfl⟩
   simpa using this⟩
  have hxL:Ai Mr xj vs.toList:=⟨by simpa using j7.1,fun j a b=>by have:=j7.2 j (by simpa using a) b;rw[List.getElem_map]at this;exact this⟩
  have h0:Rel GL n Sr Mr μr ⟨.l (D0 q.ps.toList xj (C3 0 L)),mj⟩ {tmps:=(q.ps.zip vs).foldl (fun t x=>t.setIfInBounds x.1 x.2) ts,defers:=[]} wr:=by
   have hsize:∀(l:List (Tmp×Value)) (t:Array Value),(l.foldl (fun t x=>t.setIfInBounds x.1 x.2) t).size=t.size:=fun l=>by
    induction l with
    |nil=>intro t;rfl
    |cons x l ih=>intro t;simp[ih]
   have hfold:(q.ps.zip vs).foldl (fun t x=>t.setIfInBounds x.1 x.2) ts=(q.ps.toList.zip vs.toList).foldl (fun t x=>t.setIfInBounds x.1 x.2) ts:=by rw[<-Array.foldl_toList];simp
   refine{toStoOk:=?_,small:=hn9,pin:=fun _ _=>rfl,defers:=rfl,size:=?_,env:=fun s=>?_,glob:=vz}
   ·refine(kp.part hup fun nm b hb=>Hu kq nm b hb).reS (fun m k hm hk hS=>?_) (fun b hb=>?_)
    ·rcases hS with hS|hS
     ·exact hS
     ·exact(hnl m k hm hk hS).elim
    ·rcases hb with hb|rfl
     ·exact kp.low b hb
     ·exact vt
   ·rw[hfold,hsize];omega
   ·rw[hfold];refine Um q.ps.toList xj vs.toList _ ts (by omega) hxL (fun p hp=>Nat.lt_of_lt_of_le (zG p hp) (by omega)) (fun s=>?_) s;refine P9 L ts.toList 0 hRepL s _ (fun hl _=>?_);simp at hl;simp[hl]
  refine wpIn_mono (hx Sr _ Mr μr _ _ wr h0 hw) ?_;rintro e a' w' ⟨st',hk,S',qq,M',μ',h',hm,zH⟩;cases e with
  |normal=>
   have hSl:Sr.p l:=.inr rfl;have hl1:w'.heap[l]? =some (.loop (q.lp ts)):=(zH.block l hSl).trans jd.heap;refine⟨_,run_beginRound hl1 (by show(if q.jump.isNone=true then LoopState.ready else LoopState.done)=_;rw[hq];rfl),?_⟩;generalize hw2:w'.putObj l (.loop {q.lp ts with state:=.busy})=w2;have hun:M'.unk l:=Mem.unk_same jd.unk (hm.old l hSl);have h'':Rel GL n S' M' μ' st' a' w2:=by rw[<-hw2];exact h'.putN hun fun m hm e=>(h'.toStoOk.lt hm e).2.1 (qq.p l hSl)
   have hb:q.body.wpIn (FR (some l)) 0 P (AZ GL n S' M' w2 (aT mk jm)) a' w2:=by
    rcases hk with hk|⟨T,hT,hk⟩|⟨ks,hk⟩
    ·exact hy S' _ M' μ' st' a' w2 h'' hk
    ·exact hy S' _ M' μ' T a' w2 (h''.sub' hT) hk
    ·exact hy S' _ M' μ' _ a' w2 (h''.prn ks) hk
   refine wpIn_mono hb ?_;rintro e2 a3 w3 ⟨st3,⟨rfl,lf,ky⟩,S3,hg3,M3,μ3,h3,hm3,hkeep3⟩;obtain⟨M4,h4,m4⟩:=h3.frzNs lf;have hS'l:S'.p l:=qq.p l hSl;have hl3:w3.heap[l]? =some (.loop {q.lp ts with state:=.busy}):=(hkeep3.block l hS'l).trans (by rw[<-hw2];exact World.putObj_heap_same (LN hl1));have wv:=run_endRound (P:=P) jm.code hl3;have hgo:jm.code.isNone=jm.go:=by cases jm<;>rfl
   rw[hgo]at wv;have hpinq:∀m,pinned m->μ3 m=μr m:=fun m hp=>by rw[h4.pin m hp,hg3.q,qq.q]
   have hlsz:l<w3.heap.size:=LN hl3;have hMle:Mr.le M4:=Mem.le_trans hm.le (Mem.le_trans hm3.le m4.le);have hS3:∀b,(AH μr ((5499,.lp l q L)::mj) wr).p b->S3.p b:=fun b hb=>hg3.p b (qq.p b (.inl hb))
   have hun4:M4.unk l:=Mem.unk_same (Mem.unk_same hun (hm3.old l hS'l)) (m4.old l (hg3.p l hS'l));have hs3:StoOk S3.p M4 μ3 mk w3:=h4.toStoOk.part (IM ky) fun nm b hb=>Hu hcl' nm b hb
   have hnl3:∀m k,names mk m->An (μ3 m)=some k->k≠l:=fun m k hm hk e=>(hs3.lt hm hk).2.1 (e▸hg3.p l hS'l)
   have hl4:(w3.putObj l (.loop {(q.lp ts)with state:=if jm.go=true then .ready else .done,pending:=jm.code})).heap[l]? =some (.loop (({q with jump:=jm.code}:LQ).lp ts)):=by rw[World.putObj_heap_same hlsz];cases jm<;>rfl
   have fin:∃v,Ending.returned (Value.bool jm.go)=.returned v/\∃r sto' M' μ',(r=D.i (.bool jm.go)/\sto'=(5499,.lp l {q with jump:=jm.code} L)::mk)/\StoOk (AH μr ((5499,.lp l q L)::mj) wr) M' μ' sto' (w3.putObj l (.loop {(q.lp ts)with state:=if jm.go=true then .ready else .done,pending:=jm.code}))/\Az M' μ' (names sto') r v/\
     MExt (AH μr ((5499,.lp l q L)::mj) wr) Mr M'/\Keeps (AH μr ((5499,.lp l q L)::mj) wr) wr (w3.putObj l (.loop {(q.lp ts)with state:=if jm.go=true then .ready else .done,pending:=jm.code}))/\∀nm,names ((5499,.lp l q L)::mj) nm->nm∉mv->μ' nm=μr nm:=by
    have hs4:StoOk (AH μr ((5499,.lp l q L)::mj) wr).p M4 μ3 mk (w3.putObj l (.loop {(q.lp ts)with state:=if jm.go=true then .ready else .done,pending:=jm.code})):=
     (hs3.reS (fun m k _ _ hS=>hS3 k hS) (fun b hb=>hs3.low b (hS3 b hb))).putN hun4 fun m hm e=>hnl3 m l hm e rfl
    have hbind:=hs4.bind (nm:=5499) (b:=.lp l {q with jump:=jm.code} L) (x:=.pointer (some ⟨l,0,none⟩)) h5' ⟨ts,Bb _ _ _,⟨jd.low,hl4,hun4⟩,js,fun j a b=>by
     refine(hrs j a b).mono' hMle fun m hm _=>?_
     simp only[rQ,List.all_eq_true,Bool.and_eq_true]at hL';obtain⟨q1,q2⟩:=hL' _ (List.getElem_mem a);have q3:=q2 m hm;simp only[Nat.ble_eq,Nat.blt_eq]at q3;exact⟨ED m (DZ q1 m hm),by rw[B8 _ _ (by omega)];exact hpinq m ⟨q3.1,by omega⟩⟩⟩ (fun m k hm hk=>by
     simp only[An];intro e;cases e;exact hnl3 m l hm hk rfl)
    have hup3:Bj μ3 5499 (.pointer (some ⟨l,0,none⟩))=μ3:=by
     funext m;by_cases e:m=5499
     ·subst e;rw[Bb,hpinq 5499 ⟨by omega,by omega⟩,hμ]
     ·rw[B8 _ _ e]
    rw[hup3]at hbind;refine⟨_,rfl,_,_,M4,μ3,⟨rfl,rfl⟩,hbind,AG (.bool _),⟨hMle,fun b hb=>?_⟩,?_,fun nm jo hmv=>?_⟩
    ·exact Mem.same_trans (hm.old b (.inl hb)) (Mem.same_trans (hm3.old b (qq.p b (.inl hb))) (m4.old b (hS3 b hb)))
    ·have hnsl:¬(AH μr ((5499,.lp l q L)::mj) wr).p l:=jd.low;have k1:Keeps (AH μr ((5499,.lp l q L)::mj) wr).p wr w':=zH.mono fun b hb=>.inl hb
     have put:∀{A B:World} {o:Obj},Keeps (AH μr ((5499,.lp l q L)::mj) wr).p A B->Keeps (AH μr ((5499,.lp l q L)::mj) wr).p A (B.putObj l o):=fun h=>
      ⟨h.os,h.tape,h.output,by rw[World.putObj_size];exact h.size,fun k hk=>by rw[World.putObj_heap_other (k:=k) (r:=l) (fun e=>hnsl (by rw[e]at hk;exact hk))];exact h.block k hk,h.drawn⟩
     have k2:Keeps (AH μr ((5499,.lp l q L)::mj) wr).p wr w2:=by rw[<-hw2];exact put k1
     exact put (k2.trans (hkeep3.mono fun b hb=>qq.p b (.inl hb)))
    ·by_cases e:nm=5499
     ·subst e;exact hpinq 5499 ⟨by omega,by omega⟩
     ·have:names mj nm:=by simp only[names,Ac,if_neg (Ne.symm e)]at jo;exact jo
      exact(bc kc nm this).elim (hpinq nm) (fun hc=>(hmv hc).elim)
   cases jm with
   |none=>exact⟨_,_,wv,fin⟩
   |ret=>exact⟨_,_,wv,fin⟩
   |exit id=>exact⟨_,_,wv,fin⟩
  |_=>exact hk.elim
theorem bg{k:Nat}{q:LQ}{L:List D}(h:Pu mv l=true)(hL:rQ l L=true)(h99:JP l=true):Pu mv ((5499,.lp k q L)::l)=true:=by
 have hc:=Ep h;simp only[Pu,Bool.and_eq_true,List.map_cons,List.all_cons]at h⊢;refine⟨⟨⟨by rw[Bool.or_eq_true];left;decide,h.1.1⟩,?_⟩,?_⟩
 rotate_left
 ·grind[Dq,BX,names,Mk]
 grind[Ps,FW,Pq,Blk.nms,rQ,ED,DZ]
theorem Uo{f:List (Nat×Nat)}:∀{L:List D} {i:Nat} {e:Env},GA f i L e->∀j (h:j<L.length),L[j]=.any\/Af e (i+j)=If (Ih f) L[j]
 |[],i,e,_,j,h=>by simp at h
 |x::xs,i,e,hs,0,h=>hs.1
 |x::xs,i,e,hs,j+1,h=>by have:=Uo hs.2 j (by simpa using h);grind
theorem bj{g':Nat->Nat}(hg:∀m,g' (g m)=m){l:List (Nat×Blk)}(h:Ps l l=true):∀nm b,Ac (Ig g l) nm=some b->∀m∈b.nms,names (Ig g l) m:=fun nm b hb m hm=>by obtain⟨o,b0,h1,rfl,rfl⟩:=P6 (fun a b _ _ e=>by rw[<-hg a,e,hg]) hb;obtain⟨p,hp,rfl⟩:=aZ hm;exact E9 (Hu h o b0 h1 p hp)
theorem bk(h:Rel GL n S M μ st a w){g:Operand}{ps:Array Tmp}{x y:Code}{og:O}{ix iy:IR}{K:Exit->St->Prop}(hg:cO GL g=some og)(zG:∀p∈ps.toList,p<n)
  (hx:∀(l:Nat) (S:Sh) (K:Exit->St->Prop) (M:Mem) (μ:Place) (st:St) (a:Act) (w:World),Rel GL n S M μ st a w->W P GL ix K st->x.wpIn (FR (some l)) 0 P (AZ GL n S M w K) a w)
  (hy:∀(l:Nat) (S:Sh) (K:Exit->St->Prop) (M:Mem) (μ:Place) (st:St) (a:Act) (w:World),Rel GL n S M μ st a w->W P GL iy K st->y.wpIn (FR (some l)) 0 P (AZ GL n S M w K) a w)
  (hs:wK P GL n og ps.toList (W P GL ix) (W P GL iy) K st):(Code.rangeFunc g ps x y).wpIn (FR none) 0 P (AZ GL n S M w K) a w:=by
 obtain⟨gf,caps,ι,i0,Nx,Fin,e1,ku,hseq,f,L,m,mv,jm,hj0,hV,hm,hLn,hsubL,hf99,ky,hrnd,hend0⟩:=hs;have hgy:Nat.blt gf 1000000000=true:=by unfold B9 at ku;rw[Bool.and_eq_true]at ku;exact ku.1
 have hro:=AB h hg;rw[e1]at hro;obtain⟨va,vb,hev,_,ra,rb⟩:=(AK hro).fn_inv;have hva:va=#[]:=by have:=ra.1;simpa using this
 subst hva;rw[show EA gf=Fn.func gf from if_pos hgy]at hev;refine wpIn_rangeFunc ?_;intro fn _;rw[aR]
 let D:=w.heap.size
 let l:=w.heap.size+1
 let q:LQ:={fn,ps,assign:=x,body:=y,defers:=w.heap.size,jump:=none}
 let c:=Ig (Ih f) (m i0)
 generalize hw1:w.alloc (.deferred (some []))=w1;generalize hw2:w1.alloc (.loop (q.lp a.tmps))=w2;have hsz1:w1.heap.size=w.heap.size+1:=by rw[<-hw1,KE]
 have hsz2:w2.heap.size=w.heap.size+2:=by rw[<-hw2,KE,hsz1]
 refine⟨l,[rX D],w2,{target:=.fn (.func gf) vb,args:=#[.func (.yield l) #[] #[]]},w2,gf,#[.func (.yield l) #[] #[]]++vb,w2,?_,?_,?_,?_,?_,?_⟩
 ·rw[<-hw2,<-hw1];exact run_enterLoop_outer _ _ _ _ _
 ·simp only[resolve,hev];simp[go_sem]
 ·intro _ _;trivial
 ·simp[invoke,go_sem,IL ku]
 ·intro hh;simp[Fence.wide]at hh
 have hcl0:Ps (m i0) (m i0)=true:=Ep (hm i0).1;have hcc:∀nm b,Ac c nm=some b->∀p∈b.nms,names c p:=bj (Cq f) hcl0;have hsubg:=IM ky
 let S1:Sh:=⟨fun b=>S.p b\/b=D,S.q,rX D::S.ds⟩
 let a1:Act:={a with defers:=rX D::a.defers}
 have h1:Rel GL n S1 M μ st a1 w1:=by
  refine{toStoOk:=?_,small:=h.small,pin:=h.pin,defers:=?_,size:=h.size,env:=h.env,glob:=h.glob}
  ·rw[<-hw1];refine(h.toStoOk.alloc _).reS (fun k b hk hb hS=>?_) (fun b hb=>?_)
   ·rcases hS with hS|rfl
    ·exact hS
    ·have:=(h.toStoOk.lt hk hb).1;simp only[D]at this;omega
   ·rw[KE];rcases hb with hb|rfl
    ·have:=h.low b hb;omega
    ·simp only[D];omega
  ·show rX D::a.defers=rX D::S.ds;rw[h.defers]
 have hA:StoOk (AH μ c w1).p M μ c w1:=h1.toStoOk.hand hsubg hcc;have hA2:StoOk (AH μ c w1).p M μ c w2:=by rw[<-hw2];exact hA.alloc _
 let μ0:Place:=fun k=>μ (Ih f k)
 have hback:Ig (LL f) c=m i0:=FN (Cq f) (m i0);have hB:StoOk (AH μ c w1).p M μ0 (m i0) w2:=by
  have:=hA2.mp (f:=LL f) (μ':=μ0) (S':=(AH μ c w1).p) (fun a b _ _ e=>by rw[<-Hy f a,e,Hy]) (fun k _=>by show μ (Ih f (LL f k))=μ k;rw[Hy]) (fun _=>Iff.rfl)
  rwa [hback]at this
 have h5:Ac (m i0) 5499=none:=Mk (hm i0).2.1
 let X:Value:=.pointer (some ⟨l,0,none⟩)
 have hnsl:¬(AH μ c w1).p l:=fun hh=>by have:=hh.1;rw[hsz1]at this;simp only[l]at this;omega
 have hC:StoOk (AH μ c w1).p M (Bj μ0 5499 X) ((5499,.lp l q L)::m i0) w2:=by
  refine hB.bind h5 ⟨a.tmps,Bb _ _ _,⟨hnsl,?_,Mem.unk_new h.sub (by simp only[l];omega)⟩,by rw[h.size,hLn],fun j ha hb=>?_⟩ fun k b hk hb=>?_
  ·rw[<-hw2];have:=E1 w1 (.loop (q.lp a.tmps));rw[hsz1]at this;exact this
  ·rcases Uo hsubL j ha with e|e
   ·rw[e];trivial
   ·have hr:=h.env j;rw[Nat.zero_add]at e;rw[e]at hr;have jv:a.tmps.getD j Go.undef=a.tmps[j]:=by simp[hb]
    rw[jv]at hr;have hr2:Az M μ (names c) (If (Ih f) L[j]) a.tmps[j]:=hr.mono' (Mem.le_refl _) fun p hp _=>by obtain⟨p0,hp0,rfl⟩:=N3 hp;have hL:=(hm i0).2.2.1;simp only[rQ,List.all_eq_true,Bool.and_eq_true]at hL;exact⟨E9 (DZ (hL _ (List.getElem_mem ha)).1 p0 hp0),rfl⟩
    have:=hr2.mp (f:=LL f) (N':=names ((5499,.lp l q L)::m i0)) (μ':=Bj μ0 5499 X) (fun p hp=>by
     have:=E9 (f:=LL f) hp;rw[hback]at this;exact ED _ this) (fun p hp=>by
     have:=E9 (f:=LL f) hp;rw[hback]at this;rw[B8 _ _ (fun e=>by rw[e]at this;simp[names,h5]at this)];show μ (Ih f (LL f p))=μ p;rw[Hy])
    rw[El (Cq f)]at this;exact this
  ·have:=(hB.lt hk hb).2.1;simp only[X,An];intro e;cases e;have qp:=hA.lt (m:=Ih f k) (by have:=E9 (f:=Ih f) hk;exact this) (k:=l) hb;have:=qp.1;rw[hsz1]at this;simp only[l]at this;omega
 have hP:(AH (Bj μ0 5499 X) ((5499,.lp l q L)::m i0) w2).p=(AH μ c w1).p:=by
  funext b;refine propext ⟨fun hb=>?_,fun hb=>?_⟩
  ·have wn:b≠l:=fun e=>hb.2 5499 DG (by rw[Bb,e];rfl)
   refine⟨?_,fun k hk e=>?_⟩
   ·have:=hb.1;rw[hsz2]at this;rw[hsz1];simp only[l]at wn;omega
   ·have jn:=E9 (f:=LL f) hk;rw[hback]at jn;refine hb.2 (LL f k) (ED _ jn) ?_;rw[B8 _ _ (fun e=>by rw[e]at jn;simp[names,h5]at jn)];show An (μ (Ih f (LL f k)))=some b;rw[Hy];exact e
  ·refine⟨?_,fun k hk e=>?_⟩
   ·have:=hb.1;rw[hsz1]at this;rw[hsz2];omega
   ·by_cases ek:k=5499
    ·subst ek;rw[Bb]at e;simp only[X,An]at e;cases e;exact hnsl hb
    ·rw[B8 _ _ ek]at e;have jn:names (m i0) k:=by simp only[names,Ac,if_neg (Ne.symm ek)]at hk;exact hk
     exact hb.2 (Ih f k) (E9 jn) e
 let qj:ι->LQ:=fun i=>{q with jump:=(jm i).code}
 let m':ι->List (Nat×Blk):=fun i=>(5499,.lp l (qj i) L)::m i
 have hgo0:∀i,(!(jm i).go)=false->jm i=.none:=fun i h=>by
  cases hj:jm i with
  |none=>rfl
  |ret=>rw[hj]at h;cases h
  |exit id=>rw[hj]at h;cases h
 have hqn:∀i,jm i=.none->qj i=q:=fun i h=>by simp only[qj,h];rfl
 have hMC:=hseq (1000000000+l) m' mv (fun i=>!(jm i).go) hV (by show(!(jm i0).go)=false;rw[hj0];rfl) (fun i=>⟨bg (hm i).1 (hm i).2.2.1 (hm i).2.1,by
   show 5499::(m i).map (·.1)=5499::(m i0).map (·.1);rw[(hm i).2.2.2]⟩) (fun i xx i' hx' hi=>by
   have jr:=hgo0 i hi;obtain⟨r1,r2⟩:=hrnd i xx i' hx' jr;have:=bf (P:=P) (GL:=GL) (n:=n) (q:=q) (l:=l) (mv:=mv) (ix:=ix) (iy:=iy) h.small rfl (hx l) (hy l) (hm i).1 (hm i').1 (hm i).2.1 (hm i').2.1 (hm i).2.2.1 (hm i').2.2.1 hLn r1 zG r2;have e2:m' i=(5499,.lp l q L)::m i:=by simp only[m',hqn i jr]
   rw[e2];refine this.mono ?_;rintro r s ⟨rfl,rfl⟩;exact⟨by show Dl.D.i (.bool (jm i').go)=Dl.D.i (.bool (!!(jm i').go));rw[Bool.not_not],rfl⟩)
 have hm'0:m' i0=(5499,.lp l q L)::m i0:=by simp only[m',hqn i0 hj0]
 rw[hm'0]at hMC;have ke:CL M (Bj μ0 5499 X) (names ((5499,.lp l q L)::m i0)) (.i (.fn (1000000000+l) [] [])::caps.map .i) (#[Value.func (.yield l) #[] #[]]++vb).toList:=by
  have e:EA (1000000000+l)=.yield l:=by unfold EA;rw[if_neg (by rw[Un];simp),Nat.add_sub_cancel_left]
  have hy0:Az M (Bj μ0 5499 X) (names ((5499,.lp l q L)::m i0)) (.i (.fn (1000000000+l) [] [])) (.func (.yield l) #[] #[]):=by rw[<-e];exact AG (Rep.fn _ [] [] #[] #[] (.inr rfl) rfl rfl (fun j hj=>by simp at hj) (fun j hj=>by simp at hj))
  have hb:=PJ (μ:=Bj μ0 5499 X) (N:=names ((5499,.lp l q L)::m i0)) rb;have:=L0 (xs:=[.i (.fn (1000000000+l) [] [])]) (vs:=[Value.func (.yield l) #[] #[]]) ⟨rfl,fun j ha hb=>by
   have:j=0:=by simpa using ha
   subst this;exact hy0⟩ hb
  simpa using this
 refine callsIn_wide.2 (((hMC M _ w2 _ (by rw[hP];exact hC) h.glob ke).calls ku).mono ?_);rintro e w3 ⟨v,rfl,r,sto',M',μ',⟨rfl,N,qc,rfl⟩,k1,_,k3,k4,k5⟩;obtain⟨hfr,wq,xe,hK⟩:=hend0 N (qc.imp (fun q e=>by have q2:(!(jm N).go)=true:=q;rw[e]at q2;cases q2) id);have hm'N:m' N=(5499,.lp l (qj N) L)::m N:=rfl;rw[hm'N]at k1;rw[hP]at k1 k3 k4;obtain⟨ts,hμ',hown',_,_⟩:=k1.blk 5499 (.lp l (qj N) L) (by simp[Ac]);have hqN:(qj N).jump=(jm N).code:=rfl;have hnb:(((qj N).lp ts).state)≠.busy:=by show(if(qj N).jump.isNone=true then LoopState.ready else .done)≠.busy;split<;>simp
 have wv:=run_endLoop (P:=P) hown'.heap hnb;refine⟨(jm N).code,_,by rw[wv];show Result.ok (qj N).jump _=_;rw[hqN],?_⟩;generalize hw4:w3.putObj l (.loop {(qj N).lp ts with state:=.exhausted})=w4;have h5N:Ac (m N) 5499=none:=Mk (hm N).2.1;have hclN:Ps (m N) (m N)=true:=Ep (hm N).1;have hupN:∀k b,Ac (m N) k=some b->Ac ((5499,.lp l (qj N) L)::m N) k=some b:=fun k b hb=>by simp only[Ac];rw[if_neg (fun e=>by subst e;rw[h5N]at hb;cases hb)];exact hb
 have hs4:StoOk (AH μ c w1).p M' μ' (m N) w4:=by
  rw[<-hw4];refine(k1.part hupN fun nm b hb=>Hu hclN nm b hb).putN hown'.unk fun k hk e=>?_
  refine k1.sep k 5499 l l (fun e=>by subst e;simp[names,h5N]at hk) ?_ (DG) e (by rw[hμ'];rfl) rfl;obtain⟨b,hb⟩:=Option.isSome_iff_exists.1 hk;simp[names,hupN k b hb]
 let μ3:Place:=fun k=>μ' (LL f k)
 have hs5:StoOk (AH μ c w1).p M' μ3 (Ig (Ih f) (m N)) w4:=
  hs4.mp (f:=Ih f) (fun a b _ _ e=>by rw[<-Cq f a,e,Cq]) (fun k _=>by show μ' (LL f (Ih f k))=μ' k;rw[Cq]) (fun _=>Iff.rfl)
 have zH:Keeps (AH μ c w1).p w1 w4:=by
  have q1:Keeps (AH μ c w1).p w1 w2:=by rw[<-hw2];exact EC _ _ fun k hk=>hk.1
  have q2:=q1.trans k4;rw[<-hw4];exact⟨q2.os,q2.tape,q2.output,by rw[World.putObj_size];exact q2.size,fun k hk=>by rw[World.putObj_heap_other (k:=k) (r:=l) (fun e=>hnsl (by rw[e]at hk;exact hk))];exact q2.block k hk,q2.drawn⟩
 obtain⟨μ2,hRel,hME,hKe,_⟩:=h1.afterCall (mv:=mv.map (Ih f)) (d:=999) (by omega) hsubg hs5 k3 zH (fun nm jo hmv=>by
   have jn:=E9 (f:=LL f) jo;rw[hback]at jn;have h99:LL f nm≠5499:=fun e=>by rw[e]at jn;simp[names,h5]at jn
   have:=k5 (LL f nm) (ED _ jn) (fun hc=>hmv (List.mem_map.2 ⟨_,hc,Hy f nm⟩));show μ' (LL f nm)=μ nm;rw[this,B8 _ _ h99];show μ (Ih f (LL f nm))=μ nm;rw[Hy])
  (fun nm jo=>hfr nm (BX.2 jo)) (fun nm jo hp=>by rw[List.all_eq_true]at xe;have:=xe nm jo;unfold pinned at hp;simp only[Bool.or_eq_true,Nat.blt_eq,Nat.ble_eq]at this;omega) (fun nm q1 q2=>wq nm (BX.2 q1) q2)
 have j9:CU GL n S M w (C0 st c (Ig (Ih f) (m N)) (mv.map (Ih f)) 999) a1 w4:=by
  refine⟨S1,⟨fun b hb=>.inl hb,rfl,[D],rfl,by simp,fun b hb=>?_⟩,M',μ2,hRel,hME.less fun b hb=>.inl hb,?_⟩
  ·have:b=D:=by simpa using hb
   subst this;refine⟨.inr rfl,fun hh=>?_,?_⟩
   ·have:=h.low _ hh;simp only[D]at this;omega
   ·rw[hKe.block D (.inr rfl),<-hw1];exact E1 w _
  ·have q1:Keeps S.p w w1:=by rw[<-hw1];exact EC _ _ h.low
   exact q1.trans (hKe.mono fun b hb=>.inl hb)
 generalize jm N=j at hK;cases j with
 |none=>exact⟨_,hK,j9⟩
 |ret=>exact wpIn_ret ⟨_,hK,j9⟩
 |exit id=>exact wpIn_exit ⟨_,hK,j9⟩
end
end Go.Dl
