/-
  Lemmas, no statement.
-/
import Derived.Test.YtojgbkiejjingaaGreatDoorK16
set_option linter.all false
namespace Go.Dl
open Go Go.RowKit
section
variable {P:Program}{GL:List (Nat×List I)}{n:Nat}{S:Sh}{M:Mem}{μ:Place}{st:St}{a:Act}{w:World}{K:St->Prop}{Q:Exit->Act->World->Prop}{o:Oper}{d:Nat}
theorem Z4(h:Rel GL n S M μ st a w){t:TypeId}{r:Option Operand}{ls:List LK}(ho:o.op=.makeMap t r)(hr:r=none)(hd:o.dst=some d)(hn:d<n)(hs:step P GL (.mkgm d ls) st K):o.wpX P a w (Ar GL n S M w K) Q:=by
 subst hr;simp only[step,IB]at hs;split at hs
 ·rename_i jo;have h0:Rel GL n S M μ st a (w.alloc (.map #[] 0)):=h.of (h.toStoOk.alloc _) (Mem.le_refl _) fun _ _ hv=>hv
  have h2:Rel GL n S M (Bj μ d (.map (some w.heap.size))) (st.bind d (.gmap ls 0 [])) a (w.alloc (.map #[] 0)):=by
   refine h0.bindName jo hn ⟨w.heap.size,#[],Bb _ _ _,⟨fun hS=>by have:=h.low _ hS;omega,E1 w _,Mem.unk_new h.sub (Nat.le_refl _)⟩,⟨rfl,fun j hj=>by simp at hj⟩,⟨by simp,by simp⟩,by simp⟩ fun m k hm hk=>?_
   have:=(h.toStoOk.lt hm hk).1;grind[An]
  refine BK (v:=.map (some w.heap.size)) (w':=w.alloc (.map #[] 0)) ?_ ⟨_,hs,M,_,by rw[hd];exact h2.put hn ⟨DG,w.heap.size,Bb _ _ _,rfl⟩,MExt.refl _ _,EC w _ h.low⟩;simp[execOp,ho,Instr.makeMap]
 ·exact hs.elim
theorem PY{N:Nat->Prop}{c1:Cp}{x:I}{v1 v2:Value}(h1:BJ M μ N c1 v1)(h2:Rep M x v2):Az M μ N (.tup [c1,.i x]) (.tuple #[v1,v2]):=
 ⟨#[v1,v2],rfl,rfl,fun j a b=>by
  match j with
  |0=>exact h1
  |1=>exact h2
  |j+2=>simp at a;omega⟩
theorem Ti(es:List (I×Nat×D))(q:I):Hh es q=Dd es q:=rfl
theorem Z5(h:Rel GL n S M μ st a w){t k e:TypeId}{x ix:Operand}{ox oi:O}{ok:Bool}{ls:List LK}{i:TypeInfo}{z:Value}{zi:I}(ho:o.op=.lookup t x ix ok)(hd:o.dst=some d)(hn:d<n)(hx:cO GL x=some ox)(wo:cO GL ix=some oi)
  (hu:P.underlying t=some (.map k e))(hk:Dc P k=some ls)(hi:P.info? e=some i)(hz:i.zero=some z)(hc:Cb z=some zi)(hs:step P GL (.lookg d ox oi zi ok ls) st K):o.wpX P a w (Ar GL n S M w K) Q:=by
 have hr:=AB h hx;have qf:=AB h wo;have fall:DY (AL GL st ox) (AL GL st oi) zi ok ls d st K->o.wpX P a w (Ar GL n S M w K) Q:=fun hs=>Tb h ho hd hn hx wo hu hk hi hz hc (by simpa only[step]using hs)
 simp only[step,Hi]at hs;split at hs
 ·rename_i nm q e1 e2;rw[e1]at hr;rw[e2]at qf;obtain⟨hf,hs⟩:=hs;have qf:=AK qf;obtain⟨hN,b,hμ,hX⟩:=hr;unfold Gs at hs;split at hs
  ·rename_i ls' clk es hg;obtain⟨rfl,hs⟩:=hs;obtain⟨b',xs,hμ',jd,he,hbb,qu⟩:=h.blk nm _ hg;rw[hμ]at hμ';cases hμ';have hck:=NI (P:=P) (w:=w) hk qf hf;have we:=NJ (P:=P) (w:=w) hk qf hf he.keys qu;have fin:∀(V:Value) (X:D),(Instr.lookup t (a.eval x) (a.eval ix) ok).run P w=.ok V w->Az M μ (names st.sto) X V->K (st.put d X)->o.wpX P a w (Ar GL n S M w K) Q:=fun V X jg hv hK=>
    A2 h hd hn (by simp only[execOp,ho,Sem.run_bind,jg,Result.andThen_ok,Sem.run_pure]) hv hK
   simp only[IC,Ti]at hs;cases hm:Dd es q with
   |none=>
    rw[hm]at we hs;simp only[Ds]at hs;refine fin (if ok then .tuple #[z,.bool false]else z) _ ?_ ?_ hs
    ·simp only[Option.bind_none]at we;rw[hX];simp[Instr.lookup,run_underlying hu,MapKept.run_getObj_map jd.heap,hck,we,zeroValue,typeInfo,hi,hz]
    ·cases ok with
     |true=>exact AG (Rep.tup' (Ai.cons (Eg hc) (Ai.cons (.bool _) (Ai.nil M))))
     |false=>exact AG (Eg hc)
   |some j=>
    have hj:=NL hm;have jt:j<xs.size:=by have:=he.1;simp at this;omega
    rw[hm]at we hs;simp only[List.getElem?_eq_getElem hj,Option.map_some,Ds]at hs;have hv:=(he.2 j hj (by simpa using jt)).2.2;have jg:(Instr.lookup t (a.eval x) (a.eval ix) ok).run P w=.ok (if ok then .tuple #[xs.toList[j].val,.bool true]else xs.toList[j].val) w:=by simp only[Option.bind_some,List.getElem?_eq_getElem (show j<xs.toList.length by simpa using jt),Option.map_some]at we;rw[hX];simp[Instr.lookup,run_underlying hu,MapKept.run_getObj_map jd.heap,hck,we]
    cases ok with
    |true=>
     simp only[if_true]at hs jg;split at hs
     ·rename_i c hcp;exact fin _ _ jg (PY (PC hv hcp) (Rep.bool true)) hs
     ·exact hs.elim
    |false=>simp only[Bool.false_eq_true,if_false]at hs jg;exact fin _ _ jg hv hs
  ·refine fall ?_;rw[e1,e2];exact⟨hf,hs⟩
 ·exact fall hs
theorem Z6{z:Value}(h:Cb z=some (.sl [])):z=.slice none 0 0:=by
 unfold Cb at h;split at h
 ·simp only[Option.map_eq_some_iff]at h;obtain⟨_,_,h⟩:=h;cases h
 ·unfold Ht at h;split at h<;>cases h;rfl
theorem Z7(d clk:Nat):¬pinned (Aq d clk):=by grind[pinned,Aq]
theorem Z8(h:Rel GL n S M μ st a w){t k e:TypeId}{x ix:Operand}{ox oi:O}{ls:List LK}{i:TypeInfo}{z:Value}{zi:I}{ee kk:Nat}(ho:o.op=.mapEntry t x ix)(hd:o.dst=some d)(hn:d<n)(hx:cO GL x=some ox)(wo:cO GL ix=some oi)
  (hu:P.underlying t=some (.map k e))(hk:Dc P k=some ls)(hi:P.info? e=some i)(hz:i.zero=some z)(hc:Cb z=some zi)(hs:step P GL (.ment d ox oi zi ls ee kk) st K):o.wpX P a w (Ar GL n S M w K) Q:=by
 have hr:=AB h hx;have qf:=AB h wo;simp only[step,Hm]at hs;split at hs
 ·rename_i nm q e1 e2;obtain⟨hf,hs⟩:=hs;rw[e1]at hr;rw[e2]at qf;have qf:=AK qf;obtain⟨hN,b,hμ,hX⟩:=hr;unfold Hl at hs;split at hs
  ·rename_i ls' clk es hg;obtain⟨rfl,hs⟩:=hs;obtain⟨b',xs,hμ',jd,he,hbb,qu⟩:=h.blk nm _ hg;rw[hμ]at hμ';cases hμ';have hck:=NI (P:=P) (w:=w) hk qf hf false;have we:=NJ (P:=P) (w:=w) hk qf hf he.keys qu;rw[Ti]at hs;cases hj:Dd es q with
   |none=>
    rw[hj]at hs we;simp only at hs;unfold Hj at hs;split at hs
    ·rename_i hfr;have hzv:=Z6 hc;subst hzv;have hb:=h.bindEmptyN hfr (Z7 d clk) none ee kk;have vq:=L7 w b (.map (xs.push {key:=a.eval ix,val:=.slice none 0 0,born:=clk}) (clk+1)) jd.low;have jh:nm≠Aq d clk:=fun e=>by grind
     have hμ2:Bj μ (Aq d clk) (.slice none 0 0) nm=.map (some b):=by grind[B8]
     have hg2:Ac (st.bind (Aq d clk) (.rows ee kk [])).sto nm=some (.gmap ls' clk es):=by grind[St.bind,Ac]
     have he2:Gk M (Bj μ (Aq d clk) (.slice none 0 0)) (names ((Aq d clk,.rows ee kk [])::st.sto)) xs.toList es:=he.mono (Mem.le_refl _) fun e _ m _ hm=>⟨ED m hm,B8 _ _ fun e=>by subst e;simp[names,hfr]at hm⟩
     have hz0:Bo (Bj μ (Aq d clk) (.slice none 0 0)) (names ((Aq d clk,.rows ee kk [])::st.sto)) (.sl (Aq d clk) kk 0 0) (.slice none 0 0):=⟨DG,by rw[Bb];exact JH _ _⟩;have jx:Rel GL n S M (Bj μ (Aq d clk) (.slice none 0 0)) ((st.bind (Aq d clk) (.rows ee kk [])).setB nm (.gmap ls' (clk+1) (es++[(q,clk,.ref (.sl (Aq d clk) kk 0 0))]))) a (putObj w b (.map (xs.push {key:=a.eval ix,val:=.slice none 0 0,born:=clk}) (clk+1))):=by
      refine hb.setBlk (blk':=.gmap ls' (clk+1) (es++[(q,clk,.ref (.sl (Aq d clk) kk 0 0))])) hg2 (by rw[hμ2];rfl) vq.size (fun k hk _=>KM hk) ⟨b,_,hμ2,⟨jd.low,L6 jd.heap,jd.unk⟩,?_,Tg hbb _ _,fun e he=>(List.mem_append.1 he).elim (qu e) (fun q=>by simp at q;subst q;exact hf)⟩;rw[Cm];simp only[Array.toList_push];refine⟨by simp[he2.1],fun j h1 h2=>?_⟩;by_cases vw:j<es.length
      ·rw[List.getElem_append_left vw,List.getElem_append_left (by rw[he2.1];exact vw)];exact he2.2 j vw _
      ·obtain rfl:j=es.length:=by grind
       rw[List.getElem_append_right (by omega),List.getElem_append_right (by rw[he2.1];omega)];have hel:=he2.1;simp only[Nat.sub_self,List.getElem_cons_zero,hel];exact⟨qf,trivial,hz0⟩
     refine BK (v:=.tuple #[.slice none 0 0,goInt clk]) (w':=putObj w b (.map (xs.push {key:=a.eval ix,val:=.slice none 0 0,born:=clk}) (clk+1))) ?_ ⟨_,hs,M,_,by
      rw[hd];refine jx.put hn (PY ?_ (Rep.int .i64 (clk:Int)));simp only[St.setB,St.bind];rw[Cm];exact hz0,MExt.refl _ _,vq⟩
     simp only[Option.bind_none]at we;simp[execOp,ho,Instr.mapEntry,run_underlying hu,hX,MapKept.run_getObj_map jd.heap,hck,we,zeroValue,typeInfo,hi,hz,MapKept.run_setObj_map _ jd.heap,putObj]
    ·exact hs.elim
   |some j=>
    have vw:=NL hj;have hjx:j<xs.size:=by have:=he.1;simp at this;omega
    rw[hj]at hs we;simp only[List.getElem?_eq_getElem vw,Hk]at hs;have hj2:=he.2 j vw (by simpa using hjx);have zT:=Te hj2.1 qf (qu _ (List.getElem_mem vw)) hf (Tf hj vw);split at hs
    ·rename_i c hcp;have vq:=L7 w b (.map (xs.modify j fun e=>{e with key:=a.eval ix}) clk) jd.low;have jx:Rel GL n S M μ (st.setB nm (.gmap ls' clk (es.modify j fun e=>(q,e.2)))) a (putObj w b (.map (xs.modify j fun e=>{e with key:=a.eval ix}) clk)):=by
      refine h.setBlk (blk':=.gmap ls' clk (es.modify j fun e=>(q,e.2))) hg (by rw[hμ];rfl) vq.size (fun k hk _=>KM hk) ⟨b,_,hμ,⟨jd.low,L6 jd.heap,jd.unk⟩,?_,PW hbb _ _ (fun _=>rfl),fun e he=>?_⟩
      ·rw[Cm];refine⟨by simp;simpa using he.1,fun i h1 h2=>?_⟩;have vu:i<es.length:=by grind
       have jz:i<xs.size:=by grind
       have:=he.2 i vu (by simpa using jz);grind
      ·obtain⟨i,vu,rfl⟩:=List.getElem_of_mem he;grind
     refine BK (v:=.tuple #[xs[j].val,goInt xs[j].born]) (w':=putObj w b (.map (xs.modify j fun e=>{e with key:=a.eval ix}) clk)) ?_ ⟨_,hs,M,μ,by
      rw[hd];have e9:xs[j].born=es[j].2.1:=by grind
      rw[show goInt xs[j].born=Value.int .i64 (es[j].2.1:Int) by rw[e9];rfl];refine jx.put hn (PY ?_ (Rep.int .i64 _));have:=PC hj2.2.2 hcp;simp only[St.setB];rw[Cm];simpa using this,MExt.refl _ _,vq⟩
     simp only[Option.bind_some,Array.getElem?_toList,Array.getElem?_eq_getElem hjx,Option.map_some]at we;simp only[Array.getElem_toList]at zT;simp[execOp,ho,Instr.mapEntry,run_underlying hu,hX,MapKept.run_getObj_map jd.heap,hck,we,Instr.keyThatStays,hjx,zT,MapKept.run_setObj_map _ jd.heap,putObj]
    ·exact hs.elim
  ·exact hs.elim
 ·exact hs.elim
theorem Z9(h:Rel GL n S M μ st a w){t:TypeId}{x s y:Operand}{ox os oy:O}(ho:o.op=.entryStore t x s y)(hd:o.dst=none)(hx:cO GL x=some ox)(hsx:cO GL s=some os)(hy:cO GL y=some oy)
  (hs:step P GL (.ests ox os oy) st K):o.wpX P a w (Ar GL n S M w K) Q:=by
 have hr:=AB h hx;have hrs:=AB h hsx;have zD:=AB h hy;simp only[step,ID]at hs;split at hs
 ·rename_i nm kk sn e1 e2;rw[e1]at hr;rw[e2]at hrs;have hsv:=CC (AK hrs);obtain⟨hN,b,hμ,hX⟩:=hr;unfold Hn at hs;split at hs
  ·rename_i ls clk es hg;obtain⟨hany,hs⟩:=hs;obtain⟨b',xs,hμ',jd,he,hbb,qu⟩:=h.blk nm _ hg;rw[hμ]at hμ';cases hμ';rw[List.any_eq_true]at hany;obtain⟨e0,hm0,hb0⟩:=hany;obtain⟨j,hj,rfl⟩:=List.getElem_of_mem hm0;have hjx:j<xs.size:=by have:=he.1;simp at this;omega
   have hbj:xs[j].born=es[j].2.1:=by have:=(he.2 j hj (by simpa using hjx)).2.1;rw[Array.getElem_toList]at this;exact this
   have hsn:sn=(es[j].2.1:Int):=(beq_iff_eq.1 hb0).symm;have huniq:∀i (hi:i<xs.size),xs[i].born=xs[j].born->i=j:=fun i hi e=>by
    have hnd:=hbb.1;have ja:i<(xs.toList.map (·.born)).length:=by grind
    have jt:j<(xs.toList.map (·.born)).length:=by grind
    rw[List.nodup_iff_pairwise_ne,List.pairwise_iff_getElem]at hnd;grind
   have hfi:xs.findIdx? (fun e=>(e.born:Int)==sn)=some j:=by rw[Array.findIdx?_eq_some_iff_getElem];grind
   have vq:=L7 w b (.map (xs.modify j fun e=>{e with val:=a.eval y}) clk) jd.low;have jx:Rel GL n S M μ (st.setB nm (.gmap ls clk (es.map fun e=>if((e.2.1:Int)==sn)=true then(e.1,e.2.1,AL GL st oy)else e))) a (putObj w b (.map (xs.modify j fun e=>{e with val:=a.eval y}) clk)):=by
    refine h.setBlk (blk':=.gmap ls clk (es.map fun e=>if((e.2.1:Int)==sn)=true then(e.1,e.2.1,AL GL st oy)else e)) hg (by rw[hμ];rfl) vq.size (fun k hk _=>KM hk) ⟨b,_,hμ,⟨jd.low,L6 jd.heap,jd.unk⟩,?_,PW hbb _ _ (fun _=>rfl),fun e he=>?_⟩
    ·rw[Cm];refine⟨by simp;simpa using he.1,fun i h1 h2=>?_⟩;have vu:i<es.length:=by grind
     have jz:i<xs.size:=by grind
     have:=he.2 i vu (by simpa using jz);grind
    all_goals grind
   refine LY (w':=putObj w b (.map (xs.modify j fun e=>{e with val:=a.eval y}) clk)) ?_ ⟨_,hs,M,μ,by rw[hd];exact jx,MExt.refl _ _,vq⟩;simp[execOp,ho,Instr.entryStore,hX,hsv,asInt,asIntOf,MapKept.run_getObj_map jd.heap,hfi,MapKept.run_setObj_map _ jd.heap,putObj]
  ·exact hs.elim
 ·exact hs.elim
theorem ab(h:Rel GL n S M μ st a w){t e:TypeId}{x:Operand}{ox:O}(ho:o.op=.call {callee:=.builtin .cap,args:=#[x],argTypes:=#[t]})(hd:o.dst=some d)(hn:d<n)
  (hx:cO GL x=some ox)(hu:P.underlying t=some (.slice e))(hs:step P GL (.cap d ox) st K):o.wpX P a w (Ar GL n S M w K) Q:=by
 have hr:=AB h hx;simp only[step,IE]at hs;split at hs
 ·rename_i nm k0 lo hi e1;rw[e1]at hr;obtain⟨hN,aa,cap,hμ,qz,kd,vj⟩:=hr;have hv:∃A l,a.eval x=.slice A l (cap-lo):=by
   rcases vj with⟨rfl,a',hv⟩|⟨b,oo,rfl,hv⟩
   all_goals grind
  obtain⟨A,l,hv⟩:=hv;have jg:(execOp a.eval o).run P w=.ok (.value (.int .i64 ((cap-lo:Nat):Int))) w:=by simp only[execOp,ho,resolve,Sem.run_bind,Sem.run_pure,Result.andThen_ok,invoke,builtin,List.map_toArray,List.map_cons,List.map_nil,hv];simp[Builtin.cap_,run_underlying hu w,goInt]
  unfold Ho at hs;split at hs
  ·rename_i e' k' rs hg;rw[JJ h hg hμ]at hs;exact A2 h hd hn jg (AG (.int .i64 _)) hs
  ·exact A2 h hd hn jg (AG (.int .i64 _)) (hs (cap-lo) (by omega))
  ·exact hs.elim
 ·exact hs.elim
theorem Tj{t t':TypeId}{x y:Operand}{v':Value}{w':World}(ho:o.op=.call {callee:=.builtin .copy,args:=#[x,y],argTypes:=#[t,t']})
  (h:(Builtin.copy_ #[t,t'] o.type #[a.eval x,a.eval y]).run P w=.ok v' w'):(execOp a.eval o).run P w=.ok (.value v') w':=by
 simp only[execOp,ho,resolve,Sem.run_bind,Sem.run_pure,Result.andThen_ok,invoke,builtin,List.map_toArray,List.map_cons,List.map_nil,h]
theorem PZ{t:TypeId}{x:Operand}{v':Value}{w':World}(ho:o.op=.call {callee:=.builtin .clear,args:=#[x],argTypes:=#[t]})
  (h:(Builtin.clear_ #[t] o.type #[a.eval x]).run P w=.ok v' w'):(execOp a.eval o).run P w=.ok (.value v') w':=by
 simp only[execOp,ho,resolve,Sem.run_bind,Sem.run_pure,Result.andThen_ok,invoke,builtin,List.map_toArray,List.map_cons,List.map_nil,h]
theorem ac(dT sT ty e k:TypeId)(hu:P.underlying dT=some (.slice e))(hk:Pr P e=some k)(g og dLen dCap:Nat)(bb:Addr)(sLen sCap:Nat)(cur:Array Value)(t:TypeId)(us:List Value)
  (hg:w.heap[g]? =some (.cells cur t (0,0)))(qo:us.length=Nat.min sLen dLen*k)(hsrc:∀j u,us[j]? =some u->w.cell? (bb.add j)=some u)(kl:og+us.length<=cur.size)(h1:∀u∈us,u.oneCell'=true):
  (Builtin.copy_ #[dT,sT] ty #[.slice (some ⟨g,og,none⟩) dLen dCap,.slice (some bb) sLen sCap]).run P w=.ok (goInt (Nat.min sLen dLen)) (w.setRow g (setL cur.toList og us).toArray):=by
 have hf:=run_firstCells_some (P:=P) w k (Nat.min sLen dLen) bb sLen sCap us qo hsrc;have jk:=run_storeCells_at P g og t us 0 cur w hg (by simpa using kl) h1;simp only[Nat.add_zero]at jk;have hs:=EF (P:=P) hk;simp[Builtin.copy_,run_underlying hu,Builtin.lenOf,hs,hf,jk,setL]
theorem ad(dT sT ty e k:TypeId)(hu:P.underlying dT=some (.slice e))(hk:Pr P e=some k)(A B:Option Addr)(dLen dCap sLen sCap:Nat)(h0:Nat.min sLen dLen=0):
  (Builtin.copy_ #[dT,sT] ty #[.slice A dLen dCap,.slice B sLen sCap]).run P w=.ok (goInt 0) w:=by
 have hs:=EF (P:=P) hk;have hl:∀(x:Addr),(loadCells x 0).run P w=.ok #[] w:=fun x=>by rfl
 cases A<;>cases B<;>simp[Builtin.copy_,run_underlying hu,Builtin.lenOf,Builtin.firstCells,hs,h0,storeCells,hl]
theorem Rel.setSame(h:Rel GL n S M μ st a w){nm:Nat}{b:Blk}(hg:Ac st.sto nm=some b):Rel GL n S M μ (st.setB nm b) a w:=by
 refine h.of (st':=st.setB nm b) ⟨h.sub,fun m x hx=>?_,fun m m' k k' jh h1 h2=>?_,h.low⟩ (Mem.le_refl _) fun s v hv=>by grind[St.setB,Cm]
 ·simp only[St.setB,Cl]at hx⊢;rw[Cm];split at hx
  ·rename_i e;subst e;rw[hg]at hx;cases hx;exact h.blk _ _ hg
  ·exact h.blk _ _ hx
 ·simp only[St.setB,Cm]at h1 h2;exact h.sep m m' k k' jh h1 h2
theorem Rel.putO(h:Rel GL n S M μ st a w){od:Option Nat}(hd:∀d,od=some d->d<n){x:D}{v:Value}(hx:Az M μ (names st.sto) x v):Rel GL n S M μ (Dl.putO st od x) (a.put od v) w:=by
 cases od with
 |none=>exact h
 |some d=>exact h.put (hd d rfl) hx
theorem af(h:Rel GL n S M μ st a w){Y:D}{v:Value}(hr:Az M μ (names st.sto) Y v){top len:Nat}{ys:List (List I)}(hs:FH (Ac st.sto) Y top=some (len,ys)){k:Nat}(hk:IG k ys):
  ys.length=min len top/\(∃A c,v=.slice A len c)/\(ys≠[]->∃bb oo ycap,∃us:List Value,v=.slice (some ⟨bb,oo,none⟩) len ycap/\us.length=ys.length*k/\(∀j u,us[j]? =some u->w.cell? ⟨bb,oo+j,none⟩=some u)/\(∀u∈us,u.oneCell'=true)/\
   ∀i (hi:i<ys.length) j (hj:j<ys[i].length),∃u,us[i*k+j]? =some u/\Rep M (ys[i][j]) u):=by
 cases Y with
 |i x=>
  cases x with
  |sl rows=>
   simp only[FH,Option.some.injEq,Prod.mk.injEq]at hs;obtain⟨rfl,rfl⟩:=hs;have hr:Rep M (.sl rows) v:=hr;have vj:∃A c,v=.slice A rows.length c:=by
    cases hr with
    |slnil=>exact⟨_,_,rfl⟩
    |slempty=>exact⟨_,_,rfl⟩
    |sl=>exact⟨_,_,rfl⟩
   refine⟨by rw[List.length_take,Nat.min_comm],vj,fun jh=>?_⟩;cases hr with
   |slnil=>simp at jh
   |slempty=>simp at jh
   |sl _ k' b oo cap vv jn hc hm hrr=>
    have jy:0<(rows.take top).length:=List.length_pos_iff.2 jh;have ky:Rep M (.sl (rows.take top)) (.slice (some ⟨b,oo,none⟩) (rows.take top).length cap):=
     Rep.sl (rows.take top) k' b oo cap vv (fun r hr=>jn r (List.mem_of_mem_take hr)) (by rw[List.length_take];omega)
      (fun i hi j hj=>by rw[List.getElem_take]at hj;exact hm i (by rw[List.length_take]at hi;omega) j hj)
      (fun i hi j hj=>by have jt:=hj;rw[List.getElem_take]at jt;have:=hrr i (by rw[List.length_take]at hi;omega) j jt;simpa using this)
    obtain⟨_,s2⟩:=PO (Y:=.i (.sl (rows.take top))) h (AG ky) rfl hk;obtain⟨bb,o2,yc,us,e1,q⟩:=s2 jh;injection e1 with e1 e2 e3
    injection e1 with e1;injection e1 with e4 e5
    subst e4;subst e5;exact⟨b,oo,cap,us,rfl,q⟩
  |_=>simp[FH]at hs
 |ref r=>
  cases r with
  |sl nm k0 lo hi=>
  simp only[FH]at hs;split at hs
  rotate_left
  ·cases hs
  rename_i r zT;simp only[Option.some.injEq,Prod.mk.injEq]at hs;obtain⟨rfl,rfl⟩:=hs;obtain⟨hN,aa,cap,hμ,qz,kd,vj⟩:=hr;have hsl2:∃A c,v=.slice A (hi-lo) c:=by
   rcases vj with⟨rfl,a',hv⟩|⟨b,o,rfl,hv⟩
   ·exact⟨_,_,by rw[hv];congr 1;omega⟩
   ·exact⟨_,_,hv⟩
  have je:r.length=min (hi-lo) top:=by
   unfold IF at zT;split at zT
   ·split at zT
    ·rename_i hc;cases zT;simp;omega
    ·cases zT
   ·split at zT
    ·rename_i hc;have:=congrArg List.length (L3 zT);simp at this;omega
    ·cases zT
   ·cases zT
  refine⟨je,hsl2,fun jh=>?_⟩;have jy:0<r.length:=List.length_pos_iff.2 jh;rcases vj with⟨rfl,a',hv⟩|⟨b,o,rfl,hv⟩
  ·omega
  ·have hr2:Az M μ (names st.sto) (.ref (.sl nm k0 lo (min hi (lo+top)))) (.slice (some ⟨b,o+lo*k0,none⟩) (min hi (lo+top)-lo) (cap-lo)):=
    ⟨hN,_,cap,hμ,by omega,by omega,.inr ⟨b,o,rfl,rfl⟩⟩
   obtain⟨_,s2⟩:=PO h hr2 (by simp only[E5];exact zT) hk;obtain⟨bb,o2,yc,us,e1,q⟩:=s2 jh;injection e1 with e1 e2 e3
   injection e1 with e1;injection e1 with e4 e5
   subst e4;subst e5;exact⟨b,o+lo*k0,cap-lo,us,hv,q⟩
  |_=>simp[FH]at hs
 |_=>simp[FH]at hs
theorem ai(h:Rel GL n S M μ st a w){t t' e k:TypeId}{x y:Operand}{ox oy:O}(ho:o.op=.call {callee:=.builtin .copy,args:=#[x,y],argTypes:=#[t,t']})(hd:∀d,o.dst=some d->d<n)
  (hx:cO GL x=some ox)(hy:cO GL y=some oy)(hu:P.underlying t=some (.slice e))(hk:Pr P e=some k)(hs:step P GL (.cpy o.dst ox oy e k) st K):o.wpX P a w (Ar GL n S M w K) Q:=by
 have hr:=AB h hx;have zD:=AB h hy;simp only[step,IH]at hs;split at hs
 ·rename_i nm k0 lo hi e1;rw[e1]at hr;obtain⟨hN,aa,cap,hμ,qz,kd,vj⟩:=hr;unfold Hp at hs;split at hs
  ·rename_i e' k' rs len ys hg hsrc;obtain⟨rfl,rfl,rfl,vm,kr,hs⟩:=hs;obtain⟨hyl,⟨A0,c0,hyv0⟩,s2⟩:=af h zD hsrc kr;have kq:=JJ h hg hμ;have wh:Nat.min len (hi-lo)=min len (hi-lo):=rfl;by_cases h0:min len (hi-lo)=0
   ·have hz:ys.map some=[]:=by have:ys=[]:=List.eq_nil_of_length_eq_zero (by omega);rw[this];rfl
    rw[hz,NG,h0]at hs;have jg:(execOp a.eval o).run P w=.ok (.value (goInt 0)) w:=by
     refine Tj ho ?_;have zX:∃A l c,a.eval x=.slice A l c/\l=hi-lo:=by
      rcases vj with⟨rfl,a',hv⟩|⟨b1,o1,rfl,hv⟩
      ·exact⟨_,_,_,hv,by omega⟩
      ·exact⟨_,_,_,hv,rfl⟩
     obtain⟨A,l,c,zX,rfl⟩:=zX;rw[zX,hyv0];exact ad t t' _ _ _ hu hk _ _ _ _ _ _ h0
    exact BK jg ⟨_,hs,M,μ,(h.setSame hg).putO hd (AG (.int .i64 0)),MExt.refl _ _,Keeps.refl _ _⟩
   ·have jh:ys≠[]:=fun e=>by subst e;simp at hyl;omega
    obtain⟨bb,oo,ycap,us,vp,qo,hum,huo,hur⟩:=s2 jh;rcases vj with⟨rfl,a',hv⟩|⟨b1,o1,rfl,hv⟩
    ·omega
    ·obtain⟨cur,jd,q1,q2,q3,q4⟩:=JI h hg hμ (by omega);have zI:An (μ nm)=some b1:=by rw[hμ];simp only[An];rw[if_neg (by omega)]
     generalize hm:min len (hi-lo)=m at h0 hs wh hyl;have hmh:m<=hi-lo:=by omega
     have hul2:us.length=m*k0:=by rw[qo,hyl]
     have hmul:lo*k0+m*k0<=hi*k0:=by rw[<-Nat.add_mul];exact Nat.mul_le_mul_right _ (by omega)
     have hhc:hi*k0<=cap*k0:=Nat.mul_le_mul_right _ kd;have jg:=ac (P:=P) (w:=w) t t' o.type e' k0 hu hk b1 (o1+lo*k0) (hi-lo) (cap-lo) ⟨bb,oo,none⟩ len ycap cur e' us jd.heap (by rw[hul2,wh]) (fun j u hu=>by rw[Ei];exact hum j u hu) (by rw[hul2];omega) huo;rw[wh]at jg;have vq:=Ii w b1 (setL cur.toList (o1+lo*k0) us).toArray jd.low;have jx:=q4.set (by rw[q1];omega) (lo:=lo) (bs:=ys) (us:=us) kr.1 qo hur (by omega);have vt:(setL rs lo (ys.map some)).length=rs.length:=Cn _ _ _ (by rw[List.length_map];omega);have qt:Rel GL n S M μ (st.setB nm (.arr e' k0 (setL rs lo (ys.map some)))) a (w.setRow b1 (setL cur.toList (o1+lo*k0) us).toArray):=by
      refine h.setBlk (blk':=.arr e' k0 (setL rs lo (ys.map some))) hg zI vq.size (fun q hq _=>setRow_other w b1 q _ hq) ⟨some ⟨b1,o1,none⟩,by rw[vt];rw[hμ,kq],.inr ⟨b1,o1,(setL cur.toList (o1+lo*k0) us).toArray,rfl,?_,⟨jd.low,setRow_heap w b1 cur _ e' _ jd.heap,jd.unk⟩,by rw[vt,q1];exact q2,?_,jx⟩⟩
      ·intro e;rw[e]at vt;simp at vt;omega
      ·rw[vt,q1];simp only[List.size_toArray];rw[Cn _ _ _ (by rw[hul2];simp;omega)];simpa using q3
     exact BK (Tj ho (by rw[hv,vp];exact jg)) ⟨_,hs,M,μ,qt.putO hd (AG (.int .i64 (m:Int))),MExt.refl _ _,vq⟩
  ·exact hs.elim
 ·exact hs.elim
theorem aj{α β:Type}(f:α->β)(l:List α)(o:Nat)(us:List α):setL (l.map f) o (us.map f)=(setL l o us).map f:=by simp[setL]
theorem NM{cur:Array Value}{o k:Nat}{rs:List (List I)}:DF M cur o k rs↔FE M cur o k (rs.map some):=by
 constructor
 ·rintro⟨h1,h2⟩ i r hr;grind
 ·intro h;refine⟨fun r hr=>?_,fun i hi j hj=>?_⟩
  ·obtain⟨i,hi,rfl⟩:=List.getElem_of_mem hr;exact(h i _ (by rw[List.getElem?_map,List.getElem?_eq_getElem hi];rfl)).1
  ·exact(h i _ (by rw[List.getElem?_map,List.getElem?_eq_getElem hi];rfl)).2 j hj
theorem ak(zs:Array Value)(m i j:Nat)(hi:i<m)(hj:j<zs.size):(Builtin.zeroCells zs m).toList[i*zs.size+j]? =some zs[j]:=by
 have jl:i*zs.size+j<m*zs.size:=by have:(i+1)*zs.size<=m*zs.size:=Nat.mul_le_mul_right _ hi;grind
 have hmod:(i*zs.size+j)%zs.size=j:=by rw[Nat.mul_comm,Nat.mul_add_mod,Nat.mod_eq_of_lt hj]
 have hl:(Builtin.zeroCells zs m).size=m*zs.size:=size_zeroCells zs m;rw[Array.getElem?_toList,Array.getElem?_eq_getElem (by omega)];simp only[Builtin.zeroCells,Array.getElem_map,Array.getElem_range,hmod,getElem!_pos,hj]
theorem NN{z:List I}{zs:Array Value}(hz:Ai M z zs.toList)(m:Nat):∀i (hi:i<(List.replicate m z).length) j (hj:j<(List.replicate m z)[i].length),∃u,(Builtin.zeroCells zs m).toList[i*z.length+j]? =some u/\Rep M ((List.replicate m z)[i][j]) u:=fun i hi j hj=>by
 have js:zs.size=z.length:=by simpa using hz.1
 simp only[List.getElem_replicate]at hj⊢;simp only[List.length_replicate]at hi;refine⟨zs[j]'(by omega),by rw[<-js];exact ak zs m i j hi (by omega),?_⟩;have:=hz.2 j hj (by simpa using(show j<zs.size by omega));grind
theorem P0{zs:Array Value}(h1:∀u∈zs.toList,u.oneCell'=true)(m:Nat):∀u∈(Builtin.zeroCells zs m).toList,u.oneCell'=true:=fun u hu=>by
 obtain⟨p,hp,rfl⟩:=List.getElem_of_mem hu;have hp':p<m*zs.size:=by simpa[size_zeroCells]using hp
 have jy:0<zs.size:=Nat.pos_of_ne_zero fun h=>by grind
 have hmod:=Nat.mod_lt p jy;have:(Builtin.zeroCells zs m).toList[p]=zs[p%zs.size]:=by simp only[Array.getElem_toList,Builtin.zeroCells,Array.getElem_map,Array.getElem_range,getElem!_pos,hmod]
 grind
theorem Tk(t ty e:TypeId)(i:TypeInfo)(z:Value)(ht:P.underlying t=some (.slice e))(hi:P.info? e=some i)(hz:i.zero=some z)(g og m c:Nat)(hm:m≠0)(cur:Array Value)(tt:TypeId)(hg:w.heap[g]? =some (.cells cur tt (0,0)))
  (kl:og+m*z.cells.size<=cur.size)(h1:∀u∈z.cells.toList,u.oneCell'=true):
  (Builtin.clear_ #[t] ty #[.slice (some ⟨g,og,none⟩) m c]).run P w=.ok (.tuple #[]) (w.setRow g (setL cur.toList og (Builtin.zeroCells z.cells m).toList).toArray):=by
 have jk:=run_storeCells_at P g og tt (Builtin.zeroCells z.cells m).toList 0 cur w hg (by have:=size_zeroCells z.cells m;simp[this];omega) (P0 h1 m);simp only[Nat.add_zero]at jk;obtain⟨m,rfl⟩:∃q,m=q+1:=⟨m-1,by omega⟩;simp[Builtin.clear_,run_underlying ht,zeroValue,typeInfo,hi,hz,jk,setL]
theorem am(t ty e:TypeId)(ht:P.underlying t=some (.slice e))(A:Option Addr)(c:Nat):(Builtin.clear_ #[t] ty #[.slice A 0 c]).run P w=.ok (.tuple #[]) w:=by cases A<;>simp[Builtin.clear_,run_underlying ht]
theorem ao(h:Rel GL n S M μ st a w){t e:TypeId}{i:TypeInfo}{z:Value}{zi:I}{x:Operand}{ox:O}(ho:o.op=.call {callee:=.builtin .clear,args:=#[x],argTypes:=#[t]})(hd:∀d,o.dst=some d->d<n)
  (hx:cO GL x=some ox)(hu:P.underlying t=some (.slice e))(hi:P.info? e=some i)(hz:i.zero=some z)(hc:Cb z=some zi)(kr:(cellsI zi).all I.one=true)(hs:step P GL (.clr o.dst ox (cellsI zi)) st K):o.wpX P a w (Ar GL n S M w K) Q:=by
 have hr:=AB h hx;have ve:Ai M (cellsI zi) z.cells.toList:=(Eg hc).cellsI;have vo:z.cells.size=(cellsI zi).length:=by simpa using ve.1
 have h1:∀u∈z.cells.toList,u.oneCell'=true:=fun u hu=>by
  obtain⟨p,hp,rfl⟩:=List.getElem_of_mem hu;have hp':p<(cellsI zi).length:=by rw[<-vo];simpa using hp
  refine(ve.2 p hp' hp).oneCell ?_;rw[List.all_eq_true]at kr;exact kr _ (List.getElem_mem hp')
 generalize cellsI zi=zr at ve vo hs;simp only[step,II]at hs;split at hs
 ·rename_i nm k0 lo ja e1;rw[e1]at hr;obtain⟨hN,aa,cap,hμ,qz,kd,vj⟩:=hr;have none':ja-lo=0->∀st',Rel GL n S M μ st' a w->K (putO st' o.dst (.i (.tup [])))->o.wpX P a w (Ar GL n S M w K) Q:=fun h0 st' qt hK=>by
   have zX:∃A c,a.eval x=.slice A 0 c:=by
    rcases vj with⟨rfl,a',hv⟩|⟨b1,o1,rfl,hv⟩
    ·exact⟨_,_,hv⟩
    ·exact⟨_,_,by rw[hv,h0]⟩
   obtain⟨A,c,hv⟩:=zX;exact BK (PZ ho (by rw[hv];exact am t _ e hu A c)) ⟨_,hK,M,μ,qt.putO hd (AG (Rep.tup' (Ai.nil M))),MExt.refl _ _,Keeps.refl _ _⟩
  have nil0:∀{α:Type} (x:α) (l:List α),ja-lo=0->setL l lo (List.replicate (ja-lo) x)=l:=fun x l h0=>by rw[h0];exact NG l lo
  unfold Gt at hs;split at hs
  ·rename_i e' k' rs hg;obtain⟨rfl,hzk,vm,hs⟩:=hs;by_cases h0:ja-lo=0
   ·rw[nil0 _ _ h0]at hs;exact none' h0 _ (h.setSame hg) hs
   ·rcases vj with⟨rfl,a',hv⟩|⟨b1,o1,rfl,hv⟩
    ·omega
    ·obtain⟨cur,jd,q1,q2,q3,q4⟩:=L1 h hg hμ (by omega);have zI:An (μ nm)=some b1:=by rw[hμ];simp only[An];rw[if_neg (by omega)]
     have hmul:lo*k0+(ja-lo)*k0=ja*k0:=by rw[<-Nat.add_mul];congr 1;omega
     have hhc:ja*k0<=cap*k0:=Nat.mul_le_mul_right _ kd;have w8:rs.length*k0<=cap*k0:=Nat.mul_le_mul_right _ q3;have jg:=Tk (P:=P) (w:=w) t o.type e i z hu hi hz b1 (o1+lo*k0) (ja-lo) (cap-lo) h0 cur e' jd.heap (by rw[vo,hzk];omega) h1;have qo:(Builtin.zeroCells z.cells (ja-lo)).toList.length=(List.replicate (ja-lo) zr).length*k0:=by rw[Array.length_toList,size_zeroCells,vo,hzk,List.length_replicate]
     have jx:=(NM.1 q4).set (by rw[List.length_map];omega) (lo:=lo) (bs:=List.replicate (ja-lo) zr) (us:=(Builtin.zeroCells z.cells (ja-lo)).toList) (fun r hr=>by rw[List.eq_of_mem_replicate hr];exact hzk) qo (by have:=NN ve (ja-lo);rw[hzk]at this;exact this) (by simp;omega);rw[aj,<-NM]at jx;have vq:=Ii w b1 (setL cur.toList (o1+lo*k0) (Builtin.zeroCells z.cells (ja-lo)).toList).toArray jd.low;have vt:(setL rs lo (List.replicate (ja-lo) zr)).length=rs.length:=Cn _ _ _ (by simp;omega);have qt:Rel GL n S M μ (st.setB nm (.rows e' k0 (setL rs lo (List.replicate (ja-lo) zr)))) a (w.setRow b1 (setL cur.toList (o1+lo*k0) (Builtin.zeroCells z.cells (ja-lo)).toList).toArray):=by refine h.setBlk (blk':=.rows e' k0 (setL rs lo (List.replicate (ja-lo) zr))) hg zI vq.size (fun q hq _=>setRow_other w b1 q _ hq) ⟨some ⟨b1,o1,none⟩,cap,hμ,.inr ⟨b1,o1,_,rfl,by omega,⟨jd.low,setRow_heap w b1 cur _ e' _ jd.heap,jd.unk⟩,q1,?_,by rw[vt];exact q3,jx⟩⟩;simp only[List.size_toArray];rw[Cn _ _ _ (by rw[qo];simp;omega)];simpa using q2
     exact BK (PZ ho (by rw[hv];exact jg)) ⟨_,hs,M,μ,qt.putO hd (AG (Rep.tup' (Ai.nil M))),MExt.refl _ _,vq⟩
  ·rename_i e' k' rs hg;obtain⟨rfl,hzk,vm,hs⟩:=hs;by_cases h0:ja-lo=0
   ·rw[nil0 _ _ h0]at hs;exact none' h0 _ (h.setSame hg) hs
   ·rcases vj with⟨rfl,a',hv⟩|⟨b1,o1,rfl,hv⟩
    ·omega
    ·have kq:=JJ h hg hμ;obtain⟨cur,jd,q1,q2,q3,q4⟩:=JI h hg hμ (by omega);have zI:An (μ nm)=some b1:=by rw[hμ];simp only[An];rw[if_neg (by omega)]
     have hmul:lo*k0+(ja-lo)*k0=ja*k0:=by rw[<-Nat.add_mul];congr 1;omega
     have hhc:ja*k0<=cap*k0:=Nat.mul_le_mul_right _ kd;have jg:=Tk (P:=P) (w:=w) t o.type e i z hu hi hz b1 (o1+lo*k0) (ja-lo) (cap-lo) h0 cur e' jd.heap (by rw[vo,hzk];omega) h1;have qo:(Builtin.zeroCells z.cells (ja-lo)).toList.length=(List.replicate (ja-lo) zr).length*k0:=by rw[Array.length_toList,size_zeroCells,vo,hzk,List.length_replicate]
     have jx:=q4.set (by rw[q1];omega) (lo:=lo) (bs:=List.replicate (ja-lo) zr) (us:=(Builtin.zeroCells z.cells (ja-lo)).toList) (fun r hr=>by rw[List.eq_of_mem_replicate hr];exact hzk) qo (by have:=NN ve (ja-lo);rw[hzk]at this;exact this) (by simp;omega);rw[List.map_replicate]at jx;have vq:=Ii w b1 (setL cur.toList (o1+lo*k0) (Builtin.zeroCells z.cells (ja-lo)).toList).toArray jd.low;have vt:(setL rs lo (List.replicate (ja-lo) (some zr))).length=rs.length:=Cn _ _ _ (by simp;omega);have qt:Rel GL n S M μ (st.setB nm (.arr e' k0 (setL rs lo (List.replicate (ja-lo) (some zr))))) a (w.setRow b1 (setL cur.toList (o1+lo*k0) (Builtin.zeroCells z.cells (ja-lo)).toList).toArray):=by
      refine h.setBlk (blk':=.arr e' k0 (setL rs lo (List.replicate (ja-lo) (some zr)))) hg zI vq.size (fun q hq _=>setRow_other w b1 q _ hq) ⟨some ⟨b1,o1,none⟩,by rw[vt];rw[hμ,kq],.inr ⟨b1,o1,_,rfl,?_,⟨jd.low,setRow_heap w b1 cur _ e' _ jd.heap,jd.unk⟩,by rw[vt,q1];exact q2,?_,jx⟩⟩
      ·intro e;rw[e]at vt;simp at vt;omega
      ·rw[vt,q1];simp only[List.size_toArray];rw[Cn _ _ _ (by rw[qo];simp;omega)];simpa using q3
     exact BK (PZ ho (by rw[hv];exact jg)) ⟨_,hs,M,μ,qt.putO hd (AG (Rep.tup' (Ai.nil M))),MExt.refl _ _,vq⟩
  ·exact hs.elim
 ·exact hs.elim
theorem ap(h:Rel GL n S M μ st a w){t e:TypeId}{i:TypeInfo}{z:Value}{zi:I}{x:Operand}{ox:O}(ho:o.op=.makeSlice t x x)(hd:o.dst=some d)(hn:d<n)
  (hx:cO GL x=some ox)(hu:P.underlying t=some (.slice e))(hi:P.info? e=some i)(hz:i.zero=some z)(hc:Cb z=some zi)(js:z.cells.size=i.size)(hs:step P GL (.mksl d e i.size i.bytes (cellsI zi) ox) st K):o.wpX P a w (Ar GL n S M w K) Q:=by
 have hr:=AB h hx;have ve:Ai M (cellsI zi) z.cells.toList:=(Eg hc).cellsI;have vo:z.cells.size=(cellsI zi).length:=by simpa using ve.1
 generalize cellsI zi=zr at ve vo hs;simp only[step,JG]at hs;split at hs
 ·rename_i kk m jo e1;rw[e1]at hr;have hv:=CC (AK hr);obtain⟨h0,h47,hb,hs⟩:=hs;obtain⟨m,rfl⟩:∃q:Nat,m=(q:Int):=⟨m.toNat,by omega⟩;simp only[Int.toNat_natCast]at hs;have jg:=run_make (P:=P) w t e i z hu hi hz kk kk (m:Int) (m:Int) h0 (Int.le_refl _) (by omega) (by omega);simp only[Int.toNat_natCast]at jg;have hmc:madeCells z.cells (m*i.size)=Builtin.zeroCells z.cells m:=by simp only[madeCells,Builtin.zeroCells,js]
  rw[hmc]at jg;have h2:Rel GL n S M μ st a (w.alloc (.cells (Builtin.zeroCells z.cells m) e)):=h.of (h.toStoOk.alloc _) (Mem.le_refl _) fun _ _ hv=>hv
  have h3:=h2.bindName (nm:=d) (b:=.rows e i.size (List.replicate m zr)) (x:=.slice (some ⟨w.heap.size,0,none⟩) 0 m) jo hn ⟨some ⟨w.heap.size,0,none⟩,m,Bb _ _ _,?_⟩ (fun p q hp hq=>?_)
  ·exact BK (v:=.slice (some ⟨w.heap.size,0,none⟩) m m) (w':=w.alloc (.cells (Builtin.zeroCells z.cells m) e)) (by simp only[execOp,ho,hv,jg,Sem.run_bind,Result.andThen_ok,Sem.run_pure]) ⟨_,hs,M,_,by
    rw[hd];refine h3.put hn ⟨DG,some ⟨w.heap.size,0,none⟩,m,Bb _ _ _,by omega,Nat.le_refl _,?_⟩;exact .inr ⟨w.heap.size,0,rfl,by simp⟩,MExt.refl _ _,EC w _ h.low⟩
  ·by_cases hm:m=0
   ·subst hm;exact .inl ⟨rfl,rfl⟩
   ·refine .inr ⟨w.heap.size,0,_,rfl,by omega,⟨fun hS=>by have:=h.low _ hS;omega,E1 w _,Mem.unk_new h.sub (Nat.le_refl _)⟩,by simp only[maxLen];omega,?_,by simp,?_⟩
    ·rw[size_zeroCells,js];omega
    ·have hk:zr.length=i.size:=by rw[<-vo,js]
     refine⟨fun r hr=>by rw[List.eq_of_mem_replicate hr];exact hk,fun p hp j hj=>?_⟩;obtain⟨u,hu1,hu2⟩:=NN ve m p hp j hj;rw[hk]at hu1;exact⟨u,by rw[Nat.zero_add];simpa using hu1,hu2⟩
  ·have:=(h.toStoOk.lt hp hq).1;simp only[An];split
   ·simp
   ·intro e;cases e;omega
 ·exact hs.elim
theorem KN {t t':TypeId}{x y:Operand}{v':Value}{w':World}(ho:o.op=.call {callee:=.builtin .append,args:=#[x,y],argTypes:=#[t,t']})
  (h:(Builtin.append_ #[t,t'] o.type #[a.eval x,a.eval y]).run P w=.ok v' w'):(execOp a.eval o).run P w=.ok (.value v') w':=by
 simp only[execOp,ho,resolve,Sem.run_bind,Sem.run_pure,Result.andThen_ok,invoke,builtin,List.map_toArray,List.map_cons,List.map_nil,h]
theorem aq(t u ty e:TypeId){ik:IntKind}(i:TypeInfo)(z:Value)(ht:P.underlying t=some (.slice e))(hi:P.info? e=some i)(hu:P.underlying u=some (.int ik))(A:Option Addr)(l c:Nat)(hlc:l<=c)(kk:IntKind):
  (Builtin.append_ #[t,u] ty #[.slice A l c,.int kk ((0:Nat):Int)]).run P w=.ok (.slice A l c) w:=by
 cases A<;>simp[Builtin.append_,run_underlying ht,run_underlying hu,sizeOf,typeInfo,hi,asInt,asIntOf,IntKind.wrap_i64,storeCells,hlc]
theorem ar(t u ty e:TypeId){ik:IntKind}(i:TypeInfo)(z:Value)(ht:P.underlying t=some (.slice e))(hi:P.info? e=some i)(hz:i.zero=some z)(hu:P.underlying u=some (.int ik))(g og sLen sCap:Nat)(cur:Array Value)(hg:w.heap[g]? =some (.cells cur e (0,0)))
  (kk:IntKind)(m:Nat)(hm:(m:Int)<=140737488355328)(z6:(m:Int)*(i.bytes:Int)<=140737488355328)(hm0:0<m)(vn:0<i.size)(vo:z.cells.size=i.size)(h1:∀u∈z.cells.toList,u.oneCell'=true)(kg:sLen+m<=sCap)(kl:og+sLen*i.size+m*i.size<=cur.size):
  (Builtin.append_ #[t,u] ty #[.slice (some ⟨g,og,none⟩) sLen sCap,.int kk (m:Int)]).run P w=
   .ok (.slice (some ⟨g,og,none⟩) (sLen+m) sCap) (w.setRow g (setL cur.toList (og+sLen*i.size) (Builtin.zeroCells z.cells m).toList).toArray):=by
 have jk:=run_storeCells_at P g (og+sLen*i.size) e (Builtin.zeroCells z.cells m).toList 0 cur w hg (by have:=size_zeroCells z.cells m;rw[vo]at this;simp[this];omega) (P0 h1 m);simp only[Nat.add_zero]at jk;have hw:IntKind.i64.wrap (m:Int)=m:=by rw[IntKind.wrap_i64];omega
 have n1:¬((m:Int)<0):=by omega
 have n3:¬(m=0\/i.size=0):=by omega
 have n4:m*i.size≠0:=by rw[Nat.mul_ne_zero_iff];omega
 have hz2:(zeroValue e).run P w=.ok z w:=by simp[zeroValue,typeInfo,hi,hz]
 have n2:¬((281474976710656:Int)<(m:Int)*(i.bytes:Int)):=by omega
 have hf:(storeCells (⟨g,og,none⟩:Addr) [] 0).run P w=.ok () w:=by rfl
 simp[Builtin.append_,run_underlying ht,run_underlying hu,sizeOf,typeInfo,hi,asInt,asIntOf,hw,n1,n2,n4,hz2,kg,Ei,jk,setL]
theorem NO(t u ty e:TypeId){ik:IntKind}(i:TypeInfo)(z:Value)(ht:P.underlying t=some (.slice e))(hi:P.info? e=some i)(hz:i.zero=some z)(hu:P.underlying u=some (.int ik))
  (b:Option Addr)(sLen sCap:Nat)(olds:List Value)(qz:olds.length=sLen*i.size)(holds:∀q,b=some q->∀j v,olds[j]? =some v->w.cell? (q.add j)=some v)(hb0:b=none->sLen=0)(vo:z.cells.size=i.size)
  (kk:IntKind)(m:Nat)(hm:(m:Int)<=140737488355328)(z6:(m:Int)*(i.bytes:Int)<=140737488355328)(hg:sCap<sLen+m)(h63:((sLen+m:Nat):Int)<=9223372036854775807)(kl:Builtin.nextslicecap (sLen+m) sCap*i.bytes<=281474976710656):
  (Builtin.append_ #[t,u] ty #[.slice b sLen sCap,.int kk (m:Int)]).run P w=
   .ok (.slice (some ⟨w.heap.size,0,none⟩) (sLen+m) (grownCap w (sLen+m) sCap e))
    (w.drew.alloc (.cells (olds.toArray++Builtin.zeroCells z.cells m++Builtin.zeroCells z.cells (grownCap w (sLen+m) sCap e-(sLen+m))) e)):=by
 have hw:IntKind.i64.wrap (m:Int)=m:=by rw[IntKind.wrap_i64];omega
 have n1:¬((m:Int)<0):=by omega
 have n2:¬((281474976710656:Int)<(m:Int)*(i.bytes:Int)):=by omega
 have hz2:∀w:World,(zeroValue e).run P w=.ok z w:=fun w=>by simp[zeroValue,typeInfo,hi,hz]
 have hn:¬(sLen+m<=sCap):=by omega
 have h63':¬(9223372036854775807<((sLen:Int)+(m:Int))):=by omega
 have h48':¬(281474976710656<Builtin.nextslicecap (sLen+m) sCap*i.bytes):=by omega
 have wl:(Builtin.firstCells i.size sLen (.slice b sLen sCap)).run P w.drew=.ok olds.toArray w.drew:=by
  cases b with
  |none=>have:=hb0 rfl;subst this;have:olds=[]:=List.eq_nil_of_length_eq_zero (by omega);subst this;rfl
  |some q=>exact run_firstCells_some (P:=P) w.drew i.size sLen q sLen sCap olds qz (by simpa using holds q rfl)
 have hz0:∀m,m=0\/i.size=0->Builtin.zeroCells z.cells m=#[]:=fun m h=>by apply Array.ext';apply List.eq_nil_of_length_eq_zero;rw[Array.length_toList,size_zeroCells,vo];grind
 by_cases n3:m*i.size=0
 ·rw[hz0 m (Nat.mul_eq_zero.1 n3)];simp[Builtin.append_,run_underlying ht,run_underlying hu,sizeOf,typeInfo,hi,asInt,asIntOf,hw,n1,n2,n3,hn,h63',h48',Question.forced,wl,hz2,newRow,grownCap]
 ·simp[Builtin.append_,run_underlying ht,run_underlying hu,sizeOf,typeInfo,hi,asInt,asIntOf,hw,n1,n2,n3,hn,h63',h48',Question.forced,wl,hz2,newRow,grownCap]
theorem au(h:Rel GL n S M μ st a w){t t' e:TypeId}{ik kk:IntKind}{m:Nat}{i:TypeInfo}{z:Value}{zr:List I}{x y:Operand}{k b e' k' nm k0 lo hi:Nat}{rs:List (Option (List I))}{ys:List (List I)}(hys:ys=List.replicate m zr)(ve:Ai M zr z.cells.toList)(hz1:∀u∈z.cells.toList,u.oneCell'=true)(hm:(m:Int)<=140737488355328)(z6:(m:Int)*(i.bytes:Int)<=140737488355328)(ho:o.op=.call {callee:=.builtin .append,args:=#[x,y],argTypes:=#[t,t']})(z7:P.underlying t'=some (.int ik))(vp:a.eval y=.int kk (m:Int))
  (hd:o.dst=some d)(hn:d<n)(hr:Bo μ (names st.sto) (.sl nm k0 lo hi) (a.eval x))(hu':P.underlying t=some (.slice e))(ja:P.info? e=some i)(hz:i.zero=some z)(hk:i.size=k)(hb:i.bytes=b)
  (vo:z.cells.size=k)(vn:0<k)(hg:Ac st.sto nm=some (.arr e' k' rs))(hs:Hq (Ac st.sto d) e' k' rs nm k0 lo hi d e k b ys st K):o.wpX P a w (Ar GL n S M w K) Q:=by
 obtain⟨rfl,rfl,rfl,qz,vm,kr,jr,zZ⟩:=hs;subst hk;subst hb;obtain⟨hN,aa,cap,hμ,hlo',kd,vj⟩:=hr;have qo:(Builtin.zeroCells z.cells m).toList.length=ys.length*i.size:=by rw[Array.length_toList,size_zeroCells,vo,hys,List.length_replicate]
 have hur:∀p (hp:p<ys.length) j (hj:j<ys[p].length),∃u,(Builtin.zeroCells z.cells m).toList[p*i.size+j]? =some u/\Rep M (ys[p][j]) u:=by
  have hk:zr.length=i.size:=by rw[<-vo];simpa using ve.1.symm
  grind[NN]
 have huo:∀u∈(Builtin.zeroCells z.cells m).toList,u.oneCell'=true:=P0 hz1 m;have zx:ys.length=m:=by grind
 generalize hus:(Builtin.zeroCells z.cells m).toList=us at qo hur huo;have kq:=JJ h hg hμ;by_cases kg:hi+ys.length<=rs.length
 ·have hs:=jr kg;by_cases jh:ys=[]
  ·subst jh;have hm0:m=0:=by grind
   subst hm0;simp only[List.map_nil,NG,List.length_nil,Nat.add_zero]at hs;have qt:Rel GL n S M μ (st.setB nm (.arr e' i.size rs)) a w:=by
    refine h.of (st':=st.setB nm (.arr e' i.size rs)) ⟨h.sub,fun m x hx=>?_,fun m m' k k' jh h1 h2=>?_,h.low⟩ (Mem.le_refl _) fun s v hv=>by grind[St.setB,Cm]
    ·simp only[St.setB,Cl]at hx⊢;rw[Cm];split at hx
     ·rename_i e;subst e;rw[hg]at hx;cases hx;exact h.blk _ _ hg
     ·exact h.blk _ _ hx
    ·simp only[St.setB,Cm]at h1 h2;exact h.sep m m' k k' jh h1 h2
   have hv:∃A l c',a.eval x=.slice A l c'/\(∀x,A=some x->x.spot=none\/(l=0/\c'=0))/\l<=c':=by grind
   obtain⟨A,l,c',hv,z1,hlc⟩:=hv;refine BK (v:=a.eval x) (w':=w) (KN ho ?_) ⟨_,hs,M,μ,by rw[hd];exact qt.put hn ⟨by simp only[St.setB];rw[Cm];exact hN,aa,cap,hμ,hlo',kd,vj⟩,MExt.refl _ _,Keeps.refl _ _⟩;rw[hv,vp];exact aq t t' o.type e' i z hu' ja z7 A l c' hlc kk
  ·have jy:0<ys.length:=List.length_pos_iff.2 jh;rcases vj with⟨rfl,a',hv⟩|⟨b1,o1,rfl,hv⟩
   ·omega
   ·obtain⟨cur,jd,q1,q2,q3,q4⟩:=JI h hg hμ (by omega);have zI:An (μ nm)=some b1:=by grind[An]
    have hmul:lo*i.size+(hi-lo)*i.size=hi*i.size:=by rw[<-Nat.add_mul];congr 1;omega
    have hm5:(hi+ys.length)*i.size<=cap*i.size:=Nat.mul_le_mul_right _ (by omega);rw[Nat.add_mul]at hm5;have hr:=ar (P:=P) t t' o.type e' i z hu' ja hz z7 b1 (o1+lo*i.size) (hi-lo) (cap-lo) cur jd.heap kk m hm z6 (by omega) (by omega) vo hz1 (by omega) (by rw[zx]at hm5;omega);rw[show o1+lo*i.size+(hi-lo)*i.size=o1+hi*i.size by omega,hus]at hr;rw[show hi-lo+m=hi-lo+ys.length by rw[zx]]at hr;have vq:=Ii w b1 (setL cur.toList (o1+hi*i.size) us).toArray jd.low;have jx:=q4.set (by rw[q1];omega) (lo:=hi) kr.1 qo hur kg;have vt:(setL rs hi (ys.map some)).length=rs.length:=Cn _ _ _ (by simpa using kg);have qt:Rel GL n S M μ (st.setB nm (.arr e' i.size (setL rs hi (ys.map some)))) a (w.setRow b1 (setL cur.toList (o1+hi*i.size) us).toArray):=by
     refine h.setBlk (blk':=.arr e' i.size (setL rs hi (ys.map some))) hg zI vq.size (fun q hq _=>setRow_other w b1 q _ hq) ⟨some ⟨b1,o1,none⟩,by rw[vt];rw[hμ,kq],.inr ⟨b1,o1,(setL cur.toList (o1+hi*i.size) us).toArray,rfl,?_,⟨jd.low,setRow_heap w b1 cur _ e' _ jd.heap,jd.unk⟩,by rw[vt,q1];exact q2,?_,jx⟩⟩
     all_goals grind[Cn]
    exact BK (KN ho (by rw[hv,vp];exact hr)) ⟨_,hs,M,μ,by
     rw[hd];exact qt.put hn ⟨by simp only[St.setB];rw[Cm];exact hN,_,cap,hμ,by omega,by omega,.inr ⟨b1,o1,rfl,by congr 1;omega⟩⟩,MExt.refl _ _,vq⟩
 ·obtain⟨as,has,hao,j8,je,hfr,hs⟩:=zZ (by omega);have ha:=L3 has;have jh:ys≠[]:=fun e=>by grind
  have jy:0<ys.length:=List.length_pos_iff.2 jh;have k7:hi-lo+ys.length<=maxLen:=by simp only[maxLen];omega
  have z2:as.length=hi-lo:=by have:=congrArg List.length ha;simp at this;omega
  have grow:∀(old:Nat) (xs:List Value),xs.length=(hi-lo)*i.size->(∀i1 (vu:i1<as.length) j (hj:j<as[i1].length),∃u,xs[i1*i.size+j]? =some u/\Rep M (as[i1][j]) u)->
    ∀cells:Array Value,cells.toList=xs++us->(execOp a.eval o).run P w=.ok (.value (.slice (some ⟨w.heap.size,0,none⟩) (hi-lo+ys.length) (grownCap w (hi-lo+ys.length) old e'))) (w.drew.alloc (.cells (cells++Builtin.zeroCells z.cells (grownCap w (hi-lo+ys.length) old e'-(hi-lo+ys.length))) e'))->
    o.wpX P a w (Ar GL n S M w K) Q:=fun old xs vk hxr cells hcl2 jg=>by
   have zR:=grownCap_ge w (hi-lo+ys.length) old e';have hcm:grownCap w (hi-lo+ys.length) old e'<=maxLen:=grownCap_le_maxLen w (hi-lo+ys.length) old e' k7;generalize hG:grownCap w (hi-lo+ys.length) old e'=G at zR hcm jg;have vd:cells.size=(hi-lo+ys.length)*i.size:=by rw[<-Array.length_toList,hcl2,List.length_append,vk,qo,Nat.add_mul]
   have hL:((as++ys).map some++List.replicate (G-(hi-lo+ys.length)) (none:Option (List I))).length=G:=by simp;omega
   have ju:DF M cells 0 i.size (as++ys):=L2 (xs:=xs) (us:=us) (by rw[vk,z2]) hao.1 kr.1 hxr hur (fun j v hv=>by rw[Nat.zero_add];rw[<-hcl2]at hv;simpa using hv)
   have h0:Rel GL n S M μ st a (w.drew.alloc (.cells (cells++Builtin.zeroCells z.cells (G-(hi-lo+ys.length))) e')):=h.of ((h.toStoOk.drew).alloc _) (Mem.le_refl _) fun _ _ hv=>hv
   have h2:=h0.bindName (nm:=d) (b:=.arr e' i.size ((as++ys).map some++List.replicate (G-(hi-lo+ys.length)) none)) (x:=.slice (some ⟨w.heap.size,0,none⟩) 0 G) hfr hn ⟨_,by rw[Bb,hL],.inr ⟨w.heap.size,0,_,rfl,fun e=>by rw[e]at hL;simp at hL;omega,⟨fun hS=>by have:=h.low _ hS;omega,E1 w.drew _,Mem.unk_new h.sub (Nat.le_refl _)⟩,by rw[hL];exact hcm,?_,?_⟩⟩ (fun m q hm hq=>?_)
   ·exact BK jg ⟨_,hs (G-(hi-lo+ys.length)),M,_,by
     rw[hd];exact h2.put hn ⟨DG,_,G,Bb _ _ _,by omega,zR,.inr ⟨w.heap.size,0,rfl,by simp⟩⟩,MExt.refl _ _,(Keeps.refl S w).drew.trans (EC w.drew _ h.low)⟩
   ·rw[hL];simp only[Array.size_append,size_zeroCells,vo,vd,Nat.zero_add,<-Nat.add_mul];congr 1;omega
   ·intro i1 r hr;by_cases jl:i1<(as++ys).length
    ·rw[List.getElem?_append_left (by simpa using jl),List.getElem?_map,List.getElem?_eq_getElem jl]at hr;simp only[Option.map_some,Option.some.injEq]at hr;subst hr;refine⟨ju.1 _ (List.getElem_mem jl),fun j hj=>?_⟩;obtain⟨v,hv,hr⟩:=ju.2 i1 jl j hj;refine⟨v,?_,hr⟩;rw[Array.getElem?_append_left (Array.getElem?_eq_some_iff.1 hv).1];exact hv
    ·rw[List.getElem?_append_right (by simpa using jl),List.getElem?_replicate]at hr;split at hr<;>cases hr
   ·have:=(h.toStoOk.lt hm hq).1;simp only[An];rw[if_neg (by omega)];intro e;cases e;omega
  rcases vj with⟨rfl,a',hv⟩|⟨b1,o1,rfl,hv⟩
  ·obtain rfl:hi=cap:=by omega
   have has0:as=[]:=List.eq_nil_of_length_eq_zero (by omega);subst has0;cases a' with
   |none=>have hr:=NO (P:=P) (w:=w) t t' o.type e' i z hu' ja hz z7 none 0 0 [] (by simp) (by simp) (by simp) vo kk m hm z6 (by omega) (by omega) (growslice_fits (by omega) (by simpa[zx]using j8));refine grow 0 [] (by simp) (fun i1 h1=>by simp at h1) us.toArray (by simp) (KN ho ?_);rw[hv,vp,zx,<-hus];simpa using hr
   |some aa=>have hr:=NO (P:=P) (w:=w) t t' o.type e' i z hu' ja hz z7 (some aa) 0 0 [] (by simp) (by simp) (by simp) vo kk m hm z6 (by omega) (by omega) (growslice_fits (by omega) (by simpa[zx]using j8));refine grow 0 [] (by simp) (fun i1 h1=>by simp at h1) us.toArray (by simp) (KN ho ?_);rw[hv,vp,zx,<-hus];simpa using hr
  ·by_cases qb:cap=0
   ·subst qb;obtain rfl:lo=0:=by omega
    obtain rfl:hi=0:=by omega
    have has0:as=[]:=List.eq_nil_of_length_eq_zero (by omega);subst has0;have hr:=NO (P:=P) (w:=w) t t' o.type e' i z hu' ja hz z7 (some ⟨b1,o1+0*i.size,none⟩) 0 0 [] (by simp) (by simp) (by simp) vo kk m hm z6 (by omega) (by omega) (growslice_fits (by omega) (by simpa[zx]using j8));refine grow 0 [] (by simp) (fun i1 h1=>by simp at h1) us.toArray (by simp) (KN ho ?_);rw[hv,vp,zx,<-hus];simpa using hr
   ·obtain⟨cur,jd,q1,q2,q3,q4⟩:=JI h hg hμ (by omega);obtain⟨v0,v3,v1,v2⟩:=q4.view qz vm (by rw[q1];omega) ha;have hr:=NO (P:=P) (w:=w) t t' o.type e' i z hu' ja hz z7 (some ⟨b1,o1+lo*i.size,none⟩) (hi-lo) (cap-lo) (BS cur o1 i.size lo hi) v1 (fun q hq j v hv=>by
     cases hq;simp only[BS,List.getElem?_take,List.getElem?_drop]at hv;split at hv
     ·rw[Ei];simp[World.cell?,jd.heap];simpa using hv
     ·cases hv) (by simp) vo kk m hm z6 (by omega) (by omega) (growslice_fits (by omega) (by rw[zx]at j8;exact j8))
    refine grow (cap-lo) (BS cur o1 i.size lo hi) v1 v2 ((BS cur o1 i.size lo hi).toArray++us.toArray) (by simp) (KN ho ?_);rw[hv,vp,zx,<-hus];simpa using hr
theorem av(h:Rel GL n S M μ st a w){t t' e:TypeId}{ik:IntKind}{i:TypeInfo}{z:Value}{zi:I}{x y:Operand}{ox oy:O}(ho:o.op=.call {callee:=.builtin .append,args:=#[x,y],argTypes:=#[t,t']})
  (hd:o.dst=some d)(hn:d<n)(hx:cO GL x=some ox)(hy:cO GL y=some oy)(ht:P.underlying t=some (.slice e))(z7:P.underlying t'=some (.int ik))(hi:P.info? e=some i)(hz:i.zero=some z)(hc:Cb z=some zi)(kr:(cellsI zi).all I.one=true)
  (vo:z.cells.size=i.size)(vn:0<i.size)(hs:step P GL (.appz d e i.size i.bytes ox oy (cellsI zi)) st K):o.wpX P a w (Ar GL n S M w K) Q:=by
 have hr:=AB h hx;have zD:=AB h hy;have ve:Ai M (cellsI zi) z.cells.toList:=(Eg hc).cellsI;have hz1:z.cells.size=(cellsI zi).length:=by simpa using ve.1
 have h1:∀u∈z.cells.toList,u.oneCell'=true:=fun u hu=>by
  obtain⟨p,hp,rfl⟩:=List.getElem_of_mem hu;have hp':p<(cellsI zi).length:=by grind
  refine(ve.2 p hp' hp).oneCell ?_;grind
 simp only[step,IJ]at hs;split at hs
 ·rename_i nm k0 lo ja kk m e1 e2;rw[e1]at hr;rw[e2]at zD;have hv:=CC (AK zD);unfold Hs at hs;split at hs
  ·rename_i e' k' rs hg;obtain⟨h0,hm,z6,hs⟩:=hs;obtain⟨m,rfl⟩:∃q:Nat,m=(q:Int):=⟨m.toNat,by omega⟩;simp only[Int.toNat_natCast]at hs;exact au h (m:=m) rfl ve h1 hm z6 ho z7 hv hd hn hr ht hi hz rfl rfl vo vn hg hs
  ·exact hs.elim
 ·exact hs.elim
end
end Go.Dl
