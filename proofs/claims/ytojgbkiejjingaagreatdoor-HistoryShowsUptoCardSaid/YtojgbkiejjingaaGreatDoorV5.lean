/-Lemmas.-/
import Derived.Test.YtojgbkiejjingaaGreatDoorV4
set_option linter.all false
section
namespace Go.Dl
open Go Go.RowKit
section
variable {P:Program}{GL:List (Nat×List I)}{n:Nat}{S:Sh}{M:Mem}{μ:Place}{st:St}{a:Act}{w:World}{K:St->Prop}{Q:Exit->Act->World->Prop}{o:Oper}{d:Nat}
theorem gW(h:Rel GL n S M μ st a w){t:TypeId}{r:Option Operand}{ls:List LK}(ho:o.op=.makeMap t r)(hr:r=none)(hd:o.dst=some d)(hn:d<n)(hs:step P GL (.mkgm d ls) st K):o.wpX P a w (Aw GL n S M w K) Q:=by
 subst hr;simp only[step,K9]at hs;split at hs
 ·rename_i jl;have h0:Rel GL n S M μ st a (w.alloc (.map #[] 0)):=h.of (h.toStoOk.alloc _) (Mem.le_refl _) fun _ _ hv=>hv
  have h2:Rel GL n S M (BA μ d (.map (some w.heap.size))) (st.bind d (.gmap ls 0 [])) a (w.alloc (.map #[] 0)):=by
   refine h0.bindName jl hn ⟨w.heap.size,#[],Bh _ _ _,⟨fun hS=>by have:=h.low _ hS;omega,GA w _,Mem.unk_new h.sub (Zgu _)⟩,⟨rfl,fun j hj=>by simp at hj⟩,⟨by simp,by simp⟩,by simp⟩ fun m k hm hk=>?_
   have:=(h.toStoOk.lt hm hk).1;grind[An]
  refine B0 (v:=.map (some w.heap.size)) (w':=w.alloc (.map #[] 0)) ?_ ⟨_,hs,M,_,by rw[hd];exact h2.put hn ⟨D9,w.heap.size,Bh _ _ _,rfl⟩,MExt.refl _ _,FW w _ h.low⟩;simp[execOp,ho,Instr.makeMap]
 ·exact hs.elim
theorem SU{N:Nat->Prop}{c1:Cp}{x:I}{v1 v2:Value}(h1:B8 M μ N c1 v1)(h2:Rep M x v2):AD M μ N (.tup [c1,.i x]) (.tuple #[v1,v2]):=
 ⟨#[v1,v2],rfl,rfl,fun j a b=>by
  match j with
  |0=>exact h1
  |1=>exact h2
  |j+2=>simp at a;omega⟩
theorem SV(es:List (I×Nat×D))(q:I):Ec es q=DJ es q:=rfl
theorem gX(h:Rel GL n S M μ st a w){t k e:TypeId}{x ix:Operand}{ox oi:O}{ok:Bool}{ls:List LK}{i:TypeInfo}{z:Value}{zi:I}(ho:o.op=.lookup t x ix ok)(hd:o.dst=some d)(hn:d<n)(hx:cO GL x=some ox)(vp:cO GL ix=some oi)
  (hu:P.underlying t=some (.map k e))(hk:DI P k=some ls)(hi:P.info? e=some i)(hz:i.zero=some z)(hc:DH z=some zi)(hs:step P GL (.lookg d ox oi zi ok ls) st K):o.wpX P a w (Aw GL n S M w K) Q:=by
 have hr:=Az h hx;have jt:=Az h vp;have fall:EY (AZ GL st ox) (AZ GL st oi) zi ok ls d st K->o.wpX P a w (Aw GL n S M w K) Q:=fun hs=>WN h ho hd hn hx vp hu hk hi hz hc (by simpa only[step]using hs)
 simp only[step,IX]at hs;split at hs
 ·rename_i nm q e1 e2;rw[e1]at hr;rw[e2]at jt;obtain⟨hf,hs⟩:=hs;have jt:=AE jt;obtain⟨hN,b,hμ,hX⟩:=hr;unfold IW at hs;split at hs
  ·rename_i ls' clk es hg;obtain⟨rfl,hs⟩:=hs;obtain⟨b',xs,hμ',jc,he,hbb,qk⟩:=h.blk nm _ hg;rw[hμ]at hμ';cases hμ';have hck:=Oy (P:=P) (w:=w) hk jt hf;have qt:=Oz (P:=P) (w:=w) hk jt hf he.keys qk;have fin:∀(V:Value) (X:D),(Instr.lookup t (a.eval x) (a.eval ix) ok).run P w=.ok V w->AD M μ (names st.sto) X V->K (st.put d X)->o.wpX P a w (Aw GL n S M w K) Q:=fun V X jh hv hK=>
    AX h hd hn (by simp only[execOp,ho,Sem.run_bind,jh,Result.andThen_ok,Sem.run_pure]) hv hK
   simp only[Fs,SV]at hs;cases hm:DJ es q with
   |none=>
    rw[hm]at qt hs;simp only[ED]at hs;refine fin (if ok then .tuple #[z,.bool false]else z) _ ?_ ?_ hs
    ·simp only[Zhe]at qt;rw[hX];simp[Instr.lookup,Zaf hu,MapKept.run_getObj_map jc.heap,hck,qt,zeroValue,typeInfo,hi,hz]
    ·cases ok with
     |true=>exact AJ (Rep.tup' (Ak.cons (GH hc) (Ak.cons (.bool _) (Ak.nil M))))
     |false=>exact AJ (GH hc)
   |some j=>
    have hj:=OA hm;have jp:j<xs.size:=by have:=he.1;simp at this;omega
    rw[hm]at qt hs;simp only[Zd2 hj,Zhn,ED]at hs;have hv:=(he.2 j hj (by simpa using jp)).2.2;have jh:(Instr.lookup t (a.eval x) (a.eval ix) ok).run P w=.ok (if ok then .tuple #[xs.toList[j].val,.bool true]else xs.toList[j].val) w:=by simp only[Zhf,Zd2 (show j<xs.toList.length by simpa using jp),Zhn]at qt;rw[hX];simp[Instr.lookup,Zaf hu,MapKept.run_getObj_map jc.heap,hck,qt]
    cases ok with
    |true=>
     simp only[Zad]at hs jh;split at hs
     ·rename_i c hcp;exact fin _ _ jh (SU (Sw hv hcp) (Rep.bool true)) hs
     ·exact hs.elim
    |false=>simp only[Zb4,Zag]at hs jh;exact fin _ _ jh hv hs
  ·refine fall ?_;rw[e1,e2];exact⟨hf,hs⟩
 ·exact fall hs
theorem WQ(h:Rel GL n S M μ st a w){t k e:TypeId}{x ix y:Operand}{ox oi oy:O}{ls:List LK}(ho:o.op=.mapUpdate t x ix y\/o.op=.insert t x ix y)(hd:o.dst=none)(hx:cO GL x=some ox)(vp:cO GL ix=some oi)(hy:cO GL y=some oy)
  (hu:P.underlying t=some (.map k e))(hk:DI P k=some ls)(hs:step P GL (.mupdg ox oi oy ls) st K):o.wpX P a w (Aw GL n S M w K) Q:=by
 have hr:=Az h hx;have jt:=Az h vp;have wn:=Az h hy;simp only[step,Lb]at hs;split at hs
 ·rename_i nm q e1 e2;obtain⟨hf,hs⟩:=hs;unfold IY at hs;split at hs
  ·rename_i v ls' clk es hg;rw[e1]at hr;rw[e2]at jt;have jt:=AE jt;obtain⟨hN,b,hμ,hX⟩:=hr;obtain⟨rfl,hs⟩:=hs;obtain⟨b',xs,hμ',jc,he,hbb,qk⟩:=h.blk nm _ hg;rw[hμ]at hμ';cases hμ';have hck:=Oy (P:=P) (w:=w) hk jt hf false;have qt:=Oz (P:=P) (w:=w) hk jt hf he.keys qk;have fin:∀(xs':Array MapEntry) (clk':Nat) (es':List (I×Nat×D)),(Instr.mapUpdate t (a.eval x) (a.eval ix) (a.eval y)).run P w=.ok () (putObj w b (.map xs' clk'))->Hj M μ (names st.sto) xs'.toList es'->Gz xs'.toList clk'->(∀e∈es',Ay ls' e.1=true)->
     K (st.setB nm (.gmap ls' clk' es'))->o.wpX P a w (Aw GL n S M w K) Q:=fun xs' clk' es' jh q1 q2 q3 hK=>by
    have qm:=MJ w b (.map xs' clk') jc.low;refine MG (w':=putObj w b (.map xs' clk')) ?_ ⟨_,hK,M,μ,?_,MExt.refl _ _,qm⟩
    ·rcases ho with ho|ho<;>simp only[execOp,ho,Sem.run_bind,jh,Result.andThen_ok,Sem.run_pure]
    ·rw[hd];exact h.setBlk (blk':=.gmap ls' clk' es') hg (by rw[hμ];rfl) qm.size (fun k hk _=>Lm hk) ⟨b,xs',hμ,⟨jc.low,MI jc.heap,jc.unk⟩,by rw[CC];exact q1,q2,q3⟩
   simp only[On,SV]at hs;cases hj:DJ es q with
   |none=>
    rw[hj]at hs qt;simp only at hs;refine fin (xs.push {key:=a.eval ix,val:=a.eval y,born:=clk}) (clk+1) _ ?_ ?_ (SR hbb _ _) (fun e he=>(Ze9.1 he).elim (qk e) (fun q=>by simp at q;subst q;exact hf)) hs
    ·simp only[Zhe]at qt;simp[Instr.mapUpdate,Zaf hu,hX,MapKept.run_getObj_map jc.heap,hck,qt,MapKept.run_setObj_map _ jc.heap,putObj]
    ·simp only[Zbw];refine⟨by simp[he.1],fun j h1 h2=>?_⟩;by_cases qx:j<es.length
     ·rw[Zea qx,Zea (by rw[he.1];exact qx)];exact he.2 j qx _
     ·obtain rfl:j=es.length:=by simp at h1;omega
      rw[Zeb (by omega),Zeb (by rw[he.1];omega)];have w9:=he.1;simp only[Zg5,Zed,w9];exact⟨jt,trivial,wn⟩
   |some j=>
    have qx:=OA hj;have hjx:j<xs.size:=by have:=he.1;simp at this;omega
    rw[hj]at hs qt;simp only at hs;have hj2:=he.2 j qx (by simpa using hjx);have xa:=SP hj2.1 jt (qk _ (Zef qx)) hf (SQ hj qx);refine fin (xs.modify j fun e=>{e with key:=a.eval ix,val:=a.eval y}) clk _ ?_ ?_ (Qf hbb _ _ (fun _=>rfl)) (fun e he=>?_) hs
    ·simp only[Zhf,Zbn,Zbh hjx,Zhn]at qt;simp only[Zbq]at xa;simp[Instr.mapUpdate,Zaf hu,hX,MapKept.run_getObj_map jc.heap,hck,qt,Instr.keyThatStays,hjx,xa,MapKept.run_setObj_map _ jc.heap,putObj]
    ·refine⟨by simp;simpa using he.1,fun i h1 h2=>?_⟩;have hi1:i<es.length:=by grind
     have jx:i<xs.size:=by grind
     have:=he.2 i hi1 (by simpa using jx);simp only[Zbq,Zbo,Zeg];by_cases hji:j=i
     ·subst hji;simp only[Zad];exact⟨jt,by simpa using this.2.1,wn⟩
     ·rw[Zac hji,Zac hji];simpa using this
    ·obtain⟨i,hi1,rfl⟩:=Zeh he;rw[Zeg];split
     ·exact hf
     ·exact qk _ (Zef _)
  ·rename_i ls' es u hg e3;refine SS h ho hd hx vp hy hu hk ?_;simp only[step,H4,e1,e2,e3,hg,IU];exact⟨hf,hs⟩
  ·exact hs.elim
 ·exact hs.elim
theorem gY{z:Value}(h:DH z=some (.sl [])):z=.slice none 0 0:=by
 unfold DH at h;split at h
 ·simp only[Zhl]at h;obtain⟨_,_,h⟩:=h;cases h
 ·unfold I3 at h;split at h<;>cases h;rfl
theorem gZ(d clk:Nat):¬pinned (Ar d clk):=by grind[pinned,Ar]
theorem g9(h:Rel GL n S M μ st a w){t k e:TypeId}{x ix:Operand}{ox oi:O}{ls:List LK}{i:TypeInfo}{z:Value}{zi:I}{ee kk:Nat}(ho:o.op=.mapEntry t x ix)(hd:o.dst=some d)(hn:d<n)(hx:cO GL x=some ox)(vp:cO GL ix=some oi)
  (hu:P.underlying t=some (.map k e))(hk:DI P k=some ls)(hi:P.info? e=some i)(hz:i.zero=some z)(hc:DH z=some zi)(hs:step P GL (.ment d ox oi zi ls ee kk) st K):o.wpX P a w (Aw GL n S M w K) Q:=by
 have hr:=Az h hx;have jt:=Az h vp;simp only[step,JW]at hs;split at hs
 ·rename_i nm q e1 e2;obtain⟨hf,hs⟩:=hs;rw[e1]at hr;rw[e2]at jt;have jt:=AE jt;obtain⟨hN,b,hμ,hX⟩:=hr;unfold JV at hs;split at hs
  ·rename_i ls' clk es hg;obtain⟨rfl,hs⟩:=hs;obtain⟨b',xs,hμ',jc,he,hbb,qk⟩:=h.blk nm _ hg;rw[hμ]at hμ';cases hμ';have hck:=Oy (P:=P) (w:=w) hk jt hf false;have qt:=Oz (P:=P) (w:=w) hk jt hf he.keys qk;rw[SV]at hs;cases hj:DJ es q with
   |none=>
    rw[hj]at hs qt;simp only at hs;unfold IZ at hs;split at hs
    ·rename_i hfr;have hzv:=gY hc;subst hzv;have hb:=h.bindEmptyN hfr (gZ d clk) none ee kk;have qm:=MJ w b (.map (xs.push {key:=a.eval ix,val:=.slice none 0 0,born:=clk}) (clk+1)) jc.low;have jg:nm≠Ar d clk:=fun e=>by grind
     have hμ2:BA μ (Ar d clk) (.slice none 0 0) nm=.map (some b):=by grind[CD]
     have hg2:Aa (st.bind (Ar d clk) (.rows ee kk [])).sto nm=some (.gmap ls' clk es):=by grind[St.bind,Aa]
     have he2:Hj M (BA μ (Ar d clk) (.slice none 0 0)) (names ((Ar d clk,.rows ee kk [])::st.sto)) xs.toList es:=he.mono (Mem.le_refl _) fun e _ m _ hm=>⟨FX m hm,CD _ _ fun e=>by subst e;simp[names,hfr]at hm⟩
     have hz0:BF (BA μ (Ar d clk) (.slice none 0 0)) (names ((Ar d clk,.rows ee kk [])::st.sto)) (.sl (Ar d clk) kk 0 0) (.slice none 0 0):=⟨D9,by rw[Bh];exact J5 _ _⟩;have qa:Rel GL n S M (BA μ (Ar d clk) (.slice none 0 0)) ((st.bind (Ar d clk) (.rows ee kk [])).setB nm (.gmap ls' (clk+1) (es++[(q,clk,.ref (.sl (Ar d clk) kk 0 0))]))) a (putObj w b (.map (xs.push {key:=a.eval ix,val:=.slice none 0 0,born:=clk}) (clk+1))):=by
      refine hb.setBlk (blk':=.gmap ls' (clk+1) (es++[(q,clk,.ref (.sl (Ar d clk) kk 0 0))])) hg2 (by rw[hμ2];rfl) qm.size (fun k hk _=>Lm hk) ⟨b,_,hμ2,⟨jc.low,MI jc.heap,jc.unk⟩,?_,SR hbb _ _,fun e he=>(Ze9.1 he).elim (qk e) (fun q=>by simp at q;subst q;exact hf)⟩;rw[CC];simp only[Zbw];refine⟨by simp[he2.1],fun j h1 h2=>?_⟩;by_cases qx:j<es.length
      ·rw[Zea qx,Zea (by rw[he2.1];exact qx)];exact he2.2 j qx _
      ·obtain rfl:j=es.length:=by grind
       rw[Zeb (by omega),Zeb (by rw[he2.1];omega)];have w9:=he2.1;simp only[Zg5,Zed,w9];exact⟨jt,trivial,hz0⟩
     refine B0 (v:=.tuple #[.slice none 0 0,goInt clk]) (w':=putObj w b (.map (xs.push {key:=a.eval ix,val:=.slice none 0 0,born:=clk}) (clk+1))) ?_ ⟨_,hs,M,_,by
      rw[hd];refine qa.put hn (SU ?_ (Rep.int .i64 (clk:Int)));simp only[St.setB,St.bind];rw[CC];exact hz0,MExt.refl _ _,qm⟩
     simp only[Zhe]at qt;simp[execOp,ho,Instr.mapEntry,Zaf hu,hX,MapKept.run_getObj_map jc.heap,hck,qt,zeroValue,typeInfo,hi,hz,MapKept.run_setObj_map _ jc.heap,putObj]
    ·exact hs.elim
   |some j=>
    have qx:=OA hj;have hjx:j<xs.size:=by have:=he.1;simp at this;omega
    rw[hj]at hs qt;simp only[Zd2 qx,I0]at hs;have hj2:=he.2 j qx (by simpa using hjx);have xa:=SP hj2.1 jt (qk _ (Zef qx)) hf (SQ hj qx);split at hs
    ·rename_i c hcp;have qm:=MJ w b (.map (xs.modify j fun e=>{e with key:=a.eval ix}) clk) jc.low;have qa:Rel GL n S M μ (st.setB nm (.gmap ls' clk (es.modify j fun e=>(q,e.2)))) a (putObj w b (.map (xs.modify j fun e=>{e with key:=a.eval ix}) clk)):=by
      refine h.setBlk (blk':=.gmap ls' clk (es.modify j fun e=>(q,e.2))) hg (by rw[hμ];rfl) qm.size (fun k hk _=>Lm hk) ⟨b,_,hμ,⟨jc.low,MI jc.heap,jc.unk⟩,?_,Qf hbb _ _ (fun _=>rfl),fun e he=>?_⟩
      ·rw[CC];refine⟨by simp;simpa using he.1,fun i h1 h2=>?_⟩;have hi1:i<es.length:=by grind
       have jx:i<xs.size:=by grind
       have:=he.2 i hi1 (by simpa using jx);grind
      ·obtain⟨i,hi1,rfl⟩:=Zeh he;grind
     refine B0 (v:=.tuple #[xs[j].val,goInt xs[j].born]) (w':=putObj w b (.map (xs.modify j fun e=>{e with key:=a.eval ix}) clk)) ?_ ⟨_,hs,M,μ,by
      rw[hd];have e9:xs[j].born=es[j].2.1:=by grind
      rw[show goInt xs[j].born=Value.int .i64 (es[j].2.1:Int) by rw[e9];rfl];refine qa.put hn (SU ?_ (Rep.int .i64 _));have:=Sw hj2.2.2 hcp;simp only[St.setB];rw[CC];simpa using this,MExt.refl _ _,qm⟩
     simp only[Zhf,Zbn,Zbh hjx,Zhn]at qt;simp only[Zbq]at xa;simp[execOp,ho,Instr.mapEntry,Zaf hu,hX,MapKept.run_getObj_map jc.heap,hck,qt,Instr.keyThatStays,hjx,xa,MapKept.run_setObj_map _ jc.heap,putObj]
    ·exact hs.elim
  ·exact hs.elim
 ·exact hs.elim
theorem hJ(h:Rel GL n S M μ st a w){t:TypeId}{x s y:Operand}{ox os oy:O}(ho:o.op=.entryStore t x s y)(hd:o.dst=none)(hx:cO GL x=some ox)(hsx:cO GL s=some os)(hy:cO GL y=some oy)
  (hs:step P GL (.ests ox os oy) st K):o.wpX P a w (Aw GL n S M w K) Q:=by
 have hr:=Az h hx;have hrs:=Az h hsx;have wn:=Az h hy;simp only[step,Lc]at hs;split at hs
 ·rename_i nm kk sn e1 e2;rw[e1]at hr;rw[e2]at hrs;have hsv:=Ce (AE hrs);obtain⟨hN,b,hμ,hX⟩:=hr;unfold JX at hs;split at hs
  ·rename_i ls clk es hg;obtain⟨hany,hs⟩:=hs;obtain⟨b',xs,hμ',jc,he,hbb,qk⟩:=h.blk nm _ hg;rw[hμ]at hμ';cases hμ';rw[Zcz]at hany;obtain⟨e0,hm0,hb0⟩:=hany;obtain⟨j,hj,rfl⟩:=Zeh hm0;have hjx:j<xs.size:=by have:=he.1;simp at this;omega
   have hbj:xs[j].born=es[j].2.1:=by have:=(he.2 j hj (by simpa using hjx)).2.1;rw[Zbq]at this;exact this
   have hsn:sn=(es[j].2.1:Int):=(beq_iff_eq.1 hb0).symm;have huniq:∀i (hi:i<xs.size),xs[i].born=xs[j].born->i=j:=fun i hi e=>by
    have hnd:=hbb.1;have ja:i<(xs.toList.map (·.born)).length:=by grind
    have jp:j<(xs.toList.map (·.born)).length:=by grind
    rw[Zfv,Zfz]at hnd;grind
   have hfi:xs.findIdx? (fun e=>(e.born:Int)==sn)=some j:=by rw[Array.findIdx?_eq_some_iff_getElem];grind
   have qm:=MJ w b (.map (xs.modify j fun e=>{e with val:=a.eval y}) clk) jc.low;have qa:Rel GL n S M μ (st.setB nm (.gmap ls clk (es.map fun e=>if((e.2.1:Int)==sn)=true then(e.1,e.2.1,AZ GL st oy)else e))) a (putObj w b (.map (xs.modify j fun e=>{e with val:=a.eval y}) clk)):=by
    refine h.setBlk (blk':=.gmap ls clk (es.map fun e=>if((e.2.1:Int)==sn)=true then(e.1,e.2.1,AZ GL st oy)else e)) hg (by rw[hμ];rfl) qm.size (fun k hk _=>Lm hk) ⟨b,_,hμ,⟨jc.low,MI jc.heap,jc.unk⟩,?_,Qf hbb _ _ (fun _=>rfl),fun e he=>?_⟩
    ·rw[CC];refine⟨by simp;simpa using he.1,fun i h1 h2=>?_⟩;have hi1:i<es.length:=by grind
     have jx:i<xs.size:=by grind
     have:=he.2 i hi1 (by simpa using jx);grind
    all_goals grind
   refine MG (w':=putObj w b (.map (xs.modify j fun e=>{e with val:=a.eval y}) clk)) ?_ ⟨_,hs,M,μ,by rw[hd];exact qa,MExt.refl _ _,qm⟩;simp[execOp,ho,Instr.entryStore,hX,hsv,asInt,asIntOf,MapKept.run_getObj_map jc.heap,hfi,MapKept.run_setObj_map _ jc.heap,putObj]
  ·exact hs.elim
 ·exact hs.elim
theorem hZ(h:Rel GL n S M μ st a w){t e:TypeId}{x:Operand}{ox:O}(ho:o.op=.call {callee:=.builtin .cap,args:=#[x],argTypes:=#[t]})(hd:o.dst=some d)(hn:d<n)
  (hx:cO GL x=some ox)(hu:P.underlying t=some (.slice e))(hs:step P GL (.cap d ox) st K):o.wpX P a w (Aw GL n S M w K) Q:=by
 have hr:=Az h hx;simp only[step,Ld]at hs;split at hs
 ·rename_i nm k0 lo hi e1;rw[e1]at hr;obtain⟨hN,aa,cap,hμ,qi,km,qq⟩:=hr;have hv:∃A l,a.eval x=.slice A l (cap-lo):=by
   rcases qq with⟨rfl,a',hv⟩|⟨b,oo,rfl,hv⟩
   all_goals grind
  obtain⟨A,l,hv⟩:=hv;have jh:(execOp a.eval o).run P w=.ok (.value (.int .i64 ((cap-lo:Nat):Int))) w:=by simp only[execOp,ho,resolve,Sem.run_bind,Sem.run_pure,Result.andThen_ok,invoke,builtin,Ze8,Ze1,Ze5,hv];simp[Builtin.cap_,Zaf hu w,goInt]
  unfold JY at hs;split at hs
  ·rename_i e' k' rs hg;rw[Lk h hg hμ]at hs;exact AX h hd hn jh (AJ (.int .i64 _)) hs
  ·exact AX h hd hn jh (AJ (.int .i64 _)) (hs (cap-lo) (by omega))
  ·exact hs.elim
 ·exact hs.elim
theorem WR{t t':TypeId}{x y:Operand}{v':Value}{w':World}(ho:o.op=.call {callee:=.builtin .copy,args:=#[x,y],argTypes:=#[t,t']})
  (h:(Builtin.copy_ #[t,t'] o.type #[a.eval x,a.eval y]).run P w=.ok v' w'):(execOp a.eval o).run P w=.ok (.value v') w':=by
 simp only[execOp,ho,resolve,Sem.run_bind,Sem.run_pure,Result.andThen_ok,invoke,builtin,Ze8,Ze1,Ze5,h]
theorem SW{t:TypeId}{x:Operand}{v':Value}{w':World}(ho:o.op=.call {callee:=.builtin .clear,args:=#[x],argTypes:=#[t]})
  (h:(Builtin.clear_ #[t] o.type #[a.eval x]).run P w=.ok v' w'):(execOp a.eval o).run P w=.ok (.value v') w':=by
 simp only[execOp,ho,resolve,Sem.run_bind,Sem.run_pure,Result.andThen_ok,invoke,builtin,Ze8,Ze1,Ze5,h]
theorem ic(dT sT ty e k:TypeId)(hu:P.underlying dT=some (.slice e))(hk:PY P e=some k)(g og dLen dCap:Nat)(bb:Addr)(sLen sCap:Nat)(cur:Array Value)(t:TypeId)(us:List Value)
  (hg:w.heap[g]? =some (.cells cur t (0,0)))(qg:us.length=Nat.min sLen dLen*k)(hsrc:∀j u,us[j]? =some u->w.cell? (bb.add j)=some u)(kd:og+us.length<=cur.size)(h1:∀u∈us,u.oneCell'=true):
  (Builtin.copy_ #[dT,sT] ty #[.slice (some ⟨g,og,none⟩) dLen dCap,.slice (some bb) sLen sCap]).run P w=.ok (goInt (Nat.min sLen dLen)) (w.setRow g (setL cur.toList og us).toArray):=by
 have hf:=Zam (P:=P) w k (Nat.min sLen dLen) bb sLen sCap us qg hsrc;have jf:=Zak P g og t us 0 cur w hg (by simpa using kd) h1;simp only[Zgn]at jf;have hs:=EE (P:=P) hk;simp[Builtin.copy_,Zaf hu,Builtin.lenOf,hs,hf,jf,setL]
theorem ie(dT sT ty e k:TypeId)(hu:P.underlying dT=some (.slice e))(hk:PY P e=some k)(A B:Option Addr)(dLen dCap sLen sCap:Nat)(h0:Nat.min sLen dLen=0):
  (Builtin.copy_ #[dT,sT] ty #[.slice A dLen dCap,.slice B sLen sCap]).run P w=.ok (goInt 0) w:=by
 have hs:=EE (P:=P) hk;have hl:∀(x:Addr),(loadCells x 0).run P w=.ok #[] w:=fun x=>by rfl
 cases A<;>cases B<;>simp[Builtin.copy_,Zaf hu,Builtin.lenOf,Builtin.firstCells,hs,h0,storeCells,hl]
theorem Rel.setSame(h:Rel GL n S M μ st a w){nm:Nat}{b:Blk}(hg:Aa st.sto nm=some b):Rel GL n S M μ (st.setB nm b) a w:=by
 refine h.of (st':=st.setB nm b) ⟨h.sub,fun m x hx=>?_,fun m m' k k' jg h1 h2=>?_,h.low⟩ (Mem.le_refl _) fun s v hv=>by grind[St.setB,CC]
 ·simp only[St.setB,CO]at hx⊢;rw[CC];split at hx
  ·rename_i e;subst e;rw[hg]at hx;cases hx;exact h.blk _ _ hg
  ·exact h.blk _ _ hx
 ·simp only[St.setB,CC]at h1 h2;exact h.sep m m' k k' jg h1 h2
theorem Rel.putO(h:Rel GL n S M μ st a w){od:Option Nat}(hd:∀d,od=some d->d<n){x:D}{v:Value}(hx:AD M μ (names st.sto) x v):Rel GL n S M μ (Dl.putO st od x) (a.put od v) w:=by
 cases od with
 |none=>exact h
 |some d=>exact h.put (hd d rfl) hx
theorem ig(h:Rel GL n S M μ st a w){Y:D}{v:Value}(hr:AD M μ (names st.sto) Y v){top len:Nat}{ys:List (List I)}(hs:H5 (Aa st.sto) Y top=some (len,ys)){k:Nat}(hk:Lf k ys):
  ys.length=min len top/\(∃A c,v=.slice A len c)/\(ys≠[]->∃bb oo ycap,∃us:List Value,v=.slice (some ⟨bb,oo,none⟩) len ycap/\us.length=ys.length*k/\(∀j u,us[j]? =some u->w.cell? ⟨bb,oo+j,none⟩=some u)/\(∀u∈us,u.oneCell'=true)/\
   ∀i (hi:i<ys.length) j (hj:j<ys[i].length),∃u,us[i*k+j]? =some u/\Rep M (ys[i][j]) u):=by
 cases Y with
 |i x=>
  cases x with
  |sl rows=>
   simp only[H5,Zhp,Zhr]at hs;obtain⟨rfl,rfl⟩:=hs;have hr:Rep M (.sl rows) v:=hr;have qq:∃A c,v=.slice A rows.length c:=by
    cases hr with
    |slnil=>exact⟨_,_,rfl⟩
    |slempty=>exact⟨_,_,rfl⟩
    |sl=>exact⟨_,_,rfl⟩
   refine⟨by rw[Zex,Nat.min_comm],qq,fun jg=>?_⟩;cases hr with
   |slnil=>simp at jg
   |slempty=>simp at jg
   |sl _ k' b oo cap vv jk hc hm hrr=>
    have ju:0<(rows.take top).length:=Zev.2 jg;have kh:Rep M (.sl (rows.take top)) (.slice (some ⟨b,oo,none⟩) (rows.take top).length cap):=
     Rep.sl (rows.take top) k' b oo cap vv (fun r hr=>jk r (Zfl hr)) (by rw[Zex];omega)
      (fun i hi j hj=>by rw[List.getElem_take]at hj;exact hm i (by rw[Zex]at hi;omega) j hj)
      (fun i hi j hj=>by have jp:=hj;rw[List.getElem_take]at jp;have:=hrr i (by rw[Zex]at hi;omega) j jp;simpa using this)
    obtain⟨_,s2⟩:=SJ (Y:=.i (.sl (rows.take top))) h (AJ kh) rfl hk;obtain⟨bb,o2,yc,us,e1,q⟩:=s2 jg;injection e1 with e1 e2 e3
    injection e1 with e1;injection e1 with e4 e5
    subst e4;subst e5;exact⟨b,oo,cap,us,rfl,q⟩
  |_=>simp[H5]at hs
 |ref r=>
  cases r with
  |sl nm k0 lo hi=>
  simp only[H5]at hs;split at hs
  rotate_left
  ·cases hs
  rename_i r xa;simp only[Zhp,Zhr]at hs;obtain⟨rfl,rfl⟩:=hs;obtain⟨hN,aa,cap,hμ,qi,km,qq⟩:=hr;have hsl2:∃A c,v=.slice A (hi-lo) c:=by
   rcases qq with⟨rfl,a',hv⟩|⟨b,o,rfl,hv⟩
   ·exact⟨_,_,by rw[hv];congr 1;omega⟩
   ·exact⟨_,_,hv⟩
  have je:r.length=min (hi-lo) top:=by
   unfold Le at xa;split at xa
   ·split at xa
    ·rename_i hc;cases xa;simp;omega
    ·cases xa
   ·split at xa
    ·rename_i hc;have:=Zae List.length (Ow xa);simp at this;omega
    ·cases xa
   ·cases xa
  refine⟨je,hsl2,fun jg=>?_⟩;have ju:0<r.length:=Zev.2 jg;rcases qq with⟨rfl,a',hv⟩|⟨b,o,rfl,hv⟩
  ·omega
  ·have hr2:AD M μ (names st.sto) (.ref (.sl nm k0 lo (min hi (lo+top)))) (.slice (some ⟨b,o+lo*k0,none⟩) (min hi (lo+top)-lo) (cap-lo)):=
    ⟨hN,_,cap,hμ,by omega,by omega,.inr ⟨b,o,rfl,rfl⟩⟩
   obtain⟨_,s2⟩:=SJ h hr2 (by simp only[GF];exact xa) hk;obtain⟨bb,o2,yc,us,e1,q⟩:=s2 jg;injection e1 with e1 e2 e3
   injection e1 with e1;injection e1 with e4 e5
   subst e4;subst e5;exact⟨b,o+lo*k0,cap-lo,us,hv,q⟩
  |_=>simp[H5]at hs
 |_=>simp[H5]at hs
theorem ii(h:Rel GL n S M μ st a w){t t' e k:TypeId}{x y:Operand}{ox oy:O}(ho:o.op=.call {callee:=.builtin .copy,args:=#[x,y],argTypes:=#[t,t']})(hd:∀d,o.dst=some d->d<n)
  (hx:cO GL x=some ox)(hy:cO GL y=some oy)(hu:P.underlying t=some (.slice e))(hk:PY P e=some k)(hs:step P GL (.cpy o.dst ox oy e k) st K):o.wpX P a w (Aw GL n S M w K) Q:=by
 have hr:=Az h hx;have wn:=Az h hy;simp only[step,Lg]at hs;split at hs
 ·rename_i nm k0 lo hi e1;rw[e1]at hr;obtain⟨hN,aa,cap,hμ,qi,km,qq⟩:=hr;unfold JZ at hs;split at hs
  ·rename_i e' k' rs len ys hg hsrc;obtain⟨rfl,rfl,rfl,qw,kt,hs⟩:=hs;obtain⟨hyl,⟨A0,c0,hyv0⟩,s2⟩:=ig h wn hsrc kt;have vw:=Lk h hg hμ;have vq:Nat.min len (hi-lo)=min len (hi-lo):=rfl;by_cases h0:min len (hi-lo)=0
   ·have hz:ys.map some=[]:=by have:ys=[]:=Zdf (by omega);rw[this];rfl
    rw[hz,Qa,h0]at hs;have jh:(execOp a.eval o).run P w=.ok (.value (goInt 0)) w:=by
     refine WR ho ?_;have hxv:∃A l c,a.eval x=.slice A l c/\l=hi-lo:=by
      rcases qq with⟨rfl,a',hv⟩|⟨b1,o1,rfl,hv⟩
      ·exact⟨_,_,_,hv,by omega⟩
      ·exact⟨_,_,_,hv,rfl⟩
     obtain⟨A,l,c,hxv,rfl⟩:=hxv;rw[hxv,hyv0];exact ie t t' _ _ _ hu hk _ _ _ _ _ _ h0
    exact B0 jh ⟨_,hs,M,μ,(h.setSame hg).putO hd (AJ (.int .i64 0)),MExt.refl _ _,Keeps.refl _ _⟩
   ·have jg:ys≠[]:=fun e=>by subst e;simp at hyl;omega
    obtain⟨bb,oo,ycap,us,vi,qg,hum,huo,hur⟩:=s2 jg;rcases qq with⟨rfl,a',hv⟩|⟨b1,o1,rfl,hv⟩
    ·omega
    ·obtain⟨cur,jc,q1,q2,q3,q4⟩:=Lj h hg hμ (by omega);have hbo:An (μ nm)=some b1:=by rw[hμ];simp only[An];rw[Zac (by omega)]
     generalize hm:min len (hi-lo)=m at h0 hs vq hyl;have hmh:m<=hi-lo:=by omega
     have hul2:us.length=m*k0:=by rw[qg,hyl]
     have hmul:lo*k0+m*k0<=hi*k0:=by rw[<-Zgm];exact Zg4 _ (by omega)
     have hhc:hi*k0<=cap*k0:=Zg4 _ km;have jh:=ic (P:=P) (w:=w) t t' o.type e' k0 hu hk b1 (o1+lo*k0) (hi-lo) (cap-lo) ⟨bb,oo,none⟩ len ycap cur e' us jc.heap (by rw[hul2,vq]) (fun j u hu=>by rw[EZ];exact hum j u hu) (by rw[hul2];omega) huo;rw[vq]at jh;have qm:=JL w b1 (setL cur.toList (o1+lo*k0) us).toArray jc.low;have qa:=q4.set (by rw[q1];omega) (lo:=lo) (bs:=ys) (us:=us) kt.1 qg hur (by omega);have qv:(setL rs lo (ys.map some)).length=rs.length:=CP _ _ _ (by rw[Zes];omega);have k9:Rel GL n S M μ (st.setB nm (.arr e' k0 (setL rs lo (ys.map some)))) a (w.setRow b1 (setL cur.toList (o1+lo*k0) us).toArray):=by
      refine h.setBlk (blk':=.arr e' k0 (setL rs lo (ys.map some))) hg hbo qm.size (fun q hq _=>Zab w b1 q _ hq) ⟨some ⟨b1,o1,none⟩,by rw[qv];rw[hμ,vw],.inr ⟨b1,o1,(setL cur.toList (o1+lo*k0) us).toArray,rfl,?_,⟨jc.low,Zal w b1 cur _ e' _ jc.heap,jc.unk⟩,by rw[qv,q1];exact q2,?_,qa⟩⟩
      ·intro e;rw[e]at qv;simp at qv;omega
      ·rw[qv,q1];simp only[Zf6];rw[CP _ _ _ (by rw[hul2];simp;omega)];simpa using q3
     exact B0 (WR ho (by rw[hv,vi];exact jh)) ⟨_,hs,M,μ,k9.putO hd (AJ (.int .i64 (m:Int))),MExt.refl _ _,qm⟩
  ·exact hs.elim
 ·exact hs.elim
theorem ij{α β:Type}(f:α->β)(l:List α)(o:Nat)(us:List α):setL (l.map f) o (us.map f)=(setL l o us).map f:=by simp[setL]
theorem Qg{cur:Array Value}{o k:Nat}{rs:List (List I)}:Ex M cur o k rs↔Hk M cur o k (rs.map some):=by
 constructor
 ·rintro⟨h1,h2⟩ i r hr;grind
 ·intro h;refine⟨fun r hr=>?_,fun i hi j hj=>?_⟩
  ·obtain⟨i,hi,rfl⟩:=Zeh hr;exact(h i _ (by rw[Zd5,Zd2 hi];rfl)).1
  ·exact(h i _ (by rw[Zd5,Zd2 hi];rfl)).2 j hj
theorem il(zs:Array Value)(m i j:Nat)(hi:i<m)(hj:j<zs.size):(Builtin.zeroCells zs m).toList[i*zs.size+j]? =some zs[j]:=by
 have jn:i*zs.size+j<m*zs.size:=by have:(i+1)*zs.size<=m*zs.size:=Zg4 _ hi;grind
 have hmod:(i*zs.size+j)%zs.size=j:=by rw[Zg2,Nat.mul_add_mod,Nat.mod_eq_of_lt hj]
 have hl:(Builtin.zeroCells zs m).size=m*zs.size:=Zap zs m;rw[Zbn,Zbh (by omega)];simp only[Builtin.zeroCells,Array.getElem_map,Zbp,hmod,getElem!_pos,hj]
theorem Qh{z:List I}{zs:Array Value}(hz:Ak M z zs.toList)(m:Nat):∀i (hi:i<(List.replicate m z).length) j (hj:j<(List.replicate m z)[i].length),∃u,(Builtin.zeroCells zs m).toList[i*z.length+j]? =some u/\Rep M ((List.replicate m z)[i][j]) u:=fun i hi j hj=>by
 have j0:zs.size=z.length:=by simpa using hz.1
 simp only[List.getElem_replicate]at hj⊢;simp only[Zew]at hi;refine⟨zs[j]'(by omega),by rw[<-j0];exact il zs m i j hi (by omega),?_⟩;have:=hz.2 j hj (by simpa using(show j<zs.size by omega));grind
theorem SX{zs:Array Value}(h1:∀u∈zs.toList,u.oneCell'=true)(m:Nat):∀u∈(Builtin.zeroCells zs m).toList,u.oneCell'=true:=fun u hu=>by
 obtain⟨p,hp,rfl⟩:=Zeh hu;have hp':p<m*zs.size:=by simpa[Zap]using hp
 have ju:0<zs.size:=Nat.pos_of_ne_zero fun h=>by grind
 have hmod:=Zg1 p ju;have:(Builtin.zeroCells zs m).toList[p]=zs[p%zs.size]:=by simp only[Zbq,Builtin.zeroCells,Array.getElem_map,Zbp,getElem!_pos,hmod]
 grind
theorem WS(t ty e:TypeId)(i:TypeInfo)(z:Value)(ht:P.underlying t=some (.slice e))(hi:P.info? e=some i)(hz:i.zero=some z)(g og m c:Nat)(hm:m≠0)(cur:Array Value)(tt:TypeId)(hg:w.heap[g]? =some (.cells cur tt (0,0)))
  (kd:og+m*z.cells.size<=cur.size)(h1:∀u∈z.cells.toList,u.oneCell'=true):
  (Builtin.clear_ #[t] ty #[.slice (some ⟨g,og,none⟩) m c]).run P w=.ok (.tuple #[]) (w.setRow g (setL cur.toList og (Builtin.zeroCells z.cells m).toList).toArray):=by
 have jf:=Zak P g og tt (Builtin.zeroCells z.cells m).toList 0 cur w hg (by have:=Zap z.cells m;simp[this];omega) (SX h1 m);simp only[Zgn]at jf;obtain⟨m,rfl⟩:∃q,m=q+1:=⟨m-1,by omega⟩;simp[Builtin.clear_,Zaf ht,zeroValue,typeInfo,hi,hz,jf,setL]
theorem im(t ty e:TypeId)(ht:P.underlying t=some (.slice e))(A:Option Addr)(c:Nat):(Builtin.clear_ #[t] ty #[.slice A 0 c]).run P w=.ok (.tuple #[]) w:=by cases A<;>simp[Builtin.clear_,Zaf ht]
theorem io(h:Rel GL n S M μ st a w){t e:TypeId}{i:TypeInfo}{z:Value}{zi:I}{x:Operand}{ox:O}(ho:o.op=.call {callee:=.builtin .clear,args:=#[x],argTypes:=#[t]})(hd:∀d,o.dst=some d->d<n)
  (hx:cO GL x=some ox)(hu:P.underlying t=some (.slice e))(hi:P.info? e=some i)(hz:i.zero=some z)(hc:DH z=some zi)(kt:(cellsI zi).all I.one=true)(hs:step P GL (.clr o.dst ox (cellsI zi)) st K):o.wpX P a w (Aw GL n S M w K) Q:=by
 have hr:=Az h hx;have vj:Ak M (cellsI zi) z.cells.toList:=(GH hc).cellsI;have vh:z.cells.size=(cellsI zi).length:=by simpa using vj.1
 have h1:∀u∈z.cells.toList,u.oneCell'=true:=fun u hu=>by
  obtain⟨p,hp,rfl⟩:=Zeh hu;have hp':p<(cellsI zi).length:=by rw[<-vh];simpa using hp
  refine(vj.2 p hp' hp).oneCell ?_;rw[Zcu]at kt;exact kt _ (Zef hp')
 generalize cellsI zi=zr at vj vh hs;simp only[step,Lh]at hs;split at hs
 ·rename_i nm k0 lo ja e1;rw[e1]at hr;obtain⟨hN,aa,cap,hμ,qi,km,qq⟩:=hr;have none':ja-lo=0->∀st',Rel GL n S M μ st' a w->K (putO st' o.dst (.i (.tup [])))->o.wpX P a w (Aw GL n S M w K) Q:=fun h0 st' k9 hK=>by
   have hxv:∃A c,a.eval x=.slice A 0 c:=by
    rcases qq with⟨rfl,a',hv⟩|⟨b1,o1,rfl,hv⟩
    ·exact⟨_,_,hv⟩
    ·exact⟨_,_,by rw[hv,h0]⟩
   obtain⟨A,c,hv⟩:=hxv;exact B0 (SW ho (by rw[hv];exact im t _ e hu A c)) ⟨_,hK,M,μ,k9.putO hd (AJ (Rep.tup' (Ak.nil M))),MExt.refl _ _,Keeps.refl _ _⟩
  have nil0:∀{α:Type} (x:α) (l:List α),ja-lo=0->setL l lo (List.replicate (ja-lo) x)=l:=fun x l h0=>by rw[h0];exact Qa l lo
  unfold I1 at hs;split at hs
  ·rename_i e' k' rs hg;obtain⟨rfl,hzk,qw,hs⟩:=hs;by_cases h0:ja-lo=0
   ·rw[nil0 _ _ h0]at hs;exact none' h0 _ (h.setSame hg) hs
   ·rcases qq with⟨rfl,a',hv⟩|⟨b1,o1,rfl,hv⟩
    ·omega
    ·obtain⟨cur,jc,q1,q2,q3,q4⟩:=Ou h hg hμ (by omega);have hbo:An (μ nm)=some b1:=by rw[hμ];simp only[An];rw[Zac (by omega)]
     have hmul:lo*k0+(ja-lo)*k0=ja*k0:=by rw[<-Zgm];congr 1;omega
     have hhc:ja*k0<=cap*k0:=Zg4 _ km;have ww:rs.length*k0<=cap*k0:=Zg4 _ q3;have jh:=WS (P:=P) (w:=w) t o.type e i z hu hi hz b1 (o1+lo*k0) (ja-lo) (cap-lo) h0 cur e' jc.heap (by rw[vh,hzk];omega) h1;have qg:(Builtin.zeroCells z.cells (ja-lo)).toList.length=(List.replicate (ja-lo) zr).length*k0:=by rw[Zbr,Zap,vh,hzk,Zew]
     have qa:=(Qg.1 q4).set (by rw[Zes];omega) (lo:=lo) (bs:=List.replicate (ja-lo) zr) (us:=(Builtin.zeroCells z.cells (ja-lo)).toList) (fun r hr=>by rw[Zdg hr];exact hzk) qg (by have:=Qh vj (ja-lo);rw[hzk]at this;exact this) (by simp;omega);rw[ij,<-Qg]at qa;have qm:=JL w b1 (setL cur.toList (o1+lo*k0) (Builtin.zeroCells z.cells (ja-lo)).toList).toArray jc.low;have qv:(setL rs lo (List.replicate (ja-lo) zr)).length=rs.length:=CP _ _ _ (by simp;omega);have k9:Rel GL n S M μ (st.setB nm (.rows e' k0 (setL rs lo (List.replicate (ja-lo) zr)))) a (w.setRow b1 (setL cur.toList (o1+lo*k0) (Builtin.zeroCells z.cells (ja-lo)).toList).toArray):=by refine h.setBlk (blk':=.rows e' k0 (setL rs lo (List.replicate (ja-lo) zr))) hg hbo qm.size (fun q hq _=>Zab w b1 q _ hq) ⟨some ⟨b1,o1,none⟩,cap,hμ,.inr ⟨b1,o1,_,rfl,by omega,⟨jc.low,Zal w b1 cur _ e' _ jc.heap,jc.unk⟩,q1,?_,by rw[qv];exact q3,qa⟩⟩;simp only[Zf6];rw[CP _ _ _ (by rw[qg];simp;omega)];simpa using q2
     exact B0 (SW ho (by rw[hv];exact jh)) ⟨_,hs,M,μ,k9.putO hd (AJ (Rep.tup' (Ak.nil M))),MExt.refl _ _,qm⟩
  ·rename_i e' k' rs hg;obtain⟨rfl,hzk,qw,hs⟩:=hs;by_cases h0:ja-lo=0
   ·rw[nil0 _ _ h0]at hs;exact none' h0 _ (h.setSame hg) hs
   ·rcases qq with⟨rfl,a',hv⟩|⟨b1,o1,rfl,hv⟩
    ·omega
    ·have vw:=Lk h hg hμ;obtain⟨cur,jc,q1,q2,q3,q4⟩:=Lj h hg hμ (by omega);have hbo:An (μ nm)=some b1:=by rw[hμ];simp only[An];rw[Zac (by omega)]
     have hmul:lo*k0+(ja-lo)*k0=ja*k0:=by rw[<-Zgm];congr 1;omega
     have hhc:ja*k0<=cap*k0:=Zg4 _ km;have jh:=WS (P:=P) (w:=w) t o.type e i z hu hi hz b1 (o1+lo*k0) (ja-lo) (cap-lo) h0 cur e' jc.heap (by rw[vh,hzk];omega) h1;have qg:(Builtin.zeroCells z.cells (ja-lo)).toList.length=(List.replicate (ja-lo) zr).length*k0:=by rw[Zbr,Zap,vh,hzk,Zew]
     have qa:=q4.set (by rw[q1];omega) (lo:=lo) (bs:=List.replicate (ja-lo) zr) (us:=(Builtin.zeroCells z.cells (ja-lo)).toList) (fun r hr=>by rw[Zdg hr];exact hzk) qg (by have:=Qh vj (ja-lo);rw[hzk]at this;exact this) (by simp;omega);rw[List.map_replicate]at qa;have qm:=JL w b1 (setL cur.toList (o1+lo*k0) (Builtin.zeroCells z.cells (ja-lo)).toList).toArray jc.low;have qv:(setL rs lo (List.replicate (ja-lo) (some zr))).length=rs.length:=CP _ _ _ (by simp;omega);have k9:Rel GL n S M μ (st.setB nm (.arr e' k0 (setL rs lo (List.replicate (ja-lo) (some zr))))) a (w.setRow b1 (setL cur.toList (o1+lo*k0) (Builtin.zeroCells z.cells (ja-lo)).toList).toArray):=by
      refine h.setBlk (blk':=.arr e' k0 (setL rs lo (List.replicate (ja-lo) (some zr)))) hg hbo qm.size (fun q hq _=>Zab w b1 q _ hq) ⟨some ⟨b1,o1,none⟩,by rw[qv];rw[hμ,vw],.inr ⟨b1,o1,_,rfl,?_,⟨jc.low,Zal w b1 cur _ e' _ jc.heap,jc.unk⟩,by rw[qv,q1];exact q2,?_,qa⟩⟩
      ·intro e;rw[e]at qv;simp at qv;omega
      ·rw[qv,q1];simp only[Zf6];rw[CP _ _ _ (by rw[qg];simp;omega)];simpa using q3
     exact B0 (SW ho (by rw[hv];exact jh)) ⟨_,hs,M,μ,k9.putO hd (AJ (Rep.tup' (Ak.nil M))),MExt.refl _ _,qm⟩
  ·exact hs.elim
 ·exact hs.elim
theorem ip(h:Rel GL n S M μ st a w){t e:TypeId}{i:TypeInfo}{z:Value}{zi:I}{x:Operand}{ox:O}(ho:o.op=.makeSlice t x x)(hd:o.dst=some d)(hn:d<n)
  (hx:cO GL x=some ox)(hu:P.underlying t=some (.slice e))(hi:P.info? e=some i)(hz:i.zero=some z)(hc:DH z=some zi)(j0:z.cells.size=i.size)(hs:step P GL (.mksl d e i.size i.bytes (cellsI zi) ox) st K):o.wpX P a w (Aw GL n S M w K) Q:=by
 have hr:=Az h hx;have vj:Ak M (cellsI zi) z.cells.toList:=(GH hc).cellsI;have vh:z.cells.size=(cellsI zi).length:=by simpa using vj.1
 generalize cellsI zi=zr at vj vh hs;simp only[step,MD]at hs;split at hs
 ·rename_i kk m jl e1;rw[e1]at hr;have hv:=Ce (AE hr);obtain⟨h0,h47,hb,hs⟩:=hs;obtain⟨m,rfl⟩:∃q:Nat,m=(q:Int):=⟨m.toNat,by omega⟩;simp only[Zco]at hs;have jh:=run_make (P:=P) w t e i z hu hi hz kk kk (m:Int) (m:Int) h0 (Zck _) (by omega) (by omega);simp only[Zco]at jh;have hmc:madeCells z.cells (m*i.size)=Builtin.zeroCells z.cells m:=by simp only[madeCells,Builtin.zeroCells,j0]
  rw[hmc]at jh;have h2:Rel GL n S M μ st a (w.alloc (.cells (Builtin.zeroCells z.cells m) e)):=h.of (h.toStoOk.alloc _) (Mem.le_refl _) fun _ _ hv=>hv
  have h3:=h2.bindName (nm:=d) (b:=.rows e i.size (List.replicate m zr)) (x:=.slice (some ⟨w.heap.size,0,none⟩) 0 m) jl hn ⟨some ⟨w.heap.size,0,none⟩,m,Bh _ _ _,?_⟩ (fun p q hp hq=>?_)
  ·exact B0 (v:=.slice (some ⟨w.heap.size,0,none⟩) m m) (w':=w.alloc (.cells (Builtin.zeroCells z.cells m) e)) (by simp only[execOp,ho,hv,jh,Sem.run_bind,Result.andThen_ok,Sem.run_pure]) ⟨_,hs,M,_,by
    rw[hd];refine h3.put hn ⟨D9,some ⟨w.heap.size,0,none⟩,m,Bh _ _ _,by omega,Zgu _,?_⟩;exact .inr ⟨w.heap.size,0,rfl,by simp⟩,MExt.refl _ _,FW w _ h.low⟩
  ·by_cases hm:m=0
   ·subst hm;exact .inl ⟨rfl,rfl⟩
   ·refine .inr ⟨w.heap.size,0,_,rfl,by omega,⟨fun hS=>by have:=h.low _ hS;omega,GA w _,Mem.unk_new h.sub (Zgu _)⟩,by simp only[maxLen];omega,?_,by simp,?_⟩
    ·rw[Zap,j0];omega
    ·have hk:zr.length=i.size:=by rw[<-vh,j0]
     refine⟨fun r hr=>by rw[Zdg hr];exact hk,fun p hp j hj=>?_⟩;obtain⟨u,hu1,hu2⟩:=Qh vj m p hp j hj;rw[hk]at hu1;exact⟨u,by rw[Zg8];simpa using hu1,hu2⟩
  ·have:=(h.toStoOk.lt hp hq).1;simp only[An];split
   ·simp
   ·intro e;cases e;omega
 ·exact hs.elim
theorem WT{X:D}{v:Value}{N:Nat->Prop}{i:Int}(h:AD M μ N X v)(hi:Hq X=some i):∃k,v=.int k i:=by
 unfold Hq at hi;split at hi
 ·cases hi;exact⟨_,Ce (AE h)⟩
 ·cases hi
theorem iq(h:Rel GL n S M μ st a w){t e:TypeId}{x hi mx:Operand}{lo:Option Operand}{ox ohi omx:O}{olo:Option O}{k:Nat}(ho:o.op=.slice t x lo (some hi) (some mx))(hd:o.dst=some d)(hn:d<n)(hx:cO GL x=some ox)
  (qi:lo.map (cO GL)=olo.map some)(qw:cO GL hi=some ohi)(hmx:cO GL mx=some omx)(hu:P.underlying t=some (.slice e))(hk:PY P e=some k)(hs:step P GL (.slc3 d ox olo ohi omx) st K):o.wpX P a w (Aw GL n S M w K) Q:=by
 have hr:=Az h hx;have hrh:=Az h qw;have hrm:=Az h hmx;simp only[step]at hs;have core:∀(A:Option Addr) (len cap:Nat),a.eval x=.slice A len cap->len<=cap->ME len (Wd (olo.map (AZ GL st))) (Hq (AZ GL st ohi)) (Hq (AZ GL st omx))/\K (st.put d .any)->o.wpX P a w (Aw GL n S M w K) Q:=fun A len cap hv hlc hs=>by
  obtain⟨hl,hK⟩:=hs;unfold ME at hl;split at hl
  ·rename_i l u m e1 e2 e3;obtain⟨b1,b2,b3,b4⟩:=hl;obtain⟨k1,hv1⟩:=WT hrh e2;obtain⟨k2,hv2⟩:=WT hrm e3;have xi:(Instr.sliceBounds true len cap (lo.map a.eval) (some (a.eval hi)) (some (a.eval mx))).run P w=.ok (l.toNat,u.toNat,m.toNat) w:=by
    have c1:(Instr.sliceBound (a.eval mx) cap .slice3Acap).run P w=.ok m.toNat w:=Ox hv2 ⟨by omega,by omega⟩;have c2:(Instr.sliceBound (a.eval hi) m.toNat .slice3B).run P w=.ok u.toNat w:=Ox hv1 ⟨by omega,by omega⟩;cases lo with
    |none=>
     cases olo with
     |some _=>simp at qi
     |none=>simp only[Zhm,Wd,Zhp]at e1;subst e1;simp[Instr.sliceBounds,c1,c2]
    |some y=>
     cases olo with
     |none=>simp at qi
     |some oy=>
      simp only[Zhn,Zhp]at qi;have ww:=Az h qi;simp only[Zhn]at e1;have hvl:∃k,a.eval y=.int k l:=by
       generalize AZ GL st oy=V at ww e1;unfold Wd at e1;split at e1<;>cases e1
       ·rename_i q;cases q
       ·rename_i q;cases q;exact⟨_,Ce (AE ww)⟩
      obtain⟨k3,hv3⟩:=hvl;have c3:(Instr.sliceBound (a.eval y) u.toNat .slice3C).run P w=.ok l.toNat w:=Ox hv3 ⟨by omega,by omega⟩;simp[Instr.sliceBounds,c1,c2,c3]
   have jh:(execOp a.eval o).run P w=.ok (.value (.slice (if m.toNat=l.toNat then A else A.map (·.add (l.toNat*k))) (u.toNat-l.toNat) (m.toNat-l.toNat))) w:=by simp only[execOp,ho,hv,Instr.sliceAt,Instr.slice,Sem.run_bind,Zaf hu w,Result.andThen_ok,Zhn,xi,EE hk,Sem.run_pure]
   exact AX (x:=.any) h hd hn jh trivial hK
  ·exact hl.elim
 unfold J0 at hs;split at hs
 ·rename_i rows e1;rw[e1]at hr;have hr:=AE hr;generalize hX:a.eval x=X at hr;cases hr with
  |slnil=>exact core none 0 0 hX (Zgu _) hs
  |slempty A c=>exact core (some A) 0 c hX (Zg9 _) hs
  |sl _ kk b oo cap vv q1 q2 q3 q4=>exact core _ rows.length cap hX q2 hs
 ·rename_i nm k0 lo' ja e1;rw[e1]at hr;obtain⟨hN,aa,cap,hμ,hl1,hl2,qq⟩:=hr;rcases qq with⟨rfl,a',hv⟩|⟨b1,o1,rfl,hv⟩
  ·have e0:ja-cap=0:=by omega
   rw[e0]at hs;exact core _ 0 0 hv (Zgu _) hs
  ·exact core _ (ja-lo') (cap-lo') hv (by omega) hs
 ·exact hs.elim
theorem MK {t t':TypeId}{x y:Operand}{v':Value}{w':World}(ho:o.op=.call {callee:=.builtin .append,args:=#[x,y],argTypes:=#[t,t']})
  (h:(Builtin.append_ #[t,t'] o.type #[a.eval x,a.eval y]).run P w=.ok v' w'):(execOp a.eval o).run P w=.ok (.value v') w':=by
 simp only[execOp,ho,resolve,Sem.run_bind,Sem.run_pure,Result.andThen_ok,invoke,builtin,Ze8,Ze1,Ze5,h]
theorem iu(t u ty e:TypeId){ik:IntKind}(i:TypeInfo)(z:Value)(ht:P.underlying t=some (.slice e))(hi:P.info? e=some i)(hu:P.underlying u=some (.int ik))(A:Option Addr)(l c:Nat)(hlc:l<=c)(kk:IntKind):
  (Builtin.append_ #[t,u] ty #[.slice A l c,.int kk ((0:Nat):Int)]).run P w=.ok (.slice A l c) w:=by
 cases A<;>simp[Builtin.append_,Zaf ht,Zaf hu,sizeOf,typeInfo,hi,asInt,asIntOf,IntKind.wrap_i64,storeCells,hlc]
theorem iv(t u ty e:TypeId){ik:IntKind}(i:TypeInfo)(z:Value)(ht:P.underlying t=some (.slice e))(hi:P.info? e=some i)(hz:i.zero=some z)(hu:P.underlying u=some (.int ik))(g og sLen sCap:Nat)(cur:Array Value)(hg:w.heap[g]? =some (.cells cur e (0,0)))
  (kk:IntKind)(m:Nat)(hm:(m:Int)<=140737488355328)(hmb:(m:Int)*(i.bytes:Int)<=140737488355328)(hm0:0<m)(vg:0<i.size)(vh:z.cells.size=i.size)(h1:∀u∈z.cells.toList,u.oneCell'=true)(j7:sLen+m<=sCap)(kd:og+sLen*i.size+m*i.size<=cur.size):
  (Builtin.append_ #[t,u] ty #[.slice (some ⟨g,og,none⟩) sLen sCap,.int kk (m:Int)]).run P w=
   .ok (.slice (some ⟨g,og,none⟩) (sLen+m) sCap) (w.setRow g (setL cur.toList (og+sLen*i.size) (Builtin.zeroCells z.cells m).toList).toArray):=by
 have jf:=Zak P g (og+sLen*i.size) e (Builtin.zeroCells z.cells m).toList 0 cur w hg (by have:=Zap z.cells m;rw[vh]at this;simp[this];omega) (SX h1 m);simp only[Zgn]at jf;have hw:IntKind.i64.wrap (m:Int)=m:=by rw[IntKind.wrap_i64];omega
 have n1:¬((m:Int)<0):=by omega
 have n3:¬(m=0\/i.size=0):=by omega
 have n4:m*i.size≠0:=by rw[Nat.mul_ne_zero_iff];omega
 have hz2:(zeroValue e).run P w=.ok z w:=by simp[zeroValue,typeInfo,hi,hz]
 have n2:¬((281474976710656:Int)<(m:Int)*(i.bytes:Int)):=by omega
 have hf:(storeCells (⟨g,og,none⟩:Addr) [] 0).run P w=.ok () w:=by rfl
 simp[Builtin.append_,Zaf ht,Zaf hu,sizeOf,typeInfo,hi,asInt,asIntOf,hw,n1,n2,n4,hz2,j7,EZ,jf,setL]
theorem Qi(t u ty e:TypeId){ik:IntKind}(i:TypeInfo)(z:Value)(ht:P.underlying t=some (.slice e))(hi:P.info? e=some i)(hz:i.zero=some z)(hu:P.underlying u=some (.int ik))
  (b:Option Addr)(sLen sCap:Nat)(olds:List Value)(qi:olds.length=sLen*i.size)(holds:∀q,b=some q->∀j v,olds[j]? =some v->w.cell? (q.add j)=some v)(hb0:b=none->sLen=0)(vh:z.cells.size=i.size)
  (kk:IntKind)(m:Nat)(hm:(m:Int)<=140737488355328)(hmb:(m:Int)*(i.bytes:Int)<=140737488355328)(hg:sCap<sLen+m)(h63:((sLen+m:Nat):Int)<=9223372036854775807)(kd:Builtin.nextslicecap (sLen+m) sCap*i.bytes<=281474976710656):
  (Builtin.append_ #[t,u] ty #[.slice b sLen sCap,.int kk (m:Int)]).run P w=
   .ok (.slice (some ⟨w.heap.size,0,none⟩) (sLen+m) (grownCap w (sLen+m) sCap e))
    (w.drew.alloc (.cells (olds.toArray++Builtin.zeroCells z.cells m++Builtin.zeroCells z.cells (grownCap w (sLen+m) sCap e-(sLen+m))) e)):=by
 have hw:IntKind.i64.wrap (m:Int)=m:=by rw[IntKind.wrap_i64];omega
 have n1:¬((m:Int)<0):=by omega
 have n2:¬((281474976710656:Int)<(m:Int)*(i.bytes:Int)):=by omega
 have hz2:∀w:World,(zeroValue e).run P w=.ok z w:=fun w=>by simp[zeroValue,typeInfo,hi,hz]
 have hn:¬(sLen+m<=sCap):=by omega
 have h63':¬(9223372036854775807<((sLen:Int)+(m:Int))):=by omega
 have h48':¬(281474976710656<Builtin.nextslicecap (sLen+m) sCap*i.bytes):=by omega
 have v8:(Builtin.firstCells i.size sLen (.slice b sLen sCap)).run P w.drew=.ok olds.toArray w.drew:=by
  cases b with
  |none=>have:=hb0 rfl;subst this;have:olds=[]:=Zdf (by omega);subst this;rfl
  |some q=>exact Zam (P:=P) w.drew i.size sLen q sLen sCap olds qi (by simpa using holds q rfl)
 have hz0:∀m,m=0\/i.size=0->Builtin.zeroCells z.cells m=#[]:=fun m h=>by apply Zbd;apply Zdf;rw[Zbr,Zap,vh];grind
 by_cases n3:m*i.size=0
 ·rw[hz0 m (Nat.mul_eq_zero.1 n3)];simp[Builtin.append_,Zaf ht,Zaf hu,sizeOf,typeInfo,hi,asInt,asIntOf,hw,n1,n2,n3,hn,h63',h48',Question.forced,v8,hz2,newRow,grownCap]
 ·simp[Builtin.append_,Zaf ht,Zaf hu,sizeOf,typeInfo,hi,asInt,asIntOf,hw,n1,n2,n3,hn,h63',h48',Question.forced,v8,hz2,newRow,grownCap]
theorem iw(h:Rel GL n S M μ st a w){t t' e:TypeId}{ik kk:IntKind}{m:Nat}{i:TypeInfo}{z:Value}{zr:List I}{x y:Operand}{k b e' k' nm k0 lo hi:Nat}{rs:List (Option (List I))}{ys:List (List I)}(hys:ys=List.replicate m zr)(vj:Ak M zr z.cells.toList)(hz1:∀u∈z.cells.toList,u.oneCell'=true)(hm:(m:Int)<=140737488355328)(hmb:(m:Int)*(i.bytes:Int)<=140737488355328)(ho:o.op=.call {callee:=.builtin .append,args:=#[x,y],argTypes:=#[t,t']})(hint:P.underlying t'=some (.int ik))(vi:a.eval y=.int kk (m:Int))
  (hd:o.dst=some d)(hn:d<n)(hr:BF μ (names st.sto) (.sl nm k0 lo hi) (a.eval x))(hu':P.underlying t=some (.slice e))(ja:P.info? e=some i)(hz:i.zero=some z)(hk:i.size=k)(hb:i.bytes=b)
  (vh:z.cells.size=k)(vg:0<k)(hg:Aa st.sto nm=some (.arr e' k' rs))(hs:J1 (Aa st.sto d) e' k' rs nm k0 lo hi d e k b ys st K):o.wpX P a w (Aw GL n S M w K) Q:=by
 obtain⟨rfl,rfl,rfl,qi,qw,kt,j9,hout⟩:=hs;subst hk;subst hb;obtain⟨hN,aa,cap,hμ,hlo',km,qq⟩:=hr;have qg:(Builtin.zeroCells z.cells m).toList.length=ys.length*i.size:=by rw[Zbr,Zap,vh,hys,Zew]
 have hur:∀p (hp:p<ys.length) j (hj:j<ys[p].length),∃u,(Builtin.zeroCells z.cells m).toList[p*i.size+j]? =some u/\Rep M (ys[p][j]) u:=by
  have hk:zr.length=i.size:=by rw[<-vh];simpa using vj.1.symm
  grind[Qh]
 have huo:∀u∈(Builtin.zeroCells z.cells m).toList,u.oneCell'=true:=SX hz1 m;have xb:ys.length=m:=by grind
 generalize hus:(Builtin.zeroCells z.cells m).toList=us at qg hur huo;have vw:=Lk h hg hμ;by_cases j7:hi+ys.length<=rs.length
 ·have hs:=j9 j7;by_cases jg:ys=[]
  ·subst jg;have hm0:m=0:=by grind
   subst hm0;simp only[Ze5,Qa,Zeu,Zgn]at hs;have k9:Rel GL n S M μ (st.setB nm (.arr e' i.size rs)) a w:=by
    refine h.of (st':=st.setB nm (.arr e' i.size rs)) ⟨h.sub,fun m x hx=>?_,fun m m' k k' jg h1 h2=>?_,h.low⟩ (Mem.le_refl _) fun s v hv=>by grind[St.setB,CC]
    ·simp only[St.setB,CO]at hx⊢;rw[CC];split at hx
     ·rename_i e;subst e;rw[hg]at hx;cases hx;exact h.blk _ _ hg
     ·exact h.blk _ _ hx
    ·simp only[St.setB,CC]at h1 h2;exact h.sep m m' k k' jg h1 h2
   have hv:∃A l c',a.eval x=.slice A l c'/\(∀x,A=some x->x.spot=none\/(l=0/\c'=0))/\l<=c':=by grind
   obtain⟨A,l,c',hv,hsp,hlc⟩:=hv;refine B0 (v:=a.eval x) (w':=w) (MK ho ?_) ⟨_,hs,M,μ,by rw[hd];exact k9.put hn ⟨by simp only[St.setB];rw[CC];exact hN,aa,cap,hμ,hlo',km,qq⟩,MExt.refl _ _,Keeps.refl _ _⟩;rw[hv,vi];exact iu t t' o.type e' i z hu' ja hint A l c' hlc kk
  ·have ju:0<ys.length:=Zev.2 jg;rcases qq with⟨rfl,a',hv⟩|⟨b1,o1,rfl,hv⟩
   ·omega
   ·obtain⟨cur,jc,q1,q2,q3,q4⟩:=Lj h hg hμ (by omega);have hbo:An (μ nm)=some b1:=by grind[An]
    have hmul:lo*i.size+(hi-lo)*i.size=hi*i.size:=by rw[<-Zgm];congr 1;omega
    have hm5:(hi+ys.length)*i.size<=cap*i.size:=Zg4 _ (by omega);rw[Zgm]at hm5;have hr:=iv (P:=P) t t' o.type e' i z hu' ja hz hint b1 (o1+lo*i.size) (hi-lo) (cap-lo) cur jc.heap kk m hm hmb (by omega) (by omega) vh hz1 (by omega) (by rw[xb]at hm5;omega);rw[show o1+lo*i.size+(hi-lo)*i.size=o1+hi*i.size by omega,hus]at hr;rw[show hi-lo+m=hi-lo+ys.length by rw[xb]]at hr;have qm:=JL w b1 (setL cur.toList (o1+hi*i.size) us).toArray jc.low;have qa:=q4.set (by rw[q1];omega) (lo:=hi) kt.1 qg hur j7;have qv:(setL rs hi (ys.map some)).length=rs.length:=CP _ _ _ (by simpa using j7);have k9:Rel GL n S M μ (st.setB nm (.arr e' i.size (setL rs hi (ys.map some)))) a (w.setRow b1 (setL cur.toList (o1+hi*i.size) us).toArray):=by
     refine h.setBlk (blk':=.arr e' i.size (setL rs hi (ys.map some))) hg hbo qm.size (fun q hq _=>Zab w b1 q _ hq) ⟨some ⟨b1,o1,none⟩,by rw[qv];rw[hμ,vw],.inr ⟨b1,o1,(setL cur.toList (o1+hi*i.size) us).toArray,rfl,?_,⟨jc.low,Zal w b1 cur _ e' _ jc.heap,jc.unk⟩,by rw[qv,q1];exact q2,?_,qa⟩⟩
     all_goals grind[CP]
    exact B0 (MK ho (by rw[hv,vi];exact hr)) ⟨_,hs,M,μ,by
     rw[hd];exact k9.put hn ⟨by simp only[St.setB];rw[CC];exact hN,_,cap,hμ,by omega,by omega,.inr ⟨b1,o1,rfl,by congr 1;omega⟩⟩,MExt.refl _ _,qm⟩
 ·obtain⟨as,has,hao,ke,je,hfr,hs⟩:=hout (by omega);have ha:=Ow has;have jg:ys≠[]:=fun e=>by grind
  have ju:0<ys.length:=Zev.2 jg;have qr:hi-lo+ys.length<=maxLen:=by simp only[maxLen];omega
  have hasl:as.length=hi-lo:=by have:=Zae List.length ha;simp at this;omega
  have grow:∀(old:Nat) (xs:List Value),xs.length=(hi-lo)*i.size->(∀i1 (hi1:i1<as.length) j (hj:j<as[i1].length),∃u,xs[i1*i.size+j]? =some u/\Rep M (as[i1][j]) u)->
    ∀cells:Array Value,cells.toList=xs++us->(execOp a.eval o).run P w=.ok (.value (.slice (some ⟨w.heap.size,0,none⟩) (hi-lo+ys.length) (grownCap w (hi-lo+ys.length) old e'))) (w.drew.alloc (.cells (cells++Builtin.zeroCells z.cells (grownCap w (hi-lo+ys.length) old e'-(hi-lo+ys.length))) e'))->
    o.wpX P a w (Aw GL n S M w K) Q:=fun old xs vm hxr cells hcl2 jh=>by
   have hge:=Zan w (hi-lo+ys.length) old e';have hcm:grownCap w (hi-lo+ys.length) old e'<=maxLen:=Zao w (hi-lo+ys.length) old e' qr;generalize hG:grownCap w (hi-lo+ys.length) old e'=G at hge hcm jh;have kq:cells.size=(hi-lo+ys.length)*i.size:=by rw[<-Zbr,hcl2,Zel,vm,qg,Zgm]
   have hL:((as++ys).map some++List.replicate (G-(hi-lo+ys.length)) (none:Option (List I))).length=G:=by simp;omega
   have js:Ex M cells 0 i.size (as++ys):=Ov (xs:=xs) (us:=us) (by rw[vm,hasl]) hao.1 kt.1 hxr hur (fun j v hv=>by rw[Zg8];rw[<-hcl2]at hv;simpa using hv)
   have h0:Rel GL n S M μ st a (w.drew.alloc (.cells (cells++Builtin.zeroCells z.cells (G-(hi-lo+ys.length))) e')):=h.of ((h.toStoOk.drew).alloc _) (Mem.le_refl _) fun _ _ hv=>hv
   have h2:=h0.bindName (nm:=d) (b:=.arr e' i.size ((as++ys).map some++List.replicate (G-(hi-lo+ys.length)) none)) (x:=.slice (some ⟨w.heap.size,0,none⟩) 0 G) hfr hn ⟨_,by rw[Bh,hL],.inr ⟨w.heap.size,0,_,rfl,fun e=>by rw[e]at hL;simp at hL;omega,⟨fun hS=>by have:=h.low _ hS;omega,GA w.drew _,Mem.unk_new h.sub (Zgu _)⟩,by rw[hL];exact hcm,?_,?_⟩⟩ (fun m q hm hq=>?_)
   ·exact B0 jh ⟨_,hs (G-(hi-lo+ys.length)),M,_,by
     rw[hd];exact h2.put hn ⟨D9,_,G,Bh _ _ _,by omega,hge,.inr ⟨w.heap.size,0,rfl,by simp⟩⟩,MExt.refl _ _,(Keeps.refl S w).drew.trans (FW w.drew _ h.low)⟩
   ·rw[hL];simp only[Zbt,Zap,vh,kq,Zg8,<-Zgm];congr 1;omega
   ·intro i1 r hr;by_cases jn:i1<(as++ys).length
    ·rw[Zdy (by simpa using jn),Zd5,Zd2 jn]at hr;simp only[Zhn,Zhp]at hr;subst hr;refine⟨js.1 _ (Zef jn),fun j hj=>?_⟩;obtain⟨v,hv,hr⟩:=js.2 i1 jn j hj;refine⟨v,?_,hr⟩;rw[Zbg (Zbj.1 hv).1];exact hv
    ·rw[Zdz (by simpa using jn),Zd6]at hr;split at hr<;>cases hr
   ·have:=(h.toStoOk.lt hm hq).1;simp only[An];rw[Zac (by omega)];intro e;cases e;omega
  rcases qq with⟨rfl,a',hv⟩|⟨b1,o1,rfl,hv⟩
  ·obtain rfl:hi=cap:=by omega
   have has0:as=[]:=Zdf (by omega);subst has0;cases a' with
   |none=>have hr:=Qi (P:=P) (w:=w) t t' o.type e' i z hu' ja hz hint none 0 0 [] (by simp) (by simp) (by simp) vh kk m hm hmb (by omega) (by omega) (Zar (by omega) (by simpa[xb]using ke));refine grow 0 [] (by simp) (fun i1 h1=>by simp at h1) us.toArray (by simp) (MK ho ?_);rw[hv,vi,xb,<-hus];simpa using hr
   |some aa=>have hr:=Qi (P:=P) (w:=w) t t' o.type e' i z hu' ja hz hint (some aa) 0 0 [] (by simp) (by simp) (by simp) vh kk m hm hmb (by omega) (by omega) (Zar (by omega) (by simpa[xb]using ke));refine grow 0 [] (by simp) (fun i1 h1=>by simp at h1) us.toArray (by simp) (MK ho ?_);rw[hv,vi,xb,<-hus];simpa using hr
  ·by_cases wh:cap=0
   ·subst wh;obtain rfl:lo=0:=by omega
    obtain rfl:hi=0:=by omega
    have has0:as=[]:=Zdf (by omega);subst has0;have hr:=Qi (P:=P) (w:=w) t t' o.type e' i z hu' ja hz hint (some ⟨b1,o1+0*i.size,none⟩) 0 0 [] (by simp) (by simp) (by simp) vh kk m hm hmb (by omega) (by omega) (Zar (by omega) (by simpa[xb]using ke));refine grow 0 [] (by simp) (fun i1 h1=>by simp at h1) us.toArray (by simp) (MK ho ?_);rw[hv,vi,xb,<-hus];simpa using hr
   ·obtain⟨cur,jc,q1,q2,q3,q4⟩:=Lj h hg hμ (by omega);obtain⟨v0,v3,v1,v2⟩:=q4.view qi qw (by rw[q1];omega) ha;have hr:=Qi (P:=P) (w:=w) t t' o.type e' i z hu' ja hz hint (some ⟨b1,o1+lo*i.size,none⟩) (hi-lo) (cap-lo) (Cf cur o1 i.size lo hi) v1 (fun q hq j v hv=>by
     cases hq;simp only[Cf,Zd8,Zd1]at hv;split at hv
     ·rw[EZ];simp[World.cell?,jc.heap];simpa using hv
     ·cases hv) (by simp) vh kk m hm hmb (by omega) (by omega) (Zar (by omega) (by rw[xb]at ke;exact ke))
    refine grow (cap-lo) (Cf cur o1 i.size lo hi) v1 v2 ((Cf cur o1 i.size lo hi).toArray++us.toArray) (by simp) (MK ho ?_);rw[hv,vi,xb,<-hus];simpa using hr
theorem iz(h:Rel GL n S M μ st a w){t t' e:TypeId}{ik:IntKind}{i:TypeInfo}{z:Value}{zi:I}{x y:Operand}{ox oy:O}(ho:o.op=.call {callee:=.builtin .append,args:=#[x,y],argTypes:=#[t,t']})
  (hd:o.dst=some d)(hn:d<n)(hx:cO GL x=some ox)(hy:cO GL y=some oy)(ht:P.underlying t=some (.slice e))(hint:P.underlying t'=some (.int ik))(hi:P.info? e=some i)(hz:i.zero=some z)(hc:DH z=some zi)(kt:(cellsI zi).all I.one=true)
  (vh:z.cells.size=i.size)(vg:0<i.size)(hs:step P GL (.appz d e i.size i.bytes ox oy (cellsI zi)) st K):o.wpX P a w (Aw GL n S M w K) Q:=by
 have hr:=Az h hx;have wn:=Az h hy;have vj:Ak M (cellsI zi) z.cells.toList:=(GH hc).cellsI;have hz1:z.cells.size=(cellsI zi).length:=by simpa using vj.1
 have h1:∀u∈z.cells.toList,u.oneCell'=true:=fun u hu=>by
  obtain⟨p,hp,rfl⟩:=Zeh hu;have hp':p<(cellsI zi).length:=by grind
  refine(vj.2 p hp' hp).oneCell ?_;grind
 simp only[step,Li]at hs;split at hs
 ·rename_i nm k0 lo ja kk m e1 e2;rw[e1]at hr;rw[e2]at wn;have hv:=Ce (AE wn);unfold J3 at hs;split at hs
  ·rename_i e' k' rs hg;obtain⟨h0,hm,hmb,hs⟩:=hs;obtain⟨m,rfl⟩:∃q:Nat,m=(q:Int):=⟨m.toNat,by omega⟩;simp only[Zco]at hs;exact iw h (m:=m) rfl vj h1 hm hmb ho hint hv hd hn hr ht hi hz rfl rfl vh vg hg hs
  ·exact hs.elim
 ·exact hs.elim
end
end Go.Dl
end
section
namespace Go.Dl
open Go Go.RowKit
variable{t e:TypeId}
def SY(n:Nat)(o:Oper):Option Nat:=match o.dst with|some d=>if d<n then some d else none|none=>none
def J8(n:Nat)(o:Oper):Bool:=match o.dst with|some d=>decide (d<n)|none=>true
def SZ:Operand->Operand->Bool
 |.tmp p,.tmp q=>decide (p=q)
 |.const (.int k m),.const (.int k2 m2)=>decide (k=k2/\m=m2)
 |_,_=>false
theorem iA{x y:Operand}(h:SZ x y=true):x=y:=by unfold SZ at h;grind
def OB(GL:List (Nat×List I)):Option Operand->Option (Option O)
 |none=>some none
 |some x=>(cO GL x).map some
section
variable (P:Program)(GL:List (Nat×List I))(n:Nat)(mu:List Nat)
def slT(t:TypeId):Option TypeId:=match P.underlying t with|some (.slice e)=>some e|_=>none
def mpT(t:TypeId):Option (TypeId×TypeId):=match P.underlying t with|some (.map k e)=>some (k,e)|_=>none
def stT(t:TypeId):Option (Array Field):=match P.underlying t with|some (.struct fs)=>some fs|_=>none
def zrT(e:TypeId):Option (TypeInfo×Value×I):=do
 let i <-P.info? e
 let z <-i.zero
 some (i,z,<-DH z)
def u8T(e:TypeId):Bool:=match P.underlying e with|some (.int .u8)=>true|_=>false
def S0(e:TypeId):Bool:=match P.underlying e with|some (.slice _)|some (.map _ _)=>true|_=>false
def WU(o:Oper)(D:Option Nat)(b:Builtin)(args:List Operand)(tys:List TypeId):Option Ins:=
 match b,args,tys with
 |.len,[x],[t]=>match P.underlying t with
  |some .string=>do some (.lens (<-D) (<-cO GL x))
  |some (.slice _)=>do some (.lenl (<-D) (<-cO GL x))
  |_=>none
 |.append,[x,y],[t,t']=>do
  let d <-D
  let ox <-cO GL x
  let oy <-cO GL y
  let e <-slT P t
  if t=t' then(do
   let i <-P.info? e
   let z <-i.zero
   if z.cells.size=i.size/\0<i.size then some (.app d e i.size i.bytes ox oy)else none)
  else match P.underlying t' with
  |some (.int _)=>do
   let r <-zrT P e
   if(cellsI r.2.2).all I.one=true/\r.2.1.cells.size=r.1.size/\0<r.1.size then some (.appz d e r.1.size r.1.bytes ox oy (cellsI r.2.2))else none
  |_=>none
 |.max,[x,y],[_,_]=>do some (.max (<-D) (<-cO GL x) (<-cO GL y))
 |.min,[x,y],[_,_]=>do some (.min (<-D) (<-cO GL x) (<-cO GL y))
 |.cap,[x],[t]=>do
  let d <-D
  let ox <-cO GL x
  let _<-slT P t
  some (.cap d ox)
 |.copy,[x,y],[t,_]=>do
  let ox <-cO GL x
  let oy <-cO GL y
  let e <-slT P t
  let k <-PY P e
  if J8 n o=true then some (.cpy o.dst ox oy e k)else none
 |.clear,[x],[t]=>do
  let ox <-cO GL x
  let r <-zrT P (<-slT P t)
  if J8 n o=true/\(cellsI r.2.2).all I.one=true then some (.clr o.dst ox (cellsI r.2.2))else none
 |_,_,_=>none
def WV(o:Oper)(D:Option Nat)(f:FuncId)(args:List Operand)(tys:List TypeId):Option Ins:=do
 let os <-args.mapM (cO GL)
 if Nat.blt f 1000000000=true/\n<=999/\J8 n o=true then(match D with
  |some d=>if mu.contains (d+5000)=true then some (.callo d f os)else if mu.contains (d+3000)=true then(match args,tys with
   |.const (.slice none 0 0)::xs,t::_=>do
    let e <-slT P t
    some (.calln d f e (<-PY P e) (<-xs.mapM (cO GL)))
   |_,_=>none)else some (.call o.dst f os)
  |none=>some (.call o.dst f os))else none
def H7(o:Oper):Option Ins:=
 let D:=SY n o
 let C:=cO GL
 match o.op with
 |.move x|.assign x=>match x with
  |.const (.slice none 0 0)=>do
   let d <-D
   if mu.contains (d+2000)=true then some (.mov d (.c .nilsl))else(do
    let e <-slT P o.type
    some (.nils d e (<-PY P e)))
  |x=>do some (.mov (<-D) (<-C x))
 |.pick c x y=>do some (.pick (<-D) (<-C c) (<-C x) (<-C y))
 |.box _ x=>do
  let d <-D
  let ox <-C x
  if(mu.contains d||mu.contains 9000)=true then some (.boxm d ox)else some (.box d ox)
 |.alloc t=>do some (.alloc (<-D) (cellsI (<-zrT P t).2.2))
 |.load t x=>do
  let k <-PY P t
  let ag <-Ee P t
  if(ag||k==1)=true then(do some (.load (<-D) (<-C x) k ag))else none
 |.store t x v=>do
  let ox <-C x
  let ov <-C v
  let k <-PY P t
  if o.dst=none then(match x with|.tmp s=>if(mu.contains s||mu.contains 9000)=true then some (.store ox ov k)else some (.stfrz ox ov k)|_=>some (.store ox ov k))else none
 |.fieldAddr t x f=>do
  let fs <-stT P t
  let fl <-fs[f]?
  let k <-PY P fl.type
  if k≠0 then(do some (.fa (<-D) (<-C x) fl.offset))else none
 |.indexAddr t x ix=>match P.underlying t with
  |some (.slice e)=>do some (.ia (<-D) (<-C x) (<-C ix) (<-PY P e))
  |some (.array len e)=>do some (.iaa (<-D) (<-C x) (<-C ix) (<-PY P e) len)
  |_=>none
 |.index t x ix=>match P.underlying t with
  |some .string=>do some (.idx (<-D) (<-C x) (<-C ix))
  |some (.array len e)=>(do let k <-PY P e;let ag <-Ee P e;if(ag||k==1)=true then(do some (.aidx (<-D) (<-C x) (<-C ix) k len ag))else none)
  |_=>none
 |.binOp op t x y _=>do
  let d <-D
  let ox <-C x
  let u <-P.underlying t
  match Sv u y,op with
  |some q,.eql=>some (.isnil d q false ox)
  |some q,.neq=>some (.isnil d q true ox)
  |_,op=>do
   let oy <-C y
   match u,op with
   |.int _,.shl=>some (.sh d .shl ox oy)
   |.int _,.shr=>some (.sh d .shr ox oy)
   |.int _,op=>some (.bin d op ox oy)
   |.string,op=>some (.bin d op ox oy)
   |.bool,.eql=>some (.eqb d false ox oy)
   |.bool,.neq=>some (.eqb d true ox oy)
   |.struct _,op=>do
    let ls <-B9 P 10000 t
    if P.eqGuardType P.depth t=false then(match op with|.eql=>some (.eqs d false ls ox oy)|.neq=>some (.eqs d true ls ox oy)|_=>none)else none
   |_,_=>none
 |.unOp op _ x=>do some (.un (<-D) op (<-C x))
 |.convert t t' x=>do
  let d <-D
  let ox <-C x
  let u <-P.underlying t
  let u'<-P.underlying t'
  match u,u' with
  |_,.int k=>some (.conv d k ox)
  |.string,.slice e=>if u8T P e=true then some (.bytes d ox)else none
  |_,_=>none
 |.extract x i=>do some (.ext (<-D) (<-C x) i)
 |.makeFunc (.func f) first caps=>if Nat.blt f 1000000000=true then(do some (.mkfn (<-D) f (<-first.toList.mapM C) (<-caps.toList.mapM C)))else none
 |.build t parts=>do
  let d <-D
  let r <-zrT P t
  match P.underlying t with
  |some (.struct fs)=>do
   let pl <-SL P fs
   some (.build d (cellsI r.2.2) (<-MH GL (fun j=>pl[j]?) (cellsI r.2.2).length parts.toList))
  |some (.array _ e)=>do
   let k <-PY P e
   some (.build d (cellsI r.2.2) (<-MH GL (fun j=>some (j*k,k)) (cellsI r.2.2).length parts.toList))
  |_=>none
 |.buildSlice t len parts=>do
  let d <-D
  let e <-slT P t
  let os <-(parts.toList.map (·.2)).mapM C
  let r <-zrT P e
  if(cellsI r.2.2).length=r.1.size/\0<r.1.size/\len*r.1.size<=16777216/\parts.toList.map (·.1)=List.range len then
   (if os.isEmpty=true then some (.bsl d e r.1.size os)else if mu.contains (d+1000)=true then some (.bso d e r.1.size os)else some (.bsn d e r.1.size os))else none
 |.call c=>match c.callee with
  |.builtin b=>WU P GL n o D b c.args.toList c.argTypes.toList
  |.value fv=>match fv with
   |.func f=>WV P GL n mu o D f c.args.toList c.argTypes.toList
   |fv=>do
    let of <-C fv
    let os <-c.args.toList.mapM C
    if n<=999/\J8 n o=true then some (.callv o.dst of os)else none
  |_=>none
 |.slice t x lo hi none=>do
  let d <-D
  let ox <-C x
  let olo <-OB GL lo
  let ohi <-OB GL hi
  match P.underlying t with
  |some (.slice e)=>do some (.slc d ox olo ohi (<-PY P e))
  |some .string=>some (.sslc d ox olo ohi)
  |_=>none
 |.slice t x lo (some hi) (some m)=>do
  let d <-D
  let ox <-C x
  let e <-slT P t
  let k <-PY P e
  match lo,hi,m with
  |none,.const (.int _ 0),.const (.int _ 0)=>some (.slc0 d e k ox)
  |lo,hi,m=>do some (.slc3 d ox (<-OB GL lo) (<-C hi) (<-C m))
 |.makeMap t none=>do
  let d <-D
  let m <-mpT P t
  let ls <-DI P m.1
  if(S0 P m.2||mu.contains (d+4000))=true then some (.mkgm d ls)else some (.mkmap d ls)
 |.lookup t x ix ok=>do
  let d <-D
  let ox <-C x
  let oi <-C ix
  let m <-mpT P t
  let ls <-DI P m.1
  let r <-zrT P m.2
  if(S0 P m.2||mu.contains (d+4000))=true then some (.lookg d ox oi r.2.2 ok ls)else some (.lookup d ox oi r.2.2 ok ls)
 |.mapUpdate t x ix y|.insert t x ix y=>do
  let ox <-C x
  let oi <-C ix
  let oy <-C y
  let m <-mpT P t
  let ls <-DI P m.1
  if o.dst=none then(if S0 P m.2=true then some (.mupdg ox oi oy ls)else some (.mupd ox oi oy ls))else none
 |.mapEntry t x ix=>do
  let m <-mpT P t
  let r <-zrT P m.2
  some (.ment (<-D) (<-C x) (<-C ix) r.2.2 (<-DI P m.1) ((slT P m.2).getD 0) (((slT P m.2).bind (PY P)).getD 0))
 |.entryStore _ x s y=>if o.dst=none then(do some (.ests (<-C x) (<-C s) (<-C y)))else none
 |.makeSlice t x y=>do
  let e <-slT P t
  let r <-zrT P e
  if SZ x y=true/\r.2.1.cells.size=r.1.size then(do some (.mksl (<-D) e r.1.size r.1.bytes (cellsI r.2.2) (<-C x)))else none
 |.range t x=>do
  let _<-mpT P t
  some (.rng (<-D) (<-C x))
 |.next x false=>do some (.nxt (<-D) (<-C x))
 |.entry x=>do some (.ent (<-D) (<-C x))
 |_=>none
end
section
variable {P:Program}{n:Nat}{o:Oper}{d:Nat}
theorem OC:SY n o=some d↔o.dst=some d/\d<n:=by grind[SY]
theorem iB:J8 n o=true↔∀d,o.dst=some d->d<n:=by grind[J8]
theorem iC:slT P t=some e↔P.underlying t=some (.slice e):=by grind[slT]
theorem iD{m:TypeId×TypeId}:mpT P t=some m↔P.underlying t=some (.map m.1 m.2):=by grind[mpT]
theorem iE{fs:Array Field}:stT P t=some fs↔P.underlying t=some (.struct fs):=by grind[stT]
theorem iF:u8T P e=true↔P.underlying e=some (.int .u8):=by grind[u8T]
theorem iG{r:TypeInfo×Value×I}:zrT P e=some r↔P.info? e=some r.1/\r.1.zero=some r.2.1/\DH r.2.1=some r.2.2:=by obtain⟨i,z,y⟩:=r;simp only[zrT,Zhc,Zhd,Zhp,Zhr];grind
theorem iH{GL:List (Nat×List I)}{x:Option Operand}{y:Option O}:OB GL x=some y↔x.map (cO GL)=y.map some:=by cases x<;>cases y<;>simp[OB]
theorem FZ{c:Call}{b:Callee}{l:Array Operand}{t:Array TypeId}(ho:o.op=.call c)(h1:c.callee=b)(h2:c.args.toList=l.toList)(h3:c.argTypes.toList=t.toList):o.op=.call ⟨b,l,t⟩:=by rw[ho,<-h1,<-Zbd h2,<-Zbd h3]
end
variable {P:Program}{GL:List (Nat×List I)}{n:Nat}{S:Sh}{M:Mem}{μ:Place}{st:St}{a:Act}{w:World}{K:St->Prop}{Q:Exit->Act->World->Prop}{o:Oper}{mu:List Nat}
set_option maxHeartbeats 2000000
theorem iJ(h:Rel GL n S M μ st a w){ins:Ins}(hc:H7 P GL n mu o=some ins)(hs:step P GL ins st K):o.wpX P a w (Aw GL n S M w K) Q:=by
 unfold H7 at hc;simp only at hc;split at hc<;>rename_i ho
 all_goals
  try unfold WU at hc
  try unfold WV at hc
  repeat' first
   |(cases hc;done)
   |(obtain⟨_,hc⟩:=hc)
   |(simp only[Zhc,Option.ite_none_right_eq_some,Zhd,Zhp,OC,iB,iC,iD,iE,iF,iG,iH,Zax]at hc)
   |split at hc
 all_goals first
  |(apply fI h ho<;>first|assumption|exact hs|rfl)
  |(apply fJ h ho<;>first|assumption|exact hs|rfl)
  |(apply fL h ho<;>first|assumption|exact hs|rfl)
  |(apply fM h ho<;>first|assumption|exact hs|rfl)
  |(apply fH h ho<;>first|assumption|exact hs|rfl)
  |(apply gr h ho<;>first|assumption|exact hs|rfl)
  |(apply gq h ho<;>first|assumption|exact hs|rfl)
  |(apply fN h ho<;>first|assumption|exact hs|rfl)
  |(apply fO h ho<;>first|assumption|exact hs|rfl)
  |(apply gT h ho<;>first|assumption|exact hs|rfl)
  |(apply fQ h ho<;>first|assumption|exact hs|rfl)
  |(apply gh h ho<;>first|assumption|exact hs|rfl)
  |(apply fS h ho<;>first|assumption|exact hs|rfl)
  |(apply fY h ho<;>first|assumption|exact hs|rfl)
  |(apply gc h ho<;>first|assumption|exact hs|rfl)
  |(apply gV h ho<;>first|assumption|exact hs|rfl)
  |(apply gb h ho<;>first|assumption|exact hs|rfl)
  |(apply gE h ho<;>first|assumption|exact hs|rfl)
  |(apply gU h ho<;>first|assumption|exact hs|rfl)
  |(apply gJ h ho<;>first|assumption|exact hs|rfl)
  |(apply gx h ho<;>first|assumption|exact hs|rfl)
  |(apply gA h ho<;>first|assumption|exact hs|rfl)
  |(apply iq h ho<;>first|assumption|exact hs|rfl)
  |(apply gX h ho<;>first|assumption|exact hs|rfl)
  |(apply WN h ho<;>first|assumption|exact hs|rfl)
  |(apply g9 h ho<;>first|assumption|exact hs|rfl)
  |(apply hJ h ho<;>first|assumption|exact hs|rfl)
  |(apply gP h ho<;>first|assumption|exact hs|rfl)
  |(apply gR h ho<;>first|assumption|exact hs|rfl)
  |(apply gS h ho<;>first|assumption|exact hs|rfl)
  |(apply gI h ho<;>first|assumption|exact gH hs|rfl)
  |(apply ge h ‹_› ho<;>first|assumption|exact hs|rfl)
  |(obtain rfl:=iA ‹_›;apply ip h ho<;>assumption)
  |(apply gy h ho rfl rfl<;>first|assumption|exact hs|rfl)
  |(apply gW h ho rfl<;>first|assumption|exact hs|rfl)
  |(apply gO h ho rfl<;>first|assumption|exact hs|rfl)
  |(apply Wg h (.inl ho)<;>first|assumption|exact hs|rfl)
  |(apply Wg h (.inr ho)<;>first|assumption|exact hs|rfl)
  |(apply Wh h (.inl ho)<;>first|assumption|exact hs|rfl)
  |(apply Wh h (.inr ho)<;>first|assumption|exact hs|rfl)
  |(apply WQ h (.inl ho)<;>first|assumption|exact hs|rfl)
  |(apply WQ h (.inr ho)<;>first|assumption|exact hs|rfl)
  |(apply SS h (.inl ho)<;>first|assumption|exact hs|rfl)
  |(apply SS h (.inr ho)<;>first|assumption|exact hs|rfl)
  |(apply Wl (neg:=false) h ho<;>first|assumption|exact hs|rfl)
  |(apply Wj (neg:=false) h ho<;>first|assumption|exact hs|rfl)
  |(apply WE (neg:=false) h ho<;>first|assumption|exact H6 ‹_›)
  |(apply Wl (neg:=true) h ho<;>first|assumption|exact hs|rfl)
  |(apply Wj (neg:=true) h ho<;>first|assumption|exact hs|rfl)
  |(apply WE (neg:=true) h ho<;>first|assumption|exact H6 ‹_›)
  |(apply Wi h (.inl rfl) ho<;>first|assumption|exact hs|rfl)
  |(apply Wi h (.inr rfl) ho<;>first|assumption|exact hs|rfl)
  |(apply fZ h (FZ ho ‹_› ‹_› ‹_›)<;>first|assumption|exact hs|rfl)
  |(apply ga h (FZ ho ‹_› ‹_› ‹_›)<;>first|assumption|exact hs|rfl)
  |(apply gv h (FZ ho ‹_› ‹_› ‹_›)<;>first|assumption|exact hs|rfl)
  |(apply iz h (FZ ho ‹_› ‹_› ‹_›)<;>first|assumption|exact hs|rfl)
  |(apply hZ h (FZ ho ‹_› ‹_› ‹_›)<;>first|assumption|exact hs|rfl)
  |(apply ii h (FZ ho ‹_› ‹_› ‹_›)<;>first|assumption|exact hs|rfl)
  |(apply io h (FZ ho ‹_› ‹_› ‹_›)<;>first|assumption|exact hs|rfl)
  |(apply Wn (mx:=true) h (FZ ho ‹_› ‹_› ‹_›)<;>first|assumption|exact hs|rfl)
  |(apply Wn (mx:=false) h (FZ ho ‹_› ‹_› ‹_›)<;>first|assumption|exact hs|rfl)
  |(apply Ws h ‹_› (FZ ho ‹_› rfl rfl)<;>first|assumption|exact hs|rfl)
  |(apply gl h ‹_› (FZ ho ‹_› rfl rfl)<;>first|assumption|exact(OC.1 ‹_›).1|exact(OC.1 ‹_›).2)
  |(apply gk h ‹_› (FZ ho ‹_› rfl rfl)<;>first|assumption|exact(OC.1 ‹_›).1|exact(OC.1 ‹_›).2)
  |(apply gm h (FZ ho ‹_› rfl rfl)<;>first|assumption|exact hs|rfl)
  |exact AX h ‹_› ‹_› (v:=.slice none 0 0) (by simp[execOp,ho,Act.eval]) (AJ .nilsl) hs
end Go.Dl
end
section
namespace Go.Dl
open Go Go.RowKit
section
variable (P:Program)(GL:List (Nat×List I))
def pv(ρ:O->D)(σ:Nat->Option Blk):Ins->D×Prop
 |.mov _ x=>(ρ x,True)
 |.pick _ c a b=>match ρ c with
  |.i (.bool t)=>(if t then ρ a else ρ b,True)
  |_=>(.any,False)
 |.load _ x k ag=>match ρ x with
  |.i (.elt cs off)=>(.i (pk ag cs off k),off+k<=cs.length)
  |.ref (.loc nm off)=>match σ nm with
   |some (.cells cs)=>(fy ag cs off k,off+k<=cs.length/\(ag=true->BG ((cs.drop off).take k)=true))
   |_=>(.any,False)
  |.ref (.lel nm kk row off)=>match σ nm with
   |some (.rows _ k' rs)=>(.i (pk ag (rs.getD row []) off k),kk=k'/\row<rs.length/\off+k<=(rs.getD row []).length)
   |_=>(.any,False)
  |_=>(.any,False)
 |.fa _ x off=>match ρ x with
  |.i (.elt cs o)=>(.i (.elt cs (o+off)),True)
  |.ref (.loc nm o)=>(.ref (.loc nm (o+off)),True)
  |.ref (.lel nm k row o)=>(.ref (.lel nm k row (o+off)),True)
  |_=>(.any,False)
 |.ia _ s i k=>match ρ s,ρ i with
  |.i (.sl rows),.i (.int _ n)=>(.i (.elt (rows.getD n.toNat []) 0),(0<=n/\n<rows.length)/\(rows.getD n.toNat []).length=k)
  |.ref (.sl nm k0 lo hi),.i (.int _ n)=>match σ nm with
   |some (.rows _ k' _)=>(.ref (.lel nm k (lo+n.toNat) 0),k'=k/\k0=k/\(0<=n/\n<((hi-lo:Nat):Int)))
   |_=>(.any,False)
  |_,_=>(.any,False)
 |.fld _ x off k ag=>match ρ x with
  |.i (.agg cs)=>(.i (pk ag cs off k),off+k<=cs.length)
  |_=>(.any,False)
 |.aidx _ x i k len ag=>match ρ x,ρ i with
  |.i (.agg cs),.i (.int _ n)=>(.i (pk ag cs (n.toNat*k) k),(0<=n/\n<(len:Int))/\n.toNat*k+k<=cs.length)
  |_,_=>(.any,False)
 |.sh _ op x y=>match ρ x,ρ y with
  |.i (.int k a),.i (.int _ b)=>(.i (shV op k a b),0<=b)
  |_,_=>(.any,False)
 |.min _ x y=>match ρ x,ρ y with
  |.i (.int k a),.i (.int _ b)=>(.i (.int k (if b<a then b else a)),True)
  |_,_=>(.any,False)
 |.slc _ x lo hi k=>match ρ x with
  |.i (.sl rows)=>match Wd (lo.map ρ),eY rows.length (hi.map ρ)with
   |some l,some h=>(.i (.sl ((rows.take h.toNat).drop l.toNat)),(∀r∈rows,r.length=k)/\(0<=l/\l<=h/\h<=(rows.length:Int)))
   |_,_=>(.any,False)
  |.ref (.sl nm k0 a c)=>match σ nm with
   |some (.rows _ k' rs)=>match Wd (lo.map ρ),eY ((c-a:Nat):Int) (hi.map ρ)with
    |some l,some h=>(.ref (.sl nm k (a+l.toNat) (a+h.toNat)),k'=k/\k0=k/\(0<=l/\l<=h/\h<=((rs.length-a:Nat):Int)))
    |_,_=>(.any,False)
   |some (.arr _ k' rs)=>match Wd (lo.map ρ),eY ((c-a:Nat):Int) (hi.map ρ)with
    |some l,some h=>(.ref (.sl nm k (a+l.toNat) (a+h.toNat)),k'=k/\k0=k/\(0<=l/\l<=h/\h<=((rs.length-a:Nat):Int)))
    |_,_=>(.any,False)
   |_=>(.any,False)
  |_=>(.any,False)
 |.sslc _ x lo hi=>match ρ x with
  |.i (.str s)=>match Wd (lo.map ρ),eY s.length (hi.map ρ)with
   |some l,some h=>(.i (.str ((s.take h.toNat).drop l.toNat)),0<=l/\l<=h/\h<=(s.length:Int))
   |_,_=>(.any,False)
  |_=>(.any,False)
 |.lookup _ x key zero ok ls=>match ρ key with
  |.i q=>match ρ x with
   |.i .nilmap=>(.i (CF [] q zero ok),Ay ls q=true)
   |.i (.map es)=>(.i (CF es q zero ok),Ay ls q=true/\(∀e∈es,Ay ls e.1=true))
   |.ref (.mp nm)=>match σ nm with
    |some (.map ls' es)=>(.i (CF es q zero ok),Ay ls q=true/\ls'=ls)
    |_=>(.any,False)
   |_=>(.any,False)
  |_=>(.any,False)
 |.lenm _ x=>match ρ x with
  |.i .nilmap=>(.i (.int .i64 0),True)
  |.i (.map es)=>(.i (.int .i64 es.length),True)
  |.ref (.mp nm)=>match σ nm with
   |some (.map _ es)=>(.i (.int .i64 es.length),True)
   |_=>(.any,False)
  |_=>(.any,False)
 |.idx _ s i=>match ρ s,ρ i with
  |.i (.str l),.i (.int _ n)=>(.i (.int .u8 ((l.getD n.toNat 0).toNat:Int)),0<=n/\n<l.length)
  |_,_=>(.any,False)
 |.bin _ op x y=>match ρ x,ρ y with
  |.i a,.i b=>(.i (CE op a b),Dc op a b)
  |_,_=>(.any,False)
 |.eqs _ neg ls x y=>match ρ x,ρ y with
  |.i (.agg a),.i (.agg b)=>match eqL ls a b with
   |some r=>(.i (.bool (if neg then !r else r)),True)
   |none=>(.any,False)
  |_,_=>(.any,False)
 |.eqb _ neg x y=>match ρ x,ρ y with
  |.i (.bool a),.i (.bool b)=>(.i (.bool (if neg then !(a==b)else a==b)),True)
  |_,_=>(.any,False)
 |.un _ op x=>match op,ρ x with
  |.not,.i (.bool b)=>(.i (.bool !b),True)
  |.neg,.i (.int k n)=>(.i (.int k (k.wrap (0-n))),True)
  |_,_=>(.any,False)
 |.lens _ x=>match ρ x with
  |.i (.str s)=>(.i (.int .i64 s.length),True)
  |_=>(.any,False)
 |.lenl _ x=>match ρ x with
  |.i (.sl rows)=>(.i (.int .i64 rows.length),True)
  |.ref (.sl _ _ lo hi)=>(.i (.int .i64 ((hi-lo:Nat):Int)),True)
  |.i .nilsl=>(.i (.int .i64 0),True)
  |_=>(.any,False)
 |.ext _ x i=>match ρ x with
  |.i (.tup vs)=>(.i (vs.getD i .undef),i<vs.length)
  |.tup cs=>((cs.getD i .any).toD,i<cs.length)
  |_=>(.any,False)
 |.bsn _ _ k ps=>(.i (.sl (ps.map fun o=>cellsI (H1 (ρ o)))),(!ps.isEmpty&&(ps.all fun o=>JH (ρ o)&&((cellsI (H1 (ρ o))).length==k)&&(cellsI (H1 (ρ o))).all I.one))=true)
 |.build _ zs parts=>(.i (.agg (Hm zs (parts.map fun p=>(p.1,cellsI (H1 (ρ p.2.2)))))),(parts.all fun p=>JH (ρ p.2.2)&&((cellsI (H1 (ρ p.2.2))).length==p.2.1))=true)
 |.mkfn _ f first caps=>match first.mapM fun o=>Cm (ρ o),caps.mapM fun o=>Cm (ρ o)with
  |some a,some b=>(fnD f a b,True)
  |_,_=>(.any,False)
 |.max _ x y=>match ρ x,ρ y with
  |.i (.int k a),.i (.int _ b)=>(.i (.int k (if b>a then b else a)),True)
  |_,_=>(.any,False)
 |.conv _ k x=>match ρ x with
  |.i (.int _ n)=>(.i (.int k (k.wrap n)),True)
  |_=>(.any,False)
 |.iaa _ x i k len=>match ρ x,ρ i with
  |.i (.elt cs o),.i (.int _ n)=>(.i (.elt cs (o+n.toNat*k)),0<=n/\n<(len:Int))
  |.ref (.loc nm o),.i (.int _ n)=>(.ref (.loc nm (o+n.toNat*k)),0<=n/\n<(len:Int))
  |.ref (.lel nm kk row o),.i (.int _ n)=>(.ref (.lel nm kk row (o+n.toNat*k)),0<=n/\n<(len:Int))
  |_,_=>(.any,False)
 |.bytes _ x=>match ρ x with
  |.i (.str s)=>(.i (.sl (rowsB s)),True)
  |_=>(.any,False)
 |.ofb _ x=>match ρ x with
  |.i (.sl rows)=>match So rows with
   |some l=>(.i (.str l),True)
   |none=>(.any,False)
  |_=>(.any,False)
 |_=>(.any,False)
def BH:Ins->Option Nat
 |.mov d _|.pick d _ _ _|.load d _ _ _|.fa d _ _|.ia d _ _ _|.idx d _ _|.bin d _ _ _|.eqs d _ _ _ _|.eqb d _ _ _|.un d _ _|.lens d _|.lenl d _|.ext d _ _
 |.bsn d _ _ _|.build d _ _|.mkfn d _ _ _|.max d _ _|.min d _ _|.conv d _ _|.fld d _ _ _ _|.aidx d _ _ _ _ _|.sh d _ _ _|.slc d _ _ _ _|.sslc d _ _ _|.lookup d _ _ _ _ _|.lenm d _|.iaa d _ _ _ _|.bytes d _|.ofb d _=>some d
 |_=>none
theorem OD{ins:Ins}{d:Nat}(hd:BH ins=some d)(st:St)(K:St->Prop):
  step P GL ins st K↔(pv (AZ GL st) (Aa st.sto) ins).2/\K (st.put d (pv (AZ GL st) (Aa st.sto) ins).1):=by
 cases ins<;>simp only[BH,Zhp,reduceCtorEq]at hd<;>subst hd<;>simp only[step,pv]
 case mov=>simp
 case pick d c a b=>unfold Eb;split<;>simp_all[br];rename_i t _;cases t<;>simp
 case load=>unfold IQ;split<;>simp_all<;>first|(unfold JQ;split<;>simp_all[Zax])|(unfold Mq;split<;>simp_all[Zax])
 case fa=>unfold faE;split<;>simp_all
 case fld=>unfold P5;split<;>simp_all
 case ia=>unfold iaE;split<;>simp_all[Zax];unfold iaR;split<;>simp_all[Zax]
 case idx=>unfold KU;split<;>simp_all
 case aidx=>unfold KV;split<;>simp_all[Zax]
 case bin=>unfold KW;split<;>simp_all
 case sh=>unfold shE;split<;>simp_all
 case eqs=>unfold KY;split<;>simp_all;unfold KX;split<;>simp_all
 case eqb=>unfold JS;split<;>simp_all
 case un=>unfold unE;split<;>simp_all
 case lens=>unfold KZ;split<;>simp_all
 case lenl=>unfold IS;split<;>simp_all
 case ext=>unfold IT;split<;>simp_all
 case mkfn=>unfold K0;split<;>simp_all
 case max=>unfold GD;split<;>simp_all
 case min=>unfold GD;split<;>simp_all
 case conv=>unfold K3;split<;>simp_all
 case slc=>unfold K4;split<;>simp_all[EC];(split<;>simp_all[Zax]);unfold Mv;split<;>simp_all[EC]<;>(split<;>simp_all[Zax])
 case sslc=>unfold K5;split<;>simp_all[EC];split<;>simp_all[Zax]
 case lookup=>unfold EY;split<;>simp_all[];split<;>simp_all[Zax];unfold Hp;split<;>simp_all[Zax]
 case lenm=>unfold Mx;split<;>simp_all;unfold Ol;split<;>simp_all
 case iaa=>unfold IV;split<;>simp_all[Zax]
 case bytes=>unfold K8;split<;>simp_all
 case ofb=>unfold P6;split<;>simp_all;unfold Om;split<;>simp_all
def BB:Ins->List O
 |.mov _ x=>[x]
 |.pick _ c a b=>[c,a,b]
 |.load _ x _ _=>[x]
 |.fa _ x _=>[x]
 |.ia _ s i _=>[s,i]
 |.idx _ s i=>[s,i]
 |.bin _ _ x y=>[x,y]
 |.eqs _ _ _ x y=>[x,y]
 |.eqb _ _ x y=>[x,y]
 |.un _ _ x=>[x]
 |.lens _ x=>[x]
 |.lenl _ x=>[x]
 |.ext _ x _=>[x]
 |.bsn _ _ _ ps=>ps
 |.build _ _ ps=>ps.map (·.2.2)
 |.mkfn _ _ first caps=>first++caps
 |.max _ x y=>[x,y]
 |.conv _ _ x=>[x]
 |.min _ x y=>[x,y]
 |.fld _ x _ _ _=>[x]
 |.aidx _ x i _ _ _=>[x,i]
 |.sh _ _ x y=>[x,y]
 |.slc _ x lo hi _=>x::(lo.toList++hi.toList)
 |.sslc _ x lo hi=>x::(lo.toList++hi.toList)
 |.lookup _ x k _ _ _=>[x,k]
 |.lenm _ x=>[x]
 |.iaa _ x i _ _=>[x,i]
 |.bytes _ x=>[x]
 |.ofb _ x=>[x]
 |.call _ _ args=>args
 |.callv _ f args=>f::args
 |.callo _ _ args=>args
 |.callf _ _ args=>args
 |.callvf _ f args=>f::args
 |.store x v _=>[x,v]
 |.mupd x k v _=>[x,k,v]
 |_=>[]
theorem S4{ins:Ins}{ρ ρ':O->D}{σ σ':Nat->Option Blk}(hρ:∀o∈BB ins,ρ o=ρ' o)(hσ:∀o∈BB ins,∀nm∈(ρ o).nms,σ nm=σ' nm):pv ρ σ ins=pv ρ' σ' ins:=by
 cases ins<;>simp only[BB,Zfb,Zfw,Zay,forall_eq_or_imp,forall_eq]at hρ hσ<;>simp only[pv]
 case load=>rw[hρ]at hσ;rw[hρ];split<;>simp_all[D.nms,Ref.nm]
 case ia=>rw[hρ.1]at hσ;rw[hρ.1,hρ.2];split<;>simp_all[D.nms,Ref.nm]
 case slc x lo hi k=>
  have e1:lo.map ρ=lo.map ρ':=by cases lo with|none=>rfl|some z=>simp[hρ.2 z (by simp)]
  have e2:hi.map ρ=hi.map ρ':=by cases hi with|none=>rfl|some z=>simp[hρ.2 z (by simp)]
  have h0:=hσ.1;rw[hρ.1]at h0;rw[e1,e2,hρ.1];split<;>simp_all[D.nms,Ref.nm]
 case sslc x lo hi=>
  have e1:lo.map ρ=lo.map ρ':=by cases lo with|none=>rfl|some z=>simp[hρ.2 z (by simp)]
  have e2:hi.map ρ=hi.map ρ':=by cases hi with|none=>rfl|some z=>simp[hρ.2 z (by simp)]
  rw[e1,e2,hρ.1]
 case lookup=>rw[hρ.1,hρ.2]at hσ;rw[hρ.1,hρ.2];split<;>simp_all[D.nms,Ref.nm];split<;>simp_all[]
 case lenm=>rw[hρ]at hσ;rw[hρ];split<;>simp_all[D.nms,Ref.nm]
 case bsn k ps=>
  have e1:(ps.map fun o=>cellsI (H1 (ρ o)))=ps.map fun o=>cellsI (H1 (ρ' o)):=Ze0 (fun p hp=>by rw[hρ p hp])
  have e2:(ps.all fun o=>JH (ρ o)&&((cellsI (H1 (ρ o))).length==k)&&(cellsI (H1 (ρ o))).all I.one)=(ps.all fun o=>JH (ρ' o)&&((cellsI (H1 (ρ' o))).length==k)&&(cellsI (H1 (ρ' o))).all I.one):=by grind
  rw[e1,e2]
 case build ps=>
  have e:∀p∈ps,ρ p.2.2=ρ' p.2.2:=fun p hp=>hρ _ (Zfh.2 ⟨p,hp,rfl⟩)
  have e1:(ps.map fun p=>(p.1,cellsI (H1 (ρ p.2.2))))=ps.map fun p=>(p.1,cellsI (H1 (ρ' p.2.2))):=Ze0 (fun p hp=>by rw[e p hp])
  have e2:(ps.all fun p=>JH (ρ p.2.2)&&((cellsI (H1 (ρ p.2.2))).length==p.2.1))=(ps.all fun p=>JH (ρ' p.2.2)&&((cellsI (H1 (ρ' p.2.2))).length==p.2.1)):=by grind
  rw[e1,e2]
 case mkfn f first caps=>
  have e1:∀l:List O,(∀o∈l,ρ o=ρ' o)->(l.mapM fun o=>Cm (ρ o))=l.mapM fun o=>Cm (ρ' o):=by
   intro l
   induction l with
   |nil=>intro _;rfl
   |cons x l ih=>intro h;rw[Zey,Zey,h x (by simp),ih fun o ho=>h o (by simp[ho])]
  rw[e1 _ fun o ho=>hρ o (Ze9.2 (.inl ho)),e1 _ fun o ho=>hρ o (Ze9.2 (.inr ho))]
 all_goals simp_all
end
end Go.Dl
end
section
namespace Go.Dl
open Go Go.RowKit
variable{s t:St}
def Oc(s t:St):Prop:=(∀i,Aj s.env i=Aj t.env i)/\∀m,Aa s.sto m=Aa t.sto m
theorem Oc.refl(s:St):Oc s s:=⟨fun _=>rfl,fun _=>rfl⟩
theorem Oc.symm(h:Oc s t):Oc t s:=⟨fun i=>(h.1 i).symm,fun i=>(h.2 i).symm⟩
theorem Oc.trans{u:St}(h:Oc s t)(k:Oc t u):Oc s u:=⟨fun i=>(h.1 i).trans (k.1 i),fun i=>(h.2 i).trans (k.2 i)⟩
theorem Oc.put(h:Oc s t)(d:Nat)(x:D):Oc (s.put d x) (t.put d x):=⟨fun i=>by simp only[St.put,Aj];split;rfl;exact h.1 i,h.2⟩
theorem Oc.bind(h:Oc s t)(d:Nat)(x:Blk):Oc (s.bind d x) (t.bind d x):=⟨h.1,fun i=>by simp only[St.bind,Aa];split;rfl;exact h.2 i⟩
theorem Oc.setB(h:Oc s t)(d:Nat)(x:Blk):Oc (s.setB d x) (t.setB d x):=⟨h.1,fun i=>by simp only[St.setB,CO,h.2]⟩
theorem Oc.names(hs:Oc s t):names t.sto=names s.sto:=by funext m;simp only[Dl.names,hs.2]
theorem Rel.sim{GL:List (Nat×List I)}{n:Nat}{S:Sh}{M:Mem}{μ:Place}{st st':St}{a:Act}{w:World}(h:Rel GL n S M μ st a w)(hs:Oc st st'):Rel GL n S M μ st' a w:=by have hn:=hs.names;exact{toStoOk:={sub:=h.sub,blk:=fun nm b hb=>by rw[hn];exact h.blk nm b (by rw[hs.2];exact hb),sep:=fun nm nm' k k' jg h1 h2=>h.sep nm nm' k k' jg (by rw[<-hn];exact h1) (by rw[<-hn];exact h2),low:=h.low},small:=h.small,pin:=h.pin,defers:=h.defers,size:=h.size,env:=fun s=>by rw[hn,<-hs.1];exact h.env s,glob:=h.glob}
def I7(st:St):Prop:=(∀s,∀nm∈(Aj st.env s).nms,names st.sto nm)/\∀nm b,Aa st.sto nm=some b->∀m∈b.nms,names st.sto m
theorem Rel.closed{GL:List (Nat×List I)}{n:Nat}{S:Sh}{M:Mem}{μ:Place}{st:St}{a:Act}{w:World}(h:Rel GL n S M μ st a w):I7 st:=by
 refine⟨fun s nm hn=>(h.env s).name nm hn,fun nm b hg m hm=>?_⟩;cases b with
 |cells cs=>obtain⟨b,vs,t,_,_,hs,hr⟩:=h.blk nm _ hg;obtain⟨d,hd,hdm⟩:=Zff.1 hm;obtain⟨j,hj,rfl⟩:=Zfg.1 hd;exact(hr j hj (by omega)).name m hdm
 |lp l q cs=>obtain⟨vs,_,_,hs,hr⟩:=h.blk nm _ hg;obtain⟨d,hd,hdm⟩:=Zff.1 hm;obtain⟨j,hj,rfl⟩:=Zfg.1 hd;exact(hr j hj (by omega)).name m hdm
 |gmap ls clk es=>obtain⟨b,xs,_,_,he,_⟩:=h.blk nm _ hg;obtain⟨d,hd,hdm⟩:=Zff.1 hm;obtain⟨j,hj,rfl⟩:=Zfg.1 hd;exact(he.2 j hj (by rw[he.1];exact hj)).2.2.name m hdm
 |_=>simp[Blk.nms]at hm
theorem I7.sim(h:I7 s)(hs:Oc s t):I7 t:=
 ⟨fun i nm hn=>by rw[hs.names];exact h.1 i nm (by rw[hs.1];exact hn),fun nm b hg m hm=>by rw[hs.names];exact h.2 nm b (by rw[hs.2];exact hg) m hm⟩
section
variable (P:Program)(GL:List (Nat×List I))(sn:List Nat)
def looks:Ins->Bool
 |.load _ _ _ _|.ia _ _ _ _|.slc _ _ _ _ _=>true
 |_=>false
def Hr:Ins->Bool
 |.lookup _ _ _ _ _ _|.lenm _ _=>true
 |_=>false
def Is1(P:Program)(GL:List (Nat×List I))(f:FuncId)(ds:List D)(y:I):Prop:=MC P GL f ds [] [] fun r s=>r=.i y/\s=[]
def BP(ins:Ins)(x:Option I)(st:St):Prop:=
 match ins with
 |.call _ f args=>(args.all fun o=>JH (AZ GL st o))=true/\∃y,x=some y/\Is1 P GL f (args.map (AZ GL st)) y
 |.callv _ fo args=>JH (AZ GL st fo)=true/\(args.all fun o=>JH (AZ GL st o))=true/\∃p y,EA (AZ GL st fo) (args.map (AZ GL st))=some p/\x=some y/\Is1 P GL p.1 p.2 y
 |.alloc d zs=>Aa st.sto d=none/\(zs.map D.i).all Ez=true
 |.mupd ox oq ov ls=>match AZ GL st ox,AZ GL st oq,AZ GL st ov with
  |.ref (.mp nm),.i q,.i _=>Ay ls q=true/\match Aa st.sto nm with
   |some (.map ls' _)=>ls'=ls
   |_=>False
  |_,_,_=>False
 |.store ox ov k=>match AZ GL st ox with
  |.ref (.loc nm off)=>nm∈sn/\match Aa st.sto nm with
   |some (.cells cs)=>(A9 (AZ GL st ov)).length=k/\(A9 (AZ GL st ov)).all Ez=true/\off+k<=cs.length
   |_=>False
  |_=>False
 |ins=>(BH ins).isSome/\(pv (AZ GL st) (Aa st.sto) ins).2/\(looks ins=true->∀o∈BB ins,∀nm∈(AZ GL st o).nms,nm∉sn)
def Ef(ins:Ins)(x:Option I)(st:St):St:=
 match ins with
 |.call d _ _=>match d,x with
  |some s,some y=>st.put s (.i y)
  |_,_=>st
 |.callv d _ _=>match d,x with
  |some s,some y=>st.put s (.i y)
  |_,_=>st
 |.mupd ox oq ov ls=>match AZ GL st ox,AZ GL st oq,AZ GL st ov with
  |.ref (.mp nm),.i q,.i u=>match Aa st.sto nm with
   |some (.map _ es)=>st.setB nm (.map ls (DV es q u))
   |_=>st
  |_,_,_=>st
 |.alloc d zs=>(st.bind d (.cells (zs.map .i))).put d (.ref (.loc d 0))
 |.store ox ov _=>match AZ GL st ox with
  |.ref (.loc nm off)=>match Aa st.sto nm with
   |some (.cells cs)=>st.setB nm (.cells (setL cs off (A9 (AZ GL st ov))))
   |_=>st
  |_=>st
 |ins=>match BH ins with
  |some d=>st.put d (pv (AZ GL st) (Aa st.sto) ins).1
  |none=>st
def Bp(g:Option (Nat×Bool))(st:St):Option Bool:=
 match g with
 |none=>some true
 |some (s,want)=>match Aj st.env s with
  |.i (.bool b)=>some (b==want)
  |.i .undef=>some false
  |_=>none
abbrev X:=GI×Option I
def Ca(g:X)(st:St):Prop:=match Bp g.1.gd st with
 |none=>False
 |some true=>BP P GL sn g.1.ins g.2 st
 |some false=>True
def Bq(g:X)(st:St):St:=match Bp g.1.gd st with
 |some true=>Ef GL g.1.ins g.2 st
 |_=>Bv g.1.ins st
def DW:List X->St->(St->Prop)->Prop
 |[],st,K=>K st
 |g::r,st,K=>Ca P GL sn g st/\DW r (Bq GL g st) K
def F0:O->List Nat
 |.t n=>[n]
 |_=>[]
def CQ(g:GI):List Nat:=(match g.gd with|some (s,_)=>[s]|none=>[])++(BB g.ins).flatMap F0
def H8:Ins->Bool
 |.store _ _ _=>true
 |_=>false
def GN:Ins->Bool
 |.mupd _ _ _ _=>true
 |_=>false
def OE(a b:GI):Bool:=
 (match a.ins.dst with|some d=>!(CQ b).contains d&&b.ins.dst !=some d|none=>true)&&(match b.ins.dst with|some d=>!(CQ a).contains d|none=>true)&&!(H8 a.ins&&H8 b.ins)&&!(GN a.ins&&(GN b.ins||Hr b.ins))&&!(GN b.ins&&Hr a.ins)
end
section
variable {P:Program}{GL:List (Nat×List I)}{sn:List Nat}
theorem S5(h:Oc s t):AZ GL s=AZ GL t:=by funext o;cases o<;>simp[AZ,h.1]
theorem WW(h:Oc s t)(g:Option (Nat×Bool)):Bp g s=Bp g t:=by
 cases g with
 |none=>rfl
 |some p=>simp only[Bp,h.1]
theorem iK(h:Oc s t)(ins:Ins)(x:Option I):BP P GL sn ins x s↔BP P GL sn ins x t:=by have e:Aa s.sto=Aa t.sto:=funext h.2;have eo:AZ GL s=AZ GL t:=S5 h;simp_all[BP]
theorem iL(h:Oc s t)(ins:Ins)(x:Option I):Oc (Ef GL ins x s) (Ef GL ins x t):=by
 have e:Aa s.sto=Aa t.sto:=funext h.2;cases ins<;>simp only[Ef,S5 h,e]
 case alloc=>exact(h.bind _ _).put _ _
 case store=>split;split;exact h.setB _ _;exact h;exact h
 case mupd=>split;split;exact h.setB _ _;exact h;exact h
 case call=>split;exact h.put _ _;exact h
 case callv=>split;exact h.put _ _;exact h
 all_goals first|(split;exact h.put _ _;exact h)|exact h
theorem iM(h:Oc s t)(ins:Ins):Oc (Bv ins s) (Bv ins t):=by unfold Bv;split;exact h.put _ _;exact h
theorem iN(h:Oc s t)(g:X):Ca P GL sn g s↔Ca P GL sn g t:=by grind[Ca,WW,iK]
theorem iO(h:Oc s t)(g:X):Oc (Bq GL g s) (Bq GL g t):=by grind[Bq,WW,iL,iM]
theorem Qj:∀(l:List X) {s t:St} {K:St->Prop},Oc s t->DW P GL sn l s K->DW P GL sn l t (fun u=>∃v,K v/\Oc v u)
 |[],s,t,K,h,hr=>⟨s,hr,h⟩
 |g::r,s,t,K,h,hr=>⟨(iN h g).1 hr.1,Qj r (iO h g) hr.2⟩
theorem J9:∀(l:List X) {s:St} {K K':St->Prop},(∀u,K u->K' u)->DW P GL sn l s K->DW P GL sn l s K'
 |[],s,K,K',h,hr=>h _ hr
 |g::r,s,K,K',h,hr=>⟨hr.1,J9 r h hr.2⟩
end
end Go.Dl
end
