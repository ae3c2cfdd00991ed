/-Lemmas.-/
import Derived.Test.YtkhlddbmhehbbaaGreatDoorU4
set_option linter.all false
section
namespace Go.Dl
open Go Go.RowKit
section
variable {P:Program}{GL:List (Nat×List I)}{n:Nat}{S:Sh}{M:Mem}{μ:Place}{st:St}{a:Act}{w:World}{K:St->Prop}{Q:Exit->Act->World->Prop}{o:Oper}{d:Nat}
theorem jF(h:Rel GL n S M μ st a w){t:TypeId}{r:Option Operand}{ls:List LK}(ho:o.op=.makeMap t r)(hr:r=none)(hd:o.dst=some d)(hn:d<n)(hs:step P GL (.mkgm d ls) st K):o.wpX P a w (Ax GL n S M w K) Q:=by
 subst hr;simp only[step,LJ]at hs;split at hs
 ·rename_i jl;have h0:Rel GL n S M μ st a (w.alloc (.map #[] 0)):=h.of (h.toStoOk.alloc _) (Mem.le_refl _) fun _ _ hv=>hv
  have h2:Rel GL n S M (BP μ d (.map (some w.heap.size))) (st.bind d (.gmap ls 0 [])) a (w.alloc (.map #[] 0)):=by
   refine h0.bindName jl hn ⟨w.heap.size,#[],Bq _ _ _,⟨fun hS=>by have:=h.low _ hS;omega,GY w _,Mem.unk_new h.sub (Nat.le_refl _)⟩,⟨rfl,fun j hj=>by simp at hj⟩,⟨by simp,by simp⟩,by simp⟩ fun m k hm hk=>?_
   have:=(h.toStoOk.lt hm hk).1;grind[An]
  refine B9 (v:=.map (some w.heap.size)) (w':=w.alloc (.map #[] 0)) ?_ ⟨_,hs,M,_,by rw[hd];exact h2.put hn ⟨Eo,w.heap.size,Bq _ _ _,rfl⟩,MExt.refl _ _,Gp w _ h.low⟩;simp[execOp,ho,Instr.makeMap]
 ·exact hs.elim
theorem Tn{N:Nat->Prop}{c1:Cp}{x:I}{v1 v2:Value}(h1:Ci M μ N c1 v1)(h2:Rep M x v2):AI M μ N (.tup [c1,.i x]) (.tuple #[v1,v2]):=
 ⟨#[v1,v2],rfl,rfl,fun j a b=>by
  match j with
  |0=>exact h1
  |1=>exact h2
  |j+2=>simp at a;omega⟩
theorem To(es:List (I×Nat×D))(q:I):Es es q=D2 es q:=rfl
theorem jG(h:Rel GL n S M μ st a w){t k e:TypeId}{x ix:Operand}{ox oi:O}{ok:Bool}{ls:List LK}{i:TypeInfo}{z:Value}{zi:I}(ho:o.op=.lookup t x ix ok)(hd:o.dst=some d)(hn:d<n)(hx:cO GL x=some ox)(vi:cO GL ix=some oi)
  (hu:P.underlying t=some (.map k e))(hk:D1 P k=some ls)(hi:P.info? e=some i)(hz:i.zero=some z)(hc:D0 z=some zi)(hs:step P GL (.lookg d ox oi zi ok ls) st K):o.wpX P a w (Ax GL n S M w K) Q:=by
 have hr:=Az h hx;have jy:=Az h vi;have fall:Fj (A8 GL st ox) (A8 GL st oi) zi ok ls d st K->o.wpX P a w (Ax GL n S M w K) Q:=fun hs=>Xs h ho hd hn hx vi hu hk hi hz hc (by simpa only[step]using hs)
 simp only[step,Jk]at hs;split at hs
 ·rename_i nm q e1 e2;rw[e1]at hr;rw[e2]at jy;obtain⟨hf,hs⟩:=hs;have jy:=AJ jy;obtain⟨hN,b,hμ,hX⟩:=hr;unfold Jj at hs;split at hs
  ·rename_i ls' clk es hg;obtain⟨rfl,hs⟩:=hs;obtain⟨b',xs,hμ',jc,he,hbb,qa⟩:=h.blk nm _ hg;rw[hμ]at hμ';cases hμ';have hck:=OZ (P:=P) (w:=w) hk jy hf;have qk:=O0 (P:=P) (w:=w) hk jy hf he.keys qa;have fin:∀(V:Value) (X:D),(Instr.lookup t (a.eval x) (a.eval ix) ok).run P w=.ok V w->AI M μ (names st.sto) X V->K (st.put d X)->o.wpX P a w (Ax GL n S M w K) Q:=fun V X jf hv hK=>
    A3 h hd hn (by simp only[execOp,ho,Sem.run_bind,jf,Result.andThen_ok,Sem.run_pure]) hv hK
   simp only[FM,To]at hs;cases hm:D2 es q with
   |none=>
    rw[hm]at qk hs;simp only[ES]at hs;refine fin (if ok then .tuple #[z,.bool false]else z) _ ?_ ?_ hs
    ·simp only[Option.bind_none]at qk;rw[hX];simp[Instr.lookup,run_underlying hu,MapKept.run_getObj_map jc.heap,hck,qk,zeroValue,typeInfo,hi,hz]
    ·cases ok with
     |true=>exact AM (Rep.tup' (Ak.cons (G3 hc) (Ak.cons (.bool _) (Ak.nil M))))
     |false=>exact AM (G3 hc)
   |some j=>
    have hj:=O1 hm;have jq:j<xs.size:=by have:=he.1;simp at this;omega
    rw[hm]at qk hs;simp only[List.getElem?_eq_getElem hj,Option.map_some,ES]at hs;have hv:=(he.2 j hj (by simpa using jq)).2.2;have jf:(Instr.lookup t (a.eval x) (a.eval ix) ok).run P w=.ok (if ok then .tuple #[xs.toList[j].val,.bool true]else xs.toList[j].val) w:=by simp only[Option.bind_some,List.getElem?_eq_getElem (show j<xs.toList.length by simpa using jq),Option.map_some]at qk;rw[hX];simp[Instr.lookup,run_underlying hu,MapKept.run_getObj_map jc.heap,hck,qk]
    cases ok with
    |true=>
     simp only[if_true]at hs jf;split at hs
     ·rename_i c hcp;exact fin _ _ jf (Tn (SW hv hcp) (Rep.bool true)) hs
     ·exact hs.elim
    |false=>simp only[Bool.false_eq_true,if_false]at hs jf;exact fin _ _ jf hv hs
  ·refine fall ?_;rw[e1,e2];exact⟨hf,hs⟩
 ·exact fall hs
theorem Xv(h:Rel GL n S M μ st a w){t k e:TypeId}{x ix y:Operand}{ox oi oy:O}{ls:List LK}(ho:o.op=.mapUpdate t x ix y\/o.op=.insert t x ix y)(hd:o.dst=none)(hx:cO GL x=some ox)(vi:cO GL ix=some oi)(hy:cO GL y=some oy)
  (hu:P.underlying t=some (.map k e))(hk:D1 P k=some ls)(hs:step P GL (.mupdg ox oi oy ls) st K):o.wpX P a w (Ax GL n S M w K) Q:=by
 have hr:=Az h hx;have jy:=Az h vi;have wi:=Az h hy;simp only[step,LL]at hs;split at hs
 ·rename_i nm q e1 e2;obtain⟨hf,hs⟩:=hs;unfold Jl at hs;split at hs
  ·rename_i v ls' clk es hg;rw[e1]at hr;rw[e2]at jy;have jy:=AJ jy;obtain⟨hN,b,hμ,hX⟩:=hr;obtain⟨rfl,hs⟩:=hs;obtain⟨b',xs,hμ',jc,he,hbb,qa⟩:=h.blk nm _ hg;rw[hμ]at hμ';cases hμ';have hck:=OZ (P:=P) (w:=w) hk jy hf false;have qk:=O0 (P:=P) (w:=w) hk jy hf he.keys qa;have fin:∀(xs':Array MapEntry) (clk':Nat) (es':List (I×Nat×D)),(Instr.mapUpdate t (a.eval x) (a.eval ix) (a.eval y)).run P w=.ok () (putObj w b (.map xs' clk'))->Hx M μ (names st.sto) xs'.toList es'->GX xs'.toList clk'->(∀e∈es',AB ls' e.1=true)->
     K (st.setB nm (.gmap ls' clk' es'))->o.wpX P a w (Ax GL n S M w K) Q:=fun xs' clk' es' jf q1 q2 q3 hK=>by
    have qu:=Nm w b (.map xs' clk') jc.low;refine Nj (w':=putObj w b (.map xs' clk')) ?_ ⟨_,hK,M,μ,?_,MExt.refl _ _,qu⟩
    ·rcases ho with ho|ho<;>simp only[execOp,ho,Sem.run_bind,jf,Result.andThen_ok,Sem.run_pure]
    ·rw[hd];exact h.setBlk (blk':=.gmap ls' clk' es') hg (by rw[hμ];rfl) qu.size (fun k hk _=>LY hk) ⟨b,xs',hμ,⟨jc.low,Nl jc.heap,jc.unk⟩,by rw[CX];exact q1,q2,q3⟩
   simp only[OQ,To]at hs;cases hj:D2 es q with
   |none=>
    rw[hj]at hs qk;simp only at hs;refine fin (xs.push {key:=a.eval ix,val:=a.eval y,born:=clk}) (clk+1) _ ?_ ?_ (Tk hbb _ _) (fun e he=>(List.mem_append.1 he).elim (qa e) (fun q=>by simp at q;subst q;exact hf)) hs
    ·simp only[Option.bind_none]at qk;simp[Instr.mapUpdate,run_underlying hu,hX,MapKept.run_getObj_map jc.heap,hck,qk,MapKept.run_setObj_map _ jc.heap,putObj]
    ·simp only[Array.toList_push];refine⟨by simp[he.1],fun j h1 h2=>?_⟩;by_cases qy:j<es.length
     ·rw[List.getElem_append_left qy,List.getElem_append_left (by rw[he.1];exact qy)];exact he.2 j qy _
     ·obtain rfl:j=es.length:=by simp at h1;omega
      rw[List.getElem_append_right (by omega),List.getElem_append_right (by rw[he.1];omega)];have wq:=he.1;simp only[Nat.sub_self,List.getElem_cons_zero,wq];exact⟨jy,trivial,wi⟩
   |some j=>
    have qy:=O1 hj;have hjx:j<xs.size:=by have:=he.1;simp at this;omega
    rw[hj]at hs qk;simp only at hs;have hj2:=he.2 j qy (by simpa using hjx);have wx:=Ti hj2.1 jy (qa _ (List.getElem_mem qy)) hf (Tj hj qy);refine fin (xs.modify j fun e=>{e with key:=a.eval ix,val:=a.eval y}) clk _ ?_ ?_ (QH hbb _ _ (fun _=>rfl)) (fun e he=>?_) hs
    ·simp only[Option.bind_some,Array.getElem?_toList,Array.getElem?_eq_getElem hjx,Option.map_some]at qk;simp only[Array.getElem_toList]at wx;simp[Instr.mapUpdate,run_underlying hu,hX,MapKept.run_getObj_map jc.heap,hck,qk,Instr.keyThatStays,hjx,wx,MapKept.run_setObj_map _ jc.heap,putObj]
    ·refine⟨by simp;simpa using he.1,fun i h1 h2=>?_⟩;have xc:i<es.length:=by grind
     have jt:i<xs.size:=by grind
     have:=he.2 i xc (by simpa using jt);simp only[Array.getElem_toList,Array.getElem_modify,List.getElem_modify];by_cases hji:j=i
     ·subst hji;simp only[if_true];exact⟨jy,by simpa using this.2.1,wi⟩
     ·rw[if_neg hji,if_neg hji];simpa using this
    ·obtain⟨i,xc,rfl⟩:=List.getElem_of_mem he;rw[List.getElem_modify];split
     ·exact hf
     ·exact qa _ (List.getElem_mem _)
  ·rename_i ls' es u hg e3;refine Tl h ho hd hx vi hy hu hk ?_;simp only[step,Il,e1,e2,e3,hg,Jg];exact⟨hf,hs⟩
  ·exact hs.elim
 ·exact hs.elim
theorem jH{z:Value}(h:D0 z=some (.sl [])):z=.slice none 0 0:=by
 unfold D0 at h;split at h
 ·simp only[Option.map_eq_some_iff]at h;obtain⟨_,_,h⟩:=h;cases h
 ·unfold Jr at h;split at h<;>cases h;rfl
theorem jI(d clk:Nat):¬pinned (Au d clk):=by grind[pinned,Au]
theorem jJ(h:Rel GL n S M μ st a w){t k e:TypeId}{x ix:Operand}{ox oi:O}{ls:List LK}{i:TypeInfo}{z:Value}{zi:I}{ee kk:Nat}(ho:o.op=.mapEntry t x ix)(hd:o.dst=some d)(hn:d<n)(hx:cO GL x=some ox)(vi:cO GL ix=some oi)
  (hu:P.underlying t=some (.map k e))(hk:D1 P k=some ls)(hi:P.info? e=some i)(hz:i.zero=some z)(hc:D0 z=some zi)(hs:step P GL (.ment d ox oi zi ls ee kk) st K):o.wpX P a w (Ax GL n S M w K) Q:=by
 have hr:=Az h hx;have jy:=Az h vi;simp only[step,Kl]at hs;split at hs
 ·rename_i nm q e1 e2;obtain⟨hf,hs⟩:=hs;rw[e1]at hr;rw[e2]at jy;have jy:=AJ jy;obtain⟨hN,b,hμ,hX⟩:=hr;unfold Kk at hs;split at hs
  ·rename_i ls' clk es hg;obtain⟨rfl,hs⟩:=hs;obtain⟨b',xs,hμ',jc,he,hbb,qa⟩:=h.blk nm _ hg;rw[hμ]at hμ';cases hμ';have hck:=OZ (P:=P) (w:=w) hk jy hf false;have qk:=O0 (P:=P) (w:=w) hk jy hf he.keys qa;rw[To]at hs;cases hj:D2 es q with
   |none=>
    rw[hj]at hs qk;simp only at hs;unfold Jn at hs;split at hs
    ·rename_i hfr;have hzv:=jH hc;subst hzv;have hb:=h.bindEmptyN hfr (jI d clk) none ee kk;have qu:=Nm w b (.map (xs.push {key:=a.eval ix,val:=.slice none 0 0,born:=clk}) (clk+1)) jc.low;have ji:nm≠Au d clk:=fun e=>by grind
     have hμ2:BP μ (Au d clk) (.slice none 0 0) nm=.map (some b):=by grind[CY]
     have hg2:Aa (st.bind (Au d clk) (.rows ee kk [])).sto nm=some (.gmap ls' clk es):=by grind[St.bind,Aa]
     have he2:Hx M (BP μ (Au d clk) (.slice none 0 0)) (names ((Au d clk,.rows ee kk [])::st.sto)) xs.toList es:=he.mono (Mem.le_refl _) fun e _ m _ hm=>⟨Gq m hm,CY _ _ fun e=>by subst e;simp[names,hfr]at hm⟩
     have hz0:BU (BP μ (Au d clk) (.slice none 0 0)) (names ((Au d clk,.rows ee kk [])::st.sto)) (.sl (Au d clk) kk 0 0) (.slice none 0 0):=⟨Eo,by rw[Bq];exact Kv _ _⟩;have k7:Rel GL n S M (BP μ (Au d clk) (.slice none 0 0)) ((st.bind (Au d clk) (.rows ee kk [])).setB nm (.gmap ls' (clk+1) (es++[(q,clk,.ref (.sl (Au d clk) kk 0 0))]))) a (putObj w b (.map (xs.push {key:=a.eval ix,val:=.slice none 0 0,born:=clk}) (clk+1))):=by
      refine hb.setBlk (blk':=.gmap ls' (clk+1) (es++[(q,clk,.ref (.sl (Au d clk) kk 0 0))])) hg2 (by rw[hμ2];rfl) qu.size (fun k hk _=>LY hk) ⟨b,_,hμ2,⟨jc.low,Nl jc.heap,jc.unk⟩,?_,Tk hbb _ _,fun e he=>(List.mem_append.1 he).elim (qa e) (fun q=>by simp at q;subst q;exact hf)⟩;rw[CX];simp only[Array.toList_push];refine⟨by simp[he2.1],fun j h1 h2=>?_⟩;by_cases qy:j<es.length
      ·rw[List.getElem_append_left qy,List.getElem_append_left (by rw[he2.1];exact qy)];exact he2.2 j qy _
      ·obtain rfl:j=es.length:=by grind
       rw[List.getElem_append_right (by omega),List.getElem_append_right (by rw[he2.1];omega)];have wq:=he2.1;simp only[Nat.sub_self,List.getElem_cons_zero,wq];exact⟨jy,trivial,hz0⟩
     refine B9 (v:=.tuple #[.slice none 0 0,goInt clk]) (w':=putObj w b (.map (xs.push {key:=a.eval ix,val:=.slice none 0 0,born:=clk}) (clk+1))) ?_ ⟨_,hs,M,_,by
      rw[hd];refine k7.put hn (Tn ?_ (Rep.int .i64 (clk:Int)));simp only[St.setB,St.bind];rw[CX];exact hz0,MExt.refl _ _,qu⟩
     simp only[Option.bind_none]at qk;simp[execOp,ho,Instr.mapEntry,run_underlying hu,hX,MapKept.run_getObj_map jc.heap,hck,qk,zeroValue,typeInfo,hi,hz,MapKept.run_setObj_map _ jc.heap,putObj]
    ·exact hs.elim
   |some j=>
    have qy:=O1 hj;have hjx:j<xs.size:=by have:=he.1;simp at this;omega
    rw[hj]at hs qk;simp only[List.getElem?_eq_getElem qy,Jo]at hs;have hj2:=he.2 j qy (by simpa using hjx);have wx:=Ti hj2.1 jy (qa _ (List.getElem_mem qy)) hf (Tj hj qy);split at hs
    ·rename_i c hcp;have qu:=Nm w b (.map (xs.modify j fun e=>{e with key:=a.eval ix}) clk) jc.low;have k7:Rel GL n S M μ (st.setB nm (.gmap ls' clk (es.modify j fun e=>(q,e.2)))) a (putObj w b (.map (xs.modify j fun e=>{e with key:=a.eval ix}) clk)):=by
      refine h.setBlk (blk':=.gmap ls' clk (es.modify j fun e=>(q,e.2))) hg (by rw[hμ];rfl) qu.size (fun k hk _=>LY hk) ⟨b,_,hμ,⟨jc.low,Nl jc.heap,jc.unk⟩,?_,QH hbb _ _ (fun _=>rfl),fun e he=>?_⟩
      ·rw[CX];refine⟨by simp;simpa using he.1,fun i h1 h2=>?_⟩;have xc:i<es.length:=by grind
       have jt:i<xs.size:=by grind
       have:=he.2 i xc (by simpa using jt);grind
      ·obtain⟨i,xc,rfl⟩:=List.getElem_of_mem he;grind
     refine B9 (v:=.tuple #[xs[j].val,goInt xs[j].born]) (w':=putObj w b (.map (xs.modify j fun e=>{e with key:=a.eval ix}) clk)) ?_ ⟨_,hs,M,μ,by
      rw[hd];have e9:xs[j].born=es[j].2.1:=by grind
      rw[show goInt xs[j].born=Value.int .i64 (es[j].2.1:Int) by rw[e9];rfl];refine k7.put hn (Tn ?_ (Rep.int .i64 _));have:=SW hj2.2.2 hcp;simp only[St.setB];rw[CX];simpa using this,MExt.refl _ _,qu⟩
     simp only[Option.bind_some,Array.getElem?_toList,Array.getElem?_eq_getElem hjx,Option.map_some]at qk;simp only[Array.getElem_toList]at wx;simp[execOp,ho,Instr.mapEntry,run_underlying hu,hX,MapKept.run_getObj_map jc.heap,hck,qk,Instr.keyThatStays,hjx,wx,MapKept.run_setObj_map _ jc.heap,putObj]
    ·exact hs.elim
  ·exact hs.elim
 ·exact hs.elim
theorem jK(h:Rel GL n S M μ st a w){t:TypeId}{x s y:Operand}{ox os oy:O}(ho:o.op=.entryStore t x s y)(hd:o.dst=none)(hx:cO GL x=some ox)(hsx:cO GL s=some os)(hy:cO GL y=some oy)
  (hs:step P GL (.ests ox os oy) st K):o.wpX P a w (Ax GL n S M w K) Q:=by
 have hr:=Az h hx;have hrs:=Az h hsx;have wi:=Az h hy;simp only[step,LM]at hs;split at hs
 ·rename_i nm kk sn e1 e2;rw[e1]at hr;rw[e2]at hrs;have hsv:=Ct (AJ hrs);obtain⟨hN,b,hμ,hX⟩:=hr;unfold Km at hs;split at hs
  ·rename_i ls clk es hg;obtain⟨hany,hs⟩:=hs;obtain⟨b',xs,hμ',jc,he,hbb,qa⟩:=h.blk nm _ hg;rw[hμ]at hμ';cases hμ';rw[List.any_eq_true]at hany;obtain⟨e0,hm0,hb0⟩:=hany;obtain⟨j,hj,rfl⟩:=List.getElem_of_mem hm0;have hjx:j<xs.size:=by have:=he.1;simp at this;omega
   have hbj:xs[j].born=es[j].2.1:=by have:=(he.2 j hj (by simpa using hjx)).2.1;rw[Array.getElem_toList]at this;exact this
   have hsn:sn=(es[j].2.1:Int):=(beq_iff_eq.1 hb0).symm;have huniq:∀i (hi:i<xs.size),xs[i].born=xs[j].born->i=j:=fun i hi e=>by
    have hnd:=hbb.1;have ja:i<(xs.toList.map (·.born)).length:=by grind
    have jq:j<(xs.toList.map (·.born)).length:=by grind
    rw[List.nodup_iff_pairwise_ne,List.pairwise_iff_getElem]at hnd;grind
   have hfi:xs.findIdx? (fun e=>(e.born:Int)==sn)=some j:=by rw[Array.findIdx?_eq_some_iff_getElem];grind
   have qu:=Nm w b (.map (xs.modify j fun e=>{e with val:=a.eval y}) clk) jc.low;have k7:Rel GL n S M μ (st.setB nm (.gmap ls clk (es.map fun e=>if((e.2.1:Int)==sn)=true then(e.1,e.2.1,A8 GL st oy)else e))) a (putObj w b (.map (xs.modify j fun e=>{e with val:=a.eval y}) clk)):=by
    refine h.setBlk (blk':=.gmap ls clk (es.map fun e=>if((e.2.1:Int)==sn)=true then(e.1,e.2.1,A8 GL st oy)else e)) hg (by rw[hμ];rfl) qu.size (fun k hk _=>LY hk) ⟨b,_,hμ,⟨jc.low,Nl jc.heap,jc.unk⟩,?_,QH hbb _ _ (fun _=>rfl),fun e he=>?_⟩
    ·rw[CX];refine⟨by simp;simpa using he.1,fun i h1 h2=>?_⟩;have xc:i<es.length:=by grind
     have jt:i<xs.size:=by grind
     have:=he.2 i xc (by simpa using jt);grind
    all_goals grind
   refine Nj (w':=putObj w b (.map (xs.modify j fun e=>{e with val:=a.eval y}) clk)) ?_ ⟨_,hs,M,μ,by rw[hd];exact k7,MExt.refl _ _,qu⟩;simp[execOp,ho,Instr.entryStore,hX,hsv,asInt,asIntOf,MapKept.run_getObj_map jc.heap,hfi,MapKept.run_setObj_map _ jc.heap,putObj]
  ·exact hs.elim
 ·exact hs.elim
theorem jL(h:Rel GL n S M μ st a w){t e:TypeId}{x:Operand}{ox:O}(ho:o.op=.call {callee:=.builtin .cap,args:=#[x],argTypes:=#[t]})(hd:o.dst=some d)(hn:d<n)
  (hx:cO GL x=some ox)(hu:P.underlying t=some (.slice e))(hs:step P GL (.cap d ox) st K):o.wpX P a w (Ax GL n S M w K) Q:=by
 have hr:=Az h hx;simp only[step,LN]at hs;split at hs
 ·rename_i nm k0 lo hi e1;rw[e1]at hr;obtain⟨hN,aa,cap,hμ,qc,kc,qi⟩:=hr;have hv:∃A l,a.eval x=.slice A l (cap-lo):=by
   rcases qi with⟨rfl,a',hv⟩|⟨b,oo,rfl,hv⟩
   all_goals grind
  obtain⟨A,l,hv⟩:=hv;have jf:(execOp a.eval o).run P w=.ok (.value (.int .i64 ((cap-lo:Nat):Int))) w:=by simp only[execOp,ho,resolve,Sem.run_bind,Sem.run_pure,Result.andThen_ok,invoke,builtin,List.map_toArray,List.map_cons,List.map_nil,hv];simp[Builtin.cap_,run_underlying hu w,goInt]
  unfold Kn at hs;split at hs
  ·rename_i e' k' rs hg;rw[LW h hg hμ]at hs;exact A3 h hd hn jf (AM (.int .i64 _)) hs
  ·exact A3 h hd hn jf (AM (.int .i64 _)) (hs (cap-lo) (by omega))
  ·exact hs.elim
 ·exact hs.elim
theorem Xw{t t':TypeId}{x y:Operand}{v':Value}{w':World}(ho:o.op=.call {callee:=.builtin .copy,args:=#[x,y],argTypes:=#[t,t']})
  (h:(Builtin.copy_ #[t,t'] o.type #[a.eval x,a.eval y]).run P w=.ok v' w'):(execOp a.eval o).run P w=.ok (.value v') w':=by
 simp only[execOp,ho,resolve,Sem.run_bind,Sem.run_pure,Result.andThen_ok,invoke,builtin,List.map_toArray,List.map_cons,List.map_nil,h]
theorem Tp{t:TypeId}{x:Operand}{v':Value}{w':World}(ho:o.op=.call {callee:=.builtin .clear,args:=#[x],argTypes:=#[t]})
  (h:(Builtin.clear_ #[t] o.type #[a.eval x]).run P w=.ok v' w'):(execOp a.eval o).run P w=.ok (.value v') w':=by
 simp only[execOp,ho,resolve,Sem.run_bind,Sem.run_pure,Result.andThen_ok,invoke,builtin,List.map_toArray,List.map_cons,List.map_nil,h]
theorem jM(dT sT ty e k:TypeId)(hu:P.underlying dT=some (.slice e))(hk:Qp P e=some k)(g og dLen dCap:Nat)(bb:Addr)(sLen sCap:Nat)(cur:Array Value)(t:TypeId)(us:List Value)
  (hg:w.heap[g]? =some (.cells cur t (0,0)))(k9:us.length=Nat.min sLen dLen*k)(hsrc:∀j u,us[j]? =some u->w.cell? (bb.add j)=some u)(j6:og+us.length<=cur.size)(h1:∀u∈us,u.oneCell'=true):
  (Builtin.copy_ #[dT,sT] ty #[.slice (some ⟨g,og,none⟩) dLen dCap,.slice (some bb) sLen sCap]).run P w=.ok (goInt (Nat.min sLen dLen)) (w.setRow g (setL cur.toList og us).toArray):=by
 have hf:=run_firstCells_some (P:=P) w k (Nat.min sLen dLen) bb sLen sCap us k9 hsrc;have jh:=run_storeCells_at P g og t us 0 cur w hg (by simpa using j6) h1;simp only[Nat.add_zero]at jh;have hs:=EU (P:=P) hk;simp[Builtin.copy_,run_underlying hu,Builtin.lenOf,hs,hf,jh,setL]
theorem jN(dT sT ty e k:TypeId)(hu:P.underlying dT=some (.slice e))(hk:Qp P e=some k)(A B:Option Addr)(dLen dCap sLen sCap:Nat)(h0:Nat.min sLen dLen=0):
  (Builtin.copy_ #[dT,sT] ty #[.slice A dLen dCap,.slice B sLen sCap]).run P w=.ok (goInt 0) w:=by
 have hs:=EU (P:=P) hk;have hl:∀(x:Addr),(loadCells x 0).run P w=.ok #[] w:=fun x=>by rfl
 cases A<;>cases B<;>simp[Builtin.copy_,run_underlying hu,Builtin.lenOf,Builtin.firstCells,hs,h0,storeCells,hl]
theorem Rel.setSame(h:Rel GL n S M μ st a w){nm:Nat}{b:Blk}(hg:Aa st.sto nm=some b):Rel GL n S M μ (st.setB nm b) a w:=by
 refine h.of (st':=st.setB nm b) ⟨h.sub,fun m x hx=>?_,fun m m' k k' ji h1 h2=>?_,h.low⟩ (Mem.le_refl _) fun s v hv=>by grind[St.setB,CX]
 ·simp only[St.setB,C3]at hx⊢;rw[CX];split at hx
  ·rename_i e;subst e;rw[hg]at hx;cases hx;exact h.blk _ _ hg
  ·exact h.blk _ _ hx
 ·simp only[St.setB,CX]at h1 h2;exact h.sep m m' k k' ji h1 h2
theorem Rel.putO(h:Rel GL n S M μ st a w){od:Option Nat}(hd:∀d,od=some d->d<n){x:D}{v:Value}(hx:AI M μ (names st.sto) x v):Rel GL n S M μ (Dl.putO st od x) (a.put od v) w:=by
 cases od with
 |none=>exact h
 |some d=>exact h.put (hd d rfl) hx
theorem jO(h:Rel GL n S M μ st a w){Y:D}{v:Value}(hr:AI M μ (names st.sto) Y v){top len:Nat}{ys:List (List I)}(hs:Im (Aa st.sto) Y top=some (len,ys)){k:Nat}(hk:LP k ys):
  ys.length=min len top/\(∃A c,v=.slice A len c)/\(ys≠[]->∃bb oo ycap,∃us:List Value,v=.slice (some ⟨bb,oo,none⟩) len ycap/\us.length=ys.length*k/\(∀j u,us[j]? =some u->w.cell? ⟨bb,oo+j,none⟩=some u)/\(∀u∈us,u.oneCell'=true)/\
   ∀i (hi:i<ys.length) j (hj:j<ys[i].length),∃u,us[i*k+j]? =some u/\Rep M (ys[i][j]) u):=by
 cases Y with
 |i x=>
  cases x with
  |sl rows=>
   simp only[Im,Option.some.injEq,Prod.mk.injEq]at hs;obtain⟨rfl,rfl⟩:=hs;have hr:Rep M (.sl rows) v:=hr;have qi:∃A c,v=.slice A rows.length c:=by
    cases hr with
    |slnil=>exact⟨_,_,rfl⟩
    |slempty=>exact⟨_,_,rfl⟩
    |sl=>exact⟨_,_,rfl⟩
   refine⟨by rw[List.length_take,Nat.min_comm],qi,fun ji=>?_⟩;cases hr with
   |slnil=>simp at ji
   |slempty=>simp at ji
   |sl _ k' b oo cap vv jk hc hm hrr=>
    have jx:0<(rows.take top).length:=List.length_pos_iff.2 ji;have j9:Rep M (.sl (rows.take top)) (.slice (some ⟨b,oo,none⟩) (rows.take top).length cap):=
     Rep.sl (rows.take top) k' b oo cap vv (fun r hr=>jk r (List.mem_of_mem_take hr)) (by rw[List.length_take];omega)
      (fun i hi j hj=>by rw[List.getElem_take]at hj;exact hm i (by rw[List.length_take]at hi;omega) j hj)
      (fun i hi j hj=>by have jq:=hj;rw[List.getElem_take]at jq;have:=hrr i (by rw[List.length_take]at hi;omega) j jq;simpa using this)
    obtain⟨_,s2⟩:=Tb (Y:=.i (.sl (rows.take top))) h (AM j9) rfl hk;obtain⟨bb,o2,yc,us,e1,q⟩:=s2 ji;injection e1 with e1 e2 e3
    injection e1 with e1;injection e1 with e4 e5
    subst e4;subst e5;exact⟨b,oo,cap,us,rfl,q⟩
  |_=>simp[Im]at hs
 |ref r=>
  cases r with
  |sl nm k0 lo hi=>
  simp only[Im]at hs;split at hs
  rotate_left
  ·cases hs
  rename_i r wx;simp only[Option.some.injEq,Prod.mk.injEq]at hs;obtain⟨rfl,rfl⟩:=hs;obtain⟨hN,aa,cap,hμ,qc,kc,qi⟩:=hr;have hsl2:∃A c,v=.slice A (hi-lo) c:=by
   rcases qi with⟨rfl,a',hv⟩|⟨b,o,rfl,hv⟩
   ·exact⟨_,_,by rw[hv];congr 1;omega⟩
   ·exact⟨_,_,hv⟩
  have jd:r.length=min (hi-lo) top:=by
   unfold LO at wx;split at wx
   ·split at wx
    ·rename_i hc;cases wx;simp;omega
    ·cases wx
   ·split at wx
    ·rename_i hc;have:=congrArg List.length (OX wx);simp at this;omega
    ·cases wx
   ·cases wx
  refine⟨jd,hsl2,fun ji=>?_⟩;have jx:0<r.length:=List.length_pos_iff.2 ji;rcases qi with⟨rfl,a',hv⟩|⟨b,o,rfl,hv⟩
  ·omega
  ·have hr2:AI M μ (names st.sto) (.ref (.sl nm k0 lo (min hi (lo+top)))) (.slice (some ⟨b,o+lo*k0,none⟩) (min hi (lo+top)-lo) (cap-lo)):=
    ⟨hN,_,cap,hμ,by omega,by omega,.inr ⟨b,o,rfl,rfl⟩⟩
   obtain⟨_,s2⟩:=Tb h hr2 (by simp only[G2];exact wx) hk;obtain⟨bb,o2,yc,us,e1,q⟩:=s2 ji;injection e1 with e1 e2 e3
   injection e1 with e1;injection e1 with e4 e5
   subst e4;subst e5;exact⟨b,o+lo*k0,cap-lo,us,hv,q⟩
  |_=>simp[Im]at hs
 |_=>simp[Im]at hs
theorem jP(h:Rel GL n S M μ st a w){t t' e k:TypeId}{x y:Operand}{ox oy:O}(ho:o.op=.call {callee:=.builtin .copy,args:=#[x,y],argTypes:=#[t,t']})(hd:∀d,o.dst=some d->d<n)
  (hx:cO GL x=some ox)(hy:cO GL y=some oy)(hu:P.underlying t=some (.slice e))(hk:Qp P e=some k)(hs:step P GL (.cpy o.dst ox oy e k) st K):o.wpX P a w (Ax GL n S M w K) Q:=by
 have hr:=Az h hx;have wi:=Az h hy;simp only[step,LR]at hs;split at hs
 ·rename_i nm k0 lo hi e1;rw[e1]at hr;obtain⟨hN,aa,cap,hμ,qc,kc,qi⟩:=hr;unfold Ko at hs;split at hs
  ·rename_i e' k' rs len ys hg hsrc;obtain⟨rfl,rfl,rfl,qx,kd,hs⟩:=hs;obtain⟨hyl,⟨A0,c0,hyv0⟩,s2⟩:=jO h wi hsrc kd;have wh:=LW h hg hμ;have vm:Nat.min len (hi-lo)=min len (hi-lo):=rfl;by_cases h0:min len (hi-lo)=0
   ·have hz:ys.map some=[]:=by have:ys=[]:=List.eq_nil_of_length_eq_zero (by omega);rw[this];rfl
    rw[hz,QE,h0]at hs;have jf:(execOp a.eval o).run P w=.ok (.value (goInt 0)) w:=by
     refine Xw ho ?_;have hxv:∃A l c,a.eval x=.slice A l c/\l=hi-lo:=by
      rcases qi with⟨rfl,a',hv⟩|⟨b1,o1,rfl,hv⟩
      ·exact⟨_,_,_,hv,by omega⟩
      ·exact⟨_,_,_,hv,rfl⟩
     obtain⟨A,l,c,hxv,rfl⟩:=hxv;rw[hxv,hyv0];exact jN t t' _ _ _ hu hk _ _ _ _ _ _ h0
    exact B9 jf ⟨_,hs,M,μ,(h.setSame hg).putO hd (AM (.int .i64 0)),MExt.refl _ _,Keeps.refl _ _⟩
   ·have ji:ys≠[]:=fun e=>by subst e;simp at hyl;omega
    obtain⟨bb,oo,ycap,us,vg,k9,hum,huo,hur⟩:=s2 ji;rcases qi with⟨rfl,a',hv⟩|⟨b1,o1,rfl,hv⟩
    ·omega
    ·obtain⟨cur,jc,q1,q2,q3,q4⟩:=LV h hg hμ (by omega);have hbo:An (μ nm)=some b1:=by rw[hμ];simp only[An];rw[if_neg (by omega)]
     generalize hm:min len (hi-lo)=m at h0 hs vm hyl;have hmh:m<=hi-lo:=by omega
     have hul2:us.length=m*k0:=by rw[k9,hyl]
     have hmul:lo*k0+m*k0<=hi*k0:=by rw[<-Nat.add_mul];exact Nat.mul_le_mul_right _ (by omega)
     have hhc:hi*k0<=cap*k0:=Nat.mul_le_mul_right _ kc;have jf:=jM (P:=P) (w:=w) t t' o.type e' k0 hu hk b1 (o1+lo*k0) (hi-lo) (cap-lo) ⟨bb,oo,none⟩ len ycap cur e' us jc.heap (by rw[hul2,vm]) (fun j u hu=>by rw[Fk];exact hum j u hu) (by rw[hul2];omega) huo;rw[vm]at jf;have qu:=J9 w b1 (setL cur.toList (o1+lo*k0) us).toArray jc.low;have k7:=q4.set (by rw[q1];omega) (lo:=lo) (bs:=ys) (us:=us) kd.1 k9 hur (by omega);have qq:(setL rs lo (ys.map some)).length=rs.length:=C4 _ _ _ (by rw[List.length_map];omega);have kq:Rel GL n S M μ (st.setB nm (.arr e' k0 (setL rs lo (ys.map some)))) a (w.setRow b1 (setL cur.toList (o1+lo*k0) us).toArray):=by
      refine h.setBlk (blk':=.arr e' k0 (setL rs lo (ys.map some))) hg hbo qu.size (fun q hq _=>setRow_other w b1 q _ hq) ⟨some ⟨b1,o1,none⟩,by rw[qq];rw[hμ,wh],.inr ⟨b1,o1,(setL cur.toList (o1+lo*k0) us).toArray,rfl,?_,⟨jc.low,setRow_heap w b1 cur _ e' _ jc.heap,jc.unk⟩,by rw[qq,q1];exact q2,?_,k7⟩⟩
      ·intro e;rw[e]at qq;simp at qq;omega
      ·rw[qq,q1];simp only[List.size_toArray];rw[C4 _ _ _ (by rw[hul2];simp;omega)];simpa using q3
     exact B9 (Xw ho (by rw[hv,vg];exact jf)) ⟨_,hs,M,μ,kq.putO hd (AM (.int .i64 (m:Int))),MExt.refl _ _,qu⟩
  ·exact hs.elim
 ·exact hs.elim
theorem jQ{α β:Type}(f:α->β)(l:List α)(o:Nat)(us:List α):setL (l.map f) o (us.map f)=(setL l o us).map f:=by simp[setL]
theorem QI{cur:Array Value}{o k:Nat}{rs:List (List I)}:EN M cur o k rs↔Hy M cur o k (rs.map some):=by
 constructor
 ·rintro⟨h1,h2⟩ i r hr;grind
 ·intro h;refine⟨fun r hr=>?_,fun i hi j hj=>?_⟩
  ·obtain⟨i,hi,rfl⟩:=List.getElem_of_mem hr;exact(h i _ (by rw[List.getElem?_map,List.getElem?_eq_getElem hi];rfl)).1
  ·exact(h i _ (by rw[List.getElem?_map,List.getElem?_eq_getElem hi];rfl)).2 j hj
theorem jR(zs:Array Value)(m i j:Nat)(hi:i<m)(hj:j<zs.size):(Builtin.zeroCells zs m).toList[i*zs.size+j]? =some zs[j]:=by
 have jn:i*zs.size+j<m*zs.size:=by have:(i+1)*zs.size<=m*zs.size:=Nat.mul_le_mul_right _ hi;grind
 have hmod:(i*zs.size+j)%zs.size=j:=by rw[Nat.mul_comm,Nat.mul_add_mod,Nat.mod_eq_of_lt hj]
 have hl:(Builtin.zeroCells zs m).size=m*zs.size:=size_zeroCells zs m;rw[Array.getElem?_toList,Array.getElem?_eq_getElem (by omega)];simp only[Builtin.zeroCells,Array.getElem_map,Array.getElem_range,hmod,getElem!_pos,hj]
theorem QJ{z:List I}{zs:Array Value}(hz:Ak M z zs.toList)(m:Nat):∀i (hi:i<(List.replicate m z).length) j (hj:j<(List.replicate m z)[i].length),∃u,(Builtin.zeroCells zs m).toList[i*z.length+j]? =some u/\Rep M ((List.replicate m z)[i][j]) u:=fun i hi j hj=>by
 have j0:zs.size=z.length:=by simpa using hz.1
 simp only[List.getElem_replicate]at hj⊢;simp only[List.length_replicate]at hi;refine⟨zs[j]'(by omega),by rw[<-j0];exact jR zs m i j hi (by omega),?_⟩;have:=hz.2 j hj (by simpa using(show j<zs.size by omega));grind
theorem Tq{zs:Array Value}(h1:∀u∈zs.toList,u.oneCell'=true)(m:Nat):∀u∈(Builtin.zeroCells zs m).toList,u.oneCell'=true:=fun u hu=>by
 obtain⟨p,hp,rfl⟩:=List.getElem_of_mem hu;have hp':p<m*zs.size:=by simpa[size_zeroCells]using hp
 have jx:0<zs.size:=Nat.pos_of_ne_zero fun h=>by grind
 have hmod:=Nat.mod_lt p jx;have:(Builtin.zeroCells zs m).toList[p]=zs[p%zs.size]:=by simp only[Array.getElem_toList,Builtin.zeroCells,Array.getElem_map,Array.getElem_range,getElem!_pos,hmod]
 grind
theorem Xx(t ty e:TypeId)(i:TypeInfo)(z:Value)(ht:P.underlying t=some (.slice e))(hi:P.info? e=some i)(hz:i.zero=some z)(g og m c:Nat)(hm:m≠0)(cur:Array Value)(tt:TypeId)(hg:w.heap[g]? =some (.cells cur tt (0,0)))
  (j6:og+m*z.cells.size<=cur.size)(h1:∀u∈z.cells.toList,u.oneCell'=true):
  (Builtin.clear_ #[t] ty #[.slice (some ⟨g,og,none⟩) m c]).run P w=.ok (.tuple #[]) (w.setRow g (setL cur.toList og (Builtin.zeroCells z.cells m).toList).toArray):=by
 have jh:=run_storeCells_at P g og tt (Builtin.zeroCells z.cells m).toList 0 cur w hg (by have:=size_zeroCells z.cells m;simp[this];omega) (Tq h1 m);simp only[Nat.add_zero]at jh;obtain⟨m,rfl⟩:∃q,m=q+1:=⟨m-1,by omega⟩;simp[Builtin.clear_,run_underlying ht,zeroValue,typeInfo,hi,hz,jh,setL]
theorem jS(t ty e:TypeId)(ht:P.underlying t=some (.slice e))(A:Option Addr)(c:Nat):(Builtin.clear_ #[t] ty #[.slice A 0 c]).run P w=.ok (.tuple #[]) w:=by cases A<;>simp[Builtin.clear_,run_underlying ht]
theorem jT(h:Rel GL n S M μ st a w){t e:TypeId}{i:TypeInfo}{z:Value}{zi:I}{x:Operand}{ox:O}(ho:o.op=.call {callee:=.builtin .clear,args:=#[x],argTypes:=#[t]})(hd:∀d,o.dst=some d->d<n)
  (hx:cO GL x=some ox)(hu:P.underlying t=some (.slice e))(hi:P.info? e=some i)(hz:i.zero=some z)(hc:D0 z=some zi)(kd:(cellsI zi).all I.one=true)(hs:step P GL (.clr o.dst ox (cellsI zi)) st K):o.wpX P a w (Ax GL n S M w K) Q:=by
 have hr:=Az h hx;have vh:Ak M (cellsI zi) z.cells.toList:=(G3 hc).cellsI;have vd:z.cells.size=(cellsI zi).length:=by simpa using vh.1
 have h1:∀u∈z.cells.toList,u.oneCell'=true:=fun u hu=>by
  obtain⟨p,hp,rfl⟩:=List.getElem_of_mem hu;have hp':p<(cellsI zi).length:=by rw[<-vd];simpa using hp
  refine(vh.2 p hp' hp).oneCell ?_;rw[List.all_eq_true]at kd;exact kd _ (List.getElem_mem hp')
 generalize cellsI zi=zr at vh vd hs;simp only[step,LS]at hs;split at hs
 ·rename_i nm k0 lo ja e1;rw[e1]at hr;obtain⟨hN,aa,cap,hμ,qc,kc,qi⟩:=hr;have none':ja-lo=0->∀st',Rel GL n S M μ st' a w->K (putO st' o.dst (.i (.tup [])))->o.wpX P a w (Ax GL n S M w K) Q:=fun h0 st' kq hK=>by
   have hxv:∃A c,a.eval x=.slice A 0 c:=by
    rcases qi with⟨rfl,a',hv⟩|⟨b1,o1,rfl,hv⟩
    ·exact⟨_,_,hv⟩
    ·exact⟨_,_,by rw[hv,h0]⟩
   obtain⟨A,c,hv⟩:=hxv;exact B9 (Tp ho (by rw[hv];exact jS t _ e hu A c)) ⟨_,hK,M,μ,kq.putO hd (AM (Rep.tup' (Ak.nil M))),MExt.refl _ _,Keeps.refl _ _⟩
  have nil0:∀{α:Type} (x:α) (l:List α),ja-lo=0->setL l lo (List.replicate (ja-lo) x)=l:=fun x l h0=>by rw[h0];exact QE l lo
  unfold Jp at hs;split at hs
  ·rename_i e' k' rs hg;obtain⟨rfl,hzk,qx,hs⟩:=hs;by_cases h0:ja-lo=0
   ·rw[nil0 _ _ h0]at hs;exact none' h0 _ (h.setSame hg) hs
   ·rcases qi with⟨rfl,a',hv⟩|⟨b1,o1,rfl,hv⟩
    ·omega
    ·obtain⟨cur,jc,q1,q2,q3,q4⟩:=OV h hg hμ (by omega);have hbo:An (μ nm)=some b1:=by rw[hμ];simp only[An];rw[if_neg (by omega)]
     have hmul:lo*k0+(ja-lo)*k0=ja*k0:=by rw[<-Nat.add_mul];congr 1;omega
     have hhc:ja*k0<=cap*k0:=Nat.mul_le_mul_right _ kc;have xb:rs.length*k0<=cap*k0:=Nat.mul_le_mul_right _ q3;have jf:=Xx (P:=P) (w:=w) t o.type e i z hu hi hz b1 (o1+lo*k0) (ja-lo) (cap-lo) h0 cur e' jc.heap (by rw[vd,hzk];omega) h1;have k9:(Builtin.zeroCells z.cells (ja-lo)).toList.length=(List.replicate (ja-lo) zr).length*k0:=by rw[Array.length_toList,size_zeroCells,vd,hzk,List.length_replicate]
     have k7:=(QI.1 q4).set (by rw[List.length_map];omega) (lo:=lo) (bs:=List.replicate (ja-lo) zr) (us:=(Builtin.zeroCells z.cells (ja-lo)).toList) (fun r hr=>by rw[List.eq_of_mem_replicate hr];exact hzk) k9 (by have:=QJ vh (ja-lo);rw[hzk]at this;exact this) (by simp;omega);rw[jQ,<-QI]at k7;have qu:=J9 w b1 (setL cur.toList (o1+lo*k0) (Builtin.zeroCells z.cells (ja-lo)).toList).toArray jc.low;have qq:(setL rs lo (List.replicate (ja-lo) zr)).length=rs.length:=C4 _ _ _ (by simp;omega);have kq:Rel GL n S M μ (st.setB nm (.rows e' k0 (setL rs lo (List.replicate (ja-lo) zr)))) a (w.setRow b1 (setL cur.toList (o1+lo*k0) (Builtin.zeroCells z.cells (ja-lo)).toList).toArray):=by refine h.setBlk (blk':=.rows e' k0 (setL rs lo (List.replicate (ja-lo) zr))) hg hbo qu.size (fun q hq _=>setRow_other w b1 q _ hq) ⟨some ⟨b1,o1,none⟩,cap,hμ,.inr ⟨b1,o1,_,rfl,by omega,⟨jc.low,setRow_heap w b1 cur _ e' _ jc.heap,jc.unk⟩,q1,?_,by rw[qq];exact q3,k7⟩⟩;simp only[List.size_toArray];rw[C4 _ _ _ (by rw[k9];simp;omega)];simpa using q2
     exact B9 (Tp ho (by rw[hv];exact jf)) ⟨_,hs,M,μ,kq.putO hd (AM (Rep.tup' (Ak.nil M))),MExt.refl _ _,qu⟩
  ·rename_i e' k' rs hg;obtain⟨rfl,hzk,qx,hs⟩:=hs;by_cases h0:ja-lo=0
   ·rw[nil0 _ _ h0]at hs;exact none' h0 _ (h.setSame hg) hs
   ·rcases qi with⟨rfl,a',hv⟩|⟨b1,o1,rfl,hv⟩
    ·omega
    ·have wh:=LW h hg hμ;obtain⟨cur,jc,q1,q2,q3,q4⟩:=LV h hg hμ (by omega);have hbo:An (μ nm)=some b1:=by rw[hμ];simp only[An];rw[if_neg (by omega)]
     have hmul:lo*k0+(ja-lo)*k0=ja*k0:=by rw[<-Nat.add_mul];congr 1;omega
     have hhc:ja*k0<=cap*k0:=Nat.mul_le_mul_right _ kc;have jf:=Xx (P:=P) (w:=w) t o.type e i z hu hi hz b1 (o1+lo*k0) (ja-lo) (cap-lo) h0 cur e' jc.heap (by rw[vd,hzk];omega) h1;have k9:(Builtin.zeroCells z.cells (ja-lo)).toList.length=(List.replicate (ja-lo) zr).length*k0:=by rw[Array.length_toList,size_zeroCells,vd,hzk,List.length_replicate]
     have k7:=q4.set (by rw[q1];omega) (lo:=lo) (bs:=List.replicate (ja-lo) zr) (us:=(Builtin.zeroCells z.cells (ja-lo)).toList) (fun r hr=>by rw[List.eq_of_mem_replicate hr];exact hzk) k9 (by have:=QJ vh (ja-lo);rw[hzk]at this;exact this) (by simp;omega);rw[List.map_replicate]at k7;have qu:=J9 w b1 (setL cur.toList (o1+lo*k0) (Builtin.zeroCells z.cells (ja-lo)).toList).toArray jc.low;have qq:(setL rs lo (List.replicate (ja-lo) (some zr))).length=rs.length:=C4 _ _ _ (by simp;omega);have kq:Rel GL n S M μ (st.setB nm (.arr e' k0 (setL rs lo (List.replicate (ja-lo) (some zr))))) a (w.setRow b1 (setL cur.toList (o1+lo*k0) (Builtin.zeroCells z.cells (ja-lo)).toList).toArray):=by
      refine h.setBlk (blk':=.arr e' k0 (setL rs lo (List.replicate (ja-lo) (some zr)))) hg hbo qu.size (fun q hq _=>setRow_other w b1 q _ hq) ⟨some ⟨b1,o1,none⟩,by rw[qq];rw[hμ,wh],.inr ⟨b1,o1,_,rfl,?_,⟨jc.low,setRow_heap w b1 cur _ e' _ jc.heap,jc.unk⟩,by rw[qq,q1];exact q2,?_,k7⟩⟩
      ·intro e;rw[e]at qq;simp at qq;omega
      ·rw[qq,q1];simp only[List.size_toArray];rw[C4 _ _ _ (by rw[k9];simp;omega)];simpa using q3
     exact B9 (Tp ho (by rw[hv];exact jf)) ⟨_,hs,M,μ,kq.putO hd (AM (Rep.tup' (Ak.nil M))),MExt.refl _ _,qu⟩
  ·exact hs.elim
 ·exact hs.elim
theorem jU(h:Rel GL n S M μ st a w){t e:TypeId}{i:TypeInfo}{z:Value}{zi:I}{x:Operand}{ox:O}(ho:o.op=.makeSlice t x x)(hd:o.dst=some d)(hn:d<n)
  (hx:cO GL x=some ox)(hu:P.underlying t=some (.slice e))(hi:P.info? e=some i)(hz:i.zero=some z)(hc:D0 z=some zi)(j0:z.cells.size=i.size)(hs:step P GL (.mksl d e i.size i.bytes (cellsI zi) ox) st K):o.wpX P a w (Ax GL n S M w K) Q:=by
 have hr:=Az h hx;have vh:Ak M (cellsI zi) z.cells.toList:=(G3 hc).cellsI;have vd:z.cells.size=(cellsI zi).length:=by simpa using vh.1
 generalize cellsI zi=zr at vh vd hs;simp only[step,Nh]at hs;split at hs
 ·rename_i kk m jl e1;rw[e1]at hr;have hv:=Ct (AJ hr);obtain⟨h0,h47,hb,hs⟩:=hs;obtain⟨m,rfl⟩:∃q:Nat,m=(q:Int):=⟨m.toNat,by omega⟩;simp only[Int.toNat_natCast]at hs;have jf:=run_make (P:=P) w t e i z hu hi hz kk kk (m:Int) (m:Int) h0 (Int.le_refl _) (by omega) (by omega);simp only[Int.toNat_natCast]at jf;have hmc:madeCells z.cells (m*i.size)=Builtin.zeroCells z.cells m:=by simp only[madeCells,Builtin.zeroCells,j0]
  rw[hmc]at jf;have h2:Rel GL n S M μ st a (w.alloc (.cells (Builtin.zeroCells z.cells m) e)):=h.of (h.toStoOk.alloc _) (Mem.le_refl _) fun _ _ hv=>hv
  have h3:=h2.bindName (nm:=d) (b:=.rows e i.size (List.replicate m zr)) (x:=.slice (some ⟨w.heap.size,0,none⟩) 0 m) jl hn ⟨some ⟨w.heap.size,0,none⟩,m,Bq _ _ _,?_⟩ (fun p q hp hq=>?_)
  ·exact B9 (v:=.slice (some ⟨w.heap.size,0,none⟩) m m) (w':=w.alloc (.cells (Builtin.zeroCells z.cells m) e)) (by simp only[execOp,ho,hv,jf,Sem.run_bind,Result.andThen_ok,Sem.run_pure]) ⟨_,hs,M,_,by
    rw[hd];refine h3.put hn ⟨Eo,some ⟨w.heap.size,0,none⟩,m,Bq _ _ _,by omega,Nat.le_refl _,?_⟩;exact .inr ⟨w.heap.size,0,rfl,by simp⟩,MExt.refl _ _,Gp w _ h.low⟩
  ·by_cases hm:m=0
   ·subst hm;exact .inl ⟨rfl,rfl⟩
   ·refine .inr ⟨w.heap.size,0,_,rfl,by omega,⟨fun hS=>by have:=h.low _ hS;omega,GY w _,Mem.unk_new h.sub (Nat.le_refl _)⟩,by simp only[maxLen];omega,?_,by simp,?_⟩
    ·rw[size_zeroCells,j0];omega
    ·have hk:zr.length=i.size:=by rw[<-vd,j0]
     refine⟨fun r hr=>by rw[List.eq_of_mem_replicate hr];exact hk,fun p hp j hj=>?_⟩;obtain⟨u,hu1,hu2⟩:=QJ vh m p hp j hj;rw[hk]at hu1;exact⟨u,by rw[Nat.zero_add];simpa using hu1,hu2⟩
  ·have:=(h.toStoOk.lt hp hq).1;simp only[An];split
   ·simp
   ·intro e;cases e;omega
 ·exact hs.elim
theorem Xy{X:D}{v:Value}{N:Nat->Prop}{i:Int}(h:AI M μ N X v)(hi:HF X=some i):∃k,v=.int k i:=by
 unfold HF at hi;split at hi
 ·cases hi;exact⟨_,Ct (AJ h)⟩
 ·cases hi
theorem jV(h:Rel GL n S M μ st a w){t e:TypeId}{x hi mx:Operand}{lo:Option Operand}{ox ohi omx:O}{olo:Option O}{k:Nat}(ho:o.op=.slice t x lo (some hi) (some mx))(hd:o.dst=some d)(hn:d<n)(hx:cO GL x=some ox)
  (qc:lo.map (cO GL)=olo.map some)(qx:cO GL hi=some ohi)(hmx:cO GL mx=some omx)(hu:P.underlying t=some (.slice e))(hk:Qp P e=some k)(hs:step P GL (.slc3 d ox olo ohi omx) st K):o.wpX P a w (Ax GL n S M w K) Q:=by
 have hr:=Az h hx;have hrh:=Az h qx;have hrm:=Az h hmx;simp only[step]at hs;have core:∀(A:Option Addr) (len cap:Nat),a.eval x=.slice A len cap->len<=cap->Ni len (WP (olo.map (A8 GL st))) (HF (A8 GL st ohi)) (HF (A8 GL st omx))/\K (st.put d .any)->o.wpX P a w (Ax GL n S M w K) Q:=fun A len cap hv hlc hs=>by
  obtain⟨hl,hK⟩:=hs;unfold Ni at hl;split at hl
  ·rename_i l u m e1 e2 e3;obtain⟨b1,b2,b3,b4⟩:=hl;obtain⟨k1,hv1⟩:=Xy hrh e2;obtain⟨k2,hv2⟩:=Xy hrm e3;have wy:(Instr.sliceBounds true len cap (lo.map a.eval) (some (a.eval hi)) (some (a.eval mx))).run P w=.ok (l.toNat,u.toNat,m.toNat) w:=by
    have c1:(Instr.sliceBound (a.eval mx) cap .slice3Acap).run P w=.ok m.toNat w:=OY hv2 ⟨by omega,by omega⟩;have c2:(Instr.sliceBound (a.eval hi) m.toNat .slice3B).run P w=.ok u.toNat w:=OY hv1 ⟨by omega,by omega⟩;cases lo with
    |none=>
     cases olo with
     |some _=>simp at qc
     |none=>simp only[Option.map_none,WP,Option.some.injEq]at e1;subst e1;simp[Instr.sliceBounds,c1,c2]
    |some y=>
     cases olo with
     |none=>simp at qc
     |some oy=>
      simp only[Option.map_some,Option.some.injEq]at qc;have xb:=Az h qc;simp only[Option.map_some]at e1;have hvl:∃k,a.eval y=.int k l:=by
       generalize A8 GL st oy=V at xb e1;unfold WP at e1;split at e1<;>cases e1
       ·rename_i q;cases q
       ·rename_i q;cases q;exact⟨_,Ct (AJ xb)⟩
      obtain⟨k3,hv3⟩:=hvl;have c3:(Instr.sliceBound (a.eval y) u.toNat .slice3C).run P w=.ok l.toNat w:=OY hv3 ⟨by omega,by omega⟩;simp[Instr.sliceBounds,c1,c2,c3]
   have jf:(execOp a.eval o).run P w=.ok (.value (.slice (if m.toNat=l.toNat then A else A.map (·.add (l.toNat*k))) (u.toNat-l.toNat) (m.toNat-l.toNat))) w:=by simp only[execOp,ho,hv,Instr.sliceAt,Instr.slice,Sem.run_bind,run_underlying hu w,Result.andThen_ok,Option.map_some,wy,EU hk,Sem.run_pure]
   exact A3 (x:=.any) h hd hn jf trivial hK
  ·exact hl.elim
 unfold Kp at hs;split at hs
 ·rename_i rows e1;rw[e1]at hr;have hr:=AJ hr;generalize hX:a.eval x=X at hr;cases hr with
  |slnil=>exact core none 0 0 hX (Nat.le_refl _) hs
  |slempty A c=>exact core (some A) 0 c hX (Nat.zero_le _) hs
  |sl _ kk b oo cap vv q1 q2 q3 q4=>exact core _ rows.length cap hX q2 hs
 ·rename_i nm k0 lo' ja e1;rw[e1]at hr;obtain⟨hN,aa,cap,hμ,hl1,hl2,qi⟩:=hr;rcases qi with⟨rfl,a',hv⟩|⟨b1,o1,rfl,hv⟩
  ·have e0:ja-cap=0:=by omega
   rw[e0]at hs;exact core _ 0 0 hv (Nat.le_refl _) hs
  ·exact core _ (ja-lo') (cap-lo') hv (by omega) hs
 ·exact hs.elim
theorem Nn {t t':TypeId}{x y:Operand}{v':Value}{w':World}(ho:o.op=.call {callee:=.builtin .append,args:=#[x,y],argTypes:=#[t,t']})
  (h:(Builtin.append_ #[t,t'] o.type #[a.eval x,a.eval y]).run P w=.ok v' w'):(execOp a.eval o).run P w=.ok (.value v') w':=by
 simp only[execOp,ho,resolve,Sem.run_bind,Sem.run_pure,Result.andThen_ok,invoke,builtin,List.map_toArray,List.map_cons,List.map_nil,h]
theorem jW(t u ty e:TypeId){ik:IntKind}(i:TypeInfo)(z:Value)(ht:P.underlying t=some (.slice e))(hi:P.info? e=some i)(hu:P.underlying u=some (.int ik))(A:Option Addr)(l c:Nat)(hlc:l<=c)(kk:IntKind):
  (Builtin.append_ #[t,u] ty #[.slice A l c,.int kk ((0:Nat):Int)]).run P w=.ok (.slice A l c) w:=by
 cases A<;>simp[Builtin.append_,run_underlying ht,run_underlying hu,sizeOf,typeInfo,hi,asInt,asIntOf,IntKind.wrap_i64,storeCells,hlc]
theorem jX(t u ty e:TypeId){ik:IntKind}(i:TypeInfo)(z:Value)(ht:P.underlying t=some (.slice e))(hi:P.info? e=some i)(hz:i.zero=some z)(hu:P.underlying u=some (.int ik))(g og sLen sCap:Nat)(cur:Array Value)(hg:w.heap[g]? =some (.cells cur e (0,0)))
  (kk:IntKind)(m:Nat)(hm:(m:Int)<=140737488355328)(hmb:(m:Int)*(i.bytes:Int)<=140737488355328)(hm0:0<m)(vk:0<i.size)(vd:z.cells.size=i.size)(h1:∀u∈z.cells.toList,u.oneCell'=true)(j5:sLen+m<=sCap)(j6:og+sLen*i.size+m*i.size<=cur.size):
  (Builtin.append_ #[t,u] ty #[.slice (some ⟨g,og,none⟩) sLen sCap,.int kk (m:Int)]).run P w=
   .ok (.slice (some ⟨g,og,none⟩) (sLen+m) sCap) (w.setRow g (setL cur.toList (og+sLen*i.size) (Builtin.zeroCells z.cells m).toList).toArray):=by
 have jh:=run_storeCells_at P g (og+sLen*i.size) e (Builtin.zeroCells z.cells m).toList 0 cur w hg (by have:=size_zeroCells z.cells m;rw[vd]at this;simp[this];omega) (Tq h1 m);simp only[Nat.add_zero]at jh;have hw:IntKind.i64.wrap (m:Int)=m:=by rw[IntKind.wrap_i64];omega
 have n1:¬((m:Int)<0):=by omega
 have n3:¬(m=0\/i.size=0):=by omega
 have n4:m*i.size≠0:=by rw[Nat.mul_ne_zero_iff];omega
 have hz2:(zeroValue e).run P w=.ok z w:=by simp[zeroValue,typeInfo,hi,hz]
 have n2:¬((281474976710656:Int)<(m:Int)*(i.bytes:Int)):=by omega
 have hf:(storeCells (⟨g,og,none⟩:Addr) [] 0).run P w=.ok () w:=by rfl
 simp[Builtin.append_,run_underlying ht,run_underlying hu,sizeOf,typeInfo,hi,asInt,asIntOf,hw,n1,n2,n4,hz2,j5,Fk,jh,setL]
theorem QK(t u ty e:TypeId){ik:IntKind}(i:TypeInfo)(z:Value)(ht:P.underlying t=some (.slice e))(hi:P.info? e=some i)(hz:i.zero=some z)(hu:P.underlying u=some (.int ik))
  (b:Option Addr)(sLen sCap:Nat)(olds:List Value)(qc:olds.length=sLen*i.size)(holds:∀q,b=some q->∀j v,olds[j]? =some v->w.cell? (q.add j)=some v)(hb0:b=none->sLen=0)(vd:z.cells.size=i.size)
  (kk:IntKind)(m:Nat)(hm:(m:Int)<=140737488355328)(hmb:(m:Int)*(i.bytes:Int)<=140737488355328)(hg:sCap<sLen+m)(h63:((sLen+m:Nat):Int)<=9223372036854775807)(j6:Builtin.nextslicecap (sLen+m) sCap*i.bytes<=281474976710656):
  (Builtin.append_ #[t,u] ty #[.slice b sLen sCap,.int kk (m:Int)]).run P w=
   .ok (.slice (some ⟨w.heap.size,0,none⟩) (sLen+m) (grownCap w (sLen+m) sCap e))
    (w.drew.alloc (.cells (olds.toArray++Builtin.zeroCells z.cells m++Builtin.zeroCells z.cells (grownCap w (sLen+m) sCap e-(sLen+m))) e)):=by
 have hw:IntKind.i64.wrap (m:Int)=m:=by rw[IntKind.wrap_i64];omega
 have n1:¬((m:Int)<0):=by omega
 have n2:¬((281474976710656:Int)<(m:Int)*(i.bytes:Int)):=by omega
 have hz2:∀w:World,(zeroValue e).run P w=.ok z w:=fun w=>by simp[zeroValue,typeInfo,hi,hz]
 have hn:¬(sLen+m<=sCap):=by omega
 have h63':¬(9223372036854775807<((sLen:Int)+(m:Int))):=by omega
 have h48':¬(281474976710656<Builtin.nextslicecap (sLen+m) sCap*i.bytes):=by omega
 have vu:(Builtin.firstCells i.size sLen (.slice b sLen sCap)).run P w.drew=.ok olds.toArray w.drew:=by
  cases b with
  |none=>have:=hb0 rfl;subst this;have:olds=[]:=List.eq_nil_of_length_eq_zero (by omega);subst this;rfl
  |some q=>exact run_firstCells_some (P:=P) w.drew i.size sLen q sLen sCap olds qc (by simpa using holds q rfl)
 have hz0:∀m,m=0\/i.size=0->Builtin.zeroCells z.cells m=#[]:=fun m h=>by apply Array.ext';apply List.eq_nil_of_length_eq_zero;rw[Array.length_toList,size_zeroCells,vd];grind
 by_cases n3:m*i.size=0
 ·rw[hz0 m (Nat.mul_eq_zero.1 n3)];simp[Builtin.append_,run_underlying ht,run_underlying hu,sizeOf,typeInfo,hi,asInt,asIntOf,hw,n1,n2,n3,hn,h63',h48',Question.forced,vu,hz2,newRow,grownCap]
 ·simp[Builtin.append_,run_underlying ht,run_underlying hu,sizeOf,typeInfo,hi,asInt,asIntOf,hw,n1,n2,n3,hn,h63',h48',Question.forced,vu,hz2,newRow,grownCap]
theorem jY(h:Rel GL n S M μ st a w){t t' e:TypeId}{ik kk:IntKind}{m:Nat}{i:TypeInfo}{z:Value}{zr:List I}{x y:Operand}{k b e' k' nm k0 lo hi:Nat}{rs:List (Option (List I))}{ys:List (List I)}(hys:ys=List.replicate m zr)(vh:Ak M zr z.cells.toList)(hz1:∀u∈z.cells.toList,u.oneCell'=true)(hm:(m:Int)<=140737488355328)(hmb:(m:Int)*(i.bytes:Int)<=140737488355328)(ho:o.op=.call {callee:=.builtin .append,args:=#[x,y],argTypes:=#[t,t']})(hint:P.underlying t'=some (.int ik))(vg:a.eval y=.int kk (m:Int))
  (hd:o.dst=some d)(hn:d<n)(hr:BU μ (names st.sto) (.sl nm k0 lo hi) (a.eval x))(hu':P.underlying t=some (.slice e))(ja:P.info? e=some i)(hz:i.zero=some z)(hk:i.size=k)(hb:i.bytes=b)
  (vd:z.cells.size=k)(vk:0<k)(hg:Aa st.sto nm=some (.arr e' k' rs))(hs:Kr (Aa st.sto d) e' k' rs nm k0 lo hi d e k b ys st K):o.wpX P a w (Ax GL n S M w K) Q:=by
 obtain⟨rfl,rfl,rfl,qc,qx,kd,kh,hout⟩:=hs;subst hk;subst hb;obtain⟨hN,aa,cap,hμ,hlo',kc,qi⟩:=hr;have k9:(Builtin.zeroCells z.cells m).toList.length=ys.length*i.size:=by rw[Array.length_toList,size_zeroCells,vd,hys,List.length_replicate]
 have hur:∀p (hp:p<ys.length) j (hj:j<ys[p].length),∃u,(Builtin.zeroCells z.cells m).toList[p*i.size+j]? =some u/\Rep M (ys[p][j]) u:=by
  have hk:zr.length=i.size:=by rw[<-vd];simpa using vh.1.symm
  grind[QJ]
 have huo:∀u∈(Builtin.zeroCells z.cells m).toList,u.oneCell'=true:=Tq hz1 m;have wz:ys.length=m:=by grind
 generalize hus:(Builtin.zeroCells z.cells m).toList=us at k9 hur huo;have wh:=LW h hg hμ;by_cases j5:hi+ys.length<=rs.length
 ·have hs:=kh j5;by_cases ji:ys=[]
  ·subst ji;have hm0:m=0:=by grind
   subst hm0;simp only[List.map_nil,QE,List.length_nil,Nat.add_zero]at hs;have kq:Rel GL n S M μ (st.setB nm (.arr e' i.size rs)) a w:=by
    refine h.of (st':=st.setB nm (.arr e' i.size rs)) ⟨h.sub,fun m x hx=>?_,fun m m' k k' ji h1 h2=>?_,h.low⟩ (Mem.le_refl _) fun s v hv=>by grind[St.setB,CX]
    ·simp only[St.setB,C3]at hx⊢;rw[CX];split at hx
     ·rename_i e;subst e;rw[hg]at hx;cases hx;exact h.blk _ _ hg
     ·exact h.blk _ _ hx
    ·simp only[St.setB,CX]at h1 h2;exact h.sep m m' k k' ji h1 h2
   have hv:∃A l c',a.eval x=.slice A l c'/\(∀x,A=some x->x.spot=none\/(l=0/\c'=0))/\l<=c':=by grind
   obtain⟨A,l,c',hv,hsp,hlc⟩:=hv;refine B9 (v:=a.eval x) (w':=w) (Nn ho ?_) ⟨_,hs,M,μ,by rw[hd];exact kq.put hn ⟨by simp only[St.setB];rw[CX];exact hN,aa,cap,hμ,hlo',kc,qi⟩,MExt.refl _ _,Keeps.refl _ _⟩;rw[hv,vg];exact jW t t' o.type e' i z hu' ja hint A l c' hlc kk
  ·have jx:0<ys.length:=List.length_pos_iff.2 ji;rcases qi with⟨rfl,a',hv⟩|⟨b1,o1,rfl,hv⟩
   ·omega
   ·obtain⟨cur,jc,q1,q2,q3,q4⟩:=LV h hg hμ (by omega);have hbo:An (μ nm)=some b1:=by grind[An]
    have hmul:lo*i.size+(hi-lo)*i.size=hi*i.size:=by rw[<-Nat.add_mul];congr 1;omega
    have hm5:(hi+ys.length)*i.size<=cap*i.size:=Nat.mul_le_mul_right _ (by omega);rw[Nat.add_mul]at hm5;have hr:=jX (P:=P) t t' o.type e' i z hu' ja hz hint b1 (o1+lo*i.size) (hi-lo) (cap-lo) cur jc.heap kk m hm hmb (by omega) (by omega) vd hz1 (by omega) (by rw[wz]at hm5;omega);rw[show o1+lo*i.size+(hi-lo)*i.size=o1+hi*i.size by omega,hus]at hr;rw[show hi-lo+m=hi-lo+ys.length by rw[wz]]at hr;have qu:=J9 w b1 (setL cur.toList (o1+hi*i.size) us).toArray jc.low;have k7:=q4.set (by rw[q1];omega) (lo:=hi) kd.1 k9 hur j5;have qq:(setL rs hi (ys.map some)).length=rs.length:=C4 _ _ _ (by simpa using j5);have kq:Rel GL n S M μ (st.setB nm (.arr e' i.size (setL rs hi (ys.map some)))) a (w.setRow b1 (setL cur.toList (o1+hi*i.size) us).toArray):=by
     refine h.setBlk (blk':=.arr e' i.size (setL rs hi (ys.map some))) hg hbo qu.size (fun q hq _=>setRow_other w b1 q _ hq) ⟨some ⟨b1,o1,none⟩,by rw[qq];rw[hμ,wh],.inr ⟨b1,o1,(setL cur.toList (o1+hi*i.size) us).toArray,rfl,?_,⟨jc.low,setRow_heap w b1 cur _ e' _ jc.heap,jc.unk⟩,by rw[qq,q1];exact q2,?_,k7⟩⟩
     all_goals grind[C4]
    exact B9 (Nn ho (by rw[hv,vg];exact hr)) ⟨_,hs,M,μ,by
     rw[hd];exact kq.put hn ⟨by simp only[St.setB];rw[CX];exact hN,_,cap,hμ,by omega,by omega,.inr ⟨b1,o1,rfl,by congr 1;omega⟩⟩,MExt.refl _ _,qu⟩
 ·obtain⟨as,has,hao,j7,jd,hfr,hs⟩:=hout (by omega);have ha:=OX has;have ji:ys≠[]:=fun e=>by grind
  have jx:0<ys.length:=List.length_pos_iff.2 ji;have vt:hi-lo+ys.length<=maxLen:=by simp only[maxLen];omega
  have hasl:as.length=hi-lo:=by have:=congrArg List.length ha;simp at this;omega
  have grow:∀(old:Nat) (xs:List Value),xs.length=(hi-lo)*i.size->(∀i1 (xc:i1<as.length) j (hj:j<as[i1].length),∃u,xs[i1*i.size+j]? =some u/\Rep M (as[i1][j]) u)->
    ∀cells:Array Value,cells.toList=xs++us->(execOp a.eval o).run P w=.ok (.value (.slice (some ⟨w.heap.size,0,none⟩) (hi-lo+ys.length) (grownCap w (hi-lo+ys.length) old e'))) (w.drew.alloc (.cells (cells++Builtin.zeroCells z.cells (grownCap w (hi-lo+ys.length) old e'-(hi-lo+ys.length))) e'))->
    o.wpX P a w (Ax GL n S M w K) Q:=fun old xs vl hxr cells hcl2 jf=>by
   have hge:=grownCap_ge w (hi-lo+ys.length) old e';have hcm:grownCap w (hi-lo+ys.length) old e'<=maxLen:=grownCap_le_maxLen w (hi-lo+ys.length) old e' vt;generalize hG:grownCap w (hi-lo+ys.length) old e'=G at hge hcm jf;have qt:cells.size=(hi-lo+ys.length)*i.size:=by rw[<-Array.length_toList,hcl2,List.length_append,vl,k9,Nat.add_mul]
   have hL:((as++ys).map some++List.replicate (G-(hi-lo+ys.length)) (none:Option (List I))).length=G:=by simp;omega
   have js:EN M cells 0 i.size (as++ys):=OW (xs:=xs) (us:=us) (by rw[vl,hasl]) hao.1 kd.1 hxr hur (fun j v hv=>by rw[Nat.zero_add];rw[<-hcl2]at hv;simpa using hv)
   have h0:Rel GL n S M μ st a (w.drew.alloc (.cells (cells++Builtin.zeroCells z.cells (G-(hi-lo+ys.length))) e')):=h.of ((h.toStoOk.drew).alloc _) (Mem.le_refl _) fun _ _ hv=>hv
   have h2:=h0.bindName (nm:=d) (b:=.arr e' i.size ((as++ys).map some++List.replicate (G-(hi-lo+ys.length)) none)) (x:=.slice (some ⟨w.heap.size,0,none⟩) 0 G) hfr hn ⟨_,by rw[Bq,hL],.inr ⟨w.heap.size,0,_,rfl,fun e=>by rw[e]at hL;simp at hL;omega,⟨fun hS=>by have:=h.low _ hS;omega,GY w.drew _,Mem.unk_new h.sub (Nat.le_refl _)⟩,by rw[hL];exact hcm,?_,?_⟩⟩ (fun m q hm hq=>?_)
   ·exact B9 jf ⟨_,hs (G-(hi-lo+ys.length)),M,_,by
     rw[hd];exact h2.put hn ⟨Eo,_,G,Bq _ _ _,by omega,hge,.inr ⟨w.heap.size,0,rfl,by simp⟩⟩,MExt.refl _ _,(Keeps.refl S w).drew.trans (Gp w.drew _ h.low)⟩
   ·rw[hL];simp only[Array.size_append,size_zeroCells,vd,qt,Nat.zero_add,<-Nat.add_mul];congr 1;omega
   ·intro i1 r hr;by_cases jn:i1<(as++ys).length
    ·rw[List.getElem?_append_left (by simpa using jn),List.getElem?_map,List.getElem?_eq_getElem jn]at hr;simp only[Option.map_some,Option.some.injEq]at hr;subst hr;refine⟨js.1 _ (List.getElem_mem jn),fun j hj=>?_⟩;obtain⟨v,hv,hr⟩:=js.2 i1 jn j hj;refine⟨v,?_,hr⟩;rw[Array.getElem?_append_left (Array.getElem?_eq_some_iff.1 hv).1];exact hv
    ·rw[List.getElem?_append_right (by simpa using jn),List.getElem?_replicate]at hr;split at hr<;>cases hr
   ·have:=(h.toStoOk.lt hm hq).1;simp only[An];rw[if_neg (by omega)];intro e;cases e;omega
  rcases qi with⟨rfl,a',hv⟩|⟨b1,o1,rfl,hv⟩
  ·obtain rfl:hi=cap:=by omega
   have has0:as=[]:=List.eq_nil_of_length_eq_zero (by omega);subst has0;cases a' with
   |none=>have hr:=QK (P:=P) (w:=w) t t' o.type e' i z hu' ja hz hint none 0 0 [] (by simp) (by simp) (by simp) vd kk m hm hmb (by omega) (by omega) (growslice_fits (by omega) (by simpa[wz]using j7));refine grow 0 [] (by simp) (fun i1 h1=>by simp at h1) us.toArray (by simp) (Nn ho ?_);rw[hv,vg,wz,<-hus];simpa using hr
   |some aa=>have hr:=QK (P:=P) (w:=w) t t' o.type e' i z hu' ja hz hint (some aa) 0 0 [] (by simp) (by simp) (by simp) vd kk m hm hmb (by omega) (by omega) (growslice_fits (by omega) (by simpa[wz]using j7));refine grow 0 [] (by simp) (fun i1 h1=>by simp at h1) us.toArray (by simp) (Nn ho ?_);rw[hv,vg,wz,<-hus];simpa using hr
  ·by_cases xa:cap=0
   ·subst xa;obtain rfl:lo=0:=by omega
    obtain rfl:hi=0:=by omega
    have has0:as=[]:=List.eq_nil_of_length_eq_zero (by omega);subst has0;have hr:=QK (P:=P) (w:=w) t t' o.type e' i z hu' ja hz hint (some ⟨b1,o1+0*i.size,none⟩) 0 0 [] (by simp) (by simp) (by simp) vd kk m hm hmb (by omega) (by omega) (growslice_fits (by omega) (by simpa[wz]using j7));refine grow 0 [] (by simp) (fun i1 h1=>by simp at h1) us.toArray (by simp) (Nn ho ?_);rw[hv,vg,wz,<-hus];simpa using hr
   ·obtain⟨cur,jc,q1,q2,q3,q4⟩:=LV h hg hμ (by omega);obtain⟨v0,v3,v1,v2⟩:=q4.view qc qx (by rw[q1];omega) ha;have hr:=QK (P:=P) (w:=w) t t' o.type e' i z hu' ja hz hint (some ⟨b1,o1+lo*i.size,none⟩) (hi-lo) (cap-lo) (Cu cur o1 i.size lo hi) v1 (fun q hq j v hv=>by
     cases hq;simp only[Cu,List.getElem?_take,List.getElem?_drop]at hv;split at hv
     ·rw[Fk];simp[World.cell?,jc.heap];simpa using hv
     ·cases hv) (by simp) vd kk m hm hmb (by omega) (by omega) (growslice_fits (by omega) (by rw[wz]at j7;exact j7))
    refine grow (cap-lo) (Cu cur o1 i.size lo hi) v1 v2 ((Cu cur o1 i.size lo hi).toArray++us.toArray) (by simp) (Nn ho ?_);rw[hv,vg,wz,<-hus];simpa using hr
theorem jZ(h:Rel GL n S M μ st a w){t t' e:TypeId}{ik:IntKind}{i:TypeInfo}{z:Value}{zi:I}{x y:Operand}{ox oy:O}(ho:o.op=.call {callee:=.builtin .append,args:=#[x,y],argTypes:=#[t,t']})
  (hd:o.dst=some d)(hn:d<n)(hx:cO GL x=some ox)(hy:cO GL y=some oy)(ht:P.underlying t=some (.slice e))(hint:P.underlying t'=some (.int ik))(hi:P.info? e=some i)(hz:i.zero=some z)(hc:D0 z=some zi)(kd:(cellsI zi).all I.one=true)
  (vd:z.cells.size=i.size)(vk:0<i.size)(hs:step P GL (.appz d e i.size i.bytes ox oy (cellsI zi)) st K):o.wpX P a w (Ax GL n S M w K) Q:=by
 have hr:=Az h hx;have wi:=Az h hy;have vh:Ak M (cellsI zi) z.cells.toList:=(G3 hc).cellsI;have hz1:z.cells.size=(cellsI zi).length:=by simpa using vh.1
 have h1:∀u∈z.cells.toList,u.oneCell'=true:=fun u hu=>by
  obtain⟨p,hp,rfl⟩:=List.getElem_of_mem hu;have hp':p<(cellsI zi).length:=by grind
  refine(vh.2 p hp' hp).oneCell ?_;grind
 simp only[step,LU]at hs;split at hs
 ·rename_i nm k0 lo ja kk m e1 e2;rw[e1]at hr;rw[e2]at wi;have hv:=Ct (AJ wi);unfold Kt at hs;split at hs
  ·rename_i e' k' rs hg;obtain⟨h0,hm,hmb,hs⟩:=hs;obtain⟨m,rfl⟩:∃q:Nat,m=(q:Int):=⟨m.toNat,by omega⟩;simp only[Int.toNat_natCast]at hs;exact jY h (m:=m) rfl vh h1 hm hmb ho hint hv hd hn hr ht hi hz rfl rfl vd vk hg hs
  ·exact hs.elim
 ·exact hs.elim
end
end Go.Dl
end
section
namespace Go.Dl
open Go Go.RowKit
variable{t e:TypeId}
def Tr(n:Nat)(o:Oper):Option Nat:=match o.dst with|some d=>if d<n then some d else none|none=>none
def KA(n:Nat)(o:Oper):Bool:=match o.dst with|some d=>decide (d<n)|none=>true
def Ts:Operand->Operand->Bool
 |.tmp p,.tmp q=>decide (p=q)
 |.const (.int k m),.const (.int k2 m2)=>decide (k=k2/\m=m2)
 |_,_=>false
theorem kC{x y:Operand}(h:Ts x y=true):x=y:=by unfold Ts at h;grind
def O2(GL:List (Nat×List I)):Option Operand->Option (Option O)
 |none=>some none
 |some x=>(cO GL x).map some
section
variable (P:Program)(GL:List (Nat×List I))(n:Nat)(mu:List Nat)
def slT(t:TypeId):Option TypeId:=match P.underlying t with|some (.slice e)=>some e|_=>none
def mpT(t:TypeId):Option (TypeId×TypeId):=match P.underlying t with|some (.map k e)=>some (k,e)|_=>none
def stT(t:TypeId):Option (Array Field):=match P.underlying t with|some (.struct fs)=>some fs|_=>none
def zrT(e:TypeId):Option (TypeInfo×Value×I):=do
 let i <-P.info? e
 let z <-i.zero
 some (i,z,<-D0 z)
def u8T(e:TypeId):Bool:=match P.underlying e with|some (.int .u8)=>true|_=>false
def Tt(e:TypeId):Bool:=match P.underlying e with|some (.slice _)|some (.map _ _)=>true|_=>false
def Xz(o:Oper)(D:Option Nat)(b:Builtin)(args:List Operand)(tys:List TypeId):Option Ins:=
 match b,args,tys with
 |.len,[x],[t]=>match P.underlying t with
  |some .string=>do some (.lens (<-D) (<-cO GL x))
  |some (.slice _)=>do some (.lenl (<-D) (<-cO GL x))
  |_=>none
 |.append,[x,y],[t,t']=>do
  let d <-D
  let ox <-cO GL x
  let oy <-cO GL y
  let e <-slT P t
  if t=t' then(do
   let i <-P.info? e
   let z <-i.zero
   if z.cells.size=i.size/\0<i.size then some (.app d e i.size i.bytes ox oy)else none)
  else match P.underlying t' with
  |some (.int _)=>do
   let r <-zrT P e
   if(cellsI r.2.2).all I.one=true/\r.2.1.cells.size=r.1.size/\0<r.1.size then some (.appz d e r.1.size r.1.bytes ox oy (cellsI r.2.2))else none
  |_=>none
 |.max,[x,y],[_,_]=>do some (.max (<-D) (<-cO GL x) (<-cO GL y))
 |.min,[x,y],[_,_]=>do some (.min (<-D) (<-cO GL x) (<-cO GL y))
 |.cap,[x],[t]=>do
  let d <-D
  let ox <-cO GL x
  let _<-slT P t
  some (.cap d ox)
 |.copy,[x,y],[t,_]=>do
  let ox <-cO GL x
  let oy <-cO GL y
  let e <-slT P t
  let k <-Qp P e
  if KA n o=true then some (.cpy o.dst ox oy e k)else none
 |.clear,[x],[t]=>do
  let ox <-cO GL x
  let r <-zrT P (<-slT P t)
  if KA n o=true/\(cellsI r.2.2).all I.one=true then some (.clr o.dst ox (cellsI r.2.2))else none
 |_,_,_=>none
def XA(o:Oper)(D:Option Nat)(f:FuncId)(args:List Operand)(tys:List TypeId):Option Ins:=do
 let os <-args.mapM (cO GL)
 if Nat.blt f 1000000000=true/\n<=999/\KA n o=true then(match D with
  |some d=>if mu.contains (d+5000)=true then some (.callo d f os)else if mu.contains (d+3000)=true then(do
    let p <-(args.zip tys).find? fun p=>S5 p.1
    let e <-slT P p.2
    some (.calln d f e (<-Qp P e) (<-args.mapM (cN GL))))else some (.call o.dst f os)
  |none=>some (.call o.dst f os))else none
def Io(o:Oper):Option Ins:=
 let D:=Tr n o
 let C:=cO GL
 match o.op with
 |.move x|.assign x=>match x with
  |.const (.slice none 0 0)=>do
   let d <-D
   if mu.contains (d+2000)=true then some (.mov d (.c .nilsl))else(do
    let e <-slT P o.type
    some (.nils d e (<-Qp P e)))
  |x=>do some (.mov (<-D) (<-C x))
 |.pick c x y=>do some (.pick (<-D) (<-C c) (<-C x) (<-C y))
 |.box _ x=>do
  let d <-D
  let ox <-C x
  if(mu.contains d||mu.contains 9000)=true then some (.boxm d ox)else some (.box d ox)
 |.alloc t=>do some (.alloc (<-D) (cellsI (<-zrT P t).2.2))
 |.load t x=>do
  let k <-Qp P t
  let ag <-Eu P t
  if(ag||k==1)=true then(do some (.load (<-D) (<-C x) k ag))else none
 |.store t x v=>do
  let ox <-C x
  let ov <-C v
  let k <-Qp P t
  if o.dst=none then(match x with|.tmp s=>if(mu.contains s||mu.contains 9000)=true then some (.store ox ov k)else some (.stfrz ox ov k)|_=>some (.store ox ov k))else none
 |.fieldAddr t x f=>do
  let fs <-stT P t
  let fl <-fs[f]?
  let k <-Qp P fl.type
  if k≠0 then(do some (.fa (<-D) (<-C x) fl.offset))else none
 |.indexAddr t x ix=>match P.underlying t with
  |some (.slice e)=>do some (.ia (<-D) (<-C x) (<-C ix) (<-Qp P e))
  |some (.array len e)=>do some (.iaa (<-D) (<-C x) (<-C ix) (<-Qp P e) len)
  |_=>none
 |.index t x ix=>match P.underlying t with
  |some .string=>do some (.idx (<-D) (<-C x) (<-C ix))
  |some (.array len e)=>(do let k <-Qp P e;let ag <-Eu P e;if(ag||k==1)=true then(do some (.aidx (<-D) (<-C x) (<-C ix) k len ag))else none)
  |_=>none
 |.binOp op t x y _=>do
  let d <-D
  let ox <-C x
  let u <-P.underlying t
  match SV u y,op with
  |some q,.eql=>some (.isnil d q false ox)
  |some q,.neq=>some (.isnil d q true ox)
  |_,op=>do
   let oy <-C y
   match u,op with
   |.int _,.shl=>some (.sh d .shl ox oy)
   |.int _,.shr=>some (.sh d .shr ox oy)
   |.int _,op=>some (.bin d op ox oy)
   |.string,op=>some (.bin d op ox oy)
   |.bool,.eql=>some (.eqb d false ox oy)
   |.bool,.neq=>some (.eqb d true ox oy)
   |.struct _,op=>do
    let ls <-Cj P 10000 t
    if P.eqGuardType P.depth t=false then(match op with|.eql=>some (.eqs d false ls ox oy)|.neq=>some (.eqs d true ls ox oy)|_=>none)else none
   |_,_=>none
 |.unOp op _ x=>do some (.un (<-D) op (<-C x))
 |.convert t t' x=>do
  let d <-D
  let ox <-C x
  let u <-P.underlying t
  let u'<-P.underlying t'
  match u,u' with
  |_,.int k=>some (.conv d k ox)
  |.string,.slice e=>if u8T P e=true then some (.bytes d ox)else none
  |_,_=>none
 |.extract x i=>do some (.ext (<-D) (<-C x) i)
 |.makeFunc (.func f) first caps=>if Nat.blt f 1000000000=true then(do some (.mkfn (<-D) f (<-first.toList.mapM C) (<-caps.toList.mapM C)))else none
 |.build t parts=>do
  let d <-D
  let r <-zrT P t
  match P.underlying t with
  |some (.struct fs)=>do
   let pl <-Te P fs
   some (.build d (cellsI r.2.2) (<-Nk GL (fun j=>pl[j]?) (cellsI r.2.2).length parts.toList))
  |some (.array _ e)=>do
   let k <-Qp P e
   some (.build d (cellsI r.2.2) (<-Nk GL (fun j=>some (j*k,k)) (cellsI r.2.2).length parts.toList))
  |_=>none
 |.buildSlice t len parts=>do
  let d <-D
  let e <-slT P t
  let os <-(parts.toList.map (·.2)).mapM C
  let r <-zrT P e
  if(cellsI r.2.2).length=r.1.size/\0<r.1.size/\len*r.1.size<=16777216/\parts.toList.map (·.1)=List.range len then
   (if os.isEmpty=true then some (.bsl d e r.1.size os)else if mu.contains (d+1000)=true then some (.bso d e r.1.size os)else some (.bsn d e r.1.size os))else none
 |.call c=>match c.callee with
  |.builtin b=>Xz P GL n o D b c.args.toList c.argTypes.toList
  |.value fv=>match fv with
   |.func f=>XA P GL n mu o D f c.args.toList c.argTypes.toList
   |fv=>do
    let of <-C fv
    let os <-c.args.toList.mapM C
    if n<=999/\KA n o=true then some (.callv o.dst of os)else none
  |_=>none
 |.slice t x lo hi none=>do
  let d <-D
  let ox <-C x
  let olo <-O2 GL lo
  let ohi <-O2 GL hi
  match P.underlying t with
  |some (.slice e)=>do some (.slc d ox olo ohi (<-Qp P e))
  |_=>none
 |.slice t x lo (some hi) (some m)=>do
  let d <-D
  let ox <-C x
  let e <-slT P t
  let k <-Qp P e
  match lo,hi,m with
  |none,.const (.int _ 0),.const (.int _ 0)=>some (.slc0 d e k ox)
  |lo,hi,m=>do some (.slc3 d ox (<-O2 GL lo) (<-C hi) (<-C m))
 |.makeMap t none=>do
  let d <-D
  let m <-mpT P t
  let ls <-D1 P m.1
  if(Tt P m.2||mu.contains (d+4000))=true then some (.mkgm d ls)else some (.mkmap d ls)
 |.lookup t x ix ok=>do
  let d <-D
  let ox <-C x
  let oi <-C ix
  let m <-mpT P t
  let ls <-D1 P m.1
  let r <-zrT P m.2
  if(Tt P m.2||mu.contains (d+4000))=true then some (.lookg d ox oi r.2.2 ok ls)else some (.lookup d ox oi r.2.2 ok ls)
 |.mapUpdate t x ix y|.insert t x ix y=>do
  let ox <-C x
  let oi <-C ix
  let oy <-C y
  let m <-mpT P t
  let ls <-D1 P m.1
  if o.dst=none then(if Tt P m.2=true then some (.mupdg ox oi oy ls)else some (.mupd ox oi oy ls))else none
 |.mapEntry t x ix=>do
  let m <-mpT P t
  let r <-zrT P m.2
  some (.ment (<-D) (<-C x) (<-C ix) r.2.2 (<-D1 P m.1) ((slT P m.2).getD 0) (((slT P m.2).bind (Qp P)).getD 0))
 |.entryStore _ x s y=>if o.dst=none then(do some (.ests (<-C x) (<-C s) (<-C y)))else none
 |.makeSlice t x y=>do
  let e <-slT P t
  let r <-zrT P e
  if Ts x y=true/\r.2.1.cells.size=r.1.size then(do some (.mksl (<-D) e r.1.size r.1.bytes (cellsI r.2.2) (<-C x)))else none
 |.range t x=>do
  let _<-mpT P t
  some (.rng (<-D) (<-C x))
 |.next x false=>do some (.nxt (<-D) (<-C x))
 |.entry x=>do some (.ent (<-D) (<-C x))
 |_=>none
end
section
variable {P:Program}{n:Nat}{o:Oper}{d:Nat}
theorem O3:Tr n o=some d↔o.dst=some d/\d<n:=by grind[Tr]
theorem kD:KA n o=true↔∀d,o.dst=some d->d<n:=by grind[KA]
theorem kE:slT P t=some e↔P.underlying t=some (.slice e):=by grind[slT]
theorem kF{m:TypeId×TypeId}:mpT P t=some m↔P.underlying t=some (.map m.1 m.2):=by grind[mpT]
theorem kG{fs:Array Field}:stT P t=some fs↔P.underlying t=some (.struct fs):=by grind[stT]
theorem kH:u8T P e=true↔P.underlying e=some (.int .u8):=by grind[u8T]
theorem kI{r:TypeInfo×Value×I}:zrT P e=some r↔P.info? e=some r.1/\r.1.zero=some r.2.1/\D0 r.2.1=some r.2.2:=by obtain⟨i,z,y⟩:=r;simp only[zrT,Option.bind_eq_bind,Option.bind_eq_some_iff,Option.some.injEq,Prod.mk.injEq];grind
theorem kJ{GL:List (Nat×List I)}{x:Option Operand}{y:Option O}:O2 GL x=some y↔x.map (cO GL)=y.map some:=by cases x<;>cases y<;>simp[O2]
theorem Gs{c:Call}{b:Callee}{l:Array Operand}{t:Array TypeId}(ho:o.op=.call c)(h1:c.callee=b)(h2:c.args.toList=l.toList)(h3:c.argTypes.toList=t.toList):o.op=.call ⟨b,l,t⟩:=by rw[ho,<-h1,<-Array.ext' h2,<-Array.ext' h3]
end
variable {P:Program}{GL:List (Nat×List I)}{n:Nat}{S:Sh}{M:Mem}{μ:Place}{st:St}{a:Act}{w:World}{K:St->Prop}{Q:Exit->Act->World->Prop}{o:Oper}{mu:List Nat}
set_option maxHeartbeats 2000000
theorem kK(h:Rel GL n S M μ st a w){ins:Ins}(hc:Io P GL n mu o=some ins)(hs:step P GL ins st K):o.wpX P a w (Ax GL n S M w K) Q:=by
 unfold Io at hc;simp only at hc;split at hc<;>rename_i ho
 all_goals
  try unfold Xz at hc
  try unfold XA at hc
  repeat' first
   |(cases hc;done)
   |(obtain⟨_,hc⟩:=hc)
   |(simp only[Option.bind_eq_bind,Option.ite_none_right_eq_some,Option.bind_eq_some_iff,Option.some.injEq,O3,kD,kE,kF,kG,kH,kI,kJ,and_assoc]at hc)
   |split at hc
 all_goals first
  |(apply gP h ho<;>first|assumption|exact hs|rfl)
  |(apply gQ h ho<;>first|assumption|exact hs|rfl)
  |(apply gS h ho<;>first|assumption|exact hs|rfl)
  |(apply gT h ho<;>first|assumption|exact hs|rfl)
  |(apply gO h ho<;>first|assumption|exact hs|rfl)
  |(apply iF h ho<;>first|assumption|exact hs|rfl)
  |(apply iE h ho<;>first|assumption|exact hs|rfl)
  |(apply gU h ho<;>first|assumption|exact hs|rfl)
  |(apply gV h ho<;>first|assumption|exact hs|rfl)
  |(apply jC h ho<;>first|assumption|exact hs|rfl)
  |(apply gX h ho<;>first|assumption|exact hs|rfl)
  |(apply iq h ho<;>first|assumption|exact hs|rfl)
  |(apply gZ h ho<;>first|assumption|exact hs|rfl)
  |(apply ig h ho<;>first|assumption|exact hs|rfl)
  |(apply im h ho<;>first|assumption|exact hs|rfl)
  |(apply jE h ho<;>first|assumption|exact hs|rfl)
  |(apply il h ho<;>first|assumption|exact hs|rfl)
  |(apply iQ h ho<;>first|assumption|exact hs|rfl)
  |(apply jD h ho<;>first|assumption|exact hs|rfl)
  |(apply iV h ho<;>first|assumption|exact hs|rfl)
  |(apply iL h ho<;>first|assumption|exact hs|rfl)
  |(apply jV h ho<;>first|assumption|exact hs|rfl)
  |(apply jG h ho<;>first|assumption|exact hs|rfl)
  |(apply Xs h ho<;>first|assumption|exact hs|rfl)
  |(apply jJ h ho<;>first|assumption|exact hs|rfl)
  |(apply jK h ho<;>first|assumption|exact hs|rfl)
  |(apply i8 h ho<;>first|assumption|exact hs|rfl)
  |(apply jA h ho<;>first|assumption|exact hs|rfl)
  |(apply jB h ho<;>first|assumption|exact hs|rfl)
  |(apply iT h ho<;>first|assumption|exact iS hs|rfl)
  |(apply io h ‹_› ho<;>first|assumption|exact hs|rfl)
  |(obtain rfl:=kC ‹_›;apply jU h ho<;>assumption)
  |(apply iM h ho rfl rfl<;>first|assumption|exact hs|rfl)
  |(apply jF h ho rfl<;>first|assumption|exact hs|rfl)
  |(apply i7 h ho rfl<;>first|assumption|exact hs|rfl)
  |(apply WS h (.inl ho)<;>first|assumption|exact hs|rfl)
  |(apply WS h (.inr ho)<;>first|assumption|exact hs|rfl)
  |(apply WT h (.inl ho)<;>first|assumption|exact hs|rfl)
  |(apply WT h (.inr ho)<;>first|assumption|exact hs|rfl)
  |(apply Xv h (.inl ho)<;>first|assumption|exact hs|rfl)
  |(apply Xv h (.inr ho)<;>first|assumption|exact hs|rfl)
  |(apply Tl h (.inl ho)<;>first|assumption|exact hs|rfl)
  |(apply Tl h (.inr ho)<;>first|assumption|exact hs|rfl)
  |(apply WY (neg:=false) h ho<;>first|assumption|exact hs|rfl)
  |(apply WW (neg:=false) h ho<;>first|assumption|exact hs|rfl)
  |(apply Xj (neg:=false) h ho<;>first|assumption|exact In ‹_›)
  |(apply WY (neg:=true) h ho<;>first|assumption|exact hs|rfl)
  |(apply WW (neg:=true) h ho<;>first|assumption|exact hs|rfl)
  |(apply Xj (neg:=true) h ho<;>first|assumption|exact In ‹_›)
  |(apply WV h (.inl rfl) ho<;>first|assumption|exact hs|rfl)
  |(apply WV h (.inr rfl) ho<;>first|assumption|exact hs|rfl)
  |(apply ii h (Gs ho ‹_› ‹_› ‹_›)<;>first|assumption|exact hs|rfl)
  |(apply ij h (Gs ho ‹_› ‹_› ‹_›)<;>first|assumption|exact hs|rfl)
  |(apply iJ h (Gs ho ‹_› ‹_› ‹_›)<;>first|assumption|exact hs|rfl)
  |(apply jZ h (Gs ho ‹_› ‹_› ‹_›)<;>first|assumption|exact hs|rfl)
  |(apply jL h (Gs ho ‹_› ‹_› ‹_›)<;>first|assumption|exact hs|rfl)
  |(apply jP h (Gs ho ‹_› ‹_› ‹_›)<;>first|assumption|exact hs|rfl)
  |(apply jT h (Gs ho ‹_› ‹_› ‹_›)<;>first|assumption|exact hs|rfl)
  |(apply W0 (mx:=true) h (Gs ho ‹_› ‹_› ‹_›)<;>first|assumption|exact hs|rfl)
  |(apply W0 (mx:=false) h (Gs ho ‹_› ‹_› ‹_›)<;>first|assumption|exact hs|rfl)
  |(apply W6 h ‹_› (Gs ho ‹_› rfl rfl)<;>first|assumption|exact hs|rfl)
  |(apply iA h ‹_› (Gs ho ‹_› rfl rfl)<;>first|assumption|exact(O3.1 ‹_›).1|exact(O3.1 ‹_›).2)
  |(apply iw h ‹_› (Gs ho ‹_› rfl rfl)<;>first|assumption|exact(O3.1 ‹_›).1|exact(O3.1 ‹_›).2)
  |(apply iB h (Gs ho ‹_› rfl rfl)<;>first|assumption|exact hs|rfl)
  |exact A3 h ‹_› ‹_› (v:=.slice none 0 0) (by simp[execOp,ho,Act.eval]) (AM .nilsl) hs
end Go.Dl
end
section
namespace Go.Dl
open Go Go.RowKit
section
variable (P:Program)(GL:List (Nat×List I))
def pv(ρ:O->D)(σ:Nat->Option Blk):Ins->D×Prop
 |.mov _ x=>(ρ x,True)
 |.pick _ c a b=>match ρ c with
  |.i (.bool t)=>(if t then ρ a else ρ b,True)
  |_=>(.any,False)
 |.load _ x k ag=>match ρ x with
  |.i (.elt cs off)=>(.i (pk ag cs off k),off+k<=cs.length)
  |.ref (.loc nm off)=>match σ nm with
   |some (.cells cs)=>(gG ag cs off k,off+k<=cs.length/\(ag=true->BV ((cs.drop off).take k)=true))
   |_=>(.any,False)
  |.ref (.lel nm kk row off)=>match σ nm with
   |some (.rows _ k' rs)=>(.i (pk ag (rs.getD row []) off k),kk=k'/\row<rs.length/\off+k<=(rs.getD row []).length)
   |_=>(.any,False)
  |_=>(.any,False)
 |.fa _ x off=>match ρ x with
  |.i (.elt cs o)=>(.i (.elt cs (o+off)),True)
  |.ref (.loc nm o)=>(.ref (.loc nm (o+off)),True)
  |.ref (.lel nm k row o)=>(.ref (.lel nm k row (o+off)),True)
  |_=>(.any,False)
 |.ia _ s i k=>match ρ s,ρ i with
  |.i (.sl rows),.i (.int _ n)=>(.i (.elt (rows.getD n.toNat []) 0),(0<=n/\n<rows.length)/\(rows.getD n.toNat []).length=k)
  |.ref (.sl nm k0 lo hi),.i (.int _ n)=>match σ nm with
   |some (.rows _ k' _)=>(.ref (.lel nm k (lo+n.toNat) 0),k'=k/\k0=k/\(0<=n/\n<((hi-lo:Nat):Int)))
   |_=>(.any,False)
  |_,_=>(.any,False)
 |.fld _ x off k ag=>match ρ x with
  |.i (.agg cs)=>(.i (pk ag cs off k),off+k<=cs.length)
  |_=>(.any,False)
 |.aidx _ x i k len ag=>match ρ x,ρ i with
  |.i (.agg cs),.i (.int _ n)=>(.i (pk ag cs (n.toNat*k) k),(0<=n/\n<(len:Int))/\n.toNat*k+k<=cs.length)
  |_,_=>(.any,False)
 |.sh _ op x y=>match ρ x,ρ y with
  |.i (.int k a),.i (.int _ b)=>(.i (shV op k a b),0<=b)
  |_,_=>(.any,False)
 |.min _ x y=>match ρ x,ρ y with
  |.i (.int k a),.i (.int _ b)=>(.i (.int k (if b<a then b else a)),True)
  |_,_=>(.any,False)
 |.slc _ x lo hi k=>match ρ x with
  |.i (.sl rows)=>match WP (lo.map ρ),gl rows.length (hi.map ρ)with
   |some l,some h=>(.i (.sl ((rows.take h.toNat).drop l.toNat)),(∀r∈rows,r.length=k)/\(0<=l/\l<=h/\h<=(rows.length:Int)))
   |_,_=>(.any,False)
  |.ref (.sl nm k0 a c)=>match σ nm with
   |some (.rows _ k' rs)=>match WP (lo.map ρ),gl ((c-a:Nat):Int) (hi.map ρ)with
    |some l,some h=>(.ref (.sl nm k (a+l.toNat) (a+h.toNat)),k'=k/\k0=k/\(0<=l/\l<=h/\h<=((rs.length-a:Nat):Int)))
    |_,_=>(.any,False)
   |some (.arr _ k' rs)=>match WP (lo.map ρ),gl ((c-a:Nat):Int) (hi.map ρ)with
    |some l,some h=>(.ref (.sl nm k (a+l.toNat) (a+h.toNat)),k'=k/\k0=k/\(0<=l/\l<=h/\h<=((rs.length-a:Nat):Int)))
    |_,_=>(.any,False)
   |_=>(.any,False)
  |_=>(.any,False)
 |.sslc _ x lo hi=>match ρ x with
  |.i (.str s)=>match WP (lo.map ρ),gl s.length (hi.map ρ)with
   |some l,some h=>(.i (.str ((s.take h.toNat).drop l.toNat)),0<=l/\l<=h/\h<=(s.length:Int))
   |_,_=>(.any,False)
  |_=>(.any,False)
 |.lookup _ x key zero ok ls=>match ρ key with
  |.i q=>match ρ x with
   |.i .nilmap=>(.i (C0 [] q zero ok),AB ls q=true)
   |.i (.map es)=>(.i (C0 es q zero ok),AB ls q=true/\(∀e∈es,AB ls e.1=true))
   |.ref (.mp nm)=>match σ nm with
    |some (.map ls' es)=>(.i (C0 es q zero ok),AB ls q=true/\ls'=ls)
    |_=>(.any,False)
   |_=>(.any,False)
  |_=>(.any,False)
 |.lenm _ x=>match ρ x with
  |.i .nilmap=>(.i (.int .i64 0),True)
  |.i (.map es)=>(.i (.int .i64 es.length),True)
  |.ref (.mp nm)=>match σ nm with
   |some (.map _ es)=>(.i (.int .i64 es.length),True)
   |_=>(.any,False)
  |_=>(.any,False)
 |.idx _ s i=>match ρ s,ρ i with
  |.i (.str l),.i (.int _ n)=>(.i (.int .u8 ((l.getD n.toNat 0).toNat:Int)),0<=n/\n<l.length)
  |_,_=>(.any,False)
 |.bin _ op x y=>match ρ x,ρ y with
  |.i a,.i b=>(.i (CZ op a b),DA op a b)
  |_,_=>(.any,False)
 |.eqs _ neg ls x y=>match ρ x,ρ y with
  |.i (.agg a),.i (.agg b)=>match eqL ls a b with
   |some r=>(.i (.bool (if neg then !r else r)),True)
   |none=>(.any,False)
  |_,_=>(.any,False)
 |.eqb _ neg x y=>match ρ x,ρ y with
  |.i (.bool a),.i (.bool b)=>(.i (.bool (if neg then !(a==b)else a==b)),True)
  |_,_=>(.any,False)
 |.un _ op x=>match op,ρ x with
  |.not,.i (.bool b)=>(.i (.bool !b),True)
  |.neg,.i (.int k n)=>(.i (.int k (k.wrap (0-n))),True)
  |_,_=>(.any,False)
 |.lens _ x=>match ρ x with
  |.i (.str s)=>(.i (.int .i64 s.length),True)
  |_=>(.any,False)
 |.lenl _ x=>match ρ x with
  |.i (.sl rows)=>(.i (.int .i64 rows.length),True)
  |.ref (.sl _ _ lo hi)=>(.i (.int .i64 ((hi-lo:Nat):Int)),True)
  |.i .nilsl=>(.i (.int .i64 0),True)
  |_=>(.any,False)
 |.ext _ x i=>match ρ x with
  |.i (.tup vs)=>(.i (vs.getD i .undef),i<vs.length)
  |.tup cs=>((cs.getD i .any).toD,i<cs.length)
  |_=>(.any,False)
 |.bsn _ _ k ps=>(.i (.sl (ps.map fun o=>cellsI (Ii (ρ o)))),(!ps.isEmpty&&(ps.all fun o=>Ja (ρ o)&&((cellsI (Ii (ρ o))).length==k)&&(cellsI (Ii (ρ o))).all I.one))=true)
 |.build _ zs parts=>(.i (.agg (HA zs (parts.map fun p=>(p.1,cellsI (Ii (ρ p.2.2)))))),(parts.all fun p=>Ja (ρ p.2.2)&&((cellsI (Ii (ρ p.2.2))).length==p.2.1))=true)
 |.mkfn _ f first caps=>match first.mapM fun o=>CF (ρ o),caps.mapM fun o=>CF (ρ o)with
  |some a,some b=>(fnD f a b,True)
  |_,_=>(.any,False)
 |.max _ x y=>match ρ x,ρ y with
  |.i (.int k a),.i (.int _ b)=>(.i (.int k (if b>a then b else a)),True)
  |_,_=>(.any,False)
 |.conv _ k x=>match ρ x with
  |.i (.int _ n)=>(.i (.int k (k.wrap n)),True)
  |_=>(.any,False)
 |.iaa _ x i k len=>match ρ x,ρ i with
  |.i (.elt cs o),.i (.int _ n)=>(.i (.elt cs (o+n.toNat*k)),0<=n/\n<(len:Int))
  |.ref (.loc nm o),.i (.int _ n)=>(.ref (.loc nm (o+n.toNat*k)),0<=n/\n<(len:Int))
  |.ref (.lel nm kk row o),.i (.int _ n)=>(.ref (.lel nm kk row (o+n.toNat*k)),0<=n/\n<(len:Int))
  |_,_=>(.any,False)
 |.bytes _ x=>match ρ x with
  |.i (.str s)=>(.i (.sl (rowsB s)),True)
  |_=>(.any,False)
 |.ofb _ x=>match ρ x with
  |.i (.sl rows)=>match SR rows with
   |some l=>(.i (.str l),True)
   |none=>(.any,False)
  |_=>(.any,False)
 |_=>(.any,False)
def BW:Ins->Option Nat
 |.mov d _|.pick d _ _ _|.load d _ _ _|.fa d _ _|.ia d _ _ _|.idx d _ _|.bin d _ _ _|.eqs d _ _ _ _|.eqb d _ _ _|.un d _ _|.lens d _|.lenl d _|.ext d _ _
 |.bsn d _ _ _|.build d _ _|.mkfn d _ _ _|.max d _ _|.min d _ _|.conv d _ _|.fld d _ _ _ _|.aidx d _ _ _ _ _|.sh d _ _ _|.slc d _ _ _ _|.sslc d _ _ _|.lookup d _ _ _ _ _|.lenm d _|.iaa d _ _ _ _|.bytes d _|.ofb d _=>some d
 |_=>none
theorem O4{ins:Ins}{d:Nat}(hd:BW ins=some d)(st:St)(K:St->Prop):
  step P GL ins st K↔(pv (A8 GL st) (Aa st.sto) ins).2/\K (st.put d (pv (A8 GL st) (Aa st.sto) ins).1):=by
 cases ins<;>simp only[BW,Option.some.injEq,reduceCtorEq]at hd<;>subst hd<;>simp only[step,pv]
 case mov=>simp
 case pick d c a b=>unfold Er;split<;>simp_all[br];rename_i t _;cases t<;>simp
 case load=>unfold Jd;split<;>simp_all<;>first|(unfold Kg;split<;>simp_all[and_assoc])|(unfold M5;split<;>simp_all[and_assoc])
 case fa=>unfold faE;split<;>simp_all
 case fld=>unfold Qy;split<;>simp_all
 case ia=>unfold iaE;split<;>simp_all[and_assoc];unfold iaR;split<;>simp_all[and_assoc]
 case idx=>unfold Lw;split<;>simp_all
 case aidx=>unfold Lx;split<;>simp_all[and_assoc]
 case bin=>unfold Ly;split<;>simp_all
 case sh=>unfold shE;split<;>simp_all
 case eqs=>unfold LA;split<;>simp_all;unfold Lz;split<;>simp_all
 case eqb=>unfold Ki;split<;>simp_all
 case un=>unfold unE;split<;>simp_all
 case lens=>unfold LB;split<;>simp_all
 case lenl=>unfold Je;split<;>simp_all
 case ext=>unfold Jf;split<;>simp_all
 case mkfn=>unfold LC;split<;>simp_all
 case max=>unfold G1;split<;>simp_all
 case min=>unfold G1;split<;>simp_all
 case conv=>unfold LD;split<;>simp_all
 case slc=>unfold LF;split<;>simp_all[ER];(split<;>simp_all[and_assoc]);unfold M9;split<;>simp_all[ER]<;>(split<;>simp_all[and_assoc])
 case sslc=>unfold Qz;split<;>simp_all[ER];split<;>simp_all[and_assoc]
 case lookup=>unfold Fj;split<;>simp_all[];split<;>simp_all[and_assoc];unfold HE;split<;>simp_all[and_assoc]
 case lenm=>unfold Nb;split<;>simp_all;unfold OO;split<;>simp_all
 case iaa=>unfold Jh;split<;>simp_all[and_assoc]
 case bytes=>unfold LI;split<;>simp_all
 case ofb=>unfold QA;split<;>simp_all;unfold OP;split<;>simp_all
def BQ:Ins->List O
 |.mov _ x=>[x]
 |.pick _ c a b=>[c,a,b]
 |.load _ x _ _=>[x]
 |.fa _ x _=>[x]
 |.ia _ s i _=>[s,i]
 |.idx _ s i=>[s,i]
 |.bin _ _ x y=>[x,y]
 |.eqs _ _ _ x y=>[x,y]
 |.eqb _ _ x y=>[x,y]
 |.un _ _ x=>[x]
 |.lens _ x=>[x]
 |.lenl _ x=>[x]
 |.ext _ x _=>[x]
 |.bsn _ _ _ ps=>ps
 |.build _ _ ps=>ps.map (·.2.2)
 |.mkfn _ _ first caps=>first++caps
 |.max _ x y=>[x,y]
 |.conv _ _ x=>[x]
 |.min _ x y=>[x,y]
 |.fld _ x _ _ _=>[x]
 |.aidx _ x i _ _ _=>[x,i]
 |.sh _ _ x y=>[x,y]
 |.slc _ x lo hi _=>x::(lo.toList++hi.toList)
 |.sslc _ x lo hi=>x::(lo.toList++hi.toList)
 |.lookup _ x k _ _ _=>[x,k]
 |.lenm _ x=>[x]
 |.iaa _ x i _ _=>[x,i]
 |.bytes _ x=>[x]
 |.ofb _ x=>[x]
 |.call _ _ args=>args
 |.callv _ f args=>f::args
 |.callo _ _ args=>args
 |.callf _ _ args=>args
 |.callvf _ f args=>f::args
 |.store x v _=>[x,v]
 |.mupd x k v _=>[x,k,v]
 |_=>[]
theorem Tu{ins:Ins}{ρ ρ':O->D}{σ σ':Nat->Option Blk}(hρ:∀o∈BQ ins,ρ o=ρ' o)(hσ:∀o∈BQ ins,∀nm∈(ρ o).nms,σ nm=σ' nm):pv ρ σ ins=pv ρ' σ' ins:=by
 cases ins<;>simp only[BQ,List.mem_cons,List.not_mem_nil,or_false,forall_eq_or_imp,forall_eq]at hρ hσ<;>simp only[pv]
 case load=>rw[hρ]at hσ;rw[hρ];split<;>simp_all[D.nms,Ref.nm]
 case ia=>rw[hρ.1]at hσ;rw[hρ.1,hρ.2];split<;>simp_all[D.nms,Ref.nm]
 case slc x lo hi k=>
  have e1:lo.map ρ=lo.map ρ':=by cases lo with|none=>rfl|some z=>simp[hρ.2 z (by simp)]
  have e2:hi.map ρ=hi.map ρ':=by cases hi with|none=>rfl|some z=>simp[hρ.2 z (by simp)]
  have h0:=hσ.1;rw[hρ.1]at h0;rw[e1,e2,hρ.1];split<;>simp_all[D.nms,Ref.nm]
 case sslc x lo hi=>
  have e1:lo.map ρ=lo.map ρ':=by cases lo with|none=>rfl|some z=>simp[hρ.2 z (by simp)]
  have e2:hi.map ρ=hi.map ρ':=by cases hi with|none=>rfl|some z=>simp[hρ.2 z (by simp)]
  rw[e1,e2,hρ.1]
 case lookup=>rw[hρ.1,hρ.2]at hσ;rw[hρ.1,hρ.2];split<;>simp_all[D.nms,Ref.nm];split<;>simp_all[]
 case lenm=>rw[hρ]at hσ;rw[hρ];split<;>simp_all[D.nms,Ref.nm]
 case bsn k ps=>
  have e1:(ps.map fun o=>cellsI (Ii (ρ o)))=ps.map fun o=>cellsI (Ii (ρ' o)):=List.map_congr_left (fun p hp=>by rw[hρ p hp])
  have e2:(ps.all fun o=>Ja (ρ o)&&((cellsI (Ii (ρ o))).length==k)&&(cellsI (Ii (ρ o))).all I.one)=(ps.all fun o=>Ja (ρ' o)&&((cellsI (Ii (ρ' o))).length==k)&&(cellsI (Ii (ρ' o))).all I.one):=by grind
  rw[e1,e2]
 case build ps=>
  have e:∀p∈ps,ρ p.2.2=ρ' p.2.2:=fun p hp=>hρ _ (List.mem_map.2 ⟨p,hp,rfl⟩)
  have e1:(ps.map fun p=>(p.1,cellsI (Ii (ρ p.2.2))))=ps.map fun p=>(p.1,cellsI (Ii (ρ' p.2.2))):=List.map_congr_left (fun p hp=>by rw[e p hp])
  have e2:(ps.all fun p=>Ja (ρ p.2.2)&&((cellsI (Ii (ρ p.2.2))).length==p.2.1))=(ps.all fun p=>Ja (ρ' p.2.2)&&((cellsI (Ii (ρ' p.2.2))).length==p.2.1)):=by grind
  rw[e1,e2]
 case mkfn f first caps=>
  have e1:∀l:List O,(∀o∈l,ρ o=ρ' o)->(l.mapM fun o=>CF (ρ o))=l.mapM fun o=>CF (ρ' o):=by
   intro l
   induction l with
   |nil=>intro _;rfl
   |cons x l ih=>intro h;rw[List.mapM_cons,List.mapM_cons,h x (by simp),ih fun o ho=>h o (by simp[ho])]
  rw[e1 _ fun o ho=>hρ o (List.mem_append.2 (.inl ho)),e1 _ fun o ho=>hρ o (List.mem_append.2 (.inr ho))]
 all_goals simp_all
end
end Go.Dl
end
section
namespace Go.Dl
open Go Go.RowKit
variable{s t:St}
def OF(s t:St):Prop:=(∀i,Aj s.env i=Aj t.env i)/\∀m,Aa s.sto m=Aa t.sto m
theorem OF.refl(s:St):OF s s:=⟨fun _=>rfl,fun _=>rfl⟩
theorem OF.symm(h:OF s t):OF t s:=⟨fun i=>(h.1 i).symm,fun i=>(h.2 i).symm⟩
theorem OF.trans{u:St}(h:OF s t)(k:OF t u):OF s u:=⟨fun i=>(h.1 i).trans (k.1 i),fun i=>(h.2 i).trans (k.2 i)⟩
theorem OF.put(h:OF s t)(d:Nat)(x:D):OF (s.put d x) (t.put d x):=⟨fun i=>by simp only[St.put,Aj];split;rfl;exact h.1 i,h.2⟩
theorem OF.bind(h:OF s t)(d:Nat)(x:Blk):OF (s.bind d x) (t.bind d x):=⟨h.1,fun i=>by simp only[St.bind,Aa];split;rfl;exact h.2 i⟩
theorem OF.setB(h:OF s t)(d:Nat)(x:Blk):OF (s.setB d x) (t.setB d x):=⟨h.1,fun i=>by simp only[St.setB,C3,h.2]⟩
theorem OF.names(hs:OF s t):names t.sto=names s.sto:=by funext m;simp only[Dl.names,hs.2]
theorem Rel.sim{GL:List (Nat×List I)}{n:Nat}{S:Sh}{M:Mem}{μ:Place}{st st':St}{a:Act}{w:World}(h:Rel GL n S M μ st a w)(hs:OF st st'):Rel GL n S M μ st' a w:=by have hn:=hs.names;exact{toStoOk:={sub:=h.sub,blk:=fun nm b hb=>by rw[hn];exact h.blk nm b (by rw[hs.2];exact hb),sep:=fun nm nm' k k' ji h1 h2=>h.sep nm nm' k k' ji (by rw[<-hn];exact h1) (by rw[<-hn];exact h2),low:=h.low},small:=h.small,pin:=h.pin,defers:=h.defers,size:=h.size,env:=fun s=>by rw[hn,<-hs.1];exact h.env s,glob:=h.glob}
def Jv(st:St):Prop:=(∀s,∀nm∈(Aj st.env s).nms,names st.sto nm)/\∀nm b,Aa st.sto nm=some b->∀m∈b.nms,names st.sto m
theorem Rel.closed{GL:List (Nat×List I)}{n:Nat}{S:Sh}{M:Mem}{μ:Place}{st:St}{a:Act}{w:World}(h:Rel GL n S M μ st a w):Jv st:=by
 refine⟨fun s nm hn=>(h.env s).name nm hn,fun nm b hg m hm=>?_⟩;cases b with
 |cells cs=>obtain⟨b,vs,t,_,_,hs,hr⟩:=h.blk nm _ hg;obtain⟨d,hd,hdm⟩:=List.mem_flatMap.1 hm;obtain⟨j,hj,rfl⟩:=List.mem_iff_getElem.1 hd;exact(hr j hj (by omega)).name m hdm
 |lp l q cs=>obtain⟨vs,_,_,hs,hr⟩:=h.blk nm _ hg;obtain⟨d,hd,hdm⟩:=List.mem_flatMap.1 hm;obtain⟨j,hj,rfl⟩:=List.mem_iff_getElem.1 hd;exact(hr j hj (by omega)).name m hdm
 |gmap ls clk es=>obtain⟨b,xs,_,_,he,_⟩:=h.blk nm _ hg;obtain⟨d,hd,hdm⟩:=List.mem_flatMap.1 hm;obtain⟨j,hj,rfl⟩:=List.mem_iff_getElem.1 hd;exact(he.2 j hj (by rw[he.1];exact hj)).2.2.name m hdm
 |_=>simp[Blk.nms]at hm
theorem Jv.sim(h:Jv s)(hs:OF s t):Jv t:=
 ⟨fun i nm hn=>by rw[hs.names];exact h.1 i nm (by rw[hs.1];exact hn),fun nm b hg m hm=>by rw[hs.names];exact h.2 nm b (by rw[hs.2];exact hg) m hm⟩
section
variable (P:Program)(GL:List (Nat×List I))(sn:List Nat)
def looks:Ins->Bool
 |.load _ _ _ _|.ia _ _ _ _|.slc _ _ _ _ _=>true
 |_=>false
def HH:Ins->Bool
 |.lookup _ _ _ _ _ _|.lenm _ _=>true
 |_=>false
def Is1(P:Program)(GL:List (Nat×List I))(f:FuncId)(ds:List D)(y:I):Prop:=MC P GL f ds [] [] fun r s=>r=.i y/\s=[]
def B2(ins:Ins)(x:Option I)(st:St):Prop:=
 match ins with
 |.call _ f args=>(args.all fun o=>Ja (A8 GL st o))=true/\∃y,x=some y/\Is1 P GL f (args.map (A8 GL st)) y
 |.callv _ fo args=>Ja (A8 GL st fo)=true/\(args.all fun o=>Ja (A8 GL st o))=true/\∃p y,EQ (A8 GL st fo) (args.map (A8 GL st))=some p/\x=some y/\Is1 P GL p.1 p.2 y
 |.alloc d zs=>Aa st.sto d=none/\(zs.map D.i).all EP=true
 |.mupd ox oq ov ls=>match A8 GL st ox,A8 GL st oq,A8 GL st ov with
  |.ref (.mp nm),.i q,.i _=>AB ls q=true/\match Aa st.sto nm with
   |some (.map ls' _)=>ls'=ls
   |_=>False
  |_,_,_=>False
 |.store ox ov k=>match A8 GL st ox with
  |.ref (.loc nm off)=>nm∈sn/\match Aa st.sto nm with
   |some (.cells cs)=>(Bh (A8 GL st ov)).length=k/\(Bh (A8 GL st ov)).all EP=true/\off+k<=cs.length
   |_=>False
  |_=>False
 |ins=>(BW ins).isSome/\(pv (A8 GL st) (Aa st.sto) ins).2/\(looks ins=true->∀o∈BQ ins,∀nm∈(A8 GL st o).nms,nm∉sn)
def Ev(ins:Ins)(x:Option I)(st:St):St:=
 match ins with
 |.call d _ _=>match d,x with
  |some s,some y=>st.put s (.i y)
  |_,_=>st
 |.callv d _ _=>match d,x with
  |some s,some y=>st.put s (.i y)
  |_,_=>st
 |.mupd ox oq ov ls=>match A8 GL st ox,A8 GL st oq,A8 GL st ov with
  |.ref (.mp nm),.i q,.i u=>match Aa st.sto nm with
   |some (.map _ es)=>st.setB nm (.map ls (Ee es q u))
   |_=>st
  |_,_,_=>st
 |.alloc d zs=>(st.bind d (.cells (zs.map .i))).put d (.ref (.loc d 0))
 |.store ox ov _=>match A8 GL st ox with
  |.ref (.loc nm off)=>match Aa st.sto nm with
   |some (.cells cs)=>st.setB nm (.cells (setL cs off (Bh (A8 GL st ov))))
   |_=>st
  |_=>st
 |ins=>match BW ins with
  |some d=>st.put d (pv (A8 GL st) (Aa st.sto) ins).1
  |none=>st
def BC(g:Option (Nat×Bool))(st:St):Option Bool:=
 match g with
 |none=>some true
 |some (s,want)=>match Aj st.env s with
  |.i (.bool b)=>some (b==want)
  |.i .undef=>some false
  |_=>none
abbrev X:=GI×Option I
def Ck(g:X)(st:St):Prop:=match BC g.1.gd st with
 |none=>False
 |some true=>B2 P GL sn g.1.ins g.2 st
 |some false=>True
def BD(g:X)(st:St):St:=match BC g.1.gd st with
 |some true=>Ev GL g.1.ins g.2 st
 |_=>BF g.1.ins st
def Ef:List X->St->(St->Prop)->Prop
 |[],st,K=>K st
 |g::r,st,K=>Ck P GL sn g st/\Ef r (BD GL g st) K
def Gt:O->List Nat
 |.t n=>[n]
 |_=>[]
def C5(g:GI):List Nat:=(match g.gd with|some (s,_)=>[s]|none=>[])++(BQ g.ins).flatMap Gt
def Ip:Ins->Bool
 |.store _ _ _=>true
 |_=>false
def G6:Ins->Bool
 |.mupd _ _ _ _=>true
 |_=>false
def O5(a b:GI):Bool:=
 (match a.ins.dst with|some d=>!(C5 b).contains d&&b.ins.dst !=some d|none=>true)&&(match b.ins.dst with|some d=>!(C5 a).contains d|none=>true)&&!(Ip a.ins&&Ip b.ins)&&!(G6 a.ins&&(G6 b.ins||HH b.ins))&&!(G6 b.ins&&HH a.ins)
end
section
variable {P:Program}{GL:List (Nat×List I)}{sn:List Nat}
theorem Tv(h:OF s t):A8 GL s=A8 GL t:=by funext o;cases o<;>simp[A8,h.1]
theorem XB(h:OF s t)(g:Option (Nat×Bool)):BC g s=BC g t:=by
 cases g with
 |none=>rfl
 |some p=>simp only[BC,h.1]
theorem kL(h:OF s t)(ins:Ins)(x:Option I):B2 P GL sn ins x s↔B2 P GL sn ins x t:=by have e:Aa s.sto=Aa t.sto:=funext h.2;have eo:A8 GL s=A8 GL t:=Tv h;simp_all[B2]
theorem kM(h:OF s t)(ins:Ins)(x:Option I):OF (Ev GL ins x s) (Ev GL ins x t):=by
 have e:Aa s.sto=Aa t.sto:=funext h.2;cases ins<;>simp only[Ev,Tv h,e]
 case alloc=>exact(h.bind _ _).put _ _
 case store=>split;split;exact h.setB _ _;exact h;exact h
 case mupd=>split;split;exact h.setB _ _;exact h;exact h
 case call=>split;exact h.put _ _;exact h
 case callv=>split;exact h.put _ _;exact h
 all_goals first|(split;exact h.put _ _;exact h)|exact h
theorem kN(h:OF s t)(ins:Ins):OF (BF ins s) (BF ins t):=by unfold BF;split;exact h.put _ _;exact h
theorem kO(h:OF s t)(g:X):Ck P GL sn g s↔Ck P GL sn g t:=by grind[Ck,XB,kL]
theorem kP(h:OF s t)(g:X):OF (BD GL g s) (BD GL g t):=by grind[BD,XB,kM,kN]
theorem QL:∀(l:List X) {s t:St} {K:St->Prop},OF s t->Ef P GL sn l s K->Ef P GL sn l t (fun u=>∃v,K v/\OF v u)
 |[],s,t,K,h,hr=>⟨s,hr,h⟩
 |g::r,s,t,K,h,hr=>⟨(kO h g).1 hr.1,QL r (kP h g) hr.2⟩
theorem KB:∀(l:List X) {s:St} {K K':St->Prop},(∀u,K u->K' u)->Ef P GL sn l s K->Ef P GL sn l s K'
 |[],s,K,K',h,hr=>h _ hr
 |g::r,s,K,K',h,hr=>⟨hr.1,KB r h hr.2⟩
end
end Go.Dl
end
