/-
  Lemmas, no statement.
-/
import Derived.Test.YtojgbkiejjingaaGreatDoorK13
set_option linter.all false
namespace Go.Dl
open Go Go.RowKit
section
variable {P:Program}{GL:List (Nat×List I)}{n:Nat}{S:Sh}{M:Mem}{μ:Place}{st:St}{a:Act}{w:World}{K:St->Prop}{Q:Exit->Act->World->Prop}{o:Oper}{d:Nat}
theorem NJ {t:TypeId}{ls:List LK}(hk:Dc P t=some ls){q:I}{v:Value}(hr:Rep M q v)(hf:Au ls q=true){β:Type}{es:List (I×β)}{xs:List MapEntry}(h:JK M xs es)(qu:∀e∈es,Au ls e.1=true):
  (Instr.findKey t v xs).run P w=.ok ((Dd es q).bind fun j=>(xs[j]?).map fun x=>(j,x.val)) w:=by
 have hag:∃dsc,P.underlying t=some dsc:=by grind[Dc,Eh]
 obtain⟨dsc,hu⟩:=hag;cases hd:Hw dsc with
 |true=>rw[run_findKey_eq w (by cases dsc<;>simp[Hw]at hd<;>simp[hu])];rw[S9 hk hr hf es xs 0 h qu];simp
 |false=>have:=Ta hu hd hk hr hf es xs 0 h qu;rw[MapKept.run_findKey hu this];simp
theorem NL{β:Type}{es:List (I×β)}{q:I}{j:Nat}(h:Dd es q=some j):j<es.length:=(List.findIdx?_eq_some_iff_findIdx_eq.1 h).1
theorem ZU(es:List (I×I))(q:I):FG es q=(Dd es q).bind fun j=>(es[j]?).map (·.2):=by
 unfold FG Dd
 induction es with
 |nil=>rfl
 |cons e es ih=>
  simp only[List.find?_cons,List.findIdx?_cons];cases hb:(A1 e.1==A1 q)with
  |true=>simp
  |false=>simp only[Bool.false_eq_true,if_false];rw[ih];cases es.findIdx? fun e=>A1 e.1==A1 q<;>simp
theorem ZV(es:List (I×I))(q u:I):Dp es q u=match Dd es q with|some j=>es.set j (q,u)|none=>es++[(q,u)]:=by
 unfold Dd
 induction es with
 |nil=>rfl
 |cons e es ih=>grind[Dp,A1]
theorem ZW{t k e:TypeId}{ls:List LK}(hu:P.underlying t=some (.map k e))(hk:Dc P k=some ls){i:TypeInfo}{z:Value}{zi:I}(hi:P.info? e=some i)(hz:i.zero=some z)(w9:Rep M zi z){q:I}{kv:Value}(hr:Rep M q kv)(hf:Au ls q=true)
  {X:Value}{xs:List MapEntry}{es:List (I×I)}(hX:(X=.map none/\xs=[])\/∃b clk,X=.map (some b)/\w.heap[b]? =some (.map xs.toArray clk))(h:DV M xs es)(qu:∀e∈es,Au ls e.1=true)(ok:Bool):
  ∃V,(Instr.lookup t X kv ok).run P w=.ok V w/\Rep M (CB es q zi ok) V:=by
 have hck:=NI (P:=P) (w:=w) hk hr hf;have we:=NJ (P:=P) (w:=w) hk hr hf h.keys qu;have fin:∀(v:Value) (bb:Bool),bb=(FG es q).isSome->Rep M ((FG es q).getD zi) v->(Instr.lookup t X kv ok).run P w=.ok (if ok then .tuple #[v,.bool bb]else v) w->∃V,(Instr.lookup t X kv ok).run P w=.ok V w/\Rep M (CB es q zi ok) V:=fun v bb hbb hv jg=>by
  refine⟨_,jg,?_⟩;subst hbb;unfold CB;cases ok with
  |true=>simp only[if_true];exact Rep.tup' (Ai.cons hv (Ai.cons (.bool _) (Ai.nil M)))
  |false=>simpa using hv
 have hmg:=ZU es q;cases hm:Dd es q with
 |none=>
  rw[hm]at hmg we;simp only[Option.bind_none]at hmg we;refine fin z false (by rw[hmg];rfl) (by rw[hmg];exact w9) ?_;rcases hX with⟨rfl,rfl⟩|⟨b,clk,rfl,hb⟩
  ·simp[Instr.lookup,run_underlying hu,hck,we,zeroValue,typeInfo,hi,hz]
  ·simp[Instr.lookup,run_underlying hu,MapKept.run_getObj_map hb,hck,we,zeroValue,typeInfo,hi,hz]
 |some j=>
  have hj:=NL hm;have jt:j<xs.length:=by rw[h.1];exact hj
  rw[hm]at hmg we;simp only[Option.bind_some,List.getElem?_eq_getElem hj,List.getElem?_eq_getElem jt,Option.map_some]at hmg we;refine fin xs[j].val true (by rw[hmg];rfl) (by rw[hmg];exact(h.2 j hj jt).2) ?_;rcases hX with⟨rfl,rfl⟩|⟨b,clk,rfl,hb⟩
  ·simp at jt
  ·simp[Instr.lookup,run_underlying hu,MapKept.run_getObj_map hb,hck,we]
theorem Tb(h:Rel GL n S M μ st a w){t k e:TypeId}{x ix:Operand}{ox oi:O}{ok:Bool}{ls:List LK}{i:TypeInfo}{z:Value}{zi:I}(ho:o.op=.lookup t x ix ok)(hd:o.dst=some d)(hn:d<n)(hx:cO GL x=some ox)(wo:cO GL ix=some oi)
  (hu:P.underlying t=some (.map k e))(hk:Dc P k=some ls)(hi:P.info? e=some i)(hz:i.zero=some z)(hc:Cb z=some zi)(hs:step P GL (.lookup d ox oi zi ok ls) st K):o.wpX P a w (Ar GL n S M w K) Q:=by
 have hr:=AB h hx;have qf:=AB h wo;simp only[step]at hs;generalize AL GL st ox=V at hr hs;generalize AL GL st oi=U at qf hs;cases U with
 |i q=>
  obtain⟨hf,hs⟩:=hs;have qf:=AK qf;have go:∀{xs:List MapEntry} {es:List (I×I)},((a.eval x=.map none/\xs=[])\/∃b clk,a.eval x=.map (some b)/\w.heap[b]? =some (.map xs.toArray clk))->DV M xs es->(∀e∈es,Au ls e.1=true)->
    K (st.put d (.i (CB es q zi ok)))->o.wpX P a w (Ar GL n S M w K) Q:=fun hX he qu hK=>by
   obtain⟨v,jg,hv⟩:=ZW (P:=P) hu hk hi hz (Eg hc) qf hf hX he qu ok;exact A2 h hd hn (by simp only[execOp,ho,Sem.run_bind,jg,Result.andThen_ok,Sem.run_pure]) (AG hv) hK
  split at hs
  ·have hr:=AK hr;generalize hX:a.eval x=X at hr;cases hr;exact go (xs:=[]) (es:=[]) (.inl ⟨hX,rfl⟩) ⟨rfl,fun j hj=>by simp at hj⟩ (by simp) hs
  ·rename_i es;obtain⟨qu,hs⟩:=hs;have hr:=AK hr;generalize hX:a.eval x=X at hr;cases hr with
   |map _ b xs clk hm hl hb jn hv=>exact go (xs:=xs) (.inr ⟨b,clk,hX,h.sub.2 _ _ hm⟩) ⟨hl,fun j h1 h2=>⟨jn j h1,hv j h1⟩⟩ qu hs
  ·rename_i nm;obtain⟨hN,b,hμ,hX⟩:=hr;unfold E3 at hs;split at hs
   ·rename_i ls' es hg;obtain⟨rfl,hs⟩:=hs;obtain⟨b',xs,clk,hμ',jd,he,hbb,qu⟩:=h.blk nm _ hg;rw[hμ]at hμ';cases hμ';exact go (xs:=xs.toList) (.inr ⟨b,clk,hX,by simpa using jd.heap⟩) he qu hs
   ·exact hs.elim
  ·exact hs.elim
 |_=>exact hs.elim
theorem ZX(h:Rel GL n S M μ st a w){t:TypeId}{r:Option Operand}{ls:List LK}(ho:o.op=.makeMap t r)(hr:r=none)(hd:o.dst=some d)(hn:d<n)(hs:step P GL (.mkmap d ls) st K):o.wpX P a w (Ar GL n S M w K) Q:=by
 subst hr;have key:∀st0:St,Rel GL n S M μ st0 a w->Ac st0.sto d=none->K ((st0.bind d (.map ls [])).put d (.ref (.mp d)))->o.wpX P a w (Ar GL n S M w K) Q:=fun st0 h jo hs=>by
  have h0:Rel GL n S M μ st0 a (w.alloc (.map #[] 0)):=h.of (h.toStoOk.alloc _) (Mem.le_refl _) fun _ _ hv=>hv
  have h2:Rel GL n S M (Bj μ d (.map (some w.heap.size))) (st0.bind d (.map ls [])) a (w.alloc (.map #[] 0)):=by
   refine h0.bindName jo hn ⟨w.heap.size,#[],0,Bb _ _ _,⟨fun hS=>by have:=h.low _ hS;omega,E1 w _,Mem.unk_new h.sub (Nat.le_refl _)⟩,⟨rfl,fun j hj=>by simp at hj⟩,⟨by simp,by simp⟩,by simp⟩ fun m k hm hk=>?_
   have:=(h.toStoOk.lt hm hk).1;simp only[An];intro e;cases e;omega
  refine BK (v:=.map (some w.heap.size)) (w':=w.alloc (.map #[] 0)) ?_ ⟨_,hs,M,_,by rw[hd];exact h2.put hn ⟨DG,w.heap.size,Bb _ _ _,rfl⟩,MExt.refl _ _,EC w _ h.low⟩;simp[execOp,ho,Instr.makeMap]
 simp only[step,Ix]at hs;split at hs
 ·rename_i jo;exact key st h jo hs
 ·rename_i b hb;exact key _ (h.drop (nm:=d) (by simp[names,hb])) (by simp[St.frz,Ij]) hs
theorem Tc{l:LK}{x y:I}{v u:Value}(hx:Rep M x v)(hy:Rep M y u)(hfx:A6 l x=true)(xh:A6 l y=true)(he:CZ x=CZ y)(n:Nat):Instr.sameBits n v u=true:=by
 cases l<;>cases x<;>simp[A6]at hfx<;>cases y<;>simp[A6]at xh<;>simp[CZ]at he
 ·subst he;rw[E6 hx,E6 hy];simp[Instr.sameBits]
 ·obtain⟨rfl,rfl⟩:=he;rw[CC hx,CC hy];simp[Instr.sameBits]
 ·subst he;rw[FJ hx,FJ hy];simp[Instr.sameBits,MapKept.bytes_beq]
theorem Td{n:Nat}:∀{ls:List LK} {xs ys:List I} {vs us:List Value},Ai M xs vs->Ai M ys us->Ay ls xs=true->Ay ls ys=true->xs.map CZ=ys.map CZ->((vs.zip us).all fun p=>Instr.sameBits n p.1 p.2)=true
 |[],[],[],vs,us,h1,h2,_,_,_=>by have:vs=[]:=List.eq_nil_of_length_eq_zero h1.1;simp_all
 |l::ls,x::xs,y::ys,v::vs,u::us,h1,h2,f1,f2,he=>by
  simp only[Ay,Bool.and_eq_true]at f1 f2;simp only[List.map_cons,List.cons.injEq]at he;simp only[List.zip_cons_cons,List.all_cons,Bool.and_eq_true];exact⟨Tc (h1.2 0 (by simp) (by simp)) (h2.2 0 (by simp) (by simp)) f1.1 f2.1 he.1 n,
   Td ⟨by simpa using h1.1,fun j a b=>h1.2 (j+1) (by simp;omega) (by simp;omega)⟩ ⟨by simpa using h2.1,fun j a b=>h2.2 (j+1) (by simp;omega) (by simp;omega)⟩ f1.2 f2.2 he.2⟩
 |l::ls,x::xs,y::ys,[],us,h1,_,_,_,_=>by rfl
 |l::ls,x::xs,y::ys,v::vs,[],_,h2,_,_,_=>by rfl
 |[],_::_,_,_,_,_,_,f,_,_=>by grind[Ay]
 |[],[],_::_,_,_,_,_,_,f,_=>by grind
 |_::_,[],_,_,_,_,_,f,_,_=>by grind[Ay]
 |_::_,_::_,[],_,_,_,_,_,f,_=>by grind
theorem Te{ls:List LK}{q q':I}{v v':Value}(hr:Rep M q v)(wb:Rep M q' v')(hf:Au ls q=true)(hf':Au ls q'=true)(he:A1 q=A1 q'):Instr.sameBits 10000 v v'=true:=by
 have je:=congrArg List.length he;have one:∀x y:I,cellsI x=[x]->cellsI y=[y]->q=x->q'=y->(∃l,ls=[l]/\A6 l x=true/\A6 l y=true)->Instr.sameBits 10000 v v'=true:=fun x y e1 e2 e3 e4 ⟨l,_,f1,f2⟩=>by subst e3;subst e4;simp only[A1,e1,e2,List.map_cons,List.map_nil,List.cons.injEq,and_true]at he;grind[Tc]
 cases ls with
 |nil=>cases q<;>simp[Au,Ay]at hf
 |cons l r=>
  by_cases hg:l=.g
  ·subst hg;cases q<;>simp[Au]at hf;cases q'<;>simp[Au]at hf';obtain⟨vs,rfl,h1⟩:=hr.agg_inv;obtain⟨us,rfl,h2⟩:=wb.agg_inv;have:=Td (n:=9999) h1 h2 hf hf' he;have js:vs.size=us.size:=by have a1:=h1.1;have a2:=h2.1;grind[A1,cellsI]
   show Instr.sameBits (9999+1) _ _=true;simp only[Instr.sameBits,js,beq_self_eq_true,Bool.true_and];exact this
  ·have sing:∀x:I,(∀cs,x≠.agg cs)->Au (l::r) x=true->r=[]/\A6 l x=true:=fun x hx hfx=>by
    have:Ay (l::r) [x]=true:=by cases x<;>first|(exact absurd rfl (hx _))|(cases l<;>first|exact hfx|exact absurd rfl hg)
    grind[Ay]
   have nag:∀x:I,Au (l::r) x=true->∀cs,x≠.agg cs:=fun x hx cs e=>by simp_all[Au]
   obtain⟨rfl,f1⟩:=sing q (nag q hf) hf;obtain⟨_,f2⟩:=sing q' (nag q' hf') hf';have c1:cellsI q=[q]:=by have:=nag q hf;cases q<;>first|rfl|exact absurd rfl (this _)
   have c2:cellsI q'=[q']:=by have:=nag q' hf';cases q'<;>first|rfl|exact absurd rfl (this _)
   grind
theorem Tf{β:Type}{es:List (I×β)}{q:I}{j:Nat}(h:Dd es q=some j)(hj:j<es.length):A1 (es[j]).1=A1 q:=by have:=(List.findIdx?_eq_some_iff_getElem.1 h).2.1;grind
def putObj(w:World)(b:Nat)(ob:Obj):World:={w with heap:=w.heap.setIfInBounds b ob}
theorem L6{w:World}{b:Nat}{o1 o2:Obj}(h:w.heap[b]? =some o1):(putObj w b o2).heap[b]? =some o2:=by grind[putObj]
theorem KM{w:World}{b k:Nat}{o2:Obj}(h:k≠b):(putObj w b o2).heap[k]? =w.heap[k]? :=by grind[putObj]
theorem putObj_size(w:World)(b:Nat)(o2:Obj):(putObj w b o2).heap.size=w.heap.size:=by simp[putObj]
theorem L7{S:Nat->Prop}(w:World)(b:Nat)(o2:Obj)(h:¬S b):Keeps S w (putObj w b o2):=
 ⟨rfl,rfl,rfl,by rw[putObj_size];exact Nat.le_refl _,fun k hk=>KM fun e=>h (e▸hk),Nat.le_refl _⟩
theorem Tg{xs:Array MapEntry}{clk:Nat}(h:FC xs.toList clk)(k v:Value):FC (xs.push {key:=k,val:=v,born:=clk}).toList (clk+1):=by
 obtain⟨h1,h2⟩:=h;simp only[Array.toList_push];refine⟨?_,fun e he=>?_⟩
 all_goals grind
theorem PW{xs:Array MapEntry}{clk:Nat}(h:FC xs.toList clk)(j:Nat)(f:MapEntry->MapEntry)(hf:∀e,(f e).born=e.born):FC (xs.modify j f).toList clk:=by
 have e:(xs.modify j f).toList.map (·.born)=xs.toList.map (·.born):=by apply List.ext_getElem?;grind
 refine⟨by rw[e];exact h.1,fun x hx=>?_⟩;have:x.born∈(xs.modify j f).toList.map (·.born):=List.mem_map.2 ⟨x,hx,rfl⟩;rw[e]at this;obtain⟨y,hy,hyb⟩:=List.mem_map.1 this;rw[<-hyb];exact h.2 y hy
theorem Th(h:Rel GL n S M μ st a w){t k e:TypeId}{x ix y:Operand}{ox oi oy:O}{ls:List LK}(ho:o.op=.mapUpdate t x ix y\/o.op=.insert t x ix y)(hd:o.dst=none)(hx:cO GL x=some ox)(wo:cO GL ix=some oi)(hy:cO GL y=some oy)
  (hu:P.underlying t=some (.map k e))(hk:Dc P k=some ls)(hs:step P GL (.mupd ox oi oy ls) st K):o.wpX P a w (Ar GL n S M w K) Q:=by
 have hr:=AB h hx;have qf:=AB h wo;have zD:=AB h hy;simp only[step,Gr]at hs;split at hs
 ·rename_i nm q u e1 e2 e3;rw[e1]at hr;rw[e2]at qf;rw[e3]at zD;have qf:=AK qf;have zD:=AK zD;obtain⟨hf,hs⟩:=hs;obtain⟨hN,b,hμ,hX⟩:=hr;unfold Hg at hs;split at hs
  ·rename_i ls' es hg;obtain⟨rfl,hs⟩:=hs;obtain⟨b',xs,clk,hμ',jd,he,hbb,qu⟩:=h.blk nm _ hg;rw[hμ]at hμ';cases hμ';have hck:=NI (P:=P) (w:=w) hk qf hf false;have we:=NJ (P:=P) (w:=w) hk qf hf he.keys qu;have fin:∀(xs':Array MapEntry) (clk':Nat),(Instr.mapUpdate t (a.eval x) (a.eval ix) (a.eval y)).run P w=.ok () (putObj w b (.map xs' clk'))->DV M xs'.toList (Dp es q u)->FC xs'.toList clk'->(∀e∈Dp es q u,Au ls' e.1=true)->o.wpX P a w (Ar GL n S M w K) Q:=fun xs' clk' jg q1 q2 q3=>by
    have vq:=L7 w b (.map xs' clk') jd.low;refine LY (w':=putObj w b (.map xs' clk')) ?_ ⟨_,hs,M,μ,?_,MExt.refl _ _,vq⟩
    ·rcases ho with ho|ho<;>simp only[execOp,ho,Sem.run_bind,jg,Result.andThen_ok,Sem.run_pure]
    ·rw[hd];exact h.setBlk hg (by rw[hμ];rfl) vq.size (fun k hk _=>KM hk) ⟨b,xs',clk',hμ,⟨jd.low,L6 jd.heap,jd.unk⟩,q1,q2,q3⟩
   have hm:=ZV es q u;cases hj:Dd es q with
   |none=>
    rw[hj]at hm we;simp only at hm;rw[hm]at fin;refine fin (xs.push {key:=a.eval ix,val:=a.eval y,born:=clk}) (clk+1) ?_ ?_ (Tg hbb _ _) (fun e he=>(List.mem_append.1 he).elim (qu e) (fun q=>by simp at q;subst q;exact hf))
    ·simp only[Option.bind_none]at we;simp[Instr.mapUpdate,run_underlying hu,hX,MapKept.run_getObj_map jd.heap,hck,we,MapKept.run_setObj_map _ jd.heap,putObj]
    ·simp only[Array.toList_push];refine⟨by simp[he.1],fun j h1 h2=>?_⟩;by_cases vw:j<es.length
     ·rw[List.getElem_append_left vw,List.getElem_append_left (by rw[he.1];exact vw)];exact he.2 j vw _
     ·obtain rfl:j=es.length:=by simp at h1;omega
      rw[List.getElem_append_right (by omega),List.getElem_append_right (by rw[he.1];omega)];have hel:=he.1;simp only[Nat.sub_self,List.getElem_cons_zero,hel];exact⟨qf,zD⟩
   |some j=>
    have vw:=NL hj;have hjx:j<xs.size:=by have:=he.1;simp at this;omega
    rw[hj]at hm we;simp only at hm;rw[hm]at fin;have hj2:=he.2 j vw (by simpa using hjx);have zT:=Te hj2.1 qf (qu _ (List.getElem_mem vw)) hf (Tf hj vw);refine fin (xs.modify j fun e=>{e with key:=a.eval ix,val:=a.eval y}) clk ?_ ?_ (PW hbb _ _ (fun _=>rfl)) (fun e he=>(List.mem_or_eq_of_mem_set he).elim (qu e) (fun q=>by subst q;exact hf))
    ·simp only[Option.bind_some,Array.getElem?_toList,Array.getElem?_eq_getElem hjx,Option.map_some]at we;simp only[Array.getElem_toList]at zT;simp[Instr.mapUpdate,run_underlying hu,hX,MapKept.run_getObj_map jd.heap,hck,we,Instr.keyThatStays,hjx,zT,MapKept.run_setObj_map _ jd.heap,putObj]
    ·refine⟨by simp;simpa using he.1,fun i h1 h2=>?_⟩;simp only[Array.getElem_toList,Array.getElem_modify,List.getElem_set];by_cases hji:j=i
     ·subst hji;simp only[if_true];exact⟨qf,zD⟩
     ·rw[if_neg hji,if_neg hji];have:=he.2 i (by simpa using h1) (by simpa using h2);simpa using this
  ·exact hs.elim
 ·exact hs.elim
theorem ZY(h:Rel GL n S M μ st a w){t k e:TypeId}{x:Operand}{ox:O}(ho:o.op=.range t x)(hd:o.dst=some d)(hn:d<n)
  (hx:cO GL x=some ox)(hu:P.underlying t=some (.map k e))(hs:step P GL (.rng d ox) st K):o.wpX P a w (Ar GL n S M w K) Q:=by
 have hr:=AB h hx;simp only[step]at hs;have fin:∀(ob:Obj) (rest:List (I×I)),Ac st.sto d=none->(execOp a.eval o).run P w=.ok (.value (.pointer (some ⟨w.heap.size,0,none⟩))) (w.alloc ob)->
   (∃m since seen last,ob=.mapIter m since seen last/\((m=none/\rest=[])\/∃q xs clk,m=some q/\M.m q=some (xs,clk)/\since=clk/\last=clk/\FC xs clk/\DV M (xs.filter fun e=>!seen.contains e.born) rest))->
   K ((st.bind d (.iter none rest)).put d (.ref (.it d)))->o.wpX P a w (Ar GL n S M w K) Q:=fun ob rest jo jg hob hK=>by
  obtain⟨m,since,seen,last,rfl,hob⟩:=hob;have h0:Rel GL n S M μ st a (w.alloc (.mapIter m since seen last)):=h.of (h.toStoOk.alloc _) (Mem.le_refl _) fun _ _ hv=>hv
  have h2:Rel GL n S M (Bj μ d (.pointer (some ⟨w.heap.size,0,none⟩))) (st.bind d (.iter none rest)) a (w.alloc (.mapIter m since seen last)):=by
   refine h0.bindName jo hn ⟨w.heap.size,m,since,seen,last,Bb _ _ _,⟨fun hS=>by have:=h.low _ hS;omega,E1 w _,Mem.unk_new h.sub (Nat.le_refl _)⟩,?_⟩ fun m k hm hk=>?_
   ·rcases hob with⟨q1,q2⟩|⟨q,xs,clk,q1,q2,q3,q4,q5,q6⟩
    ·exact .inl ⟨q1,q2,rfl⟩
    ·exact .inr ⟨q,xs,clk,q1,q2,q3,q4,q5,q6,fun c hc=>by cases hc⟩
   have:=(h.toStoOk.lt hm hk).1;simp only[An];intro e;cases e;omega
  exact BK jg ⟨_,hK,M,_,by rw[hd];exact h2.put hn ⟨DG,w.heap.size,Bb _ _ _,rfl⟩,MExt.refl _ _,EC w _ h.low⟩
 unfold Iy at hs;split at hs
 ·rename_i jo e1;rw[e1]at hr;have hr:=AK hr;generalize hX:a.eval x=X at hr;cases hr;refine fin (.mapIter none 0 #[] 0) [] jo ?_ ⟨_,_,_,_,rfl,.inl ⟨rfl,rfl⟩⟩ hs;simp[execOp,ho,hX,Instr.range,run_underlying hu w]
 ·rename_i es jo e1;rw[e1]at hr;have hr:=AK hr;generalize hX:a.eval x=X at hr;cases hr with
  |map _ b xs clk hm hl hb jn hv=>
   refine fin (.mapIter (some b) clk #[] clk) es jo ?_ ⟨_,_,_,_,rfl,.inr ⟨b,xs,clk,rfl,hm,rfl,rfl,hb,?_⟩⟩ hs
   ·simp[execOp,ho,hX,Instr.range,run_underlying hu w,MapKept.run_getObj_map (h.sub.2 _ _ hm)]
   ·have:(xs.filter fun e=>!(#[]:Array Nat).contains e.born)=xs:=by simp
    rw[this];exact⟨hl,fun j h1 h2=>⟨jn j h1,hv j h1⟩⟩
 ·exact hs.elim
end
end Go.Dl
