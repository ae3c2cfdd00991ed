/-
  Lemmas, no statement.
-/
import Derived.Test.YtojgbkiejjingaaGreatDoorK5
set_option linter.all false
namespace Go.Dl
open Go Go.RowKit
variable{v:Value}
def Ht:Value->Option I
 |.bool b=>some (.bool b)
 |.int k n=>some (.int k n)
 |.string s=>some (.str s.data.toList)
 |.pointer none=>some .nilp
 |.slice none 0 0=>some (.sl [])
 |.nilFunc=>some .nilfn
 |.map none=>some .nilmap
 |.nilIface=>some .nilif
 |_=>none
def Cb:Value->Option I
 |.agg cs=>(cs.toList.mapM Ht).map .agg
 |v=>Ht v
theorem SA{M:Mem}{x:I}(h:Ht v=some x):Rep M x v:=by
 unfold Ht at h;split at h<;>simp at h<;>subst h
 ·exact .bool _
 ·exact .int _ _
 ·rename_i s;exact Rep.str (M:=M) s.data.toList
 ·exact .nilp
 ·exact .slnil
 ·exact .nilfn
 ·exact .nilmap
 ·exact .nilif
theorem SB{M:Mem}:∀{vs:List Value} {xs:List I},vs.mapM Ht=some xs->Ai M xs vs
 |[],xs,h=>by grind[Ai.nil]
 |v::vs,xs,h=>by
  rw[List.mapM_cons]at h;cases h1:Ht v with
  |none=>simp[h1]at h
  |some x=>
   cases h2:vs.mapM Ht with
   |none=>simp[h1,h2]at h
   |some ys=>simp[h1,h2]at h;subst h;exact Ai.cons (SA h1) (SB h2)
theorem Eg{M:Mem}{x:I}(h:Cb v=some x):Rep M x v:=by
 unfold Cb at h;split at h
 ·rename_i cs;cases h2:cs.toList.mapM Ht with
  |none=>simp[h2]at h
  |some ys=>simp[h2]at h;subst h;exact Rep.agg' (SB h2)
 ·exact SA h
def cO(GL:List (Nat×List I)):Operand->Option O
 |.tmp t=>some (.t t)
 |.const v=>(Cb v).map .c
 |.func f=>if Nat.blt f 1000000000=true then some (.f f)else none
 |.global g=>if LR GL g then some (.g g)else none
theorem Y9{GL:List (Nat×List I)}{g:Nat}(h:LR GL g=true):(g,LP GL g)∈GL:=by
 induction GL with
 |nil=>simp[LR]at h
 |cons x r ih=>grind[LR,LP]
def Pr(P:Program)(t:TypeId):Option Nat:=(P.info? t).map (·.size)
def Eh(P:Program)(t:TypeId):Option Bool:=
 match P.underlying t with
 |some (.struct _)|some (.array _ _)=>some true
 |some _=>some false
 |none=>none
theorem Ei(b o j:Nat):(⟨b,o,none⟩:Addr).add j=⟨b,o+j,none⟩:=by unfold Addr.add;split<;>simp_all
section
variable {P:Program}{GL:List (Nat×List I)}{n:Nat}{S:Sh}{M:Mem}{μ:Place}{st:St}{a:Act}{w:World}{K:St->Prop}{Q:Exit->Act->World->Prop}{o:Oper}{d:Nat}
theorem AB(h:Rel GL n S M μ st a w){x:Operand}{o:O}(hc:cO GL x=some o):Az M μ (names st.sto) (AL GL st o) (a.eval x):=by
 cases x with
 |tmp t=>simp[cO]at hc;subst hc;exact h.env t
 |const v=>simp only[cO,Option.map_eq_some_iff]at hc;obtain⟨y,hy,rfl⟩:=hc;exact Eg hy
 |global g=>
  simp only[cO]at hc;split at hc
  ·simp at hc;subst hc;exact h.glob _ _ (Y9 ‹_›)
  ·simp at hc
 |func f=>
  simp only[cO]at hc;split at hc
  ·rename_i hy;cases hc;exact Rep.fn' hy (Ai.nil M) (Ai.nil M)
  ·cases hc
theorem KL(h:Rel GL n S M μ st a w):∀{xs:List Operand} {os:List O},xs.mapM (cO GL)=some os->CL M μ (names st.sto) (os.map (AL GL st)) (xs.map a.eval)
 |[],os,hc=>by simp at hc;subst hc;exact⟨rfl,fun j hj=>by simp at hj⟩
 |x::xs,os,hc=>by
  rw[List.mapM_cons]at hc;cases h1:cO GL x with
  |none=>simp[h1]at hc
  |some o=>
   cases h2:xs.mapM (cO GL)with
   |none=>simp[h1,h2]at hc
   |some os'=>simp[h1,h2]at hc;subst hc;obtain⟨q1,q2⟩:=KL h h2;refine⟨by simp at q1⊢;exact q1,fun j hj jt=>?_⟩;grind[AB]
theorem LX{x:D}{N:Nat->Prop}(h:Az M μ N x v)(hi:G5 x=true):Rep M (FB x) v:=by cases x<;>simp[G5]at hi;exact h
abbrev Ar(GL:List (Nat×List I))(n:Nat)(S:Sh)(M:Mem)(w:World)(K:St->Prop):Act->World->Prop:=fun a' w'=>∃st',K st'/\vN GL n S M w st' a' w'
def _root_.Go.Oper.wpX(P:Program)(o:Oper)(a:Act)(w:World)(next:Act->World->Prop)(Q:Exit->Act->World->Prop):Prop:=
 o.uponIn Fence.wide 0 P a next Q ((execOp a.eval o).run P w)
theorem BK{w':World}(hr:(execOp a.eval o).run P w=.ok (.value v) w')(h:Ar GL n S M w K (a.put o.dst v) w'):o.wpX P a w (Ar GL n S M w K) Q:=by unfold Oper.wpX;rw[hr];exact h
theorem LY{w':World}(hr:(execOp a.eval o).run P w=.ok .skip w')(h:Ar GL n S M w K (a.put o.dst Go.undef) w'):o.wpX P a w (Ar GL n S M w K) Q:=by unfold Oper.wpX;rw[hr];exact h
theorem A2{x:D}(h:Rel GL n S M μ st a w)(hd:o.dst=some d)(hn:d<n)(hr:(execOp a.eval o).run P w=.ok (.value v) w)(hx:Az M μ (names st.sto) x v)(hk:K (st.put d x)):o.wpX P a w (Ar GL n S M w K) Q:=
 BK hr ⟨_,hk,M,μ,by rw[hd];exact h.put hn hx,MExt.refl _ _,Keeps.refl _ _⟩
theorem EF {t:TypeId}{k:Nat}(h:Pr P t=some k)(w:World):(sizeOf t).run P w=.ok k w:=by
 unfold Pr at h;cases hi:P.info? t with
 |none=>simp[hi]at h
 |some i=>simp[hi]at h;subst h;simp[sizeOf,typeInfo,hi]
theorem NF {t:TypeId}{b:Bool}(h:Eh P t=some b)(w:World):(isAgg t).run P w=.ok b w:=by
 unfold Eh at h;unfold isAgg;rw[Sem.run_bind];split at h<;>rename_i hu<;>first
  |(cases h;done)
  |(simp only[Option.some.injEq]at h;subst h
    rw[run_underlying hu w];first|rfl|(simp only[Result.andThen_ok];rfl))
theorem LZ{t:TypeId}{k:Nat}{ag:Bool}{b oo:Nat}(hk:Pr P t=some k)(ha:Eh P t=some ag)(k6:ag=false->k=1){f:Nat->Value}(hc:∀j,j<k->w.cell? ⟨b,oo+j,none⟩=some (f j)):
  (loadVar t ⟨b,oo,none⟩).run P w=.ok (if ag then .agg ((List.range k).map f).toArray else f 0) w:=by
 cases ag with
 |true=>
  have hl:(loadCells ⟨b,oo,none⟩ k).run P w=.ok ((List.range k).map f).toArray w:=run_loadCells w _ k _ fun j hj=>by grind[Ei]
  simp only[loadVar,Sem.run_bind,NF ha,Result.andThen_ok,if_true,EF hk,hl,Sem.run_pure]
 |false=>obtain rfl:=k6 rfl;have:=hc 0 (by omega);rw[Nat.add_zero]at this;simp only[loadVar,Sem.run_bind,NF ha,Result.andThen_ok,run_load,this,if_false,Bool.false_eq_true]
theorem Py{cs:List I}{off k:Nat}{ag:Bool}{f:Nat->Value}(k6:ag=false->k=1)(ji:off+k<=cs.length)(hf:∀j (h:j<k),Rep M (cs[off+j]'(by omega)) (f j)):
  Rep M (pk ag cs off k) (if ag then .agg ((List.range k).map f).toArray else f 0):=by
 cases ag with
 |true=>simp only[pk,if_true];refine Rep.agg' ⟨by simp;omega,fun j h1 h2=>?_⟩;simp at h1 h2⊢;exact hf _ (by omega)
 |false=>
  obtain rfl:=k6 rfl;simp only[pk,Bool.false_eq_true,if_false];have:cs.getD off .undef=cs[off]'(by omega):=by grind
  rw[this];exact hf 0 (by omega)
theorem Za(h:Rel GL n S M μ st a w){nm:Nat}{et kk:TypeId}{rs:List (List I)}(hg:Ac st.sto nm=some (.rows et kk rs)){b oo cap row:Nat}(hμ:μ nm=.slice (some ⟨b,oo,none⟩) 0 cap)(ka:row<rs.length):
  ∃f:Nat->Value,∀j (hj:j<rs[row].length),w.cell? ⟨b,oo+row*kk+j,none⟩=some (f j)/\Rep M (rs[row][j]) (f j):=by
 obtain⟨aa,cap',e1,hh⟩:=h.blk nm _ hg;rw[hμ]at e1;injection e1 with e1 _ e2
 subst e1;subst e2;rcases hh with⟨_,rfl⟩|⟨b',o',cur,e3,hc,ho,q1,q2,q3,q4⟩
 ·simp at ka
 ·injection e3 with e3;injection e3 with e4 e5;subst e4;subst e5
  refine⟨fun j=>cur.getD (oo+row*kk+j) Go.undef,fun j hj=>?_⟩;obtain⟨v,hv,hr⟩:=q4.2 row ka j hj;have:cur.getD (oo+row*kk+j) Go.undef=v:=by simp_all
  simp only[this];exact⟨by simp[World.cell?,ho.heap,hv],hr⟩
theorem Zb(h:Rel GL n S M μ st a w){t:TypeId}{x:Operand}{ox:O}{k:Nat}{ag:Bool}(ho:o.op=.load t x)(hd:o.dst=some d)(hn:d<n)(hx:cO GL x=some ox)
  (hk:Pr P t=some k)(ha:Eh P t=some ag)(k6:ag=false->k=1)(hs:step P GL (.load d ox k ag) st K):o.wpX P a w (Ar GL n S M w K) Q:=by
 have hr:=AB h hx;have zB:∀b oo,a.eval x=.pointer (some ⟨b,oo,none⟩)->∀V,(loadVar t ⟨b,oo,none⟩).run P w=.ok V w->(execOp a.eval o).run P w=.ok (.value V) w:=fun b oo e V hV=>by simp only[execOp,ho,e,Sem.run_bind,Instr.loadAt,Instr.sureAddr,Sem.run_pure,Result.andThen_ok,hV]
 simp only[step,Gm]at hs;split at hs
 ·rename_i cs off e;rw[e]at hr;obtain⟨ji,hs⟩:=hs;have hr:=AK hr;generalize hv:a.eval x=vx at hr;cases hr with
  |elt _ _ b oo v hm hvv=>refine A2 h hd hn (zB _ _ hv _ (LZ hk ha k6 (f:=fun j=>v (off+j)) fun j hj=>?_)) (AG (Py k6 ji fun j hj=>hvv _ (by omega))) hs;rw[Nat.add_assoc];exact h.sub.1 _ _ _ (hm _ (by omega))
 ·rename_i nm off e;rw[e]at hr;obtain⟨hN,b,hμ,zX⟩:=hr;unfold Hd at hs;split at hs
  ·rename_i cs vd;obtain⟨ji,jj,hs⟩:=hs;obtain⟨b',vs,ty,hμ',jd,js,hv⟩:=h.blk nm _ vd;obtain rfl:b'=b:=by grind
   have j0:∀j (hj:j<vs.size),w.cell? ⟨b',j,none⟩=some vs[j]:=fun j hj=>by simp[World.cell?,jd.heap,hj]
   refine A2 h hd hn (zB _ _ zX _ (LZ hk ha k6 (f:=fun j=>vs.getD (off+j) Go.undef) fun j hj=>?_)) ?_ hs
   ·rw[j0 _ (by omega)];simp[show off+j<vs.size by omega]
   ·cases ag with
    |true=>
     simp only[Y4,if_true];show Rep M _ _;refine Rep.agg' ⟨by simp;omega,fun j h1 h2=>?_⟩;have hj:j<k:=by grind
     have hi:G5 (cs[off+j]'(by omega))=true:=by have:=jj rfl;simp only[Bk,List.all_eq_true]at this;exact this _ (List.mem_iff_getElem.2 ⟨j,by simp;omega,by simp⟩)
     have:=LX (hv (off+j) (by omega) (by omega)) hi;simp[show off+j<vs.size by omega];exact this
    |false=>
     obtain rfl:=k6 rfl;simp only[Y4,Bool.false_eq_true,if_false,Nat.add_zero];have:cs.getD off .any=cs[off]'(by omega):=by grind
     rw[this];have:=hv off (by omega) (by omega);simpa[show off<vs.size by omega]using this
  ·exact hs.elim
 ·rename_i nm kk row off e;rw[e]at hr;obtain⟨hN,b,oo,c,hμ,hrc,zX⟩:=hr;unfold Ju at hs;split at hs
  ·rename_i et k' rs vd;obtain⟨rfl,ka,ji,hs⟩:=hs;have hrow':rs.getD row []=rs[row]:=by grind
   rw[hrow']at ji hs;obtain⟨f,hf⟩:=Za h vd hμ ka;refine A2 h hd hn (zB _ _ zX _ (LZ hk ha k6 (f:=fun j=>f (off+j)) fun j hj=>?_)) (AG (Py k6 ji fun j hj=>(hf _ (by omega)).2)) hs;rw[Nat.add_assoc];exact(hf _ (by omega)).1
  ·exact hs.elim
 ·exact hs.elim
theorem Rep.cellsI{x:I}(h:Rep M x v):Ai M (cellsI x) v.cells.toList:=by
 cases h with
 |agg cs vs h hr=>exact⟨by simpa[Dl.cellsI,Value.cells]using h,fun j a b=>by have:=hr j a;rw[<-Array.getElem_toList]at this;exact this⟩
 |_=>exact Ai.cons (by constructor<;>assumption) (Ai.nil M)
theorem Zc(h:Rel GL n S M μ st a w){x:Operand}{ox:O}(ho:o.op=.move x\/o.op=.assign x)(hd:o.dst=some d)(hn:d<n)(hx:cO GL x=some ox)
  (hs:step P GL (.mov d ox) st K):o.wpX P a w (Ar GL n S M w K) Q:=by
 refine A2 h hd hn (v:=a.eval x) ?_ (AB h hx) hs;rcases ho with ho|ho<;>simp[execOp,ho]
theorem E6{b:Bool}(h:Rep M (.bool b) v):v=.bool b:=by cases h;rfl
theorem CC{k:IntKind}{i:Int}(h:Rep M (.int k i) v):v=.int k i:=by cases h;rfl
theorem FJ{s:List UInt8}(h:Rep M (.str s) v):v=.string (BR s):=by cases h;rfl
theorem Zd(h:Rel GL n S M μ st a w){c x y:Operand}{oc ox oy:O}(ho:o.op=.pick c x y)(hd:o.dst=some d)(hn:d<n)(hc:cO GL c=some oc)(hx:cO GL x=some ox)(hy:cO GL y=some oy)
  (hs:step P GL (.pick d oc ox oy) st K):o.wpX P a w (Ar GL n S M w K) Q:=by
 have hr:=AB h hc;simp only[step,Db]at hs;split at hs
 ·rename_i t e;rw[e]at hr;have hb:=E6 (AK hr);cases t with
  |true=>exact A2 h hd hn (v:=a.eval x) (by simp[execOp,ho,hb,asBool]) (AB h hx) (hs.1 rfl)
  |false=>exact A2 h hd hn (v:=a.eval y) (by simp[execOp,ho,hb,asBool]) (AB h hy) (hs.2 rfl)
 ·exact hs.elim
theorem Rel.bindEmpty(h:Rel GL n S M μ st a w)(jo:Ac st.sto d=none)(jl:d<n)(aa:Option Addr)(e k:Nat):Rel GL n S M (Bj μ d (.slice aa 0 0)) (st.bind d (.rows e k [])) a w:=by
 refine h.bindName jo jl ⟨aa,0,Bb _ _ _,.inl ⟨rfl,rfl⟩⟩ fun m k _ _=>?_
 cases aa<;>simp[An]
theorem Rel.bindEmptyN(h:Rel GL n S M μ st a w){nm:Nat}(jo:Ac st.sto nm=none)(hp:¬pinned nm)(aa:Option Addr)(e k:Nat):Rel GL n S M (Bj μ nm (.slice aa 0 0)) (st.bind nm (.rows e k [])) a w:=by
 refine h.bindNameN jo hp ⟨aa,0,Bb _ _ _,.inl ⟨rfl,rfl⟩⟩ fun m k _ _=>?_
 cases aa<;>simp[An]
theorem Rel.bindEmptyA(h:Rel GL n S M μ st a w){nm:Nat}(jo:Ac st.sto nm=none)(hp:¬pinned nm)(aa:Option Addr)(e k:Nat):Rel GL n S M (Bj μ nm (.slice aa 0 0)) (st.bind nm (.arr e k [])) a w:=by
 refine h.bindNameN jo hp ⟨aa,Bb _ _ _,.inl rfl⟩ fun m k _ _=>?_
 cases aa<;>simp[An]
theorem JH(aa:Option Addr)(k:Nat):LM (.slice aa 0 0) k 0 0 (.slice aa 0 0):=⟨aa,0,rfl,Nat.le_refl _,Nat.le_refl _,.inl ⟨rfl,aa,rfl⟩⟩
theorem Ze(h:Rel GL n S M μ st a w){e k:Nat}(ho:o.op=.move (.const (.slice none 0 0))\/o.op=.assign (.const (.slice none 0 0)))(hd:o.dst=some d)(hn:d<n)
  (hs:step P GL (.nils d e k) st K):o.wpX P a w (Ar GL n S M w K) Q:=by
 have qh:(execOp a.eval o).run P w=.ok (.value (.slice none 0 0)) w:=by rcases ho with ho|ho<;>simp[execOp,ho,Act.eval]
 simp only[step,Im]at hs;split at hs
 ·rename_i jo;exact BK qh ⟨_,hs,M,_,by rw[hd];exact(h.bindEmpty jo hn none e k).put hn ⟨DG,by rw[Bb];exact JH _ _⟩,MExt.refl _ _,Keeps.refl _ _⟩
 ·rename_i b hb;have hd2:Rel GL n S M μ (st.frz d (.iter none [])) a w:=h.drop (by simp[names,hb]);have jo:Ac (st.frz d (.iter none [])).sto d=none:=by simp[St.frz,Ij]
  exact BK qh ⟨_,hs,M,_,by rw[hd];exact(hd2.bindEmpty jo hn none e k).put hn ⟨DG,by rw[Bb];exact JH _ _⟩,MExt.refl _ _,Keeps.refl _ _⟩
theorem Zf(h:Rel GL n S M μ st a w){t:TypeId}{x:Operand}{ox:O}(ho:o.op=.box t x)(hd:o.dst=some d)(hn:d<n)(hx:cO GL x=some ox)
  (hs:step P GL (.box d ox) st K):o.wpX P a w (Ar GL n S M w K) Q:=by
 have hr:=AB h hx;simp only[step,Jt]at hs;split at hs
 ·rename_i y e;rw[e]at hr;have hr:Rep M y (a.eval x):=hr;obtain⟨h2,hm,hb⟩:=h.allocKnown (a.eval x).cells t;have hp:Rep (M.with w.heap.size (a.eval x).cells) (.elt (cellsI y) 0) (.pointer (some ⟨w.heap.size,0,none⟩)):=by
   have hc:=hr.cellsI.mono hm.le;refine Rep.elt _ 0 w.heap.size 0 (fun j=>(a.eval x).cells.getD j Go.undef) (fun j hj=>?_) (fun j hj=>?_)
   ·have:j<(a.eval x).cells.size:=by have:=hc.1;simp at this;omega
    simp[Mem.with,this]
   ·have hl:j<(a.eval x).cells.size:=by have:=hc.1;simp at this;omega
    have:=hc.2 j hj (by simpa using hl);simp_all
  refine BK (v:=.pointer (some ⟨w.heap.size,0,none⟩)) (w':=w.alloc (.cells (a.eval x).cells t)) ?_ ⟨_,hs,_,μ,by rw[hd];exact h2.put hn (AG hp),hm,hb⟩;simp only[execOp,ho,Instr.box,newVar,newRow,Sem.run_bind,run_newObj,Result.andThen_ok,Sem.run_pure];rfl
 ·exact hs.elim
theorem Zg(h:v.oneCell'=true):v.cells=#[v]:=by cases v<;>simp_all[Value.cells,Value.oneCell']
theorem Pz{x:D}{N:Nat->Prop}(h:Az M μ N x v)(h1:(AT x).all Da=true):
  v.cells.size=(AT x).length/\(∀j (hj:j<(AT x).length) (h':j<v.cells.size),Az M μ N ((AT x)[j]) (v.cells[j]))/\∀u∈v.cells.toList,u.oneCell'=true:=by
 have one:∀y:D,AT y=[y]->v.cells=#[v]->v.oneCell'=true->Az M μ N y v->
   v.cells.size=(AT y).length/\(∀j (hj:j<(AT y).length) (h':j<v.cells.size),Az M μ N ((AT y)[j]) (v.cells[j]))/\∀u∈v.cells.toList,u.oneCell'=true:=fun y e1 e2 e3 hy=>by
  refine⟨by rw[e1,e2];rfl,fun j hj h'=>?_,by rw[e2];simp[e3]⟩;have:j=0:=by grind
  subst this;simp only[e1,e2];exact hy
 cases x with
 |any=>simp[AT,Da]at h1
 |tup cs=>simp[AT,Da]at h1
 |i y=>
  have h:Rep M y v:=h;cases y with
  |agg cs=>
   obtain⟨vs,rfl,hl⟩:=h.agg_inv;simp only[AT,List.all_map,List.all_eq_true]at h1;refine⟨by simpa[Value.cells,AT]using hl.1,fun j hj h'=>?_,fun u hu=>?_⟩
   ·simp only[AT,List.getElem_map,Value.cells];have:=hl.2 j (by simpa[AT]using hj) (by simpa[Value.cells]using h');exact AG (by simpa using this)
   ·simp only[Value.cells]at hu;obtain⟨j,hj,rfl⟩:=List.mem_iff_getElem.1 hu;have jt:j<cs.length:=by have:=hl.1;omega
    exact(hl.2 j jt hj).oneCell (h1 _ (List.getElem_mem jt))
  |_=>have ho:=h.oneCell (by simpa[AT,Da]using h1);exact one _ rfl (Zg ho) ho h
 |ref r=>
  refine one (.ref r) rfl ?_ ?_ h
  ·cases r with
   |sl nm k lo hi=>obtain⟨_,a',c',_,_,_,h|h⟩:=h;obtain⟨_,a'',rfl⟩:=h;rfl;obtain⟨_,_,_,rfl⟩:=h;rfl
   |loc nm off=>obtain⟨_,b,_,rfl⟩:=h;rfl
   |lel nm k row off=>obtain⟨_,b,_,_,_,_,rfl⟩:=h;rfl
   |mp nm=>obtain⟨_,b,_,rfl⟩:=h;rfl
   |it nm=>obtain⟨_,b,_,rfl⟩:=h;rfl
  ·cases r with
   |sl nm k lo hi=>obtain⟨_,a',c',_,_,_,h|h⟩:=h;obtain⟨_,a'',rfl⟩:=h;rfl;obtain⟨_,_,_,rfl⟩:=h;rfl
   |loc nm off=>obtain⟨_,b,_,rfl⟩:=h;rfl
   |lel nm k row off=>obtain⟨_,b,_,_,_,_,rfl⟩:=h;rfl
   |mp nm=>obtain⟨_,b,_,rfl⟩:=h;rfl
   |it nm=>obtain⟨_,b,_,rfl⟩:=h;rfl
 |fn f first caps=>have h':=h;obtain⟨va,vb,rfl,_⟩:=h;exact one (.fn f first caps) rfl rfl rfl h'
theorem Zh(h:Rel GL n S M μ st a w){t:TypeId}{x:Operand}{ox:O}(ho:o.op=.box t x)(hd:o.dst=some d)(hn:d<n)(hx:cO GL x=some ox)
  (hs:step P GL (.boxm d ox) st K):o.wpX P a w (Ar GL n S M w K) Q:=by
 have hr:=AB h hx;simp only[step,Ee]at hs;split at hs
 ·rename_i jo;obtain⟨h1,hs⟩:=hs;obtain⟨c1,c2,c3⟩:=Pz hr h1;obtain⟨h2,hb⟩:=h.allocMut jo hn (AT (AL GL st ox)) (a.eval x).cells t c1 c2;refine BK (v:=.pointer (some ⟨w.heap.size,0,none⟩)) (w':=w.alloc (.cells (a.eval x).cells t)) ?_
   ⟨_,hs,M,_,by rw[hd];exact h2.put hn ⟨DG,w.heap.size,Bb _ _ _,rfl⟩,MExt.refl _ _,hb⟩
  simp only[execOp,ho,Instr.box,newVar,newRow,Sem.run_bind,run_newObj,Result.andThen_ok,Sem.run_pure];rfl
 ·exact hs.elim
theorem Zi(h:Rel GL n S M μ st a w){t:TypeId}{i:TypeInfo}{z:Value}{zi:I}(ho:o.op=.alloc t)(hd:o.dst=some d)(hn:d<n)(hi:P.info? t=some i)(hz:i.zero=some z)
  (hc:Cb z=some zi)(hs:step P GL (.alloc d (cellsI zi)) st K):o.wpX P a w (Ar GL n S M w K) Q:=by
 simp only[step,Ee]at hs;split at hs
 ·rename_i jo;obtain⟨_,hs⟩:=hs;have hr:Rep M zi z:=Eg hc;have vd:=hr.cellsI;obtain⟨h2,hb⟩:=h.allocMut jo hn ((cellsI zi).map .i) z.cells t (by simpa using vd.1) (fun j h1 h2=>by rw[List.getElem_map];have:=vd.2 j (by simpa using h1) (by simpa using h2);exact AG (by simpa using this))
  refine BK (v:=.pointer (some ⟨w.heap.size,0,none⟩)) (w':=w.alloc (.cells z.cells t)) ?_
   ⟨_,hs,M,_,by rw[hd];exact h2.put hn ⟨DG,w.heap.size,Bb _ _ _,rfl⟩,MExt.refl _ _,hb⟩
  simp only[execOp,ho,Instr.alloc,zeroValue,typeInfo,hi,hz,newVar,newRow,Sem.run_bind,run_newObj,Result.andThen_ok,Sem.run_pure,run_program];rfl
 ·exact hs.elim
theorem Zj(h:Rel GL n S M μ st a w){t:TypeId}{x:Operand}{ox:O}{f off:Nat}{fs:Array Field}{fl:Field}{k:Nat}(ho:o.op=.fieldAddr t x f)(hd:o.dst=some d)(hn:d<n)
  (hx:cO GL x=some ox)(hu:P.underlying t=some (.struct fs))(hf:fs[f]? =some fl)(hk:Pr P fl.type=some k)(vn:k≠0)(hoff:fl.offset=off)
  (hs:step P GL (.fa d ox off) st K):o.wpX P a w (Ar GL n S M w K) Q:=by
 have hr:=AB h hx;subst hoff;have qh:∀b oo,a.eval x=.pointer (some ⟨b,oo,none⟩)->(execOp a.eval o).run P w=.ok (.value (.pointer (some ⟨b,oo+fl.offset,none⟩))) w:=fun b oo e=>by simp only[execOp,ho,e,Instr.fieldAt,Sem.run_bind,run_underlying hu w,Result.andThen_ok,hf,Instr.sureAddr,Sem.run_pure,fieldPlace,EF hk,if_neg vn,Ei]
 simp only[step,rI]at hs;split at hs
 ·rename_i cs oo e;rw[e]at hr;have hr:=AK hr;generalize hv:a.eval x=vx at hr;cases hr with
  |elt _ _ b o' v hm hvv=>refine A2 h hd hn (qh _ _ hv) (AG ?_) hs;rw[Nat.add_assoc];exact .elt _ _ _ _ _ hm hvv
 ·rename_i nm oo e;rw[e]at hr;obtain⟨hN,b,hμ,hv⟩:=hr;exact A2 h hd hn (x:=.ref (.loc nm (oo+fl.offset))) (qh _ _ hv) ⟨hN,b,hμ,rfl⟩ hs
 ·rename_i nm kk row oo e;rw[e]at hr;obtain⟨hN,b,o',c,hμ,hrc,hv⟩:=hr;exact A2 h hd hn (x:=.ref (.lel nm kk row (oo+fl.offset))) (qh _ _ hv) ⟨hN,b,o',c,hμ,hrc,by rw[Nat.add_assoc]⟩ hs
 ·exact hs.elim
theorem Zk(h:Rel GL n S M μ st a w){t e:TypeId}{x ix:Operand}{ox oi:O}{k:Nat}(ho:o.op=.indexAddr t x ix)(hd:o.dst=some d)(hn:d<n)
  (hx:cO GL x=some ox)(hi:cO GL ix=some oi)(hu:P.underlying t=some (.slice e))(hk:Pr P e=some k)
  (hs:step P GL (.ia d ox oi k) st K):o.wpX P a w (Ar GL n S M w K) Q:=by
 have hr:=AB h hx;have qf:=AB h hi;have qh:∀kk (i:Int) b oo len cap,a.eval x=.slice (some ⟨b,oo,none⟩) len cap->a.eval ix=.int kk i->0<=i/\i<len->
   (execOp a.eval o).run P w=.ok (.value (.pointer (some ⟨b,oo+i.toNat*k,none⟩))) w:=fun kk i b oo len cap e1 e2 hb=>by
  simp only[execOp,ho,e1,e2,Instr.indexAt,asIntOf,Sem.run_bind,run_underlying hu w,Result.andThen_ok,Sem.run_pure,hb,and_self,if_true,EF hk,Ei]
 simp only[step,rP]at hs;split at hs
 ·rename_i rows kk i e1 e2;rw[e1]at hr;rw[e2]at qf;have qf:=CC (AK qf);have hr:=AK hr;obtain⟨hb,je,hs⟩:=hs;generalize hv:a.eval x=vx at hr;cases hr with
  |slnil=>simp at hb;omega
  |slempty=>simp at hb;omega
  |sl _ k' b oo cap v jn hc hm hvv=>
   have ka:i.toNat<rows.length:=by omega
   have e:rows.getD i.toNat []=rows[i.toNat]:=by grind
   rw[e]at hs je;obtain rfl:k'=k:=by grind
   refine A2 h hd hn (qh _ _ _ _ _ _ hv qf hb) (AG ?_) hs;exact Rep.elt _ 0 b (oo+i.toNat*k') (v i.toNat) (fun j hj=>hm i.toNat ka j hj) (fun j hj=>hvv i.toNat ka j hj)
 ·rename_i nm k0 lo ja kk i e1 e2;rw[e1]at hr;rw[e2]at qf;have qf:=CC (AK qf);obtain⟨hN,aa,cap,e3,qz,kd,vj⟩:=hr;unfold vP at hs;split at hs
  ·rename_i et k' rs hg;obtain⟨rfl,rfl,hb,hs⟩:=hs;rcases vj with⟨rfl,_⟩|⟨b,o',rfl,hv⟩
   ·omega
   ·refine A2 h hd hn (x:=.ref (.lel nm k0 (lo+i.toNat) 0)) (qh _ _ _ _ _ _ hv qf hb) ⟨hN,b,o',cap,e3,by omega,?_⟩ hs;rw[Nat.add_mul];simp[Nat.add_assoc]
  ·exact hs.elim
 ·exact hs.elim
theorem Zl(l:List UInt8)(i:Nat)(h:i<l.length):(BR l)[i]? =some l[i]:=by
 have:(BR l)[i]? =l[i]? :=by
  unfold BR;rw[getElem?_def];split
  ·rename_i hh;rw[List.getElem?_eq_getElem h];rfl
  ·rename_i hh;exact absurd h hh
 grind
theorem Zm(h:Rel GL n S M μ st a w){t:TypeId}{x ix:Operand}{ox oi:O}(ho:o.op=.index t x ix)(hd:o.dst=some d)(hn:d<n)
  (hx:cO GL x=some ox)(hi:cO GL ix=some oi)(hu:P.underlying t=some .string)
  (hs:step P GL (.idx d ox oi) st K):o.wpX P a w (Ar GL n S M w K) Q:=by
 have hr:=AB h hx;have qf:=AB h hi;simp only[step,In]at hs;split at hs
 ·rename_i l kk i e1 e2;rw[e1]at hr;rw[e2]at qf;have qf:=CC (AK qf);have hr:=FJ (AK hr);obtain⟨hb,hs⟩:=hs;have jl:i.toNat<l.length:=by omega
  have jv:=Zl l i.toNat jl;have e:l.getD i.toNat 0=l[i.toNat]:=by grind
  rw[e]at hs;refine A2 h hd hn (v:=.int .u8 (l[i.toNat]).toNat) ?_ (AG (.int _ _)) hs;simp only[execOp,ho,hr,qf,Instr.index,asIntOf,Sem.run_bind,run_underlying hu w,Result.andThen_ok,Sem.run_pure,hb.1,if_true,jv]
 ·exact hs.elim
end
end Go.Dl
