/-
  Lemmas, no statement.
-/
import Derived.Test.YtojgbkiejjingaaGreatDoorK2
set_option linter.all false
namespace Go.Dl
open Go Go.RowKit
def Bk(cs:List D):Bool:=cs.all G5
theorem Y0{l:List D}(h:Bk l=true):l=(l.map FB).map D.i:=by
 induction l with
 |nil=>rfl
 |cons x l ih=>simp only[Bk,List.all_cons,Bool.and_eq_true]at h;rw[List.map_cons,List.map_cons,<-ih h.2];congr 1;cases x<;>simp[G5]at h<;>rfl
section
variable {GL:List (Nat×List I)}{n:Nat}{S:Sh}{M M':Mem}{μ μ':Place}{N N':Nat->Prop}{st:St}{sto:List (Nat×Blk)}{a:Act}{w w':World}{nm:Nat}{b:Blk}
theorem BJ.sb(ji:M.le M')(hN:∀m,m≠nm->N m->N' m/\μ' m=μ m)(hp:∀r v,r.nm=nm->Bo μ N r v->BJ M' μ' N' (Sj nm b r) v){x:Cp}{v:Value}(h:BJ M μ N x v):BJ M' μ' N' (YN nm b x) v:=by
 cases x with
 |any=>trivial
 |i y=>exact Rep.mono ji h
 |ref r=>
  by_cases e:r.nm=nm
  ·exact hp r v e h
  ·simp only[YN,Sj,if_neg e];have:=hN r.nm e (Bo.name h);exact Bo.mono h this.1 this.2
theorem BJ.toD{x:Cp}{v:Value}(h:BJ M μ N x v):Az M μ N x.toD v:=by
 cases x with
 |any=>trivial
 |i y=>exact h
 |ref r=>exact h
theorem C9.sb(ji:M.le M')(hN:∀m,m≠nm->N m->N' m/\μ' m=μ m)(hp:∀r v,r.nm=nm->Bo μ N r v->BJ M' μ' N' (Sj nm b r) v){xs:List Cp}{vs:List Value}(h:C9 M μ N xs vs):
  C9 M' μ' N' (xs.map (YN nm b)) vs:=
 ⟨by simpa using h.1,fun j a b=>by rw[List.getElem_map];exact(h.2 j (by simpa using a) b).sb ji hN hp⟩
theorem Az.sb(ji:M.le M')(hN:∀m,m≠nm->N m->N' m/\μ' m=μ m)(hp:∀r v,r.nm=nm->Bo μ N r v->BJ M' μ' N' (Sj nm b r) v){x:D}{v:Value}(h:Az M μ N x v):Az M' μ' N' (Pp nm b x) v:=by
 cases x with
 |any=>trivial
 |i y=>exact Rep.mono ji h
 |ref r=>exact(BJ.sb (x:=.ref r) ji hN hp h).toD
 |fn f first caps=>obtain⟨va,vb,e,hy,h1,h2⟩:=h;exact⟨va,vb,e,hy.imp id (fun q=>by rw[q];rfl),h1.sb ji hN hp,h2.sb ji hN hp⟩
 |tup cs=>obtain⟨vs,e,h1⟩:=h;exact⟨vs,e,h1.sb ji hN hp⟩
theorem AI.sb{m:Nat}{x:Blk}(ji:M.le M')(hN:∀m,m≠nm->N m->N' m/\μ' m=μ m)(hp:∀r v,r.nm=nm->Bo μ N r v->BJ M' μ' N' (Sj nm b r) v)(hμ:μ' m=μ m)
  (hw:∀k,An (μ m)=some k->k<w.heap.size->w'.heap[k]? =w.heap[k]?)(hm:∀k,An (μ m)=some k->k<w.heap.size->M.same M' k)(h:AI S M μ N w m x):AI S M' μ' N' w' m (YO nm b x):=by
 cases x with
 |cells cs=>
  obtain⟨bb,vs,t,e,ho,hs,hr⟩:=h;have hb:An (μ m)=some bb:=by rw[e];rfl
  refine⟨bb,vs,t,by rw[hμ];exact e,ho.mono (hw bb hb ho.lt) (hm bb hb ho.lt),by simpa using hs,fun j h h'=>?_⟩;rw[List.getElem_map];exact(hr j (by simpa using h) h').sb ji hN hp
 |rows e k rs=>exact AI.mono (b:=.rows e k rs) h ji hμ (fun _ hx=>by simp[Blk.nms]at hx) hw hm
 |map ls es=>exact AI.mono (b:=.map ls es) h ji hμ (fun _ hx=>by simp[Blk.nms]at hx) hw hm
 |iter cur rest=>exact AI.mono (b:=.iter cur rest) h ji hμ (fun _ hx=>by simp[Blk.nms]at hx) hw hm
 |lp l q cs=>
  obtain⟨vs,e,ho,hs,hr⟩:=h;have hb:An (μ m)=some l:=by rw[e];rfl
  refine⟨vs,by rw[hμ];exact e,ho.mono (hw l hb ho.lt) (hm l hb ho.lt),by simpa using hs,fun j h h'=>?_⟩;rw[List.getElem_map];exact(hr j (by simpa using h) h').sb ji hN hp
 |gmap ls clk es=>
  obtain⟨bb,xs,e,ho,q1,q2,q3⟩:=h;have hb:An (μ m)=some bb:=by rw[e];rfl
  refine⟨bb,xs,by rw[hμ];exact e,ho.mono (hw bb hb ho.lt) (hm bb hb ho.lt),⟨by simpa using q1.1,fun j h h'=>?_⟩,q2,fun e he=>?_⟩
  ·rw[List.getElem_map];have:=q1.2 j (by simpa using h) h';exact⟨this.1.mono ji,this.2.1,this.2.2.sb ji hN hp⟩
  ·obtain⟨e0,he0,rfl⟩:=List.mem_map.1 he;exact q3 e0 he0
 |arr e k rs=>exact AI.mono (b:=.arr e k rs) h ji hμ (fun _ hx=>by simp[Blk.nms]at hx) hw hm
theorem Sn{m:Nat}(hm:m≠nm)(h:names sto m):names (BC (Pt nm b sto) nm) m:=by grind[names,Ij,FF,Ac]
theorem So{m:Nat}(h:names (BC (Pt nm b sto) nm) m):m≠nm/\names sto m:=by grind[names,Ij,FF,Ac]
theorem StoOk.giveup(h:StoOk S M μ sto w)(ji:M.le M')(ky:M'.Sub w)(hp:∀r v,r.nm=nm->Bo μ (names sto) r v->BJ M' μ (names (BC (Pt nm b sto) nm)) (Sj nm b r) v)
  (hm:∀k,An (μ nm)≠some k->M.same M' k)(jo:names sto nm):StoOk S M' μ (BC (Pt nm b sto) nm) w:=by
 refine⟨ky,fun m x hx=>?_,fun m m' k k' xd h1 h2 hk jn=>h.sep m m' k k' xd (So h1).2 (So h2).2 hk jn,h.low⟩;simp only[Ij,FF]at hx;split at hx
 ·cases hx
 ·rename_i jh;cases hy:Ac sto m with
  |none=>simp[hy]at hx
  |some y=>simp only[hy,Option.map_some,Option.some.injEq]at hx;subst hx;refine(h.blk m y hy).sb ji (fun q hq hN=>⟨Sn hq hN,rfl⟩) hp rfl (fun _ _ _=>rfl) (fun k hk _=>hm k fun e=>?_);exact h.sep m nm k k jh (by simp[names,hy]) jo hk e rfl
theorem Rel.giveup(h:Rel GL n S M μ st a w)(ji:M.le M')(ky:M'.Sub w)(hp:∀r v,r.nm=nm->Bo μ (names st.sto) r v->BJ M' μ (names (BC (Pt nm b st.sto) nm)) (Sj nm b r) v)
  (hm:∀k,An (μ nm)≠some k->M.same M' k)(jo:names st.sto nm):Rel GL n S M' μ (st.frz nm b) a w:=
 h.of (st':=st.frz nm b) (h.toStoOk.giveup ji ky hp hm jo) ji fun s v hv=>by simp only[St.frz,Af];exact hv.sb ji (fun q hq hN=>⟨Sn hq hN,rfl⟩) hp
theorem Rel.drop(h:Rel GL n S M μ st a w)(jo:names st.sto nm):Rel GL n S M μ (st.frz nm (.iter none [])) a w:=by refine h.giveup (Mem.le_refl _) h.sub (fun r v e _=>?_) (fun _ _=>Mem.same_refl _ _) jo;simp only[Sj,if_pos e];cases r<;>trivial
theorem Y1{cur:Array Value}{o k cap bb:Nat}{rs:List (List I)}(h:DF M' cur o k rs)(hk:∀x,x<cur.size->M'.c bb x=cur[x]?){lo hi:Nat}(qz:lo<=hi)(vm:hi<=rs.length)(hc:rs.length<=cap):
  Rep M' (.sl ((rs.take hi).drop lo)) (.slice (some ⟨bb,o+lo*k,none⟩) (hi-lo) (cap-lo)):=by
 obtain⟨h1,h2⟩:=h;have hl:((rs.take hi).drop lo).length=hi-lo:=by simp;omega
 by_cases he:hi=lo
 ·subst he;have:(rs.take hi).drop hi=[]:=List.eq_nil_of_length_eq_zero (by omega);rw[this,Nat.sub_self];exact .slempty _ _
 have jv:∀i (ja:i<((rs.take hi).drop lo).length),((rs.take hi).drop lo)[i]=rs[lo+i]'(by omega):=fun i ja=>by simp
 have:=Rep.sl (M:=M') ((rs.take hi).drop lo) k bb (o+lo*k) (cap-lo) (fun i j=>cur.getD (o+(lo+i)*k+j) Go.undef) (fun r hr=>h1 r (List.mem_of_mem_take (List.mem_of_mem_drop hr))) (by omega)
  (fun i ja j hj=>by
   rw[jv i ja]at hj;obtain⟨v,hv,_⟩:=h2 (lo+i) (by omega) j hj;have hx:o+lo*k+i*k+j=o+(lo+i)*k+j:=by grind
   rw[hx,hk _ (Array.getElem?_eq_some_iff.1 hv).1,hv];simp[Array.getD_eq_getD_getElem?,hv])
  (fun i ja j hj=>by
   have jt:=hj;rw[jv i ja]at jt;obtain⟨v,hv,hr⟩:=h2 (lo+i) (by omega) j jt;simp only[Array.getD_eq_getD_getElem?,hv,Option.getD_some];have e:=jv i ja;have:((rs.take hi).drop lo)[i][j]=rs[lo+i][j]:=by simp
   rw[this];exact hr)
 rw[hl]at this;exact this
theorem Y2{cur:Array Value}{o k bb:Nat}{rs:List (List I)}(h:DF M' cur o k rs)(hk:∀x,x<cur.size->M'.c bb x=cur[x]?){row:Nat}(ka:row<rs.length)(off:Nat):
  Rep M' (.elt (rs.getD row []) off) (.pointer (some ⟨bb,o+row*k+off,none⟩)):=by
 have e:rs.getD row []=rs[row]:=by grind
 rw[e];refine Rep.elt _ off bb (o+row*k) (fun j=>cur.getD (o+row*k+j) Go.undef) (fun j hj=>?_) (fun j hj=>?_)
 ·obtain⟨v,hv,_⟩:=h.2 row ka j hj;rw[hk _ (Array.getElem?_eq_some_iff.1 hv).1,hv];simp[Array.getD_eq_getD_getElem?,hv]
 ·obtain⟨v,hv,hr⟩:=h.2 row ka j hj;simp only[Array.getD_eq_getD_getElem?,hv,Option.getD_some];exact hr
theorem Sp{xs:List MapEntry}{clk b:Nat}{es:List (I×I)}(h:DV M' xs es)(hb:FC xs clk)(hm:M'.m b=some (xs,clk)):Rep M' (.map es) (.map (some b)):=
 .map es b xs clk hm h.1 hb (fun j hj=>(h.2 j hj (by rw[h.1];exact hj)).1) (fun j hj=>(h.2 j hj (by rw[h.1];exact hj)).2)
def Ec:Blk->Bool
 |.cells cs=>Bk cs
 |.lp _ _ _=>false
 |.arr _ _ _=>false
 |.gmap _ _ es=>es.all fun e=>G5 e.2.2
 |_=>true
theorem Rel.freeze(h:Rel GL n S M μ st a w)(hg:Ac st.sto nm=some b)(kc:Ec b=true):∃M',Rel GL n S M' μ (st.frz nm b) a w/\MExt S M M':=by
 have jo:names st.sto nm:=by simp[names,hg]
 have hbk:=h.blk nm b hg;cases b with
 |cells cs=>
  obtain⟨bb,vs,t,e,ho,hs,hr⟩:=hbk;have ji:M.le (M.with bb vs):=Mem.le_with ho.unk;refine⟨M.with bb vs,h.giveup ji (h.sub.with ho.heap) (fun r v er hv=>?_) (fun k hk=>Mem.with_same fun e'=>hk (by rw[e,e'];rfl)) jo,⟨ji,fun k hk=>Mem.with_same fun e'=>ho.low (e'▸hk)⟩⟩;simp only[Sj,if_pos er];cases r with
  |loc m off=>
   obtain rfl:m=nm:=er;obtain⟨_,b',e1,rfl⟩:=hv;obtain rfl:bb=b':=by rw[e]at e1;injection e1 with q;injection q with q;injection q
   have jj:=Y0 kc;have:=Rep.elt (M:=M.with bb vs) (cs.map FB) off bb 0 (fun j=>vs.getD j Go.undef) (fun j hj=>by
    simp at hj;simp[Mem.with,show j<vs.size by omega]) (fun j hj=>by
    have jt:j<cs.length:=by simpa using hj
    have:=hr j jt (by omega);have e2:cs[j]=.i ((cs.map FB)[j]):=by have:=congrArg (·[j]?) jj;simp[List.getElem?_eq_getElem jt]at this;simpa using this
    rw[e2]at this;simp only[Array.getD_eq_getD_getElem?,show vs[j]? =some vs[j] by simp[show j<vs.size by omega],Option.getD_some];exact Rep.mono ji this)
   rw[Nat.zero_add]at this;exact this
  |_=>trivial
 |rows et k rs=>
  obtain⟨aa,cap,e,hh⟩:=hbk;rcases hh with⟨rfl,rfl⟩|⟨bb,o,cur,rfl,hc,ho,q1,q2,q3,q4⟩
  ·refine⟨M,h.giveup (Mem.le_refl _) h.sub (fun r v er hv=>?_) (fun _ _=>Mem.same_refl _ _) jo,MExt.refl _ _⟩;simp only[Sj,if_pos er];cases r with
   |sl m k' lo hi=>
    obtain rfl:m=nm:=er;dsimp only;split
    ·rename_i ji;replace ji:=ji.2;obtain⟨_,a',cap',e1,g1,g2,g3⟩:=hv;rw[e]at e1;injection e1 with e2 e3 e4
     subst e4;obtain rfl:lo=0:=by omega
     obtain rfl:hi=0:=by omega
     rcases g3 with⟨_,a'',rfl⟩|⟨b',o',e5,rfl⟩
     ·show Rep M (.sl _) _;simp only[List.take_nil,List.drop_nil];cases a'' with
      |none=>exact .slnil
      |some x=>exact .slempty _ _
     ·show Rep M (.sl _) _;simp only[List.take_nil,List.drop_nil];exact .slempty _ _
    ·trivial
   |lel m k' row off=>
    dsimp only;split
    ·rename_i hh;simp at hh
    ·trivial
   |_=>trivial
  ·have ji:M.le (M.with bb cur):=Mem.le_with ho.unk;have zI:An (μ nm)=some bb:=by rw[e];simp only[An];rw[if_neg (by omega)]
   refine⟨M.with bb cur,h.giveup ji (h.sub.with ho.heap) (fun r v er hv=>?_) (fun k hk=>Mem.with_same fun e'=>hk (by rw[e',zI])) jo,⟨ji,fun k hk=>Mem.with_same fun e'=>ho.low (e'▸hk)⟩⟩;have hkn:∀x,x<cur.size->(M.with bb cur).c bb x=cur[x]? :=fun x hx=>by simp[Mem.with]
   have q4':=q4.mono ji;simp only[Sj,if_pos er];cases r with
   |sl m k' lo hi=>
    obtain rfl:m=nm:=er;dsimp only;split
    ·rename_i jf;obtain⟨rfl,hle'⟩:=jf;obtain⟨_,a',cap',e1,g1,g2,g3⟩:=hv;rw[e]at e1;injection e1 with e2 e3 e4
     subst e4;subst e2;rcases g3 with⟨rfl,a'',rfl⟩|⟨b',o',e5,rfl⟩
     ·obtain rfl:hi=cap:=by omega
      show Rep _ (.sl _) _;have:(rs.take hi).drop hi=[]:=by rw[List.drop_eq_nil_iff];simp;omega
      rw[this];cases a'' with
      |none=>exact .slnil
      |some x=>exact .slempty _ _
     ·injection e5 with e5;injection e5 with e5 e6;subst e5;subst e6
      exact Y1 q4' hkn g1 hle' q3
    ·trivial
   |lel m k' row off=>
    obtain rfl:m=nm:=er;dsimp only;split
    ·rename_i jf;obtain⟨rfl,ka⟩:=jf;obtain⟨_,b',o',cap',e1,_,rfl⟩:=hv;rw[e]at e1;injection e1 with e2 e3 e4
     injection e2 with e2;injection e2 with e5 e6;subst e5;subst e6
     exact Y2 q4' hkn ka off
    ·trivial
   |_=>trivial
 |map ls es=>
  obtain⟨bb,xs,clk,e,ho,q1,q2,q3⟩:=hbk;have ji:M.le (M.withM bb (xs.toList,clk)):=Mem.le_withM ho.unk;refine⟨M.withM bb (xs.toList,clk),h.giveup ji (h.sub.withM (by simpa using ho.heap)) (fun r v er hv=>?_) (fun k hk=>Mem.withM_same fun e'=>hk (by rw[e,e'];rfl)) jo,⟨ji,fun k hk=>Mem.withM_same fun e'=>ho.low (e'▸hk)⟩⟩;simp only[Sj,if_pos er];cases r with
  |mp m=>obtain rfl:m=nm:=er;obtain⟨_,b',e1,rfl⟩:=hv;rw[e]at e1;injection e1 with e1;injection e1 with e1;subst e1;exact Sp (q1.mono ji) q2 (by simp[Mem.withM])
  |_=>trivial
 |iter cur rest=>refine⟨M,h.giveup (Mem.le_refl _) h.sub (fun r v er _=>?_) (fun _ _=>Mem.same_refl _ _) jo,MExt.refl _ _⟩;simp only[Sj,if_pos er];cases r<;>trivial
 |lp l q cs=>simp[Ec]at kc
 |arr e k rs=>simp[Ec]at kc
 |gmap ls clk es=>
  obtain⟨bb,xs,e,ho,q1,q2,q3⟩:=hbk;have ji:M.le (M.withM bb (xs.toList,clk)):=Mem.le_withM ho.unk;refine⟨M.withM bb (xs.toList,clk),h.giveup ji (h.sub.withM (by simpa using ho.heap)) (fun r v er hv=>?_) (fun k hk=>Mem.withM_same fun e'=>hk (by rw[e,e'];rfl)) jo,⟨ji,fun k hk=>Mem.withM_same fun e'=>ho.low (e'▸hk)⟩⟩;simp only[Sj,if_pos er];cases r with
  |mp m=>
   obtain rfl:m=nm:=er;obtain⟨_,b',e1,rfl⟩:=hv;rw[e]at e1;injection e1 with e1;injection e1 with e1;subst e1;dsimp only;have jj:(es.all fun e=>G5 e.2.2)=true:=kc;rw[if_pos jj];refine Sp ⟨by simpa using q1.1,fun j h1 h2=>?_⟩ q2 (by simp[Mem.withM]);have hj:j<es.length:=by simpa using h1
   have:=q1.2 j hj h2;rw[List.getElem_map];refine⟨this.1.mono ji,?_⟩;have hi:G5 es[j].2.2=true:=by rw[List.all_eq_true]at jj;exact jj _ (List.getElem_mem hj)
   have h3:=this.2.2;revert hi h3;cases es[j].2.2<;>intro hi h3<;>first|(simp[G5]at hi;done)|exact Rep.mono ji h3
  |_=>trivial
def St.frzN(st:St)(nm:Nat):St:=match Ac st.sto nm with
 |some b=>if Ec b=true then st.frz nm b else st
 |none=>st
theorem Rel.frzN(h:Rel GL n S M μ st a w)(nm:Nat):∃M',Rel GL n S M' μ (st.frzN nm) a w/\MExt S M M':=by
 unfold St.frzN;split
 ·split
  ·exact h.freeze ‹_› ‹_›
  ·grind[MExt.refl]
 ·grind[MExt.refl]
def frzNs:List Nat->St->St
 |[],st=>st
 |nm::r,st=>frzNs r (st.frzN nm)
theorem Rel.frzNs:∀(l:List Nat) {M:Mem} {st:St},Rel GL n S M μ st a w->∃M',Rel GL n S M' μ (Dl.frzNs l st) a w/\MExt S M M'
 |[],M,st,h=>⟨M,h,MExt.refl _ _⟩
 |x::l,M,st,h=>by obtain⟨M1,h1,m1⟩:=h.frzN x;obtain⟨M2,h2,m2⟩:=Rel.frzNs l h1;exact⟨M2,h2,m1.trans m2⟩
end
end Go.Dl
