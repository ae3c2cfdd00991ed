/-
  Lemmas, no statement.
-/
import Derived.Test.YtojgbkiejjingaaGreatDoorK9
set_option linter.all false
namespace Go.Dl
open Go Go.RowKit
variable{k len cap:Nat}{cur:Array Value}
section
variable {P:Program}{GL:List (Nat×List I)}{n:Nat}{S:Sh}{M:Mem}{μ:Place}{st:St}{sto:List (Nat×Blk)}{a:Act}{w w':World}{K:St->Prop}{Q:Exit->Act->World->Prop}{o:Oper}{d nm:Nat}
theorem StoOk.reset(h:StoOk S M μ sto w){blk blk':Blk}(jo:Ac sto nm=some blk){x:Value}(hs:w.heap.size<=w'.heap.size)(kn:∀k,k<w.heap.size->An (μ nm)≠some k->w'.heap[k]? =w.heap[k]?)
  (qp:∀q,An x=some q->An (μ nm)=some q\/w.heap.size<=q)(hb:AI S M (Bj μ nm x) (names (BD (Pt nm (.iter none []) sto) nm blk')) w' nm blk'):
  StoOk S M (Bj μ nm x) (BD (Pt nm (.iter none []) sto) nm blk') w':=by
 have hN:∀m,names (BD (Pt nm (.iter none []) sto) nm blk') m↔names sto m:=fun m=>by rw[Cm,Sm]
 have hn0:names sto nm:=by simp[names,jo]
 have hoth:∀m k,m≠nm->names sto m->An (μ m)=some k->An (μ nm)≠some k:=fun m k hm hs hk e=>h.sep m nm k k hm hs hn0 hk e rfl
 refine⟨h.sub.world fun k hk hu=>kn k hk fun e=>hu (h.lt hn0 e).2.2,fun m bb hm=>?_,fun m m' k k' jh h1 h2 hk jn=>?_,fun b hb=>Nat.lt_of_lt_of_le (h.low b hb) hs⟩
 ·simp only[Cl,FF]at hm;split at hm
  ·rename_i e;subst e;simp only[jo,Option.map_some,Option.some.injEq]at hm;subst hm;exact hb
  ·rename_i jh;cases hy:Ac sto m with
   |none=>simp[hy]at hm
   |some y=>
    simp only[hy,Option.map_some,Option.some.injEq]at hm;subst hm;have hmn:names sto m:=by simp[names,hy]
    refine(h.blk m y hy).sb (Mem.le_refl _) (fun q hq hqn=>⟨(hN q).2 hqn,B8 _ _ hq⟩) (fun r v e _=>by simp only[Sj,if_pos e];cases r<;>trivial) (B8 _ _ jh) (fun k hk jl=>kn k jl (hoth m k jh hmn hk)) (fun _ _ _=>Mem.same_refl _ _)
 ·rw[hN]at h1 h2;have key:∀m q,m≠nm->names sto m->An (μ m)=some q->An x≠some q:=fun m q hm hs hq hv=>by
   rcases qp q hv with e'|e'
   ·exact hoth m q hm hs hq e'
   ·have:=(h.lt hs hq).1;omega
  by_cases e1:m=nm
  ·by_cases e2:m'=nm
   ·exact absurd (e1.trans e2.symm) jh
   ·subst e1;rw[Bb]at hk;rw[B8 _ _ e2]at jn;intro hqq;subst hqq;exact key m' k e2 h2 jn hk
  ·rw[B8 _ _ e1]at hk;by_cases e2:m'=nm
   ·subst e2;rw[Bb]at jn;intro hqq;subst hqq;exact key m k e1 h1 hk jn
   ·rw[B8 _ _ e2]at jn;exact h.sep m m' k k' jh h1 h2 hk jn
theorem Rel.reset(h:Rel GL n S M μ st a w)(hpin:¬pinned nm){blk blk':Blk}(jo:Ac st.sto nm=some blk){x:Value}(hs:w.heap.size<=w'.heap.size)(kn:∀k,k<w.heap.size->An (μ nm)≠some k->w'.heap[k]? =w.heap[k]?)
  (qp:∀q,An x=some q->An (μ nm)=some q\/w.heap.size<=q)(hb:AI S M (Bj μ nm x) (names (BD (Pt nm (.iter none []) st.sto) nm blk')) w' nm blk'):
  Rel GL n S M (Bj μ nm x) ((⟨.sb nm (.iter none []) st.env,Pt nm (.iter none []) st.sto⟩:St).setB nm blk') a w':=
 h.of (st':=(⟨.sb nm (.iter none []) st.env,Pt nm (.iter none []) st.sto⟩:St).setB nm blk') (h.toStoOk.reset jo hs kn qp hb) (Mem.le_refl _) (fun s v hv=>by simp only[St.setB,Af];exact hv.sb (Mem.le_refl _) (fun q hq hqn=>⟨by rw[Cm,Sm];exact hqn,B8 _ _ hq⟩) (fun r v e _=>by simp only[Sj,if_pos e];cases r<;>trivial)) fun m hm=>B8 _ _ fun e=>hpin (e▸hm)
theorem SS{rows:List (List I)}{v:Value}(h:Rep M (.sl rows) v)(jh:rows≠[]){k:Nat}(hk:∀r∈rows,r.length=k)(kr:∀r∈rows,r.all I.one=true):
  ∃b oo cap,∃us:List Value,v=.slice (some ⟨b,oo,none⟩) rows.length cap/\us.length=rows.length*k/\(∀j u,us[j]? =some u->M.c b (oo+j)=some u)/\(∀u∈us,u.oneCell'=true)/\
   ∀i (hi:i<rows.length) j (hj:j<rows[i].length),∃u,us[i*k+j]? =some u/\Rep M (rows[i][j]) u:=by
 cases h with
 |slnil=>exact absurd rfl jh
 |slempty=>exact absurd rfl jh
 |sl _ k' b oo cap vv jn hc hm hr=>
  have jy:0<rows.length:=by grind
  obtain rfl:k'=k:=by rw[<-jn _ (List.getElem_mem jy),hk _ (List.getElem_mem jy)]
  have j0:∀p,p<rows.length*k'->∃u,M.c b (oo+p)=some u/\u.oneCell'=true:=fun p hp=>by obtain⟨i,j,hi,hj,rfl⟩:=SQ hk hp;have:=hm i hi j hj;rw[Nat.add_assoc]at this;refine⟨_,this,(hr i hi j hj).oneCell ?_⟩;grind
  refine⟨b,oo,cap,(List.range (rows.length*k')).map (fun p=>(M.c b (oo+p)).getD Go.undef),rfl,by simp,?_,?_,?_⟩
  ·intro j u hu;simp only[List.getElem?_map,Option.map_eq_some_iff]at hu;obtain⟨p,hp,rfl⟩:=hu;obtain⟨jl,hp⟩:=List.getElem?_eq_some_iff.1 hp;simp at jl hp;subst hp;obtain⟨u,hu,_⟩:=j0 j jl;simp[hu]
  ·intro u hu;simp only[List.mem_map,List.mem_range]at hu;obtain⟨p,hp,rfl⟩:=hu;obtain⟨u,hu,h1⟩:=j0 p hp;simp[hu,h1]
  ·intro i hi j hj;have jl:i*k'+j<rows.length*k':=by have:(i+1)*k'<=rows.length*k':=Nat.mul_le_mul_right _ hi;grind
   refine⟨_,?_,hr i hi j hj⟩;have:=hm i hi j hj;rw[Nat.add_assoc]at this;simp[jl,this]
theorem ST(t ty e:TypeId)(i:TypeInfo)(ht:P.underlying t=some (.slice e))(hi:P.info? e=some i)(g og sLen sCap:Nat)(cur:Array Value)(hg:w.heap[g]? =some (.cells cur e (0,0)))
  (b:Addr)(m c:Nat)(news:List Value)(hl:news.length=m*i.size)(qn:∀j u,news[j]? =some u->w.cell? (b.add j)=some u)(h1:∀u∈news,u.oneCell'=true)
  (kg:sLen+m<=sCap)(kl:og+sLen*i.size+news.length<=cur.size):
  (Builtin.append_ #[t,t] ty #[.slice (some ⟨g,og,none⟩) sLen sCap,.slice (some b) m c]).run P w=
   .ok (.slice (some ⟨g,og,none⟩) (sLen+m) sCap) (w.setRow g (setL cur.toList (og+sLen*i.size) news).toArray):=by
 have hf:=run_firstCells_some (P:=P) w i.size m b m c news hl qn;have jk:=run_storeCells_at P g (og+sLen*i.size) e news 0 cur w hg (by simpa using kl) h1;simp only[Nat.add_zero]at jk;simp[Builtin.append_,run_underlying ht,sizeOf,typeInfo,hi,Builtin.lenOf,kg,hf,Ei,jk,setL]
theorem PN(t ty e:TypeId)(i:TypeInfo)(ht:P.underlying t=some (.slice e))(hi:P.info? e=some i)(aa:Option Addr)(haa:∀x,aa=some x->x.spot=none)(l cap:Nat)(hlc:l<=cap)(b:Option Addr)(c:Nat):
  (Builtin.append_ #[t,t] ty #[.slice aa l cap,.slice b 0 c]).run P w=.ok (.slice aa l cap) w:=by
 cases aa<;>cases b<;>simp[Builtin.append_,run_underlying ht,sizeOf,typeInfo,Builtin.lenOf,Builtin.firstCells,loadCells,loadCellsFrom,storeCells, *]
def BS(cur:Array Value)(o k lo hi:Nat):List Value:=(cur.toList.drop (o+lo*k)).take ((hi-lo)*k)
theorem DF.view{o lo hi:Nat}{rs:List (List I)}(h:DF M cur o k rs)(qz:lo<=hi)(vm:hi<=rs.length)(js:o+rs.length*k<=cur.size):
  (BS cur o k lo hi).length=(hi-lo)*k/\∀i (ja:i<((rs.take hi).drop lo).length) j (hj:j<((rs.take hi).drop lo)[i].length),∃u,(BS cur o k lo hi)[i*k+j]? =some u/\Rep M (((rs.take hi).drop lo)[i][j]) u:=by
 have hm:hi*k<=rs.length*k:=Nat.mul_le_mul_right _ vm;have hm2:lo*k+(hi-lo)*k=hi*k:=by rw[<-Nat.add_mul];congr 1;omega
 refine⟨by simp[BS];omega,fun i ja j hj=>?_⟩;have hl:((rs.take hi).drop lo).length=hi-lo:=by simp;omega
 have e:((rs.take hi).drop lo)[i]=rs[lo+i]'(by omega):=by simp
 have jt:=hj;rw[e]at jt;obtain⟨v,hv,hr⟩:=h.2 (lo+i) (by omega) j jt;have hjk:j<k:=by rw[<-h.1 _ (List.getElem_mem (show lo+i<rs.length by omega))];exact jt
 have jl:i*k+j<(hi-lo)*k:=by have:(i+1)*k<=(hi-lo)*k:=Nat.mul_le_mul_right _ (by omega);grind
 refine⟨v,?_,?_⟩
 ·simp only[BS,List.getElem?_take,if_pos jl,List.getElem?_drop];rw[show o+lo*k+(i*k+j)=o+(lo+i)*k+j by rw[Nat.add_mul];omega];simpa using hv
 ·have e9:((rs.take hi).drop lo)[i][j]=rs[lo+i][j]:=by simp
  rw[e9];exact hr
theorem L2{o:Nat}{as bs:List (List I)}{xs us:List Value}(vk:xs.length=as.length*k)(hka:∀r∈as,r.length=k)(hkb:∀r∈bs,r.length=k)
  (hx:∀i (hi:i<as.length) j (hj:j<as[i].length),∃u,xs[i*k+j]? =some u/\Rep M (as[i][j]) u)(hu:∀i (hi:i<bs.length) j (hj:j<bs[i].length),∃u,us[i*k+j]? =some u/\Rep M (bs[i][j]) u)
  (hcur:∀j v,(xs++us)[j]? =some v->cur[o+j]? =some v):DF M cur o k (as++bs):=by
 refine⟨fun r hr=>(List.mem_append.1 hr).elim (hka r) (hkb r),fun i hi j hj=>?_⟩;by_cases ja:i<as.length
 ·have e8:(as++bs)[i]=as[i]:=List.getElem_append_left ja;obtain⟨u,hu,hr⟩:=hx i ja j (by rw[<-e8];exact hj);refine⟨u,?_,by simp only[e8];exact hr⟩;rw[Nat.add_assoc];refine hcur _ _ ?_;rw[List.getElem?_append_left (List.getElem?_eq_some_iff.1 hu).1];exact hu
 ·have jz:i-as.length<bs.length:=by rw[List.length_append]at hi;omega
  have e8:(as++bs)[i]=bs[i-as.length]:=List.getElem_append_right (by omega);obtain⟨u,hu,hr⟩:=hu (i-as.length) jz j (by rw[<-e8];exact hj);refine⟨u,?_,by simp only[e8];exact hr⟩;have ji:as.length*k<=i*k:=Nat.mul_le_mul_right _ (by omega);rw[Nat.add_assoc];refine hcur _ _ ?_;rw[List.getElem?_append_right (by rw[vk];omega),vk,<-hu];congr 1;rw[Nat.sub_mul];omega
theorem Ej{t:TypeId}{x y:Operand}{v':Value}{w':World}(ho:o.op=.call {callee:=.builtin .append,args:=#[x,y],argTypes:=#[t,t]})
  (h:(Builtin.append_ #[t,t] o.type #[a.eval x,a.eval y]).run P w=.ok v' w'):(execOp a.eval o).run P w=.ok (.value v') w':=by
 simp only[execOp,ho,resolve,Sem.run_bind,Sem.run_pure,Result.andThen_ok,invoke,builtin,List.map_toArray,List.map_cons,List.map_nil,h]
theorem L3:∀{l:List (Option (List I))} {as:List (List I)},E4 l=some as->l=as.map some
 |[],as,h=>by grind[E4]
 |some r::rs,as,h=>by
  simp only[E4]at h;split at h
  ·rename_i l hl;cases h;simp[<-L3 hl]
  ·cases h
 |none::_,as,h=>by grind[E4]
theorem JI(h:Rel GL n S M μ st a w){nm e k:Nat}{rs:List (Option (List I))}(hg:Ac st.sto nm=some (.arr e k rs)){b oo cap:Nat}(hμ:μ nm=.slice (some ⟨b,oo,none⟩) 0 cap)(kd:0<cap):
  ∃cur,Owns S M w b (.cells cur e (0,0))/\rs.length=cap/\cap<=maxLen/\cur.size=oo+cap*k/\FE M cur oo k rs:=by
 obtain⟨aa,e1,hh⟩:=h.blk nm _ hg;rw[hμ]at e1;injection e1 with e1 _ e2
 subst e1;subst e2;rcases hh with rfl|⟨b',o',cur,e3,jh,ho,q1,q2,q3⟩
 ·simp at kd
 ·injection e3 with e3;injection e3 with e4 e5;subst e4;subst e5
  exact⟨cur,ho,rfl,q1,q2,q3⟩
theorem JJ(h:Rel GL n S M μ st a w){nm e k:Nat}{rs:List (Option (List I))}(hg:Ac st.sto nm=some (.arr e k rs)){aa:Option Addr}{cap:Nat}(hμ:μ nm=.slice aa 0 cap):rs.length=cap:=by obtain⟨aa',e1,_⟩:=h.blk nm _ hg;grind
theorem FE.set{o:Nat}{rs:List (Option (List I))}(h:FE M cur o k rs)(js:o+rs.length*k<=cur.size){lo:Nat}{bs:List (List I)}{us:List Value}(hb:∀r∈bs,r.length=k)(qo:us.length=bs.length*k)
  (hu:∀i (hi:i<bs.length) j (hj:j<bs[i].length),∃u,us[i*k+j]? =some u/\Rep M (bs[i][j]) u)(kl:lo+bs.length<=rs.length):
  FE M (setL cur.toList (o+lo*k) us).toArray o k (setL rs lo (bs.map some)):=by
 have hm:(lo+bs.length)*k<=rs.length*k:=Nat.mul_le_mul_right _ kl;rw[Nat.add_mul]at hm;have hfit2:o+lo*k+us.length<=cur.toList.length:=by simp;omega
 intro i r hr;rw[Hv _ _ _ (by simpa using kl)]at hr;have cell:∀q:Nat,(setL cur.toList (o+lo*k) us).toArray[q]? =if o+lo*k<=q/\q<o+lo*k+us.length then us[q-(o+lo*k)]? else cur[q]? :=fun q=>by grind[Hv]
 split at hr
 ·rename_i jr;simp only[List.length_map]at jr;have jl:i-lo<bs.length:=by omega
  simp only[List.getElem?_map,List.getElem?_eq_getElem jl,Option.map_some,Option.some.injEq]at hr;subst hr;have hk:=hb _ (List.getElem_mem jl);refine⟨hk,fun j hj=>?_⟩;obtain⟨u,hu1,hu2⟩:=hu (i-lo) jl j hj;refine⟨u,?_,hu2⟩;have e1:i*k=lo*k+(i-lo)*k:=by rw[<-Nat.add_mul];congr 1;omega
  have h1:=(List.getElem?_eq_some_iff.1 hu1).1;rw[cell,if_pos (by omega),<-hu1];congr 1;omega
 ·rename_i zZ;simp only[List.length_map]at zZ;obtain⟨h1,h2⟩:=h i r hr;refine⟨h1,fun j hj=>?_⟩;obtain⟨v,hv,wb⟩:=h2 j hj;refine⟨v,?_,wb⟩;rw[cell,if_neg,hv];rintro⟨g1,g2⟩;by_cases qz:i<lo
  ·have:(i+1)*k<=lo*k:=Nat.mul_le_mul_right _ qz;rw[Nat.add_mul]at this;omega
  ·have:(lo+bs.length)*k<=i*k:=Nat.mul_le_mul_right _ (by omega);rw[Nat.add_mul]at this;omega
theorem FE.view{o lo hi:Nat}{rs:List (Option (List I))}{as:List (List I)}(h:FE M cur o k rs)(qz:lo<=hi)(vm:hi<=rs.length)(js:o+rs.length*k<=cur.size)(ha:(rs.take hi).drop lo=as.map some):
  as.length=hi-lo/\(∀r∈as,r.length=k)/\(BS cur o k lo hi).length=(hi-lo)*k/\∀i (ja:i<as.length) j (hj:j<as[i].length),∃u,(BS cur o k lo hi)[i*k+j]? =some u/\Rep M (as[i][j]) u:=by
 have hl:as.length=hi-lo:=by have:=congrArg List.length ha;simp at this;omega
 have jv:∀i (ja:i<as.length),rs[lo+i]? =some (some as[i]):=fun i ja=>by have:=congrArg (·[i]?) ha;grind
 have hm:hi*k<=rs.length*k:=Nat.mul_le_mul_right _ vm;have hm2:lo*k+(hi-lo)*k=hi*k:=by rw[<-Nat.add_mul];congr 1;omega
 refine⟨hl,fun r hr=>?_,by simp[BS];omega,fun i ja j hj=>?_⟩
 ·obtain⟨i,ja,rfl⟩:=List.getElem_of_mem hr;exact(h _ _ (jv i ja)).1
 ·obtain⟨hk,hc⟩:=h _ _ (jv i ja);obtain⟨v,hv,hr⟩:=hc j hj;refine⟨v,?_,hr⟩;have jl:i*k+j<(hi-lo)*k:=by have:(i+1)*k<=(hi-lo)*k:=Nat.mul_le_mul_right _ (by omega);grind
  simp only[BS,List.getElem?_take,if_pos jl,List.getElem?_drop];rw[show o+lo*k+(i*k+j)=o+(lo+i)*k+j by rw[Nat.add_mul];omega];simpa using hv
theorem ZH{ys:List (List I)}{us:List Value}(hk:IG k ys)(qo:us.length=ys.length*k)(hu:∀i (hi:i<ys.length) j (hj:j<ys[i].length),∃u,us[i*k+j]? =some u/\Rep M (ys[i][j]) u):∀u∈us,u.oneCell'=true:=fun u hm=>by obtain⟨p,hp,rfl⟩:=List.getElem_of_mem hm;obtain⟨i,j,hi,hj,rfl⟩:=SQ hk.1 (by rw[<-qo];exact hp);obtain⟨v,hv,hr⟩:=hu i hi j hj;rw[List.getElem?_eq_getElem hp]at hv;cases hv;refine hr.oneCell ?_;have:=hk.2 _ (List.getElem_mem hi);grind
theorem PO(h:Rel GL n S M μ st a w){Y:D}{v:Value}(hr:Az M μ (names st.sto) Y v){ys:List (List I)}(hs:E5 (Ac st.sto) Y=some ys){k:Nat}(hk:IG k ys):
  (ys=[]->∃bb c,v=.slice bb 0 c)/\(ys≠[]->∃bb oo ycap,∃us:List Value,v=.slice (some ⟨bb,oo,none⟩) ys.length ycap/\us.length=ys.length*k/\(∀j u,us[j]? =some u->w.cell? ⟨bb,oo+j,none⟩=some u)/\(∀u∈us,u.oneCell'=true)/\
   ∀i (hi:i<ys.length) j (hj:j<ys[i].length),∃u,us[i*k+j]? =some u/\Rep M (ys[i][j]) u):=by
 have first:(Y=.i (.sl ys))->_:=fun e=>by
  subst e;have hr:Rep M (.sl ys) v:=hr;show(ys=[]->∃bb c,v=.slice bb 0 c)/\(ys≠[]->∃bb oo ycap,∃us:List Value,v=.slice (some ⟨bb,oo,none⟩) ys.length ycap/\us.length=ys.length*k/\(∀j u,us[j]? =some u->w.cell? ⟨bb,oo+j,none⟩=some u)/\(∀u∈us,u.oneCell'=true)/\
   ∀i (hi:i<ys.length) j (hj:j<ys[i].length),∃u,us[i*k+j]? =some u/\Rep M (ys[i][j]) u)
  refine⟨fun e=>?_,fun jh=>?_⟩
  ·subst e;cases hr with
   |slnil=>exact⟨_,_,rfl⟩
   |slempty=>exact⟨_,_,rfl⟩
   |sl=>exact⟨_,_,rfl⟩
  ·obtain⟨bb,oo,ycap,us,q1,q2,q3,q4,q5⟩:=SS hr jh hk.1 hk.2;exact⟨bb,oo,ycap,us,q1,q2,fun j u hu=>h.sub.1 _ _ _ (q3 j u hu),q4,q5⟩
 cases Y with
 |i x=>
  cases x with
  |sl rows=>simp only[E5,Option.some.injEq]at hs;exact first (by rw[hs])
  |_=>simp[E5]at hs
 |ref r=>
  cases r with
  |sl nm k0 lo hi=>
  simp only[E5]at hs;obtain⟨hN,aa,cap,hμ,qz,kd,vj⟩:=hr;have fin:∀{e:Nat} {cur:Array Value} {b o:Nat},hi-lo=ys.length->v=.slice (some ⟨b,o+lo*k0,none⟩) (hi-lo) (cap-lo)->Owns S M w b (.cells cur e (0,0))->(BS cur o k0 lo hi).length=(hi-lo)*k0->(∀r∈ys,r.length=k0)->
    (∀i (ja:i<ys.length) j (hj:j<ys[i].length),∃u,(BS cur o k0 lo hi)[i*k0+j]? =some u/\Rep M (ys[i][j]) u)->
    (ys=[]->∃bb c,v=.slice bb 0 c)/\(ys≠[]->∃bb oo ycap,∃us:List Value,v=.slice (some ⟨bb,oo,none⟩) ys.length ycap/\us.length=ys.length*k/\(∀j u,us[j]? =some u->w.cell? ⟨bb,oo+j,none⟩=some u)/\(∀u∈us,u.oneCell'=true)/\
     ∀i (hi:i<ys.length) j (hj:j<ys[i].length),∃u,us[i*k+j]? =some u/\Rep M (ys[i][j]) u):=fun{e cur b o} hl hv jd wg hkk hvw=>by
   refine⟨fun e=>?_,fun jh=>?_⟩
   ·subst e;exact⟨_,_,by rw[hv,hl];rfl⟩
   ·have jy:0<ys.length:=by cases ys<;>simp_all
    obtain rfl:k0=k:=by rw[<-hkk _ (List.getElem_mem jy),hk.1 _ (List.getElem_mem jy)]
    refine⟨b,o+lo*k0,cap-lo,BS cur o k0 lo hi,by rw[hv,hl],by rw[wg,hl],fun j u hu=>?_,ZH hk (by rw[wg,hl]) hvw,hvw⟩;simp only[BS,List.getElem?_take,List.getElem?_drop]at hu;split at hu
    ·simp only[World.cell?,jd.heap];simpa using hu
    ·cases hu
  unfold IF at hs;split at hs
  ·rename_i e k' rs hg;split at hs
   ·rename_i hc;obtain⟨rfl,vm⟩:=hc;cases hs;rcases vj with⟨rfl,a',hv⟩|⟨b,o,rfl,hv⟩
    ·have:(rs.take hi).drop cap=[]:=by rw[List.drop_eq_nil_iff];simp;omega
     rw[this];exact⟨fun _=>⟨_,_,hv⟩,fun jh=>(jh rfl).elim⟩
    ·by_cases qb:cap=0
     ·have:(rs.take hi).drop lo=[]:=by rw[List.drop_eq_nil_iff];simp;omega
      rw[this];refine⟨fun _=>⟨some ⟨b,o+lo*k',none⟩,cap-lo,by rw[hv];congr 1;omega⟩,fun jh=>(jh rfl).elim⟩
     ·obtain⟨cur,jd,q1,q2,q3,q4⟩:=L1 h hg hμ (by omega);have w8:rs.length*k'<=cap*k':=Nat.mul_le_mul_right _ q3;obtain⟨v1,v2⟩:=q4.view qz vm (by omega);exact fin (by simp;omega) hv jd v1 (fun r hr=>q4.1 r (List.mem_of_mem_take (List.mem_of_mem_drop hr))) v2
   ·cases hs
  ·rename_i e k' rs hg;split at hs
   ·rename_i hc;obtain⟨rfl,vm⟩:=hc;have ha:=L3 hs;have kq:=JJ h hg hμ;rcases vj with⟨rfl,a',hv⟩|⟨b,o,rfl,hv⟩
    ·have e0:(rs.take hi).drop cap=[]:=by rw[List.drop_eq_nil_iff];simp;omega
     rw[e0]at ha;have:ys=[]:=by have:=congrArg List.length ha;simp at this;exact List.eq_nil_of_length_eq_zero this.symm
     subst this;exact⟨fun _=>⟨_,_,hv⟩,fun jh=>(jh rfl).elim⟩
    ·by_cases qb:cap=0
     ·have e0:(rs.take hi).drop lo=[]:=by rw[List.drop_eq_nil_iff];simp;omega
      rw[e0]at ha;have:ys=[]:=by have:=congrArg List.length ha;simp at this;exact List.eq_nil_of_length_eq_zero this.symm
      subst this;refine⟨fun _=>⟨some ⟨b,o+lo*k',none⟩,cap-lo,by rw[hv];congr 1;omega⟩,fun jh=>(jh rfl).elim⟩
     ·obtain⟨cur,jd,q1,q2,q3,q4⟩:=JI h hg hμ (by omega);obtain⟨v0,v3,v1,v2⟩:=q4.view qz vm (by rw[q1];omega) ha;exact fin (by omega) hv jd v1 v3 v2
   ·cases hs
  ·cases hs
  |_=>simp[E5]at hs
 |_=>simp[E5]at hs
theorem NG{α:Type}(l:List α)(o:Nat):setL l o []=l:=by simp[setL]
theorem ZI(h:Rel GL n S M μ st a w){t e:TypeId}{i:TypeInfo}{z:Value}{x y:Operand}{oy:O}{k b e' k' nm k0 lo hi:Nat}{rs:List (Option (List I))}{ys:List (List I)}(ho:o.op=.call {callee:=.builtin .append,args:=#[x,y],argTypes:=#[t,t]})
  (hd:o.dst=some d)(hn:d<n)(hr:Bo μ (names st.sto) (.sl nm k0 lo hi) (a.eval x))(hy:cO GL y=some oy)(ht:P.underlying t=some (.slice e))(ja:P.info? e=some i)(hz:i.zero=some z)(hk:i.size=k)(hb:i.bytes=b)
  (vo:z.cells.size=k)(vn:0<k)(hg:Ac st.sto nm=some (.arr e' k' rs))(hsrc:E5 (Ac st.sto) (AL GL st oy)=some ys)(hs:Hq (Ac st.sto d) e' k' rs nm k0 lo hi d e k b ys st K):o.wpX P a w (Ar GL n S M w K) Q:=by
 obtain⟨rfl,rfl,rfl,qz,vm,kr,jr,zZ⟩:=hs;subst hk;subst hb;obtain⟨hN,aa,cap,hμ,hlo',kd,vj⟩:=hr;have zD:=AB h hy;obtain⟨s1,s2⟩:=PO h zD hsrc kr;have kq:=JJ h hg hμ;by_cases kg:hi+ys.length<=rs.length
 ·have hs:=jr kg;by_cases jh:ys=[]
  ·subst jh;obtain⟨bb,c,vp⟩:=s1 rfl;simp only[List.map_nil,NG,List.length_nil,Nat.add_zero]at hs;have qt:Rel GL n S M μ (st.setB nm (.arr e' i.size rs)) a w:=by
    refine h.of (st':=st.setB nm (.arr e' i.size rs)) ⟨h.sub,fun m x hx=>?_,fun m m' k k' jh h1 h2=>?_,h.low⟩ (Mem.le_refl _) fun s v hv=>by simp only[St.setB];rw[Cm];exact hv
    ·simp only[St.setB,Cl]at hx⊢;rw[Cm];split at hx
     ·rename_i e;subst e;rw[hg]at hx;cases hx;exact h.blk _ _ hg
     ·exact h.blk _ _ hx
    ·simp only[St.setB,Cm]at h1 h2;exact h.sep m m' k k' jh h1 h2
   have hv:∃A l c',a.eval x=.slice A l c'/\(∀x,A=some x->x.spot=none\/(l=0/\c'=0))/\l<=c':=by
    rcases vj with⟨rfl,a',hv⟩|⟨b1,o1,rfl,hv⟩
    ·exact⟨a',0,0,hv,fun _ _=>.inr ⟨rfl,rfl⟩,Nat.le_refl _⟩
    ·exact⟨_,_,_,hv,fun x e=>by cases e;exact .inl rfl,by omega⟩
   obtain⟨A,l,c',hv,z1,hlc⟩:=hv;refine BK (v:=a.eval x) (w':=w) (Ej ho ?_) ⟨_,hs,M,μ,by rw[hd];exact qt.put hn ⟨by simp only[St.setB];rw[Cm];exact hN,aa,cap,hμ,hlo',kd,vj⟩,MExt.refl _ _,Keeps.refl _ _⟩;rw[hv,vp];cases A with
   |none=>cases bb<;>simp[Builtin.append_,run_underlying ht,sizeOf,typeInfo,Builtin.lenOf,Builtin.firstCells,loadCells,loadCellsFrom,ja,hlc]
   |some A=>cases bb<;>simp[Builtin.append_,run_underlying ht,sizeOf,typeInfo,Builtin.lenOf,Builtin.firstCells,loadCells,loadCellsFrom,storeCells,ja,hlc]
  ·obtain⟨bb,oo,ycap,us,vp,qo,hum,huo,hur⟩:=s2 jh;have jy:0<ys.length:=by cases ys<;>simp_all
   rcases vj with⟨rfl,a',hv⟩|⟨b1,o1,rfl,hv⟩
   ·omega
   ·obtain⟨cur,jd,q1,q2,q3,q4⟩:=JI h hg hμ (by omega);have zI:An (μ nm)=some b1:=by rw[hμ];simp only[An];rw[if_neg (by omega)]
    have hmul:lo*i.size+(hi-lo)*i.size=hi*i.size:=by rw[<-Nat.add_mul];congr 1;omega
    have hm5:(hi+ys.length)*i.size<=cap*i.size:=Nat.mul_le_mul_right _ (by omega);rw[Nat.add_mul]at hm5;have hr:=ST (P:=P) t o.type e' i ht ja b1 (o1+lo*i.size) (hi-lo) (cap-lo) cur jd.heap ⟨bb,oo,none⟩ ys.length ycap us qo (fun j u hu=>by rw[Ei];exact hum j u hu) huo (by omega) (by omega);rw[show o1+lo*i.size+(hi-lo)*i.size=o1+hi*i.size by omega]at hr;have vq:=Ii w b1 (setL cur.toList (o1+hi*i.size) us).toArray jd.low;have jx:=q4.set (by rw[q1];omega) (lo:=hi) kr.1 qo hur kg;have vt:(setL rs hi (ys.map some)).length=rs.length:=Cn _ _ _ (by simpa using kg);have qt:Rel GL n S M μ (st.setB nm (.arr e' i.size (setL rs hi (ys.map some)))) a (w.setRow b1 (setL cur.toList (o1+hi*i.size) us).toArray):=by
     refine h.setBlk (blk':=.arr e' i.size (setL rs hi (ys.map some))) hg zI vq.size (fun q hq _=>setRow_other w b1 q _ hq) ⟨some ⟨b1,o1,none⟩,by rw[vt];rw[hμ,kq],.inr ⟨b1,o1,(setL cur.toList (o1+hi*i.size) us).toArray,rfl,?_,⟨jd.low,setRow_heap w b1 cur _ e' _ jd.heap,jd.unk⟩,by rw[vt,q1];exact q2,?_,jx⟩⟩
     ·intro e;rw[e]at vt;simp at vt;omega
     ·rw[vt,q1];simp only[List.size_toArray];rw[Cn _ _ _ (by simp;omega)];simpa using q3
    exact BK (Ej ho (by rw[hv,vp];exact hr)) ⟨_,hs,M,μ,by
     rw[hd];exact qt.put hn ⟨by simp only[St.setB];rw[Cm];exact hN,_,cap,hμ,by omega,by omega,.inr ⟨b1,o1,rfl,by congr 1;omega⟩⟩,MExt.refl _ _,vq⟩
 ·obtain⟨as,has,hao,j8,je,hfr,hs⟩:=zZ (by omega);have ha:=L3 has;have jh:ys≠[]:=fun e=>by subst e;simp at kg;omega
  obtain⟨bb,oo,ycap,us,vp,qo,hum,huo,hur⟩:=s2 jh;have jy:0<ys.length:=by cases ys<;>simp_all
  have k7:hi-lo+ys.length<=maxLen:=by simp only[maxLen];omega
  have z2:as.length=hi-lo:=by have:=congrArg List.length ha;simp at this;omega
  have qn:∀j u,us[j]? =some u->w.cell? ((⟨bb,oo,none⟩:Addr).add j)=some u:=fun j u hu=>by rw[Ei];exact hum j u hu
  have grow:∀(old:Nat) (xs:List Value),xs.length=(hi-lo)*i.size->(∀i1 (vu:i1<as.length) j (hj:j<as[i1].length),∃u,xs[i1*i.size+j]? =some u/\Rep M (as[i1][j]) u)->
    ∀cells:Array Value,cells.toList=xs++us->(execOp a.eval o).run P w=.ok (.value (.slice (some ⟨w.heap.size,0,none⟩) (hi-lo+ys.length) (grownCap w (hi-lo+ys.length) old e'))) (w.drew.alloc (.cells (cells++Builtin.zeroCells z.cells (grownCap w (hi-lo+ys.length) old e'-(hi-lo+ys.length))) e'))->
    o.wpX P a w (Ar GL n S M w K) Q:=fun old xs vk hxr cells hcl2 jg=>by
   have zR:=grownCap_ge w (hi-lo+ys.length) old e';have hcm:grownCap w (hi-lo+ys.length) old e'<=maxLen:=grownCap_le_maxLen w (hi-lo+ys.length) old e' k7;generalize hG:grownCap w (hi-lo+ys.length) old e'=G at zR hcm jg;have vd:cells.size=(hi-lo+ys.length)*i.size:=by rw[<-Array.length_toList,hcl2,List.length_append,vk,qo,Nat.add_mul]
   have hL:((as++ys).map some++List.replicate (G-(hi-lo+ys.length)) (none:Option (List I))).length=G:=by simp;omega
   have ju:DF M cells 0 i.size (as++ys):=L2 (xs:=xs) (us:=us) (by rw[vk,z2]) hao.1 kr.1 hxr hur (fun j v hv=>by rw[Nat.zero_add];rw[<-hcl2]at hv;simpa using hv)
   have h0:Rel GL n S M μ st a (w.drew.alloc (.cells (cells++Builtin.zeroCells z.cells (G-(hi-lo+ys.length))) e')):=h.of ((h.toStoOk.drew).alloc _) (Mem.le_refl _) fun _ _ hv=>hv
   have h2:=h0.bindName (nm:=d) (b:=.arr e' i.size ((as++ys).map some++List.replicate (G-(hi-lo+ys.length)) none)) (x:=.slice (some ⟨w.heap.size,0,none⟩) 0 G) hfr hn ⟨_,by rw[Bb,hL],.inr ⟨w.heap.size,0,_,rfl,fun e=>by rw[e]at hL;simp at hL;omega,⟨fun hS=>by have:=h.low _ hS;omega,E1 w.drew _,Mem.unk_new h.sub (Nat.le_refl _)⟩,by rw[hL];exact hcm,?_,?_⟩⟩ (fun m q hm hq=>?_)
   ·exact BK jg ⟨_,hs (G-(hi-lo+ys.length)),M,_,by
     rw[hd];exact h2.put hn ⟨DG,_,G,Bb _ _ _,by omega,zR,.inr ⟨w.heap.size,0,rfl,by simp⟩⟩,MExt.refl _ _,(Keeps.refl S w).drew.trans (EC w.drew _ h.low)⟩
   ·rw[hL];simp only[Array.size_append,size_zeroCells,vo,vd,Nat.zero_add,<-Nat.add_mul];congr 1;omega
   ·intro i1 r hr;by_cases jl:i1<(as++ys).length
    ·rw[List.getElem?_append_left (by simpa using jl),List.getElem?_map,List.getElem?_eq_getElem jl]at hr;simp only[Option.map_some,Option.some.injEq]at hr;subst hr;refine⟨ju.1 _ (List.getElem_mem jl),fun j hj=>?_⟩;obtain⟨v,hv,hr⟩:=ju.2 i1 jl j hj;refine⟨v,?_,hr⟩;rw[Array.getElem?_append_left (Array.getElem?_eq_some_iff.1 hv).1];exact hv
    ·rw[List.getElem?_append_right (by simpa using jl),List.getElem?_replicate]at hr;split at hr<;>cases hr
   ·have:=(h.toStoOk.lt hm hq).1;simp only[An];rw[if_neg (by omega)];intro e;cases e;omega
  rcases vj with⟨rfl,a',hv⟩|⟨b1,o1,rfl,hv⟩
  ·obtain rfl:hi=cap:=by omega
   have has0:as=[]:=List.eq_nil_of_length_eq_zero (by omega);subst has0;cases a' with
   |none=>have hr:=run_append_nil (P:=P) w t o.type e' i z ht ja hz ⟨bb,oo,none⟩ ys.length ycap us qo qn jy (by omega) (by have hb:=j8;simp only[Nat.sub_self,Nat.zero_add]at hb;omega);refine grow 0 [] (by simp) (fun i1 h1=>by simp at h1) us.toArray (by simp) (Ej ho ?_);rw[hv,vp];simpa using hr
   |some aa=>have hr:=run_append_grow (P:=P) w t o.type e' i z ht ja hz aa 0 0 [] (by simp) (by simp) ⟨bb,oo,none⟩ ys.length ycap us qo qn (by omega) (by omega) (growslice_fits (by omega) (by simpa using j8));refine grow 0 [] (by simp) (fun i1 h1=>by simp at h1) us.toArray (by simp) (Ej ho ?_);rw[hv,vp];simpa using hr
  ·by_cases qb:cap=0
   ·subst qb;obtain rfl:lo=0:=by omega
    obtain rfl:hi=0:=by omega
    have has0:as=[]:=List.eq_nil_of_length_eq_zero (by omega);subst has0;have hr:=run_append_grow (P:=P) w t o.type e' i z ht ja hz ⟨b1,o1+0*i.size,none⟩ 0 0 [] (by simp) (by simp) ⟨bb,oo,none⟩ ys.length ycap us qo qn (by omega) (by omega) (growslice_fits (by omega) (by simpa using j8));refine grow 0 [] (by simp) (fun i1 h1=>by simp at h1) us.toArray (by simp) (Ej ho ?_);rw[hv,vp];simpa using hr
   ·obtain⟨cur,jd,q1,q2,q3,q4⟩:=JI h hg hμ (by omega);obtain⟨v0,v3,v1,v2⟩:=q4.view qz vm (by rw[q1];omega) ha;have hr:=run_append_grow (P:=P) w t o.type e' i z ht ja hz ⟨b1,o1+lo*i.size,none⟩ (hi-lo) (cap-lo) (BS cur o1 i.size lo hi) v1 (fun j v hv=>by
     simp only[BS,List.getElem?_take,List.getElem?_drop]at hv;split at hv
     ·rw[Ei];simp[World.cell?,jd.heap];simpa using hv
     ·cases hv) ⟨bb,oo,none⟩ ys.length ycap us qo qn (by omega) (by omega) (growslice_fits (by omega) j8)
    refine grow (cap-lo) (BS cur o1 i.size lo hi) v1 v2 ((BS cur o1 i.size lo hi).toArray++us.toArray) (by simp) (Ej ho ?_);rw[hv,vp];exact hr
theorem ZJ(h:Rel GL n S M μ st a w){t e:TypeId}{i:TypeInfo}{z:Value}{x y:Operand}{ox oy:O}{k b:Nat}(ho:o.op=.call {callee:=.builtin .append,args:=#[x,y],argTypes:=#[t,t]})
  (hd:o.dst=some d)(hn:d<n)(hx:cO GL x=some ox)(hy:cO GL y=some oy)(ht:P.underlying t=some (.slice e))(hi:P.info? e=some i)(hz:i.zero=some z)(hk:i.size=k)(hb:i.bytes=b)
  (vo:z.cells.size=k)(vn:0<k)(hs:step P GL (.app d e k b ox oy) st K):o.wpX P a w (Ar GL n S M w K) Q:=by
 have hr:=AB h hx;have zD:=AB h hy;simp only[step,Gu]at hs;split at hs
 rotate_left
 ·exact hs.elim
 rename_i nm k0 lo ja e1;rw[e1]at hr;unfold Hr at hs;split at hs
 ·rename_i e' k' rs hg;split at hs
  ·rename_i ys hsrc;exact ZI h ho hd hn hr hy ht hi hz hk hb vo vn hg hsrc hs
  ·exact hs.elim
 split at hs
 ·rename_i rows e2;rw[e2]at zD;obtain⟨hN,aa,cap,hμ,qz,kd,vj⟩:=hr;have zD:=AK zD;unfold Iv at hs;split at hs
  ·rename_i e' k' rs hg;obtain⟨hpin,rfl,rfl,rfl,vm,w7,kr,j8,je,hs⟩:=hs;have hpin:¬pinned nm:=fun hp=>by unfold pinned at hp;simp only[Bool.or_eq_true,Nat.blt_eq,Nat.ble_eq]at hpin;omega
   subst hk;subst hb;have hn0:names st.sto nm:=by simp[names,hg]
   have fin:∀(x':Value) (v':Value) (w':World),(execOp a.eval o).run P w=.ok (.value v') w'->w.heap.size<=w'.heap.size->Keeps S w w'->(∀q,q<w.heap.size->An (μ nm)≠some q->w'.heap[q]? =w.heap[q]?)->
     (∀q,An x'=some q->An (μ nm)=some q\/w.heap.size<=q)->AI S M (Bj μ nm x') (fun _=>False) w' nm (.rows e' i.size ((rs.take ja).drop lo++rows))->LM x' i.size 0 (ja-lo+rows.length) v'->
     o.wpX P a w (Ar GL n S M w K) Q:=fun x' v' w' jg h1 h2 h3 h4 h5 h6=>by
    have qt:=h.reset hpin (blk':=.rows e' i.size ((rs.take ja).drop lo++rows)) hg h1 h3 h4 h5;refine BK jg ⟨_,hs,M,Bj μ nm x',?_,MExt.refl _ _,h2⟩;rw[hd];exact qt.put hn ⟨by simp[names,St.setB,Cl,FF,hg],by rw[Bb];exact h6⟩
   by_cases jh:rows=[]
   ·
    subst jh;have vp:∃bb c,a.eval y=.slice bb 0 c:=by
     generalize a.eval y=vy at zD;cases zD with
     |slnil=>exact⟨_,_,rfl⟩
     |slempty=>exact⟨_,_,rfl⟩
     |sl=>exact⟨_,_,rfl⟩
    obtain⟨bb,c,vp⟩:=vp;rcases vj with⟨rfl,a',hv⟩|⟨b1,o1,rfl,hv⟩
    ·obtain rfl:ja=cap:=by omega
     have ju:(rs.take ja).drop ja=[]:=by rw[List.drop_eq_nil_iff];simp;omega
     refine fin (.slice a' 0 0) (.slice a' 0 0) w ?_ (Nat.le_refl _) (Keeps.refl _ _) (fun _ _ _=>rfl) (fun q hq=>by cases a'<;>simp[An]at hq) ⟨a',0,Bb _ _ _,.inl ⟨rfl,by rw[ju];rfl⟩⟩ (by
      have:ja-ja+([]:List (List I)).length=0:=by simp
      rw[this];exact JH _ _)
     refine Ej ho ?_;rw[hv,vp];cases a' with
     |none=>exact PN t _ _ i ht hi none (by simp) _ _ (Nat.le_refl _) bb c
     |some aa=>cases bb<;>simp[Builtin.append_,run_underlying ht,sizeOf,typeInfo,Builtin.lenOf,Builtin.firstCells,loadCells,loadCellsFrom,storeCells,hi]
    ·by_cases qb:cap=lo
     ·subst qb;obtain rfl:ja=cap:=by omega
      have ju:(rs.take ja).drop ja=[]:=by rw[List.drop_eq_nil_iff];simp;omega
      rw[Nat.sub_self]at hv;refine fin (.slice (some ⟨b1,o1+ja*i.size,none⟩) 0 0) (.slice (some ⟨b1,o1+ja*i.size,none⟩) 0 0) w ?_ (Nat.le_refl _) (Keeps.refl _ _) (fun _ _ _=>rfl) (fun q hq=>by simp[An]at hq) ⟨_,0,Bb _ _ _,.inl ⟨rfl,by rw[ju];rfl⟩⟩ (by
       have:ja-ja+([]:List (List I)).length=0:=by simp
       rw[this];exact JH _ _)
      exact Ej ho (by rw[hv,vp];exact PN t _ _ i ht hi _ (by simp) _ _ (Nat.le_refl _) bb c)
     ·obtain⟨cur,jd,q1,q2,q3,q4⟩:=L1 h hg hμ (by omega);have hmul:lo*i.size+(cap-lo)*i.size=cap*i.size:=by rw[<-Nat.add_mul];congr 1;omega
      have w8:rs.length*i.size<=cap*i.size:=Nat.mul_le_mul_right _ q3;have zI:An (μ nm)=some b1:=by rw[hμ];simp only[An];rw[if_neg (by omega)]
      obtain⟨v1,v2⟩:=q4.view qz vm (by omega);refine fin (.slice (some ⟨b1,o1+lo*i.size,none⟩) 0 (cap-lo)) _ w (Ej ho (by rw[hv,vp];exact PN t _ _ i ht hi _ (by simp) _ _ (by omega) bb c)) (Nat.le_refl _) (Keeps.refl _ _) (fun _ _ _=>rfl)
       (fun q hq=>.inl (by simp only[An]at hq;rw[if_neg (by omega)]at hq;rw[zI];exact hq)) ⟨_,_,Bb _ _ _,.inr ⟨b1,_,cur,rfl,by omega,jd,by omega,by omega,by simp;omega,?_⟩⟩ ⟨_,_,rfl,by omega,by simp;omega,.inr ⟨b1,_,rfl,by simp⟩⟩
      refine L2 (as:=(rs.take ja).drop lo) (bs:=[]) (xs:=BS cur o1 i.size lo ja) (us:=[]) (by rw[v1];congr 1;simp;omega) (fun r hr=>q4.1 r (List.mem_of_mem_take (List.mem_of_mem_drop hr))) (by simp) v2 (by simp) (fun j v hv=>?_);simp only[List.append_nil,BS,List.getElem?_take,List.getElem?_drop]at hv;split at hv
      ·simpa using hv
      ·cases hv
   ·
    obtain⟨bb,oo,ycap,us,vp,qo,hum,huo,hur⟩:=SS zD jh w7 kr;have jy:0<rows.length:=by cases rows<;>simp_all
    have qn:∀j u,us[j]? =some u->w.cell? ((⟨bb,oo,none⟩:Addr).add j)=some u:=fun j u hu=>by rw[Ei];exact h.sub.1 _ _ _ (hum j u hu)
    have k7:ja-lo+rows.length<=maxLen:=by simp only[maxLen];omega
    have z2:((rs.take ja).drop lo).length=ja-lo:=by simp;omega
    have grow:∀(old:Nat) (xs:List Value),xs.length=(ja-lo)*i.size->(∀i_1 (hi_1:i_1<((rs.take ja).drop lo).length) j (hj:j<((rs.take ja).drop lo)[i_1].length),∃u,xs[i_1*i.size+j]? =some u/\Rep M (((rs.take ja).drop lo)[i_1][j]) u)->(∀r∈(rs.take ja).drop lo,r.length=i.size)->
      ∀cells:Array Value,cells.toList=xs++us->(execOp a.eval o).run P w=.ok (.value (.slice (some ⟨w.heap.size,0,none⟩) (ja-lo+rows.length) (grownCap w (ja-lo+rows.length) old e'))) (w.drew.alloc (.cells (cells++Builtin.zeroCells z.cells (grownCap w (ja-lo+rows.length) old e'-(ja-lo+rows.length))) e'))->
      o.wpX P a w (Ar GL n S M w K) Q:=fun old xs vk hxr hka cells kq jg=>by
     have zR:=grownCap_ge w (ja-lo+rows.length) old e';have hcm:grownCap w (ja-lo+rows.length) old e'<=maxLen:=grownCap_le_maxLen w (ja-lo+rows.length) old e' k7;have vd:cells.size=(ja-lo+rows.length)*i.size:=by rw[<-Array.length_toList,kq,List.length_append,vk,qo,Nat.add_mul]
     refine fin (.slice (some ⟨w.heap.size,0,none⟩) 0 (grownCap w (ja-lo+rows.length) old e')) _ _ jg (by rw[KE];show w.heap.size<=w.heap.size+1;omega) ((Keeps.refl S w).drew.trans (EC w.drew _ h.low)) (fun q hq _=>Pv w.drew _ q hq)
      (fun q hq=>.inr (by simp only[An]at hq;split at hq;cases hq;cases hq;exact Nat.le_refl _)) ⟨_,_,Bb _ _ _,.inr ⟨w.heap.size,0,_,rfl,by omega,⟨fun hS=>by have:=h.low _ hS;omega,E1 w.drew _,Mem.unk_new h.sub (Nat.le_refl _)⟩,hcm,?_,?_,?_⟩⟩
      ⟨_,_,rfl,by omega,zR,.inr ⟨w.heap.size,0,rfl,by simp⟩⟩
     ·simp only[Array.size_append,size_zeroCells,vo,vd,Nat.zero_add,<-Nat.add_mul];congr 1;omega
     ·simp only[List.length_append,z2];omega
     ·refine L2 (xs:=xs) (us:=us) (by rw[vk,z2]) hka w7 hxr hur (fun j v hv=>?_);rw[Nat.zero_add,Array.getElem?_append_left]
      ·rw[<-kq]at hv;simpa using hv
      ·rw[<-kq]at hv;simpa using(List.getElem?_eq_some_iff.1 hv).1
    rcases vj with⟨rfl,a',hv⟩|⟨b1,o1,rfl,hv⟩
    ·obtain rfl:ja=cap:=by omega
     have ju:(rs.take ja).drop ja=[]:=by rw[List.drop_eq_nil_iff];simp;omega
     cases a' with
     |none=>have hr:=run_append_nil (P:=P) w t o.type e' i z ht hi hz ⟨bb,oo,none⟩ rows.length ycap us qo qn jy (by omega) (by have hb:=j8;simp only[Nat.sub_self,Nat.zero_add]at hb;omega);refine grow 0 [] (by simp) (fun i1 h1=>by rw[ju]at h1;simp at h1) (fun r hr=>by rw[ju]at hr;simp at hr) us.toArray (by simp) (Ej ho ?_);rw[hv,vp];simpa using hr
     |some aa=>have hr:=run_append_grow (P:=P) w t o.type e' i z ht hi hz aa 0 0 [] (by simp) (by simp) ⟨bb,oo,none⟩ rows.length ycap us qo qn (by omega) (by omega) (growslice_fits (by omega) (by simpa using j8));refine grow 0 [] (by simp) (fun i1 h1=>by rw[ju]at h1;simp at h1) (fun r hr=>by rw[ju]at hr;simp at hr) us.toArray (by simp) (Ej ho ?_);rw[hv,vp];simpa using hr
    ·by_cases qb:cap=lo
     ·subst qb;obtain rfl:ja=cap:=by omega
      have ju:(rs.take ja).drop ja=[]:=by rw[List.drop_eq_nil_iff];simp;omega
      rw[Nat.sub_self]at hv;have hr:=run_append_grow (P:=P) w t o.type e' i z ht hi hz ⟨b1,o1+ja*i.size,none⟩ 0 0 [] (by simp) (by simp) ⟨bb,oo,none⟩ rows.length ycap us qo qn (by omega) (by omega) (growslice_fits (by omega) (by simpa using j8));refine grow 0 [] (by simp) (fun i1 h1=>by rw[ju]at h1;simp at h1) (fun r hr=>by rw[ju]at hr;simp at hr) us.toArray (by simp) (Ej ho ?_);rw[hv,vp];simpa using hr
     ·obtain⟨cur,jd,q1,q2,q3,q4⟩:=L1 h hg hμ (by omega);have hmul:lo*i.size+(cap-lo)*i.size=cap*i.size:=by rw[<-Nat.add_mul];congr 1;omega
      have hmul2:lo*i.size+(ja-lo)*i.size=ja*i.size:=by rw[<-Nat.add_mul];congr 1;omega
      have hhl:ja*i.size<=cap*i.size:=Nat.mul_le_mul_right _ kd;have w8:rs.length*i.size<=cap*i.size:=Nat.mul_le_mul_right _ q3;have zI:An (μ nm)=some b1:=by rw[hμ];simp only[An];rw[if_neg (by omega)]
      obtain⟨v1,v2⟩:=q4.view qz vm (by omega);have hka:∀r∈(rs.take ja).drop lo,r.length=i.size:=fun r hr=>q4.1 r (List.mem_of_mem_take (List.mem_of_mem_drop hr))
      by_cases kg:ja-lo+rows.length<=cap-lo
      ·have hm5:(ja-lo+rows.length)*i.size<=(cap-lo)*i.size:=Nat.mul_le_mul_right _ kg;rw[Nat.add_mul]at hm5;have hr:=ST (P:=P) t o.type e' i ht hi b1 (o1+lo*i.size) (ja-lo) (cap-lo) cur jd.heap ⟨bb,oo,none⟩ rows.length ycap us qo qn huo kg (by omega);have vq:=Ii w b1 (setL cur.toList (o1+lo*i.size+(ja-lo)*i.size) us).toArray jd.low;refine fin (.slice (some ⟨b1,o1+lo*i.size,none⟩) 0 (cap-lo)) _ _ (Ej ho (by rw[hv,vp];exact hr)) vq.size vq (fun q _ hq=>setRow_other w b1 q _ (fun e=>hq (by rw[zI,e])))
        (fun q hq=>.inl (by simp only[An]at hq;rw[if_neg (by omega)]at hq;rw[zI];exact hq)) ⟨_,_,Bb _ _ _,.inr ⟨b1,_,_,rfl,by omega,⟨jd.low,setRow_heap w b1 cur _ e' _ jd.heap,jd.unk⟩,by omega,?_,by rw[List.length_append,z2];exact kg,?_⟩⟩ ⟨_,_,rfl,by omega,kg,.inr ⟨b1,_,rfl,by simp⟩⟩
       ·simp only[List.size_toArray];rw[Cn _ _ _ (by simp;omega)];simp;omega
       ·refine L2 (xs:=BS cur o1 i.size lo ja) (us:=us) (by rw[v1,z2]) hka w7 v2 hur (fun j v hv=>?_);simp only[List.getElem?_toArray];rw[Hv _ _ _ (by simp;omega)];by_cases hj:j<(ja-lo)*i.size
        ·rw[List.getElem?_append_left (by rw[v1];exact hj)]at hv;rw[if_neg (by omega)];simp only[BS,List.getElem?_take,if_pos hj,List.getElem?_drop]at hv;exact hv
        ·rw[List.getElem?_append_right (by rw[v1];omega),v1]at hv;have:=(List.getElem?_eq_some_iff.1 hv).1;rw[if_pos (by omega),<-hv];congr 1;omega
      ·have hr:=run_append_grow (P:=P) w t o.type e' i z ht hi hz ⟨b1,o1+lo*i.size,none⟩ (ja-lo) (cap-lo) (BS cur o1 i.size lo ja) v1 (fun j v hv=>by
        simp only[BS,List.getElem?_take,List.getElem?_drop]at hv;split at hv
        ·rw[Ei];simp[World.cell?,jd.heap];simpa using hv
        ·cases hv) ⟨bb,oo,none⟩ rows.length ycap us qo qn (by omega) (by omega) (growslice_fits (by omega) j8)
       refine grow (cap-lo) (BS cur o1 i.size lo ja) v1 v2 hka ((BS cur o1 i.size lo ja).toArray++us.toArray) (by simp) (Ej ho ?_);rw[hv,vp];exact hr
  ·exact hs.elim
 ·exact hs.elim
theorem ZK{k:IntKind}{v:Value}{i:Int}{y:Nat}{c:BoundsCode}(hv:v=.int k i)(h:0<=i/\i<=(y:Int)):(Instr.sliceBound v y c).run P w=.ok i.toNat w:=by subst hv;simp only[Instr.sliceBound,asIntOf,Sem.run_bind,Sem.run_pure,Result.andThen_ok,if_pos h]
theorem ZL{isS:Bool}{l u:Nat}{lo hi:Option Value}(vm:(hi=none/\u=len)\/∃k,hi=some (.int k (u:Int)))(qz:(lo=none/\l=0)\/∃k,lo=some (.int k (l:Int)))(hlu:l<=u)(huc:u<=cap):
  (Instr.sliceBounds isS len cap lo hi none).run P w=.ok (l,u,cap) w:=by
 have b1:∀(k:IntKind) (i y:Nat) (c:BoundsCode),i<=y->(Instr.sliceBound (.int k (i:Int)) y c).run P w=.ok i w:=fun k i y c hy=>by rw[ZK rfl ⟨by omega,by omega⟩];simp
 rcases vm with⟨rfl,rfl⟩|⟨k,rfl⟩<;>rcases qz with⟨rfl,rfl⟩|⟨k',rfl⟩<;>
  simp[Instr.sliceBounds,b1 _ _ _ _ huc,b1 _ _ _ _ hlu]
theorem PP(h:Rel GL n S M μ st a w){isS:Bool}{len cap top:Nat}{lo hi:Option Operand}{olo ohi:Option O}(qz:lo.map (cO GL)=olo.map some)(vm:hi.map (cO GL)=ohi.map some){T:Nat->Nat->Prop}(htop:top<=cap)
  (hs:DH (YK (olo.map (AL GL st))) (YQ (len:Int) (ohi.map (AL GL st))) top T):∃l u,l<=u/\u<=top/\T l u/\(Instr.sliceBounds isS len cap (lo.map a.eval) (hi.map a.eval) none).run P w=.ok (l,u,cap) w:=by
 unfold DH at hs;split at hs
 ·rename_i l u e1 e2;obtain⟨⟨b1,b2,b3⟩,hT⟩:=hs;refine⟨l.toNat,u.toNat,by omega,by omega,hT,ZL ?_ ?_ (by omega) (by omega)⟩
  ·cases hi with
   |none=>
    cases ohi with
    |some ox=>simp at vm
    |none=>simp only[Option.map_none,YQ,Option.some.injEq]at e2;exact .inl ⟨rfl,by omega⟩
   |some x=>
    cases ohi with
    |none=>simp at vm
    |some ox=>
     simp only[Option.map_some,Option.some.injEq]at vm;have hr:=AB h vm;simp only[Option.map_some]at e2;generalize AL GL st ox=V at hr e2;unfold YQ at e2;split at e2<;>cases e2
     ·rename_i q;cases q
     ·rename_i q;cases q;exact .inr ⟨_,by simp only[Option.map_some];rw[CC (AK hr),Int.toNat_of_nonneg (by omega)]⟩
  ·cases lo with
   |none=>
    cases olo with
    |some ox=>simp at qz
    |none=>simp only[Option.map_none,YK,Option.some.injEq]at e1;exact .inl ⟨rfl,by omega⟩
   |some x=>
    cases olo with
    |none=>simp at qz
    |some ox=>
     simp only[Option.map_some,Option.some.injEq]at qz;have hr:=AB h qz;simp only[Option.map_some]at e1;generalize AL GL st ox=V at hr e1;unfold YK at e1;split at e1<;>cases e1
     ·rename_i q;cases q
     ·rename_i q;cases q;exact .inr ⟨_,by simp only[Option.map_some];rw[CC (AK hr),Int.toNat_of_nonneg (by omega)]⟩
 ·exact hs.elim
theorem Rep.slice{rows:List (List I)}{l u:Nat}{aa:Option Addr}(h:Rep M (.sl rows) (.slice aa len cap))(hk:∀r∈rows,r.length=k)(hlu:l<=u)(hu:u<=rows.length):
  Rep M (.sl ((rows.take u).drop l)) (.slice (if cap=l then aa else aa.map (·.add (l*k))) (u-l) (cap-l)):=by
 have je:((rows.take u).drop l).length=u-l:=by simp;omega
 by_cases he:u=l
 ·subst he;have:(rows.take u).drop u=[]:=List.eq_nil_of_length_eq_zero (by omega);rw[this,Nat.sub_self];cases h with
  |slnil=>simp;exact .slnil
  |slempty a cap=>split<;>exact .slempty _ _
  |sl _=>split<;>exact .slempty _ _
 ·cases h with
  |slnil=>simp at hu;omega
  |slempty=>simp at hu;omega
  |sl _ k' b o cap v jn hc hm hr=>
   have jy:0<rows.length:=by omega
   obtain rfl:k'=k:=by rw[<-jn _ (List.getElem_mem jy),hk _ (List.getElem_mem jy)]
   rw[if_neg (by omega)];simp only[Option.map_some,Ei];have jv:∀i (ja:i<((rows.take u).drop l).length),((rows.take u).drop l)[i]=rows[l+i]'(by omega):=fun i ja=>by simp
   have:=Rep.sl (M:=M) ((rows.take u).drop l) k' b (o+l*k') (cap-l) (fun i j=>v (l+i) j) (fun r hr=>hk r (List.mem_of_mem_take (List.mem_of_mem_drop hr))) (by omega)
    (fun i ja j hj=>by rw[jv i ja]at hj;have:=hm (l+i) (by omega) j hj;rw[show o+l*k'+i*k'+j=o+(l+i)*k'+j by rw[Nat.add_mul];omega];exact this)
    (fun i ja j hj=>by
     have jt:=hj;rw[jv i ja]at jt;have e:((rows.take u).drop l)[i][j]=rows[l+i][j]:=by simp
     rw[e];exact hr (l+i) (by omega) j jt)
   rw[je]at this;exact this
theorem PQ{t e:TypeId}{x:Operand}{lo hi:Option Operand}{l u:Nat}{aa:Option Addr}(ho:o.op=.slice t x lo hi none)(hu:P.underlying t=some (.slice e))(hk:Pr P e=some k)(hx:a.eval x=.slice aa len cap)
  (hb:(Instr.sliceBounds true len cap (lo.map a.eval) (hi.map a.eval) none).run P w=.ok (l,u,cap) w):
  (execOp a.eval o).run P w=.ok (.value (.slice (if cap=l then aa else aa.map (·.add (l*k))) (u-l) (cap-l))) w:=by
 simp only[execOp,ho,hx,Instr.sliceAt,Instr.slice,Sem.run_bind,run_underlying hu w,Result.andThen_ok,Option.map_none,hb,EF hk,Sem.run_pure]
theorem ZM(h:Rel GL n S M μ st a w){t e:TypeId}{x:Operand}{ox:O}{lo hi:Option Operand}{olo ohi:Option O}{k:Nat}(ho:o.op=.slice t x lo hi none)(hd:o.dst=some d)(hn:d<n)(hx:cO GL x=some ox)
  (qz:lo.map (cO GL)=olo.map some)(vm:hi.map (cO GL)=ohi.map some)(hu:P.underlying t=some (.slice e))(hk:Pr P e=some k)(hs:step P GL (.slc d ox olo ohi k) st K):o.wpX P a w (Ar GL n S M w K) Q:=by
 have hr:=AB h hx;simp only[step,Iw]at hs;split at hs
 ·rename_i rows e1;rw[e1]at hr;have hr:=AK hr;obtain⟨w7,hs⟩:=hs;obtain⟨aa,len,cap,hv,je,kd⟩:∃aa len cap,a.eval x=.slice aa len cap/\len=rows.length/\rows.length<=cap:=by
   generalize a.eval x=vx at hr;cases hr with
   |slnil=>exact⟨_,_,_,rfl,rfl,Nat.le_refl _⟩
   |slempty=>exact⟨_,_,_,rfl,rfl,Nat.zero_le _⟩
   |sl _ _ _ _ _ _ _ hc=>exact⟨_,_,_,rfl,rfl,hc⟩
  subst je;obtain⟨l,u,q1,q2,hT,hb⟩:=PP (P:=P) h (isS:=true) qz vm kd hs;rw[hv]at hr;exact A2 h hd hn (PQ ho hu hk hv hb) (AG (hr.slice w7 q1 q2)) hT
 ·rename_i nm k0 lo' ja e1;rw[e1]at hr;obtain⟨hN,aa,cap,hμ,h1,h2,hh⟩:=hr;have core:∀R:Nat,R<=cap->k0=k->DH (YK (Option.map (AL GL st) olo)) (YQ ((ja-lo':Nat):Int) (Option.map (AL GL st) ohi)) (R-lo') (fun a c=>K (st.put d (.ref (.sl nm k (lo'+a) (lo'+c)))))->o.wpX P a w (Ar GL n S M w K) Q:=by
   intro R hrc hkk hs;subst hkk;rcases hh with⟨rfl,a',hv⟩|⟨b,oo,rfl,hv⟩
   ·obtain rfl:ja=cap:=by omega
    have e0:R-ja=0:=by omega
    have e00:ja-ja=0:=by omega
    rw[e0,e00]at hs;obtain⟨l,u,q1,q2,hT,hb⟩:=PP (P:=P) (cap:=0) h (isS:=true) qz vm (Nat.le_refl _) hs;obtain rfl:u=0:=by omega
    obtain rfl:l=0:=by omega
    refine A2 h hd hn (PQ ho hu hk hv hb) (x:=.ref (.sl nm k0 (ja+0) (ja+0))) ⟨hN,aa,ja,hμ,by omega,by omega,.inl ⟨by omega,?_⟩⟩ hT;simp
   ·obtain⟨l,u,q1,q2,hT,hb⟩:=PP (P:=P) (cap:=cap-lo') h (isS:=true) qz vm (by omega) hs;refine A2 h hd hn (PQ ho hu hk hv hb) (x:=.ref (.sl nm k0 (lo'+l) (lo'+u))) ⟨hN,_,cap,hμ,by omega,by omega,?_⟩ hT;by_cases hc:cap-lo'=l
    ·refine .inl ⟨by omega,?_⟩;have e1:u-l=0:=by omega
     simp_all
    ·refine .inr ⟨b,oo,rfl,?_⟩;rw[if_neg hc];simp only[Option.map_some,Ei];grind
  unfold Jy at hs;split at hs
  ·rename_i et k' rs hg;obtain⟨rfl,rfl,hs⟩:=hs;refine core rs.length ?_ rfl hs;obtain⟨aa',cap',e2,hbk⟩:=h.blk nm _ hg;rw[hμ]at e2;injection e2 with _ _ e2;subst e2
   rcases hbk with⟨rfl,rfl⟩|⟨_,_,_,_,_,_,_,_,q,_⟩
   ·simp
   ·exact q
  ·rename_i et k' rs hg;obtain⟨rfl,rfl,hs⟩:=hs;exact core rs.length (by rw[JJ h hg hμ];exact Nat.le_refl _) rfl hs
  ·exact hs.elim
 ·exact hs.elim
end
end Go.Dl
