/-Lemmas.-/
import Derived.Test.YtkhlddbmhehbbaaGreatDoorU20
import Derived.Lib.Overlaps
set_option linter.all false
set_option maxRecDepth 100000
set_option maxHeartbeats 8000000
namespace Go.Proofs.YtkhlddbmhehbbaaGreatDoor
open Go Go.Dl Go.As Go.Proofs
variable {mx:Int}
attribute[local irreducible] Ah Ai MC W2 EM ev evD step Ad
section
abbrev Dy:=Bool×Ent
def Dc(b:Dy):List I:=.bool b.1::Ac b.2
def JZ(m:List (Fid×Dy)):List (I×I):=m.map fun p=>(.agg (Ao p.1),.agg (Dc p.2))
abbrev no0:Dy:=(false,PX)
def Le(b:Dy)(x:Ent):Dy:=(b.1||decide (x.fact.kind=1),if b.2.fact.id.seq<x.fact.id.seq then x else b.2)
def gv(m:List (Fid×Dy))(x:Ent):List (Fid×Dy):=if x.kind≠1 then m else AO m (Ay x.fact) (Le ((Al m (Ay x.fact)).getD no0) x)
def I1(l:List Ent)(tick:Int):List (Fid×Dy):=(BM l tick).foldl gv []
theorem zg(m:List (Fid×Dy))(id:Fid):C0 (JZ m) (.agg [.str id.source,.int .i64 id.seq]) (.agg (Dc no0)) false=.agg (Dc ((Al m id).getD no0)):=NC (eK:=fun id:Fid=>I.agg (Ao id)) (f:=fun b:Dy=>I.agg (Dc b)) RZ m id no0
theorem zh(m:List (Fid×Dy))(id:Fid)(b:Dy):Ee (JZ m) (.agg [.str id.source,.int .i64 id.seq]) (.agg (Dc b))=JZ (AO m id b):=NB (eK:=fun id:Fid=>I.agg (Ao id)) (f:=fun b:Dy=>I.agg (Dc b)) RZ m id b
theorem zj(l:List Ent)(tick:Int){j:Nat}(hj:j<(BM l tick).length):((BM l tick).take (j+1)).foldl gv []=gv (((BM l tick).take j).foldl gv []) ((BM l tick).getD j default):=by grind[Cg]
theorem zk(l:List Ent)(tick:Int)(hl:l.length<=1000000):Is mx 80 [.sl (l.map Ac),iI tick] (.map (JZ (I1 l tick))):=by
 have u1:=zd (mx:=mx) l tick;have hs:=zf (mx:=mx) l tick (by omega);have jh:=@zj l tick;have hP:I1 l tick=((BM l tick).take (BM l tick).length).foldl gv []:=by rw[List.take_length];rfl
 rw[hP];generalize BM l tick=xs at hs jh;refine MX F80 ?_;refine Dp u1 ?_;have hx:∀j,j<xs.length->(xs.map fun e=>[I.agg (Ac e)]).getD j []=[.agg (Ac (xs.getD j default))]:=fun j hj=>by grind
 refine Rh (gf:=167) rfl (by kernel_rfl) hs [(5,5005),(9,5009)] [.any,.any,.any,.any,.any,.ref (.loc 5005 0),.any,.any,.any,.any,.any,.any,.any,.any,.any,.any,.any,.any,.any,.any,.any,.any,.any,.any,.any,.any,.any,.any,.any,.any,.any,.any,.any,.any,.any,.any,.any,.any,.any,.any,.any,.any,.any,.any,.any,.any,.any,.any] (fun j=>[(5005,.cells [.ref (.mp 5009)]),(5009,.map [.g,.s,.i .i64] (JZ ((xs.take j).foldl gv [])))]) [] xs.length .none
  ⟨by simp,fun _=>by simp,fun h=>absurd rfl h⟩ rfl (fun j hj=>⟨rfl,rfl,rfl,rfl⟩) rfl (by simp[Iu,Aj,CW,J8,Qs,J6,sw]) rfl (by simp[J5,MR,J8,Qs,J6,sw,Br,Aa,JZ]) (fun j hj=>⟨by rw[hx j hj];rfl,?_⟩) ?_
 ·rw[hx j hj,AV,ite_self,jh hj];generalize (xs.take j).foldl gv []=m;have b1:=Oh (mx:=mx) (xs.getD j default).fact;have kp:C0 (JZ m) (.agg [.str (Ay (xs.getD j default).fact).source,.int .i64 (Ay (xs.getD j default).fact).seq]) (.agg [.bool false,.int .i64 0,.int .i64 0,.int .i64 0,.str [],.int .i64 0,.int .i64 0,.int .i64 0,.str [],.str [],.int .i64 0,.sl [],.int .i64 0,.str [],.str [],.str [],.int .i64 0,.int .i64 0,.str [],.str [],.sl [],.int .i64 0,.str [],.str [],.int .i64 0,.sl [],.str [],.int .i64 0,.str [],.str [],.str [],.int .i64 0,.int .i64 0,.str [],.sl [],.int .i64 0,.int .i64 0,.int .i64 0,.sl [],.int .i64 0,.str []]) false=.agg (Dc ((Al m (Ay (xs.getD j default).fact)).getD no0)):=zg m (Ay (xs.getD j default).fact);simp only[Fm,Eg,Nat.reduceAdd];by_cases hk:(xs.getD j default).kind=1
  ·rw[gv,if_neg (fun q=>q hk)];generalize (Al m (Ay (xs.getD j default).fact)).getD no0=b at kp;obtain⟨ba,be⟩:=b;simp only[Dc,AV]at kp;have jo:Ee (JZ m) (.agg [.str (Ay (xs.getD j default).fact).source,.int .i64 (Ay (xs.getD j default).fact).seq]) (.agg (Dc (Le (ba,be) (xs.getD j default))))=_:=zh m (Ay (xs.getD j default).fact) (Le (ba,be) (xs.getD j default));by_cases hsq:be.fact.id.seq<(xs.getD j default).fact.id.seq
   ·have hnx:Le (ba,be) (xs.getD j default)=(ba||decide ((xs.getD j default).fact.kind=1),xs.getD j default):=by simp only[Le,if_pos hsq]
    rw[hnx]at jo⊢;simp only[Dc,AV]at jo;cases ha:(ba||decide ((xs.getD j default).fact.kind=1))
    ·rw[ha]at jo
     (repeat' first|exact Av _|simp(disch:=omega)only[go_sem,simprocAttr,eq_true hk,Ao,AB,AL,Bp,beq_self_eq_true,kp,jo,ha,EA,lv,ne_eq,not_true_eq_false,decide_true,decide_false,eq_true hsq]|refine' AD (fun hq=>?_) (fun f=>?_)<;>try(have je:=hq;try simp only[HB]at je)|refine Sx.s ?_ ?_<;>try(intro h;have h':=h;try simp only[HB]at h';try rewrite [h];try simp only[h])|refine Ab (b1) ?_|refine Ae ?_|fail)
     all_goals(refine⟨rfl,[],?_⟩;simp(disch:=omega)only[go_sem,Nat.reduceEqDiff];try exact⟨rfl,rfl⟩)
    ·rw[ha]at jo
     (repeat' first|exact Av _|simp(disch:=omega)only[go_sem,simprocAttr,eq_true hk,Ao,AB,AL,Bp,beq_self_eq_true,kp,jo,ha,EA,lv,ne_eq,not_true_eq_false,decide_true,decide_false,eq_true hsq]|refine' AD (fun hq=>?_) (fun f=>?_)<;>try(have je:=hq;try simp only[HB]at je)|refine Sx.s ?_ ?_<;>try(intro h;have h':=h;try simp only[HB]at h';try rewrite [h];try simp only[h])|refine Ab (b1) ?_|refine Ae ?_|fail)
     all_goals(refine⟨rfl,[],?_⟩;simp(disch:=omega)only[go_sem,Nat.reduceEqDiff];try exact⟨rfl,rfl⟩)
   ·have hnx:Le (ba,be) (xs.getD j default)=(ba||decide ((xs.getD j default).fact.kind=1),be):=by simp only[Le,if_neg hsq]
    rw[hnx]at jo⊢;simp only[Dc,AV]at jo;cases ha:(ba||decide ((xs.getD j default).fact.kind=1))
    ·rw[ha]at jo
     (repeat' first|exact Av _|simp(disch:=omega)only[go_sem,simprocAttr,eq_true hk,Ao,AB,AL,Bp,beq_self_eq_true,kp,jo,ha,EA,lv,ne_eq,not_true_eq_false,decide_false,eq_false hsq]|refine' AD (fun hq=>?_) (fun f=>?_)<;>try(have je:=hq;try simp only[HB]at je)|refine Sx.s ?_ ?_<;>try(intro h;have h':=h;try simp only[HB]at h';try rewrite [h];try simp only[h])|refine Ab (b1) ?_|refine Ae ?_|fail)
     all_goals(refine⟨rfl,[],?_⟩;simp(disch:=omega)only[go_sem,Nat.reduceEqDiff];try exact⟨rfl,rfl⟩)
    ·rw[ha]at jo;refine A4 (cj b1 (cj hk (cj @Ao.eq_1 (cj @AB.eq_1 (cj @AL.eq_1 (cj @Bp.eq_1 (cj kp (cj jo (cj ha (cj @EA.eq_1 (cj @lv.eq_1 hsq))))))))))) ?_
     all_goals intros
     all_goals(refine⟨rfl,[],?_⟩;simp(disch:=omega)only[go_sem,Nat.reduceEqDiff];try exact⟨rfl,rfl⟩)
  ·rw[gv,if_pos hk];refine By (cj hk (cj @EA.eq_1 @lv.eq_1)) ?_;refine⟨rfl,[],?_⟩;simp(disch:=omega)only[go_sem,Nat.reduceEqDiff]
 ·refine⟨by simp[J5,MR,J8,Qs,J6,sw,Bj,ren,Aa],by simp[J5,MR,J8,Qs,J6,sw,ren,Aa],rfl,?_⟩;show FV 0 _ .normal _
  (repeat' first|simp(disch:=omega)only[go_sem,simprocAttr,J5,MR,J8,Qs,J6,sw,Bj,ren]|refine Sz.s ?_|fail)
end
section
structure DelI{α:Type}[Inhabited α](E:α->List I)(p:α->Bool)(l:List α)(i j:Nat)(R:List (List I)):Prop where
 hj:j<=l.length
 len:R.length=l.length
 cnt:i=((l.take j).filter fun x=>!p x).length
 lt:i<j
 tk:R.take i=((l.take j).filter fun x=>!p x).map E
 dr:R.drop j=(l.drop j).map E
 rw_:∀q,q<R.length->(R.getD q []).length=(E default).length
theorem cz{α:Type}[Inhabited α](p:α->Bool){l:List α}{j:Nat}(hj:j<l.length):(l.take (j+1)).filter (fun x=>!p x)=if p (l.getD j default)=true then(l.take j).filter (fun x=>!p x)else(l.take j).filter (fun x=>!p x)++[l.getD j default]:=by grind[PQ]
theorem DelI.skip{α:Type}[Inhabited α]{E:α->List I}{p:α->Bool}{l:List α}{i j:Nat}{R:List (List I)}(h:DelI E p l i j R)(hj:j<l.length)(hp:p (l.getD j default)=true):DelI E p l i (j+1) R:=by have e:=cz p hj;rw[if_pos hp]at e;exact⟨hj,h.len,by rw[e];exact h.cnt,by have:=h.lt;omega,by rw[e];exact h.tk,by rw[<-List.drop_drop,h.dr,<-List.map_drop,List.drop_drop],h.rw_⟩
theorem DelI.keep{α:Type}[Inhabited α]{E:α->List I}{p:α->Bool}{l:List α}{i j:Nat}{R:List (List I)}(hE:∀x,(E x).length=(E default).length)(h:DelI E p l i j R)(hj:j<l.length)(hp:p (l.getD j default)=false):DelI E p l (i+1) (j+1) (R.set i (E (l.getD j default))):=by
 have e:=cz p hj;rw[if_neg (by rw[hp];simp)]at e;have hi:=h.lt;have hl:=h.len;refine⟨hj,by simp[h.len],by rw[e,List.length_append,<-h.cnt];rfl,by omega,?_,?_,fun q hq=>?_⟩
 ·rw[e,List.map_append,<-h.tk,List.take_succ_eq_append_getElem (by simp;omega)];rw[List.take_set_of_le (Nat.le_refl _)];simp
 ·rw[List.drop_set_of_lt (by omega),<-List.drop_drop,h.dr,<-List.map_drop,List.drop_drop]
 ·simp only[List.length_set]at hq;rw[List.getD_eq_getElem?_getD,List.getElem?_set];by_cases e2:i=q
  ·subst e2;rw[if_pos rfl,if_pos hq];exact hE _
  ·rw[if_neg e2,<-List.getD_eq_getElem?_getD];exact h.rw_ q hq
end
section
theorem eRw_eq(x:Rw):SN x=[.str x.id.source,.int .i64 x.id.seq,.str x.table,.str x.key,.int .i64 x.event,.sl (x.fields.map Bn),.int .i64 x.no,.int .i64 x.tick]:=rfl
end
section
theorem cA(nm:Nat)(hn:nm<5000)(l m:List Rw)(hl:l.length<4611686018427387904)(hm:m.Pairwise B7)(hp:m.Perm l):MC Tryz.prog (OE mx) 81 [.ref (.sl nm 8 0 l.length),.i (.fn 82 [] [])] [(nm,.rows 90 8 (l.map SN))] []
  (fun r s=>r=.i (.tup [])/\s=[(nm,.rows 90 8 (m.map SN))]):=by
 have e1:MS [(5000,nm)] 5000=nm:=by rfl
 have h:=(MC.as [(5000,nm)] (yR (mx:=mx) l m hl hm hp)).mono (R':=fun r s=>r=.i (.tup [])/\s=[(nm,.rows 90 8 (m.map SN))]) (by
  rintro r s ⟨h1,h2⟩;have k:=Ex (f:=J6 [(5000,nm)]) (g:=MS [(5000,nm)]) (Cb _) r;have k2:=FQ (f:=J6 [(5000,nm)]) (g:=MS [(5000,nm)]) (Cb _) s;rw[h1]at k;rw[h2]at k2;refine⟨k.symm,?_⟩;rw[<-k2];simp only[J5,MR,e1])
 simp only[List.map_cons,List.map_nil,J8,Qs,J5,MR,e1]at h;exact h
def Ie(ids:List (Fid×Bool))(p:Fid×Dy):Option Rw:=if(!p.2.1||decide (p.2.2.fact.kind=3)||inG ids p.1)=true then none else some (JY p.2.2 p.1)
def rowsB(ids:List (Fid×Bool))(m:List (Fid×Dy)):List Rw:=m.filterMap (Ie ids)
def Lf(l:List Rw):List Rw:=l.mergeSort fun a b=>!decide (FC b a<0)
theorem Qe(l:List Rw):(Lf l).Perm l:=List.mergeSort_perm l _
theorem cB{l:List Rw}(hn:l.Pairwise fun a b=>a.id≠b.id):(Lf l).Pairwise B7:=by
 have h1:=List.pairwise_mergeSort (le:=fun a b:Rw=>!decide (FC b a<0)) (fun a b c h k=>by
  simp only[Bool.not_eq_true',decide_eq_false_iff_not]at*;intro hca;have:=bZ.ntrans c b a (by simpa using k) (by simpa using h);rw[decide_eq_false_iff_not]at this;exact this hca) (fun a b=>by
  simp only[Bool.or_eq_true,Bool.not_eq_true',decide_eq_false_iff_not];by_cases h:FC b a<0
  ·exact .inr fun k=>I0.irr a (I0.tr a b a k h)
  ·exact .inl h) l
 have h2:(Lf l).Pairwise fun a b=>a.id≠b.id:=((Qe l).pairwise_iff (fun{a b} (h:a.id≠b.id)=>h.symm)).2 hn
 have h1:(Lf l).Pairwise fun a b=>(!decide (FC b a<0))=true:=h1
 refine(h1.and h2).imp fun{a b} h=>?_
 have h3:¬FC b a<0:=by simpa using h.1
 rcases R3 a b with q|q|q
 ·exact q
 ·exact absurd q.2 h.2
 ·exact absurd q h3
theorem zl(m:List (Fid×Dy))(x:Ent)(h:(m.map (·.1)).Nodup):((gv m x).map (·.1)).Nodup:=by grind[gv,KL]
theorem cC:∀(l:List Ent) (m:List (Fid×Dy)),(m.map (·.1)).Nodup->((l.foldl gv m).map (·.1)).Nodup
 |[],m,h=>h
 |x::l,m,h=>cC l _ (zl m x h)
theorem Vs(l:List Ent)(tick:Int):((I1 l tick).map (·.1)).Nodup:=cC _ _ (by simp)
theorem cD:∀(l:List Ent) (m:List (Fid×Dy)),(l.foldl gv m).length<=m.length+l.length
 |[],m=>by simp
 |x::l,m=>by
  have h1:=cD l (gv m x);have h2:(gv m x).length<=m.length+1:=by
   unfold gv;split
   ·omega
   ·have:=congrArg List.length (KL m (Ay x.fact) (Le ((Al m (Ay x.fact)).getD no0) x));split at this<;>simp at this<;>omega
  simp only[List.foldl_cons,List.length_cons];omega
theorem zm{ids:List (Fid×Bool)}{p:Fid×Dy}{r:Rw}(h:Ie ids p=some r):r.id=p.1:=by
 unfold Ie at h;split at h
 ·cases h
 ·cases h;rfl
theorem Vt(ids:List (Fid×Bool)):∀(m:List (Fid×Dy)),(m.map (·.1)).Nodup->(rowsB ids m).Pairwise fun a b=>a.id≠b.id
 |[],_=>List.Pairwise.nil
 |p::m,h=>by
  rw[List.map_cons,List.nodup_cons]at h;have ih:=Vt ids m h.2;unfold rowsB at ih⊢;cases hp:Ie ids p with
  |none=>rw[List.filterMap_cons_none hp];exact ih
  |some r=>rw[List.filterMap_cons_some hp,List.pairwise_cons];refine⟨fun b hb=>?_,ih⟩;obtain⟨q,hq,hqb⟩:=List.mem_filterMap.1 hb;grind[zm]
def Lg(l:List Ent)(tick:Int):List Rw:=Lf (rowsB (OH l l.length).ids (I1 l tick))
theorem zn(l:List Ent)(tick:Int)(hl:l.length<=30000):MC Tryz.prog (OE mx) 35 [.i (.sl (l.map Ac)),.i (iI tick)] [] [] (fun r s=>r=.ref (.sl 6000 8 0 (Lg l tick).length)/\s=[(6000,.rows 90 8 ((Lg l tick).map SN))]):=by
 have e0:=Vo (mx:=mx) l (by omega);have e1:=zk (mx:=mx) l tick (by omega);have hk:=Vs l tick;have qp:(I1 l tick).length<=l.length:=by grind[cD,BM,I1]
 unfold Lg;generalize (OH l l.length).ids=ids at e0;generalize I1 l tick=bs at e1 hk qp;have hsorted:=cB (Vt ids bs hk);simp only[JZ,Ao]at e1;refine MX F35 ?_;refine Dp (cj e0 e1) ?_;refine lT [5,14] (fun g:List Rw×List (Fid×Dy)×Option (I×I)=>[(4,.ref (.sl 4 8 0 g.1.length))]) (fun g=>[(14,.iter g.2.2 (g.2.1.map fun p=>(.agg [.str p.1.source,.int .i64 p.1.seq],.agg (Dc p.2)))),(4,.rows 90 8 (g.1.map SN))]) (fun g=>(g.1++rowsB ids g.2.1).Perm (rowsB ids bs)/\g.1.length+g.2.1.length<=bs.length) (fun g=>g.2.1.length) ([],bs,none) ?_ ⟨by simp,by simp⟩;rintro⟨acc,rest,cur⟩ ⟨jb,jd⟩;simp only at jd jb;have kp:=fun id:Fid=>R5 ids id
 simp(disch:=omega)only[go_sem,Nat.reduceEqDiff];refine Mb (fun hr=>?_) (fun q hq=>?_)
 ·subst hr;have hp:acc.Perm (rowsB ids bs):=by grind[rowsB]
  have vt:(Lf (rowsB ids bs)).length=acc.length:=((Qe _).trans hp.symm).length_eq
  (repeat' first|simp(disch:=omega)only[go_sem,simprocAttr]|(first|refine HO (cA 4 (by decide) acc (Lf (rowsB ids bs)) (by omega) hsorted ((Qe _).trans hp.symm)) ?_ (fun r sto' hR=>?_)|refine EW (cA 4 (by decide) acc (Lf (rowsB ids bs)) (by omega) hsorted ((Qe _).trans hp.symm)) ?_ (fun r sto' hR=>?_);(focus(first|rfl|(simp only[go_sem,simprocAttr,Nat.sub_zero];done)));first|(obtain⟨rfl,rfl⟩:=hR)|(obtain⟨_,(rfl|rfl),rfl,rfl⟩:=hR))|refine Ae ?_|fail)
  rw[<-vt];refine EX [(4,6000)] ?_;simp[YI]
 ·have hpm:=Ry hq;have wq:(rest.eraseIdx q).length+1=rest.length:=by grind
  have qr:∀acc':List Rw,acc'=acc++(Ie ids rest[q]).toList->(acc'++rowsB ids (rest.eraseIdx q)).Perm (rowsB ids bs):=fun acc' e=>by
   subst e;refine List.Perm.trans ?_ jb;have h1:((Ie ids rest[q]).toList++rowsB ids (rest.eraseIdx q)).Perm (rowsB ids rest):=by grind[Ie,rowsB]
   rw[List.append_assoc];exact List.Perm.append_left acc h1
  clear hpm;generalize rest[q]=p at qr⊢;generalize hrest:rest.eraseIdx q=rest' at qr wq⊢;obtain⟨id,ba,be⟩:=p;have kp:=R5 ids id;have w6:=JV bB bC (JY be id);rw[eRw_eq]at w6;simp only[JY]at w6;have ke:List.take acc.length (acc.map SN)=acc.map SN:=List.take_of_length_le (by simp);have ko:Ie ids (id,ba,be)=if(!ba||decide (be.fact.kind=3)||inG ids id)=true then none else some (JY be id):=rfl
  rw[ko]at qr;cases ba
  ·refine Hw (cj @Dc.eq_1 @AV) ?_;exact⟨(acc,rest',some (.agg (Ao id),.agg (Dc (false,be)))),⟨qr acc (by simp),by simp only;omega⟩,by simp only;omega,rfl,by simp only[Dc,AV,Ao],rfl⟩
  ·by_cases qh:be.fact.kind=3
   ·(repeat' first|simp(disch:=omega)only[go_sem,simprocAttr,Dc,AV,eq_true qh]|refine Ae ?_|fail)
    exact⟨(acc,rest',some (.agg (Ao id),.agg (Dc (true,be)))),⟨qr acc (by simp[qh]),by simp only;omega⟩,by simp only;omega,rfl,by simp only[Dc,AV,Ao],rfl⟩
   ·cases kh:inG ids id
    ·rw[kh]at kp;refine By (cj @Dc.eq_1 (cj @AV (cj qh (cj kp (cj @AB.eq_1 (cj @AL.eq_1 (cj @Bp.eq_1 (cj w6.1 (cj w6.2 ke))))))))) ?_;refine⟨of_eq_true (R6 ids),by omega,by omega,(acc++[JY be id],rest',some (.agg (Ao id),.agg (Dc (true,be)))),⟨qr _ (by simp[qh,kh]),by simp only[List.length_append,List.length_cons,List.length_nil];omega⟩,by simp only;omega,by rw[List.length_append];rfl,by simp only[Dc,AV,Ao],?_⟩;rw[List.map_append,List.map_cons,List.map_nil,eRw_eq (JY be id)];rfl
    ·rw[kh]at kp;refine By (cj @Dc.eq_1 (cj @AV (cj qh (cj kp (cj @AB.eq_1 (cj @AL.eq_1 @Bp.eq_1)))))) ?_;exact⟨of_eq_true (R6 ids),(acc,rest',some (.agg (Ao id),.agg (Dc (true,be)))),⟨qr acc (by simp[qh,kh]),by simp only;omega⟩,by simp only;omega,rfl,by simp only[Dc,AV,Ao],rfl⟩
end
section
theorem Vu(l:List Ent)(tick:Int)(hl:l.length<=30000):Is mx 35 [.sl (l.map Ac),iI tick] (.sl ((Lg l tick).map SN)):=(zn l tick hl).sl
end
section
theorem Vv(c:Cat)(f:Fct)(hc:AP c<=1073741824)(hf:Bz f<=1073741824):Is mx 22 [.agg (At c),.agg (Ap f)] (iI (C2 c f)):=by
 have h0:=IM f;have hvl:=PG f.fields;have lt:=H2 c.tables;have hb:=Ce c;have h1:=yN (mx:=mx) f;have h2:=bQ (mx:=mx) c f.table (by omega);have hR:=C2.eq_1 c f;refine MX F22 ?_;cases vu:H8 f
 ·rw[vu]at h1;rw[if_pos vu]at hR;rw[hR];exact Dp h1 trivial
 ·rw[vu]at h1;rw[if_neg (by rw[vu];simp)]at hR;by_cases h3:f.kind=3
  ·rw[if_pos h3]at hR;rw[hR];exact Dp (cj h1 h3) trivial
  ·rw[if_neg h3]at hR;cases ht:AU c.tables f.table with
   |none=>rw[ht]at h2 hR;rw[hR];simp only[Hm,Option.getD_none,Option.isSome_none]at h2;exact Dp (cj h1 (cj h2 h3)) trivial
   |some t=>
    rw[ht]at h2 hR;simp only at hR;simp only[Hm,Option.getD_some,Option.isSome_some]at h2;by_cases hl:f.fields.length=t.fields.length
    ·rw[if_neg (by omega)]at hR;have hlF:((f.fields.length:Int)=(t.fields.length:Int))=True:=eq_true (by omega);refine A4 (cj h1 (cj h2 (cj h3 hlF))) ?_;refine lS [5,32,33] (fun i=>[(34,.i (iI i))]) (fun _=>[]) (fun i=>eqL PU f.fields t.fields=eqL PU (f.fields.drop i) (t.fields.drop i)) f.fields.length ?_;intro i hi jb;by_cases ja:i<f.fields.length
     ·have jt:i<t.fields.length:=by omega
      have jh:=HU jb ja jt;have h4:=vK (mx:=mx) (f.fields.getD i default) (t.fields.getD i default).typ;refine Kas (cj h4 (cj (Cq ja) (Cq jt))) (cj ?_ ?_)
      ·intro h h';rw[hR,bm jh h];rfl
      ·intro h h';exact IH jh h
     ·rw[hR,HV jb (by omega) (by omega)];exact Hw (Ih ja) trivial
    ·rw[if_pos hl]at hR;rw[hR];have hlF:((f.fields.length:Int)=(t.fields.length:Int))=False:=eq_false (by omega);exact A4 (cj h1 (cj h2 (cj h3 hlF))) trivial
end
section
theorem zo(n:Int):Is mx 69 [iI n] (.bool (decide (0<=n)&&decide (n<=1099511627776))):=by refine MX F69 ?_;exact WB trivial
theorem zp(s:AT)(hs:s.length<=1073741824):Is mx 101 [.str s] (.bool (JQ s)):=by
 refine MX nv ?_;cases hb:(decide ((s.length:Int)<1)||decide ((32:Int)<(s.length:Int)))
 ·simp only[Bool.or_eq_false_iff,decide_eq_false_iff_not]at hb;have ko:(decide ((s.length:Int)<1)||decide ((32:Int)<(s.length:Int)))=false:=by grind
  have hk:JQ s= !s.any (CI 33):=by have e1:decide (1<=(s.length:Int))=true:=decide_eq_true (by omega);have e2:decide ((s.length:Int)<=32)=true:=decide_eq_true (by omega);simp[JQ,e1,e2]
  rw[hk];refine Dp ko ?_;refine lS [14,15] (fun i=>[(16,.i (iI i))]) (fun _=>[]) (fun i=>(s.take i).all (fun c=>!CI 33 c)=true) s.length ?_;intro i hi jb;have hrb:(Dl.rowsB s).length=s.length:=by simp[Dl.rowsB]
  by_cases ja:i<s.length
  ·have hrg:(Dl.rowsB s).getD i []=[I.int .u8 ((s.getD i default).toNat:Int)]:=by simp[Dl.rowsB,List.getD,List.getElem?_eq_getElem ja]
   cases wy:CI 33 (s.getD i default)
   ·have hbd2:=wy;unfold CI at hbd2;refine Ka (cj hrb (cj (Cq ja) (cj hrg hbd2))) ?_;exact BR (d:=default) jb ja (by rw[wy];rfl)
   ·have hbd2:=wy;unfold CI at hbd2;have:s.any (CI 33)=true:=by grind
    rw[this];exact Dp (cj hrb (cj (Cq ja) (cj hrg hbd2))) trivial
  ·rw[List.take_of_length_le (by omega),List.all_eq_true]at jb;have:s.any (CI 33)=false:=by grind
   rw[this];exact Hw (cj hrb (Ih ja)) trivial
 ·have hk:JQ s=false:=by grind[JQ]
  rw[hk];exact Dp hb trivial
theorem zq(x:Ers)(hx:DD x<=1073741824):Is mx 71 [.agg (BL x)] (.bool (D8 x)):=by
 have h0:x.key.length<=1073741824:=by grind[DD,Hf]
 have h1:=zp (mx:=mx) x.key h0;refine MX F71 ?_
 (repeat' first|exact Av _|simp(disch:=omega)only[go_sem,simprocAttr]|refine' AD (fun hq=>?_) (fun f=>?_)<;>try(have je:=hq;try simp only[HB]at je)|refine Sx.s ?_ ?_<;>try(intro h;have h':=h;try simp only[HB]at h';try rewrite [h];try simp only[h])|refine Ab (FZ _) ?_|refine Ab (h1) ?_|refine Ae ?_|refine Sz.s ?_|fail)
 all_goals(refine congrArg I.bool ?_;simp only[D8,FH,Cy,Cz,Hk];first|done|(grind(splits:=20)))
theorem zt(f:Fct):Is mx 99 [.agg (Ap f)] (.bool (JR f)):=by
 refine MX F99 ?_;refine WB ?_
 all_goals intros
 all_goals(refine congrArg I.bool ?_;simp only[JR,FH,Cy,Cz];first|done|(grind(splits:=20)))
def Ok(x:Xpr):Bool:=decide (x.kind=0)&&decide (x.op=[])&&decide (x.name=[])&&decide (x.table=[])&&decide (x.val=F1)&&decide ((x.unit.length:Int)=0)&&decide (x.param=0)&&decide (x.win=Fv)&&decide ((x.args.length:Int)=0)
theorem Vw(a b:Val):decide (a=b)=(decide (a.kind=b.kind)&&(decide (a.n=b.n)&&decide (a.s=b.s))):=by cases a;cases b;simp
theorem Vx(a b:Win):decide (a=b)=(decide (a.kind=b.kind)&&decide (a.size=b.size)):=by cases a;cases b;simp
theorem zu(x:Xpr):Is mx 127 [.agg (eE x)] (.bool (Ok x)):=by
 refine MX rD ?_;refine WB ?_
 all_goals intros
 all_goals(refine congrArg I.bool ?_;simp only[Ok,Vw,Vx,Cy,Cz];first|done|(grind(splits:=20)))
theorem R8{α β:Type}(p:α->β->Bool)(l:List α):eqL p l []=decide ((l.length:Int)=0):=by
 cases l with
 |nil=>rfl
 |cons a r=>rw[decide_eq_false (by simp;omega)];rfl
theorem zv(x:Xpr):gh x noX=Ok x:=by rw[Px];have e1:eqL Gb x.unit noX.unit=decide ((x.unit.length:Int)=0):=R8 _ _;have e2:eqL gh x.args noX.args=decide ((x.args.length:Int)=0):=R8 _ _;rw[e1,e2];have f1:noX.kind=0:=rfl;have f2:noX.op=[]:=rfl;have f3:noX.name=[]:=rfl;have f4:noX.table=[]:=rfl;have f5:noX.val=F1:=rfl;have f6:noX.param=0:=rfl;have f7:noX.win=Fv:=rfl;have f8:(noX.args.length:Int)=0:=rfl;rw[f1,f2,f3,f4,f5,f6,f7,f8];simp only[Ok,Vw,Vx,CJ,Cy,Cz];grind
theorem zw(t:Typ):Mp t AK=(decide (t.kind=0)&&decide (t.of=[])&&decide ((t.unit.length:Int)=0)):=by unfold Mp;have e1:eqL Gb t.unit AK.unit=decide ((t.unit.length:Int)=0):=R8 _ _;rw[e1]
theorem cE(t:Tbl):Gf t BB=(decide (t.name=[])&&decide (t.entity=[])&&decide (t.keep=0)&&decide ((t.fields.length:Int)=0)):=by unfold Gf;have e1:eqL Mt t.fields BB.fields=decide ((t.fields.length:Int)=0):=R8 _ _;grind
theorem cF(f:Ftr):GF f CL=(decide (f.typ.kind=0)&&decide (f.typ.of=[])&&decide ((f.typ.unit.length:Int)=0)&&Ok f.body&&decide (f.name=[])&&decide (f.entity=[])&&decide (f.version=0)):=by simp[GF,zw,zv]
@[go_sem] theorem aM0(f:Ftr):pk false (Ag f) 2 1=.int .i64 f.typ.kind:=by rfl
@[go_sem] theorem aM1(f:Ftr):pk false (Ag f) 3 1=.sl (f.typ.unit.map Aw):=by rfl
@[go_sem] theorem aM2(f:Ftr):pk false (Ag f) 4 1=.str f.typ.of:=by rfl
theorem zx(x:Chg):Is mx 100 [.agg (AE x)] (.bool (IV x)):=by
 have h1:=zu (mx:=mx) x.feature.body;refine MX rr ?_;refine Dp h1 ?_
 all_goals intros
 all_goals(refine congrArg I.bool ?_;simp only[IV,cE,cF];first|done|(grind(splits:=20)))
theorem zy(x:Ent):Is mx 70 [.agg (Ac x)] (.bool (Fb x)):=by
 have h1:=zt (mx:=mx) x.fact;have h2:=zx (mx:=mx) x.change;refine MX F70 ?_
 (repeat' first|exact Av _|simp(disch:=omega)only[go_sem,simprocAttr]|refine' AD (fun hq=>?_) (fun f=>?_)<;>try(have je:=hq;try simp only[HB]at je)|refine Sx.s ?_ ?_<;>try(intro h;have h':=h;try simp only[HB]at h';try rewrite [h];try simp only[h])|refine Ab (h1) ?_|refine Ab (h2) ?_|refine Ae ?_|refine AG ?_|refine Sz.s ?_|fail)
 all_goals(refine congrArg I.bool ?_;simp only[Fb,bw,FH,Cy,Cz];first|done|(grind(splits:=20)))
end
section
theorem cG(t:Tbl):Is mx 133 [.agg (AR t)] (.bool (Gf t BB)):=by
 refine MX oQ ?_;refine WB ?_
 all_goals intros
 all_goals(refine congrArg I.bool ?_;simp only[cE];first|done|(grind(splits:=20)))
theorem cH(f:Ftr):Is mx 130 [.agg (Ag f)] (.bool (GF f CL)):=by
 refine MX pT ?_;refine WB ?_
 all_goals intros
 all_goals(refine congrArg I.bool ?_;simp only[cF,Ok,Vw,Vx,Cy,Cz];first|done|(grind(splits:=20)))
theorem cI(l:List Ftr)(hl:l.length<=1073741824):MC Tryz.prog (OE mx) 234 [.i (.sl (l.map Ag))] [] []
  (fun r s=>r=.ref (.sl 6000 18 0 l.length)/\s=[(6000,.rows 62 18 (l.map Ag))]):=by
 refine MX qH ?_;have hr:=Bi (f:=Ag) (k:=18) l C9 Do
 (repeat' first|simp(maxSteps:=9999999) (disch:=omega)only[go_sem,reduceCtorEq,Nat.reduceSub,Nat.reduceEqDiff,Nat.reduceLeDiff,Nat.zero_add]|refine Pk (fun h=>?_) (fun h=>?_)<;>(have h':=h;try simp only[HB]at h';try rewrite [h];try simp only[h])|refine Ae ?_|refine Rf (fun wm b=>?_) (fun wm=>?_)|fail)
 ·have e:l=[]:=by simpa using wm
  subst e;cases h';refine Ez [(2,6000)] (by simp only[go_sem,V10];rfl) (by simp[YI];rfl) (by decide) (by simp[V0,I9,L9,Ref.nm]) ?_;simp[YI]
 ·refine⟨hr.1,hr.2,by omega,by omega,?_⟩;refine Ez [(5,6000)] (by simp only[go_sem,V10];rfl) (by simp[YI];rfl) (by decide) (by simp[V0,I9,L9,Ref.nm]) ?_;simp[YI]
 ·simp at h
 ·refine⟨hr.1,hr.2,by omega,by omega,?_⟩;refine Ez [(5,6000)] (by simp only[go_sem,V10];rfl) (by simp[YI];rfl) (by decide) (by simp[V0,I9,L9,Ref.nm]) ?_;simp[YI]
@[go_sem] theorem aM3(st:St)(K:St->Prop)(nm k lo hi:Nat)(l:Option D)(h m:D)(d:Nat):Kp (.ref (.sl nm k lo hi)) l h m d st K=(Ni (hi-lo) (WP l) (HF h) (HF m)/\K (st.put d .any)):=rfl
theorem I2:∀xs:List (List I),FN (xs.map some)=some xs
 |[]=>rfl
 |x::r=>by simp[FN,I2 r]
theorem zz{α:Type}(f:α->List I)(l:List α)(k c:Nat)(hk:k<l.length):∃z:List I,setL (List.map some (List.map f l)++List.replicate c none) k (List.map some (List.map f (List.drop (k+1) l)))=List.map some ((Bd l k).map f++[z])++List.replicate c none:=by
 refine⟨f l[l.length-1],?_⟩;have e:l.drop (l.length-1)=[l[l.length-1]]:=by rw[List.drop_eq_getElem_cons (by omega),List.drop_of_length_le (by omega)]
 have hn:k+(l.length-(k+1))=l.length-1:=by omega
 simp only[setL,Bd,List.length_map,List.length_drop,hn];rw[List.take_append_of_le_length (by simp;omega),List.drop_append_of_le_length (by simp),<-List.map_drop,<-List.map_drop,e];simp
theorem zA{A:List (List I)}{z zr:List I}{c n m:Nat}(hn:A.length=n)(hm:m=1):setL (List.map some (A++[z])++List.replicate c none) n (List.replicate m (some zr))=List.map some (A++[zr])++List.replicate c none:=by
 subst hm;subst hn;have e:List.map some (A++[z])++List.replicate c none=List.map some A++(some z::List.replicate c none):=by simp
 have e2:List.drop (A.length+1) (List.map some A++(some z::List.replicate c none))=List.replicate c none:=by rw[<-List.drop_drop,List.drop_left' (by simp)];rfl
 simp[setL,e2]
@[go_sem] theorem aM4(st:St)(K:St->Prop)(nm k lo hi:Nat)(z:List I)(d:Option Nat):LS (.ref (.sl nm k lo hi)) z d st K=Jp (Aa st.sto nm) nm k lo hi z d st K:=rfl
@[go_sem] theorem aM5(st:St)(K:St->Prop)(e k:Nat)(rs:List (Option (List I)))(nm k0 lo hi:Nat)(z:List I)(d:Option Nat):Jp (some (.arr e k rs)) nm k0 lo hi z d st K=(k0=k/\z.length=k/\hi<=rs.length/\K (putO (st.setB nm (.arr e k (setL rs lo (List.replicate (hi-lo) (some z))))) d (.i (.tup [])))):=rfl
theorem zB(l:List Ftr)(k:Nat)(hl:l.length<=1073741824)(hk:k<l.length):MC Tryz.prog (OE mx) 235 [.ref (.sl 5000 18 0 l.length),.i (iI k),.i (iI (k+1))] [(5000,.rows 62 18 (l.map Ag))] []
  (fun r s=>r=.ref (.sl 5000 18 0 (l.length-1))/\s=[(5000,.rows 62 18 ((Bd l k).map Ag++[Ag CL]))]):=by
 refine MC.rowsOut (T4 (R:=fun r s=>r=.ref (.sl 5000 18 0 (l.length-1))/\∃j,s=[(5000,.arr 62 18 (((Bd l k).map Ag++[Ag CL]).map some++j))]) fun c=>?_) fun r s ⟨hr,j,hs⟩=>⟨5000,_,_,_,j,[],hs,hr,rfl⟩
 have h1:=Bi (l.take k) C9 Do;have h2:=Bi (l.drop (k+1)) C9 Do;have h0:=Bi l C9 Do;have e0:((k:Int)+1).toNat=k+1:=by omega
 have e1:((k:Int)=(k:Int)+1)=False:=by simp;omega
 have e2:FN (List.drop (k+1) (List.take l.length (List.map some (List.map Ag l)++List.replicate c none)))=some ((l.drop (k+1)).map Ag):=by rw[List.take_left' (by simp),<-List.map_drop,I2,List.map_drop]
 refine MX rY ?_
 (repeat' first|simp(maxSteps:=9999999) (disch:=omega)only[go_sem,reduceCtorEq,Int.reduceLE,Nat.reduceAdd,Nat.reduceEqDiff,Nat.zero_add,Nat.sub_zero,e0,e1,e2,Nat.le_add_right]|refine Ae ?_|refine AG ?_|(refine And.intro ?_ ?_;focus omega))
 refine⟨h2,fun _=>?_,fun h=>absurd h (by simp;omega)⟩;obtain⟨z,e3⟩:=zz Ag l k c hk;have e4:k+(List.drop (k+1) l).length=l.length-1:=by simp;omega
 have e5:((Bd l k).map Ag).length=l.length-1:=by grind[Bd]
 have e6:(List.map some (List.map Ag (Bd l k)++[z])++List.replicate c none).length=l.length+c:=by grind
 have e7:l.length-(l.length-1)=1:=by omega
 have e8:((l.length-1:Nat):Int)<=l.length:=by omega
 rw[e3,e4]
 (repeat' first|simp(maxSteps:=9999999) (disch:=omega)only[go_sem,reduceCtorEq,Nat.reduceAdd,Nat.reduceEqDiff,Nat.zero_add,Nat.sub_zero,zA e5,e6,e7,e8,Nat.le_add_right]|(refine And.intro ?_ ?_;focus omega))
 generalize hq:(List.map some (List.map Ag (Bd l k)++[_])++List.replicate c (none:Option (List I)))=q;have hz:q=List.map some (List.map Ag (Bd l k)++[Ag CL])++List.replicate c (none:Option (List I)):=hq.symm;refine Ez [(5000,5000)] (s':=[(5000,.arr 62 18 q)]) rfl rfl (by decide) rfl ⟨rfl,List.replicate c none,?_⟩;rw[<-hz];rfl
end
section
theorem zC{Q:Program}(w:World)(tS tR e:TypeId)(ht:Q.underlying tS=some (.slice e))(size:Nat)(hz:∀w,(Go.sizeOf e).run Q w=.ok size w)
  (a b:Addr)(la ca lb cb:Nat)(ji:a.block≠b.block)(tA tB:TypeId)(kA kB:Nat)
  (hsa:w.shape? a.block=some (tA,kA))(wx:w.shape? b.block=some (tB,kB))(hkA:kA≠0)
  (hfb:w.frozen? b=false)(qa:w.frozen? {block:=b.block,off:=kB}=false):
  (Extern.SlicesOverlaps.overlaps #[tS,tS] #[tR] #[.slice (some a) la ca,.slice (some b) lb cb]).run Q w=.ok (.bool false) w:=by
 have hnb:(a.block !=b.block)=true:=by grind
 have hnb':(a.block==b.block)=false:=by grind
 change Sem.run Q (α:=Value) (do
  let some t:=(#[tS,tS]:Array TypeId)[0]? |stuck "slices.overlaps: no parameter types"
  let .slice elem <-underlying t|stuck "slices.overlaps: slice type expected"
  let size <-sizeOf elem
  match(some a:Option Addr),(some b:Option Addr)with
  |some a,some b=>
   if la=0\/lb=0\/size=0 then pure (Value.bool false)
   else if a.block !=b.block&&(<-frozen a)&&(<-frozen b)then unsupported .addressObserved
   else do
    if a.block !=b.block then do
     noView a;noView b
     if<-mayBeOne a b then return Value.bool ((<-choose (.extern "sameAddr.stringBytes" 2))==1)
    pure (Value.bool (a.block==b.block&&a.off<b.off+lb*size&&b.off<a.off+la*size))
  |_,_=>pure (Value.bool false)) w=_
 by_cases h0:la=0\/lb=0\/size=0
 ·simp[run_underlying ht,hz,h0]
 ·cases kA with
  |zero=>exact absurd rfl hkA
  |succ kA=>cases hfa:w.frozen? a<;>cases hfa2:w.frozen? {block:=a.block,off:=kA+1}<;>simp[run_underlying ht,hz,h0,hnb,hnb',frozen,noView,viewAt,mayBeOne,stringish,shape,Sem.run,hsa,wx,hfa,hfa2,hfb,qa]
theorem MJ{Q:Program}(w:World)(tS tR e:TypeId)(ht:Q.underlying tS=some (.slice e))(size:Nat)(hz:∀w,(Go.sizeOf e).run Q w=.ok size w)
  (a b:Option Addr)(la ca lb cb:Nat)(h0:a=none\/b=none\/la=0\/lb=0):
  (Extern.SlicesOverlaps.overlaps #[tS,tS] #[tR] #[.slice a la ca,.slice b lb cb]).run Q w=.ok (.bool false) w:=by
 change Sem.run Q (α:=Value) (do
  let some t:=(#[tS,tS]:Array TypeId)[0]? |stuck "slices.overlaps: no parameter types"
  let .slice elem <-underlying t|stuck "slices.overlaps: slice type expected"
  let size <-sizeOf elem
  match a,b with
  |some a,some b=>
   if la=0\/lb=0\/size=0 then pure (Value.bool false)
   else if a.block !=b.block&&(<-frozen a)&&(<-frozen b)then unsupported .addressObserved
   else do
    if a.block !=b.block then do
     noView a;noView b
     if<-mayBeOne a b then return Value.bool ((<-choose (.extern "sameAddr.stringBytes" 2))==1)
    pure (Value.bool (a.block==b.block&&a.off<b.off+lb*size&&b.off<a.off+la*size))
  |_,_=>pure (Value.bool false)) w=_
 cases a with
 |none=>simp[run_underlying ht,hz]
 |some a=>
  cases b with
  |none=>simp[run_underlying ht,hz]
  |some b=>
   have h1:la=0\/lb=0\/size=0:=by grind
   simp[run_underlying ht,hz,h1]
theorem cJ{f:FuncId}{tS tR e:TypeId}{k:Nat}(rows:List (List I))(rs:List (Option (List I)))(lo hi:Nat)(hk:0<k)(h1:∀r∈rows,r.length=k)
  (hc:∀vs w,(callFunc f vs).run Tryz.prog w=((Extern.SlicesOverlaps.overlaps #[tS,tS] #[tR] vs).run Tryz.prog w).andThen fun v w'=>.ok (.value v) w')
  (ht:Tryz.prog.underlying tS=some (.slice e))(hz:∀w,(Go.sizeOf e).run Tryz.prog w=.ok k w)(hfy:Nat.blt f 1000000000=true):
  MC Tryz.prog (OE mx) f [.i (.sl rows),.ref (.sl 5000 k lo hi)] [(5000,.arr e k rs)] [] (fun r s=>r=.i (.bool false)/\s=[(5000,.arr e k rs)]):=by
 unfold MC;intro M μ w vs h2 h3 h4;obtain⟨l⟩:=vs
 match l,h4.1 with
 |[v,u],_=>
  have hv:Rep M (.sl rows) v:=h4.2 0 (by simp) (by simp);have hu:AI M μ (names [(5000,Blk.arr e k rs)]) (.ref (.sl 5000 k lo hi)) u:=h4.2 1 (by simp) (by simp);have key:(Extern.SlicesOverlaps.overlaps #[tS,tS] #[tR] #[v,u]).run Tryz.prog w=.ok (.bool false) w:=by
   obtain⟨hN,hs⟩:=hu;obtain⟨a,cap,hp,hlh,hhc,hs⟩:=hs;rcases hs with⟨_,a',rfl⟩|⟨b,o,rfl,rfl⟩
   ·cases hv with
    |slnil=>exact MJ w tS tR e ht k hz _ _ _ _ _ _ (.inl rfl)
    |slempty a cap=>exact MJ w tS tR e ht k hz _ _ _ _ _ _ (.inr (.inr (.inr rfl)))
    |sl=>exact MJ w tS tR e ht k hz _ _ _ _ _ _ (.inr (.inr (.inr rfl)))
   ·cases hv with
    |slnil=>exact MJ w tS tR e ht k hz _ _ _ _ _ _ (.inl rfl)
    |slempty a cap=>exact MJ w tS tR e ht k hz _ _ _ _ _ _ (.inr (.inr (.inl rfl)))
    |sl _ k' b' o' cap' v jk hc' hh vj=>
     by_cases xb:rows.length=0
     ·exact MJ w tS tR e ht k hz _ _ _ _ _ _ (.inr (.inr (.inl xb)))
     by_cases hhl:hi-lo=0
     ·exact MJ w tS tR e ht k hz _ _ _ _ _ _ (.inr (.inr (.inr hhl)))
     have xa:=hh 0 (by omega) 0 (by rw[h1 _ (List.getElem_mem _)];exact hk);obtain⟨a2,hm,hx⟩:=h2.blk 5000 (.arr e k rs) (by simp[Aa]);rw[hp]at hm;injection hm with q1 q2 q3
     rcases hx with hx|⟨b2,o2,cur,q4,ji,ho,hl,j0,hra⟩
     ·rw[hx]at q3;simp at q3;omega
     rw[<-q1]at q4;injection q4 with q4;injection q4 with q5 q6
     subst q5;have j4:=h2.sub.1 _ _ _ xa;have hheap:∃cs t fz,w.heap[b']? =some (.cells cs t fz)/\cs.size≠0:=by
      unfold World.cell? at j4;split at j4
      ·rename_i cs t fz hh2;refine⟨cs,t,fz,hh2,fun h0=>?_⟩;simp at j4;have:o'<cs.size:=by
        rcases Nat.lt_or_ge o' cs.size with h|h
        ·exact h
        ·rw[Array.getElem?_eq_none h]at j4;cases j4
       omega
      ·cases j4
     obtain⟨cs,t,fz,hb',qt⟩:=hheap;have hne':b'≠b:=by intro h;subst h;have:=ho.unk.1 (o'+0*k'+0);rw[xa]at this;cases this
     have hob:=ho.heap;exact zC w tS tR e ht k hz ⟨b',o',none⟩ ⟨b,o+lo*k,none⟩ _ _ _ _ hne' t e cs.size cur.size (by simp[World.shape?,hb']) (by simp[World.shape?,hob]) qt (by simp[World.frozen?,hob]) (by simp[World.frozen?,hob])
  refine .inr (.inr (.inl ⟨hfy,.bool false,w,by rw[hc,key];rfl,_,_,M,μ,⟨rfl,rfl⟩,h2,AM (.bool false),MExt.refl _ _,Keeps.refl _ _,fun _ _ _=>rfl⟩))
theorem zD(f:Ftr)(rs:List (Option (List I)))(lo hi:Nat):MC Tryz.prog (OE mx) 269 [.i (.sl [Ag f]),.ref (.sl 5000 18 lo hi)] [(5000,.arr 62 18 rs)] [] (fun r s=>r=.i (.bool false)/\s=[(5000,.arr 62 18 rs)]):=by
 have hc:∀vs w,(callFunc 269 vs).run Tryz.prog w=((Extern.SlicesOverlaps.overlaps #[71,71] #[4] vs).run Tryz.prog w).andThen fun v w'=>.ok (.value v) w':=
  fun vs w=>run_callFunc_extern Tryz.func269 (by kernel_rfl) (by kernel_rfl) (by kernel_rfl) (by kernel_rfl) vs w
 exact cJ _ rs lo hi (by decide) (by intro r hr;rw[List.mem_singleton.1 hr];exact C9 f) hc (by kernel_rfl) (fun w=>by rfl) (by decide)
end
section
theorem Ol{α:Type}{A B B' C L:List α}{n:Nat}(hL:L=A++B++C)(hn:A.length=n)(h:B.length=B'.length):setL L n B'=A++B'++C:=by grind[setL]
theorem cK{α:Type}(f:α->List I)(l:List α)(k c:Nat)(hk:k<l.length):setL (List.map some (List.map f l)++List.replicate (c+1) none) (k+1) (List.map some (List.map f (l.drop k)))=List.map some ((l.take (k+1)++l.drop k).map f)++List.replicate c none:=by
 rw[Ol (A:=List.map some (List.map f (l.take (k+1)))) (B:=List.map some (List.map f (l.drop (k+1)))++[none]) (C:=List.replicate c none)]
 ·simp
 ·simp only[List.replicate_succ,List.map_map,List.map_take,List.map_drop];simp only[List.append_assoc,List.cons_append,List.nil_append];rw[<-List.append_assoc (List.take _ _),List.take_append_drop]
 ·simp;omega
 ·simp;omega
theorem cL{α:Type}(f:α->List I)(l:List α)(x:α)(k c:Nat)(hk:k<l.length):setL (List.map some ((l.take (k+1)++l.drop k).map f)++List.replicate c none) k [some (f x)]=List.map some ((Bo l k x).map f)++List.replicate c none:=by
 rw[Ol (A:=List.map some (List.map f (l.take k))) (B:=[some (f l[k])]) (C:=List.map some (List.map f (l.drop k))++List.replicate c none)]
 ·simp[Bo]
 ·simp only[List.map_append,List.map_map,List.map_take,List.map_drop];rw[List.take_succ_eq_append_getElem (by simpa using hk)];simp
 ·simp;omega
 ·rfl
@[simp] theorem aM6(e k:Nat)(rs:List (Option (List I))):(Blk.arr e k rs).nms=[]:=rfl
@[go_sem] theorem aM7(st:St)(K:St->Prop)(nm k lo hi d:Nat):LN (.ref (.sl nm k lo hi)) d st K=Kn (Aa st.sto nm) lo hi d st K:=rfl
@[go_sem] theorem aM8(st:St)(K:St->Prop)(e k:Nat)(rs:List (Option (List I)))(lo hi d:Nat):Kn (some (.arr e k rs)) lo hi d st K=K (st.put d (.i (.int .i64 ((rs.length-lo:Nat):Int)))):=rfl
@[go_sem] theorem aM9(st:St)(K:St->Prop)(nm k0 lo hi:Nat)(y:D)(d:Option Nat)(e k:Nat):LR (.ref (.sl nm k0 lo hi)) y d e k st K=Ko (Aa st.sto nm) nm k0 lo hi (Im (Aa st.sto) y (hi-lo)) d e k st K:=rfl
@[go_sem] theorem aMa(st:St)(K:St->Prop)(e' k':Nat)(rs:List (Option (List I)))(nm k0 lo hi len:Nat)(ys:List (List I))(d:Option Nat)(e k:Nat):Ko (some (.arr e' k' rs)) nm k0 lo hi (some (len,ys)) d e k st K=(e'=e/\k'=k/\k0=k/\hi<=rs.length/\LP k ys/\K (putO (st.setB nm (.arr e k (setL rs lo (ys.map some)))) d (.i (.int .i64 ((min len (hi-lo):Nat):Int))))):=rfl
@[go_sem] theorem aMb(st:St)(K:St->Prop)(nm k0 lo hi:Nat)(q:IntKind)(m:Int)(d e k b:Nat)(z:List I):LU (.ref (.sl nm k0 lo hi)) (.i (.int q m)) d e k b z st K=Kt (Aa st.sto nm) (Aa st.sto d) nm k0 lo hi d e k b m z st K:=rfl
@[go_sem] theorem aMc(st:St)(K:St->Prop)(e' k':Nat)(rs:List (Option (List I)))(fr:Option Blk)(nm k0 lo hi d e k bb:Nat)(m:Int)(z:List I):Kt (some (.arr e' k' rs)) fr nm k0 lo hi d e k bb m z st K=(0<=m/\m<=140737488355328/\m*(bb:Int)<=140737488355328/\Kr fr e' k' rs nm k0 lo hi d e k bb (List.replicate m.toNat z) st K):=rfl
theorem cM{α:Type}(f:α->List I)(l:List α)(x:List I)(c:Nat):setL (List.map some (List.map f l)++List.replicate (c+1) none) l.length [some x]=List.map some (List.map f l++[x])++List.replicate c none:=by rw[setL,List.take_left' (by simp),List.length_singleton,<-List.drop_drop,List.drop_left' (by simp)];simp
theorem zF(l:List Ftr)(k:Nat)(f:Ftr)(hl:l.length<=1073741824)(hk:k<=l.length):MC Tryz.prog (OE mx) 233 [.ref (.sl 5000 18 0 l.length),.i (iI k),.i (.sl [Ag f])] [(5000,.rows 62 18 (l.map Ag))] [5000]
  (fun r s=>∃nm,(nm=5000\/nm=6000)/\r=.ref (.sl nm 18 0 (l.length+1))/\s=[(nm,.rows 62 18 ((Bo l k f).map Ag))]):=by
 refine MC.rowsOut (T4 (R:=fun r s=>∃nm,(nm=5000\/nm=6000)/\r=.ref (.sl nm 18 0 (l.length+1))/\∃j,s=[(nm,.arr 62 18 (((Bo l k f).map Ag).map some++j))]) fun c=>?_) fun r s ⟨nm,hn,hr,j,hs⟩=>⟨nm,_,_,_,j,[],hs,nm,hn,hr,rfl⟩
 have h1:=Bi (l.take k) C9 Do;have h2:=Bi (l.drop k) C9 Do;have h0:=Bi l C9 Do;have hf:=Bi [f] C9 Do;have e0:(k:Int).toNat=k:=by omega
 refine MX pj ?_;by_cases hkn:k=l.length
 ·subst hkn
  (repeat' first|simp(disch:=omega)only[go_sem,reduceCtorEq,Nat.reduceAdd,Nat.reduceEqDiff,Nat.reduceLeDiff,Nat.zero_add,Nat.sub_zero,Nat.le_add_right]|refine Pk (fun h=>?_) (fun h=>?_)<;>(have h':=h;try simp only[HB]at h';try rewrite [h];try simp only[h])|refine Ae ?_|(refine And.intro ?_ ?_;focus omega))
  ·simp at h
  ·refine⟨hf,fun j5=>?_,fun hfull=>⟨l.map Ag,?_,h0,by omega,by omega,fun c1=>?_⟩⟩
   ·obtain⟨c,rfl⟩:∃d,c=d+1:=⟨c-1,by simp at j5;omega⟩;generalize hq:setL (List.map some (List.map Ag l)++List.replicate (c+1) none) l.length [some (Ag f)]=q;have hz:q=List.map some ((Bo l l.length f).map Ag)++List.replicate c none:=by grind[cM,Bo]
    refine Ez [(5000,5000)] (s':=[(5000,.arr 62 18 q)]) rfl rfl (by decide) rfl ⟨5000,.inl rfl,rfl,List.replicate c none,?_⟩;rw[<-hz];rfl
   ·rw[List.take_left' (by simp),I2]
   ·generalize hq:List.map some (List.map Ag l++[Ag f])++List.replicate c1 (none:Option (List I))=q;have hz:q=List.map some ((Bo l l.length f).map Ag)++List.replicate c1 none:=by grind[Bo]
    refine Ez [(25,6000)] (s':=[(25,.arr 62 18 q)]) rfl rfl (by decide) rfl ⟨6000,.inr rfl,rfl,List.replicate c1 none,?_⟩;rw[<-hz];rfl
 ·have e1:((k:Int)=(l.length:Int))=False:=by simp;omega
  have e2:((0:Nat):Int)+1=1:=rfl;have e3:(List.map some (List.map Ag l)++List.replicate c (none:Option (List I))).length=l.length+c:=by simp
  have e9:((l.length:Int)+1).toNat=l.length+1:=by omega
  have e10:((k:Int)+1).toNat=k+1:=by omega
  rcases Nat.eq_zero_or_pos c with xa|xa
  ·subst xa;have e4:(((l.length:Int)+1)>((l.length+0:Nat):Int))=True:=by simp;omega
   have e5:((l.length:Int)+1-(k:Int)).toNat=l.length+1-k:=by omega
   (repeat' first|simp(disch:=omega)only[go_sem,reduceCtorEq,Int.reduceLE,Int.reduceEq,Int.reduceAdd,Nat.reduceAdd,Nat.reduceEqDiff,Nat.zero_add,Nat.sub_zero,e0,e1,e2,e3,e4,e5,List.length_replicate]|refine Ae ?_|(refine And.intro ?_ ?_;focus omega))
   refine⟨⟨fun r hr=>by rw[(List.mem_replicate.1 hr).2];rfl,fun r hr=>by rw[(List.mem_replicate.1 hr).2];rfl⟩,fun h=>absurd h (by omega),fun _=>⟨(l.take k).map Ag,by rw[List.take_append_of_le_length (by simp;omega),<-List.map_take,<-List.map_take,I2],h1,by omega,by omega,fun c1=>?_⟩⟩;have e6:k+(l.length+1-k)=l.length+1:=by omega
   generalize hz0:([.str [],.str [],.int .i64 0,.sl [],.str [],.int .i64 0,.str [],.str [],.str [],.int .i64 0,.int .i64 0,.str [],.sl [],.int .i64 0,.int .i64 0,.int .i64 0,.sl [],.int .i64 0]:List I)=z0;have e8:(List.take k l).length+(List.replicate (l.length+1-k) z0).length+(List.replicate c1 (none:Option (List I))).length=l.length+1+c1:=by simp;omega
   have e11:List.take (l.length+1-k) [Ag f]=[Ag f]:=List.take_of_length_le (by simp;omega);have e7:setL (List.map some (List.map Ag (List.take k l)++List.replicate (l.length+1-k) z0)++List.replicate c1 none) k [some (Ag f)]=List.map some (List.map Ag (List.take k l)++[Ag f]++List.replicate (l.length-k) z0)++List.replicate c1 none:=by
    have:l.length+1-k=(l.length-k)+1:=by omega
    grind[Ol,Ag]
   (repeat' first|simp(disch:=omega)only[go_sem,reduceCtorEq,Nat.reduceEqDiff,Nat.zero_add,Nat.sub_zero,Nat.le_add_right,e0,e6,e7,e8,e9,e11]|(refine And.intro ?_ ?_;focus omega))
   refine⟨hf,?_⟩
   (repeat' first|simp(disch:=omega)only[go_sem,reduceCtorEq,Nat.reduceEqDiff,Nat.zero_add,Nat.sub_zero,e9,e10]|refine AG ?_|(refine And.intro ?_ ?_;focus omega))
   have e18:(List.take k l).length+1+(List.replicate (l.length-k) z0).length+(List.replicate c1 (none:Option (List I))).length=l.length+1+c1:=by simp;omega
   have e19:setL (List.map some (List.map Ag (List.take k l)++[Ag f]++List.replicate (l.length-k) z0)++List.replicate c1 none) (k+1) (List.map some (List.map Ag (List.drop k l)))=List.map some (List.map Ag (Bo l k f))++List.replicate c1 none:=by grind[Ol,Ag,Bo]
   have e12:min l.length (k+(l.length+1-(k+1)))=l.length:=by omega
   have e13:FN (List.drop k (List.take l.length (List.map some (List.map Ag l)++List.replicate 0 none)))=some ((l.drop k).map Ag):=by rw[List.take_left' (by simp),<-List.map_drop,I2,List.map_drop]
   have e20:((k:Int)+1<=(l.length:Int)+1)=True:=by simp;omega
   (repeat' first|simp(disch:=omega)only[go_sem,reduceCtorEq,Nat.reduceEqDiff,Nat.zero_add,Nat.sub_zero,Nat.le_add_right,e0,e3,e18,e19,e12,e13,e20]|(refine And.intro ?_ ?_;focus omega))
   refine⟨h2,?_⟩;generalize hq:List.map some (List.map Ag (Bo l k f))++List.replicate c1 (none:Option (List I))=q;refine Ez [(40,6000)] (s':=[(40,.arr 62 18 q)]) rfl rfl (by decide) rfl ⟨6000,.inr rfl,rfl,List.replicate c1 none,?_⟩;rw[hq];rfl
  ·obtain⟨c,rfl⟩:∃d,c=d+1:=⟨c-1,by omega⟩;have hkl:k<l.length:=by omega
   have e4:(((l.length:Int)+1)>((l.length+(c+1):Nat):Int))=False:=by simp;omega
   have m1:=zD (mx:=mx) f (List.map some (List.map Ag l)++List.replicate (c+1) none) (k+1) (l.length+1);have e12:min (l.length+1) (k+(l.length+1-(k+1)))=l.length:=by omega
   have e13:FN (List.drop k (List.take l.length (List.map some (List.map Ag l)++List.replicate (c+1) none)))=some ((l.drop k).map Ag):=by rw[List.take_left' (by simp),<-List.map_drop,I2,List.map_drop]
   have e11:List.take (l.length+1-k) [Ag f]=[Ag f]:=List.take_of_length_le (by simp;omega);have e14:=cK Ag l k c hkl;have e15:=cL Ag l f k c hkl;have e16:(List.map some (List.map Ag (List.take (k+1) l++List.drop k l))++List.replicate c (none:Option (List I))).length=l.length+1+c:=by simp;omega
   (repeat' first|simp(disch:=omega)only[go_sem,reduceCtorEq,Int.reduceLE,Int.reduceEq,Nat.reduceAdd,Nat.reduceEqDiff,Nat.reduceLT,Nat.zero_add,Nat.sub_zero,Nat.le_add_right,e0,e1,e2,e3,e4,e9,e10,e12,e13,e14]|refine Ae ?_|(refine Iy (m1) ?_ (by simp[V0,I9]) (by simp[V0,I9,L9,Ref.nm]) (fun r sto' hR=>?_);(focus(first|rfl|(simp only[go_sem,reduceCtorEq,Int.reduceToNat,Int.reduceNeg,Int.reduceLT,Int.reduceLE,Int.reduceEq,Int.reduceAdd,Int.reduceSub,Int.reduceMul,Nat.reduceAdd,Nat.reduceSub,Nat.reduceMul,Nat.reduceEqDiff,Nat.reduceBEq,Nat.reduceBneDiff,Nat.reduceLeDiff,Nat.reduceLT,reduceIte,Nat.zero_add,Nat.sub_zero,h0,h1,h2,hf,Nat.le_add_right,e0,e1,e2,e3,e4,e9,e10,e12,e13,e11,e14,e15,e16];done)));first|(obtain⟨rfl,rfl⟩:=hR)|(obtain⟨_,(rfl|rfl),rfl,rfl⟩:=hR))|refine AG ?_|(refine And.intro ?_ ?_;focus omega))
   refine⟨h2,?_⟩;have e17:(List.take (k+1) l).length+(List.drop k l).length+(List.replicate c (none:Option (List I))).length=l.length+1+c:=by simp;omega
   (repeat' first|simp(disch:=omega)only[go_sem,reduceCtorEq,Nat.reduceEqDiff,Nat.zero_add,Nat.sub_zero,Nat.le_add_right,e0,e9,e11,e15,e16]|(refine And.intro ?_ ?_;focus omega))
   refine⟨hf,?_⟩;generalize hq:List.map some (List.map Ag (Bo l k f))++List.replicate c (none:Option (List I))=q;refine Ez [(5000,5000)] (s':=[(5000,.arr 62 18 q)]) rfl rfl (by decide) rfl ⟨5000,.inl rfl,rfl,List.replicate c none,?_⟩;rw[hq];rfl
end
section
theorem zG(x:Ftr)(name:AT):Is mx 230 [.agg (Ag x),.elt [.str name] 0] (.bool (decide (x.name=name))):=by refine MX qG ?_;exact Lbn trivial
theorem Om(l:List Ftr)(name:AT)(hl:l.length<=1073741824):Is mx 186 [.sl (l.map Ag),.str name] (iI (BY l name)):=by
 have h1:=Ux (mx:=mx) (fun f=>decide (f.name=name)) l 230 [] [.elt [.str name] 0] hl (fun x _=>zG x name);refine MX nN ?_
 (repeat' first|simp(disch:=omega)only[go_sem,simprocAttr]|refine Sx.s ?_ ?_<;>try(intro h;have h':=h;try simp only[HB]at h';try rewrite [h];try simp only[h])|refine Ab (h1) ?_|refine Sz.s ?_|fail)
 all_goals(try rfl)
theorem zH(nm:Nat)(hn:nm<5000)(l:List Ftr)(k:Nat)(hl:l.length<=1073741824)(hk:k<l.length):MC Tryz.prog (OE mx) 235 [.ref (.sl nm 18 0 l.length),.i (iI k),.i (iI (k+1))] [(nm,.rows 62 18 (l.map Ag))] []
  (fun r s=>r=.ref (.sl nm 18 0 (l.length-1))/\s=[(nm,.rows 62 18 ((Bd l k).map Ag++[Ag CL]))]):=by
 have e1:MS [(5000,nm)] 5000=nm:=by rfl
 have h:=(MC.as [(5000,nm)] (zB (mx:=mx) l k hl hk)).mono (R':=fun r s=>r=.ref (.sl nm 18 0 (l.length-1))/\s=[(nm,.rows 62 18 ((Bd l k).map Ag++[Ag CL]))]) (by
  rintro r s ⟨h1,h2⟩;have k:=Ex (f:=J6 [(5000,nm)]) (g:=MS [(5000,nm)]) (Cb _) r;have k2:=FQ (f:=J6 [(5000,nm)]) (g:=MS [(5000,nm)]) (Cb _) s;rw[h1]at k;rw[h2]at k2;refine⟨?_,?_⟩
  ·rw[<-k];simp only[J8,Qs,e1]
  ·rw[<-k2];simp only[J5,MR,e1])
 simp only[List.map_cons,List.map_nil,J8,Qs,J5,MR,e1]at h;exact h
theorem Qf(l:List Ftr)(k:Nat)(hl:l.length<=1073741824)(hk:k<l.length):Is mx 189 [.sl (l.map Ag),iI k] (.sl ((Bd l k).map Ag)):=by
 have m1:=cI (mx:=mx) l hl;have m2:=zH (mx:=mx) 6 (by decide) l k hl hk;refine MX rN ?_
 (repeat' first|simp(disch:=omega)only[go_sem,simprocAttr]|(first|refine HO (m1) ?_ (fun r sto' hR=>?_)|refine EW (m1) ?_ (fun r sto' hR=>?_);(focus(first|rfl|(simp only[go_sem,simprocAttr];done)));first|(obtain⟨rfl,rfl⟩:=hR)|(obtain⟨_,(rfl|rfl),rfl,rfl⟩:=hR))|(first|refine HO (m2) ?_ (fun r sto' hR=>?_)|refine EW (m2) ?_ (fun r sto' hR=>?_);(focus(first|rfl|(simp only[go_sem,simprocAttr];done)));first|(obtain⟨rfl,rfl⟩:=hR)|(obtain⟨_,(rfl|rfl),rfl,rfl⟩:=hR))|refine Sz.s ?_|fail)
 have e:(Bd l k).length=l.length-1:=by grind[Bd]
 rw[if_pos (by omega),List.take_left' (by rw[List.length_map,e])];simp only[go_sem]
theorem zI(nm:Nat)(hn:nm<5000)(l:List Ftr)(k:Nat)(f:Ftr)(hl:l.length<=1073741824)(hk:k<=l.length):MC Tryz.prog (OE mx) 233 [.ref (.sl nm 18 0 l.length),.i (iI k),.i (.sl [Ag f])] [(nm,.rows 62 18 (l.map Ag))] [nm]
  (fun r s=>∃m,(m=nm\/m=6000)/\r=.ref (.sl m 18 0 (l.length+1))/\s=[(m,.rows 62 18 ((Bo l k f).map Ag))]):=by
 have e1:MS [(5000,nm)] 5000=nm:=by rfl
 have e2:MS [(5000,nm)] 6000=6000:=by grind[MS,sw]
 have h:=(MC.as [(5000,nm)] (zF (mx:=mx) l k f hl hk)).mono (R':=fun r s=>∃m,(m=nm\/m=6000)/\r=.ref (.sl m 18 0 (l.length+1))/\s=[(m,.rows 62 18 ((Bo l k f).map Ag))]) (by
  rintro r s ⟨m,hm,h1,h2⟩;have k:=Ex (f:=J6 [(5000,nm)]) (g:=MS [(5000,nm)]) (Cb _) r;have k2:=FQ (f:=J6 [(5000,nm)]) (g:=MS [(5000,nm)]) (Cb _) s;rw[h1]at k;rw[h2]at k2;rcases hm with rfl|rfl
  ·refine⟨nm,.inl rfl,?_,?_⟩
   ·rw[<-k];simp only[J8,Qs,e1]
   ·rw[<-k2];simp only[J5,MR,e1]
  ·refine⟨6000,.inr rfl,?_,?_⟩
   ·rw[<-k];simp only[J8,Qs,e2]
   ·rw[<-k2];simp only[J5,MR,e2])
 simp only[List.map_cons,List.map_nil,J8,Qs,J5,MR,e1]at h;exact h
theorem zJ(g f:Ftr):Is mx 232 [.agg (Ag g),.elt (Ag f) 0] (.bool (!WE g.name f.name)):=by
 refine MX nV ?_
 (repeat' first|simp(disch:=omega)only[go_sem,simprocAttr]|refine Sz.s ?_|fail)
 all_goals(try rfl)
theorem zK(l:List Ftr)(f:Ftr):(Bk (fun g:Ftr=>!WE g.name f.name) l=-1/\FE l f.name=l.length)\/(0<=Bk (fun g:Ftr=>!WE g.name f.name) l/\Bk (fun g:Ftr=>!WE g.name f.name) l=(FE l f.name:Int)/\FE l f.name<l.length):=by
 unfold FE
 induction l with
 |nil=>exact .inl ⟨rfl,rfl⟩
 |cons g r ih=>
  cases h:WE g.name f.name
  ·refine .inr ?_;have e:Bk (fun g:Ftr=>!WE g.name f.name) (g::r)=0:=by grind[Bk]
   simp_all
  ·have e:(List.takeWhile (fun g:Ftr=>WE g.name f.name) (g::r)).length=(List.takeWhile (fun g:Ftr=>WE g.name f.name) r).length+1:=by simp[h]
   rw[e];have e2:Bk (fun g:Ftr=>!WE g.name f.name) (g::r)=if Bk (fun g:Ftr=>!WE g.name f.name) r<0 then-1 else Bk (fun g:Ftr=>!WE g.name f.name) r+1:=by grind[Bk,WE]
   grind
end
section
theorem On(l:List Ftr)(f:Ftr)(hl:l.length<=1073741823):Is mx 188 [.sl (l.map Ag),.agg (Ag f)] (.sl ((B4 l f).map Ag)):=by
 have h1:=Ux (mx:=mx) (fun g=>!WE g.name f.name) l 232 [] [.elt (Ag f) 0] (by omega) (fun x _=>zJ x f);have m1:=cI (mx:=mx) l (by omega);have m2:=zI (mx:=mx) 14 (by decide) l (FE l f.name) f (by omega) (xP l f.name);have e1:(B4 l f).length=l.length+1:=xS l f;unfold B4 at e1⊢;refine MX p8 ?_;rcases zK l f with⟨q1,q2⟩|⟨q0,q1,q2⟩
 ·rw[q1]at h1;rw[q2]at m2 e1⊢
  (repeat' first|simp(disch:=omega)only[go_sem,reduceCtorEq,Int.reduceNeg,Int.reduceLT,Nat.reduceAdd,Nat.reduceSub,Nat.reduceEqDiff,Nat.reduceLeDiff,e1]|refine Ab (h1) ?_|refine Ae ?_|(refine Q6 (m1) ?_ rfl (fun r sto' hR=>?_);(focus(first|rfl|(simp only[go_sem,reduceCtorEq,Int.reduceToNat,Int.reduceNeg,Int.reduceLT,Int.reduceLE,Int.reduceEq,Int.reduceAdd,Int.reduceSub,Int.reduceMul,Nat.reduceAdd,Nat.reduceSub,Nat.reduceMul,Nat.reduceEqDiff,Nat.reduceBEq,Nat.reduceBneDiff,Nat.reduceLeDiff,Nat.reduceLT,reduceIte,e1];done)));first|(obtain⟨rfl,rfl⟩:=hR)|(obtain⟨_,(rfl|rfl),rfl,rfl⟩:=hR))|(refine Iy (m2) ?_ (by simp[V0,I9]) (by simp[V0,I9,L9,Ref.nm]) (fun r sto' hR=>?_);(focus(first|rfl|(simp only[go_sem,reduceCtorEq,Int.reduceToNat,Int.reduceNeg,Int.reduceLT,Int.reduceLE,Int.reduceEq,Int.reduceAdd,Int.reduceSub,Int.reduceMul,Nat.reduceAdd,Nat.reduceSub,Nat.reduceMul,Nat.reduceEqDiff,Nat.reduceBEq,Nat.reduceBneDiff,Nat.reduceLeDiff,Nat.reduceLT,reduceIte,e1];done)));first|(obtain⟨rfl,rfl⟩:=hR)|(obtain⟨_,(rfl|rfl),rfl,rfl⟩:=hR))|refine Pj ?_ ?_|refine AG ?_|refine Gw (R:=gu _) ?_|fail)
  all_goals exact congrArg I.sl (List.take_of_length_le (by rw[List.length_map,e1];exact Nat.le_refl _))
 ·have q3:(Bk (fun g=>!WE g.name f.name) l<0)=False:=by simp;omega
  rw[q1]at h1;have q4:((FE l f.name:Int)<0)=False:=by simp
  (repeat' first|simp(disch:=omega)only[go_sem,reduceCtorEq,Nat.reduceAdd,Nat.reduceSub,Nat.reduceEqDiff,Nat.reduceLeDiff,e1,q4]|refine Ab (h1) ?_|refine Ae ?_|(refine Q6 (m1) ?_ rfl (fun r sto' hR=>?_);(focus(first|rfl|(simp only[go_sem,reduceCtorEq,Int.reduceToNat,Int.reduceNeg,Int.reduceLT,Int.reduceLE,Int.reduceEq,Int.reduceAdd,Int.reduceSub,Int.reduceMul,Nat.reduceAdd,Nat.reduceSub,Nat.reduceMul,Nat.reduceEqDiff,Nat.reduceBEq,Nat.reduceBneDiff,Nat.reduceLeDiff,Nat.reduceLT,reduceIte,e1,q4];done)));first|(obtain⟨rfl,rfl⟩:=hR)|(obtain⟨_,(rfl|rfl),rfl,rfl⟩:=hR))|(refine Iy (m2) ?_ (by simp[V0,I9]) (by simp[V0,I9,L9,Ref.nm]) (fun r sto' hR=>?_);(focus(first|rfl|(simp only[go_sem,reduceCtorEq,Int.reduceToNat,Int.reduceNeg,Int.reduceLT,Int.reduceLE,Int.reduceEq,Int.reduceAdd,Int.reduceSub,Int.reduceMul,Nat.reduceAdd,Nat.reduceSub,Nat.reduceMul,Nat.reduceEqDiff,Nat.reduceBEq,Nat.reduceBneDiff,Nat.reduceLeDiff,Nat.reduceLT,reduceIte,e1,q4];done)));first|(obtain⟨rfl,rfl⟩:=hR)|(obtain⟨_,(rfl|rfl),rfl,rfl⟩:=hR))|refine Pj ?_ ?_|refine AG ?_|refine Gw (R:=gu _) ?_|fail)
  all_goals exact congrArg I.sl (List.take_of_length_le (by rw[List.length_map,e1];exact Nat.le_refl _))
end
section
theorem zL(l:List Tbl)(hl:l.length<=1073741824):MC Tryz.prog (OE mx) 185 [.i (.sl (l.map AR))] [] []
  (fun r s=>r=.ref (.sl 6000 4 0 l.length)/\s=[(6000,.rows 50 4 (l.map AR))]):=by
 refine MX rM ?_;have hr:=Bi (f:=AR) (k:=4) l Oa Ob
 (repeat' first|simp(disch:=omega)only[go_sem,reduceCtorEq,Nat.reduceSub,Nat.reduceEqDiff,Nat.reduceLeDiff,Nat.zero_add]|refine Pk (fun h=>?_) (fun h=>?_)<;>(have h':=h;try simp only[HB]at h';try rewrite [h];try simp only[h])|refine Ae ?_|refine Rf (fun wm b=>?_) (fun wm=>?_)|fail)
 ·have e:l=[]:=by simpa using wm
  subst e;cases h';refine Ez [(2,6000)] (by simp only[go_sem,V10];rfl) (by simp[YI];rfl) (by decide) (by simp[V0,I9,L9,Ref.nm]) ?_;simp[YI]
 ·refine⟨hr.1,hr.2,by omega,by omega,?_⟩;refine Ez [(5,6000)] (by simp only[go_sem,V10];rfl) (by simp[YI];rfl) (by decide) (by simp[V0,I9,L9,Ref.nm]) ?_;simp[YI]
 ·simp at h
 ·refine⟨hr.1,hr.2,by omega,by omega,?_⟩;refine Ez [(5,6000)] (by simp only[go_sem,V10];rfl) (by simp[YI];rfl) (by decide) (by simp[V0,I9,L9,Ref.nm]) ?_;simp[YI]
theorem zM{α:Type}(E:α->List I)(hE1:∀x,(E x).length=4)(f:α)(rs:List (Option (List I)))(lo hi:Nat):MC Tryz.prog (OE mx) 227 [.i (.sl [E f]),.ref (.sl 5000 4 lo hi)] [(5000,.arr 50 4 rs)] [] (fun r s=>r=.i (.bool false)/\s=[(5000,.arr 50 4 rs)]):=by
 have hc:∀vs w,(callFunc 227 vs).run Tryz.prog w=((Extern.SlicesOverlaps.overlaps #[70,70] #[4] vs).run Tryz.prog w).andThen fun v w'=>.ok (.value v) w':=
  fun vs w=>run_callFunc_extern Tryz.func227 (by kernel_rfl) (by kernel_rfl) (by kernel_rfl) (by kernel_rfl) vs w
 exact cJ _ rs lo hi (by decide) (by intro r hr;rw[List.mem_singleton.1 hr];exact hE1 f) hc (by kernel_rfl) (fun w=>by rfl) (by decide)
theorem zN{α:Type}(E:α->List I)(hE1:∀x,(E x).length=4)(hE2:∀x,(E x).all I.one=true)(l:List α)(k:Nat)(f:α)(hl:l.length<=1073741824)(hk:k<=l.length):MC Tryz.prog (OE mx) 184 [.ref (.sl 5000 4 0 l.length),.i (iI k),.i (.sl [E f])] [(5000,.rows 50 4 (l.map E))] [5000]
  (fun r s=>∃nm,(nm=5000\/nm=6000)/\r=.ref (.sl nm 4 0 (l.length+1))/\s=[(nm,.rows 50 4 ((Bo l k f).map E))]):=by
 refine MC.rowsOut (T4 (R:=fun r s=>∃nm,(nm=5000\/nm=6000)/\r=.ref (.sl nm 4 0 (l.length+1))/\∃j,s=[(nm,.arr 50 4 (((Bo l k f).map E).map some++j))]) fun c=>?_) fun r s ⟨nm,hn,hr,j,hs⟩=>⟨nm,_,_,_,j,[],hs,nm,hn,hr,rfl⟩
 have h1:=Bi (l.take k) hE1 hE2;have h2:=Bi (l.drop k) hE1 hE2;have h0:=Bi l hE1 hE2;have hf:=Bi [f] hE1 hE2;have e0:(k:Int).toNat=k:=by omega
 refine MX p7 ?_;by_cases hkn:k=l.length
 ·subst hkn
  (repeat' first|simp(disch:=omega)only[go_sem,reduceCtorEq,Nat.reduceAdd,Nat.reduceEqDiff,Nat.reduceLeDiff,Nat.zero_add,Nat.sub_zero,Nat.le_add_right]|refine Pk (fun h=>?_) (fun h=>?_)<;>(have h':=h;try simp only[HB]at h';try rewrite [h];try simp only[h])|refine Ae ?_|(refine And.intro ?_ ?_;focus omega))
  ·simp at h
  ·refine⟨hf,fun j5=>?_,fun hfull=>⟨l.map E,?_,h0,by omega,by omega,fun c1=>?_⟩⟩
   ·obtain⟨c,rfl⟩:∃d,c=d+1:=⟨c-1,by simp at j5;omega⟩;generalize hq:setL (List.map some (List.map E l)++List.replicate (c+1) none) l.length [some (E f)]=q;have hz:q=List.map some ((Bo l l.length f).map E)++List.replicate c none:=by grind[cM,Bo]
    refine Ez [(5000,5000)] (s':=[(5000,.arr 50 4 q)]) rfl rfl (by decide) rfl ⟨5000,.inl rfl,rfl,List.replicate c none,?_⟩;rw[<-hz];rfl
   ·rw[List.take_left' (by simp),I2]
   ·generalize hq:List.map some (List.map E l++[E f])++List.replicate c1 (none:Option (List I))=q;have hz:q=List.map some ((Bo l l.length f).map E)++List.replicate c1 none:=by grind[Bo]
    refine Ez [(25,6000)] (s':=[(25,.arr 50 4 q)]) rfl rfl (by decide) rfl ⟨6000,.inr rfl,rfl,List.replicate c1 none,?_⟩;rw[<-hz];rfl
 ·have e1:((k:Int)=(l.length:Int))=False:=by simp;omega
  have e2:((0:Nat):Int)+1=1:=rfl;have e3:(List.map some (List.map E l)++List.replicate c (none:Option (List I))).length=l.length+c:=by simp
  have e9:((l.length:Int)+1).toNat=l.length+1:=by omega
  have e10:((k:Int)+1).toNat=k+1:=by omega
  rcases Nat.eq_zero_or_pos c with xa|xa
  ·subst xa;have e4:(((l.length:Int)+1)>((l.length+0:Nat):Int))=True:=by simp;omega
   have e5:((l.length:Int)+1-(k:Int)).toNat=l.length+1-k:=by omega
   (repeat' first|simp(disch:=omega)only[go_sem,reduceCtorEq,Int.reduceLE,Int.reduceEq,Int.reduceAdd,Nat.reduceAdd,Nat.reduceEqDiff,Nat.zero_add,Nat.sub_zero,e0,e1,e2,e3,e4,e5,List.length_replicate]|refine Ae ?_|(refine And.intro ?_ ?_;focus omega))
   refine⟨⟨fun r hr=>by rw[(List.mem_replicate.1 hr).2];rfl,fun r hr=>by rw[(List.mem_replicate.1 hr).2];rfl⟩,fun h=>absurd h (by omega),fun _=>⟨(l.take k).map E,by rw[List.take_append_of_le_length (by simp;omega),<-List.map_take,<-List.map_take,I2],h1,by omega,by omega,fun c1=>?_⟩⟩;have e6:k+(l.length+1-k)=l.length+1:=by omega
   generalize hz0:([.str [],.str [],.sl [],.int .i64 0]:List I)=z0;have e8:(List.take k l).length+(List.replicate (l.length+1-k) z0).length+(List.replicate c1 (none:Option (List I))).length=l.length+1+c1:=by simp;omega
   have e11:List.take (l.length+1-k) [E f]=[E f]:=List.take_of_length_le (by simp;omega);have e7:setL (List.map some (List.map E (List.take k l)++List.replicate (l.length+1-k) z0)++List.replicate c1 none) k [some (E f)]=List.map some (List.map E (List.take k l)++[E f]++List.replicate (l.length-k) z0)++List.replicate c1 none:=by
    have:l.length+1-k=(l.length-k)+1:=by omega
    grind[Ol]
   (repeat' first|simp(disch:=omega)only[go_sem,reduceCtorEq,Nat.reduceEqDiff,Nat.zero_add,Nat.sub_zero,Nat.le_add_right,e0,e6,e7,e8,e9,e11]|(refine And.intro ?_ ?_;focus omega))
   refine⟨hf,?_⟩
   (repeat' first|simp(disch:=omega)only[go_sem,reduceCtorEq,Nat.reduceEqDiff,Nat.zero_add,Nat.sub_zero,e9,e10]|refine AG ?_|(refine And.intro ?_ ?_;focus omega))
   have e18:(List.take k l).length+1+(List.replicate (l.length-k) z0).length+(List.replicate c1 (none:Option (List I))).length=l.length+1+c1:=by simp;omega
   have e19:setL (List.map some (List.map E (List.take k l)++[E f]++List.replicate (l.length-k) z0)++List.replicate c1 none) (k+1) (List.map some (List.map E (List.drop k l)))=List.map some (List.map E (Bo l k f))++List.replicate c1 none:=by grind[Ol,Bo]
   have e12:min l.length (k+(l.length+1-(k+1)))=l.length:=by omega
   have e13:FN (List.drop k (List.take l.length (List.map some (List.map E l)++List.replicate 0 none)))=some ((l.drop k).map E):=by rw[List.take_left' (by simp),<-List.map_drop,I2,List.map_drop]
   have e20:((k:Int)+1<=(l.length:Int)+1)=True:=by simp;omega
   (repeat' first|simp(disch:=omega)only[go_sem,reduceCtorEq,Nat.reduceEqDiff,Nat.zero_add,Nat.sub_zero,Nat.le_add_right,e0,e3,e18,e19,e12,e13,e20]|(refine And.intro ?_ ?_;focus omega))
   refine⟨h2,?_⟩;generalize hq:List.map some (List.map E (Bo l k f))++List.replicate c1 (none:Option (List I))=q;refine Ez [(40,6000)] (s':=[(40,.arr 50 4 q)]) rfl rfl (by decide) rfl ⟨6000,.inr rfl,rfl,List.replicate c1 none,?_⟩;rw[hq];rfl
  ·obtain⟨c,rfl⟩:∃d,c=d+1:=⟨c-1,by omega⟩;have hkl:k<l.length:=by omega
   have e4:(((l.length:Int)+1)>((l.length+(c+1):Nat):Int))=False:=by simp;omega
   have m1:=zM (mx:=mx) E hE1 f (List.map some (List.map E l)++List.replicate (c+1) none) (k+1) (l.length+1);have e12:min (l.length+1) (k+(l.length+1-(k+1)))=l.length:=by omega
   have e13:FN (List.drop k (List.take l.length (List.map some (List.map E l)++List.replicate (c+1) none)))=some ((l.drop k).map E):=by rw[List.take_left' (by simp),<-List.map_drop,I2,List.map_drop]
   have e11:List.take (l.length+1-k) [E f]=[E f]:=List.take_of_length_le (by simp;omega);have e14:=cK E l k c hkl;have e15:=cL E l f k c hkl;have e16:(List.map some (List.map E (List.take (k+1) l++List.drop k l))++List.replicate c (none:Option (List I))).length=l.length+1+c:=by simp;omega
   (repeat' first|simp(disch:=omega)only[go_sem,reduceCtorEq,Int.reduceLE,Int.reduceEq,Nat.reduceAdd,Nat.reduceEqDiff,Nat.reduceLT,Nat.zero_add,Nat.sub_zero,Nat.le_add_right,e0,e1,e2,e3,e4,e9,e10,e12,e13,e14]|refine Ae ?_|(refine Iy (m1) ?_ (by simp[V0,I9]) (by simp[V0,I9,L9,Ref.nm]) (fun r sto' hR=>?_);(focus(first|rfl|(simp only[go_sem,reduceCtorEq,Int.reduceToNat,Int.reduceNeg,Int.reduceLT,Int.reduceLE,Int.reduceEq,Int.reduceAdd,Int.reduceSub,Int.reduceMul,Nat.reduceAdd,Nat.reduceSub,Nat.reduceMul,Nat.reduceEqDiff,Nat.reduceBEq,Nat.reduceBneDiff,Nat.reduceLeDiff,Nat.reduceLT,reduceIte,Nat.zero_add,Nat.sub_zero,h0,h1,h2,hf,Nat.le_add_right,e0,e1,e2,e3,e4,e9,e10,e12,e13,e11,e14,e15,e16];done)));first|(obtain⟨rfl,rfl⟩:=hR)|(obtain⟨_,(rfl|rfl),rfl,rfl⟩:=hR))|refine AG ?_|(refine And.intro ?_ ?_;focus omega))
   refine⟨h2,?_⟩;have e17:(List.take (k+1) l).length+(List.drop k l).length+(List.replicate c (none:Option (List I))).length=l.length+1+c:=by simp;omega
   (repeat' first|simp(disch:=omega)only[go_sem,reduceCtorEq,Nat.reduceEqDiff,Nat.zero_add,Nat.sub_zero,Nat.le_add_right,e0,e9,e11,e15,e16]|(refine And.intro ?_ ?_;focus omega))
   refine⟨hf,?_⟩;generalize hq:List.map some (List.map E (Bo l k f))++List.replicate c (none:Option (List I))=q;refine Ez [(5000,5000)] (s':=[(5000,.arr 50 4 q)]) rfl rfl (by decide) rfl ⟨5000,.inl rfl,rfl,List.replicate c none,?_⟩;rw[hq];rfl
theorem zO(l:List Tbl)(k:Nat)(f:Tbl)(hl:l.length<=1073741824)(hk:k<=l.length):MC Tryz.prog (OE mx) 184 [.ref (.sl 5000 4 0 l.length),.i (iI k),.i (.sl [AR f])] [(5000,.rows 50 4 (l.map AR))] [5000]
  (fun r s=>∃nm,(nm=5000\/nm=6000)/\r=.ref (.sl nm 4 0 (l.length+1))/\s=[(nm,.rows 50 4 ((Bo l k f).map AR))]):=zN (mx:=mx) AR Oa Ob l k f hl hk
theorem zP(nm:Nat)(hn:nm<5000)(l:List Tbl)(k:Nat)(f:Tbl)(hl:l.length<=1073741824)(hk:k<=l.length):MC Tryz.prog (OE mx) 184 [.ref (.sl nm 4 0 l.length),.i (iI k),.i (.sl [AR f])] [(nm,.rows 50 4 (l.map AR))] [nm]
  (fun r s=>∃m,(m=nm\/m=6000)/\r=.ref (.sl m 4 0 (l.length+1))/\s=[(m,.rows 50 4 ((Bo l k f).map AR))]):=by
 have e1:MS [(5000,nm)] 5000=nm:=by rfl
 have e2:MS [(5000,nm)] 6000=6000:=by grind[MS,sw]
 have h:=(MC.as [(5000,nm)] (zO (mx:=mx) l k f hl hk)).mono (R':=fun r s=>∃m,(m=nm\/m=6000)/\r=.ref (.sl m 4 0 (l.length+1))/\s=[(m,.rows 50 4 ((Bo l k f).map AR))]) (by
  rintro r s ⟨m,hm,h1,h2⟩;have k:=Ex (f:=J6 [(5000,nm)]) (g:=MS [(5000,nm)]) (Cb _) r;have k2:=FQ (f:=J6 [(5000,nm)]) (g:=MS [(5000,nm)]) (Cb _) s;rw[h1]at k;rw[h2]at k2;rcases hm with rfl|rfl
  ·refine⟨nm,.inl rfl,?_,?_⟩
   ·rw[<-k];simp only[J8,Qs,e1]
   ·rw[<-k2];simp only[J5,MR,e1]
  ·refine⟨6000,.inr rfl,?_,?_⟩
   ·rw[<-k];simp only[J8,Qs,e2]
   ·rw[<-k2];simp only[J5,MR,e2])
 simp only[List.map_cons,List.map_nil,J8,Qs,J5,MR,e1]at h;exact h
end
section
theorem zQ(l:List Tbl):Is mx 183 [.sl (l.map AR)] (.fn 226 [] [.elt [.sl (l.map AR)] 0]):=by refine MX oY ?_;exact Lbn trivial
def Oo(l:List Tbl):List (List I):=(List.range l.length).map fun j:Nat=>[iI ((l.length:Int)-1-(j:Int)),.agg (AR (l.getD (l.length-1-j) default))]
theorem cP(l:List Tbl):(Oo l).length=l.length:=by simp[Oo]
theorem cQ(l:List Tbl){j:Nat}(h:j<l.length):(Oo l).getD j []=[iI ((l.length:Int)-1-(j:Int)),.agg (AR (l.getD (l.length-1-j) default))]:=by unfold Oo;rw[List.getD_eq_getElem?_getD,List.getElem?_map,List.getElem?_range h];rfl
theorem zR(l:List Tbl)(hl:l.length<=1073741824):Np Tryz.prog (OE mx) 226 [.elt [.sl (l.map AR)] 0] (Oo l):=by
 intro y m mv N go hV hm hN hgo qd hy;rw[cP]at hN qd;have hk:∀k,SK mv (m k)=true:=fun k=>(hm k).1
 have g1:∀k q,q<5000->Aa (m k) q=none:=fun k q hq=>Oj (hk k) hq
 have g2:∀k q b,q<5000->SL q b (m k)=m k:=fun k q b hq=>Qa (hk k) hq b
 have g3:∀k q,q<5000->Cs (m k) q=m k:=fun k q hq=>Qb (hk k) hq
 have g4:∀k,Br (m k) (m k)=True:=fun k=>eq_true (MI (hk k))
 have g5:∀k,Qo (m k) (m k)=true:=fun k=>Fo (hk k)
 have fin:∀(E:Env),FY [] ((m 0).map (·.1)) mv (fun r s=>r=.i (.tup [])/\s=m N) ⟨E,m N⟩:=fun E=>Ld (own:=[]) (hk N) rfl ⟨rfl,rfl⟩
 refine MX rW ?_ (hpin:=Qc (hk 0))
 (repeat' first|simp(disch:=omega)only[go_sem,reduceCtorEq,Nat.reduceAdd,Nat.reduceEqDiff,List.map_cons,List.map_nil]|fail)
 refine BG [0,1] (by simp only[V0,MQ,reduceIte,Nat.reduceEqDiff];rfl) (fun i:Nat=>[(3,.i (iI ((l.length:Int)-1-i)))]) (fun i=>m i)
  (fun i=>i<=N/\(i=N->N=l.length)) (fun i=>l.length-i) 0 ⟨by omega,fun h=>by
   by_cases jn:N<l.length
   ·have:=(qd jn).1;omega
   ·omega⟩ (by simp[V0,I9,L9,g4,g5]) ?_
 rintro i ⟨hi,hiN⟩;by_cases ja:i<l.length
 ·have hcN:i<N:=by
   rcases Nat.lt_or_ge i N with q|q
   ·exact q
   ·have:=hiN (by omega);omega
  have y1:=hy _ hcN;rw[cQ l ja]at y1;have e1:(l.length:Int)-1-i=((l.length-1-i:Nat):Int):=by omega
  have hge:decide (0<=(l.length:Int)-1-i)=true:=decide_eq_true (by omega);have jn:l.length-1-i<l.length:=by omega
  rw[e1]at y1;rw[e1]at hge;simp only[e1]
  (repeat' first|simp(disch:=omega)only[go_sem,reduceCtorEq,Nat.reduceAdd,Nat.reduceEqDiff,Cq jn]|refine Ae ?_|fail)
  simp only[AR]at y1;refine T3 (own:=[]) (mj:=m i) (mk:=m (i+1)) y1 (fun s e=>by cases e;decide) (by simp only[DZ,EQ,go_sem,reduceCtorEq,Nat.reduceEqDiff,List.map_cons,List.map_nil,List.append_nil,List.nil_append]) (hk _) (hk _) ((hm _).2.trans (hm _).2.symm) hV rfl [0,1,3,8] (by simp only[V0,MQ,reduceIte,Nat.reduceEqDiff];rfl) (by simp only[go_sem,List.all_cons,List.all_nil]) ?_;cases hgk:go i
  ·(repeat' first|simp(disch:=omega)only[go_sem,reduceCtorEq,Nat.reduceEqDiff,List.nil_append]|fail)
   have hkN:i+1=N:=by
    rcases Nat.lt_or_ge (i+1) N with q|q
    ·have:=hgo i q;rw[hgk]at this;cases this
    ·omega
   rw[hkN];exact fin _
  ·(repeat' first|simp(disch:=omega)only[go_sem,reduceCtorEq,Nat.reduceEqDiff,List.nil_append]|fail)
   have e2:((l.length-1-i:Nat):Int)-1=(l.length:Int)-1-((i+1:Nat):Int):=by omega
   refine⟨i+1,⟨by omega,fun h=>?_⟩,by omega,by rw[e2],by first|exact MI (hk _)|exact⟨MI (hk _),g5 _⟩⟩;rcases Nat.lt_or_ge N l.length with q|q
   ·have h2:=(qd q).2;have h3:N-1=i:=by omega
    rw[h3,hgk]at h2;cases h2
   ·omega
 ·have e:i=l.length:=by omega
  subst e;have hge:decide (0<=(l.length:Int)-1-l.length)=false:=decide_eq_false (by omega);refine Hw hge ?_;rw[show l.length=N by omega];exact fin _
def Oq(c:Cat)(t:Tbl):Cat×Int:=if(AU c.tables t.name).isSome=true then(c,121)else({c with tables:=Fa c.tables t},0)
theorem zS(l:List Tbl)(name:AT):E9 l name<=l.length:=(List.takeWhile_prefix _).length_le
def atP(l:List Tbl)(name:AT)(i:Nat):Nat:=i+E9 (l.drop i) name
theorem cR(l:List Tbl)(name:AT):atP l name l.length=l.length:=by simp[atP,E9]
theorem cS(l:List Tbl)(name:AT){i:Nat}(h:i<l.length):atP l name i=if WE (l.getD i default).name name=true then atP l name (i+1)else i:=by unfold atP;rw[List.drop_eq_getElem_cons h,AS h];unfold E9;rw[List.takeWhile_cons];split<;>simp;omega
theorem zT{l:List Tbl}{name:AT}(h:(AU l name).isSome=false):∀t∈l,t.name≠name:=by intro t ht e;unfold AU at h;simp at h;exact h t ht e
theorem zU{l:List Tbl}{name:AT}(h:(AU l name).isSome=true):∃p,p<l.length/\(l.getD p default).name=name/\∀k,p<k->k<l.length->(l.getD k default).name≠name:=by
 have hx:∃t∈l,t.name=name:=by unfold AU at h;simpa using h
 clear h
 induction l with
 |nil=>obtain⟨t,ht,_⟩:=hx;cases ht
 |cons a r ih=>
  by_cases hr:∃t∈r,t.name=name
  ·obtain⟨p,h1,h2,h3⟩:=ih hr;refine⟨p+1,by simpa using h1,by simpa using h2,fun k hk hl=>?_⟩;cases k with
   |zero=>omega
   |succ k=>simpa using h3 k (by omega) (by simpa using hl)
  ·obtain⟨t,ht,e⟩:=hx;rcases List.mem_cons.1 ht with rfl|ht
   ·refine⟨0,by simp,by simpa using e,fun k hk hl=>?_⟩;cases k with
    |zero=>omega
    |succ k=>
     have hl2:k<r.length:=by simpa using hl
     intro e2;exact hr ⟨r.getD k default,AA hl2,by simpa using e2⟩
   ·exact absurd ⟨t,ht,e⟩ hr
theorem zV(c:Cat)(x:Chg)(hl:c.tables.length<=1073741823):Is mx 128 [.agg (At c),.agg (AE x)] (Ln (Oq c x.table)):=by
 have b1:=zQ (mx:=mx) c.tables;have hs:=zR (mx:=mx) c.tables (by omega);have hx:=@cQ c.tables;have vl:=cP c.tables;generalize Oo c.tables=xs at hs hx vl;refine MX nD ?_;refine Dp b1 ?_;cases ht:(AU c.tables x.table.name).isSome
 ·have qb:=zT ht;rw[Oq,if_neg (by rw[ht];simp)];refine Rh (gf:=226) rfl (by kernel_rfl) hs [(2,5002),(4,5004),(5,5005),(6,5006)] [.any,.any,.ref (.loc 5002 0),.i (.elt (AE x) 0),.ref (.loc 5004 0),.ref (.loc 5005 0),.ref (.loc 5006 0),.any,.any,.any,.any,.any,.any,.any,.any,.any,.any,.any,.any,.any,.any,.any,.any,.any,.any,.any,.any,.any,.any,.any,.any,.any,.any,.any,.any,.any,.any,.any,.any,.any,.any] (fun j=>[(5002,.cells ((At c).map .i)),(5004,.cells ME),(5005,.cells [.i (iI 0)]),(5006,.cells [.i (iI (atP c.tables x.table.name (c.tables.length-j)))])]) [] xs.length .none
   ⟨by simp,fun _=>by simp,fun h=>absurd rfl h⟩ rfl (fun j hj=>⟨rfl,rfl,rfl,rfl⟩) rfl (by simp[Iu,Aj,CW,J8,Qs,J6,sw]) rfl (by simp[J5,MR,J8,J6,sw,Br,Aa,cR,At]) (fun j hj=>⟨by rw[hx (by omega)];rfl,?_⟩) ?_
  ·have hj2:j<c.tables.length:=by omega
   have jn:c.tables.length-1-j<c.tables.length:=by omega
   have jh:=cS c.tables x.table.name jn;have e2:c.tables.length-j=c.tables.length-1-j+1:=by omega
   have e3:c.tables.length-(j+1)=c.tables.length-1-j:=by omega
   have e4:(c.tables.length:Int)-1-(j:Int)=((c.tables.length-1-j:Nat):Int):=by omega
   rw[hx hj2,ite_self,e2,e3,e4,jh];have ji:=qb _ (AA jn);generalize c.tables.getD (c.tables.length-1-j) default=t at ji⊢;unfold WE;simp only[Fm,Eg,Nat.reduceAdd];cases hb:Op.bytesLess t.name x.table.name
   ·(repeat' first|simp(disch:=omega)only[go_sem,reduceCtorEq,Nat.reduceAdd,Nat.reduceEqDiff,Nat.reduceLeDiff,EA,lv,Bw,eq_false ji,decide_false,Bool.or_false,hb]|refine Ae ?_|fail)
    all_goals(refine⟨rfl,[],?_⟩;simp(disch:=omega)only[go_sem,Nat.reduceEqDiff];try exact⟨rfl,rfl,rfl,rfl⟩)
   ·(repeat' first|simp(disch:=omega)only[go_sem,reduceCtorEq,Nat.reduceAdd,Nat.reduceEqDiff,Nat.reduceLeDiff,EA,lv,Bw,eq_false ji,decide_false,Bool.or_false,hb]|refine Ae ?_|fail)
    all_goals(refine⟨rfl,[],?_⟩;simp(disch:=omega)only[go_sem,Nat.reduceEqDiff];try exact⟨rfl,rfl,rfl,rfl⟩)
  ·refine⟨by simp[J5,MR,J8,J6,sw,Bj,ren,Aa],by simp[J5,MR,J8,J6,sw,ren,Aa],rfl,?_⟩;show FV 0 _ .normal _;have hz:atP c.tables x.table.name (c.tables.length-xs.length)=E9 c.tables x.table.name:=by rw[vl,Nat.sub_self];simp[atP]
   rw[hz];have jj:=zS c.tables x.table.name;have m1:=zL (mx:=mx) c.tables (by omega);have m2:=zP (mx:=mx) 33 (by decide) c.tables (E9 c.tables x.table.name) x.table (by omega) jj;have e5:(Fa c.tables x.table).length=c.tables.length+1:=by unfold Fa Bo;simp;omega
   unfold Fa at e5⊢;simp only[AR]at m2
   (repeat' first|simp(disch:=omega)only[go_sem,Nat.reduceAdd,Nat.reduceSub,Nat.reduceEqDiff,Nat.reduceBEq,Nat.reduceLeDiff,J5,MR,J8,J6,sw,Bj,ren,Bw,e5,nmO,D.nms,List.append_nil,List.nil_append,List.contains_nil]|(refine Q6 (m1) ?_ rfl (fun r sto' hR=>?_);(focus(first|rfl|(simp only[go_sem,reduceCtorEq,Int.reduceToNat,Int.reduceNeg,Int.reduceLT,Int.reduceLE,Int.reduceEq,Int.reduceAdd,Int.reduceSub,Int.reduceMul,Nat.reduceAdd,Nat.reduceSub,Nat.reduceMul,Nat.reduceEqDiff,Nat.reduceBEq,Nat.reduceBneDiff,Nat.reduceLeDiff,Nat.reduceLT,reduceIte,J5,MR,J8,Qs,J6,sw,Bj,ren,Bw,e5,nmO,D.nms,List.append_nil,List.nil_append,List.contains_nil];done)));first|(obtain⟨rfl,rfl⟩:=hR)|(obtain⟨_,(rfl|rfl),rfl,rfl⟩:=hR))|(refine Iy (m2) ?_ (by simp[V0,I9]) (by simp[V0,I9,L9,Ref.nm]) (fun r sto' hR=>?_);(focus(first|rfl|(simp only[go_sem,reduceCtorEq,Int.reduceToNat,Int.reduceNeg,Int.reduceLT,Int.reduceLE,Int.reduceEq,Int.reduceAdd,Int.reduceSub,Int.reduceMul,Nat.reduceAdd,Nat.reduceSub,Nat.reduceMul,Nat.reduceEqDiff,Nat.reduceBEq,Nat.reduceBneDiff,Nat.reduceLeDiff,Nat.reduceLT,reduceIte,J5,MR,J8,Qs,J6,sw,Bj,ren,Bw,e5,nmO,D.nms,List.append_nil,List.nil_append,List.contains_nil];done)));first|(obtain⟨rfl,rfl⟩:=hR)|(obtain⟨_,(rfl|rfl),rfl,rfl⟩:=hR))|refine AG ?_|refine Gw (R:=gu _) ?_|fail)
   all_goals rw[List.take_of_length_le (by rw[List.length_map,e5];exact Nat.le_refl _)];rfl
 ·obtain⟨p,hp,hpe,we⟩:=zU ht;rw[Oq,if_pos ht];generalize hN:c.tables.length-p=N;refine Rh (gf:=226) rfl (by kernel_rfl) hs [(2,5002),(4,5004),(5,5005),(6,5006)] [.any,.any,.ref (.loc 5002 0),.i (.elt (AE x) 0),.ref (.loc 5004 0),.ref (.loc 5005 0),.ref (.loc 5006 0),.any,.any,.any,.any,.any,.any,.any,.any,.any,.any,.any,.any,.any,.any,.any,.any,.any,.any,.any,.any,.any,.any,.any,.any,.any,.any,.any,.any,.any,.any,.any,.any,.any,.any] (fun j=>[(5002,.cells ((At c).map .i)),(5004,.cells (if j=N then(At c).map .i else ME)),(5005,.cells [.i (iI (if j=N then 121 else 0))]),(5006,.cells [.i (iI (atP c.tables x.table.name (c.tables.length-min j (N-1))))])]) [] N .ret
   ⟨by omega,fun h=>by simp at h,fun h=>by omega⟩ rfl (fun j hj=>by by_cases e:j=N<;>simp only[e,if_true,if_false]<;>exact⟨rfl,rfl,rfl,rfl⟩) rfl (by simp[Iu,Aj,CW,J8,Qs,J6,sw]) rfl (by
    have h0:¬(0=N):=by omega
    simp[J5,MR,J8,J6,sw,Br,Aa,cR,At,h0]) (fun j hj=>⟨by rw[hx (by omega)];rfl,?_⟩) ?_
  ·have hj2:j<c.tables.length:=by omega
   have jn:c.tables.length-1-j<c.tables.length:=by omega
   have jh:=cS c.tables x.table.name jn;have e1:min j (N-1)=j:=by omega
   have e2:c.tables.length-j=c.tables.length-1-j+1:=by omega
   have e4:(c.tables.length:Int)-1-(j:Int)=((c.tables.length-1-j:Nat):Int):=by omega
   have e6:¬(j=N):=by omega
   rw[hx hj2];simp only[e1,e2,e4,if_neg e6];by_cases hjN:j+1=N
   ·have e3:min (j+1) (N-1)=j:=by omega
    have e7:c.tables.length-1-j=p:=by omega
    have e8:c.tables.length-j=p+1:=by omega
    simp only[e3,if_pos hjN,e7,e8];simp only[Fm,Eg,Nat.reduceAdd];generalize c.tables.getD p default=t at hpe⊢;refine Hw (cj @EA.eq_1 (cj @lv.eq_1 (cj @Bw hpe))) ?_
    all_goals intros
    all_goals(refine⟨rfl,[],?_⟩;simp(disch:=omega)only[go_sem,Nat.reduceEqDiff];try exact⟨rfl,rfl,rfl,rfl⟩)
   ·have e3:min (j+1) (N-1)=j+1:=by omega
    have e7:c.tables.length-(j+1)=c.tables.length-1-j:=by omega
    have ji:=we (c.tables.length-1-j) (by omega) jn;simp only[e3,if_neg hjN,e7,jh];generalize c.tables.getD (c.tables.length-1-j) default=t at ji⊢;unfold WE;simp only[Fm,Eg,Nat.reduceAdd];cases hb:Op.bytesLess t.name x.table.name
    ·refine By (cj @EA.eq_1 (cj @lv.eq_1 (cj @Bw (cj ji (cj @Bool.or_false hb))))) ?_
     all_goals intros
     all_goals(refine⟨rfl,[],?_⟩;simp(disch:=omega)only[go_sem,Nat.reduceEqDiff];try exact⟨rfl,rfl,rfl,rfl⟩)
    ·refine By (cj @EA.eq_1 (cj @lv.eq_1 (cj @Bw (cj ji (cj @Bool.or_false hb))))) ?_
     all_goals intros
     all_goals(refine⟨rfl,[],?_⟩;simp(disch:=omega)only[go_sem,Nat.reduceEqDiff];try exact⟨rfl,rfl,rfl,rfl⟩)
  ·refine⟨by simp[J5,MR,J8,J6,sw,Bj,ren,Aa],by simp[J5,MR,J8,J6,sw,ren,Aa],rfl,?_⟩;have h0:¬(0=N):=by omega
   simp only[if_true,if_neg h0];generalize atP c.tables x.table.name (c.tables.length-min 0 (N-1))=q1;generalize atP c.tables x.table.name (c.tables.length-min N (N-1))=q2;show FV 0 _ .ret _
   (repeat' first|simp(disch:=omega)only[go_sem,Nat.reduceAdd,Nat.reduceEqDiff,J5,MR,J8,J6,sw,Bj,ren,List.map_nil,List.map_cons]|refine Gw (R:=gu _) ?_|fail)
   rfl
end
section
def Vy(k:Int):Nat:=if k=1 then 128 else if k=2 then 131 else if k=3 then 134 else if k=4 then 136 else 137
def Vz(k:Int):Nat:=if k=1 then 129 else if k=2 then 132 else 135
def J0:List (I×I):=[(iI 1,.agg [.fn 128 [] [],.fn 129 [] []]),(iI 2,.agg [.fn 131 [] [],.fn 132 [] []]),(iI 3,.agg [.fn 134 [] [],.fn 135 [] []]),(iI 4,.agg [.fn 136 [] [],.fn 135 [] []]),(iI 5,.agg [.fn 137 [] [],.fn 135 [] []])]
theorem zW:Is mx 102 [] (.map J0):=by refine MX oJ ?_;refine Lbn ?_;rfl
theorem zX(x:Chg):Is mx 129 [.agg (AE x)] (.bool (decide (x.name=[])&&GF x.feature CL)):=by have n1:=cH (mx:=mx) x.feature;rw[Cx]at n1;refine MX oP ?_;exact Dp (cj n1 @Bw) trivial
theorem zY(x:Chg):Is mx 132 [.agg (AE x)] (.bool (decide (x.name=[])&&Gf x.table BB)):=by have n1:=cG (mx:=mx) x.table;refine MX nE ?_;exact Dp (cj n1 @Bw) trivial
theorem zZ(x:Chg):Is mx 135 [.agg (AE x)] (.bool (Gf x.table BB&&GF x.feature CL)):=by have n2:=cG (mx:=mx) x.table;have n1:=cH (mx:=mx) x.feature;rw[Cx]at n1;refine MX rF ?_;exact Dp (cj n1 (cj n2 @Bw)) trivial
theorem Lh{α:Type}(p:α->α->Bool):∀l:List α,(∀x∈l,p x x=true)->eqL p l l=true
 |[],_=>rfl
 |x::l,h=>by simp only[eqL,h x List.mem_cons_self,Lh p l (fun y hy=>h y (List.mem_cons_of_mem _ hy)),Bool.and_self]
theorem cT(x:Fac):Gb x x=true:=by simp[Gb]
theorem cU(x:Typ):Mp x x=true:=by simp[Mp,Lh,Gb,cT]
theorem z2(x:Fld):Mt x x=true:=by simp[Mt,cU]
theorem R9(x:Tbl):Gf x x=true:=by grind[Gf,Lh,Mt,z2]
mutual
theorem cV:∀x:Xpr,gh x x=true
 |.mk k o n t v u p w a=>by
  have h1:=eqXs_self a;have h2:=Lh Gb u fun y _=>cT y
  rw[gh];simp[Xpr.kind,Xpr.op,Xpr.name,Xpr.table,Xpr.val,Xpr.param,Xpr.win,Xpr.args,Xpr.unit,CJ,h1,h2]
theorem eqXs_self:∀a:List Xpr,eqXs a a=true
 |[]=>rfl
 |x::a=>by rw[eqXs,cV x,eqXs_self a];rfl
end
theorem Sa(x:Ftr):GF x x=true:=by simp[GF,cU,cV]
theorem z6(x:Chg):GR x=if x.kind=1 then(decide (x.name=[])&&GF x.feature CL)else if x.kind=2 then(decide (x.name=[])&&Gf x.table BB)else if 1<=x.kind/\x.kind<=5 then(Gf x.table BB&&GF x.feature CL)else false:=by grind[GR,JP,RU,R9,Sa]
theorem z7(x:Chg)(hk:1<=x.kind/\x.kind<=5):Is mx (Vz x.kind) [.agg (AE x)] (.bool (GR x)):=by rw[z6];grind[Vz,zX,zY,zZ]
theorem z8{k:Int}(hk:1<=k/\k<=5):C0 J0 (.int .i64 k) (.agg [.nilfn,.nilfn]) true=.tup [.agg [.fn (Vy k) [] [],.fn (Vz k) [] []],.bool true]:=by
 have:k=1\/k=2\/k=3\/k=4\/k=5:=by omega
 rcases this with rfl|rfl|rfl|rfl|rfl<;>rfl
theorem aA0{k:Int}(hk:¬(1<=k/\k<=5)):C0 J0 (.int .i64 k) (.agg [.nilfn,.nilfn]) true=.tup [.agg [.nilfn,.nilfn],.bool false]:=by
 have h1:¬((1:Int)=k):=by omega
 have h2:¬((2:Int)=k):=by omega
 have h3:¬((3:Int)=k):=by omega
 have h4:¬((4:Int)=k):=by omega
 have h5:¬((5:Int)=k):=by omega
 have e:∀a:Int,Bc (iI a)=[some (.i .i64 a)]:=fun a=>rfl
 have e2:Bc (.int .i64 k)=[some (.i .i64 k)]:=rfl;have e3:GZ J0 (.int .i64 k)=none:=by simp_all[GZ,J0]
 simp[C0,e3]
theorem aA1:(∀e∈J0,AB [.i .i64] e.1=true)=True:=eq_true (by unfold J0;simp[AB,AL,Bp])
theorem aA2(c:Cat)(x:Chg)(r:Cat×Int)(jf:1<=x.kind->x.kind<=5->GR x=true->Is mx (Vy x.kind) [.agg (At c),.agg (AE x)] (Ln r))
  (hr2:r.2=(DH c x).2)(w6:r.2=0->r=DH c x)(hchk:r.2=0->Is mx 103 [.agg (At (DH c x).1)] (iI (H7 (DH c x).1))):Is mx 72 [.agg (At c),.agg (AE x)] (Ln (Cn c x)):=by
 have hR:=Cn.eq_1 c x;have hE:=MG.eq_1 c x;have r0:=zW (mx:=mx);generalize DH c x=q at*;have j6:=aA1;by_cases hk:1<=x.kind/\x.kind<=5
 ·have p1:=z7 (mx:=mx) x hk;have kp:=z8 hk;have jf:=jf hk.1 hk.2;rw[Bw]at p1 jf;generalize J0=M at r0 kp j6;cases hpv:GR x
  ·rw[hpv]at p1;rw[if_pos hpv]at hR;rw[hR];refine MX F72 ?_;refine Dp (cj r0 (cj p1 (cj @Bw (cj kp j6)))) ?_;rfl
  ·rw[hpv]at p1;have jf:=jf hpv;rw[if_neg (by rw[hpv];simp)]at hR;by_cases h0:r.2=0
   ·have e:=w6 h0;subst e;rw[if_pos h0]at hE;have hchk:=hchk h0;obtain⟨d,e⟩:=r;simp only at h0;subst h0;simp only[Ln]at jf;by_cases hc:H7 d=0
    ·rw[hE,if_neg (by simpa using hc)]at hR;rw[hR];rw[hc]at hchk;refine MX F72 ?_
     (repeat' first|simp(disch:=omega)only[go_sem,simprocAttr,Bw,kp,j6,ne_eq,not_true_eq_false,decide_true,decide_false]|refine Sx.s ?_ ?_<;>try(intro h;have h':=h;try simp only[HB]at h';try rewrite [h];try simp only[h])|refine Ab (r0) ?_|refine Ab (p1) ?_|refine Ab (jf) ?_|refine Ab (hchk) ?_|refine Ae ?_|refine Ix ?_ ?_|refine AG ?_|refine Sz.s ?_|fail)
     all_goals rfl
    ·rw[hE,if_pos hc]at hR;rw[hR];refine MX F72 ?_
     (repeat' first|simp(disch:=omega)only[go_sem,simprocAttr,Bw,kp,j6,eq_false hc,ne_eq,not_false_eq_true,decide_true]|refine Sx.s ?_ ?_<;>try(intro h;have h':=h;try simp only[HB]at h';try rewrite [h];try simp only[h])|refine Ab (r0) ?_|refine Ab (p1) ?_|refine Ab (jf) ?_|refine Ab (hchk) ?_|refine Ae ?_|refine Ix ?_ ?_|refine AG ?_|refine Sz.s ?_|fail)
     all_goals rfl
   ·rw[if_neg (by omega)]at hE;rw[hE,<-hr2,if_pos h0]at hR;rw[hR];obtain⟨d,e⟩:=r;simp only at h0 hR;simp only[Ln]at jf;refine MX F72 ?_
    (repeat' first|simp(disch:=omega)only[go_sem,simprocAttr,Bw,kp,j6,eq_false h0,ne_eq,not_false_eq_true,decide_true,decide_false]|refine Ab (r0) ?_|refine Ab (p1) ?_|refine Ab (jf) ?_|refine Ae ?_|refine Ix ?_ ?_|refine AG ?_|refine Sz.s ?_|fail)
    all_goals rfl
 ·have hp:GR x=false:=by unfold GR;rw[if_neg hk]
  rw[if_pos hp]at hR;have kp:=aA0 hk;rw[hR];generalize J0=M at r0 kp j6;refine MX F72 ?_;refine Hw (cj r0 (cj @Bw (cj kp j6))) ?_;rfl
end
section
def Ot(m:List (Fid×Bool))(x:Ent):List (Fid×Bool):=if x.kind=1 then AO m x.fact.id true else m
def Li(l:List Ent)(i:Nat):List (Fid×Bool):=(l.take i).foldl Ot []
theorem cW{l:List Ent}{i:Nat}(h:i<l.length):Li l (i+1)=Ot (Li l i) (l.getD i default):=by grind[Li,Cg]
theorem cX(l:List Ent)(id:Fid):∀i,i<=l.length->inG (Li l i) id=(l.take i).any (fun x=>decide (x.kind=1)&&decide (x.fact.id=id))
 |0,_=>by rfl
 |i+1,h=>by
  have ih:=cX l id i (by omega);rw[cW (by omega),Cg (by omega),List.any_append,<-ih];simp only[List.any_cons,List.any_nil,Bool.or_false];unfold Ot;split
  ·rename_i hk;unfold inG;rw[Rg];grind
  all_goals grind
def pNo(l:List Ent)(i:Nat):Int:=if i=0 then 0 else(l.getD (i-1) default).no
def Lj(l:List Ent)(i:Nat):Int:=if i=0 then 0 else(l.getD (i-1) default).tick
theorem aA3{l:List Ent}{i:Nat}(h:i<l.length):inG (Li l i) (l.getD i default).fact.id=DV l i:=cX l _ i (by omega)
theorem aA4{l:List Ent}{i:Nat}(h1:0<=pNo l i)(h2:0<=Lj l i):(decide ((l.getD i default).no<=pNo l i)||decide (1099511627776<(l.getD i default).no)||decide ((l.getD i default).tick<Lj l i)||!(decide (0<=(l.getD i default).tick)&&decide ((l.getD i default).tick<=1099511627776)))=(EG (l.getD i default)||Dw l i (l.getD i default)):=by grind[EG,Dw,pNo,Lj]
theorem aA5(l:List Ent)(hl:Af Am l<=1073740)(hA:∀i,i<l.length->(A1 l i).2=0->(l.getD i default).kind=3->Is mx 72 [.agg (At (A1 l i).1),.agg (AE (l.getD i default).change)] (Ln (Cn (A1 l i).1 (l.getD i default).change))):
  Is mx 24 [.sl (l.map Ac)] (iI (AW l)):=by
 have jd:=KW l;refine MX F24 ?_;by_cases h4:4096<l.length
 ·have h4T:((4096:Int)<(l.length:Int))=True:=eq_true (by omega);rw[AW,if_pos h4]
  (repeat' first|simp(disch:=omega)only[go_sem,simprocAttr,h4T]|refine Ae ?_|refine Sz.s ?_|fail)
 ·have h4F:((4096:Int)<(l.length:Int))=False:=eq_false (by omega);rw[AW,if_neg h4]
  (repeat' first|simp(disch:=omega)only[go_sem,simprocAttr,h4F]|refine Ae ?_|fail)
  refine BG [3,4,16,17] (by simp only[V0,MQ,reduceIte,Nat.reduceEqDiff];rfl) (fun i:Nat=>[(5,.i (iI (pNo l i))),(6,.i (iI (Lj l i))),(18,.i (iI i))]) (fun i=>[(15,.map [.g,.s,.i .i64] (Hr (Li l i))),(3,.cells ((At (A1 l i).1).map .i))])
   (fun i=>i<=l.length/\(A1 l i).2=0/\0<=pNo l i/\0<=Lj l i) (fun i=>l.length-i) 0 ⟨by omega,rfl,by simp[pNo],by simp[Lj]⟩ (by simp[V0,I9,Ref.nm,A1,At,D.nms,OL,pNo,Lj,Li,Hr]) ?_
  rintro i ⟨hi,jb,hn0,ht0⟩;have hb:=RX l i hi;by_cases ja:i<l.length
  ·have hts:Af Am (l.take (i+1))=Af Am (l.take i)+Am (l.getD i default):=by rw[Cg ja,Gi];simp[Af]
   have qp:=Hp Am l (i+1);have hS:A1 l (i+1)=CA l i (A1 l i).1:=by grind[A1]
   have herr:=U9 (l:=l) (i:=i+1);have kx:=aA4 hn0 ht0;have vq:=cW ja;have htw:=aA3 ja;have hA':=hA i ja jb;have we:pNo l (i+1)=(l.getD i default).no:=by rfl
   have hpt:Lj l (i+1)=(l.getD i default).tick:=by rfl
   have q1:=zo (mx:=mx) (l.getD i default).tick;have q2:=zy (mx:=mx) (l.getD i default);rw[AV]at q2;have hbe:=DS (l.getD i default);have hbf:=IM (l.getD i default).fact;have q3:=Vv (mx:=mx) (A1 l i).1 (l.getD i default).fact (by omega) (by omega);have q4:=zq (mx:=mx) (l.getD i default).erasure (by omega);generalize (A1 l i).1=c at hS hA' q3 hb;unfold CA at hS;cases ho:EG (l.getD i default)||Dw l i (l.getD i default)
   ·rw[ho]at kx;rw[ho,if_neg (by simp)]at hS;have qe:1<=(l.getD i default).no/\0<=(l.getD i default).tick:=by grind
    cases vu:Fb (l.getD i default)
    ·rw[vu]at q2;rw[if_pos vu]at hS;have hz:(A1 l l.length).2=1:=by grind
     rw[hz]
     (repeat' first|exact Av _|simp(disch:=omega)only[go_sem,simprocAttr,Cq ja,AV,kx]|refine' AD (fun hq=>?_) (fun f=>?_)<;>try(have je:=hq;try simp only[HB]at je)|refine Sx.s ?_ ?_<;>try(intro h;have h':=h;try simp only[HB]at h';try rewrite [h];try simp only[h])|refine Ab (q1) ?_|refine Ab (q2) ?_|refine Ae ?_|refine AG ?_|refine Sz.s ?_|fail)
    ·rw[vu]at q2;rw[if_neg (by rw[vu];simp)]at hS
     try rw[KM]at q3
     try rw[T5]at q4
     by_cases kt:(l.getD i default).kind=1
     ·rw[if_pos kt]at hS;have kp:=R5 (Li l i) (l.getD i default).fact.id;rw[htw]at kp;rw[Ot,if_pos kt]at vq;by_cases hf0:C2 c (l.getD i default).fact=0
      ·rw[hf0]at q3;cases htv:DV l i
       ·rw[if_neg (by rw[htv];simp),hf0]at hS;rw[htv]at kp
        (repeat' first|exact Av _|simp(disch:=omega)only[go_sem,simprocAttr,Cq ja,AV,kx,eq_true kt,kp,Vn,AB,AL,Bp,beq_self_eq_true,ne_eq,not_true_eq_false,decide_false,decide_true]|refine' AD (fun hq=>?_) (fun f=>?_)<;>try(have je:=hq;try simp only[HB]at je)|refine Sx.s ?_ ?_<;>try(intro h;have h':=h;try simp only[HB]at h';try rewrite [h];try simp only[h])|refine Ab (q1) ?_|refine Ab (q2) ?_|refine Ab (q3) ?_|refine Ae ?_|refine AG ?_|fail)
        all_goals exact⟨i+1,⟨by omega,by rw[hS],by rw[we];omega,by rw[hpt];omega⟩,by omega,⟨by rw[we],by rw[hpt],rfl⟩,by rw[vq],by rw[hS]⟩
       ·rw[if_pos ⟨hf0,htv⟩]at hS;rw[htv]at kp;have hz:(A1 l l.length).2=151:=by grind
        rw[hz]
        (repeat' first|exact Av _|simp(disch:=omega)only[go_sem,simprocAttr,Cq ja,AV,kx,eq_true kt,kp,AB,AL,Bp,beq_self_eq_true,ne_eq,not_true_eq_false,decide_false,decide_true]|refine' AD (fun hq=>?_) (fun f=>?_)<;>try(have je:=hq;try simp only[HB]at je)|refine Sx.s ?_ ?_<;>try(intro h;have h':=h;try simp only[HB]at h';try rewrite [h];try simp only[h])|refine Ab (q1) ?_|refine Ab (q2) ?_|refine Ab (q3) ?_|refine Ae ?_|refine AG ?_|refine Sz.s ?_|fail)
        all_goals exact⟨i+1,⟨by omega,by rw[hS],by rw[we];omega,by rw[hpt];omega⟩,by omega,⟨by rw[we],by rw[hpt],rfl⟩,by rw[vq],by rw[hS]⟩
      ·rw[if_neg (fun q=>hf0 q.1)]at hS;have hz:(A1 l l.length).2=C2 c (l.getD i default).fact:=by grind
       rw[hz]
       (repeat' first|exact Av _|simp(disch:=omega)only[go_sem,simprocAttr,Cq ja,AV,kx,eq_true kt,ne_eq,eq_false hf0,not_false_eq_true,decide_true]|refine' AD (fun hq=>?_) (fun f=>?_)<;>try(have je:=hq;try simp only[HB]at je)|refine Sx.s ?_ ?_<;>try(intro h;have h':=h;try simp only[HB]at h';try rewrite [h];try simp only[h])|refine Ab (q1) ?_|refine Ab (q2) ?_|refine Ab (q3) ?_|refine Ae ?_|refine AG ?_|refine Sz.s ?_|fail)
       all_goals exact⟨i+1,⟨by omega,by rw[hS],by rw[we];omega,by rw[hpt];omega⟩,by omega,⟨by rw[we],by rw[hpt],rfl⟩,by rw[vq],by rw[hS]⟩
     ·rw[if_neg kt]at hS;by_cases qo:(l.getD i default).kind=2
      ·rw[if_pos qo]at hS;rw[Ot,if_neg kt]at vq;cases hev:D8 (l.getD i default).erasure
       ·rw[hev]at q4;rw[if_pos hev]at hS;have hz:(A1 l l.length).2=1:=by grind
        rw[hz]
        (repeat' first|exact Av _|simp(disch:=omega)only[go_sem,simprocAttr,Cq ja,AV,kx,eq_false kt,eq_true qo]|refine' AD (fun hq=>?_) (fun f=>?_)<;>try(have je:=hq;try simp only[HB]at je)|refine Sx.s ?_ ?_<;>try(intro h;have h':=h;try simp only[HB]at h';try rewrite [h];try simp only[h])|refine Ab (q1) ?_|refine Ab (q2) ?_|refine Ab (q4) ?_|refine Ae ?_|refine AG ?_|refine Sz.s ?_|fail)
        all_goals exact⟨i+1,⟨by omega,by rw[hS],by rw[we];omega,by rw[hpt];omega⟩,by omega,⟨by rw[we],by rw[hpt],rfl⟩,by rw[vq],by rw[hS]⟩
       ·rw[hev]at q4;rw[if_neg (by rw[hev];simp)]at hS
        (repeat' first|exact Av _|simp(disch:=omega)only[go_sem,simprocAttr,Cq ja,AV,kx,eq_false kt,eq_true qo]|refine' AD (fun hq=>?_) (fun f=>?_)<;>try(have je:=hq;try simp only[HB]at je)|refine Sx.s ?_ ?_<;>try(intro h;have h':=h;try simp only[HB]at h';try rewrite [h];try simp only[h])|refine Ab (q1) ?_|refine Ab (q2) ?_|refine Ab (q4) ?_|refine Ae ?_|refine AG ?_|fail)
        all_goals exact⟨i+1,⟨by omega,by rw[hS],by rw[we];omega,by rw[hpt];omega⟩,by omega,⟨by rw[we],by rw[hpt],rfl⟩,by rw[vq],by rw[hS]⟩
      ·rw[if_neg qo]at hS;have qh:(l.getD i default).kind=3:=by grind[Fb]
       have hA':=hA' qh;rw[Bw]at hA';rw[Ot,if_neg kt]at vq;generalize Cn c (l.getD i default).change=r at hS hA';obtain⟨d,e⟩:=r;simp only[Ln]at hA';by_cases he:e=0
       ·subst he
        (repeat' first|exact Av _|simp(disch:=omega)only[go_sem,simprocAttr,Cq ja,AV,kx,eq_false kt,eq_false qo,eq_true qh,ne_eq,not_true_eq_false,decide_false,decide_true]|refine' AD (fun hq=>?_) (fun f=>?_)<;>try(have je:=hq;try simp only[HB]at je)|refine Sx.s ?_ ?_<;>try(intro h;have h':=h;try simp only[HB]at h';try rewrite [h];try simp only[h])|refine Ab (q1) ?_|refine Ab (q2) ?_|refine Ab (hA') ?_|refine Ae ?_|refine AG ?_|fail)
        all_goals exact⟨i+1,⟨by omega,by rw[hS],by rw[we];omega,by rw[hpt];omega⟩,by omega,⟨by rw[we],by rw[hpt],rfl⟩,by rw[vq],by rw[hS]⟩
       ·have hz:(A1 l l.length).2=e:=by rw[herr (by rw[hS];exact he) l.length (by omega),hS]
        rw[hz]
        (repeat' first|exact Av _|simp(disch:=omega)only[go_sem,simprocAttr,Cq ja,AV,kx,eq_false kt,eq_false qo,eq_true qh,ne_eq,eq_false he,not_false_eq_true,decide_false,decide_true]|refine' AD (fun hq=>?_) (fun f=>?_)<;>try(have je:=hq;try simp only[HB]at je)|refine Sx.s ?_ ?_<;>try(intro h;have h':=h;try simp only[HB]at h';try rewrite [h];try simp only[h])|refine Ab (q1) ?_|refine Ab (q2) ?_|refine Ab (hA') ?_|refine Ae ?_|refine AG ?_|refine Sz.s ?_|fail)
        all_goals exact⟨i+1,⟨by omega,by rw[hS],by rw[we];omega,by rw[hpt];omega⟩,by omega,⟨by rw[we],by rw[hpt],rfl⟩,by rw[vq],by rw[hS]⟩
   ·rw[ho]at kx;rw[ho,if_pos rfl]at hS;have hz:(A1 l l.length).2=150:=by grind
    rw[hz]
    (repeat' first|exact Av _|simp(disch:=omega)only[go_sem,simprocAttr,Cq ja,AV,kx]|refine' AD (fun hq=>?_) (fun f=>?_)<;>try(have je:=hq;try simp only[HB]at je)|refine Ab (q1) ?_|refine Ae ?_|refine Sz.s ?_|fail)
  ·have e:i=l.length:=by omega
   subst e;rw[jb]
   (repeat' first|simp(disch:=omega)only[go_sem,simprocAttr,Ih ja]|refine Ae ?_|refine Sz.s ?_|fail)
end
end Go.Proofs.YtkhlddbmhehbbaaGreatDoor
