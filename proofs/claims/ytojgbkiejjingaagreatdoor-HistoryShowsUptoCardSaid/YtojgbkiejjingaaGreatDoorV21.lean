/-Lemmas.-/
import Derived.Test.YtojgbkiejjingaaGreatDoorV20
import Derived.Lib.Overlaps
set_option linter.all false
set_option maxRecDepth 100000
set_option maxHeartbeats 8000000
namespace Go.Proofs.YtojgbkiejjingaaGreatDoor
open Go Go.Dl Go.As Go.Proofs
variable {mx:Int}
attribute[local irreducible] Ah Ai MC W2 Fq ev evD step Ad
section
theorem RS(nm:Nat)(hn:nm<5000)(l m:List Rw)(hl:l.length<4611686018427387904)(hm:m.Pairwise BE)(hp:m.Perm l):MC Tryz.prog (Mi mx) 53 [.ref (.sl nm 8 0 l.length),.i (.fn 36 [] [])] [(nm,.rows 68 8 (l.map JI))] []
  (fun r s=>r=.i (.tup [])/\s=[(nm,.rows 68 8 (m.map JI))]):=by
 have e1:KN [(5000,nm)] 5000=nm:=by rfl
 have h:=(MC.as [(5000,nm)] (xE (mx:=mx) l m hl hm hp)).mono (R':=fun r s=>r=.i (.tup [])/\s=[(nm,.rows 68 8 (m.map JI))]) (by
  rintro r s ⟨h1,h2⟩;have k:=DX (f:=IM [(5000,nm)]) (g:=KN [(5000,nm)]) (BQ _) r;have k2:=E2 (f:=IM [(5000,nm)]) (g:=KN [(5000,nm)]) (BQ _) s;rw[h1]at k;rw[h2]at k2;refine⟨k.symm,?_⟩;rw[<-k2];simp only[IL,KL,e1])
 simp only[Ze1,Ze5,I8,OF,IL,KL,e1]at h;exact h
def Fm(ids:List (Fid×Bool))(p:Fid×CV):Option Rw:=if(!p.2.1||decide (p.2.2.fact.kind=3)||inG ids p.1)=true then none else some (DS p.2.2 p.1)
def rowsB(ids:List (Fid×Bool))(m:List (Fid×CV)):List Rw:=m.filterMap (Fm ids)
def Gv(l:List Rw):List Rw:=l.mergeSort fun a b=>!decide (Dk b a<0)
theorem JC(l:List Rw):(Gv l).Perm l:=Zfr l _
theorem U7{l:List Rw}(hn:l.Pairwise fun a b=>a.id≠b.id):(Gv l).Pairwise BE:=by
 have h1:=Zf2 (le:=fun a b:Rw=>!decide (Dk b a<0)) (fun a b c h k=>by
  simp only[Zb7,Za4]at*;intro hca;have:=aQ.ntrans c b a (by simpa using k) (by simpa using h);rw[Za4]at this;exact this hca) (fun a b=>by
  simp only[Zcb,Zb7,Za4];by_cases h:Dk b a<0
  ·exact .inr fun k=>HW.irr a (HW.tr a b a k h)
  ·exact .inl h) l
 have h2:(Gv l).Pairwise fun a b=>a.id≠b.id:=((JC l).pairwise_iff (fun{a b} (h:a.id≠b.id)=>h.symm)).2 hn
 have h1:(Gv l).Pairwise fun a b=>(!decide (Dk b a<0))=true:=h1
 refine(h1.and h2).imp fun{a b} h=>?_
 have h3:¬Dk b a<0:=by simpa using h.1
 rcases RL a b with q|q|q
 ·exact q
 ·exact absurd q.2 h.2
 ·exact absurd q h3
theorem yi(m:List (Fid×CV))(x:Ent)(h:(m.map (·.1)).Nodup):((ff m x).map (·.1)).Nodup:=by grind[ff,Kl]
theorem bo:∀(l:List Ent) (m:List (Fid×CV)),(m.map (·.1)).Nodup->((l.foldl ff m).map (·.1)).Nodup
 |[],m,h=>h
 |x::l,m,h=>bo l _ (yi m x h)
theorem RT(l:List Ent)(tick:Int):((Do l tick).map (·.1)).Nodup:=bo _ _ (by simp)
theorem RU:∀(l:List Ent) (m:List (Fid×CV)),(l.foldl ff m).length<=m.length+l.length
 |[],m=>by simp
 |x::l,m=>by
  have h1:=RU l (ff m x);have h2:(ff m x).length<=m.length+1:=by
   unfold ff;split
   ·omega
   ·have:=Zae List.length (Kl m (AO x.fact) (KF ((Al m (AO x.fact)).getD no0) x));split at this<;>simp at this<;>omega
  simp only[Zdt,Zem];omega
theorem yj{ids:List (Fid×Bool)}{p:Fid×CV}{r:Rw}(h:Fm ids p=some r):r.id=p.1:=by
 unfold Fm at h;split at h
 ·cases h
 ·cases h;rfl
theorem RW(ids:List (Fid×Bool)):∀(m:List (Fid×CV)),(m.map (·.1)).Nodup->(rowsB ids m).Pairwise fun a b=>a.id≠b.id
 |[],_=>List.Pairwise.nil
 |p::m,h=>by
  rw[Ze1,Zfu]at h;have ih:=RW ids m h.2;unfold rowsB at ih⊢;cases hp:Fm ids p with
  |none=>rw[List.filterMap_cons_none hp];exact ih
  |some r=>rw[List.filterMap_cons_some hp,Zfy];refine⟨fun b hb=>?_,ih⟩;obtain⟨q,hq,hqb⟩:=List.mem_filterMap.1 hb;grind[yj]
def BU(l:List Ent)(tick:Int):List Rw:=Gv (rowsB (Mj l l.length).ids (Do l tick))
theorem yk(ids:List (Fid×Bool))(m:List (Fid×CV)):(rowsB ids m).length<=m.length:=List.length_filterMap_le _ _
theorem yl(l:List Ent)(tick:Int)(hl:l.length<=30000):MC Tryz.prog (Mi mx) 19 [.i (.sl (l.map Ae)),.i (iI tick)] [] [] (fun r s=>r=.ref (.sl 6000 8 0 (BU l tick).length)/\s=[(6000,.rows 68 8 ((BU l tick).map JI))]):=by
 have e0:=RN (mx:=mx) l (by omega);have e1:=bj (mx:=mx) l tick (by omega);have hk:=RT l tick;have qy:(Do l tick).length<=l.length:=by grind[RU,Bt,Do]
 unfold BU;generalize (Mj l l.length).ids=ids at e0;generalize Do l tick=bs at e1 hk qy;have vk:=U7 (RW ids bs hk);simp only[IE,Am]at e1;refine MX F19 ?_;refine EV (cj e0 e1) ?_;refine lT [5,14] (fun g:List Rw×List (Fid×CV)×Option (I×I)=>[(4,.ref (.sl 4 8 0 g.1.length))]) (fun g=>[(14,.iter g.2.2 (g.2.1.map fun p=>(.agg [.str p.1.source,.int .i64 p.1.seq],.agg (Bu p.2)))),(4,.rows 68 8 (g.1.map JI))]) (fun g=>(g.1++rowsB ids g.2.1).Perm (rowsB ids bs)/\g.1.length+g.2.1.length<=bs.length) (fun g=>g.2.1.length) ([],bs,none) ?_ ⟨by simp,by simp⟩;rintro⟨acc,rest,cur⟩ ⟨jb,je⟩;simp only at je jb;have kn:=fun id:Fid=>NP ids id
 simp(disch:=omega)only[go_sem,Nat.reduceEqDiff];refine Ih (fun hr=>?_) (fun q hq=>?_)
 ·subst hr;have hp:acc.Perm (rowsB ids bs):=by grind[rowsB]
  have qr:(Gv (rowsB ids bs)).length=acc.length:=((JC _).trans hp.symm).length_eq
  (repeat' first|simp(disch:=omega)only[go_sem,simprocAttr]|(first|refine D2 (RS 4 (by decide) acc (Gv (rowsB ids bs)) (by omega) vk ((JC _).trans hp.symm)) ?_ (fun r sto' hR=>?_)|refine Dg (RS 4 (by decide) acc (Gv (rowsB ids bs)) (by omega) vk ((JC _).trans hp.symm)) ?_ (fun r sto' hR=>?_);(focus(first|rfl|(simp only[go_sem,simprocAttr,Zg6];done)));first|(obtain⟨rfl,rfl⟩:=hR)|(obtain⟨_,(rfl|rfl),rfl,rfl⟩:=hR))|refine Ac ?_|fail)
  rw[<-qr];refine Dv [(4,6000)] ?_;simp[VL]
 ·have hpm:=Pa hq;have w9:(rest.eraseIdx q).length+1=rest.length:=by grind
  have ko:∀acc':List Rw,acc'=acc++(Fm ids rest[q]).toList->(acc'++rowsB ids (rest.eraseIdx q)).Perm (rowsB ids bs):=fun acc' e=>by
   subst e;refine List.Perm.trans ?_ jb;have h1:((Fm ids rest[q]).toList++rowsB ids (rest.eraseIdx q)).Perm (rowsB ids rest):=by grind[Fm,rowsB]
   rw[Zc0];exact Zcr acc h1
  clear hpm;generalize rest[q]=p at ko⊢;generalize hrest:rest.eraseIdx q=rest' at ko w9⊢;obtain⟨id,ba,be⟩:=p;have kn:=NP ids id;have v7:=HT Gu L9 (DS be id);rw[eRw_eq]at v7;simp only[DS]at v7;have kc:List.take acc.length (acc.map JI)=acc.map JI:=Zgf (by simp);have jy:Fm ids (id,ba,be)=if(!ba||decide (be.fact.kind=3)||inG ids id)=true then none else some (DS be id):=rfl
  rw[jy]at ko;cases ba
  ·refine FU (cj @Bu.eq_1 @AN) ?_;exact⟨(acc,rest',some (.agg (Am id),.agg (Bu (false,be)))),⟨ko acc (by simp),by simp only;omega⟩,by simp only;omega,rfl,by simp only[Bu,AN,Am],rfl⟩
  ·by_cases qf:be.fact.kind=3
   ·(repeat' first|simp(disch:=omega)only[go_sem,simprocAttr,Bu,AN,Za8 qf]|refine Ac ?_|fail)
    exact⟨(acc,rest',some (.agg (Am id),.agg (Bu (true,be)))),⟨ko acc (by simp[qf]),by simp only;omega⟩,by simp only;omega,rfl,by simp only[Bu,AN,Am],rfl⟩
   ·cases j9:inG ids id
    ·rw[j9]at kn;refine A8 (cj @Bu.eq_1 (cj @AN (cj qf (cj kn (cj @Ay.eq_1 (cj @AH.eq_1 (cj @Bc.eq_1 (cj v7.1 (cj v7.2 kc))))))))) ?_;refine⟨Zbb (NQ ids),by omega,by omega,(acc++[DS be id],rest',some (.agg (Am id),.agg (Bu (true,be)))),⟨ko _ (by simp[qf,j9]),by simp only[Zel,Zem,Zeu];omega⟩,by simp only;omega,by rw[Zel];rfl,by simp only[Bu,AN,Am],?_⟩;rw[Zez,Ze1,Ze5,eRw_eq (DS be id)];rfl
    ·rw[j9]at kn;refine A8 (cj @Bu.eq_1 (cj @AN (cj qf (cj kn (cj @Ay.eq_1 (cj @AH.eq_1 @Bc.eq_1)))))) ?_;exact⟨Zbb (NQ ids),(acc,rest',some (.agg (Am id),.agg (Bu (true,be)))),⟨ko acc (by simp[qf,j9]),by simp only;omega⟩,by simp only;omega,rfl,by simp only[Bu,AN,Am],rfl⟩
end
section
theorem HY(l:List Ent)(tick:Int)(hl:l.length<=30000):Is mx 19 [.sl (l.map Ae),iI tick] (.sl ((BU l tick).map JI)):=by
 have e0:=RN (mx:=mx) l (by omega);have e1:=bj (mx:=mx) l tick (by omega);have hk:=RT l tick;have qy:(Do l tick).length<=l.length:=by grind[RU,Bt,Do]
 unfold BU;generalize (Mj l l.length).ids=ids at e0;generalize Do l tick=bs at e1 hk qy;have vk:=U7 (RW ids bs hk);simp only[IE,Am]at e1;refine MX F19 ?_;refine EV (cj e0 e1) ?_;refine lT [5,14] (fun g:List Rw×List (Fid×CV)×Option (I×I)=>[(4,.ref (.sl 4 8 0 g.1.length))]) (fun g=>[(14,.iter g.2.2 (g.2.1.map fun p=>(.agg [.str p.1.source,.int .i64 p.1.seq],.agg (Bu p.2)))),(4,.rows 68 8 (g.1.map JI))]) (fun g=>(g.1++rowsB ids g.2.1).Perm (rowsB ids bs)/\g.1.length+g.2.1.length<=bs.length) (fun g=>g.2.1.length) ([],bs,none) ?_;rintro⟨acc,rest,cur⟩ ⟨jb,je⟩;simp only at je jb;have kn:=fun id:Fid=>NP ids id
 simp(disch:=omega)only[go_sem,Nat.reduceEqDiff];refine Ih (fun hr=>?_) (fun q hq=>?_)
 ·subst hr;have hp:acc.Perm (rowsB ids bs):=by grind[rowsB]
  have qr:(Gv (rowsB ids bs)).length=acc.length:=((JC _).trans hp.symm).length_eq
  (repeat' first|simp(disch:=omega)only[go_sem,simprocAttr]|(first|refine D2 (RS 4 (by decide) acc (Gv (rowsB ids bs)) (by omega) vk ((JC _).trans hp.symm)) ?_ (fun r sto' hR=>?_)|refine Dg (RS 4 (by decide) acc (Gv (rowsB ids bs)) (by omega) vk ((JC _).trans hp.symm)) ?_ (fun r sto' hR=>?_);(focus(first|rfl|(simp only[go_sem,simprocAttr,Zg6];done)));first|(obtain⟨rfl,rfl⟩:=hR)|(obtain⟨_,(rfl|rfl),rfl,rfl⟩:=hR))|refine Ac ?_|refine Sz.s ?_|fail)
  rw[<-qr,Zaa (Zgu _),Zgf (by simp)];exact⟨rfl,rfl⟩
 ·have hpm:=Pa hq;have w9:(rest.eraseIdx q).length+1=rest.length:=by grind
  have ko:∀acc':List Rw,acc'=acc++(Fm ids rest[q]).toList->(acc'++rowsB ids (rest.eraseIdx q)).Perm (rowsB ids bs):=fun acc' e=>by
   subst e;refine List.Perm.trans ?_ jb;have h1:((Fm ids rest[q]).toList++rowsB ids (rest.eraseIdx q)).Perm (rowsB ids rest):=by grind[Fm,rowsB]
   rw[Zc0];exact Zcr acc h1
  clear hpm;generalize rest[q]=p at ko⊢;generalize hrest:rest.eraseIdx q=rest' at ko w9⊢;obtain⟨id,ba,be⟩:=p;have kn:=NP ids id;have v7:=HT Gu L9 (DS be id);rw[eRw_eq]at v7;simp only[DS]at v7;have kc:List.take acc.length (acc.map JI)=acc.map JI:=Zgf (by simp);have jy:Fm ids (id,ba,be)=if(!ba||decide (be.fact.kind=3)||inG ids id)=true then none else some (DS be id):=rfl
  rw[jy]at ko;cases ba
  ·refine FU (cj @Bu.eq_1 @AN) ?_;exact⟨(acc,rest',some (.agg (Am id),.agg (Bu (false,be)))),⟨ko acc (by simp),by simp only;omega⟩,by simp only;omega,rfl,by simp only[Bu,AN,Am],rfl⟩
  ·by_cases qf:be.fact.kind=3
   ·(repeat' first|simp(disch:=omega)only[go_sem,simprocAttr,Bu,AN,Za8 qf]|refine Ac ?_|fail)
    exact⟨(acc,rest',some (.agg (Am id),.agg (Bu (true,be)))),⟨ko acc (by simp[qf]),by simp only;omega⟩,by simp only;omega,rfl,by simp only[Bu,AN,Am],rfl⟩
   ·cases j9:inG ids id
    ·rw[j9]at kn;refine A8 (cj @Bu.eq_1 (cj @AN (cj qf (cj kn (cj @Ay.eq_1 (cj @AH.eq_1 (cj @Bc.eq_1 (cj v7.1 (cj v7.2 kc))))))))) ?_;refine⟨Zbb (NQ ids),by omega,by omega,(acc++[DS be id],rest',some (.agg (Am id),.agg (Bu (true,be)))),⟨ko _ (by simp[qf,j9]),by simp only[Zel,Zem,Zeu];omega⟩,by simp only;omega,by rw[Zel];rfl,by simp only[Bu,AN,Am],?_⟩;rw[Zez,Ze1,Ze5,eRw_eq (DS be id)];rfl
    ·rw[j9]at kn;refine A8 (cj @Bu.eq_1 (cj @AN (cj qf (cj kn (cj @Ay.eq_1 (cj @AH.eq_1 @Bc.eq_1)))))) ?_;exact⟨Zbb (NQ ids),(acc,rest',some (.agg (Am id),.agg (Bu (true,be)))),⟨ko acc (by simp[qf,j9]),by simp only;omega⟩,by simp only;omega,rfl,by simp only[Bu,AN,Am],rfl⟩
theorem bp(l:List Ent)(tick:Int)(hl:l.length<=30000):(BU l tick).length<=30000:=by have h1:(BU l tick).length=(rowsB (Mj l l.length).ids (Do l tick)).length:=(JC _).length_eq;grind[yk,Mj,Do,Bt,RU,ff]
theorem ym(c:Cat)(tick:Int)(r:Rw)(hc:c.tables.length<=1073741824):Is mx 68 [.agg (JI r),.elt (Ap c) 0,.elt [iI tick] 0] (.bool (!Eu c tick r)):=by have t1:=RH (mx:=mx) c r.table hc;have hk:Eu c tick r=(decide (((AV c.tables r.table).getD Bk).keep=0)||decide (tick<=IntKind.i64.wrap (r.event+((AV c.tables r.table).getD Bk).keep))):=rfl;rw[hk];unfold Gi at t1;generalize (AV c.tables r.table).getD Bk=t at t1⊢;refine MX F68 ?_;refine EV (cj t1 @eRw_eq) ?_;refine Zae I.bool ?_;rw[Zb2];simp only[Zbz,Zb7,Zca,Za0,Za4];omega
theorem U8(l:List Ent)(tick:Int)(c:Cat)(hl:l.length<=30000)(hc:c.tables.length<=1073741824)(xd:Is mx 22 [.sl (l.map Ae),iI tick] (.agg (Ap c))):Is mx 33 [.sl (l.map Ae),iI tick] (.sl ((C9 c (BU l tick) tick).map JI)):=by
 have m1:=yl (mx:=mx) l tick hl;have je:=bp l tick hl;generalize BU l tick=rows at m1 je⊢;have m2:=yh (mx:=mx) 11 (by decide) (fun r=>!Eu c tick r) rows 68 [.elt (Ap c) 0,.elt [iI tick] 0] (by omega) (fun r _=>ym c tick r hc);have ef:(rows.filter fun r=>!!Eu c tick r)=C9 c rows tick:=by simp[C9]
 rw[ef]at m2;refine MX F33 ?_
 (repeat' first|simp(disch:=omega)only[go_sem,simprocAttr]|(first|refine D2 (m1) ?_ (fun r sto' hR=>?_)|refine Dg (m1) ?_ (fun r sto' hR=>?_);(focus(first|rfl|(simp only[go_sem,simprocAttr];done)));first|(obtain⟨rfl,rfl⟩:=hR)|(obtain⟨_,(rfl|rfl),rfl,rfl⟩:=hR))|(first|refine D2 (m2) ?_ (fun r sto' hR=>?_)|refine Dg (m2) ?_ (fun r sto' hR=>?_);(focus(first|rfl|(simp only[go_sem,simprocAttr];done)));first|(obtain⟨rfl,rfl⟩:=hR)|(obtain⟨_,(rfl|rfl),rfl,rfl⟩:=hR))|refine Sx.s ?_ ?_<;>try(intro h;have h':=h;try simp only[HB]at h';try rewrite [h];try simp only[h])|refine Ab (xd) ?_|refine Sz.s ?_|fail)
 rw[Zaa (Zgq _ _),Zgc (by simp)];exact⟨rfl,rfl⟩
def Mb(rows:List Rw)(id:Fid):Option Rw:=rows.find? fun r=>decide (r.id=id)
theorem bq(l:List Ent)(id:Fid)(tick:Int)(hl:l.length<=30000):Is mx 30 [.sl (l.map Ae),.agg (Am id),iI tick] (Hf (Mb (BU l tick) id)):=by
 have e1:=HY (mx:=mx) l tick hl;have je:=bp l tick hl;generalize BU l tick=rows at e1 je⊢;refine MX F30 ?_
 (repeat' first|simp(disch:=omega)only[go_sem,simprocAttr,Am]|refine Sx.s ?_ ?_<;>try(intro h;have h':=h;try simp only[HB]at h';try rewrite [h];try simp only[h])|refine Ab (e1) ?_|fail)
 refine Df [4,6,12,13] (by simp only[V0,JK,reduceIte,Nat.reduceEqDiff];rfl) (fun i=>[(14,.i (iI i))]) (fun _=>[(6,.cells ((JI HX).map .i))]) (fun i=>∀j (h:j<rows.length),j<i->rows[j].id≠id) rows.length 0 (by omega) (by simp) (by simp[V0,H0,JJ,Ref.nm];exact⟨rfl,rfl⟩) ?_;intro i hi jb;by_cases ja:i<rows.length
 ·by_cases he:(rows.getD i default).id=id
  ·have hf:Mb rows id=some (rows.getD i default):=by unfold Mb;rw[Zdm];grind
   rw[hf];have he1:(rows.getD i default).id.source=id.source:=by rw[he]
   have he2:(rows.getD i default).id.seq=id.seq:=by rw[he]
   refine A8 (cj (BV ja) (cj @eRw_eq (cj @Hf.eq_1 (cj he1 he2)))) ?_;simp only[Zhh,he1,he2,Zhk]
  ·have jg:((rows.getD i default).id.source==id.source&&(rows.getD i default).id.seq==id.seq)=false:=by rw[Zb1];intro h;rw[Zbz,Zas,Zas]at h;exact he (by cases h5:(rows.getD i default).id;cases id;simp_all)
   refine Ka (cj (BV ja) @eRw_eq) (cj ?_ ?_)
   ·intro h h';rw[jg]at h;cases h
   ·intro _ _;intro j hj hji;by_cases e:j=i
    ·subst e;rw[<-AK hj];exact he
    ·exact jb j hj (by omega)
 ·have hf:Mb rows id=none:=by unfold Mb;rw[Zdl];intro x hx;obtain⟨j,hj,rfl⟩:=Zeh hx;grind
  rw[hf];refine FU (cj (Hi ja) @Hf.eq_1) ?_;rfl
end
section
theorem yn(c:Cat)(f:Fct)(hc:AR c<=1073741824)(hf:GY f<=1073741824):Is mx 40 [.agg (Ap c),.agg (BJ f)] (iI (Gm c f)):=by
 have h0:=LL f;have hvl:=Rk f.fields;have lt:=G3 c.tables;have hb:=BR c;have h1:=xA (mx:=mx) f;have h2:=RH (mx:=mx) c f.table (by omega);have hR:=Gm.eq_1 c f;refine MX F40 ?_;cases v8:KA f
 ·rw[v8]at h1;rw[Zaa v8]at hR;rw[hR];exact EV h1 trivial
 ·rw[v8]at h1;rw[Zac (by rw[v8];simp)]at hR;by_cases h3:f.kind=3
  ·rw[Zaa h3]at hR;rw[hR];exact EV (cj h1 h3) trivial
  ·rw[Zac h3]at hR;cases ht:AV c.tables f.table with
   |none=>rw[ht]at h2 hR;rw[hR];simp only[Gi,Zhg,Zhj]at h2;exact EV (cj h1 (cj h2 h3)) trivial
   |some t=>
    rw[ht]at h2 hR;simp only at hR;simp only[Gi,Zhh,Zhk]at h2;by_cases hl:f.fields.length=t.fields.length
    ·rw[Zac (by omega)]at hR;have hlF:((f.fields.length:Int)=(t.fields.length:Int))=True:=Za8 (by omega);refine AU (cj h1 (cj h2 (cj h3 hlF))) ?_;refine lS [5,32,33] (fun i=>[(34,.i (iI i))]) (fun _=>[]) (fun i=>eqL PA f.fields t.fields=eqL PA (f.fields.drop i) (t.fields.drop i)) f.fields.length ?_;intro i hi jb;by_cases ja:i<f.fields.length
     ·have jx:i<t.fields.length:=by omega
      have jf:=HJ jb ja jx;have h4:=um (mx:=mx) (f.fields.getD i default) (t.fields.getD i default).typ;refine Kas (cj h4 (cj (BV ja) (BV jx))) (cj ?_ ?_)
      ·intro h h';rw[hR,aw jf h];rfl
      ·intro h h';exact It jf h
     ·rw[hR,HK jb (by omega) (by omega)];exact FU (Hi ja) trivial
    ·rw[Zaa hl]at hR;rw[hR];have hlF:((f.fields.length:Int)=(t.fields.length:Int))=False:=Za9 (by omega);exact AU (cj h1 (cj h2 (cj h3 hlF))) trivial
end
section
theorem yo(n:Int):Is mx 38 [iI n] (.bool (decide (0<=n)&&decide (n<=1099511627776))):=by refine MX F38 ?_;exact eP trivial
theorem yp(s:AQ)(hs:s.length<=1073741824):Is mx 77 [.str s] (.bool (Jx s)):=by
 refine MX F77 ?_;cases hb:(decide ((s.length:Int)<1)||decide ((32:Int)<(s.length:Int)))
 ·simp only[Zca,Za4]at hb;have jy:(decide ((s.length:Int)<1)||decide ((32:Int)<(s.length:Int)))=false:=by grind
  have hk:Jx s= !s.any (Cq 33):=by have e1:decide (1<=(s.length:Int))=true:=Za5 (by omega);have e2:decide ((s.length:Int)<=32)=true:=Za5 (by omega);simp[Jx,e1,e2]
  rw[hk];refine EV jy ?_;refine lS [14,15] (fun i=>[(16,.i (iI i))]) (fun _=>[]) (fun i=>(s.take i).all (fun c=>!Cq 33 c)=true) s.length ?_;intro i hi jb;have hrb:(Dl.rowsB s).length=s.length:=by simp[Dl.rowsB]
  by_cases ja:i<s.length
  ·have hrg:(Dl.rowsB s).getD i []=[I.int .u8 ((s.getD i default).toNat:Int)]:=by simp[Dl.rowsB,List.getD,Zd2 ja]
   cases xi:Cq 33 (s.getD i default)
   ·have hbd2:=xi;unfold Cq at hbd2;refine Ka (cj hrb (cj (BV ja) (cj hrg hbd2))) ?_;exact BW (d:=default) jb ja (by rw[xi];rfl)
   ·have hbd2:=xi;unfold Cq at hbd2;have:s.any (Cq 33)=true:=by grind
    rw[this];exact EV (cj hrb (cj (BV ja) (cj hrg hbd2))) trivial
  ·rw[Zgf (by omega),Zcu]at jb;have:s.any (Cq 33)=false:=by grind
   rw[this];exact FU (cj hrb (Hi ja)) trivial
 ·have hk:Jx s=false:=by grind[Jx]
  rw[hk];exact EV hb trivial
theorem yq(x:Ers)(hx:Iq x<=1073741824):Is mx 41 [.agg (Cy x)] (.bool (L1 x)):=by
 have h0:x.key.length<=1073741824:=by grind[Iq,LH]
 have h1:=yp (mx:=mx) x.key h0;refine MX F41 ?_
 (repeat' first|exact Ao _|simp(disch:=omega)only[go_sem,simprocAttr]|refine' Av (fun hq=>?_) (fun f=>?_)<;>try(have jd:=hq;try simp only[HB]at jd)|refine Sx.s ?_ ?_<;>try(intro h;have h':=h;try simp only[HB]at h';try rewrite [h];try simp only[h])|refine Ab (Fz _) ?_|refine Ab (h1) ?_|refine Ac ?_|refine Sz.s ?_|fail)
 all_goals(refine Zae I.bool ?_;simp only[L1,Hc,DA,DB,G4];first|done|(grind(splits:=20)))
theorem yr(f:Fct):Is mx 72 [.agg (BJ f)] (.bool (NH f)):=by
 refine MX F72 ?_;refine eP ?_
 all_goals intros
 all_goals(refine Zae I.bool ?_;simp only[NH,Hc,DA,DB];first|done|(grind(splits:=20)))
def NV(x:Xpr):Bool:=decide (x.kind=0)&&decide (x.op=[])&&decide (x.name=[])&&decide (x.table=[])&&decide (x.val=FB)&&decide ((x.unit.length:Int)=0)&&decide (x.param=0)&&decide (x.win=Fb)&&decide ((x.args.length:Int)=0)
theorem U9(a b:Val):decide (a=b)=(decide (a.kind=b.kind)&&(decide (a.n=b.n)&&decide (a.s=b.s))):=by cases a;cases b;simp
theorem Va(a b:Win):decide (a=b)=(decide (a.kind=b.kind)&&decide (a.size=b.size)):=by cases a;cases b;simp
theorem yt(x:Xpr):Is mx 103 [.agg (eE x)] (.bool (NV x)):=by
 refine MX pB ?_;refine eP ?_
 all_goals intros
 all_goals(refine Zae I.bool ?_;simp only[NV,U9,Va,DA,DB];first|done|(grind(splits:=20)))
theorem RX{α β:Type}(p:α->β->Bool)(l:List α):eqL p l []=decide ((l.length:Int)=0):=by
 cases l with
 |nil=>rfl
 |cons a r=>rw[Zba (by simp;omega)];rfl
theorem yu(x:Xpr):eU x noX=NV x:=by rw[Pf];have e1:eqL FG x.unit noX.unit=decide ((x.unit.length:Int)=0):=RX _ _;have e2:eqL eU x.args noX.args=decide ((x.args.length:Int)=0):=RX _ _;rw[e1,e2];have f1:noX.kind=0:=rfl;have f2:noX.op=[]:=rfl;have f3:noX.name=[]:=rfl;have f4:noX.table=[]:=rfl;have f5:noX.val=FB:=rfl;have f6:noX.param=0:=rfl;have f7:noX.win=Fb:=rfl;have f8:(noX.args.length:Int)=0:=rfl;rw[f1,f2,f3,f4,f5,f6,f7,f8];simp only[NV,U9,Va,Dw,DA,DB];grind
theorem yv(t:Typ):LI t AI=(decide (t.kind=0)&&decide (t.of=[])&&decide ((t.unit.length:Int)=0)):=by unfold LI;have e1:eqL FG t.unit AI.unit=decide ((t.unit.length:Int)=0):=RX _ _;rw[e1]
theorem bt(t:Tbl):FJ t Bk=(decide (t.name=[])&&decide (t.entity=[])&&decide (t.keep=0)&&decide ((t.fields.length:Int)=0)):=by unfold FJ;have e1:eqL LN t.fields Bk.fields=decide ((t.fields.length:Int)=0):=RX _ _;grind
theorem bu(f:Ftr):Ge f Cs=(decide (f.typ.kind=0)&&decide (f.typ.of=[])&&decide ((f.typ.unit.length:Int)=0)&&NV f.body&&decide (f.name=[])&&decide (f.entity=[])&&decide (f.version=0)):=by simp[Ge,yv,yu]
@[go_sem] theorem aJd(f:Ftr):pk false (Af f) 2 1=.int .i64 f.typ.kind:=by rfl
@[go_sem] theorem aJe(f:Ftr):pk false (Af f) 3 1=.sl (f.typ.unit.map Ax):=by rfl
@[go_sem] theorem aJf(f:Ftr):pk false (Af f) 4 1=.str f.typ.of:=by rfl
theorem yw(x:Chg):Is mx 73 [.agg (AF x)] (.bool (NI x)):=by
 have h1:=yt (mx:=mx) x.feature.body;refine MX F73 ?_;refine EV h1 ?_
 all_goals intros
 all_goals(refine Zae I.bool ?_;simp only[NI,bt,bu];first|done|(grind(splits:=20)))
theorem yx(x:Ent):Is mx 39 [.agg (Ae x)] (.bool (FM x)):=by
 have h1:=yr (mx:=mx) x.fact;have h2:=yw (mx:=mx) x.change;refine MX F39 ?_
 (repeat' first|exact Ao _|simp(disch:=omega)only[go_sem,simprocAttr]|refine' Av (fun hq=>?_) (fun f=>?_)<;>try(have jd:=hq;try simp only[HB]at jd)|refine Sx.s ?_ ?_<;>try(intro h;have h':=h;try simp only[HB]at h';try rewrite [h];try simp only[h])|refine Ab (h1) ?_|refine Ab (h2) ?_|refine Ac ?_|refine Au ?_|refine Sz.s ?_|fail)
 all_goals(refine Zae I.bool ?_;simp only[FM,aD,Hc,DA,DB];first|done|(grind(splits:=20)))
end
section
theorem bv(t:Tbl):Is mx 112 [.agg (AS t)] (.bool (FJ t Bk)):=by
 refine MX ml ?_;refine eP ?_
 all_goals intros
 all_goals(refine Zae I.bool ?_;simp only[bt];first|done|(grind(splits:=20)))
theorem bw(f:Ftr):Is mx 109 [.agg (Af f)] (.bool (Ge f Cs)):=by
 refine MX nl ?_;refine eP ?_
 all_goals intros
 all_goals(refine Zae I.bool ?_;simp only[bu,NV,U9,Va,DA,DB];first|done|(grind(splits:=20)))
theorem bz(l:List Ftr)(hl:l.length<=1073741824):MC Tryz.prog (Mi mx) 204 [.i (.sl (l.map Af))] [] []
  (fun r s=>r=.ref (.sl 6000 18 0 l.length)/\s=[(6000,.rows 50 18 (l.map Af))]):=by
 refine MX mF ?_;have hr:=A1 (f:=Af) (k:=18) l CU C2
 (repeat' first|simp(maxSteps:=9999999) (disch:=omega)only[go_sem,reduceCtorEq,Nat.reduceSub,Nat.reduceEqDiff,Nat.reduceLeDiff,Zg8]|refine OT (fun h=>?_) (fun h=>?_)<;>(have h':=h;try simp only[HB]at h';try rewrite [h];try simp only[h])|refine Ac ?_|refine QM (fun wq b=>?_) (fun wq=>?_)|fail)
 ·have e:l=[]:=by simpa using wq
  subst e;cases h';refine D0 [(2,6000)] (by simp only[go_sem,V10];rfl) (by simp[VL];rfl) (by decide) (by simp[V0,H0,JJ,Ref.nm]) ?_;simp[VL]
 ·refine⟨hr.1,hr.2,by omega,by omega,?_⟩;refine D0 [(5,6000)] (by simp only[go_sem,V10];rfl) (by simp[VL];rfl) (by decide) (by simp[V0,H0,JJ,Ref.nm]) ?_;simp[VL]
 ·simp at h
 ·refine⟨hr.1,hr.2,by omega,by omega,?_⟩;refine D0 [(5,6000)] (by simp only[go_sem,V10];rfl) (by simp[VL];rfl) (by decide) (by simp[V0,H0,JJ,Ref.nm]) ?_;simp[VL]
@[go_sem] theorem aJg(st:St)(K:St->Prop)(nm k lo hi:Nat)(l:Option D)(h m:D)(d:Nat):J0 (.ref (.sl nm k lo hi)) l h m d st K=(ME (hi-lo) (Wd l) (Hq h) (Hq m)/\K (st.put d .any)):=rfl
theorem IG:∀xs:List (List I),Ft (xs.map some)=some xs
 |[]=>rfl
 |x::r=>by simp[Ft,IG r]
theorem yy{α:Type}(f:α->List I)(l:List α)(k c:Nat)(hk:k<l.length):∃z:List I,setL (List.map some (List.map f l)++List.replicate c none) k (List.map some (List.map f (List.drop (k+1) l)))=List.map some ((A5 l k).map f++[z])++List.replicate c none:=by
 refine⟨f l[l.length-1],?_⟩;have e:l.drop (l.length-1)=[l[l.length-1]]:=by rw[Zc8 (by omega),Zdc (by omega)]
 have hn:k+(l.length-(k+1))=l.length-1:=by omega
 simp only[setL,A5,Zes,Zen,hn];rw[Zgb (by simp;omega),Zc6 (by simp),<-Ze2,<-Ze2,e];simp
theorem yz{A:List (List I)}{z zr:List I}{c n m:Nat}(hn:A.length=n)(hm:m=1):setL (List.map some (A++[z])++List.replicate c none) n (List.replicate m (some zr))=List.map some (A++[zr])++List.replicate c none:=by
 subst hm;subst hn;have e:List.map some (A++[z])++List.replicate c none=List.map some A++(some z::List.replicate c none):=by simp
 have e2:List.drop (A.length+1) (List.map some A++(some z::List.replicate c none))=List.replicate c none:=by rw[<-Zc7,List.drop_left' (by simp)];rfl
 simp[setL,e2]
@[go_sem] theorem aJh(st:St)(K:St->Prop)(nm k lo hi:Nat)(z:List I)(d:Option Nat):Lh (.ref (.sl nm k lo hi)) z d st K=I1 (Aa st.sto nm) nm k lo hi z d st K:=rfl
@[go_sem] theorem aJi(st:St)(K:St->Prop)(e k:Nat)(rs:List (Option (List I)))(nm k0 lo hi:Nat)(z:List I)(d:Option Nat):I1 (some (.arr e k rs)) nm k0 lo hi z d st K=(k0=k/\z.length=k/\hi<=rs.length/\K (putO (st.setB nm (.arr e k (setL rs lo (List.replicate (hi-lo) (some z))))) d (.i (.tup [])))):=rfl
theorem yA(l:List Ftr)(k:Nat)(hl:l.length<=1073741824)(hk:k<l.length):MC Tryz.prog (Mi mx) 205 [.ref (.sl 5000 18 0 l.length),.i (iI k),.i (iI (k+1))] [(5000,.rows 50 18 (l.map Af))] []
  (fun r s=>r=.ref (.sl 5000 18 0 (l.length-1))/\s=[(5000,.rows 50 18 ((A5 l k).map Af++[Af Cs]))]):=by
 refine MC.rowsOut (TE (R:=fun r s=>r=.ref (.sl 5000 18 0 (l.length-1))/\∃j,s=[(5000,.arr 50 18 (((A5 l k).map Af++[Af Cs]).map some++j))]) fun c=>?_) fun r s ⟨hr,j,hs⟩=>⟨5000,_,_,_,j,[],hs,hr,rfl⟩
 have h1:=A1 (l.take k) CU C2;have h2:=A1 (l.drop (k+1)) CU C2;have h0:=A1 l CU C2;have e0:((k:Int)+1).toNat=k+1:=by omega
 have e1:((k:Int)=(k:Int)+1)=False:=by simp;omega
 have e2:Ft (List.drop (k+1) (List.take l.length (List.map some (List.map Af l)++List.replicate c none)))=some ((l.drop (k+1)).map Af):=by rw[Zgc (by simp),<-Ze2,IG,Ze2]
 refine MX nI ?_
 (repeat' first|simp(maxSteps:=9999999) (disch:=omega)only[go_sem,reduceCtorEq,Int.reduceLE,Nat.reduceAdd,Nat.reduceEqDiff,Zg8,Zg6,e0,e1,e2,Zgq]|refine Ac ?_|refine Au ?_|(refine And.intro ?_ ?_;focus omega))
 refine⟨h2,fun _=>?_,fun h=>absurd h (by simp;omega)⟩;obtain⟨z,e3⟩:=yy Af l k c hk;have e4:k+(List.drop (k+1) l).length=l.length-1:=by simp;omega
 have e5:((A5 l k).map Af).length=l.length-1:=by grind[A5]
 have e6:(List.map some (List.map Af (A5 l k)++[z])++List.replicate c none).length=l.length+c:=by grind
 have e7:l.length-(l.length-1)=1:=by omega
 have e8:((l.length-1:Nat):Int)<=l.length:=by omega
 rw[e3,e4]
 (repeat' first|simp(maxSteps:=9999999) (disch:=omega)only[go_sem,reduceCtorEq,Nat.reduceAdd,Nat.reduceEqDiff,Zg8,Zg6,yz e5,e6,e7,e8,Zgq]|(refine And.intro ?_ ?_;focus omega))
 generalize hq:(List.map some (List.map Af (A5 l k)++[_])++List.replicate c (none:Option (List I)))=q;have hz:q=List.map some (List.map Af (A5 l k)++[Af Cs])++List.replicate c (none:Option (List I)):=hq.symm;refine D0 [(5000,5000)] (s':=[(5000,.arr 50 18 q)]) rfl rfl (by decide) rfl ⟨rfl,List.replicate c none,?_⟩;rw[<-hz];rfl
end
section
theorem yB{Q:Program}(w:World)(tS tR e:TypeId)(ht:Q.underlying tS=some (.slice e))(size:Nat)(hz:∀w,(Go.sizeOf e).run Q w=.ok size w)
  (a b:Addr)(la ca lb cb:Nat)(jg:a.block≠b.block)(tA tB:TypeId)(kA kB:Nat)
  (hsa:w.shape? a.block=some (tA,kA))(xa:w.shape? b.block=some (tB,kB))(hkA:kA≠0)
  (hfb:w.frozen? b=false)(qk:w.frozen? {block:=b.block,off:=kB}=false):
  (Extern.SlicesOverlaps.overlaps #[tS,tS] #[tR] #[.slice (some a) la ca,.slice (some b) lb cb]).run Q w=.ok (.bool false) w:=by
 have hnb:(a.block !=b.block)=true:=by grind
 have hnb':(a.block==b.block)=false:=by grind
 change Sem.run Q (α:=Value) (do
  let some t:=(#[tS,tS]:Array TypeId)[0]? |stuck "slices.overlaps: no parameter types"
  let .slice elem <-underlying t|stuck "slices.overlaps: slice type expected"
  let size <-sizeOf elem
  match(some a:Option Addr),(some b:Option Addr)with
  |some a,some b=>
   if la=0\/lb=0\/size=0 then pure (Value.bool false)
   else if a.block !=b.block&&(<-frozen a)&&(<-frozen b)then unsupported .addressObserved
   else do
    if a.block !=b.block then do
     noView a;noView b
     if<-mayBeOne a b then return Value.bool ((<-choose (.extern "sameAddr.stringBytes" 2))==1)
    pure (Value.bool (a.block==b.block&&a.off<b.off+lb*size&&b.off<a.off+la*size))
  |_,_=>pure (Value.bool false)) w=_
 by_cases h0:la=0\/lb=0\/size=0
 ·simp[Zaf ht,hz,h0]
 ·cases kA with
  |zero=>exact absurd rfl hkA
  |succ kA=>cases hfa:w.frozen? a<;>cases hfa2:w.frozen? {block:=a.block,off:=kA+1}<;>simp[Zaf ht,hz,h0,hnb,hnb',frozen,noView,viewAt,mayBeOne,stringish,shape,Sem.run,hsa,xa,hfa,hfa2,hfb,qk]
theorem Mc{Q:Program}(w:World)(tS tR e:TypeId)(ht:Q.underlying tS=some (.slice e))(size:Nat)(hz:∀w,(Go.sizeOf e).run Q w=.ok size w)
  (a b:Option Addr)(la ca lb cb:Nat)(h0:a=none\/b=none\/la=0\/lb=0):
  (Extern.SlicesOverlaps.overlaps #[tS,tS] #[tR] #[.slice a la ca,.slice b lb cb]).run Q w=.ok (.bool false) w:=by
 change Sem.run Q (α:=Value) (do
  let some t:=(#[tS,tS]:Array TypeId)[0]? |stuck "slices.overlaps: no parameter types"
  let .slice elem <-underlying t|stuck "slices.overlaps: slice type expected"
  let size <-sizeOf elem
  match a,b with
  |some a,some b=>
   if la=0\/lb=0\/size=0 then pure (Value.bool false)
   else if a.block !=b.block&&(<-frozen a)&&(<-frozen b)then unsupported .addressObserved
   else do
    if a.block !=b.block then do
     noView a;noView b
     if<-mayBeOne a b then return Value.bool ((<-choose (.extern "sameAddr.stringBytes" 2))==1)
    pure (Value.bool (a.block==b.block&&a.off<b.off+lb*size&&b.off<a.off+la*size))
  |_,_=>pure (Value.bool false)) w=_
 cases a with
 |none=>simp[Zaf ht,hz]
 |some a=>
  cases b with
  |none=>simp[Zaf ht,hz]
  |some b=>
   have h1:la=0\/lb=0\/size=0:=by grind
   simp[Zaf ht,hz,h1]
theorem bA{f:FuncId}{tS tR e:TypeId}{k:Nat}(rows:List (List I))(rs:List (Option (List I)))(lo hi:Nat)(hk:0<k)(h1:∀r∈rows,r.length=k)
  (hc:∀vs w,(callFunc f vs).run Tryz.prog w=((Extern.SlicesOverlaps.overlaps #[tS,tS] #[tR] vs).run Tryz.prog w).andThen fun v w'=>.ok (.value v) w')
  (ht:Tryz.prog.underlying tS=some (.slice e))(hz:∀w,(Go.sizeOf e).run Tryz.prog w=.ok k w)(hfy:Nat.blt f 1000000000=true):
  MC Tryz.prog (Mi mx) f [.i (.sl rows),.ref (.sl 5000 k lo hi)] [(5000,.arr e k rs)] [] (fun r s=>r=.i (.bool false)/\s=[(5000,.arr e k rs)]):=by
 unfold MC;intro M μ w vs h2 h3 h4;obtain⟨l⟩:=vs
 match l,h4.1 with
 |[v,u],_=>
  have hv:Rep M (.sl rows) v:=h4.2 0 (by simp) (by simp);have hu:AD M μ (names [(5000,Blk.arr e k rs)]) (.ref (.sl 5000 k lo hi)) u:=h4.2 1 (by simp) (by simp);have key:(Extern.SlicesOverlaps.overlaps #[tS,tS] #[tR] #[v,u]).run Tryz.prog w=.ok (.bool false) w:=by
   obtain⟨hN,hs⟩:=hu;obtain⟨a,cap,hp,hlh,hhc,hs⟩:=hs;rcases hs with⟨_,a',rfl⟩|⟨b,o,rfl,rfl⟩
   ·cases hv with
    |slnil=>exact Mc w tS tR e ht k hz _ _ _ _ _ _ (.inl rfl)
    |slempty a cap=>exact Mc w tS tR e ht k hz _ _ _ _ _ _ (.inr (.inr (.inr rfl)))
    |sl=>exact Mc w tS tR e ht k hz _ _ _ _ _ _ (.inr (.inr (.inr rfl)))
   ·cases hv with
    |slnil=>exact Mc w tS tR e ht k hz _ _ _ _ _ _ (.inl rfl)
    |slempty a cap=>exact Mc w tS tR e ht k hz _ _ _ _ _ _ (.inr (.inr (.inl rfl)))
    |sl _ k' b' o' cap' v jk hc' hh vl=>
     by_cases ww:rows.length=0
     ·exact Mc w tS tR e ht k hz _ _ _ _ _ _ (.inr (.inr (.inl ww)))
     by_cases hhl:hi-lo=0
     ·exact Mc w tS tR e ht k hz _ _ _ _ _ _ (.inr (.inr (.inr hhl)))
     have wh:=hh 0 (by omega) 0 (by rw[h1 _ (Zef _)];exact hk);obtain⟨a2,hm,hx⟩:=h2.blk 5000 (.arr e k rs) (by simp[Aa]);rw[hp]at hm;injection hm with q1 q2 q3
     rcases hx with hx|⟨b2,o2,cur,q4,jg,ho,hl,j0,hra⟩
     ·rw[hx]at q3;simp at q3;omega
     rw[<-q1]at q4;injection q4 with q4;injection q4 with q5 q6
     subst q5;have j6:=h2.sub.1 _ _ _ wh;have hheap:∃cs t fz,w.heap[b']? =some (.cells cs t fz)/\cs.size≠0:=by
      unfold World.cell? at j6;split at j6
      ·rename_i cs t fz hh2;refine⟨cs,t,fz,hh2,fun h0=>?_⟩;simp at j6;have:o'<cs.size:=by
        rcases Zgz o' cs.size with h|h
        ·exact h
        ·rw[Zbi h]at j6;cases j6
       omega
      ·cases j6
     obtain⟨cs,t,fz,hb',kq⟩:=hheap;have hne':b'≠b:=by intro h;subst h;have:=ho.unk.1 (o'+0*k'+0);rw[wh]at this;cases this
     have hob:=ho.heap;exact yB w tS tR e ht k hz ⟨b',o',none⟩ ⟨b,o+lo*k,none⟩ _ _ _ _ hne' t e cs.size cur.size (by simp[World.shape?,hb']) (by simp[World.shape?,hob]) kq (by simp[World.frozen?,hob]) (by simp[World.frozen?,hob])
  refine .inr (.inr (.inl ⟨hfy,.bool false,w,by rw[hc,key];rfl,_,_,M,μ,⟨rfl,rfl⟩,h2,AJ (.bool false),MExt.refl _ _,Keeps.refl _ _,fun _ _ _=>rfl⟩))
theorem yC(f:Ftr)(rs:List (Option (List I)))(lo hi:Nat):MC Tryz.prog (Mi mx) 245 [.i (.sl [Af f]),.ref (.sl 5000 18 lo hi)] [(5000,.arr 50 18 rs)] [] (fun r s=>r=.i (.bool false)/\s=[(5000,.arr 50 18 rs)]):=by
 have hc:∀vs w,(callFunc 245 vs).run Tryz.prog w=((Extern.SlicesOverlaps.overlaps #[63,63] #[4] vs).run Tryz.prog w).andThen fun v w'=>.ok (.value v) w':=
  fun vs w=>Za7 Tryz.func245 (by kernel_rfl) (by kernel_rfl) (by kernel_rfl) (by kernel_rfl) vs w
 exact bA _ rs lo hi (by decide) (by intro r hr;rw[Zfq.1 hr];exact CU f) hc (by kernel_rfl) (fun w=>by rfl) (by decide)
end
section
theorem NW{α:Type}{A B B' C L:List α}{n:Nat}(hL:L=A++B++C)(hn:A.length=n)(h:B.length=B'.length):setL L n B'=A++B'++C:=by grind[setL]
theorem bB{α:Type}(f:α->List I)(l:List α)(k c:Nat)(hk:k<l.length):setL (List.map some (List.map f l)++List.replicate (c+1) none) (k+1) (List.map some (List.map f (l.drop k)))=List.map some ((l.take (k+1)++l.drop k).map f)++List.replicate c none:=by
 rw[NW (A:=List.map some (List.map f (l.take (k+1)))) (B:=List.map some (List.map f (l.drop (k+1)))++[none]) (C:=List.replicate c none)]
 ·simp
 ·simp only[Zf5,Ze4,Ze7,Ze2];simp only[Zc0,Zc3,Zft];rw[<-Zc0 (List.take _ _),Zga]
 ·simp;omega
 ·simp;omega
theorem bC{α:Type}(f:α->List I)(l:List α)(x:α)(k c:Nat)(hk:k<l.length):setL (List.map some ((l.take (k+1)++l.drop k).map f)++List.replicate c none) k [some (f x)]=List.map some ((Bg l k x).map f)++List.replicate c none:=by
 rw[NW (A:=List.map some (List.map f (l.take k))) (B:=[some (f l[k])]) (C:=List.map some (List.map f (l.drop k))++List.replicate c none)]
 ·simp[Bg]
 ·simp only[Zez,Ze4,Ze7,Ze2];rw[Zgh (by simpa using hk)];simp
 ·simp;omega
 ·rfl
@[simp] theorem aJj(e k:Nat)(rs:List (Option (List I))):(Blk.arr e k rs).nms=[]:=rfl
@[go_sem] theorem aJk(st:St)(K:St->Prop)(nm k lo hi d:Nat):Ld (.ref (.sl nm k lo hi)) d st K=JY (Aa st.sto nm) lo hi d st K:=rfl
@[go_sem] theorem aJl(st:St)(K:St->Prop)(e k:Nat)(rs:List (Option (List I)))(lo hi d:Nat):JY (some (.arr e k rs)) lo hi d st K=K (st.put d (.i (.int .i64 ((rs.length-lo:Nat):Int)))):=rfl
@[go_sem] theorem aJm(st:St)(K:St->Prop)(nm k0 lo hi:Nat)(y:D)(d:Option Nat)(e k:Nat):Lg (.ref (.sl nm k0 lo hi)) y d e k st K=JZ (Aa st.sto nm) nm k0 lo hi (H5 (Aa st.sto) y (hi-lo)) d e k st K:=rfl
@[go_sem] theorem aJn(st:St)(K:St->Prop)(e' k':Nat)(rs:List (Option (List I)))(nm k0 lo hi len:Nat)(ys:List (List I))(d:Option Nat)(e k:Nat):JZ (some (.arr e' k' rs)) nm k0 lo hi (some (len,ys)) d e k st K=(e'=e/\k'=k/\k0=k/\hi<=rs.length/\Lf k ys/\K (putO (st.setB nm (.arr e k (setL rs lo (ys.map some)))) d (.i (.int .i64 ((min len (hi-lo):Nat):Int))))):=rfl
@[go_sem] theorem aJo(st:St)(K:St->Prop)(nm k0 lo hi:Nat)(q:IntKind)(m:Int)(d e k b:Nat)(z:List I):Li (.ref (.sl nm k0 lo hi)) (.i (.int q m)) d e k b z st K=J3 (Aa st.sto nm) (Aa st.sto d) nm k0 lo hi d e k b m z st K:=rfl
@[go_sem] theorem aJp(st:St)(K:St->Prop)(e' k':Nat)(rs:List (Option (List I)))(fr:Option Blk)(nm k0 lo hi d e k bb:Nat)(m:Int)(z:List I):J3 (some (.arr e' k' rs)) fr nm k0 lo hi d e k bb m z st K=(0<=m/\m<=140737488355328/\m*(bb:Int)<=140737488355328/\J1 fr e' k' rs nm k0 lo hi d e k bb (List.replicate m.toNat z) st K):=rfl
theorem bD{α:Type}(f:α->List I)(l:List α)(x:List I)(c:Nat):setL (List.map some (List.map f l)++List.replicate (c+1) none) l.length [some x]=List.map some (List.map f l++[x])++List.replicate c none:=by rw[setL,Zgc (by simp),List.length_singleton,<-Zc7,List.drop_left' (by simp)];simp
theorem yD(l:List Ftr)(k:Nat)(f:Ftr)(hl:l.length<=1073741824)(hk:k<=l.length):MC Tryz.prog (Mi mx) 203 [.ref (.sl 5000 18 0 l.length),.i (iI k),.i (.sl [Af f])] [(5000,.rows 50 18 (l.map Af))] [5000]
  (fun r s=>∃nm,(nm=5000\/nm=6000)/\r=.ref (.sl nm 18 0 (l.length+1))/\s=[(nm,.rows 50 18 ((Bg l k f).map Af))]):=by
 refine MC.rowsOut (TE (R:=fun r s=>∃nm,(nm=5000\/nm=6000)/\r=.ref (.sl nm 18 0 (l.length+1))/\∃j,s=[(nm,.arr 50 18 (((Bg l k f).map Af).map some++j))]) fun c=>?_) fun r s ⟨nm,hn,hr,j,hs⟩=>⟨nm,_,_,_,j,[],hs,nm,hn,hr,rfl⟩
 have h1:=A1 (l.take k) CU C2;have h2:=A1 (l.drop k) CU C2;have h0:=A1 l CU C2;have hf:=A1 [f] CU C2;have e0:(k:Int).toNat=k:=by omega
 refine MX pR ?_;by_cases hkn:k=l.length
 ·subst hkn
  (repeat' first|simp(disch:=omega)only[go_sem,reduceCtorEq,Nat.reduceAdd,Nat.reduceEqDiff,Nat.reduceLeDiff,Zg8,Zg6,Zgq]|refine OT (fun h=>?_) (fun h=>?_)<;>(have h':=h;try simp only[HB]at h';try rewrite [h];try simp only[h])|refine Ac ?_|(refine And.intro ?_ ?_;focus omega))
  ·simp at h
  ·refine⟨hf,fun j7=>?_,fun hfull=>⟨l.map Af,?_,h0,by omega,by omega,fun c1=>?_⟩⟩
   ·obtain⟨c,rfl⟩:∃d,c=d+1:=⟨c-1,by simp at j7;omega⟩;generalize hq:setL (List.map some (List.map Af l)++List.replicate (c+1) none) l.length [some (Af f)]=q;have hz:q=List.map some ((Bg l l.length f).map Af)++List.replicate c none:=by grind[bD,Bg]
    refine D0 [(5000,5000)] (s':=[(5000,.arr 50 18 q)]) rfl rfl (by decide) rfl ⟨5000,.inl rfl,rfl,List.replicate c none,?_⟩;rw[<-hz];rfl
   ·rw[Zgc (by simp),IG]
   ·generalize hq:List.map some (List.map Af l++[Af f])++List.replicate c1 (none:Option (List I))=q;have hz:q=List.map some ((Bg l l.length f).map Af)++List.replicate c1 none:=by grind[Bg]
    refine D0 [(25,6000)] (s':=[(25,.arr 50 18 q)]) rfl rfl (by decide) rfl ⟨6000,.inr rfl,rfl,List.replicate c1 none,?_⟩;rw[<-hz];rfl
 ·have e1:((k:Int)=(l.length:Int))=False:=by simp;omega
  have e2:((0:Nat):Int)+1=1:=rfl;have e3:(List.map some (List.map Af l)++List.replicate c (none:Option (List I))).length=l.length+c:=by simp
  have e9:((l.length:Int)+1).toNat=l.length+1:=by omega
  have e10:((k:Int)+1).toNat=k+1:=by omega
  rcases Nat.eq_zero_or_pos c with wh|wh
  ·subst wh;have e4:(((l.length:Int)+1)>((l.length+0:Nat):Int))=True:=by simp;omega
   have e5:((l.length:Int)+1-(k:Int)).toNat=l.length+1-k:=by omega
   (repeat' first|simp(disch:=omega)only[go_sem,reduceCtorEq,Int.reduceLE,Int.reduceEq,Int.reduceAdd,Nat.reduceAdd,Nat.reduceEqDiff,Zg8,Zg6,e0,e1,e2,e3,e4,e5,Zew]|refine Ac ?_|(refine And.intro ?_ ?_;focus omega))
   refine⟨⟨fun r hr=>by rw[(Zfp.1 hr).2];rfl,fun r hr=>by rw[(Zfp.1 hr).2];rfl⟩,fun h=>absurd h (by omega),fun _=>⟨(l.take k).map Af,by rw[Zgb (by simp;omega),<-Ze7,<-Ze7,IG],h1,by omega,by omega,fun c1=>?_⟩⟩;have e6:k+(l.length+1-k)=l.length+1:=by omega
   generalize hz0:([.str [],.str [],.int .i64 0,.sl [],.str [],.int .i64 0,.str [],.str [],.str [],.int .i64 0,.int .i64 0,.str [],.sl [],.int .i64 0,.int .i64 0,.int .i64 0,.sl [],.int .i64 0]:List I)=z0;have e8:(List.take k l).length+(List.replicate (l.length+1-k) z0).length+(List.replicate c1 (none:Option (List I))).length=l.length+1+c1:=by simp;omega
   have e11:List.take (l.length+1-k) [Af f]=[Af f]:=Zgf (by simp;omega);have e7:setL (List.map some (List.map Af (List.take k l)++List.replicate (l.length+1-k) z0)++List.replicate c1 none) k [some (Af f)]=List.map some (List.map Af (List.take k l)++[Af f]++List.replicate (l.length-k) z0)++List.replicate c1 none:=by
    have:l.length+1-k=(l.length-k)+1:=by omega
    grind[NW,Af]
   (repeat' first|simp(disch:=omega)only[go_sem,reduceCtorEq,Nat.reduceEqDiff,Zg8,Zg6,Zgq,e0,e6,e7,e8,e9,e11]|(refine And.intro ?_ ?_;focus omega))
   refine⟨hf,?_⟩
   (repeat' first|simp(disch:=omega)only[go_sem,reduceCtorEq,Nat.reduceEqDiff,Zg8,Zg6,e9,e10]|refine Au ?_|(refine And.intro ?_ ?_;focus omega))
   have e18:(List.take k l).length+1+(List.replicate (l.length-k) z0).length+(List.replicate c1 (none:Option (List I))).length=l.length+1+c1:=by simp;omega
   have e19:setL (List.map some (List.map Af (List.take k l)++[Af f]++List.replicate (l.length-k) z0)++List.replicate c1 none) (k+1) (List.map some (List.map Af (List.drop k l)))=List.map some (List.map Af (Bg l k f))++List.replicate c1 none:=by grind[NW,Af,Bg]
   have e12:min l.length (k+(l.length+1-(k+1)))=l.length:=by omega
   have e13:Ft (List.drop k (List.take l.length (List.map some (List.map Af l)++List.replicate 0 none)))=some ((l.drop k).map Af):=by rw[Zgc (by simp),<-Ze2,IG,Ze2]
   have e20:((k:Int)+1<=(l.length:Int)+1)=True:=by simp;omega
   (repeat' first|simp(disch:=omega)only[go_sem,reduceCtorEq,Nat.reduceEqDiff,Zg8,Zg6,Zgq,e0,e3,e18,e19,e12,e13,e20]|(refine And.intro ?_ ?_;focus omega))
   refine⟨h2,?_⟩;generalize hq:List.map some (List.map Af (Bg l k f))++List.replicate c1 (none:Option (List I))=q;refine D0 [(40,6000)] (s':=[(40,.arr 50 18 q)]) rfl rfl (by decide) rfl ⟨6000,.inr rfl,rfl,List.replicate c1 none,?_⟩;rw[hq];rfl
  ·obtain⟨c,rfl⟩:∃d,c=d+1:=⟨c-1,by omega⟩;have wj:k<l.length:=by omega
   have e4:(((l.length:Int)+1)>((l.length+(c+1):Nat):Int))=False:=by simp;omega
   have m1:=yC (mx:=mx) f (List.map some (List.map Af l)++List.replicate (c+1) none) (k+1) (l.length+1);have e12:min (l.length+1) (k+(l.length+1-(k+1)))=l.length:=by omega
   have e13:Ft (List.drop k (List.take l.length (List.map some (List.map Af l)++List.replicate (c+1) none)))=some ((l.drop k).map Af):=by rw[Zgc (by simp),<-Ze2,IG,Ze2]
   have e11:List.take (l.length+1-k) [Af f]=[Af f]:=Zgf (by simp;omega);have e14:=bB Af l k c wj;have e15:=bC Af l f k c wj;have e16:(List.map some (List.map Af (List.take (k+1) l++List.drop k l))++List.replicate c (none:Option (List I))).length=l.length+1+c:=by simp;omega
   (repeat' first|simp(disch:=omega)only[go_sem,reduceCtorEq,Int.reduceLE,Int.reduceEq,Nat.reduceAdd,Nat.reduceEqDiff,Nat.reduceLT,Zg8,Zg6,Zgq,e0,e1,e2,e3,e4,e9,e10,e12,e13,e14]|refine Ac ?_|(refine Ig (m1) ?_ (by simp[V0,H0]) (by simp[V0,H0,JJ,Ref.nm]) (fun r sto' hR=>?_);(focus(first|rfl|(simp only[go_sem,reduceCtorEq,Int.reduceToNat,Int.reduceNeg,Int.reduceLT,Int.reduceLE,Int.reduceEq,Int.reduceAdd,Int.reduceSub,Int.reduceMul,Nat.reduceAdd,Nat.reduceSub,Nat.reduceMul,Nat.reduceEqDiff,Nat.reduceBEq,Nat.reduceBneDiff,Nat.reduceLeDiff,Nat.reduceLT,reduceIte,Zg8,Zg6,h0,h1,h2,hf,Zgq,e0,e1,e2,e3,e4,e9,e10,e12,e13,e11,e14,e15,e16];done)));first|(obtain⟨rfl,rfl⟩:=hR)|(obtain⟨_,(rfl|rfl),rfl,rfl⟩:=hR))|refine Au ?_|(refine And.intro ?_ ?_;focus omega))
   refine⟨h2,?_⟩;have e17:(List.take (k+1) l).length+(List.drop k l).length+(List.replicate c (none:Option (List I))).length=l.length+1+c:=by simp;omega
   (repeat' first|simp(disch:=omega)only[go_sem,reduceCtorEq,Nat.reduceEqDiff,Zg8,Zg6,Zgq,e0,e9,e11,e15,e16]|(refine And.intro ?_ ?_;focus omega))
   refine⟨hf,?_⟩;generalize hq:List.map some (List.map Af (Bg l k f))++List.replicate c (none:Option (List I))=q;refine D0 [(5000,5000)] (s':=[(5000,.arr 50 18 q)]) rfl rfl (by decide) rfl ⟨5000,.inl rfl,rfl,List.replicate c none,?_⟩;rw[hq];rfl
end
section
theorem yE(x:Ftr)(name:AQ):Is mx 200 [.agg (Af x),.elt [.str name] 0] (.bool (decide (x.name=name))):=by refine MX mE ?_;exact eS trivial
theorem NX(l:List Ftr)(name:AQ)(hl:l.length<=1073741824):Is mx 157 [.sl (l.map Af),.str name] (iI (BN l name)):=by
 have h1:=Ua (mx:=mx) (fun f=>decide (f.name=name)) l 200 [] [.elt [.str name] 0] hl (fun x _=>yE x name);refine MX pJ ?_
 (repeat' first|simp(disch:=omega)only[go_sem,simprocAttr]|refine Sx.s ?_ ?_<;>try(intro h;have h':=h;try simp only[HB]at h';try rewrite [h];try simp only[h])|refine Ab (h1) ?_|refine Sz.s ?_|fail)
 all_goals(try rfl)
theorem yF(nm:Nat)(hn:nm<5000)(l:List Ftr)(k:Nat)(hl:l.length<=1073741824)(hk:k<l.length):MC Tryz.prog (Mi mx) 205 [.ref (.sl nm 18 0 l.length),.i (iI k),.i (iI (k+1))] [(nm,.rows 50 18 (l.map Af))] []
  (fun r s=>r=.ref (.sl nm 18 0 (l.length-1))/\s=[(nm,.rows 50 18 ((A5 l k).map Af++[Af Cs]))]):=by
 have e1:KN [(5000,nm)] 5000=nm:=by rfl
 have h:=(MC.as [(5000,nm)] (yA (mx:=mx) l k hl hk)).mono (R':=fun r s=>r=.ref (.sl nm 18 0 (l.length-1))/\s=[(nm,.rows 50 18 ((A5 l k).map Af++[Af Cs]))]) (by
  rintro r s ⟨h1,h2⟩;have k:=DX (f:=IM [(5000,nm)]) (g:=KN [(5000,nm)]) (BQ _) r;have k2:=E2 (f:=IM [(5000,nm)]) (g:=KN [(5000,nm)]) (BQ _) s;rw[h1]at k;rw[h2]at k2;refine⟨?_,?_⟩
  ·rw[<-k];simp only[I8,OF,e1]
  ·rw[<-k2];simp only[IL,KL,e1])
 simp only[Ze1,Ze5,I8,OF,IL,KL,e1]at h;exact h
theorem PL(l:List Ftr)(k:Nat)(hl:l.length<=1073741824)(hk:k<l.length):Is mx 160 [.sl (l.map Af),iI k] (.sl ((A5 l k).map Af)):=by
 have m1:=bz (mx:=mx) l hl;have m2:=yF (mx:=mx) 6 (by decide) l k hl hk;refine MX oI ?_
 (repeat' first|simp(disch:=omega)only[go_sem,simprocAttr]|(first|refine D2 (m1) ?_ (fun r sto' hR=>?_)|refine Dg (m1) ?_ (fun r sto' hR=>?_);(focus(first|rfl|(simp only[go_sem,simprocAttr];done)));first|(obtain⟨rfl,rfl⟩:=hR)|(obtain⟨_,(rfl|rfl),rfl,rfl⟩:=hR))|(first|refine D2 (m2) ?_ (fun r sto' hR=>?_)|refine Dg (m2) ?_ (fun r sto' hR=>?_);(focus(first|rfl|(simp only[go_sem,simprocAttr];done)));first|(obtain⟨rfl,rfl⟩:=hR)|(obtain⟨_,(rfl|rfl),rfl,rfl⟩:=hR))|refine Sz.s ?_|fail)
 have e:(A5 l k).length=l.length-1:=by grind[A5]
 rw[Zaa (by omega),Zgc (by rw[Zes,e])];simp only[go_sem]
theorem yG(nm:Nat)(hn:nm<5000)(l:List Ftr)(k:Nat)(f:Ftr)(hl:l.length<=1073741824)(hk:k<=l.length):MC Tryz.prog (Mi mx) 203 [.ref (.sl nm 18 0 l.length),.i (iI k),.i (.sl [Af f])] [(nm,.rows 50 18 (l.map Af))] [nm]
  (fun r s=>∃m,(m=nm\/m=6000)/\r=.ref (.sl m 18 0 (l.length+1))/\s=[(m,.rows 50 18 ((Bg l k f).map Af))]):=by
 have e1:KN [(5000,nm)] 5000=nm:=by rfl
 have e2:KN [(5000,nm)] 6000=6000:=by grind[KN,sw]
 have h:=(MC.as [(5000,nm)] (yD (mx:=mx) l k f hl hk)).mono (R':=fun r s=>∃m,(m=nm\/m=6000)/\r=.ref (.sl m 18 0 (l.length+1))/\s=[(m,.rows 50 18 ((Bg l k f).map Af))]) (by
  rintro r s ⟨m,hm,h1,h2⟩;have k:=DX (f:=IM [(5000,nm)]) (g:=KN [(5000,nm)]) (BQ _) r;have k2:=E2 (f:=IM [(5000,nm)]) (g:=KN [(5000,nm)]) (BQ _) s;rw[h1]at k;rw[h2]at k2;rcases hm with rfl|rfl
  ·refine⟨nm,.inl rfl,?_,?_⟩
   ·rw[<-k];simp only[I8,OF,e1]
   ·rw[<-k2];simp only[IL,KL,e1]
  ·refine⟨6000,.inr rfl,?_,?_⟩
   ·rw[<-k];simp only[I8,OF,e2]
   ·rw[<-k2];simp only[IL,KL,e2])
 simp only[Ze1,Ze5,I8,OF,IL,KL,e1]at h;exact h
theorem yH(g f:Ftr):Is mx 202 [.agg (Af g),.elt (Af f) 0] (.bool (!VQ g.name f.name)):=by
 refine MX oP ?_
 (repeat' first|simp(disch:=omega)only[go_sem,simprocAttr]|refine Sz.s ?_|fail)
 all_goals(try rfl)
theorem yI(l:List Ftr)(f:Ftr):(Br (fun g:Ftr=>!VQ g.name f.name) l=-1/\Fi l f.name=l.length)\/(0<=Br (fun g:Ftr=>!VQ g.name f.name) l/\Br (fun g:Ftr=>!VQ g.name f.name) l=(Fi l f.name:Int)/\Fi l f.name<l.length):=by
 unfold Fi
 induction l with
 |nil=>exact .inl ⟨rfl,rfl⟩
 |cons g r ih=>
  cases h:VQ g.name f.name
  ·refine .inr ?_;have e:Br (fun g:Ftr=>!VQ g.name f.name) (g::r)=0:=by grind[Br]
   simp_all
  ·have e:(List.takeWhile (fun g:Ftr=>VQ g.name f.name) (g::r)).length=(List.takeWhile (fun g:Ftr=>VQ g.name f.name) r).length+1:=by simp[h]
   rw[e];have e2:Br (fun g:Ftr=>!VQ g.name f.name) (g::r)=if Br (fun g:Ftr=>!VQ g.name f.name) r<0 then-1 else Br (fun g:Ftr=>!VQ g.name f.name) r+1:=by grind[Br,VQ]
   grind
end
section
theorem NY(l:List Ftr)(f:Ftr)(hl:l.length<=1073741823):Is mx 159 [.sl (l.map Af),.agg (Af f)] (.sl ((BS l f).map Af)):=by
 have h1:=Ua (mx:=mx) (fun g=>!VQ g.name f.name) l 202 [] [.elt (Af f) 0] (by omega) (fun x _=>yH x f);have m1:=bz (mx:=mx) l (by omega);have m2:=yG (mx:=mx) 14 (by decide) l (Fi l f.name) f (by omega) (wG l f.name);have e1:(BS l f).length=l.length+1:=wJ l f;unfold BS at e1⊢;refine MX nv ?_;rcases yI l f with⟨q1,q2⟩|⟨q0,q1,q2⟩
 ·rw[q1]at h1;rw[q2]at m2 e1⊢
  (repeat' first|simp(disch:=omega)only[go_sem,reduceCtorEq,Int.reduceNeg,Int.reduceLT,Nat.reduceAdd,Nat.reduceSub,Nat.reduceEqDiff,Nat.reduceLeDiff,e1]|refine Ab (h1) ?_|refine Ac ?_|(refine QE (m1) ?_ rfl (fun r sto' hR=>?_);(focus(first|rfl|(simp only[go_sem,reduceCtorEq,Int.reduceToNat,Int.reduceNeg,Int.reduceLT,Int.reduceLE,Int.reduceEq,Int.reduceAdd,Int.reduceSub,Int.reduceMul,Nat.reduceAdd,Nat.reduceSub,Nat.reduceMul,Nat.reduceEqDiff,Nat.reduceBEq,Nat.reduceBneDiff,Nat.reduceLeDiff,Nat.reduceLT,reduceIte,e1];done)));first|(obtain⟨rfl,rfl⟩:=hR)|(obtain⟨_,(rfl|rfl),rfl,rfl⟩:=hR))|(refine Ig (m2) ?_ (by simp[V0,H0]) (by simp[V0,H0,JJ,Ref.nm]) (fun r sto' hR=>?_);(focus(first|rfl|(simp only[go_sem,reduceCtorEq,Int.reduceToNat,Int.reduceNeg,Int.reduceLT,Int.reduceLE,Int.reduceEq,Int.reduceAdd,Int.reduceSub,Int.reduceMul,Nat.reduceAdd,Nat.reduceSub,Nat.reduceMul,Nat.reduceEqDiff,Nat.reduceBEq,Nat.reduceBneDiff,Nat.reduceLeDiff,Nat.reduceLT,reduceIte,e1];done)));first|(obtain⟨rfl,rfl⟩:=hR)|(obtain⟨_,(rfl|rfl),rfl,rfl⟩:=hR))|refine OS ?_ ?_|refine Au ?_|refine HA (R:=fd _) ?_|fail)
  all_goals exact Zae I.sl (Zgf (by rw[Zes,e1];exact Zgu _))
 ·have q3:(Br (fun g=>!VQ g.name f.name) l<0)=False:=by simp;omega
  rw[q1]at h1;have q4:((Fi l f.name:Int)<0)=False:=by simp
  (repeat' first|simp(disch:=omega)only[go_sem,reduceCtorEq,Nat.reduceAdd,Nat.reduceSub,Nat.reduceEqDiff,Nat.reduceLeDiff,e1,q4]|refine Ab (h1) ?_|refine Ac ?_|(refine QE (m1) ?_ rfl (fun r sto' hR=>?_);(focus(first|rfl|(simp only[go_sem,reduceCtorEq,Int.reduceToNat,Int.reduceNeg,Int.reduceLT,Int.reduceLE,Int.reduceEq,Int.reduceAdd,Int.reduceSub,Int.reduceMul,Nat.reduceAdd,Nat.reduceSub,Nat.reduceMul,Nat.reduceEqDiff,Nat.reduceBEq,Nat.reduceBneDiff,Nat.reduceLeDiff,Nat.reduceLT,reduceIte,e1,q4];done)));first|(obtain⟨rfl,rfl⟩:=hR)|(obtain⟨_,(rfl|rfl),rfl,rfl⟩:=hR))|(refine Ig (m2) ?_ (by simp[V0,H0]) (by simp[V0,H0,JJ,Ref.nm]) (fun r sto' hR=>?_);(focus(first|rfl|(simp only[go_sem,reduceCtorEq,Int.reduceToNat,Int.reduceNeg,Int.reduceLT,Int.reduceLE,Int.reduceEq,Int.reduceAdd,Int.reduceSub,Int.reduceMul,Nat.reduceAdd,Nat.reduceSub,Nat.reduceMul,Nat.reduceEqDiff,Nat.reduceBEq,Nat.reduceBneDiff,Nat.reduceLeDiff,Nat.reduceLT,reduceIte,e1,q4];done)));first|(obtain⟨rfl,rfl⟩:=hR)|(obtain⟨_,(rfl|rfl),rfl,rfl⟩:=hR))|refine OS ?_ ?_|refine Au ?_|refine HA (R:=fd _) ?_|fail)
  all_goals exact Zae I.sl (Zgf (by rw[Zes,e1];exact Zgu _))
end
section
theorem yJ(l:List Tbl)(hl:l.length<=1073741824):MC Tryz.prog (Mi mx) 156 [.i (.sl (l.map AS))] [] []
  (fun r s=>r=.ref (.sl 6000 4 0 l.length)/\s=[(6000,.rows 38 4 (l.map AS))]):=by
 refine MX oH ?_;have hr:=A1 (f:=AS) (k:=4) l ND NE
 (repeat' first|simp(disch:=omega)only[go_sem,reduceCtorEq,Nat.reduceSub,Nat.reduceEqDiff,Nat.reduceLeDiff,Zg8]|refine OT (fun h=>?_) (fun h=>?_)<;>(have h':=h;try simp only[HB]at h';try rewrite [h];try simp only[h])|refine Ac ?_|refine QM (fun wq b=>?_) (fun wq=>?_)|fail)
 ·have e:l=[]:=by simpa using wq
  subst e;cases h';refine D0 [(2,6000)] (by simp only[go_sem,V10];rfl) (by simp[VL];rfl) (by decide) (by simp[V0,H0,JJ,Ref.nm]) ?_;simp[VL]
 ·refine⟨hr.1,hr.2,by omega,by omega,?_⟩;refine D0 [(5,6000)] (by simp only[go_sem,V10];rfl) (by simp[VL];rfl) (by decide) (by simp[V0,H0,JJ,Ref.nm]) ?_;simp[VL]
 ·simp at h
 ·refine⟨hr.1,hr.2,by omega,by omega,?_⟩;refine D0 [(5,6000)] (by simp only[go_sem,V10];rfl) (by simp[VL];rfl) (by decide) (by simp[V0,H0,JJ,Ref.nm]) ?_;simp[VL]
theorem yK{α:Type}(E:α->List I)(hE1:∀x,(E x).length=4)(f:α)(rs:List (Option (List I)))(lo hi:Nat):MC Tryz.prog (Mi mx) 197 [.i (.sl [E f]),.ref (.sl 5000 4 lo hi)] [(5000,.arr 38 4 rs)] [] (fun r s=>r=.i (.bool false)/\s=[(5000,.arr 38 4 rs)]):=by
 have hc:∀vs w,(callFunc 197 vs).run Tryz.prog w=((Extern.SlicesOverlaps.overlaps #[62,62] #[4] vs).run Tryz.prog w).andThen fun v w'=>.ok (.value v) w':=
  fun vs w=>Za7 Tryz.func197 (by kernel_rfl) (by kernel_rfl) (by kernel_rfl) (by kernel_rfl) vs w
 exact bA _ rs lo hi (by decide) (by intro r hr;rw[Zfq.1 hr];exact hE1 f) hc (by kernel_rfl) (fun w=>by rfl) (by decide)
theorem yL{α:Type}(E:α->List I)(hE1:∀x,(E x).length=4)(hE2:∀x,(E x).all I.one=true)(l:List α)(k:Nat)(f:α)(hl:l.length<=1073741824)(hk:k<=l.length):MC Tryz.prog (Mi mx) 155 [.ref (.sl 5000 4 0 l.length),.i (iI k),.i (.sl [E f])] [(5000,.rows 38 4 (l.map E))] [5000]
  (fun r s=>∃nm,(nm=5000\/nm=6000)/\r=.ref (.sl nm 4 0 (l.length+1))/\s=[(nm,.rows 38 4 ((Bg l k f).map E))]):=by
 refine MC.rowsOut (TE (R:=fun r s=>∃nm,(nm=5000\/nm=6000)/\r=.ref (.sl nm 4 0 (l.length+1))/\∃j,s=[(nm,.arr 38 4 (((Bg l k f).map E).map some++j))]) fun c=>?_) fun r s ⟨nm,hn,hr,j,hs⟩=>⟨nm,_,_,_,j,[],hs,nm,hn,hr,rfl⟩
 have h1:=A1 (l.take k) hE1 hE2;have h2:=A1 (l.drop k) hE1 hE2;have h0:=A1 l hE1 hE2;have hf:=A1 [f] hE1 hE2;have e0:(k:Int).toNat=k:=by omega
 refine MX nu ?_;by_cases hkn:k=l.length
 ·subst hkn
  (repeat' first|simp(disch:=omega)only[go_sem,reduceCtorEq,Nat.reduceAdd,Nat.reduceEqDiff,Nat.reduceLeDiff,Zg8,Zg6,Zgq]|refine OT (fun h=>?_) (fun h=>?_)<;>(have h':=h;try simp only[HB]at h';try rewrite [h];try simp only[h])|refine Ac ?_|(refine And.intro ?_ ?_;focus omega))
  ·simp at h
  ·refine⟨hf,fun j7=>?_,fun hfull=>⟨l.map E,?_,h0,by omega,by omega,fun c1=>?_⟩⟩
   ·obtain⟨c,rfl⟩:∃d,c=d+1:=⟨c-1,by simp at j7;omega⟩;generalize hq:setL (List.map some (List.map E l)++List.replicate (c+1) none) l.length [some (E f)]=q;have hz:q=List.map some ((Bg l l.length f).map E)++List.replicate c none:=by grind[bD,Bg]
    refine D0 [(5000,5000)] (s':=[(5000,.arr 38 4 q)]) rfl rfl (by decide) rfl ⟨5000,.inl rfl,rfl,List.replicate c none,?_⟩;rw[<-hz];rfl
   ·rw[Zgc (by simp),IG]
   ·generalize hq:List.map some (List.map E l++[E f])++List.replicate c1 (none:Option (List I))=q;have hz:q=List.map some ((Bg l l.length f).map E)++List.replicate c1 none:=by grind[Bg]
    refine D0 [(25,6000)] (s':=[(25,.arr 38 4 q)]) rfl rfl (by decide) rfl ⟨6000,.inr rfl,rfl,List.replicate c1 none,?_⟩;rw[<-hz];rfl
 ·have e1:((k:Int)=(l.length:Int))=False:=by simp;omega
  have e2:((0:Nat):Int)+1=1:=rfl;have e3:(List.map some (List.map E l)++List.replicate c (none:Option (List I))).length=l.length+c:=by simp
  have e9:((l.length:Int)+1).toNat=l.length+1:=by omega
  have e10:((k:Int)+1).toNat=k+1:=by omega
  rcases Nat.eq_zero_or_pos c with wh|wh
  ·subst wh;have e4:(((l.length:Int)+1)>((l.length+0:Nat):Int))=True:=by simp;omega
   have e5:((l.length:Int)+1-(k:Int)).toNat=l.length+1-k:=by omega
   (repeat' first|simp(disch:=omega)only[go_sem,reduceCtorEq,Int.reduceLE,Int.reduceEq,Int.reduceAdd,Nat.reduceAdd,Nat.reduceEqDiff,Zg8,Zg6,e0,e1,e2,e3,e4,e5,Zew]|refine Ac ?_|(refine And.intro ?_ ?_;focus omega))
   refine⟨⟨fun r hr=>by rw[(Zfp.1 hr).2];rfl,fun r hr=>by rw[(Zfp.1 hr).2];rfl⟩,fun h=>absurd h (by omega),fun _=>⟨(l.take k).map E,by rw[Zgb (by simp;omega),<-Ze7,<-Ze7,IG],h1,by omega,by omega,fun c1=>?_⟩⟩;have e6:k+(l.length+1-k)=l.length+1:=by omega
   generalize hz0:([.str [],.str [],.sl [],.int .i64 0]:List I)=z0;have e8:(List.take k l).length+(List.replicate (l.length+1-k) z0).length+(List.replicate c1 (none:Option (List I))).length=l.length+1+c1:=by simp;omega
   have e11:List.take (l.length+1-k) [E f]=[E f]:=Zgf (by simp;omega);have e7:setL (List.map some (List.map E (List.take k l)++List.replicate (l.length+1-k) z0)++List.replicate c1 none) k [some (E f)]=List.map some (List.map E (List.take k l)++[E f]++List.replicate (l.length-k) z0)++List.replicate c1 none:=by
    have:l.length+1-k=(l.length-k)+1:=by omega
    grind[NW]
   (repeat' first|simp(disch:=omega)only[go_sem,reduceCtorEq,Nat.reduceEqDiff,Zg8,Zg6,Zgq,e0,e6,e7,e8,e9,e11]|(refine And.intro ?_ ?_;focus omega))
   refine⟨hf,?_⟩
   (repeat' first|simp(disch:=omega)only[go_sem,reduceCtorEq,Nat.reduceEqDiff,Zg8,Zg6,e9,e10]|refine Au ?_|(refine And.intro ?_ ?_;focus omega))
   have e18:(List.take k l).length+1+(List.replicate (l.length-k) z0).length+(List.replicate c1 (none:Option (List I))).length=l.length+1+c1:=by simp;omega
   have e19:setL (List.map some (List.map E (List.take k l)++[E f]++List.replicate (l.length-k) z0)++List.replicate c1 none) (k+1) (List.map some (List.map E (List.drop k l)))=List.map some (List.map E (Bg l k f))++List.replicate c1 none:=by grind[NW,Bg]
   have e12:min l.length (k+(l.length+1-(k+1)))=l.length:=by omega
   have e13:Ft (List.drop k (List.take l.length (List.map some (List.map E l)++List.replicate 0 none)))=some ((l.drop k).map E):=by rw[Zgc (by simp),<-Ze2,IG,Ze2]
   have e20:((k:Int)+1<=(l.length:Int)+1)=True:=by simp;omega
   (repeat' first|simp(disch:=omega)only[go_sem,reduceCtorEq,Nat.reduceEqDiff,Zg8,Zg6,Zgq,e0,e3,e18,e19,e12,e13,e20]|(refine And.intro ?_ ?_;focus omega))
   refine⟨h2,?_⟩;generalize hq:List.map some (List.map E (Bg l k f))++List.replicate c1 (none:Option (List I))=q;refine D0 [(40,6000)] (s':=[(40,.arr 38 4 q)]) rfl rfl (by decide) rfl ⟨6000,.inr rfl,rfl,List.replicate c1 none,?_⟩;rw[hq];rfl
  ·obtain⟨c,rfl⟩:∃d,c=d+1:=⟨c-1,by omega⟩;have wj:k<l.length:=by omega
   have e4:(((l.length:Int)+1)>((l.length+(c+1):Nat):Int))=False:=by simp;omega
   have m1:=yK (mx:=mx) E hE1 f (List.map some (List.map E l)++List.replicate (c+1) none) (k+1) (l.length+1);have e12:min (l.length+1) (k+(l.length+1-(k+1)))=l.length:=by omega
   have e13:Ft (List.drop k (List.take l.length (List.map some (List.map E l)++List.replicate (c+1) none)))=some ((l.drop k).map E):=by rw[Zgc (by simp),<-Ze2,IG,Ze2]
   have e11:List.take (l.length+1-k) [E f]=[E f]:=Zgf (by simp;omega);have e14:=bB E l k c wj;have e15:=bC E l f k c wj;have e16:(List.map some (List.map E (List.take (k+1) l++List.drop k l))++List.replicate c (none:Option (List I))).length=l.length+1+c:=by simp;omega
   (repeat' first|simp(disch:=omega)only[go_sem,reduceCtorEq,Int.reduceLE,Int.reduceEq,Nat.reduceAdd,Nat.reduceEqDiff,Nat.reduceLT,Zg8,Zg6,Zgq,e0,e1,e2,e3,e4,e9,e10,e12,e13,e14]|refine Ac ?_|(refine Ig (m1) ?_ (by simp[V0,H0]) (by simp[V0,H0,JJ,Ref.nm]) (fun r sto' hR=>?_);(focus(first|rfl|(simp only[go_sem,reduceCtorEq,Int.reduceToNat,Int.reduceNeg,Int.reduceLT,Int.reduceLE,Int.reduceEq,Int.reduceAdd,Int.reduceSub,Int.reduceMul,Nat.reduceAdd,Nat.reduceSub,Nat.reduceMul,Nat.reduceEqDiff,Nat.reduceBEq,Nat.reduceBneDiff,Nat.reduceLeDiff,Nat.reduceLT,reduceIte,Zg8,Zg6,h0,h1,h2,hf,Zgq,e0,e1,e2,e3,e4,e9,e10,e12,e13,e11,e14,e15,e16];done)));first|(obtain⟨rfl,rfl⟩:=hR)|(obtain⟨_,(rfl|rfl),rfl,rfl⟩:=hR))|refine Au ?_|(refine And.intro ?_ ?_;focus omega))
   refine⟨h2,?_⟩;have e17:(List.take (k+1) l).length+(List.drop k l).length+(List.replicate c (none:Option (List I))).length=l.length+1+c:=by simp;omega
   (repeat' first|simp(disch:=omega)only[go_sem,reduceCtorEq,Nat.reduceEqDiff,Zg8,Zg6,Zgq,e0,e9,e11,e15,e16]|(refine And.intro ?_ ?_;focus omega))
   refine⟨hf,?_⟩;generalize hq:List.map some (List.map E (Bg l k f))++List.replicate c (none:Option (List I))=q;refine D0 [(5000,5000)] (s':=[(5000,.arr 38 4 q)]) rfl rfl (by decide) rfl ⟨5000,.inl rfl,rfl,List.replicate c none,?_⟩;rw[hq];rfl
theorem yM(l:List Tbl)(k:Nat)(f:Tbl)(hl:l.length<=1073741824)(hk:k<=l.length):MC Tryz.prog (Mi mx) 155 [.ref (.sl 5000 4 0 l.length),.i (iI k),.i (.sl [AS f])] [(5000,.rows 38 4 (l.map AS))] [5000]
  (fun r s=>∃nm,(nm=5000\/nm=6000)/\r=.ref (.sl nm 4 0 (l.length+1))/\s=[(nm,.rows 38 4 ((Bg l k f).map AS))]):=yL (mx:=mx) AS ND NE l k f hl hk
theorem yN(nm:Nat)(hn:nm<5000)(l:List Tbl)(k:Nat)(f:Tbl)(hl:l.length<=1073741824)(hk:k<=l.length):MC Tryz.prog (Mi mx) 155 [.ref (.sl nm 4 0 l.length),.i (iI k),.i (.sl [AS f])] [(nm,.rows 38 4 (l.map AS))] [nm]
  (fun r s=>∃m,(m=nm\/m=6000)/\r=.ref (.sl m 4 0 (l.length+1))/\s=[(m,.rows 38 4 ((Bg l k f).map AS))]):=by
 have e1:KN [(5000,nm)] 5000=nm:=by rfl
 have e2:KN [(5000,nm)] 6000=6000:=by grind[KN,sw]
 have h:=(MC.as [(5000,nm)] (yM (mx:=mx) l k f hl hk)).mono (R':=fun r s=>∃m,(m=nm\/m=6000)/\r=.ref (.sl m 4 0 (l.length+1))/\s=[(m,.rows 38 4 ((Bg l k f).map AS))]) (by
  rintro r s ⟨m,hm,h1,h2⟩;have k:=DX (f:=IM [(5000,nm)]) (g:=KN [(5000,nm)]) (BQ _) r;have k2:=E2 (f:=IM [(5000,nm)]) (g:=KN [(5000,nm)]) (BQ _) s;rw[h1]at k;rw[h2]at k2;rcases hm with rfl|rfl
  ·refine⟨nm,.inl rfl,?_,?_⟩
   ·rw[<-k];simp only[I8,OF,e1]
   ·rw[<-k2];simp only[IL,KL,e1]
  ·refine⟨6000,.inr rfl,?_,?_⟩
   ·rw[<-k];simp only[I8,OF,e2]
   ·rw[<-k2];simp only[IL,KL,e2])
 simp only[Ze1,Ze5,I8,OF,IL,KL,e1]at h;exact h
end
section
theorem yO(l:List Tbl):Is mx 154 [.sl (l.map AS)] (.fn 196 [] [.elt [.sl (l.map AS)] 0]):=by refine MX ms ?_;exact eS trivial
def NZ(l:List Tbl):List (List I):=(List.range l.length).map fun j:Nat=>[iI ((l.length:Int)-1-(j:Int)),.agg (AS (l.getD (l.length-1-j) default))]
theorem bE(l:List Tbl):(NZ l).length=l.length:=by simp[NZ]
theorem bF(l:List Tbl){j:Nat}(h:j<l.length):(NZ l).getD j []=[iI ((l.length:Int)-1-(j:Int)),.agg (AS (l.getD (l.length-1-j) default))]:=by unfold NZ;rw[Zdx,Zd5,List.getElem?_range h];rfl
theorem yP(l:List Tbl)(hl:l.length<=1073741824):Hv Tryz.prog (Mi mx) 196 [.elt [.sl (l.map AS)] 0] (NZ l):=by
 intro y m mv N go hV hm hN hgo qh hy;rw[bE]at hN qh;have hk:∀k,Sj mv (m k)=true:=fun k=>(hm k).1
 have g1:∀k q,q<5000->Aa (m k) q=none:=fun k q hq=>L7 (hk k) hq
 have g2:∀k q b,q<5000->Sk q b (m k)=m k:=fun k q b hq=>NR (hk k) hq b
 have g3:∀k q,q<5000->B6 (m k) q=m k:=fun k q hq=>NS (hk k) hq
 have g4:∀k,Be (m k) (m k)=True:=fun k=>Za8 (L8 (hk k))
 have g5:∀k,PW (m k) (m k)=true:=fun k=>EH (hk k)
 have fin:∀(E:Env),Fy [] ((m 0).map (·.1)) mv (fun r s=>r=.i (.tup [])/\s=m N) ⟨E,m N⟩:=fun E=>JB (own:=[]) (hk N) rfl ⟨rfl,rfl⟩
 refine MX nG ?_ (hpin:=NT (hk 0))
 (repeat' first|simp(disch:=omega)only[go_sem,reduceCtorEq,Nat.reduceAdd,Nat.reduceEqDiff,Ze1,Ze5]|fail)
 refine A4 [0,1] (by simp only[V0,JK,reduceIte,Nat.reduceEqDiff];rfl) (fun i:Nat=>[(3,.i (iI ((l.length:Int)-1-i)))]) (fun i=>m i)
  (fun i=>i<=N/\(i=N->N=l.length)) (fun i=>l.length-i) 0 ⟨by omega,fun h=>by
   by_cases jn:N<l.length
   ·have:=(qh jn).1;omega
   ·omega⟩ (by simp[V0,H0,JJ,g4,g5]) ?_
 rintro i ⟨hi,hiN⟩;by_cases ja:i<l.length
 ·have hcN:i<N:=by
   rcases Zgz i N with q|q
   ·exact q
   ·have:=hiN (by omega);omega
  have y1:=hy _ hcN;rw[bF l ja]at y1;have e1:(l.length:Int)-1-i=((l.length-1-i:Nat):Int):=by omega
  have hge:decide (0<=(l.length:Int)-1-i)=true:=Za5 (by omega);have jn:l.length-1-i<l.length:=by omega
  rw[e1]at y1;rw[e1]at hge;simp only[e1]
  (repeat' first|simp(disch:=omega)only[go_sem,reduceCtorEq,Nat.reduceAdd,Nat.reduceEqDiff,BV jn]|refine Ac ?_|fail)
  simp only[AS]at y1;refine TD (own:=[]) (mj:=m i) (mk:=m (i+1)) y1 (fun s e=>by cases e;decide) (by simp only[DF,EA,go_sem,reduceCtorEq,Nat.reduceEqDiff,Ze1,Ze5,Zc1,Zft]) (hk _) (hk _) ((hm _).2.trans (hm _).2.symm) hV rfl [0,1,3,8] (by simp only[V0,JK,reduceIte,Nat.reduceEqDiff];rfl) (by simp only[go_sem,Zct,Zcw]) ?_;cases hgk:go i
  ·(repeat' first|simp(disch:=omega)only[go_sem,reduceCtorEq,Nat.reduceEqDiff,Zft]|fail)
   have hkN:i+1=N:=by
    rcases Zgz (i+1) N with q|q
    ·have:=hgo i q;rw[hgk]at this;cases this
    ·omega
   rw[hkN];exact fin _
  ·(repeat' first|simp(disch:=omega)only[go_sem,reduceCtorEq,Nat.reduceEqDiff,Zft]|fail)
   have e2:((l.length-1-i:Nat):Int)-1=(l.length:Int)-1-((i+1:Nat):Int):=by omega
   refine⟨i+1,⟨by omega,fun h=>?_⟩,by omega,by rw[e2],by first|exact L8 (hk _)|exact⟨L8 (hk _),g5 _⟩⟩;rcases Zgz N l.length with q|q
   ·have h2:=(qh q).2;have h3:N-1=i:=by omega
    rw[h3,hgk]at h2;cases h2
   ·omega
 ·have e:i=l.length:=by omega
  subst e;have hge:decide (0<=(l.length:Int)-1-l.length)=false:=Zba (by omega);refine FU hge ?_;rw[show l.length=N by omega];exact fin _
def IH(c:Cat)(t:Tbl):Cat×Int:=if(AV c.tables t.name).isSome=true then(c,121)else({c with tables:=En c.tables t},0)
theorem yQ(l:List Tbl)(name:AQ):ER l name<=l.length:=(List.takeWhile_prefix _).length_le
def atP(l:List Tbl)(name:AQ)(i:Nat):Nat:=i+ER (l.drop i) name
theorem bG(l:List Tbl)(name:AQ):atP l name l.length=l.length:=by simp[atP,ER]
theorem bH(l:List Tbl)(name:AQ){i:Nat}(h:i<l.length):atP l name i=if VQ (l.getD i default).name name=true then atP l name (i+1)else i:=by unfold atP;rw[Zc8 h,AK h];unfold ER;rw[Zf7];split<;>simp;omega
theorem yR{l:List Tbl}{name:AQ}(h:(AV l name).isSome=false):∀t∈l,t.name≠name:=by intro t ht e;unfold AV at h;simp at h;exact h t ht e
theorem yS{l:List Tbl}{name:AQ}(h:(AV l name).isSome=true):∃p,p<l.length/\(l.getD p default).name=name/\∀k,p<k->k<l.length->(l.getD k default).name≠name:=by
 have hx:∃t∈l,t.name=name:=by unfold AV at h;simpa using h
 clear h
 induction l with
 |nil=>obtain⟨t,ht,_⟩:=hx;cases ht
 |cons a r ih=>
  by_cases hr:∃t∈r,t.name=name
  ·obtain⟨p,h1,h2,h3⟩:=ih hr;refine⟨p+1,by simpa using h1,by simpa using h2,fun k hk hl=>?_⟩;cases k with
   |zero=>omega
   |succ k=>simpa using h3 k (by omega) (by simpa using hl)
  ·obtain⟨t,ht,e⟩:=hx;rcases Zfb.1 ht with rfl|ht
   ·refine⟨0,by simp,by simpa using e,fun k hk hl=>?_⟩;cases k with
    |zero=>omega
    |succ k=>
     have hl2:k<r.length:=by simpa using hl
     intro e2;exact hr ⟨r.getD k default,At hl2,by simpa using e2⟩
   ·exact absurd ⟨t,ht,e⟩ hr
theorem bI(c:Cat)(x:Chg)(hl:c.tables.length<=1073741823):Is mx 107 [.agg (Ap c),.agg (AF x)] (KK (IH c x.table)):=by
 have b1:=yO (mx:=mx) c.tables;have hs:=yP (mx:=mx) c.tables (by omega);have hx:=@bF c.tables;have vm:=bE c.tables;generalize NZ c.tables=xs at hs hx vm;refine MX pC ?_;refine EV b1 ?_;cases ht:(AV c.tables x.table.name).isSome
 ·have hno:=yR ht;rw[IH,Zac (by rw[ht];simp)];refine OU (gf:=196) rfl (by kernel_rfl) hs [(2,5002),(4,5004),(5,5005),(6,5006)] [.any,.any,.ref (.loc 5002 0),.i (.elt (AF x) 0),.ref (.loc 5004 0),.ref (.loc 5005 0),.ref (.loc 5006 0),.any,.any,.any,.any,.any,.any,.any,.any,.any,.any,.any,.any,.any,.any,.any,.any,.any,.any,.any,.any,.any,.any,.any,.any,.any,.any,.any,.any,.any,.any,.any,.any,.any,.any] (fun j=>[(5002,.cells ((Ap c).map .i)),(5004,.cells LY),(5005,.cells [.i (iI 0)]),(5006,.cells [.i (iI (atP c.tables x.table.name (c.tables.length-j)))])]) [] xs.length .none
   ⟨by simp,fun _=>by simp,fun h=>absurd rfl h⟩ rfl (fun j hj=>⟨rfl,rfl,rfl,rfl⟩) rfl (by simp[Hw,Aj,Cv,I8,OF,IM,sw]) rfl (by simp[IL,KL,I8,IM,sw,Be,Aa,bG,Ap]) (fun j hj=>⟨by rw[hx (by omega)];rfl,?_⟩) ?_
  ·have hj2:j<c.tables.length:=by omega
   have jn:c.tables.length-1-j<c.tables.length:=by omega
   have jf:=bH c.tables x.table.name jn;have e2:c.tables.length-j=c.tables.length-1-j+1:=by omega
   have e3:c.tables.length-(j+1)=c.tables.length-1-j:=by omega
   have e4:(c.tables.length:Int)-1-(j:Int)=((c.tables.length-1-j:Nat):Int):=by omega
   rw[hx hj2,ite_self,e2,e3,e4,jf];have jg:=hno _ (At jn);generalize c.tables.getD (c.tables.length-1-j) default=t at jg⊢;unfold VQ;simp only[EG,DK,Nat.reduceAdd];cases hb:Op.bytesLess t.name x.table.name
   ·(repeat' first|simp(disch:=omega)only[go_sem,reduceCtorEq,Nat.reduceAdd,Nat.reduceEqDiff,Nat.reduceLeDiff,D1,fi,Bw,Za9 jg,Za2,Zcc,hb]|refine Ac ?_|fail)
    all_goals(refine⟨rfl,[],?_⟩;simp(disch:=omega)only[go_sem,Nat.reduceEqDiff];try exact⟨rfl,rfl,rfl,rfl⟩)
   ·(repeat' first|simp(disch:=omega)only[go_sem,reduceCtorEq,Nat.reduceAdd,Nat.reduceEqDiff,Nat.reduceLeDiff,D1,fi,Bw,Za9 jg,Za2,Zcc,hb]|refine Ac ?_|fail)
    all_goals(refine⟨rfl,[],?_⟩;simp(disch:=omega)only[go_sem,Nat.reduceEqDiff];try exact⟨rfl,rfl,rfl,rfl⟩)
  ·refine⟨by simp[IL,KL,I8,IM,sw,A7,ren,Aa],by simp[IL,KL,I8,IM,sw,ren,Aa],rfl,?_⟩;show E3 0 _ .normal _;have hz:atP c.tables x.table.name (c.tables.length-xs.length)=ER c.tables x.table.name:=by rw[vm,Zg5];simp[atP]
   rw[hz];have ji:=yQ c.tables x.table.name;have m1:=yJ (mx:=mx) c.tables (by omega);have m2:=yN (mx:=mx) 33 (by decide) c.tables (ER c.tables x.table.name) x.table (by omega) ji;have e5:(En c.tables x.table).length=c.tables.length+1:=by unfold En Bg;simp;omega
   unfold En at e5⊢;simp only[AS]at m2
   (repeat' first|simp(disch:=omega)only[go_sem,Nat.reduceAdd,Nat.reduceSub,Nat.reduceEqDiff,Nat.reduceBEq,Nat.reduceLeDiff,IL,KL,I8,IM,sw,A7,ren,Bw,e5,nmO,D.nms,Zc1,Zft,Zc5]|(refine QE (m1) ?_ rfl (fun r sto' hR=>?_);(focus(first|rfl|(simp only[go_sem,reduceCtorEq,Int.reduceToNat,Int.reduceNeg,Int.reduceLT,Int.reduceLE,Int.reduceEq,Int.reduceAdd,Int.reduceSub,Int.reduceMul,Nat.reduceAdd,Nat.reduceSub,Nat.reduceMul,Nat.reduceEqDiff,Nat.reduceBEq,Nat.reduceBneDiff,Nat.reduceLeDiff,Nat.reduceLT,reduceIte,IL,KL,I8,OF,IM,sw,A7,ren,Bw,e5,nmO,D.nms,Zc1,Zft,Zc5];done)));first|(obtain⟨rfl,rfl⟩:=hR)|(obtain⟨_,(rfl|rfl),rfl,rfl⟩:=hR))|(refine Ig (m2) ?_ (by simp[V0,H0]) (by simp[V0,H0,JJ,Ref.nm]) (fun r sto' hR=>?_);(focus(first|rfl|(simp only[go_sem,reduceCtorEq,Int.reduceToNat,Int.reduceNeg,Int.reduceLT,Int.reduceLE,Int.reduceEq,Int.reduceAdd,Int.reduceSub,Int.reduceMul,Nat.reduceAdd,Nat.reduceSub,Nat.reduceMul,Nat.reduceEqDiff,Nat.reduceBEq,Nat.reduceBneDiff,Nat.reduceLeDiff,Nat.reduceLT,reduceIte,IL,KL,I8,OF,IM,sw,A7,ren,Bw,e5,nmO,D.nms,Zc1,Zft,Zc5];done)));first|(obtain⟨rfl,rfl⟩:=hR)|(obtain⟨_,(rfl|rfl),rfl,rfl⟩:=hR))|refine Au ?_|refine HA (R:=fd _) ?_|fail)
   all_goals rw[Zgf (by rw[Zes,e5];exact Zgu _)];rfl
 ·obtain⟨p,hp,hpe,wi⟩:=yS ht;rw[IH,Zaa ht];generalize hN:c.tables.length-p=N;refine OU (gf:=196) rfl (by kernel_rfl) hs [(2,5002),(4,5004),(5,5005),(6,5006)] [.any,.any,.ref (.loc 5002 0),.i (.elt (AF x) 0),.ref (.loc 5004 0),.ref (.loc 5005 0),.ref (.loc 5006 0),.any,.any,.any,.any,.any,.any,.any,.any,.any,.any,.any,.any,.any,.any,.any,.any,.any,.any,.any,.any,.any,.any,.any,.any,.any,.any,.any,.any,.any,.any,.any,.any,.any,.any] (fun j=>[(5002,.cells ((Ap c).map .i)),(5004,.cells (if j=N then(Ap c).map .i else LY)),(5005,.cells [.i (iI (if j=N then 121 else 0))]),(5006,.cells [.i (iI (atP c.tables x.table.name (c.tables.length-min j (N-1))))])]) [] N .ret
   ⟨by omega,fun h=>by simp at h,fun h=>by omega⟩ rfl (fun j hj=>by by_cases e:j=N<;>simp only[e,Zad,Zag]<;>exact⟨rfl,rfl,rfl,rfl⟩) rfl (by simp[Hw,Aj,Cv,I8,OF,IM,sw]) rfl (by
    have h0:¬(0=N):=by omega
    simp[IL,KL,I8,IM,sw,Be,Aa,bG,Ap,h0]) (fun j hj=>⟨by rw[hx (by omega)];rfl,?_⟩) ?_
  ·have hj2:j<c.tables.length:=by omega
   have jn:c.tables.length-1-j<c.tables.length:=by omega
   have jf:=bH c.tables x.table.name jn;have e1:min j (N-1)=j:=by omega
   have e2:c.tables.length-j=c.tables.length-1-j+1:=by omega
   have e4:(c.tables.length:Int)-1-(j:Int)=((c.tables.length-1-j:Nat):Int):=by omega
   have e6:¬(j=N):=by omega
   rw[hx hj2];simp only[e1,e2,e4,Zac e6];by_cases hjN:j+1=N
   ·have e3:min (j+1) (N-1)=j:=by omega
    have e7:c.tables.length-1-j=p:=by omega
    have e8:c.tables.length-j=p+1:=by omega
    simp only[e3,Zaa hjN,e7,e8];simp only[EG,DK,Nat.reduceAdd];generalize c.tables.getD p default=t at hpe⊢;refine FU (cj @D1.eq_1 (cj @fi.eq_1 (cj @Bw hpe))) ?_
    all_goals intros
    all_goals(refine⟨rfl,[],?_⟩;simp(disch:=omega)only[go_sem,Nat.reduceEqDiff];try exact⟨rfl,rfl,rfl,rfl⟩)
   ·have e3:min (j+1) (N-1)=j+1:=by omega
    have e7:c.tables.length-(j+1)=c.tables.length-1-j:=by omega
    have jg:=wi (c.tables.length-1-j) (by omega) jn;simp only[e3,Zac hjN,e7,jf];generalize c.tables.getD (c.tables.length-1-j) default=t at jg⊢;unfold VQ;simp only[EG,DK,Nat.reduceAdd];cases hb:Op.bytesLess t.name x.table.name
    ·refine A8 (cj @D1.eq_1 (cj @fi.eq_1 (cj @Bw (cj jg (cj @Zcc hb))))) ?_
     all_goals intros
     all_goals(refine⟨rfl,[],?_⟩;simp(disch:=omega)only[go_sem,Nat.reduceEqDiff];try exact⟨rfl,rfl,rfl,rfl⟩)
    ·refine A8 (cj @D1.eq_1 (cj @fi.eq_1 (cj @Bw (cj jg (cj @Zcc hb))))) ?_
     all_goals intros
     all_goals(refine⟨rfl,[],?_⟩;simp(disch:=omega)only[go_sem,Nat.reduceEqDiff];try exact⟨rfl,rfl,rfl,rfl⟩)
  ·refine⟨by simp[IL,KL,I8,IM,sw,A7,ren,Aa],by simp[IL,KL,I8,IM,sw,ren,Aa],rfl,?_⟩;have h0:¬(0=N):=by omega
   simp only[Zad,Zac h0];generalize atP c.tables x.table.name (c.tables.length-min 0 (N-1))=q1;generalize atP c.tables x.table.name (c.tables.length-min N (N-1))=q2;show E3 0 _ .ret _
   (repeat' first|simp(disch:=omega)only[go_sem,Nat.reduceAdd,Nat.reduceEqDiff,IL,KL,I8,IM,sw,A7,ren,Ze5,Ze1]|refine HA (R:=fd _) ?_|fail)
   rfl
end
section
def Vb(k:Int):Nat:=if k=1 then 107 else if k=2 then 110 else if k=3 then 113 else if k=4 then 115 else 116
def Vc(k:Int):Nat:=if k=1 then 108 else if k=2 then 111 else 114
def JD:List (I×I):=[(iI 1,.agg [.fn 107 [] [],.fn 108 [] []]),(iI 2,.agg [.fn 110 [] [],.fn 111 [] []]),(iI 3,.agg [.fn 113 [] [],.fn 114 [] []]),(iI 4,.agg [.fn 115 [] [],.fn 114 [] []]),(iI 5,.agg [.fn 116 [] [],.fn 114 [] []])]
theorem yT:Is mx 78 [] (.map JD):=by refine MX F78 ?_;refine eS ?_;rfl
theorem yU(x:Chg):Is mx 108 [.agg (AF x)] (.bool (decide (x.name=[])&&Ge x.feature Cs)):=by have n1:=bw (mx:=mx) x.feature;rw[Ci]at n1;refine MX mi ?_;exact EV (cj n1 @Bw) trivial
theorem yV(x:Chg):Is mx 111 [.agg (AF x)] (.bool (decide (x.name=[])&&FJ x.table Bk)):=by have n1:=bv (mx:=mx) x.table;refine MX pD ?_;exact EV (cj n1 @Bw) trivial
theorem yW(x:Chg):Is mx 114 [.agg (AF x)] (.bool (FJ x.table Bk&&Ge x.feature Cs)):=by have n2:=bv (mx:=mx) x.table;have n1:=bw (mx:=mx) x.feature;rw[Ci]at n1;refine MX oC ?_;exact EV (cj n1 (cj n2 @Bw)) trivial
theorem KG{α:Type}(p:α->α->Bool):∀l:List α,(∀x∈l,p x x=true)->eqL p l l=true
 |[],_=>rfl
 |x::l,h=>by simp only[eqL,h x Zfd,KG p l (fun y hy=>h y (Zfc _ hy)),Bool.and_self]
theorem bJ(x:Fac):FG x x=true:=by simp[FG]
theorem bK(x:Typ):LI x x=true:=by simp[LI,KG,FG,bJ]
theorem yX(x:Fld):LN x x=true:=by simp[LN,bK]
theorem yY(x:Tbl):FJ x x=true:=by grind[FJ,KG,LN,yX]
mutual
theorem bL:∀x:Xpr,eU x x=true
 |.mk k o n t v u p w a=>by
  have h1:=eqXs_self a;have h2:=KG FG u fun y _=>bJ y
  rw[eU];simp[Xpr.kind,Xpr.op,Xpr.name,Xpr.table,Xpr.val,Xpr.param,Xpr.win,Xpr.args,Xpr.unit,Dw,h1,h2]
theorem eqXs_self:∀a:List Xpr,eqXs a a=true
 |[]=>rfl
 |x::a=>by rw[eqXs,bL x,eqXs_self a];rfl
end
theorem yZ(x:Ftr):Ge x x=true:=by simp[Ge,bK,bL]
theorem y3(x:Chg):Gq x=if x.kind=1 then(decide (x.name=[])&&Ge x.feature Cs)else if x.kind=2 then(decide (x.name=[])&&FJ x.table Bk)else if 1<=x.kind/\x.kind<=5 then(FJ x.table Bk&&Ge x.feature Cs)else false:=by grind[Gq,Jw,RC,yY,yZ]
theorem y4(x:Chg)(hk:1<=x.kind/\x.kind<=5):Is mx (Vc x.kind) [.agg (AF x)] (.bool (Gq x)):=by rw[y3];grind[Vc,yU,yV,yW]
theorem y5{k:Int}(hk:1<=k/\k<=5):CF JD (.int .i64 k) (.agg [.nilfn,.nilfn]) true=.tup [.agg [.fn (Vb k) [] [],.fn (Vc k) [] []],.bool true]:=by
 have:k=1\/k=2\/k=3\/k=4\/k=5:=by omega
 rcases this with rfl|rfl|rfl|rfl|rfl<;>rfl
theorem y7{k:Int}(hk:¬(1<=k/\k<=5)):CF JD (.int .i64 k) (.agg [.nilfn,.nilfn]) true=.tup [.agg [.nilfn,.nilfn],.bool false]:=by
 have h1:¬((1:Int)=k):=by omega
 have h2:¬((2:Int)=k):=by omega
 have h3:¬((3:Int)=k):=by omega
 have h4:¬((4:Int)=k):=by omega
 have h5:¬((5:Int)=k):=by omega
 have e:∀a:Int,A3 (iI a)=[some (.i .i64 a)]:=fun a=>rfl
 have e2:A3 (.int .i64 k)=[some (.i .i64 k)]:=rfl;have e3:GB JD (.int .i64 k)=none:=by simp_all[GB,JD]
 simp[CF,e3]
theorem y8:(∀e∈JD,Ay [.i .i64] e.1=true)=True:=Za8 (by unfold JD;simp[Ay,AH,Bc])
theorem bM(c:Cat)(x:Chg)(r:Cat×Int)(jh:1<=x.kind->x.kind<=5->Gq x=true->Is mx (Vb x.kind) [.agg (Ap c),.agg (AF x)] (KK r))
  (hr2:r.2=(CJ c x).2)(v7:r.2=0->r=CJ c x)(hchk:r.2=0->Is mx 79 [.agg (Ap (CJ c x).1)] (iI (G8 (CJ c x).1))):Is mx 42 [.agg (Ap c),.agg (AF x)] (KK (Cu c x)):=by
 have hR:=Cu.eq_1 c x;have hE:=L0.eq_1 c x;have r0:=yT (mx:=mx);generalize CJ c x=q at*;have kd:=y8;by_cases hk:1<=x.kind/\x.kind<=5
 ·have p1:=y4 (mx:=mx) x hk;have kn:=y5 hk;have jh:=jh hk.1 hk.2;rw[Bw]at p1 jh;generalize JD=M at r0 kn kd;cases hpv:Gq x
  ·rw[hpv]at p1;rw[Zaa hpv]at hR;rw[hR];refine MX F42 ?_;refine EV (cj r0 (cj p1 (cj @Bw (cj kn kd)))) ?_;rfl
  ·rw[hpv]at p1;have jh:=jh hpv;rw[Zac (by rw[hpv];simp)]at hR;by_cases h0:r.2=0
   ·have e:=v7 h0;subst e;rw[Zaa h0]at hE;have hchk:=hchk h0;obtain⟨d,e⟩:=r;simp only at h0;subst h0;simp only[KK]at jh;by_cases hc:G8 d=0
    ·rw[hE,Zac (by simpa using hc)]at hR;rw[hR];rw[hc]at hchk;refine MX F42 ?_
     (repeat' first|simp(disch:=omega)only[go_sem,simprocAttr,Bw,kn,kd,Zaj,Za3,Za1,Za2]|refine Sx.s ?_ ?_<;>try(intro h;have h':=h;try simp only[HB]at h';try rewrite [h];try simp only[h])|refine Ab (r0) ?_|refine Ab (p1) ?_|refine Ab (jh) ?_|refine Ab (hchk) ?_|refine Ac ?_|refine If ?_ ?_|refine Au ?_|refine Sz.s ?_|fail)
     all_goals rfl
    ·rw[hE,Zaa hc]at hR;rw[hR];refine MX F42 ?_
     (repeat' first|simp(disch:=omega)only[go_sem,simprocAttr,Bw,kn,kd,Za9 hc,Zaj,Zat,Za1]|refine Sx.s ?_ ?_<;>try(intro h;have h':=h;try simp only[HB]at h';try rewrite [h];try simp only[h])|refine Ab (r0) ?_|refine Ab (p1) ?_|refine Ab (jh) ?_|refine Ab (hchk) ?_|refine Ac ?_|refine If ?_ ?_|refine Au ?_|refine Sz.s ?_|fail)
     all_goals rfl
   ·rw[Zac (by omega)]at hE;rw[hE,<-hr2,Zaa h0]at hR;rw[hR];obtain⟨d,e⟩:=r;simp only at h0 hR;simp only[KK]at jh;refine MX F42 ?_
    (repeat' first|simp(disch:=omega)only[go_sem,simprocAttr,Bw,kn,kd,Za9 h0,Zaj,Zat,Za1,Za2]|refine Ab (r0) ?_|refine Ab (p1) ?_|refine Ab (jh) ?_|refine Ac ?_|refine If ?_ ?_|refine Au ?_|refine Sz.s ?_|fail)
    all_goals rfl
 ·have hp:Gq x=false:=by unfold Gq;rw[Zac hk]
  rw[Zaa hp]at hR;have kn:=y7 hk;rw[hR];generalize JD=M at r0 kn kd;refine MX F42 ?_;refine FU (cj r0 (cj @Bw (cj kn kd))) ?_;rfl
end
section
def N1(m:List (Fid×Bool))(x:Ent):List (Fid×Bool):=if x.kind=1 then AM m x.fact.id true else m
def KH(l:List Ent)(i:Nat):List (Fid×Bool):=(l.take i).foldl N1 []
theorem bN{l:List Ent}{i:Nat}(h:i<l.length):KH l (i+1)=N1 (KH l i) (l.getD i default):=by grind[KH,BM]
theorem bO(l:List Ent)(id:Fid):∀i,i<=l.length->inG (KH l i) id=(l.take i).any (fun x=>decide (x.kind=1)&&decide (x.fact.id=id))
 |0,_=>by rfl
 |i+1,h=>by
  have ih:=bO l id i (by omega);rw[bN (by omega),BM (by omega),Zcx,<-ih];simp only[Zcy,List.any_nil,Zcc];unfold N1;split
  ·rename_i hk;unfold inG;rw[QN];grind
  all_goals grind
def pNo(l:List Ent)(i:Nat):Int:=if i=0 then 0 else(l.getD (i-1) default).no
def KI(l:List Ent)(i:Nat):Int:=if i=0 then 0 else(l.getD (i-1) default).tick
theorem y9{l:List Ent}{i:Nat}(h:i<l.length):inG (KH l i) (l.getD i default).fact.id=FN l i:=bO l _ i (by omega)
theorem za{l:List Ent}{i:Nat}(h1:0<=pNo l i)(h2:0<=KI l i):(decide ((l.getD i default).no<=pNo l i)||decide (1099511627776<(l.getD i default).no)||decide ((l.getD i default).tick<KI l i)||!(decide (0<=(l.getD i default).tick)&&decide ((l.getD i default).tick<=1099511627776)))=(Gr (l.getD i default)||Gs l i (l.getD i default)):=by grind[Gr,Gs,pNo,KI]
theorem bP(l:List Ent)(hl:Ag AB l<=1073740)(hA:∀i,i<l.length->(A6 l i).2=0->(l.getD i default).kind=3->Is mx 42 [.agg (Ap (A6 l i).1),.agg (AF (l.getD i default).change)] (KK (Cu (A6 l i).1 (l.getD i default).change))):
  Is mx 11 [.sl (l.map Ae)] (iI (C8 l)):=by
 have je:=LM l;refine MX F11 ?_;by_cases h4:4096<l.length
 ·have h4T:((4096:Int)<(l.length:Int))=True:=Za8 (by omega);rw[C8,Zaa h4]
  (repeat' first|simp(disch:=omega)only[go_sem,simprocAttr,h4T]|refine Ac ?_|refine Sz.s ?_|fail)
 ·have h4F:((4096:Int)<(l.length:Int))=False:=Za9 (by omega);rw[C8,Zac h4]
  (repeat' first|simp(disch:=omega)only[go_sem,simprocAttr,h4F]|refine Ac ?_|fail)
  refine A4 [3,4,16,17] (by simp only[V0,JK,reduceIte,Nat.reduceEqDiff];rfl) (fun i:Nat=>[(5,.i (iI (pNo l i))),(6,.i (iI (KI l i))),(18,.i (iI i))]) (fun i=>[(15,.map [.g,.s,.i .i64] (He (KH l i))),(3,.cells ((Ap (A6 l i).1).map .i))])
   (fun i=>i<=l.length/\(A6 l i).2=0/\0<=pNo l i/\0<=KI l i) (fun i=>l.length-i) 0 ⟨by omega,rfl,by simp[pNo],by simp[KI]⟩ (by simp[V0,H0,Ref.nm,A6,Ap,D.nms,Oe,pNo,KI,KH,He]) ?_
  rintro i ⟨hi,jb,hn0,ht0⟩;have hb:=RE l i hi;by_cases ja:i<l.length
  ·have hts:Ag AB (l.take (i+1))=Ag AB (l.take i)+AB (l.getD i default):=by rw[BM ja,Hb];simp[Ag]
   have qy:=NF AB l (i+1);have hS:A6 l (i+1)=Dn l i (A6 l i).1:=by grind[A6]
   have herr:=UM (l:=l) (i:=i+1);have qz:=za hn0 ht0;have hse:=bN ja;have htw:=y9 ja;have hA':=hA i ja jb;have wi:pNo l (i+1)=(l.getD i default).no:=by rfl
   have hpt:KI l (i+1)=(l.getD i default).tick:=by rfl
   have q1:=yo (mx:=mx) (l.getD i default).tick;have q2:=yx (mx:=mx) (l.getD i default);rw[AN]at q2;have hbe:=El (l.getD i default);have hbf:=LL (l.getD i default).fact;have q3:=yn (mx:=mx) (A6 l i).1 (l.getD i default).fact (by omega) (by omega);have q4:=yq (mx:=mx) (l.getD i default).erasure (by omega);generalize (A6 l i).1=c at hS hA' q3 hb;unfold Dn at hS;cases ho:Gr (l.getD i default)||Gs l i (l.getD i default)
   ·rw[ho]at qz;rw[ho,Zac (by simp)]at hS;have k6:1<=(l.getD i default).no/\0<=(l.getD i default).tick:=by grind
    cases v8:FM (l.getD i default)
    ·rw[v8]at q2;rw[Zaa v8]at hS;have hz:(A6 l l.length).2=1:=by grind
     rw[hz]
     (repeat' first|exact Ao _|simp(disch:=omega)only[go_sem,simprocAttr,BV ja,AN,qz]|refine' Av (fun hq=>?_) (fun f=>?_)<;>try(have jd:=hq;try simp only[HB]at jd)|refine Sx.s ?_ ?_<;>try(intro h;have h':=h;try simp only[HB]at h';try rewrite [h];try simp only[h])|refine Ab (q1) ?_|refine Ab (q2) ?_|refine Ac ?_|refine Au ?_|refine Sz.s ?_|fail)
    ·rw[v8]at q2;rw[Zac (by rw[v8];simp)]at hS
     try rw[QP]at q3
     try rw[TG]at q4
     by_cases qc:(l.getD i default).kind=1
     ·rw[Zaa qc]at hS;have kn:=NP (KH l i) (l.getD i default).fact.id;rw[htw]at kn;rw[N1,Zaa qc]at hse;by_cases hf0:Gm c (l.getD i default).fact=0
      ·rw[hf0]at q3;cases htv:FN l i
       ·rw[Zac (by rw[htv];simp),hf0]at hS;rw[htv]at kn
        (repeat' first|exact Ao _|simp(disch:=omega)only[go_sem,simprocAttr,BV ja,AN,qz,Za8 qc,kn,U1,Ay,AH,Bc,Zaw,Zaj,Za3,Za2,Za1]|refine' Av (fun hq=>?_) (fun f=>?_)<;>try(have jd:=hq;try simp only[HB]at jd)|refine Sx.s ?_ ?_<;>try(intro h;have h':=h;try simp only[HB]at h';try rewrite [h];try simp only[h])|refine Ab (q1) ?_|refine Ab (q2) ?_|refine Ab (q3) ?_|refine Ac ?_|refine Au ?_|fail)
        all_goals exact⟨i+1,⟨by omega,by rw[hS],by rw[wi];omega,by rw[hpt];omega⟩,by omega,⟨by rw[wi],by rw[hpt],rfl⟩,by rw[hse],by rw[hS]⟩
       ·rw[Zaa ⟨hf0,htv⟩]at hS;rw[htv]at kn;have hz:(A6 l l.length).2=151:=by grind
        rw[hz]
        (repeat' first|exact Ao _|simp(disch:=omega)only[go_sem,simprocAttr,BV ja,AN,qz,Za8 qc,kn,Ay,AH,Bc,Zaw,Zaj,Za3,Za2,Za1]|refine' Av (fun hq=>?_) (fun f=>?_)<;>try(have jd:=hq;try simp only[HB]at jd)|refine Sx.s ?_ ?_<;>try(intro h;have h':=h;try simp only[HB]at h';try rewrite [h];try simp only[h])|refine Ab (q1) ?_|refine Ab (q2) ?_|refine Ab (q3) ?_|refine Ac ?_|refine Au ?_|refine Sz.s ?_|fail)
        all_goals exact⟨i+1,⟨by omega,by rw[hS],by rw[wi];omega,by rw[hpt];omega⟩,by omega,⟨by rw[wi],by rw[hpt],rfl⟩,by rw[hse],by rw[hS]⟩
      ·rw[Zac (fun q=>hf0 q.1)]at hS;have hz:(A6 l l.length).2=Gm c (l.getD i default).fact:=by grind
       rw[hz]
       (repeat' first|exact Ao _|simp(disch:=omega)only[go_sem,simprocAttr,BV ja,AN,qz,Za8 qc,Zaj,Za9 hf0,Zat,Za1]|refine' Av (fun hq=>?_) (fun f=>?_)<;>try(have jd:=hq;try simp only[HB]at jd)|refine Sx.s ?_ ?_<;>try(intro h;have h':=h;try simp only[HB]at h';try rewrite [h];try simp only[h])|refine Ab (q1) ?_|refine Ab (q2) ?_|refine Ab (q3) ?_|refine Ac ?_|refine Au ?_|refine Sz.s ?_|fail)
       all_goals exact⟨i+1,⟨by omega,by rw[hS],by rw[wi];omega,by rw[hpt];omega⟩,by omega,⟨by rw[wi],by rw[hpt],rfl⟩,by rw[hse],by rw[hS]⟩
     ·rw[Zac qc]at hS;by_cases qe:(l.getD i default).kind=2
      ·rw[Zaa qe]at hS;rw[N1,Zac qc]at hse;cases hev:L1 (l.getD i default).erasure
       ·rw[hev]at q4;rw[Zaa hev]at hS;have hz:(A6 l l.length).2=1:=by grind
        rw[hz]
        (repeat' first|exact Ao _|simp(disch:=omega)only[go_sem,simprocAttr,BV ja,AN,qz,Za9 qc,Za8 qe]|refine' Av (fun hq=>?_) (fun f=>?_)<;>try(have jd:=hq;try simp only[HB]at jd)|refine Sx.s ?_ ?_<;>try(intro h;have h':=h;try simp only[HB]at h';try rewrite [h];try simp only[h])|refine Ab (q1) ?_|refine Ab (q2) ?_|refine Ab (q4) ?_|refine Ac ?_|refine Au ?_|refine Sz.s ?_|fail)
        all_goals exact⟨i+1,⟨by omega,by rw[hS],by rw[wi];omega,by rw[hpt];omega⟩,by omega,⟨by rw[wi],by rw[hpt],rfl⟩,by rw[hse],by rw[hS]⟩
       ·rw[hev]at q4;rw[Zac (by rw[hev];simp)]at hS
        (repeat' first|exact Ao _|simp(disch:=omega)only[go_sem,simprocAttr,BV ja,AN,qz,Za9 qc,Za8 qe]|refine' Av (fun hq=>?_) (fun f=>?_)<;>try(have jd:=hq;try simp only[HB]at jd)|refine Sx.s ?_ ?_<;>try(intro h;have h':=h;try simp only[HB]at h';try rewrite [h];try simp only[h])|refine Ab (q1) ?_|refine Ab (q2) ?_|refine Ab (q4) ?_|refine Ac ?_|refine Au ?_|fail)
        all_goals exact⟨i+1,⟨by omega,by rw[hS],by rw[wi];omega,by rw[hpt];omega⟩,by omega,⟨by rw[wi],by rw[hpt],rfl⟩,by rw[hse],by rw[hS]⟩
      ·rw[Zac qe]at hS;have qf:(l.getD i default).kind=3:=by grind[FM]
       have hA':=hA' qf;rw[Bw]at hA';rw[N1,Zac qc]at hse;generalize Cu c (l.getD i default).change=r at hS hA';obtain⟨d,e⟩:=r;simp only[KK]at hA';by_cases he:e=0
       ·subst he
        (repeat' first|exact Ao _|simp(disch:=omega)only[go_sem,simprocAttr,BV ja,AN,qz,Za9 qc,Za9 qe,Za8 qf,Zaj,Za3,Za2,Za1]|refine' Av (fun hq=>?_) (fun f=>?_)<;>try(have jd:=hq;try simp only[HB]at jd)|refine Sx.s ?_ ?_<;>try(intro h;have h':=h;try simp only[HB]at h';try rewrite [h];try simp only[h])|refine Ab (q1) ?_|refine Ab (q2) ?_|refine Ab (hA') ?_|refine Ac ?_|refine Au ?_|fail)
        all_goals exact⟨i+1,⟨by omega,by rw[hS],by rw[wi];omega,by rw[hpt];omega⟩,by omega,⟨by rw[wi],by rw[hpt],rfl⟩,by rw[hse],by rw[hS]⟩
       ·have hz:(A6 l l.length).2=e:=by rw[herr (by rw[hS];exact he) l.length (by omega),hS]
        rw[hz]
        (repeat' first|exact Ao _|simp(disch:=omega)only[go_sem,simprocAttr,BV ja,AN,qz,Za9 qc,Za9 qe,Za8 qf,Zaj,Za9 he,Zat,Za2,Za1]|refine' Av (fun hq=>?_) (fun f=>?_)<;>try(have jd:=hq;try simp only[HB]at jd)|refine Sx.s ?_ ?_<;>try(intro h;have h':=h;try simp only[HB]at h';try rewrite [h];try simp only[h])|refine Ab (q1) ?_|refine Ab (q2) ?_|refine Ab (hA') ?_|refine Ac ?_|refine Au ?_|refine Sz.s ?_|fail)
        all_goals exact⟨i+1,⟨by omega,by rw[hS],by rw[wi];omega,by rw[hpt];omega⟩,by omega,⟨by rw[wi],by rw[hpt],rfl⟩,by rw[hse],by rw[hS]⟩
   ·rw[ho]at qz;rw[ho,Zaa rfl]at hS;have hz:(A6 l l.length).2=150:=by grind
    rw[hz]
    (repeat' first|exact Ao _|simp(disch:=omega)only[go_sem,simprocAttr,BV ja,AN,qz]|refine' Av (fun hq=>?_) (fun f=>?_)<;>try(have jd:=hq;try simp only[HB]at jd)|refine Ab (q1) ?_|refine Ac ?_|refine Sz.s ?_|fail)
  ·have e:i=l.length:=by omega
   subst e;rw[jb]
   (repeat' first|simp(disch:=omega)only[go_sem,simprocAttr,Hi ja]|refine Ac ?_|refine Sz.s ?_|fail)
end
end Go.Proofs.YtojgbkiejjingaaGreatDoor
