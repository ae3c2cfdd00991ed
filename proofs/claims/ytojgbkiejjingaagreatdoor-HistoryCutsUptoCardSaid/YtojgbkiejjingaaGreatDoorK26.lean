/-
  Lemmas, no statement.
-/
import Derived.Test.YtojgbkiejjingaaGreatDoorK25
set_option linter.all false
namespace Go.Dl
open Go Go.RowKit
variable{st s t:St}{nm d0:Nat}{b:Blk}{N:List Nat}{g:GI}{p:Option (Nat×D)}{ins:Ins}
def FX(p:Option (Nat×D))(v st:St):Prop:=(∀i,Af v.env i=BF p (Af st.env) i)/\∀m,Ac v.sto m=Ac st.sto m
theorem Up{c:Cp}(h:nm∉c.nms):YN nm b c=c:=by
 cases c with
 |ref r=>simp only[YN];cases r<;>simp only[Cp.nms,List.mem_singleton,Ref.nm]at h<;>simp[Sj,Ref.nm,Ne.symm h]
 |_=>rfl
theorem Uq{l:List Cp}(h:nm∉l.flatMap Cp.nms):l.map (YN nm b)=l:=by
 conv=>rhs;rw[<-List.map_id l]
 exact List.map_congr_left fun c hc=>Up fun hn=>h (List.mem_flatMap.2 ⟨c,hc,hn⟩)
theorem Ml{d:D}(h:nm∉d.nms):Pp nm b d=d:=by
 cases d with
 |ref r=>simp only[D.nms,List.mem_singleton]at h;simp[Pp,Sj,Ne.symm h,Cp.toD]
 |fn f x y=>grind[D.nms,Pp,Uq]
 |tup cs=>simp only[Pp];rw[Uq h]
 |_=>rfl
theorem Ur{l:List D}(h:nm∉l.flatMap D.nms):l.map (Pp nm b)=l:=by
 conv=>rhs;rw[<-List.map_id l]
 exact List.map_congr_left fun c hc=>Ml fun hn=>h (List.mem_flatMap.2 ⟨c,hc,hn⟩)
theorem Qg{x:Blk}(h:nm∉x.nms):YO nm b x=x:=by
 cases x with
 |cells l=>simp only[YO];rw[Ur h]
 |lp l q cs=>simp only[YO];rw[Ur h]
 |gmap ls clk es=>
  simp only[YO];congr 1
  conv=>rhs;rw[<-List.map_id es]
  exact List.map_congr_left fun e he=>by rw[Ml (fun hn=>h (List.mem_flatMap.2 ⟨e,he,hn⟩))];rfl
 |_=>rfl
theorem Us{N:List Nat}{st:St}:∀{l:List Nat},HA N st l↔∀m∈l,m∉N/\IV (Ac st.sto m)
 |[]=>by simp[HA]
 |m::r=>by simp only[HA,Us (l:=r),List.forall_mem_cons];simp
theorem N4{N:List Nat}{st:St}:∀{us:List Nat},De N st us↔∀u∈us,∀m∈(Af st.env u).nms,m∉N/\IV (Ac st.sto m)
 |[]=>by simp[De]
 |u::r=>by simp only[De,N4 (us:=r),Us,List.forall_mem_cons]
section
variable {P:Program}{GL:List (Nat×List I)}{sn:List Nat}
theorem Qh{v:St}(h:FX p v st){o:O}(hd:∀d x,p=some (d,x)->d∉EH o):AL GL v o=AL GL st o:=by
 cases o<;>simp only[AL];rename_i n;rw[h.1];cases p with
 |none=>rfl
 |some q=>obtain⟨d,x⟩:=q;simp only[BF];rw[if_neg];intro e;exact hd d x rfl (by simp[EH,e])
def Fc:List (Nat×Blk)->D->D
 |[],x=>x
 |(nm,b)::r,x=>Fc r (Pp nm b x)
def KP:List (Nat×Blk)->Cp->Cp
 |[],x=>x
 |(nm,b)::r,x=>KP r (YN nm b x)
theorem Ut:∀(l:List (Nat×Blk)) {x:D},(∀q∈l,q.1∉x.nms)->Fc l x=x
 |[],_,_=>rfl
 |(nm,b)::r,x,h=>by have e:Pp nm b x=x:=Ml (h (nm,b) List.mem_cons_self);simp only[Fc,e];exact Ut r fun q hq=>h q (List.mem_cons_of_mem _ hq)
theorem Uu:∀(l:List (Nat×Blk)) {x:Cp},(∀q∈l,q.1∉x.nms)->KP l x=x
 |[],_,_=>rfl
 |(nm,b)::r,x,h=>by have e:YN nm b x=x:=Up (h (nm,b) List.mem_cons_self);simp only[KP,e];exact Uu r fun q hq=>h q (List.mem_cons_of_mem _ hq)
theorem Uv:∀(l:List (Nat×Blk)) (x:I),Fc l (.i x)=.i x
 |[],_=>rfl
 |(nm,b)::r,x=>Uv r x
theorem Uw:∀(l:List (Nat×Blk)) (cs:List Cp),Fc l (.tup cs)=.tup (cs.map (KP l))
 |[],cs=>by simp[KP,Fc]
 |(nm,b)::r,cs=>by simp only[Fc,Pp,Uw r];rw[List.map_map];rfl
def KQ(N:List Nat)(d:Nat)(st s':St):Prop:=(∃l:List (Nat×Blk),(∀q∈l,q.1∈N)/\∀u,d≠u->Af s'.env u=Fc l (Af st.env u))/\∀m b,Ac st.sto m=some b->m∉N->b.nms=[]->Ac s'.sto m=some b
theorem KQ.out{d:Nat}{s':St}(h:KQ N d st s')(u:Nat)(hu:d≠u)(hn:∀m∈(Af st.env u).nms,m∉N):Af s'.env u=Af st.env u:=by obtain⟨⟨l,h1,h2⟩,_⟩:=h;grind[Ut]
theorem Qi{p:Option (Nat×D)}:∀(l:List Nat) {v st:St},FX p v st->(∀d x,p=some (d,x)->∀m∈x.nms,m∉l)->FX p (frzNs l v) (frzNs l st)
 |[],v,st,hs,_=>hs
 |nm::l,v,st,hs,h=>by
  simp only[frzNs];refine Qi l ?_ fun d x e m hm hl=>h d x e m hm (List.mem_cons_of_mem _ hl)
  unfold St.frzN;rw[hs.2 nm];split
  ·split
   ·refine⟨fun i=>?_,fun m=>?_⟩
    ·simp only[St.frz,Af,hs.1];cases p with
     |none=>rfl
     |some q=>grind[BF,Ml]
    ·simp only[St.frz,Ij,FF,hs.2]
   ·exact hs
  ·exact hs
theorem Qj:∀(l:List Nat) (st:St),(∃L:List (Nat×Blk),(∀q∈L,q.1∈l)/\∀u,Af (frzNs l st).env u=Fc L (Af st.env u))/\∀m b,Ac st.sto m=some b->m∉l->b.nms=[]->Ac (frzNs l st).sto m=some b
 |[],st=>⟨⟨[],by simp,fun _=>rfl⟩,fun _ _ h _ _=>h⟩
 |nm::l,st=>by
  simp only[frzNs];obtain⟨⟨L,h0,h1⟩,h2⟩:=Qj l (st.frzN nm);have k2:∀m b,Ac st.sto m=some b->m≠nm->b.nms=[]->Ac (st.frzN nm).sto m=some b:=fun m b hm jh hb=>by
   unfold St.frzN;split
   ·split
    ·simp_all[St.frz,Ij,FF,Qg]
    ·exact hm
   ·exact hm
  refine⟨?_,fun m b hm hn hb=>h2 m b (k2 m b hm (fun e=>hn (e▸List.mem_cons_self)) hb) (fun hl=>hn (List.mem_cons_of_mem _ hl)) hb⟩;have k0:(∃b,∀u,Af (st.frzN nm).env u=Pp nm b (Af st.env u))\/∀u,Af (st.frzN nm).env u=Af st.env u:=by
   unfold St.frzN;split
   ·rename_i b _;split
    ·exact .inl ⟨b,fun u=>rfl⟩
    all_goals grind
   all_goals grind
  rcases k0 with⟨b,k0⟩|k0
  ·refine⟨(nm,b)::L,fun q hq=>?_,fun u=>by rw[h1,k0];rfl⟩;grind
  ·exact⟨L,fun q hq=>List.mem_cons_of_mem _ (h0 q hq),fun u=>by rw[h1,k0]⟩
theorem N5{os:List O}(ho:∀o∈os,AL GL s o=AL GL t o)(hs:∀m,Ac s.sto m=Ac t.sto m):oN GL s os=oN GL t os:=by
 have e:(os.flatMap fun o=>(AL GL s o).nms)=os.flatMap fun o=>(AL GL t o).nms:=by rw[List.flatMap_def,List.flatMap_def];exact congrArg List.flatten (List.map_congr_left fun o h=>by rw[ho o h])
 grind[oN,DW]
theorem Ux{v st0:St}{os:List O}{get:St->Option (FuncId×List D)}{K:St->Prop}(hs:FX p v st)(hp:∀d x,p=some (d,x)->d0≠d)(he:∀o∈os,AL GL v o=AL GL st o)(hg:get v=get st)
  (hk:(∃L:List (Nat×Blk),(∀q∈L,q.1∈N)/\∀u,Af st.env u=Fc L (Af st0.env u))/\∀m b,Ac st0.sto m=some b->m∉N->b.nms=[]->Ac st.sto m=some b)(h:IK P GL get os (some d0) v K):
  IK P GL get os (some d0) st (fun s'=>(∃q,K q/\FX p q s')/\KQ N d0 st0 s'):=by
 unfold IK at h⊢;rw[<-hg];split at h
 ·rename_i q _;obtain⟨h1,y,h2,h3⟩:=h;refine⟨?_,y,h2,⟨_,h3,fun i=>?_,hs.2⟩,⟨hk.1.choose,hk.1.choose_spec.1,fun u hu=>?_⟩,hk.2⟩
  ·rw[List.all_eq_true]at h1⊢;exact fun o ho=>by grind
  ·simp only[putO,St.put,Af];cases p with
   |none=>simp only[BF,hs.1]
   |some q=>
    obtain⟨d,x⟩:=q;have jh:=hp d x rfl;simp only[BF,hs.1];by_cases h4:d=i
    ·subst h4;rw[if_neg jh,if_pos rfl,if_pos rfl]
    ·rw[if_neg h4,if_neg h4]
  ·simp only[putO,St.put,Af,if_neg hu];exact hk.1.choose_spec.2 u
 ·exact h.elim
theorem frame(hc:Hz ins=true)(qg:ins.dst=some d0){p:Option (Nat×D)}{v st:St}{K:St->Prop}(hs:FX p v st)(hp:∀d x,p=some (d,x)->(∀m∈x.nms,m∉YL GL ins st)/\(∀o∈Cd ins,d∉EH o)/\d0≠d)
  (h:step P GL ins v K):step P GL ins st (fun s'=>(∃q,K q/\FX p q s')/\KQ (YL GL ins st) d0 st s'):=by
 have xg:∀o∈Cd ins,AL GL v o=AL GL st o:=fun o ho=>Qh hs fun d x e=>(hp d x e).2.1 o ho
 have kp:Ac v.sto=Ac st.sto:=funext hs.2;have inN:(YL GL ins st=(Cd ins).flatMap fun o=>(AL GL st o).nms)->∀{o:O} {nm:Nat},o∈Cd ins->nm∈(AL GL st o).nms->nm∈YL GL ins st:=fun e _ _ ho hn=>by grind
 have hN0:∀(ins':Ins),ins=ins'->YL GL ins st=YL GL ins' st:=fun _ e=>by rw[e]
 generalize hN:YL GL ins st=N at hp inN hN0;have fin:∀(x0:D) (f:St->St),(∀s,(f s).env=s.env)->(∀s t:St,(∀m,Ac s.sto m=Ac t.sto m)->∀m,Ac (f s).sto m=Ac (f t).sto m)->(∀m b,Ac st.sto m=some b->m∉N->b.nms=[]->Ac (f st).sto m=some b)->K ((f v).put d0 x0)->(∃q,K q/\FX p q ((f st).put d0 x0))/\KQ N d0 st ((f st).put d0 x0):=fun x0 f hf1 hf2 hf3 hk=>by
  refine⟨⟨_,hk,fun i=>?_,fun m=>hf2 v st hs.2 m⟩,⟨[],by simp,fun u hu=>?_⟩,hf3⟩
  ·simp only[St.put,Af,hf1];cases p with
   |none=>simp only[BF,hs.1]
   |some q=>obtain⟨d,x⟩:=q;have jh:=(hp d x rfl).2.2;simp only[BF,hs.1];grind
  all_goals grind[St.put,Af,Fc]
 have finS:∀(x0:D) (nm:Nat) (bl:Blk),nm∈N->K (((⟨.sb nm (.iter none []) v.env,Pt nm (.iter none []) v.sto⟩:St).setB nm bl).put d0 x0)->(∃q,K q/\FX p q (((⟨.sb nm (.iter none []) st.env,Pt nm (.iter none []) st.sto⟩:St).setB nm bl).put d0 x0))/\KQ N d0 st (((⟨.sb nm (.iter none []) st.env,Pt nm (.iter none []) st.sto⟩:St).setB nm bl).put d0 x0):=fun x0 nm bl jo hk=>by
  refine⟨⟨_,hk,fun i=>?_,fun m=>?_⟩,⟨[(nm,.iter none [])],by simpa using jo,fun u hu=>?_⟩,fun m b hb hm hbn=>?_⟩
  ·simp only[St.put,St.setB,Af];cases p with
   |none=>simp only[BF,hs.1]
   |some q=>obtain⟨d,x⟩:=q;obtain⟨hx,_,jh⟩:=hp d x rfl;simp only[BF,hs.1];grind[Ml]
  ·simp_all[St.put,St.setB,Cl,FF]
  all_goals grind[St.put,St.setB,Af,Fc,Cl,FF,Qg]
 have setK:∀(nm:Nat) (bl:Blk),nm∈N->∀m b,Ac st.sto m=some b->m∉N->b.nms=[]->Ac (st.setB nm bl).sto m=some b:=fun nm bl jo m b hb hm _=>by grind[St.setB,Cl]
 have bindK:∀(nm:Nat) (bl:Blk),Ac st.sto nm=none->∀m b,Ac st.sto m=some b->m∉N->b.nms=[]->Ac (st.bind nm bl).sto m=some b:=fun nm bl hnone m b hb hm _=>by grind[St.bind,Ac]
 cases ins<;>simp only[Hz,Bool.false_eq_true]at hc
 case app d e k b ox oy=>
  obtain rfl:d=d0:=by grind[Ins.dst]
  have e1:=xg ox (by simp[Cd]);have e2:=xg oy (by simp[Cd]);simp only[step,Gu,e1,e2]at h⊢;split at h
  ·rename_i nm k0 lo hi ex;have jo:nm∈N:=inN hN.symm (o:=ox) (by simp[Cd]) (by rw[ex];simp[D.nms,Ref.nm]);simp only[kp]at h;unfold Hr at h⊢;split at h
   ·rename_i e' k' rs hg;split at h
    ·rename_i ys hy;obtain⟨a1,a2,a3,a4,a5,a6,a7,a8⟩:=h;refine⟨a1,a2,a3,a4,a5,a6,fun q=>?_,fun q=>?_⟩
     ·exact fin _ (fun s=>s.setB nm _) (fun s=>rfl) (fun s t jk m=>by simp only[St.setB,Cl,jk]) (setK nm _ jo) (a7 q)
     ·obtain⟨as,b1,b2,b3,b4,b5,b6⟩:=a8 q;exact⟨as,b1,b2,b3,b4,b5,fun c=>fin _ (fun s=>s.bind d _) (fun s=>rfl) (fun s t jk m=>by simp only[St.bind,Ac,jk]) (bindK d _ b5) (b6 c)⟩
    ·exact h.elim
   ·split at h
    ·unfold Iv at h⊢;split at h
     ·obtain⟨a1,a2,a3,a4,a5,a6,a7,a8,a9,a10⟩:=h;exact⟨a1,a2,a3,a4,a5,a6,a7,a8,a9,finS _ _ _ jo a10⟩
     ·exact h.elim
    ·exact h.elim
  ·exact h.elim
 case bsl d e k ps=>
  obtain rfl:d=d0:=by grind[Ins.dst]
  cases ps with
  |cons a l=>
   have e1:∀o∈a::l,AL GL v o=AL GL st o:=fun o ho=>xg o (by simpa[Cd]using ho)
   have e2:((a::l).map fun o=>cellsI (FB (AL GL v o)))=(a::l).map fun o=>cellsI (FB (AL GL st o)):=List.map_congr_left fun o ho=>by rw[e1 o ho]
   have e3:((a::l).all fun o=>G5 (AL GL v o)&&((cellsI (FB (AL GL v o))).length==k)&&(cellsI (FB (AL GL v o))).all I.one)=(a::l).all fun o=>G5 (AL GL st o)&&((cellsI (FB (AL GL st o))).length==k)&&(cellsI (FB (AL GL st o))).all I.one:=by grind
   simp only[step]at h⊢;rw[e2,e3]at h;exact⟨h.1,fin _ (fun s=>s) (fun s=>rfl) (fun s t jk m=>jk m) (fun m b hb _ _=>hb) h.2⟩
  |nil=>
   simp only[step,kp]at h⊢;unfold step.nilsE' at h⊢;split at h
   ·rename_i hnone;exact fin _ (fun s=>s.bind d _) (fun s=>rfl) (fun s t jk m=>by simp only[St.bind,Ac,jk]) (bindK d _ hnone) h
   ·exact h.elim
 case callf d f args=>
  obtain rfl:d=some d0:=by grind[Ins.dst]
  have e1:∀o∈args,AL GL v o=AL GL st o:=fun o ho=>xg o (by simpa[Cd]using ho)
  have e2:oN GL v args=oN GL st args:=N5 e1 hs.2;have hN':N=oN GL st args:=hN.symm;simp only[step,Dt,e2]at h⊢;rw[<-hN']at h⊢;have hs1:=Qi N hs fun d x e m hm=>(hp d x e).1 m hm
  have e3:∀o∈args,AL GL (frzNs N v) o=AL GL (frzNs N st) o:=fun o ho=>Qh hs1 fun d x e=>(hp d x e).2.1 o (by simpa[Cd]using ho)
  refine Ux hs1 (fun d x e=>(hp d x e).2.2) e3 ?_ (Qj N st) h;simp only[DX,List.map_congr_left e3]
 case callvf d fo args=>
  obtain rfl:d=some d0:=by grind[Ins.dst]
  have e1:∀o∈fo::args,AL GL v o=AL GL st o:=fun o ho=>xg o (by simpa[Cd]using ho)
  have e2:oN GL v (fo::args)=oN GL st (fo::args):=N5 e1 hs.2;have hN':N=oN GL st (fo::args):=hN.symm;simp only[step,Dt,e2]at h⊢;rw[<-hN']at h⊢;have hs1:=Qi N hs fun d x e m hm=>(hp d x e).1 m hm
  have e3:∀o∈fo::args,AL GL (frzNs N v) o=AL GL (frzNs N st) o:=fun o ho=>Qh hs1 fun d x e=>(hp d x e).2.1 o (by simpa[Cd]using ho)
  refine Ux hs1 (fun d x e=>(hp d x e).2.2) e3 ?_ (Qj N st) h;simp only[Dr,e3 fo (by simp),List.map_congr_left fun o ho=>e3 o (List.mem_cons_of_mem _ ho)]
 case callo d f args=>
  obtain rfl:d=d0:=by grind[Ins.dst]
  have e1:args.map (AL GL v)=args.map (AL GL st):=List.map_congr_left fun o ho=>xg o (by simpa[Cd]using ho)
  simp only[step,NB,e1]at h⊢;obtain⟨h1,R,h2,h3⟩:=h;refine⟨h1,R,h2,fun r sto' hr=>?_⟩;obtain⟨q1,q2⟩:=h3 r sto' hr;refine⟨fun nm hm=>by rw[<-kp];exact q1 nm hm,?_⟩;refine fin _ (fun s=>⟨s.env,AY d sto'++s.sto⟩) (fun s=>rfl) (fun s t jk m=>by simp only[Il,jk]) (fun m b hb hm hbn=>?_) q2;simp only[Il];cases hg:Ac (AY d sto') m with
  |none=>exact hb
  |some x=>have jr:m∈(AY d sto').map (·.1):=BX.2 (by simp only[names,hg];rfl);have:=(q1 m jr).1;rw[kp,hb]at this;cases this
 case ment d ox ok z ls e k=>
  obtain rfl:d=d0:=by grind[Ins.dst]
  have e1:=xg ox (by simp[Cd]);have e2:=xg ok (by simp[Cd]);simp only[step,Hm,e1,e2]at h⊢;split at h
  ·rename_i nm q ex _;have jo:nm∈N:=inN hN.symm (o:=ox) (by simp[Cd]) (by rw[ex];simp[D.nms,Ref.nm]);obtain⟨h1,h⟩:=h;refine⟨h1,?_⟩;simp only[kp]at h;unfold Hl at h⊢;split at h
   ·obtain⟨h2,h⟩:=h;refine⟨h2,?_⟩;split at h
    ·unfold Hk at h⊢;split at h
     ·split at h
      ·exact fin _ (fun s=>s.setB _ _) (fun s=>rfl) (fun s t jk m=>by simp only[St.setB,Cl,jk]) (setK nm _ jo) h
      ·exact h.elim
     ·exact h.elim
    ·unfold Hj at h⊢;simp only[kp]at h;generalize hfr:Ac st.sto (Aq d _)=fr at h⊢;cases z<;>try exact h.elim
     rename_i rows;cases rows with
     |cons _ _=>exact h.elim
     |nil=>cases fr with
      |some _=>exact h.elim
      |none=>exact fin _ (fun s=>(s.bind _ _).setB _ _) (fun s=>rfl) (fun s t jk m=>by simp only[St.setB,St.bind,Cl,Ac,jk]) (fun m b hb hm hbn=>by
        have h1:=bindK _ (.rows e k []) hfr m b hb hm hbn;have jh:m≠nm:=fun e=>hm (e▸jo)
        simp only[St.setB,Cl,if_neg jh];exact h1) h
   ·exact h.elim
  ·exact h.elim
theorem N6{g:X}(h:JM g.1.ins=true):YV GL g st=none:=by
 unfold YV;split
 ·unfold rh;grind[JM]
 ·rfl
structure Late(us:List Nat)(g:GI)(l:List X):Prop where
 pure:∀b∈l,JM b.1.ins=true
 uses:∀b∈l,∀u∈Fb b.1,u∈us
 dst:∀b∈l,∀d,b.1.ins.dst=some d->d∈us/\d∉Co b.1/\(∀o∈Cd g.ins,d∉EH o)/\d∉Gz g
 own:∀d,g.ins.dst=some d->d∉us
 own2:∀b∈l,∀d,g.ins.dst=some d->d∉Co b.1
 ord:l.Pairwise fun b c=>∀d,c.1.ins.dst=some d->d∉Co b.1/\b.1.ins.dst≠some d
theorem Uy(ho:∀o∈Cd ins,AL GL s o=AL GL t o)(hs:∀m,Ac s.sto m=Ac t.sto m):YL GL ins s=YL GL ins t:=by
 unfold YL;split
 ·exact N5 (by simpa[Cd]using ho) hs
 ·exact N5 (by simpa[Cd]using ho) hs
 ·rw[List.flatMap_def,List.flatMap_def];exact congrArg List.flatten (List.map_congr_left fun o h=>by rw[ho o h])
theorem bm(hs:LI s t):YL GL ins s=YL GL ins t:=Uy (fun o _=>by rw[P4 hs]) hs.2
theorem bn{us:List Nat}(h:De N s us)(hs:LI s t):De N t us:=N4.2 fun u hu m hm=>by rw[<-hs.1]at hm;rw[<-hs.2];exact N4.1 h u hu m hm
theorem Uz:∀(l:List X) {st:St} {R:St->Prop},(∀b∈l,JM b.1.ins=true)->C2 P GL sn l st R->∃e,R e/\(∀u,(∀b∈l,b.1.ins.dst≠some u)->Af e.env u=Af st.env u)/\∀m,Ac e.sto m=Ac st.sto m
 |[],st,R,_,h=>⟨st,h,fun _ _=>rfl,fun _=>rfl⟩
 |b::l,st,R,hp,h=>by
  obtain⟨e,h1,h2,h3⟩:=Uz l (fun c hc=>hp c (List.mem_cons_of_mem _ hc)) h.2;have hg:=EI h.1;refine⟨e,h1,fun u hu=>?_,fun m=>?_⟩
  ·rw[h2 u fun c hc=>hu c (List.mem_cons_of_mem _ hc),hg.1];cases hq:B5 GL b st with
   |none=>rfl
   |some q=>obtain⟨d,x⟩:=q;have:=IQ h.1 hq;grind[BF]
  ·rw[h3,hg.2,N6 (hp b List.mem_cons_self)];rfl
def Mm(P:Program)(GL:List (Nat×List I))(us:List Nat)(g:GI)(v:St)(T:St->Prop):Prop:=match AS g.gd v with
 |some true=>De (YL GL g.ins v) v us/\step P GL g.ins v T
 |some false=>T (Bg g.ins v)
 |none=>False
def IY(P:Program)(GL:List (Nat×List I))(g:GI)(v:St)(T:St->Prop):Prop:=match AS g.gd v with
 |some true=>step P GL g.ins v T
 |some false=>T (Bg g.ins v)
 |none=>False
theorem N7(h:∀q∈Gz g,Af s.env q=Af t.env q):AS g.gd s=AS g.gd t:=by grind[AS,Gz]
theorem Qk{i:Nat}(h:i∈Gz g):i∈Co g:=by grind[Gz,Co]
theorem Ql{i:Nat}(h:i∈Fb g):i∈Co g:=by grind[Fb,Qk]
theorem UA{i:Nat}(h:i∈Gz g):i∈Fb g:=by grind[Fb,Qk]
theorem past{us:List Nat}{g:GI}{d0:Nat}(hc:Hz g.ins=true)(hd0:g.ins.dst=some d0){T:St->Prop}:∀(l:List X) (st:St),Late us g l->
  C2 P GL sn l st (fun s=>∃v,LI v s/\Mm P GL us g v T)->∃v,LI v st/\IY P GL g v (fun s'=>C2 P GL sn l s' fun s=>∃q,LI q s/\T q)
 |[],st,hl,h=>by
  obtain⟨v,hv,h⟩:=h;refine⟨v,hv,?_⟩;unfold Mm at h;unfold IY;split at h
  ·rename_i e;exact En h.2 fun s' wu=>⟨s',LI.refl _,wu⟩
  ·exact⟨_,LI.refl _,h⟩
  ·exact h.elim
 |b::l,st,hl,h=>by
  obtain⟨hp,hr⟩:=h;have hl':Late us g l:=⟨fun c hc=>hl.pure c (List.mem_cons_of_mem _ hc),fun c hc=>hl.uses c (List.mem_cons_of_mem _ hc),fun c hc=>hl.dst c (List.mem_cons_of_mem _ hc),hl.own,fun c hc=>hl.own2 c (List.mem_cons_of_mem _ hc),(List.pairwise_cons.1 hl.ord).2⟩;obtain⟨e,⟨v0,hv0,hg0⟩,wv,kp⟩:=Uz l (fun c hc=>hl'.pure c hc) hr;obtain⟨v,hv,hs⟩:=past hc hd0 l (A3 GL b st) hl' hr;have hbu:=hl.uses b List.mem_cons_self;have xb:=hl.dst b List.mem_cons_self;have qv:=(List.pairwise_cons.1 hl.ord).1;have jp:∀u,Af (A3 GL b st).env u=BF (B5 GL b st) (Af st.env) u:=(EI hp).1;have hwr:=N6 (GL:=GL) (g:=b) (st:=st) (hl.pure b List.mem_cons_self);have hsto0:∀m,Ac e.sto m=Ac st.sto m:=fun m=>by rw[kp,(EI hp).2,hwr];rfl
  have hSP:FX (B5 GL b st) v st:=⟨fun i=>by rw[hv.1,jp],fun m=>by rw[hv.2,(EI hp).2,hwr];rfl⟩;have keepb:∀q,(∀d,b.1.ins.dst=some d->d≠q)->Af (A3 GL b st).env q=Af st.env q:=fun q hq=>by
   rw[jp];cases hz:B5 GL b st with
   |none=>rfl
   |some z=>obtain⟨d,x⟩:=z;simp only[BF];rw[if_neg (hq d (IQ hp hz))]
  have hg1:AS g.gd v=AS g.gd st:=N7 fun q hq=>by rw[hv.1,keepb q fun d hd e=>(xb d hd).2.2.2 (e▸hq)]
  have hg2:AS g.gd v0=AS g.gd st:=N7 fun q hq=>by rw[hv0.1,wv q fun c hc hcd=>(hl'.dst c hc q hcd).2.2.2 hq,keepb q fun d hd e=>(xb d hd).2.2.2 (e▸hq)]
  have fin:∀(s' q:St),(∀i∈Gz b.1,Af st.env i=Af s'.env i)->(AS b.1.gd st=some true->Bz P GL sn b s'/\B5 GL b s'=B5 GL b st)->C2 P GL sn l q (fun s=>∃q,LI q s/\T q)->FX (B5 GL b st) q s'->
    C2 P GL sn (b::l) s' (fun s=>∃q,LI q s/\T q):=fun s' q wm hloc hq hqs=>by
   by_cases ki:AS b.1.gd st=some true
   ·obtain⟨l1,l2⟩:=hloc ki;have l3:YV GL b s'=none:=N6 (hl.pure b List.mem_cons_self);refine⟨l1,?_⟩;have hsim:LI q (A3 GL b s'):=⟨fun i=>by rw[(EI l1).1,l2,hqs.1],fun m=>by rw[(EI l1).2,l3,hqs.2];rfl⟩;refine Ek l ?_ (NS l hsim hq);rintro u ⟨w,⟨q2,hq2,hq3⟩,hw2⟩;exact⟨q2,hq2.trans hw2,hq3⟩
   ·
    have vh:AS b.1.gd s'=AS b.1.gd st:=(N7 wm).symm;have hps:Bz P GL sn b s':=by
     unfold Bz at hp⊢;rw[vh];split at hp
     ·exact hp.elim
     ·rename_i h;exact absurd h ki
     ·rename_i h;simp only[]
    have hpp:B5 GL b s'=B5 GL b st:=by
     unfold B5;rw[vh];split
     ·rename_i h;exact absurd h ki
     ·split<;>simp_all
    have hww:YV GL b s'=none:=N6 (hl.pure b List.mem_cons_self);refine⟨hps,?_⟩;have hsim:LI q (A3 GL b s'):=⟨fun i=>by rw[(EI hps).1,hpp,hqs.1],fun m=>by rw[(EI hps).2,hww,hqs.2];rfl⟩;refine Ek l ?_ (NS l hsim hq);rintro u ⟨w,⟨q2,hq2,hq3⟩,hw2⟩;exact⟨q2,hq2.trans hw2,hq3⟩
  cases hgq:AS g.gd st with
  |none=>unfold IY at hs;rw[hg1,hgq]at hs;exact hs.elim
  |some wt=>
   cases wt with
   |false=>
    unfold IY at hs;rw[hg1,hgq]at hs;have e1:∀s:St,Bg g.ins s=s.put d0 (.i .undef):=fun s=>by unfold Bg;rw[hd0]
    simp only[e1]at hs;refine⟨st,LI.refl _,?_⟩;unfold IY;rw[hgq];simp only[e1];have same:∀i∈Co b.1,Af st.env i=Af (st.put d0 (.i .undef)).env i:=fun i hi=>by simp only[St.put,Af];rw[if_neg fun e:d0=i=>hl.own2 b List.mem_cons_self d0 hd0 (e▸hi)]
    refine fin _ _ (fun i hi=>same i (Qk hi)) (fun _=>?_) hs ⟨fun i=>?_,hSP.2⟩
    ·obtain⟨l1,l2,_⟩:=NT (t:=st.put d0 (.i .undef)) same (fun o ho nm hn _ _=>rfl) (fun d zs e _ _=>by have:=hl.pure b List.mem_cons_self;rw[e]at this;simp[JM]at this) hp;exact⟨l1,l2⟩
    ·simp only[St.put,Af,hSP.1];cases hz:B5 GL b st with
     |none=>rfl
     |some z=>
      obtain⟨d,x⟩:=z;have jh:d0≠d:=fun e=>hl.own d0 hd0 (e▸(xb d (IQ hp hz)).1)
      simp only[BF];by_cases h1:d=i
      ·subst h1;rw[if_neg jh,if_pos rfl,if_pos rfl]
      ·rw[if_neg h1,if_neg h1]
   |true=>
    unfold IY at hs;rw[hg1,hgq]at hs;unfold Mm at hg0;rw[hg2,hgq]at hg0;have he:=N4.1 (bn hg0.1 hv0);rw[bm hv0]at he;have hN:YL GL g.ins e=YL GL g.ins st:=Uy (fun o ho=>by cases o<;>simp only[AL];rename_i q;rw[wv q fun c hc hcd=>(hl'.dst c hc q hcd).2.2.1 _ ho (by simp[EH]),keepb q fun d hd e=>(xb d hd).2.2.1 _ ho (by simp[EH,e])]) hsto0
    rw[hN]at he;have hdata:∀u∈Fb b.1,∀m∈(Af st.env u).nms,m∉YL GL g.ins st/\IV (Ac st.sto m):=fun u hu m hm=>by have h1:=he u (hbu u hu) m;rw[wv u (fun c hc hcd=>(qv c hc u hcd).1 (Ql hu)),keepb u (fun d hd e=>(xb d hd).2.1 (e▸Ql hu)),hsto0]at h1;exact h1 hm
    have hx:∀d x,B5 GL b st=some (d,x)->(∀m∈x.nms,m∉YL GL g.ins st)/\(∀o∈Cd g.ins,d∉EH o)/\d0≠d:=fun d x hq=>by have hbd':=IQ hp hq;have h1:=he d (xb d hbd').1;rw[wv d (fun c hc hcd=>(qv c hc d hcd).2 hbd'),jp,hq]at h1;simp only[BF,if_pos]at h1;exact⟨fun m hm=>(h1 m hm).1,(xb d hbd').2.2.1,fun e:d0=d=>hl.own d0 hd0 (e▸(xb d hbd').1)⟩
    refine⟨st,LI.refl _,?_⟩;unfold IY;rw[hgq];refine En (frame hc hd0 hSP hx hs) ?_;rintro s' ⟨⟨q,hq,hqs⟩,hk⟩;have wm:∀i∈Fb b.1,Af st.env i=Af s'.env i:=fun i hi=>(hk.out i (fun e:d0=i=>hl.own2 b List.mem_cons_self d0 hd0 (e▸Ql hi)) (fun m hm=>(hdata i hi m hm).1)).symm
    refine fin s' q (fun i hi=>wm i (UA hi)) (fun hgt=>?_) hq hqs;by_cases hext:∃d o i,b.1.ins=.ext d o i
    ·
     obtain⟨d,o,i,he⟩:=hext;have hput1:B5 GL b st=some (d,(pv (AL GL st) (Ac st.sto) (.ext d o i)).1):=by unfold B5;rw[hgt];simp only[Du,he,Bp]
     have hpre:(pv (AL GL st) (Ac st.sto) (.ext d o i)).2:=by unfold Bz at hp;rw[hgt]at hp;simp only[he]at hp;exact hp.2.1
     have jo:=(hx _ _ hput1).1;have key:pv (AL GL s') (Ac s'.sto) (.ext d o i)=pv (AL GL st) (Ac st.sto) (.ext d o i):=by
      cases o with
      |t u=>
       obtain⟨⟨L,hL,hu⟩,_⟩:=hk;have hu:=hu u (fun e:d0=u=>hl.own2 b List.mem_cons_self d0 hd0 (by unfold Co;rw[he];simp[Bm,EH,e]));simp only[pv,AL,hu]at jo⊢;cases hv:Af st.env u with
       |i x=>rw[Uv]
       |tup cs=>
        rw[hv]at jo;rw[Uw];simp only[List.length_map]at jo⊢;have hc:((cs.map (KP L)).getD i .any).toD=(cs.getD i .any).toD:=by
         rw[List.getD_eq_getElem?_getD,List.getD_eq_getElem?_getD,List.getElem?_map];cases hci:cs[i]? with
         |none=>rfl
         |some c=>simp only[Option.map_some,Option.getD_some];rw[List.getD_eq_getElem?_getD,hci]at jo;rw[Uu L fun q hq hm=>jo q.1 (by cases c<;>simp_all[Cp.toD,D.nms,Cp.nms]) (hL q hq)]
        rw[hc]
       |_=>exfalso;simp only[pv,AL,hv]at hpre
      |_=>rfl
     have v6:AS b.1.gd s'=some true:=by rw[<-hgt];exact(N7 fun i hi=>wm i (UA hi)).symm
     constructor
     ·unfold Bz;rw[v6];simp only[he];exact⟨rfl,by rw[key];exact hpre,fun h=>by simp[looks]at h⟩
     ·unfold B5;rw[v6,hgt];simp only[Du,he,Bp,key]
    ·have jh:∀d o i,b.1.ins≠.ext d o i:=fun d o i e=>hext ⟨d,o,i,e⟩
     have eL:Fb b.1=Co b.1:=by
      unfold Fb;split
      ·rename_i e;exact absurd e (jh _ _ _)
      ·rfl
     rw[eL]at wm hdata;obtain⟨l1,l2,_⟩:=NT (t:=s') wm (fun o ho nm hn _ _=>by
      have jo:nm∉YL GL g.ins st/\IV (Ac st.sto nm):=by
       have ho2:=P5 ho;clear ho;cases o with
       |t n=>exact hdata n (by unfold Co;exact List.mem_append.2 (.inr (List.mem_flatMap.2 ⟨_,ho2,by simp[EH]⟩))) nm hn
       |_=>simp[AL,D.nms]at hn
      cases hg:Ac st.sto nm with
      |none=>rw[hg]at jo;exact jo.2.elim
      |some bl=>rw[hg]at jo;exact(hk.2 nm bl hg jo.1 jo.2).symm) (fun d zs e _ _=>by have:=hl.pure b List.mem_cons_self;rw[e]at this;simp[JM]at this) hp
     exact⟨l1,l2⟩
end
end Go.Dl
