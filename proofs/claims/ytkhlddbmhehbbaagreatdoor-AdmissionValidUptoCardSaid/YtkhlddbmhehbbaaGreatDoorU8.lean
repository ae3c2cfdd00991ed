/-Lemmas.-/
import Derived.Test.YtkhlddbmhehbbaaGreatDoorU7
set_option linter.all false
section
namespace Go.Dl
open Go Go.RowKit
variable{st s t:St}{nm d0:Nat}{b:Blk}{N:List Nat}{g:GI}{p:Option (Nat×D)}{ins:Ins}
def HK(p:Option (Nat×D))(v st:St):Prop:=(∀i,Aj v.env i=Ca p (Aj st.env) i)/\∀m,Aa v.sto m=Aa st.sto m
theorem X4{c:Cp}(h:nm∉c.nms):gn nm b c=c:=by
 cases c with
 |ref r=>simp only[gn];cases r<;>simp only[Cp.nms,List.mem_singleton,Ref.nm]at h<;>simp[WD,Ref.nm,Ne.symm h]
 |_=>rfl
theorem X5{l:List Cp}(h:nm∉l.flatMap Cp.nms):l.map (gn nm b)=l:=by
 conv=>rhs;rw[<-List.map_id l]
 exact List.map_congr_left fun c hc=>X4 fun hn=>h (List.mem_flatMap.2 ⟨c,hc,hn⟩)
theorem Pc{d:D}(h:nm∉d.nms):Qq nm b d=d:=by
 cases d with
 |ref r=>simp only[D.nms,List.mem_singleton]at h;simp[Qq,WD,Ne.symm h,Cp.toD]
 |fn f x y=>grind[D.nms,Qq,X5]
 |tup cs=>simp only[Qq];rw[X5 h]
 |_=>rfl
theorem X6{l:List D}(h:nm∉l.flatMap D.nms):l.map (Qq nm b)=l:=by
 conv=>rhs;rw[<-List.map_id l]
 exact List.map_congr_left fun c hc=>Pc fun hn=>h (List.mem_flatMap.2 ⟨c,hc,hn⟩)
theorem TG{x:Blk}(h:nm∉x.nms):gj nm b x=x:=by
 cases x with
 |cells l=>simp only[gj];rw[X6 h]
 |lp l q cs=>simp only[gj];rw[X6 h]
 |gmap ls clk es=>
  simp only[gj];congr 1
  conv=>rhs;rw[<-List.map_id es]
  exact List.map_congr_left fun e he=>by rw[Pc (fun hn=>h (List.mem_flatMap.2 ⟨e,he,hn⟩))];rfl
 |_=>rfl
theorem X7{N:List Nat}{st:St}:∀{l:List Nat},L4 N st l↔∀m∈l,m∉N/\L3 (Aa st.sto m)
 |[]=>by simp[L4]
 |m::r=>by simp only[L4,X7 (l:=r),List.forall_mem_cons];simp
theorem QR{N:List Nat}{st:St}:∀{us:List Nat},Eh N st us↔∀u∈us,∀m∈(Aj st.env u).nms,m∉N/\L3 (Aa st.sto m)
 |[]=>by simp[Eh]
 |u::r=>by simp only[Eh,QR (us:=r),X7,List.forall_mem_cons]
section
variable {P:Program}{GL:List (Nat×List I)}{sn:List Nat}
theorem TH{v:St}(h:HK p v st){o:O}(hd:∀d x,p=some (d,x)->d∉Gt o):A8 GL v o=A8 GL st o:=by
 cases o<;>simp only[A8];rename_i n;rw[h.1];cases p with
 |none=>rfl
 |some q=>obtain⟨d,x⟩:=q;simp only[Ca];rw[if_neg];intro e;exact hd d x rfl (by simp[Gt,e])
def G9:List (Nat×Blk)->D->D
 |[],x=>x
 |(nm,b)::r,x=>G9 r (Qq nm b x)
def Nq:List (Nat×Blk)->Cp->Cp
 |[],x=>x
 |(nm,b)::r,x=>Nq r (gn nm b x)
theorem X8:∀(l:List (Nat×Blk)) {x:D},(∀q∈l,q.1∉x.nms)->G9 l x=x
 |[],_,_=>rfl
 |(nm,b)::r,x,h=>by have e:Qq nm b x=x:=Pc (h (nm,b) List.mem_cons_self);simp only[G9,e];exact X8 r fun q hq=>h q (List.mem_cons_of_mem _ hq)
theorem X9:∀(l:List (Nat×Blk)) {x:Cp},(∀q∈l,q.1∉x.nms)->Nq l x=x
 |[],_,_=>rfl
 |(nm,b)::r,x,h=>by have e:gn nm b x=x:=X4 (h (nm,b) List.mem_cons_self);simp only[Nq,e];exact X9 r fun q hq=>h q (List.mem_cons_of_mem _ hq)
theorem Ya:∀(l:List (Nat×Blk)) (x:I),G9 l (.i x)=.i x
 |[],_=>rfl
 |(nm,b)::r,x=>Ya r x
theorem Yb:∀(l:List (Nat×Blk)) (cs:List Cp),G9 l (.tup cs)=.tup (cs.map (Nq l))
 |[],cs=>by simp[Nq,G9]
 |(nm,b)::r,cs=>by simp only[G9,Qq,Yb r];rw[List.map_map];rfl
def Nr(N:List Nat)(d:Nat)(st s':St):Prop:=(∃l:List (Nat×Blk),(∀q∈l,q.1∈N)/\∀u,d≠u->Aj s'.env u=G9 l (Aj st.env u))/\∀m b,Aa st.sto m=some b->m∉N->b.nms=[]->Aa s'.sto m=some b
theorem Nr.out{d:Nat}{s':St}(h:Nr N d st s')(u:Nat)(hu:d≠u)(hn:∀m∈(Aj st.env u).nms,m∉N):Aj s'.env u=Aj st.env u:=by obtain⟨⟨l,h1,h2⟩,_⟩:=h;grind[X8]
theorem TI{p:Option (Nat×D)}:∀(l:List Nat) {v st:St},HK p v st->(∀d x,p=some (d,x)->∀m∈x.nms,m∉l)->HK p (frzNs l v) (frzNs l st)
 |[],v,st,hs,_=>hs
 |nm::l,v,st,hs,h=>by
  simp only[frzNs];refine TI l ?_ fun d x e m hm hl=>h d x e m hm (List.mem_cons_of_mem _ hl)
  unfold St.frzN;rw[hs.2 nm];split
  ·split
   ·refine⟨fun i=>?_,fun m=>?_⟩
    ·simp only[St.frz,Aj,hs.1];cases p with
     |none=>rfl
     |some q=>grind[Ca,Pc]
    ·simp only[St.frz,Kc,Hz,hs.2]
   ·exact hs
  ·exact hs
theorem TJ:∀(l:List Nat) (st:St),(∃L:List (Nat×Blk),(∀q∈L,q.1∈l)/\∀u,Aj (frzNs l st).env u=G9 L (Aj st.env u))/\∀m b,Aa st.sto m=some b->m∉l->b.nms=[]->Aa (frzNs l st).sto m=some b
 |[],st=>⟨⟨[],by simp,fun _=>rfl⟩,fun _ _ h _ _=>h⟩
 |nm::l,st=>by
  simp only[frzNs];obtain⟨⟨L,h0,h1⟩,h2⟩:=TJ l (st.frzN nm);have k2:∀m b,Aa st.sto m=some b->m≠nm->b.nms=[]->Aa (st.frzN nm).sto m=some b:=fun m b hm ji hb=>by
   unfold St.frzN;split
   ·split
    ·simp_all[St.frz,Kc,Hz,TG]
    ·exact hm
   ·exact hm
  refine⟨?_,fun m b hm hn hb=>h2 m b (k2 m b hm (fun e=>hn (e▸List.mem_cons_self)) hb) (fun hl=>hn (List.mem_cons_of_mem _ hl)) hb⟩;have k0:(∃b,∀u,Aj (st.frzN nm).env u=Qq nm b (Aj st.env u))\/∀u,Aj (st.frzN nm).env u=Aj st.env u:=by
   unfold St.frzN;split
   ·rename_i b _;split
    ·exact .inl ⟨b,fun u=>rfl⟩
    all_goals grind
   all_goals grind
  rcases k0 with⟨b,k0⟩|k0
  ·refine⟨(nm,b)::L,fun q hq=>?_,fun u=>by rw[h1,k0];rfl⟩;grind
  ·exact⟨L,fun q hq=>List.mem_cons_of_mem _ (h0 q hq),fun u=>by rw[h1,k0]⟩
theorem QS{os:List O}(ho:∀o∈os,A8 GL s o=A8 GL t o)(hs:∀m,Aa s.sto m=Aa t.sto m):oN GL s os=oN GL t os:=by
 have e:(os.flatMap fun o=>(A8 GL s o).nms)=os.flatMap fun o=>(A8 GL t o).nms:=by rw[List.flatMap_def,List.flatMap_def];exact congrArg List.flatten (List.map_congr_left fun o h=>by rw[ho o h])
 grind[oN,HC]
theorem Yc{v st0:St}{os:List O}{get:St->Option (FuncId×List D)}{K:St->Prop}(hs:HK p v st)(hp:∀d x,p=some (d,x)->d0≠d)(he:∀o∈os,A8 GL v o=A8 GL st o)(hg:get v=get st)
  (hk:(∃L:List (Nat×Blk),(∀q∈L,q.1∈N)/\∀u,Aj st.env u=G9 L (Aj st0.env u))/\∀m b,Aa st0.sto m=some b->m∉N->b.nms=[]->Aa st.sto m=some b)(h:Ku P GL get os (some d0) v K):
  Ku P GL get os (some d0) st (fun s'=>(∃q,K q/\HK p q s')/\Nr N d0 st0 s'):=by
 unfold Ku at h⊢;rw[<-hg];split at h
 ·rename_i q _;obtain⟨h1,y,h2,h3⟩:=h;refine⟨?_,y,h2,⟨_,h3,fun i=>?_,hs.2⟩,⟨hk.1.choose,hk.1.choose_spec.1,fun u hu=>?_⟩,hk.2⟩
  ·rw[List.all_eq_true]at h1⊢;exact fun o ho=>by grind
  ·simp only[putO,St.put,Aj];cases p with
   |none=>simp only[Ca,hs.1]
   |some q=>
    obtain⟨d,x⟩:=q;have ji:=hp d x rfl;simp only[Ca,hs.1];by_cases h4:d=i
    ·subst h4;rw[if_neg ji,if_pos rfl,if_pos rfl]
    ·rw[if_neg h4,if_neg h4]
  ·simp only[putO,St.put,Aj,if_neg hu];exact hk.1.choose_spec.2 u
 ·exact h.elim
theorem frame(hc:KD ins=true)(hdst:ins.dst=some d0){p:Option (Nat×D)}{v st:St}{K:St->Prop}(hs:HK p v st)(hp:∀d x,p=some (d,x)->(∀m∈x.nms,m∉gc GL ins st)/\(∀o∈CP ins,d∉Gt o)/\d0≠d)
  (h:step P GL ins v K):step P GL ins st (fun s'=>(∃q,K q/\HK p q s')/\Nr (gc GL ins st) d0 st s'):=by
 have wp:∀o∈CP ins,A8 GL v o=A8 GL st o:=fun o ho=>TH hs fun d x e=>(hp d x e).2.1 o ho
 have ki:Aa v.sto=Aa st.sto:=funext hs.2;have inN:(gc GL ins st=(CP ins).flatMap fun o=>(A8 GL st o).nms)->∀{o:O} {nm:Nat},o∈CP ins->nm∈(A8 GL st o).nms->nm∈gc GL ins st:=fun e _ _ ho hn=>by grind
 have hN0:∀(ins':Ins),ins=ins'->gc GL ins st=gc GL ins' st:=fun _ e=>by rw[e]
 generalize hN:gc GL ins st=N at hp inN hN0;have fin:∀(x0:D) (f:St->St),(∀s,(f s).env=s.env)->(∀s t:St,(∀m,Aa s.sto m=Aa t.sto m)->∀m,Aa (f s).sto m=Aa (f t).sto m)->(∀m b,Aa st.sto m=some b->m∉N->b.nms=[]->Aa (f st).sto m=some b)->K ((f v).put d0 x0)->(∃q,K q/\HK p q ((f st).put d0 x0))/\Nr N d0 st ((f st).put d0 x0):=fun x0 f hf1 hf2 hf3 hk=>by
  refine⟨⟨_,hk,fun i=>?_,fun m=>hf2 v st hs.2 m⟩,⟨[],by simp,fun u hu=>?_⟩,hf3⟩
  ·simp only[St.put,Aj,hf1];cases p with
   |none=>simp only[Ca,hs.1]
   |some q=>obtain⟨d,x⟩:=q;have ji:=(hp d x rfl).2.2;simp only[Ca,hs.1];grind
  all_goals grind[St.put,Aj,G9]
 have finS:∀(x0:D) (nm:Nat) (bl:Blk),nm∈N->K (((⟨.sb nm (.iter none []) v.env,SL nm (.iter none []) v.sto⟩:St).setB nm bl).put d0 x0)->(∃q,K q/\HK p q (((⟨.sb nm (.iter none []) st.env,SL nm (.iter none []) st.sto⟩:St).setB nm bl).put d0 x0))/\Nr N d0 st (((⟨.sb nm (.iter none []) st.env,SL nm (.iter none []) st.sto⟩:St).setB nm bl).put d0 x0):=fun x0 nm bl jl hk=>by
  refine⟨⟨_,hk,fun i=>?_,fun m=>?_⟩,⟨[(nm,.iter none [])],by simpa using jl,fun u hu=>?_⟩,fun m b hb hm hbn=>?_⟩
  ·simp only[St.put,St.setB,Aj];cases p with
   |none=>simp only[Ca,hs.1]
   |some q=>obtain⟨d,x⟩:=q;obtain⟨hx,_,ji⟩:=hp d x rfl;simp only[Ca,hs.1];grind[Pc]
  ·simp_all[St.put,St.setB,C3,Hz]
  all_goals grind[St.put,St.setB,Aj,G9,C3,Hz,TG]
 have setK:∀(nm:Nat) (bl:Blk),nm∈N->∀m b,Aa st.sto m=some b->m∉N->b.nms=[]->Aa (st.setB nm bl).sto m=some b:=fun nm bl jl m b hb hm _=>by grind[St.setB,C3]
 have bindK:∀(nm:Nat) (bl:Blk),Aa st.sto nm=none->∀m b,Aa st.sto m=some b->m∉N->b.nms=[]->Aa (st.bind nm bl).sto m=some b:=fun nm bl hnone m b hb hm _=>by grind[St.bind,Aa]
 cases ins<;>simp only[KD,Bool.false_eq_true]at hc
 case app d e k b ox oy=>
  obtain rfl:d=d0:=by grind[Ins.dst]
  have e1:=wp ox (by simp[CP]);have e2:=wp oy (by simp[CP]);simp only[step,Jq,e1,e2]at h⊢;split at h
  ·rename_i nm k0 lo hi ex;have jl:nm∈N:=inN hN.symm (o:=ox) (by simp[CP]) (by rw[ex];simp[D.nms,Ref.nm]);simp only[ki]at h;unfold Ks at h⊢;split at h
   ·rename_i e' k' rs hg;split at h
    ·rename_i ys hy;obtain⟨a1,a2,a3,a4,a5,a6,a7,a8⟩:=h;refine⟨a1,a2,a3,a4,a5,a6,fun q=>?_,fun q=>?_⟩
     ·exact fin _ (fun s=>s.setB nm _) (fun s=>rfl) (fun s t jh m=>by simp only[St.setB,C3,jh]) (setK nm _ jl) (a7 q)
     ·obtain⟨as,b1,b2,b3,b4,b5,b6⟩:=a8 q;exact⟨as,b1,b2,b3,b4,b5,fun c=>fin _ (fun s=>s.bind d _) (fun s=>rfl) (fun s t jh m=>by simp only[St.bind,Aa,jh]) (bindK d _ b5) (b6 c)⟩
    ·exact h.elim
   ·split at h
    ·unfold Kj at h⊢;split at h
     ·obtain⟨a1,a2,a3,a4,a5,a6,a7,a8,a9,a10⟩:=h;exact⟨a1,a2,a3,a4,a5,a6,a7,a8,a9,finS _ _ _ jl a10⟩
     ·exact h.elim
    ·exact h.elim
  ·exact h.elim
 case bsl d e k ps=>
  obtain rfl:d=d0:=by grind[Ins.dst]
  cases ps with
  |cons a l=>
   have e1:∀o∈a::l,A8 GL v o=A8 GL st o:=fun o ho=>wp o (by simpa[CP]using ho)
   have e2:((a::l).map fun o=>cellsI (Ii (A8 GL v o)))=(a::l).map fun o=>cellsI (Ii (A8 GL st o)):=List.map_congr_left fun o ho=>by rw[e1 o ho]
   have e3:((a::l).all fun o=>Ja (A8 GL v o)&&((cellsI (Ii (A8 GL v o))).length==k)&&(cellsI (Ii (A8 GL v o))).all I.one)=(a::l).all fun o=>Ja (A8 GL st o)&&((cellsI (Ii (A8 GL st o))).length==k)&&(cellsI (Ii (A8 GL st o))).all I.one:=by grind
   simp only[step]at h⊢;rw[e2,e3]at h;exact⟨h.1,fin _ (fun s=>s) (fun s=>rfl) (fun s t jh m=>jh m) (fun m b hb _ _=>hb) h.2⟩
  |nil=>
   simp only[step,ki]at h⊢;unfold step.nilsE' at h⊢;split at h
   ·rename_i hnone;exact fin _ (fun s=>s.bind d _) (fun s=>rfl) (fun s t jh m=>by simp only[St.bind,Aa,jh]) (bindK d _ hnone) h
   ·exact h.elim
 case bso d e k ps=>
  obtain rfl:d=d0:=by grind[Ins.dst]
  have e1:∀o∈ps,A8 GL v o=A8 GL st o:=fun o ho=>wp o (by simpa[CP]using ho)
  have e2:(ps.map fun o=>cellsI (Ii (A8 GL v o)))=ps.map fun o=>cellsI (Ii (A8 GL st o)):=List.map_congr_left fun o ho=>by rw[e1 o ho]
  have e3:(ps.all fun o=>Ja (A8 GL v o)&&((cellsI (Ii (A8 GL v o))).length==k)&&(cellsI (Ii (A8 GL v o))).all I.one)=ps.all fun o=>Ja (A8 GL st o)&&((cellsI (Ii (A8 GL st o))).length==k)&&(cellsI (Ii (A8 GL st o))).all I.one:=by grind
  simp only[step,ki]at h⊢;rw[e2,e3]at h;refine⟨h.1,?_⟩;have h:=h.2;unfold Ji at h⊢;split at h
  ·rename_i hnone;exact fin _ (fun s=>s.bind d _) (fun s=>rfl) (fun s t jh m=>by simp only[St.bind,Aa,jh]) (bindK d _ hnone) h
  ·exact h.elim
 case callf d f args=>
  obtain rfl:d=some d0:=by grind[Ins.dst]
  have e1:∀o∈args,A8 GL v o=A8 GL st o:=fun o ho=>wp o (by simpa[CP]using ho)
  have e2:oN GL v args=oN GL st args:=QS e1 hs.2;have hN':N=oN GL st args:=hN.symm;simp only[step,Et,e2]at h⊢;rw[<-hN']at h⊢;have hs1:=TI N hs fun d x e m hm=>(hp d x e).1 m hm
  have e3:∀o∈args,A8 GL (frzNs N v) o=A8 GL (frzNs N st) o:=fun o ho=>TH hs1 fun d x e=>(hp d x e).2.1 o (by simpa[CP]using ho)
  refine Yc hs1 (fun d x e=>(hp d x e).2.2) e3 ?_ (TJ N st) h;simp only[Fi,List.map_congr_left e3]
 case callvf d fo args=>
  obtain rfl:d=some d0:=by grind[Ins.dst]
  have e1:∀o∈fo::args,A8 GL v o=A8 GL st o:=fun o ho=>wp o (by simpa[CP]using ho)
  have e2:oN GL v (fo::args)=oN GL st (fo::args):=QS e1 hs.2;have hN':N=oN GL st (fo::args):=hN.symm;simp only[step,Et,e2]at h⊢;rw[<-hN']at h⊢;have hs1:=TI N hs fun d x e m hm=>(hp d x e).1 m hm
  have e3:∀o∈fo::args,A8 GL (frzNs N v) o=A8 GL (frzNs N st) o:=fun o ho=>TH hs1 fun d x e=>(hp d x e).2.1 o (by simpa[CP]using ho)
  refine Yc hs1 (fun d x e=>(hp d x e).2.2) e3 ?_ (TJ N st) h;simp only[DZ,e3 fo (by simp),List.map_congr_left fun o ho=>e3 o (List.mem_cons_of_mem _ ho)]
 case callo d f args=>
  obtain rfl:d=d0:=by grind[Ins.dst]
  have e1:args.map (A8 GL v)=args.map (A8 GL st):=List.map_congr_left fun o ho=>wp o (by simpa[CP]using ho)
  simp only[step,Qx,e1]at h⊢;obtain⟨h1,R,h2,h3⟩:=h;refine⟨h1,R,h2,fun r sto' hr=>?_⟩;obtain⟨q1,q2⟩:=h3 r sto' hr;refine⟨fun nm hm=>by rw[<-ki];exact q1 nm hm,?_⟩;refine fin _ (fun s=>⟨s.env,Bj d sto'++s.sto⟩) (fun s=>rfl) (fun s t jh m=>by simp only[Kf,jh]) (fun m b hb hm hbn=>?_) q2;simp only[Kf];cases hg:Aa (Bj d sto') m with
  |none=>exact hb
  |some x=>have kh:m∈(Bj d sto').map (·.1):=CE.2 (by simp only[names,hg];rfl);have:=(q1 m kh).1;rw[ki,hb]at this;cases this
 case ment d ox ok z ls e k=>
  obtain rfl:d=d0:=by grind[Ins.dst]
  have e1:=wp ox (by simp[CP]);have e2:=wp ok (by simp[CP]);simp only[step,Kl,e1,e2]at h⊢;split at h
  ·rename_i nm q ex _;have jl:nm∈N:=inN hN.symm (o:=ox) (by simp[CP]) (by rw[ex];simp[D.nms,Ref.nm]);obtain⟨h1,h⟩:=h;refine⟨h1,?_⟩;simp only[ki]at h;unfold Kk at h⊢;split at h
   ·obtain⟨h2,h⟩:=h;refine⟨h2,?_⟩;split at h
    ·unfold Jo at h⊢;split at h
     ·split at h
      ·exact fin _ (fun s=>s.setB _ _) (fun s=>rfl) (fun s t jh m=>by simp only[St.setB,C3,jh]) (setK nm _ jl) h
      ·exact h.elim
     ·exact h.elim
    ·unfold Jn at h⊢;simp only[ki]at h;generalize hfr:Aa st.sto (Au d _)=fr at h⊢;cases z<;>try exact h.elim
     rename_i rows;cases rows with
     |cons _ _=>exact h.elim
     |nil=>cases fr with
      |some _=>exact h.elim
      |none=>exact fin _ (fun s=>(s.bind _ _).setB _ _) (fun s=>rfl) (fun s t jh m=>by simp only[St.setB,St.bind,C3,Aa,jh]) (fun m b hb hm hbn=>by
        have h1:=bindK _ (.rows e k []) hfr m b hb hm hbn;have ji:m≠nm:=fun e=>hm (e▸jl)
        simp only[St.setB,C3,if_neg ji];exact h1) h
   ·exact h.elim
  ·exact h.elim
theorem QT{g:X}(h:L0 g.1.ins=true):gt GL g st=none:=by
 unfold gt;split
 ·unfold wrI;grind[L0]
 ·rfl
structure Late(us:List Nat)(g:GI)(l:List X):Prop where
 pure:∀b∈l,L0 b.1.ins=true
 uses:∀b∈l,∀u∈It b.1,u∈us
 dst:∀b∈l,∀d,b.1.ins.dst=some d->d∈us/\d∉C5 b.1/\(∀o∈CP g.ins,d∉Gt o)/\d∉Ir g
 own:∀d,g.ins.dst=some d->d∉us
 own2:∀b∈l,∀d,g.ins.dst=some d->d∉C5 b.1
 ord:l.Pairwise fun b c=>∀d,c.1.ins.dst=some d->d∉C5 b.1/\b.1.ins.dst≠some d
theorem Yd(ho:∀o∈CP ins,A8 GL s o=A8 GL t o)(hs:∀m,Aa s.sto m=Aa t.sto m):gc GL ins s=gc GL ins t:=by
 unfold gc;split
 ·exact QS (by simpa[CP]using ho) hs
 ·exact QS (by simpa[CP]using ho) hs
 ·rw[List.flatMap_def,List.flatMap_def];exact congrArg List.flatten (List.map_congr_left fun o h=>by rw[ho o h])
theorem lO(hs:OF s t):gc GL ins s=gc GL ins t:=Yd (fun o _=>by rw[Tv hs]) hs.2
theorem lP{us:List Nat}(h:Eh N s us)(hs:OF s t):Eh N t us:=QR.2 fun u hu m hm=>by rw[<-hs.1]at hm;rw[<-hs.2];exact QR.1 h u hu m hm
theorem Ye:∀(l:List X) {st:St} {R:St->Prop},(∀b∈l,L0 b.1.ins=true)->Ef P GL sn l st R->∃e,R e/\(∀u,(∀b∈l,b.1.ins.dst≠some u)->Aj e.env u=Aj st.env u)/\∀m,Aa e.sto m=Aa st.sto m
 |[],st,R,_,h=>⟨st,h,fun _ _=>rfl,fun _=>rfl⟩
 |b::l,st,R,hp,h=>by
  obtain⟨e,h1,h2,h3⟩:=Ye l (fun c hc=>hp c (List.mem_cons_of_mem _ hc)) h.2;have hg:=Gu h.1;refine⟨e,h1,fun u hu=>?_,fun m=>?_⟩
  ·rw[h2 u fun c hc=>hu c (List.mem_cons_of_mem _ hc),hg.1];cases hq:CO GL b st with
   |none=>rfl
   |some q=>obtain⟨d,x⟩:=q;have:=KC h.1 hq;grind[Ca]
  ·rw[h3,hg.2,QT (hp b List.mem_cons_self)];rfl
def Pd(P:Program)(GL:List (Nat×List I))(us:List Nat)(g:GI)(v:St)(T:St->Prop):Prop:=match BC g.gd v with
 |some true=>Eh (gc GL g.ins v) v us/\step P GL g.ins v T
 |some false=>T (BF g.ins v)
 |none=>False
def KI(P:Program)(GL:List (Nat×List I))(g:GI)(v:St)(T:St->Prop):Prop:=match BC g.gd v with
 |some true=>step P GL g.ins v T
 |some false=>T (BF g.ins v)
 |none=>False
theorem QU(h:∀q∈Ir g,Aj s.env q=Aj t.env q):BC g.gd s=BC g.gd t:=by grind[BC,Ir]
theorem TK{i:Nat}(h:i∈Ir g):i∈C5 g:=by grind[Ir,C5]
theorem TL{i:Nat}(h:i∈It g):i∈C5 g:=by grind[It,TK]
theorem Yf{i:Nat}(h:i∈Ir g):i∈It g:=by grind[It,TK]
theorem past{us:List Nat}{g:GI}{d0:Nat}(hc:KD g.ins=true)(hd0:g.ins.dst=some d0){T:St->Prop}:∀(l:List X) (st:St),Late us g l->
  Ef P GL sn l st (fun s=>∃v,OF v s/\Pd P GL us g v T)->∃v,OF v st/\KI P GL g v (fun s'=>Ef P GL sn l s' fun s=>∃q,OF q s/\T q)
 |[],st,hl,h=>by
  obtain⟨v,hv,h⟩:=h;refine⟨v,hv,?_⟩;unfold Pd at h;unfold KI;split at h
  ·rename_i e;exact FW h.2 fun s' hs'=>⟨s',OF.refl _,hs'⟩
  ·exact⟨_,OF.refl _,h⟩
  ·exact h.elim
 |b::l,st,hl,h=>by
  obtain⟨hp,hr⟩:=h;have hl':Late us g l:=⟨fun c hc=>hl.pure c (List.mem_cons_of_mem _ hc),fun c hc=>hl.uses c (List.mem_cons_of_mem _ hc),fun c hc=>hl.dst c (List.mem_cons_of_mem _ hc),hl.own,fun c hc=>hl.own2 c (List.mem_cons_of_mem _ hc),(List.pairwise_cons.1 hl.ord).2⟩;obtain⟨e,⟨v0,hv0,hg0⟩,wl,ki⟩:=Ye l (fun c hc=>hl'.pure c hc) hr;obtain⟨v,hv,hs⟩:=past hc hd0 l (BD GL b st) hl' hr;have hbu:=hl.uses b List.mem_cons_self;have wy:=hl.dst b List.mem_cons_self;have kx:=(List.pairwise_cons.1 hl.ord).1;have jo:∀u,Aj (BD GL b st).env u=Ca (CO GL b st) (Aj st.env) u:=(Gu hp).1;have hwr:=QT (GL:=GL) (g:=b) (st:=st) (hl.pure b List.mem_cons_self);have hsto0:∀m,Aa e.sto m=Aa st.sto m:=fun m=>by rw[ki,(Gu hp).2,hwr];rfl
  have hSP:HK (CO GL b st) v st:=⟨fun i=>by rw[hv.1,jo],fun m=>by rw[hv.2,(Gu hp).2,hwr];rfl⟩;have keepb:∀q,(∀d,b.1.ins.dst=some d->d≠q)->Aj (BD GL b st).env q=Aj st.env q:=fun q hq=>by
   rw[jo];cases hz:CO GL b st with
   |none=>rfl
   |some z=>obtain⟨d,x⟩:=z;simp only[Ca];rw[if_neg (hq d (KC hp hz))]
  have hg1:BC g.gd v=BC g.gd st:=QU fun q hq=>by rw[hv.1,keepb q fun d hd e=>(wy d hd).2.2.2 (e▸hq)]
  have hg2:BC g.gd v0=BC g.gd st:=QU fun q hq=>by rw[hv0.1,wl q fun c hc hcd=>(hl'.dst c hc q hcd).2.2.2 hq,keepb q fun d hd e=>(wy d hd).2.2.2 (e▸hq)]
  have fin:∀(s' q:St),(∀i∈Ir b.1,Aj st.env i=Aj s'.env i)->(BC b.1.gd st=some true->Ck P GL sn b s'/\CO GL b s'=CO GL b st)->Ef P GL sn l q (fun s=>∃q,OF q s/\T q)->HK (CO GL b st) q s'->
    Ef P GL sn (b::l) s' (fun s=>∃q,OF q s/\T q):=fun s' q vz hloc hq hqs=>by
   by_cases hgd:BC b.1.gd st=some true
   ·obtain⟨l1,l2⟩:=hloc hgd;have l3:gt GL b s'=none:=QT (hl.pure b List.mem_cons_self);refine⟨l1,?_⟩;have hsim:OF q (BD GL b s'):=⟨fun i=>by rw[(Gu l1).1,l2,hqs.1],fun m=>by rw[(Gu l1).2,l3,hqs.2];rfl⟩;refine KB l ?_ (QL l hsim hq);rintro u ⟨w,⟨q2,hq2,hq3⟩,hw2⟩;exact⟨q2,hq2.trans hw2,hq3⟩
   ·
    have hgs:BC b.1.gd s'=BC b.1.gd st:=(QU vz).symm;have hps:Ck P GL sn b s':=by
     unfold Ck at hp⊢;rw[hgs];split at hp
     ·exact hp.elim
     ·rename_i h;exact absurd h hgd
     ·rename_i h;simp only[]
    have hpp:CO GL b s'=CO GL b st:=by
     unfold CO;rw[hgs];split
     ·rename_i h;exact absurd h hgd
     ·split<;>simp_all
    have hww:gt GL b s'=none:=QT (hl.pure b List.mem_cons_self);refine⟨hps,?_⟩;have hsim:OF q (BD GL b s'):=⟨fun i=>by rw[(Gu hps).1,hpp,hqs.1],fun m=>by rw[(Gu hps).2,hww,hqs.2];rfl⟩;refine KB l ?_ (QL l hsim hq);rintro u ⟨w,⟨q2,hq2,hq3⟩,hw2⟩;exact⟨q2,hq2.trans hw2,hq3⟩
  cases hgq:BC g.gd st with
  |none=>unfold KI at hs;rw[hg1,hgq]at hs;exact hs.elim
  |some wt=>
   cases wt with
   |false=>
    unfold KI at hs;rw[hg1,hgq]at hs;have e1:∀s:St,BF g.ins s=s.put d0 (.i .undef):=fun s=>by unfold BF;rw[hd0]
    simp only[e1]at hs;refine⟨st,OF.refl _,?_⟩;unfold KI;rw[hgq];simp only[e1];have same:∀i∈C5 b.1,Aj st.env i=Aj (st.put d0 (.i .undef)).env i:=fun i hi=>by simp only[St.put,Aj];rw[if_neg fun e:d0=i=>hl.own2 b List.mem_cons_self d0 hd0 (e▸hi)]
    refine fin _ _ (fun i hi=>same i (TK hi)) (fun _=>?_) hs ⟨fun i=>?_,hSP.2⟩
    ·obtain⟨l1,l2,_⟩:=QM (t:=st.put d0 (.i .undef)) same (fun o ho nm hn _ _=>rfl) (fun d zs e _ _=>by have:=hl.pure b List.mem_cons_self;rw[e]at this;simp[L0]at this) hp;exact⟨l1,l2⟩
    ·simp only[St.put,Aj,hSP.1];cases hz:CO GL b st with
     |none=>rfl
     |some z=>
      obtain⟨d,x⟩:=z;have ji:d0≠d:=fun e=>hl.own d0 hd0 (e▸(wy d (KC hp hz)).1)
      simp only[Ca];by_cases h1:d=i
      ·subst h1;rw[if_neg ji,if_pos rfl,if_pos rfl]
      ·rw[if_neg h1,if_neg h1]
   |true=>
    unfold KI at hs;rw[hg1,hgq]at hs;unfold Pd at hg0;rw[hg2,hgq]at hg0;have he:=QR.1 (lP hg0.1 hv0);rw[lO hv0]at he;have hN:gc GL g.ins e=gc GL g.ins st:=Yd (fun o ho=>by cases o<;>simp only[A8];rename_i q;rw[wl q fun c hc hcd=>(hl'.dst c hc q hcd).2.2.1 _ ho (by simp[Gt]),keepb q fun d hd e=>(wy d hd).2.2.1 _ ho (by simp[Gt,e])]) hsto0
    rw[hN]at he;have hdata:∀u∈It b.1,∀m∈(Aj st.env u).nms,m∉gc GL g.ins st/\L3 (Aa st.sto m):=fun u hu m hm=>by have h1:=he u (hbu u hu) m;rw[wl u (fun c hc hcd=>(kx c hc u hcd).1 (TL hu)),keepb u (fun d hd e=>(wy d hd).2.1 (e▸TL hu)),hsto0]at h1;exact h1 hm
    have hx:∀d x,CO GL b st=some (d,x)->(∀m∈x.nms,m∉gc GL g.ins st)/\(∀o∈CP g.ins,d∉Gt o)/\d0≠d:=fun d x hq=>by have hbd':=KC hp hq;have h1:=he d (wy d hbd').1;rw[wl d (fun c hc hcd=>(kx c hc d hcd).2 hbd'),jo,hq]at h1;simp only[Ca,if_pos]at h1;exact⟨fun m hm=>(h1 m hm).1,(wy d hbd').2.2.1,fun e:d0=d=>hl.own d0 hd0 (e▸(wy d hbd').1)⟩
    refine⟨st,OF.refl _,?_⟩;unfold KI;rw[hgq];refine FW (frame hc hd0 hSP hx hs) ?_;rintro s' ⟨⟨q,hq,hqs⟩,hk⟩;have vz:∀i∈It b.1,Aj st.env i=Aj s'.env i:=fun i hi=>(hk.out i (fun e:d0=i=>hl.own2 b List.mem_cons_self d0 hd0 (e▸TL hi)) (fun m hm=>(hdata i hi m hm).1)).symm
    refine fin s' q (fun i hi=>vz i (Yf hi)) (fun hgt=>?_) hq hqs;by_cases hext:∃d o i,b.1.ins=.ext d o i
    ·
     obtain⟨d,o,i,he⟩:=hext;have hput1:CO GL b st=some (d,(pv (A8 GL st) (Aa st.sto) (.ext d o i)).1):=by unfold CO;rw[hgt];simp only[Ew,he,BW]
     have hpre:(pv (A8 GL st) (Aa st.sto) (.ext d o i)).2:=by unfold Ck at hp;rw[hgt]at hp;simp only[he]at hp;exact hp.2.1
     have jl:=(hx _ _ hput1).1;have key:pv (A8 GL s') (Aa s'.sto) (.ext d o i)=pv (A8 GL st) (Aa st.sto) (.ext d o i):=by
      cases o with
      |t u=>
       obtain⟨⟨L,hL,hu⟩,_⟩:=hk;have hu:=hu u (fun e:d0=u=>hl.own2 b List.mem_cons_self d0 hd0 (by unfold C5;rw[he];simp[BQ,Gt,e]));simp only[pv,A8,hu]at jl⊢;cases hv:Aj st.env u with
       |i x=>rw[Ya]
       |tup cs=>
        rw[hv]at jl;rw[Yb];simp only[List.length_map]at jl⊢;have hc:((cs.map (Nq L)).getD i .any).toD=(cs.getD i .any).toD:=by
         rw[List.getD_eq_getElem?_getD,List.getD_eq_getElem?_getD,List.getElem?_map];cases hci:cs[i]? with
         |none=>rfl
         |some c=>simp only[Option.map_some,Option.getD_some];rw[List.getD_eq_getElem?_getD,hci]at jl;rw[X9 L fun q hq hm=>jl q.1 (by cases c<;>simp_all[Cp.toD,D.nms,Cp.nms]) (hL q hq)]
        rw[hc]
       |_=>exfalso;simp only[pv,A8,hv]at hpre
      |_=>rfl
     have hgs':BC b.1.gd s'=some true:=by rw[<-hgt];exact(QU fun i hi=>vz i (Yf hi)).symm
     constructor
     ·unfold Ck;rw[hgs'];simp only[he];exact⟨rfl,by rw[key];exact hpre,fun h=>by simp[looks]at h⟩
     ·unfold CO;rw[hgs',hgt];simp only[Ew,he,BW,key]
    ·have ji:∀d o i,b.1.ins≠.ext d o i:=fun d o i e=>hext ⟨d,o,i,e⟩
     have eL:It b.1=C5 b.1:=by
      unfold It;split
      ·rename_i e;exact absurd e (ji _ _ _)
      ·rfl
     rw[eL]at vz hdata;obtain⟨l1,l2,_⟩:=QM (t:=s') vz (fun o ho nm hn _ _=>by
      have jl:nm∉gc GL g.ins st/\L3 (Aa st.sto nm):=by
       have ho2:=Tw ho;clear ho;cases o with
       |t n=>exact hdata n (by unfold C5;exact List.mem_append.2 (.inr (List.mem_flatMap.2 ⟨_,ho2,by simp[Gt]⟩))) nm hn
       |_=>simp[A8,D.nms]at hn
      cases hg:Aa st.sto nm with
      |none=>rw[hg]at jl;exact jl.2.elim
      |some bl=>rw[hg]at jl;exact(hk.2 nm bl hg jl.1 jl.2).symm) (fun d zs e _ _=>by have:=hl.pure b List.mem_cons_self;rw[e]at this;simp[L0]at this) hp
     exact⟨l1,l2⟩
end
end Go.Dl
end
section
namespace Go.Dl
open Go Go.RowKit
variable{gs:List GI}{p0 p1:Nat}{K:St->Prop}
theorem lQ{F:Fence}{j:Nat}{P:Program}{Q:Exit->Act->World->Prop}{a:Act}{w:World}{c:Code}{α:Type}(I:α->Act->World->Prop)(m:α->Nat)(x₀:α)(h₀:I x₀ a w)
  (round:∀x a w,I x a w->c.wpIn F j P (Exit.then (fun a' w'=>∃x',I x' a' w'/\m x'<m x) Q) a w):(Code.loop c).wpIn F j P Q a w:=by
 intro b k cs hro hb hr;have key:∀n x a w,m x=n->I x a w->∃e a' w',Q e a' w'/\ArrivesIn (Machine.fenced P F) P (lone (b.atR a (.code c::.inLoop c::k)) cs w) b k cs e a' w':=by
  intro n
  induction n using Nat.strongRecOn with
  |_ n ih=>
   intro x a w hn hI;obtain⟨e,a₁,w₁,hq,harr⟩:=round x a w hI b (.inLoop c::k) cs hro hb hr;cases e with
   |normal=>obtain⟨x',hI₁,jn⟩:=hq;obtain⟨e₂,a₂,w₂,hq₂,harr₂⟩:=ih (m x') (hn▸jn) x' a₁ w₁ rfl hI₁;exact⟨e₂,a₂,w₂,hq₂,.of_steps (StepsIn.trans harr (.one (fenced_calm hb hr rfl) stepR_inLoop)) harr₂⟩
   |exit id=>exact⟨_,a₁,w₁,hq,.pass (x:=.inLoop c) rfl (fun _ _=>.inl (by simp)) harr⟩
   |goto l=>exact⟨_,a₁,w₁,hq,.pass (x:=.inLoop c) rfl (fun _ _=>.inl (by simp)) harr⟩
   |ret=>exact⟨_,a₁,w₁,hq,.pass (x:=.inLoop c) rfl (fun _ _=>.inl (by simp)) harr⟩
   |panic ch=>exact⟨_,a₁,w₁,hq,.pass (x:=.inLoop c) rfl (fun _ _=>.inl (by simp)) harr⟩
   |outgrown=>exact⟨_,a₁,w₁,hq,.pass (x:=.inLoop c) rfl (fun _ _=>.inl (by simp)) harr⟩
 obtain⟨e,a',w',hq,harr⟩:=key _ x₀ a w rfl h₀;exact⟨e,a',w',hq,.of_steps (.one (fenced_calm hb hr rfl) stepR_loop) harr⟩
section
variable {P:Program}{GL:List (Nat×List I)}{n:Nat}{S:Sh}{mu:List Nat}{rt:List (Nat×Nat)}
theorem lR{S':Sh}{M M':Mem}{w w':World}{K:Exit->St->Prop}(hg:Grow S S' w')(hm:MExt S.p M M')(hb:Keeps S.p w w')(e:Exit)(a'':Act)(w'':World)
  (k:FU GL n S' M' w' K e a'' w''):FU GL n S M w K e a'' w'':=by
 obtain⟨st'',hk,hr⟩:=k;exact⟨st'',hk,hr.trans hg hm hb⟩
def chE(P:Program)(GL:List (Nat×List I))(us:List Nat):List GI->(St->Prop)->St->Prop
 |[],T,s=>∃v,OF v s/\T v
 |g::r,T,s=>∃v,OF v s/\Pd P GL us g v (chE P GL us r T)
theorem Yg{us:List Nat}{l:List GI}{T:St->Prop}{s t:St}(h:chE P GL us l T s)(hs:OF s t):chE P GL us l T t:=by
 cases l with
 |nil=>obtain⟨v,h1,h2⟩:=h;exact⟨v,h1.trans hs,h2⟩
 |cons g r=>obtain⟨v,h1,h2⟩:=h;exact⟨v,h1.trans hs,h2⟩
theorem Yh{sn:List Nat}{ins:Ins}(h:KD ins=true)(st:St)(K:St->Prop):Ad P GL sn ins st K=Gv P GL sn ins st K:=by cases ins<;>simp only[KD,Bool.false_eq_true]at h<;>rfl
theorem Yi{sn:List Nat}:∀(l:List GI) {T:St->Prop} {s:St},(∀g∈l,KD g.ins=true)->evD P GL sn l s T->chE P GL (D3 sn) l T s
 |[],T,s,_,h=>⟨s,OF.refl s,h⟩
 |g::r,T,s,hl,h=>by
  have h1:=hl g List.mem_cons_self;have q:∀s',evD P GL sn r s' T->chE P GL (D3 sn) r T s':=fun s' hs'=>Yi r (fun g hg=>hl g (List.mem_cons_of_mem _ hg)) hs'
  refine⟨s,OF.refl s,?_⟩;simp only[evD]at h;unfold Pd BC;split at h
  ·rename_i e;rw[e];rw[Yh h1]at h;exact⟨h.1,FW h.2 q⟩
  ·rename_i sl want e;rw[e];simp only;unfold gL at h;split at h
   ·rename_i b ev;rw[ev];simp only;cases hb:(b==want)with
    |true=>have h2:=h.1 hb;rw[Yh h1]at h2;exact⟨h2.1,FW h2.2 q⟩
    |false=>exact q _ (h.2 hb)
   ·rename_i ev;rw[ev];exact q _ h
   ·exact h.elim
theorem lU(ins:Ins):(toF ins).dst=ins.dst:=by
 cases ins<;>try rfl
 rename_i ps;cases ps<;>rfl
theorem Yj{get:St->Option (FuncId×List D)}{os:List O}{d:Option Nat}{st:St}(hg:∀s f ds,get s=some (f,ds)->(os.all fun o=>Ja (A8 GL s o))=true->ds.all Ja=true)(h:Et P GL get os d st K):Ah P GL get st d K:=by
 unfold Et Ku at h;refine⟨oN GL st os,?_⟩;split at h
 ·rename_i p e;obtain⟨h1,y,h2,h3⟩:=h;rw[e];refine .inl ⟨[],[],_,h2,trivial,rfl,?_,rfl,?_⟩
  ·have:=hg _ p.1 p.2 e h1;rw[List.all_eq_true]at this⊢;intro x hx;have:=this x hx;cases x<;>simp[Ja]at this;rfl
  ·rintro r s ⟨rfl,rfl⟩;exact⟨fun nm hm=>by simp[Bj]at hm,fun nm hm=>by simp at hm,h3⟩
 ·exact h.elim
theorem lV{ins:Ins}{st:St}(h:step P GL (toF ins) st K):step P GL ins st K:=by
 cases ins<;>try exact h
 case call d f args=>
  refine Yj (fun s f' ds e h1=>?_) h;simp only[Fi,Option.some.injEq,Prod.mk.injEq]at e;obtain⟨rfl,rfl⟩:=e;rw[List.all_eq_true]at h1⊢;intro x hx;obtain⟨o,ho,rfl⟩:=List.mem_map.1 hx;exact h1 o ho
 case callv d fo args=>
  refine Yj (fun s f' ds e h1=>?_) h;rw[List.all_eq_true]at h1⊢;have h0:=h1 fo (by simp);unfold DZ EQ at e;split at e
  ·cases e;intro x hx;simp only[List.mem_append,List.mem_map]at hx;rcases hx with(⟨z,_,rfl⟩|⟨o,ho,rfl⟩)|⟨z,_,rfl⟩
   ·rfl
   ·exact h1 o (by simp[ho])
   ·rfl
  ·rename_i ef;rw[ef]at h0;simp[Ja]at h0
  ·cases e
 case bsn d e k ps=>
  cases ps with
  |nil=>exact h
  |cons a l=>simp only[toF,step]at h⊢;refine⟨?_,h.2⟩;rw[h.1];rfl
theorem Yk{α β:Type}[DecidableEq α]:∀(l:List α) (hn:l.Nodup) (xs:List β) (hl:xs.length=l.length) (d:β),∃f:α->β,l.map f=xs
 |[],_,[],hl,d=>⟨fun _=>d,rfl⟩
 |[],_,x::xs,hl,d=>by simp at hl
 |a::l,hn,[],hl,d=>by simp at hl
 |a::l,hn,x::xs,hl,d=>by obtain⟨h1,h2⟩:=List.nodup_cons.1 hn;obtain⟨f,hf⟩:=Yk l h2 xs (by simpa using hl) d;refine⟨fun b=>if b=a then x else f b,?_⟩;simp only[List.map_cons,if_pos];congr 1;rw[<-hf];exact List.map_congr_left fun b hb=>if_neg fun e:b=a=>h1 (e▸hb)
theorem Rel.drew{M:Mem}{μ:Place}{st:St}{a:Act}{w:World}(h:Rel GL n S M μ st a w):Rel GL n S M μ st a w.drew:=
 h.of h.toStoOk.drew (Mem.le_refl _) fun _ _ hv=>hv
end
def dep(ops:Array Oper)(i:Nat):List Nat:=(EV ops).getD i []
def Yl(ops:Array Oper)(l:Array Bool):Prop:=∀k,l.getD k false=true->∀d∈dep ops k,l.getD d false=true
def Anc(ops:Array Oper)(i j:Nat):Prop:=∀l:Array Bool,Yl ops l->(∀d∈dep ops i,l.getD d false=true)->l.getD j false=true
section
variable {P:Program}{ops:Array Oper}{ro:Option Nat}{Q:Exit->Act->World->Prop}
theorem QV{l:Array Bool}{i:Nat}:i∈Region.ready .any ops l↔i<ops.size/\l.getD i true=false/\∀d∈dep ops i,l.getD d false=true:=by
 simp only[Region.ready,List.mem_filter,List.mem_range,Bool.and_eq_true,Bool.not_eq_true'];refine and_congr_right fun hi=>and_congr_right fun _=>?_
 rw[show dep ops i=(ops[i].after.toList.filter fun e=>Region.binds .any e).map (·.on) by simp[dep,EV,List.getD_eq_getElem?_getD,hi]];simp only[Array.getElem?_eq_getElem hi,Option.map_some,Option.getD_some,Array.all_eq_true_iff_forall_mem,List.mem_map,List.mem_filter,Array.mem_toList_iff];grind
theorem QW{l:Array Bool}{j:Nat}(h:j<l.size):l.getD j true=l.getD j false:=by simp[Array.getD_eq_getD_getElem?,Array.getElem?_eq_getElem h]
theorem getD_set(l:Array Bool)(i q:Nat)(hi:i<l.size):(l.setIfInBounds i true).getD q false=(q==i||l.getD q false):=by
 simp only[Array.getD_eq_getD_getElem?,Array.getElem?_setIfInBounds];by_cases e:i=q
 ·subst e;simp[hi]
 ·simp[e,Ne.symm e]
theorem lW(h1:p1<=ops.size)(hE:∀i,∀d∈dep ops i,d<i)(hS:∀i,p1<=i->i<ops.size->∀j,j<p1->Anc ops i j)(Inv:List Nat->Act->World->Prop)
  (fin:∀l a w,l.size=ops.size->(∀j,j<ops.size->(l.getD j false=true↔j<p1))->Inv [] a w->wpAnyIn (FR ro) 0 P .any ops Q (ops.size-p1) l a w)
  (stp:∀x i y a w,(x++i::y).Pairwise (·<·)->(∀j∈x++i::y,p0<=j/\j<p1)->(∀q,q<p1->q∉x++y->∀j,Anc ops q j->j∉x++i::y)->Inv (x++i::y) a w->wpOpIn (FR ro) 0 P ops Q i (Inv (x++y)) a w):
  ∀(k:Nat) (T:List Nat) (l:Array Bool) (a:Act) (w:World),T.length=k->l.size=ops.size->Yl ops l->(∀j,j<ops.size->(l.getD j false=true↔j<p1/\j∉T))->T.Pairwise (·<·)->(∀j∈T,p0<=j/\j<p1)->Inv T a w->wpAnyIn (FR ro) 0 P .any ops Q (k+(ops.size-p1)) l a w:=by
 intro k
 induction k with
 |zero=>intro T l a w hk hz hc hl hp hT hI;obtain rfl:=List.eq_nil_of_length_eq_zero hk;rw[Nat.zero_add];exact fin l a w hz (fun j hj=>by rw[hl j hj];simp) hI
 |succ k ih=>
  intro T l a w hk hz hc hl hp hT hI;obtain⟨i0,T',rfl⟩:=List.exists_cons_of_length_eq_add_one hk;have un:∀j∈i0::T',¬l.getD j false=true:=fun j hj h=>((hl j (Nat.lt_of_lt_of_le (hT j hj).2 h1)).1 h).2 hj
  have h0:=hT i0 List.mem_cons_self;rw[Nat.succ_add];refine⟨fun hn=>?_,fun i hi=>?_⟩
  ·have:i0∈Region.ready .any ops l:=QV.2 ⟨by omega,by rw[QW (by omega)];simpa using un i0 List.mem_cons_self,fun d hd=>by
    have:=hE i0 d hd;refine(hl d (by omega)).2 ⟨by omega,fun hm=>?_⟩;rcases List.mem_cons.1 hm with e|e
    ·omega
    ·have:=(List.pairwise_cons.1 hp).1 d e;omega⟩
   rw[hn]at this;cases this
  ·obtain⟨xc,jt,hi3⟩:=QV.1 hi;rw[QW (by omega)]at jt;have jn:i<p1:=by
    rcases Nat.lt_or_ge i p1 with q|q
    ·exact q
    ·exact(un i0 List.mem_cons_self (hS i q xc i0 h0.2 l hc hi3)).elim
   have hm:i∈i0::T':=Decidable.byContradiction fun h=>by rw[(hl i xc).2 ⟨jn,h⟩]at jt;cases jt
   generalize i0::T'=T at*;obtain⟨x,y,rfl⟩:=List.append_of_mem hm;have hd:=List.pairwise_append.1 hp;have hy:=List.pairwise_cons.1 hd.2.1;have nx:∀j∈x++y,j≠i:=fun j hj e=>by
    rcases List.mem_append.1 hj with h|h
    ·have:=hd.2.2 j h i (by simp);omega
    ·have:=hy.1 j h;omega
   refine wpOpIn_mono (fun a' w' h=>ih (x++y) (l.setIfInBounds i true) a' w' (by simp at hk⊢;omega) (by simpa using hz) ?_ ?_ (List.pairwise_append.2 ⟨hd.1,hy.2,fun p hp q hq=>hd.2.2 p hp q (List.mem_cons_of_mem _ hq)⟩) (fun j hj=>hT j (by grind)) h) (stp x i y a w hp hT ?_ hI)
   ·intro q hq d hd;rw[getD_set _ _ _ (by omega),Bool.or_eq_true]at hq⊢;rcases hq with hq|hq
    ·rw[beq_iff_eq.1 hq]at hd;exact .inr (hi3 d hd)
    ·exact .inr (hc q hq d hd)
   ·intro j hj;rw[getD_set _ _ _ (by omega),Bool.or_eq_true,hl j hj,beq_iff_eq];by_cases e:j=i
    ·subst e;simp only[true_or,true_iff];exact⟨jn,fun h=>nx j h rfl⟩
    ·simp[e]
   ·intro q hq hn j hj hm;refine un j hm (hj l hc ?_);by_cases e:q=i
    ·exact e▸hi3
    ·exact hc q ((hl q (by omega)).2 ⟨hq,by grind⟩)
end
section
variable {P:Program}{GL:List (Nat×List I)}{n:Nat}{S:Sh}{mu mg:List Nat}{ops:Array Oper}{M:Mem}{st:St}{a:Act}{w:World}{Q:Exit->Act->World->Prop}{ro:Option Nat}{sn:List Nat}
theorem Pe(p0 p1:Nat):ll [] p0 p1=List.range' p0 (p1-p0):=List.filter_eq_self.2 fun _ _=>by simp
theorem QX(h:p1<=gs.length):(ll [] p0 p1).map (WA gs)=(gs.take p1).drop p0:=by
 rw[Pe];exact List.ext_getElem (by simp;omega) fun i h1 h2=>by simp at h2;simp[WA,show p0+i<gs.length by omega]
theorem TM{ops:Array Oper}:∀{gs:List GI},HJ P GL n mu ops=some gs->gs.length=ops.size:=by
 have key:∀(l:List Oper) (gs:List GI),l.mapM (Iq P GL n mu ops)=some gs->gs.length=l.length:=by
  intro l
  induction l with
  |nil=>intro gs h;cases h;rfl
  |cons o l ih=>intro gs h;rw[List.mapM_cons]at h;obtain⟨g,h1,h⟩:=Option.bind_eq_some_iff.1 h;obtain⟨g',h2,h⟩:=Option.bind_eq_some_iff.1 h;cases h;simp[ih g' h2]
 intro gs h;simpa using key _ _ h
theorem QY(h:HJ P GL n mu ops=some gs){i:Nat}(hi:i<ops.size):(ops[i]?).bind (Iq P GL n mu ops)=some (WA gs i):=by
 have key:∀(l:List Oper) (gs:List GI),l.mapM (Iq P GL n mu ops)=some gs->∀i,i<l.length->(l[i]?).bind (Iq P GL n mu ops)=some (WA gs i):=by
  intro l
  induction l with
  |nil=>intro gs h i hi;cases hi
  |cons o l ih=>
   intro gs h i hi;rw[List.mapM_cons]at h;obtain⟨g,h1,h⟩:=Option.bind_eq_some_iff.1 h;obtain⟨g',h2,h⟩:=Option.bind_eq_some_iff.1 h;cases h;cases i with
   |zero=>simp[h1,WA]
   |succ i=>simpa[WA]using ih g' h2 i (by simpa using hi)
 simpa using key _ _ h i (by simpa using hi)
theorem Ns{μ:Place}{i:Nat}{g:GI}(l:List Nat)(hg:(ops[i]?).bind (Iq P GL n mu ops)=some g)(h:Rel GL n S M μ st a w){b:Bool}(hb:BC g.gd st=some b){K:St->Prop}
  (hs:if b=true then step P GL g.ins (frzNs l st) K else K (BF g.ins st)){nx:Act->World->Prop}(hn:∀s a' w',gg GL n S M w s a' w'->K s->nx a' w'):wpOpIn (FR ro) 0 P ops Q i nx a w:=by
 obtain⟨o,ho,hg⟩:=Option.bind_eq_some_iff.1 hg;have hw:=lz h hg hb;obtain⟨wp,hd⟩:=lA hg;unfold wpOpIn;rw[ho];simp only[hw];cases b with
 |true=>obtain⟨M1,h1,m1⟩:=h.frzNs l;exact Oper.wpIn_mono (fun a' w' ⟨s,hk,M',μ',h',hm,hb⟩=>hn s a' w' ⟨M',μ',h',m1.trans hm,hb⟩ hk) (ly ro (lC wp hs) (lD h1 wp hs))
 |false=>
  obtain⟨hdd,hdn⟩:=hd fun e=>by rw[e]at hb;cases hb
  exact⟨fun _ _=>trivial,hn _ _ _ (gg.of (lx h hdd hdn)) hs⟩
theorem Ym{g:GI}{r:List GI}(h:ev P GL (g::r) st K):∃b,BC g.gd st=some b/\if b=true then step P GL g.ins (frzNs (AC GL g.ins st) st) (fun s=>ev P GL r s K)else ev P GL r (BF g.ins st) K:=by
 rw[O9]at h;unfold BC;split at h
 ·rename_i e;rw[e];exact⟨true,rfl,h⟩
 ·rename_i s want e;rw[e];simp only;unfold gL at h;split at h
  ·rename_i b e1;rw[e1];refine⟨_,rfl,?_⟩;cases hb:b==want with
   |true=>exact h.1 hb
   |false=>exact h.2 hb
  ·rename_i e1;rw[e1];exact⟨_,rfl,h⟩
  ·exact h.elim
theorem gg.trans{M':Mem}{w' w'':World}{s':St}{a'':Act}(h:MExt S M M')(hb:Keeps S w w')(k:gg GL n S M' w' s' a'' w''):gg GL n S M w s' a'' w'':=by obtain⟨M2,μ2,h2,m2,b2⟩:=k;exact⟨M2,μ2,h2,h.trans m2,hb.trans b2⟩
def Fin(P:Program)(GL:List (Nat×List I))(n:Nat)(S:Sh)(ro:Option Nat)(ops:Array Oper)(Q:Exit->Act->World->Prop)(M:Mem)(w:World)(p1:Nat)(K:St->Prop):Prop:=
 ∀l a' w',l.size=ops.size->(∀j,j<ops.size->(l.getD j false=true↔j<p1))->(∃s,gg GL n S M w s a' w'/\K s)->wpAnyIn (FR ro) 0 P .any ops Q (ops.size-p1) l a' w'
theorem Yn(h0:p0<=p1)(h1:p1<=ops.size)(hE:∀i,∀d∈dep ops i,d<i)(hS:∀i,p1<=i->i<ops.size->∀j,j<p1->Anc ops i j)(I:List Nat->St->Prop)
  {K:St->Prop}(hK:∀s,I [] s->K s)(fin:Fin P GL n S ro ops Q M w p1 K)
  (stp:∀x i y M μ st a w,(x++i::y).Pairwise (·<·)->(∀j∈x++i::y,p0<=j/\j<p1)->(∀q,q<p1->q∉x++y->∀j,Anc ops q j->j∉x++i::y)->Rel GL n S M μ st a w->I (x++i::y) st->
   ∀nx:Act->World->Prop,(∀s a' w',gg GL n S M w s a' w'->I (x++y) s->nx a' w')->wpOpIn (FR ro) 0 P ops Q i nx a w)
  {μ:Place}{l:Array Bool}(hz:l.size=ops.size)(hl:∀j,j<ops.size->(l.getD j false=true↔j<p0))(h:Rel GL n S M μ st a w)(hI:I (ll [] p0 p1) st):wpAnyIn (FR ro) 0 P .any ops Q (ops.size-p0) l a w:=by
 have hm:∀j,j∈ll [] p0 p1↔p0<=j/\j<p1:=fun j=>by simp[ll,List.mem_range'_1];omega
 have hc:=Pe p0 p1;have:=lW (Q:=Q) (ro:=ro) (p0:=p0) h1 hE hS (fun T a' w'=>∃s,gg GL n S M w s a' w'/\I T s) (fun l a' w' q1 q2 ⟨s,q3,q4⟩=>fin l a' w' q1 q2 ⟨s,q3,hK s q4⟩) (fun x i y a' w' q1 q2 q3 ⟨s,⟨M',μ',q4,q5,q6⟩,q7⟩=>
  stp x i y M' μ' s a' w' q1 q2 q3 q4 q7 _ fun s2 a2 w2 q8 q9=>⟨s2,gg.trans q5 q6 q8,q9⟩) (p1-p0) (ll [] p0 p1) l a w (by rw[hc];simp) hz
  (fun k hk d hd=>by
   have e:∀j,l.getD j false=true->j<ops.size:=fun j hj=>by
    rcases Nat.lt_or_ge j ops.size with q|q
    ·exact q
    ·simp[Array.getD,hz,Nat.not_lt.2 q]at hj
   have:=(hl k (e k hk)).1 hk;have:=hE k d hd;exact(hl d (by omega)).2 (by omega)) (fun j hj=>by rw[hl j hj,hm];omega) (List.Pairwise.filter _ List.pairwise_lt_range') (fun j hj=>(hm j).1 hj) ⟨st,gg.of h,hI⟩
 rwa [show p1-p0+(ops.size-p1)=ops.size-p0 by omega]at this
theorem Yo(hgs:HJ P GL n mu ops=some gs){p0 p1:Nat}(h0:p0<=p1)(h1:p1<=ops.size)(hE:∀i,∀d∈dep ops i,d<i)(hS:∀i,p1<=i->i<ops.size->∀j,j<p1->Anc ops i j)
  (hq:∀i j,p0<=j->j<i->i<p1->Anc ops i j){K:St->Prop}(fin:Fin P GL n S ro ops Q M w p1 K)
  {μ:Place}{l:Array Bool}(hz:l.size=ops.size)(hl:∀j,j<ops.size->(l.getD j false=true↔j<p0))(h:Rel GL n S M μ st a w)(hs:ev P GL ((ll [] p0 p1).map (WA gs)) st K):wpAnyIn (FR ro) 0 P .any ops Q (ops.size-p0) l a w:=by
 refine Yn h0 h1 hE hS (fun T s=>ev P GL (T.map (WA gs)) s K) (fun s h=>h) fin (fun x i y M μ st a w q1 q2 q3 h hs nx hn=>?_) hz hl h hs;obtain rfl:x=[]:=by
  cases x with
  |nil=>rfl
  |cons j x=>
   have hi:=q2 i (by simp);exact(q3 i hi.2 (fun hm=>by
    have hd:=List.pairwise_append.1 q1;rcases List.mem_append.1 hm with e|e
    ·exact Nat.lt_irrefl _ (hd.2.2 i e i (by simp))
    ·exact Nat.lt_irrefl _ ((List.pairwise_cons.1 hd.2.1).1 i e)) j (hq i j (q2 j (by simp)).1 ((List.pairwise_append.1 q1).2.2 j (by simp) i (by simp)) hi.2) (by simp)).elim
 obtain⟨b,hb,hs⟩:=Ym hs;exact Ns _ (QY hgs (Nat.lt_of_lt_of_le (q2 i (by simp)).2 h1)) h hb hs hn
theorem L6{g:GI}{d:Nat}(h:g.ins.dst=some d):d∈KE g:=by simp[KE,h]
theorem lX{gs':List GI}(hgs:HJ P GL n mg ops=some gs)(hgs':HJ P GL n mu ops=some gs'){p0 p1:Nat}(h0:p0<=p1)(h1:p1<=ops.size)(hE:∀i,∀d∈dep ops i,d<i)(hS:∀i,p1<=i->i<ops.size->∀j,j<p1->Anc ops i j)
  {anc:List (List Nat)}(hA:∀i,i<ops.size->∀j∈anc.getD i [],Anc ops i j){ql us:List Nat}(kg:QO anc gs gs' ql us p0 p1=true){K:St->Prop}(fin:Fin P GL n S ro ops Q M w p1 K)(hus:us=D3 sn)
  {μ:Place}{l:Array Bool}(hz:l.size=ops.size)(hl:∀j,j<ops.size->(l.getD j false=true↔j<p0))(h:Rel GL n S M μ st a w)(hs:evD P GL sn ((ll ql p0 p1).map (WA gs)++(chQ ql p0 p1).map (gF gs')) st K):wpAnyIn (FR ro) 0 P .any ops Q (ops.size-p0) l a w:=by
 simp only[QO,Bool.and_eq_true,Bool.or_eq_true,List.all_eq_true,List.isEmpty_iff,Nat.ble_eq,List.contains_iff_mem,Bool.not_eq_true',Bool.eq_false_iff,ne_eq,List.any_eq_true,List.mem_filter]at kg;obtain⟨hX,kg⟩:=kg;have memX:∀i,i∈ll ql p0 p1↔(i<p1/\p0<=i)/\i∉ql:=fun i=>by simp[ll,List.mem_range'_1];omega
 have memQ:∀i,i∈chQ ql p0 p1↔(i<p1/\p0<=i)/\i∈ql:=fun i=>by simp[chQ,List.mem_range'_1];omega
 have sQ:(chQ ql p0 p1).Pairwise (·<·):=List.Pairwise.filter _ List.pairwise_lt_range';have hQc:∀g∈(chQ ql p0 p1).map (gF gs'),KD g.ins=true:=fun g hg=>by
  obtain⟨q,hq,rfl⟩:=List.mem_map.1 hg;rcases kg with e|e
  ·rw[e]at hq;cases hq
  ·exact(e.1.2 q hq).1.1.1.1
 rw[TF]at hs;obtain⟨xs,hxs,jf⟩:=TE _ _ _ (List.all_eq_true.2 fun g hg=>by obtain⟨x,hx,rfl⟩:=List.mem_map.1 hg;exact(hX x hx).1) hs;obtain⟨xf,rfl⟩:=Yk (ll ql p0 p1) (List.Pairwise.filter _ List.nodup_range') xs (by have:=congrArg List.length hxs;simpa using this) (⟨none,.mov 0 (.t 0)⟩,none);have hxf:∀i∈ll ql p0 p1,(xf i).1=WA gs i:=by rw[List.map_map]at hxs;exact fun i hi=>List.map_inj_left.1 hxs i hi
 have jf:=KB _ (fun u hu=>hus▸Yi _ hQc hu) jf;refine Yn h0 h1 hE hS (fun T s=>∃Qd Qr,chQ ql p0 p1=Qd++Qr/\(∀q∈Qd,q∉T)/\(∀q∈Qr,q∈T)/\Ef P GL sn ((T.filter fun i=>!ql.contains i).map xf) s (chE P GL us (Qr.map (gF gs')) K)) (K:=fun s=>∃v,OF v s/\K v) ?_
  (fun l a' w' q1 q2 ⟨s,⟨M',μ',q3,q4⟩,v,q5,q6⟩=>fin l a' w' q1 q2 ⟨v,⟨M',μ',q3.sim q5.symm,q4⟩,q6⟩) ?_ hz hl h ⟨[],_,rfl,by simp,fun q hq=>by have:=(memQ q).1 hq;rw[Pe];simp[List.mem_range'_1];omega,by
   rw[show((ll [] p0 p1).filter fun i=>!ql.contains i)=ll ql p0 p1 by rw[Pe];rfl];exact jf⟩
 ·rintro s ⟨Qd,Qr,_,_,q3,q4⟩;obtain rfl:Qr=[]:=List.eq_nil_iff_forall_not_mem.2 fun q hq=>by cases q3 q hq
  exact q4
 rintro x i y M μ st a w q1 q2 q3 h ⟨Qd,Qr,hQQ,hQd,hQr,hr⟩ nx hn;have hi:=q2 i (by simp);have his:i<ops.size:=by omega
 have hpw:=List.pairwise_append.1 q1;have hxi:∀j∈x,j<i:=fun j hj=>hpw.2.2 j hj i (by simp)
 have hni:i∉x++y:=fun hm=>by
  rcases List.mem_append.1 hm with e|e
  ·exact Nat.lt_irrefl _ (hxi i e)
  ·exact Nat.lt_irrefl _ ((List.pairwise_cons.1 hpw.2.1).1 i e)
 have nA:∀q,q<p1->q∉x++y->∀j∈x++i::y,j∉anc.getD q []:=fun q hq hqn j hj hm=>q3 q hq hqn j (hA q (by omega) j hm) hj
 rw[List.filter_append,List.filter_cons]at hr;by_cases hdr:i∈ql
 ·have hiQ:=(memQ i).2 ⟨⟨hi.2,hi.1⟩,hdr⟩;have kg:=kg.resolve_left fun e=>by rw[e]at hiQ;cases hiQ
  obtain⟨⟨hU,hQ⟩,hXX⟩:=kg;have hiR:i∈Qr:=by rw[hQQ]at hiQ;exact(List.mem_append.1 hiQ).elim (fun q=>(hQd i q (by simp)).elim) id
  cases Qr with
  |nil=>cases hiR
  |cons q0 Qr=>
   have j9:∀q∈Qd++q0::Qr,q∈chQ ql p0 p1:=fun q hq=>hQQ▸hq
   have hpq:=List.pairwise_append.1 (hQQ▸sQ);have e0:q0=i:=by
    rcases List.mem_cons.1 hiR with e|e
    ·exact e.symm
    ·have jn:q0<i:=(List.pairwise_cons.1 hpq.2.1).1 i e;have:=((hQ q0 (j9 q0 (by simp))).1.2 i hiQ).resolve_left (by omega);exact(nA i hi.2 hni q0 (hQr q0 (by simp)) this).elim
   subst e0;obtain⟨⟨⟨⟨c1,c3⟩,c4⟩,_⟩,hXQ⟩:=hQ q0 hiQ;obtain⟨d0,hd0⟩:=Option.isSome_iff_exists.1 c3;have hTX:∀b∈(x.filter fun i=>!ql.contains i)++(y.filter fun i=>!ql.contains i),b∈ll ql p0 p1/\b∉anc.getD q0 []:=fun b hb=>by
    have hb':b∈x++y/\b∉ql:=by grind
    have ko:b∈x++q0::y:=by grind
    have:=q2 b ko;exact⟨(memX b).2 ⟨⟨this.2,this.1⟩,hb'.2⟩,nA q0 hi.2 hni b ko⟩
   rw[if_neg (by simpa using hdr)]at hr;have hlate:Late us (gF gs' q0) (((x.filter fun i=>!ql.contains i)++(y.filter fun i=>!ql.contains i)).map xf):=by
    refine⟨fun b hb=>?_,fun b hb u hu=>?_,fun b hb d hd=>?_,fun d hd=>c4 d (L6 hd),fun b hb d hd=>?_,?_⟩
    rotate_right
    ·rw[List.pairwise_map,<-List.filter_append];refine List.Pairwise.imp_of_mem ?_ (List.Pairwise.filter _ (List.pairwise_append.2 ⟨hpw.1,(List.pairwise_cons.1 hpw.2.1).2,fun p hp q hq=>hpw.2.2 p hp q (List.mem_cons_of_mem _ hq)⟩));intro b c hb hc hbc d hd;rw[List.filter_append]at hb hc;rw[hxf c (hTX c hc).1]at hd;rw[hxf b (hTX b hb).1];have:=((hXX c (hTX c hc).1 d (L6 hd)).2 b (hTX b hb).1).resolve_left (by omega);exact⟨this.1,fun e=>this.2 (L6 e)⟩
    all_goals
     obtain⟨b,ko,rfl⟩:=List.mem_map.1 hb;obtain⟨hb,hn⟩:=hTX b ko;have k1:=(hXQ b hb).resolve_left hn;have k2:=hU b ⟨hb,q0,hiQ,hn⟩;rw[hxf b hb]at*
    ·exact k1.1.1
    ·exact k2 u (List.mem_append.2 (.inl hu))
    ·have k3:=k1.2 d (L6 hd);refine⟨k2 d (List.mem_append.2 (.inr (L6 hd))),(hXX b hb d (L6 hd)).1,fun o ho hu=>k3 (List.mem_append.2 (.inl (List.mem_flatMap.2 ⟨o,ho,hu⟩))),fun hu=>k3 (List.mem_append.2 (.inr hu))⟩
    ·exact k1.1.2 d (L6 hd)
   obtain⟨v,hv,hs⟩:=past c1 hd0 _ st hlate hr;have hI:∀s,Ef P GL sn (((x.filter fun i=>!ql.contains i)++(y.filter fun i=>!ql.contains i)).map xf) s (fun s=>∃q,OF q s/\chE P GL us (Qr.map (gF gs')) K q)->∃Qd Qr,chQ ql p0 p1=Qd++Qr/\(∀q∈Qd,q∉x++y)/\(∀q∈Qr,q∈x++y)/\Ef P GL sn (((x++y).filter fun i=>!ql.contains i).map xf) s (chE P GL us (Qr.map (gF gs')) K):=fun s hs=>
    ⟨Qd++[q0],Qr,by rw[hQQ];simp,by grind,fun q hq=>by
     have:=hQr q (List.mem_cons_of_mem _ hq);have:=(List.pairwise_cons.1 hpq.2.1).1 q hq;grind,by
     rw[List.filter_append];exact KB _ (fun u ⟨q,hq,hk⟩=>Yg hk hq) hs⟩
   have hg:=QY hgs' his;unfold KI at hs;split at hs
   ·rename_i e;exact Ns (b:=true) [] hg (h.sim hv.symm) e (lV hs) fun s a' w' q1 q2=>hn s a' w' q1 (hI s q2)
   ·rename_i e;refine Ns (b:=false) (K:=fun s=>s=BF (WA gs' q0).ins v) [] hg (h.sim hv.symm) e rfl fun s a' w' q1 q2=>hn s a' w' q1 (hI s ?_)
    have e1:BF (toF (WA gs' q0).ins) v=BF (WA gs' q0).ins v:=by unfold BF;rw[lU]
    rw[q2,<-e1];exact hs
   ·exact hs.elim
 ·have hiX:=(memX i).2 ⟨⟨hi.2,hi.1⟩,hdr⟩;rw[if_pos (by simpa using hdr),List.map_append,List.map_cons]at hr;obtain⟨hp,jf⟩:=XI _ _ _ st _ h.closed (fun b hb=>by obtain⟨j,hj,rfl⟩:=List.mem_map.1 hb;obtain⟨hj,hjq⟩:=List.mem_filter.1 hj;have hjX:=(memX j).2 ⟨(q2 j (by simp[hj])).symm,by simpa using hjq⟩;rw[hxf i hiX,hxf j hjX];exact(((hX i hiX).2 j hjX).resolve_left (by have:=hxi j hj;omega)).resolve_left (nA i hi.2 hni j (by simp[hj]))) hr
  have hg:=QY hgs his;rw[<-hxf i hiX]at hg;generalize xf i=X0 at hp jf hg;have hgo:∀s a' w',gg GL n S M w s a' w'->BD GL X0 st=s->nx a' w':=fun s a' w' e1 e2=>hn s a' w' e1 ⟨Qd,Qr,hQQ,by grind,fun q hq=>by
   have:=hQr q hq;have:q≠i:=fun e=>hdr (e▸((memQ q).1 (by rw[hQQ];simp[hq])).2)
   grind,by
   rw[List.filter_append,List.map_append,<-e2];exact KB _ (fun u ⟨v,hk,hs⟩=>Yg hk hs) jf⟩
  unfold Ck at hp;unfold BD at hgo;split at hp
  ·exact hp.elim
  ·rename_i e;rw[e]at hgo;exact Ns (b:=true) [] hg h e (XW hp rfl) hgo
  ·rename_i e;rw[e]at hgo;exact Ns (b:=false) (K:=Eq _) [] hg h e rfl hgo
theorem Yp{n:Nat}(h:ckE (EV ops) ops.size=true):∀i,∀d∈dep ops i,d<i:=fun i d hd=>by
 have hi:i<ops.size:=by
  rcases Nat.lt_or_ge i ops.size with q|q
  ·exact q
  ·simp[dep,EV,List.getD_eq_getElem?_getD,q]at hd
 simp only[ckE,List.all_eq_true,List.mem_range,Nat.blt_eq]at h;exact h i hi d hd
theorem lY{anc:List (List Nat)}(hE:∀i,∀d∈dep ops i,d<i)(h:ckA (EV ops) anc ops.size=true):∀i,i<ops.size->∀j∈anc.getD i [],Anc ops i j:=by
 simp only[ckA,List.all_eq_true,List.mem_range,List.any_eq_true,Bool.or_eq_true,Nat.beq_eq,List.contains_iff_mem]at h;intro i
 induction i using Nat.strongRecOn with
 |_ i ih=>
  intro hi j hj l hc hd;obtain⟨d,hm,e⟩:=h i hi j hj;have:=hE i d hm;rcases e with e|e
  ·exact e▸hd d hm
  ·exact ih d this (by omega) j e l hc (hc d (hd d hm))
theorem Yq(h:ckS (EV ops) p0 p1=true):∀i j,p0<=j->j<i->i<p1->Anc ops i j:=by
 simp only[ckS,List.all_eq_true,List.mem_range,Bool.or_eq_true,Nat.ble_eq,List.contains_iff_mem]at h;intro i
 induction i with
 |zero=>intro j _ h;omega
 |succ i ih=>
  intro j h0 h1 h2 l hc hd;have:=hd i ((h (i+1) h2).resolve_left (by omega));by_cases e:j=i
  ·exact e▸this
  ·exact ih j h0 (by omega) (by omega) l hc (hc i this)
theorem lZ{a b:IR}{j:J}(h:cutI a b=j.ir):∃x y:J,x.ir=a/\y.ir=b/\∀K st,W2 P GL j K st->W2 P GL x (KF (W2 P GL y) K) st:=by
 cases b
 case skip=>exact⟨j,.skip,h.symm,rfl,fun K st h=>Ei j h fun e s hs=>by cases e<;>first|exact⟨s,.inl rfl,hs⟩|exact hs⟩
 all_goals
  cases j<;>simp only[cutI,J.ir,reduceCtorEq,IR.cut.injEq]at h
  all_goals
   rename_i x y;refine⟨x,y,h.1.symm,h.2.symm,fun K st h=>?_⟩
   first|exact h|exact Ei _ h fun e s hs=>by cases e<;>first|exact⟨_,.inr (.inr ⟨_,rfl⟩),hs⟩|exact hs
theorem Yr{gs gs':List GI}(hgs:HJ P GL n mg ops=some gs)(hgs':HJ P GL n mu ops=some gs')(hE:∀i,∀d∈dep ops i,d<i)(hA:∀i,i<ops.size->∀j∈(O7 (EV ops)).getD i [],Anc ops i j)
  {rt:List (Nat×Nat)}{K:Exit->St->Prop}{M:Mem}{w:World}:∀(hs:List (List Nat)) (p0:Nat) (j:J),O8 mu true rt ops gs gs' ops.size hs p0=some j.ir->p0<=ops.size->
   ∀(l:Array Bool) (s:St) (a:Act) (w':World),l.size=ops.size->(∀j,j<ops.size->(l.getD j false=true↔j<p0))->gg GL n S M w s a w'->W2 P GL j K s->wpAnyIn (FR ro) 0 P .any ops (FU GL n S M w K) (ops.size-p0) l a w'
 |[],p0,j,hc,h0,l,s,a,w',hz,hl,h,hs=>by
  simp only[O8,Nat.ble_eq]at hc;split at hc
  ·cases j<;>simp only[J.ir,reduceCtorEq,Option.some.injEq]at hc;have e:ops.size-p0=0:=by omega
   rw[e];refine⟨List.eq_nil_iff_forall_not_mem.2 fun i hi=>?_,s,hs,h.c⟩;obtain⟨h1,h2,_⟩:=QV.1 hi;rw[QW (by omega),(hl i h1).2 (by omega)]at h2;cases h2
  ·cases hc
 |hh::r,p0,j,hc,h0,l,s,a,w',hz,hl,⟨M',μ',h,m,k⟩,hs=>by
  unfold O8 at hc;simp only[Bool.and_eq_true,Bool.or_eq_true,Nat.ble_eq,Nat.beq_eq]at hc;generalize L1 ops.size hh=p1 at hc;split at hc
  rotate_left
  ·cases hc
  rename_i hp;obtain⟨y0,hy,hc⟩:=Option.bind_eq_some_iff.1 hc;have hp1:p1<=ops.size:=by rcases hp.2 with e|e;exact Nat.le_of_eq e;exact e.1
  have hS:∀i,p1<=i->i<ops.size->∀j,j<p1->Anc ops i j:=fun i q1 q2 j q3=>by
   rcases hp.2 with e|e
   ·omega
   ·have:=e.2;simp only[ckB,List.all_eq_true,List.mem_range,Bool.or_eq_true,Nat.blt_eq,List.contains_iff_mem]at this;exact hA i q2 j ((this i q2).resolve_left (by omega) j q3)
  have fin:∀(y:J) (post:List Nat),y.ir=y0->Fin P GL n S ro ops (FU GL n S M w K) M' w' p1 fun s=>KF (W2 P GL y) K .normal (frzNs (L5 post s) s):=fun y post e l a2 w2 q1 q2 ⟨s,⟨M2,μ2,h2,m2,k2⟩,S',hq,q3⟩=>by obtain⟨M3,h3,m3⟩:=h2.frzNs (L5 post s);exact Yr hgs hgs' hE hA r p1 y (e▸hy) hp1 l S' a2 w2 q1 q2 ⟨M3,μ2,h3.subQ hq,(m.trans m2).trans m3,k.trans k2⟩ q3
  have out:∀{a b:IR} {c:Bool},(if c=true then some (cutI a b)else none)=some j.ir->c=true/\∃x y:J,x.ir=a/\y.ir=b/\W2 P GL x (KF (W2 P GL y) K) s:=fun hc=>by
   split at hc
   ·rename_i e;obtain⟨x,y,e1,e2,e3⟩:=lZ (P:=P) (GL:=GL) (Option.some.inj hc);exact⟨e,x,y,e1,e2,e3 K s hs⟩
   ·cases hc
  unfold XM at hc;split at hc
  ·obtain⟨hk,x,y,e1,e2,hs⟩:=out hc;cases x<;>simp only[J.ir,reduceCtorEq,IR.reg.injEq]at e1;subst e1;exact Yo hgs' hp.1 hp1 hE hS (Yq hk) (fin y [] e2) hz hl h (by rw[QX (by rw[TM hgs'];exact hp1)];exact hs)
  all_goals
   obtain⟨hk,x,y,e1,e2,hs⟩:=out hc;cases x<;>simp only[J.ir,reduceCtorEq,IR.dreg.injEq]at e1;obtain⟨rfl,rfl,rfl⟩:=e1;obtain⟨l2,hs⟩:=hs;obtain⟨M2,h2,m2⟩:=h.frzNs l2;exact lX hgs hgs' hp.1 hp1 hE hS hA hk (fun l a2 w2 q1 q2 q=>fin y _ e2 l a2 w2 q1 q2 (q.imp fun s q3=>⟨gg.trans m2 (Keeps.refl _ _) q3.1,q3.2⟩)) rfl hz hl h2 (by
    first|exact hs|(rw[show chQ [] p0 p1=[]from List.filter_eq_nil_iff.2 fun _ _=>by simp,List.map_nil,List.append_nil,QX (by rw[TM hgs];exact hp1)];exact hs))
end
section
variable {P:Program}{GL:List (Nat×List I)}{n:Nat}{S:Sh}{mu:List Nat}{rt:List (Nat×Nat)}
theorem Ys{ops:Array Oper}{gs:List GI}(hgs:HJ P GL n mu ops=some gs){r:Option Nat}{K:Exit->St->Prop}{M:Mem}{w:World}:∀(T:List Nat) (s:St) (a:Act) (w':World),(∀i∈T,i<ops.size)->gg GL n S M w s a w'->
  ev P GL (T.map (WA gs)) s (K .normal)->wpOpsIn (FR r) 0 P ops (FU GL n S M w K) T a w'
 |[],s,a,w',hT,h,hs=>⟨s,hs,h.c⟩
 |i::T,s,a,w',hT,⟨M',μ',h,m,k⟩,hs=>by obtain⟨b,hb,hs⟩:=Ym hs;rw[wpOpsIn_cons];exact Ns _ (QY hgs (hT i List.mem_cons_self)) h hb hs fun s a w2 q1 q2=>Ys hgs T s a w2 (fun i hi=>hT i (List.mem_cons_of_mem _ hi)) (gg.trans m k q1) q2
theorem l4{rt:List (Nat×Nat)}{hh:List (Nat×List (List Nat))}:∀(c:Code) (r:Option Nat) (j:J),comp P GL n mu true rt hh c=some j.ir->(r=none\/G8 j.ir=true)->∀(S:Sh) (K:Exit->St->Prop) (M:Mem) (μ:Place) (st:St) (a:Act) (w:World),Rel GL n S M μ st a w->W2 P GL j K st->c.wpIn (FR r) 0 P (FU GL n S M w K) a w:=by
 intro c
 induction c with
 |skip=>intro r j hc xg S K M μ st a w h hs;cases j<;>simp only[comp,J.ir,Option.some.injEq,reduceCtorEq]at hc;exact wpIn_skip ⟨st,hs,FS.of h⟩
 |region id ops draw=>
  intro r j hc xg S K M μ st a w h hs;unfold comp at hc;have drew:P.follows .mixedOrders=true->wpAnyIn (FR r) 0 P .any ops (FU GL n S M w.drew K) (ops.size-0) (Array.replicate ops.size false) a w.drew->draw=true->(Code.region id ops draw).wpIn (FR r) 0 P (FU GL n S M w K) a w:=fun h1 h2 h3=>by subst h3;exact wpIn_mono (wpIn_region_any h1 h2) fun e a' w' ⟨st',hk,S',vo,M',μ',h',hm,hb⟩=>⟨st',hk,S',vo,M',μ',h',hm,((Keeps.refl S.p w).drew).trans hb⟩
  have hz:∀j,j<ops.size->((Array.replicate ops.size false).getD j false=true↔j<0):=fun j hj=>by simp[hj]
  simp only at hc;split at hc
  ·split at hc
   ·rename_i hk;obtain⟨gs,hg,e⟩:=Option.map_eq_some_iff.1 hc;cases j<;>simp only[J.ir,reduceCtorEq,IR.reg.injEq]at e;subst e;have hl:=TM hg;cases draw with
    |false=>exact wpIn_region (Ys hg (List.range ops.size) st a w (fun i hi=>List.mem_range.1 hi) (gg.of h) (by have:=QX (gs:=gs) (p0:=0) (Nat.le_of_eq hl.symm);rw[Pe,Nat.sub_zero,<-List.range_eq_range',<-hl,List.take_length]at this;rw[<-hl,this];exact hs))
    |true=>
     simp only[Bool.not_true,Bool.false_or,Bool.and_eq_true]at hk;exact drew hk.1 (Yo (K:=K .normal) hg (Nat.zero_le _) (Nat.le_refl _) (Yp (n:=0) hk.2.1) (fun i h1 h2=>by omega) (Yq hk.2.2) (fun l a w q1 q2 ⟨s,q3,q4⟩=>by rw[Nat.sub_self];refine⟨List.eq_nil_iff_forall_not_mem.2 fun i hi=>?_,s,q4,q3.c⟩;obtain⟨h1,h2,_⟩:=QV.1 hi;rw[QW (by omega),(q2 i h1).2 h1]at h2;cases h2) (by simp) hz h.drew (by rw[QX (Nat.le_of_eq hl.symm),<-hl,List.take_length];exact hs)) rfl
   ·cases hc
  ·rename_i ji;have hd:draw=true:=by cases draw with|true=>rfl|false=>exact(ji rfl).elim
   split at hc
   ·rename_i gs gs' hg vo;split at hc
    ·rename_i hk;simp only[Bool.and_eq_true]at hk;have hE:=Yp (n:=0) hk.2.1;exact drew hk.1 (Yr hg vo hE (lY hE hk.2.2) _ 0 j hc (Nat.zero_le _) _ st a w.drew (by simp) hz (gg.of h.drew) hs) hd
    ·cases hc
   ·cases hc
 |seq x y ihx ihy=>
  intro r j hc xg S K M μ st a w h hs;simp only[comp]at hc;split at hc<;>simp only[Option.some.injEq,reduceCtorEq]at hc;rename_i i1 i2 h1 h2;obtain⟨j1,j2,rfl,rfl,hs⟩:∃j1 j2:J,j1.ir=i1/\j2.ir=i2/\W2 P GL j1 (KF (W2 P GL j2) K) st:=by
   cases j<;>simp only[J.ir,reduceCtorEq,IR.cut.injEq]at hc
   ·exact⟨_,_,hc.1.symm,hc.2.symm,Ei _ hs fun e s hs=>by cases e<;>first|exact⟨_,.inr (.inr ⟨_,rfl⟩),hs⟩|exact hs⟩
   ·exact⟨_,_,hc.1.symm,hc.2.symm,hs⟩
  rw[<-hc]at xg;simp only[G8,Bool.and_eq_true]at xg;refine wpIn_seq (wpIn_mono (ihx r _ h1 (xg.imp_right And.left) S _ M μ st a w h hs) ?_);rintro e a' w' ⟨st',hk,j8⟩;cases e with
  |normal=>obtain⟨S',vo,M',μ',h',hm,hb⟩:=j8;obtain⟨T',hT,hk⟩:=hk;exact wpIn_mono (ihy r _ h2 (xg.imp_right And.right) S' _ M' μ' T' a' w' (h'.subQ hT) hk) (fun e a'' w'' k=>lR vo hm hb e a'' w'' k)
  |_=>exact⟨st',hk,j8⟩
 |cond c x y ihx ihy=>
  intro r j hc xg S K M μ st a w h hs;simp only[comp]at hc;split at hc<;>simp only[Option.some.injEq,reduceCtorEq]at hc;rename_i oc i1 i2 h0 h1 h2;cases j<;>simp only[J.ir,reduceCtorEq,IR.cond.injEq]at hc;obtain⟨rfl,rfl,rfl⟩:=hc;simp only[J.ir,G8,Bool.and_eq_true]at xg;have hr:=Az h h0;simp only[W2]at hs;split at hs
  ·rename_i t e;rw[e]at hr;have hb:=G4 (AJ hr);cases t with
   |true=>exact wpIn_cond_true hb (ihx r _ h1 (xg.imp_right And.left) S _ M μ st a w h (hs.1 rfl))
   |false=>exact wpIn_cond_false hb (ihy r _ h2 (xg.imp_right And.right) S _ M μ st a w h (hs.2 rfl))
  ·exact hs.elim
 |block id c ih=>
  intro r j hc xg S K M μ st a w h hs;simp only[comp,Option.map_eq_some_iff]at hc;obtain⟨i1,h1,e⟩:=hc;cases j<;>simp only[J.ir,reduceCtorEq,IR.block.injEq]at e;obtain⟨rfl,rfl⟩:=e;refine wpIn_block (wpIn_mono (ih r _ h1 xg S _ M μ st a w h hs) ?_);rintro e a' w' ⟨st',hk,j8⟩;cases e with
  |exit id'=>
   simp only[FV,Exit.inBlock]at hk⊢;split
   all_goals
    rename_i e;simp only[e]at hk;exact⟨st',hk,j8⟩
  |_=>exact⟨st',hk,j8⟩
 |loop c ih=>
  intro r j hc xg S K M μ st a w h hs;simp only[comp,Option.map_eq_some_iff]at hc;obtain⟨i1,h1,e⟩:=hc;cases j<;>simp only[J.ir,reduceCtorEq,IR.loop.injEq]at e;subst e;obtain⟨ι,F,m,i0,j9,hround⟩:=hs;refine lQ (α:=ι) (fun i a' w'=>FS GL n S M w (F i) a' w') m i0 (FS.of (h.sub' j9)) ?_;rintro i a' w' ⟨S',vo,M',μ',h',hm,hb⟩;refine wpIn_mono (ih r _ h1 xg S' _ M' μ' _ a' w' h' (hround i)) ?_;rintro e a'' w'' ⟨st'',hk,j8⟩;cases e with
  |normal=>obtain⟨i',jn,w8⟩:=hk;obtain⟨S2,g2,M2,μ2,h2,m2,b2⟩:=j8;exact⟨i',FS.trans vo hm hb ⟨S2,g2,M2,μ2,h2.sub' w8,m2,b2⟩,jn⟩
  |_=>exact⟨st'',hk,j8.trans vo hm hb⟩
 |exit id=>intro r j hc xg S K M μ st a w h hs;cases j<;>simp only[comp,J.ir,Option.some.injEq,reduceCtorEq,IR.exit.injEq]at hc;subst hc;exact wpIn_exit ⟨st,hs,FS.of h⟩
 |ret=>intro r j hc xg S K M μ st a w h hs;cases j<;>simp only[comp,J.ir,Option.some.injEq,reduceCtorEq]at hc;exact wpIn_ret ⟨st,hs,FS.of h⟩
 |rangeFunc g ps x y ihx ihy=>
  intro r j hc xg S K M μ st a w h hs;simp only[comp]at hc;split at hc
  ·rename_i og ix iy h0 h1 h2;split at hc
   ·rename_i hfree;cases j<;>simp only[J.ir,reduceCtorEq,Option.some.injEq,IR.rf.injEq]at hc;obtain⟨rfl,rfl,rfl,rfl,rfl⟩:=hc;rcases xg with rfl|xg
    ·simp only[Bool.and_eq_true,List.all_eq_true,Nat.blt_eq]at hfree;exact lN h h0 hfree.2 (fun l=>ihx (some l) _ h1 (.inr hfree.1.1)) (fun l=>ihy (some l) _ h2 (.inr hfree.1.2)) hs
    ·simp[G8,J.ir]at xg
   ·cases hc
  ·cases hc
 |_=>intro r j hc;simp[comp]at hc
end
end Go.Dl
end
section
namespace Go.Dl
open Go Go.RowKit
section
variable {P:Program}{GL:List (Nat×List I)}{n:Nat}{S:Sh}{M:Mem}{μ μ':Place}{N N':Nat->Prop}{f:Nat->Nat}{sto:List (Nat×Blk)}{w:World}{nm:Nat}{st:St}{a:Act}
inductive RV where
 |tmp (t:Nat)
 |cell (t k:Nat) (ag:Bool)
def Iv(P:Program):ResultVar->Option RV
 |.tmp t=>some (.tmp t)
 |.cell t ty=>match Qp P ty,Eu P ty with|some k,some ag=>if ag||k==1 then some (.cell t k ag)else none|_,_=>none
def rvD(st:St):RV->Option D
 |.tmp t=>match Aj st.env t with|.any=>none|x=>some x
 |.cell t k ag=>match Aj st.env t with
  |.i (.elt cs off)=>if Nat.ble (off+k) cs.length then some (.i (pk ag cs off k))else none
  |.ref (.loc nm off)=>match Aa st.sto nm with
   |some (.cells cs)=>if Nat.ble (off+k) cs.length&&(!ag||BV ((cs.drop off).take k))then some (gG ag cs off k)else none
   |_=>none
  |_=>none
def Jy(st:St):List RV->Option (List D)
 |[]=>some []
 |r::rs=>match rvD st r,Jy st rs with|some x,some xs=>some (x::xs)|_,_=>none
def Nt:List D->Option D
 |[x]=>some x
 |xs=>if BV xs then some (.i (.tup (xs.map Ii)))else none
def kf:List (Nat×Nat)->Nat->Nat
 |[],m=>m
 |(o,nw)::r,m=>if o=m then nw else kf r m
def CG(olds:List Nat):List (Nat×Blk)->List (Nat×Blk)
 |[]=>[]
 |(m,b)::r=>if olds.contains m then(m,b)::CG olds r else CG olds r
def Pf(given mv:List Nat)(ks:List (Nat×Nat)):Bool:=
 Ep (ks.map (·.1))&&Ep (ks.map (·.2))&&ks.all fun p=>p.1==p.2||!(given.contains p.2)||mv.contains p.2
def Iw(st:St)(rs:List RV):Option D:=match Jy st rs with|some xs=>Nt xs|none=>none
def FY(rs:List RV)(given mv:List Nat)(R:D->List (Nat×Blk)->Prop)(st:St):Prop:=
 ∃l ks,match Iw (frzNs l st) rs with
  |some x=>Pf given mv ks=true/\(OL (CG (ks.map (·.1)) (frzNs l st).sto) x.nms=true/\Qo (CG (ks.map (·.1)) (frzNs l st).sto) (CG (ks.map (·.1)) (frzNs l st).sto)=true)/\
    R (J8 (kf ks) x) (J5 (kf ks) (CG (ks.map (·.1)) (frzNs l st).sto))
  |none=>False
def L7(rs:List RV)(given mv:List Nat)(R:D->List (Nat×Blk)->Prop):Exit->St->Prop
 |.normal,st=>FY rs given mv R st
 |.ret,st=>FY rs given mv R st
 |_,_=>False
def TN(tmps:Array Value):ResultVar->Sem Value
 |.tmp t=>pure (tmps.getD t Go.undef)
 |.cell a t=>do loadVar t (<-asAddr (tmps.getD a Go.undef))
theorem l5(fn:Func)(tmps:Array Value):results fn tmps=(do let vs <-fn.results.mapM (TN tmps);pure (if h:vs.size=1 then vs[0]else .tuple vs)):=by rfl
theorem l6(h:Rel GL n S M μ st a w){rv:ResultVar}{r:RV}{x:D}(hc:Iv P rv=some r)(hx:rvD st r=some x):∃v,(TN a.tmps rv).run P w=.ok v w/\AI M μ (names st.sto) x v:=by
 cases rv with
 |tmp t=>simp[Iv]at hc;subst hc;have he:=h.env t;simp only[rvD]at hx;split at hx<;>cases hx;exact⟨_,rfl,he⟩
 |cell t ty=>
  show∃v,(do loadVar ty (<-asAddr (a.tmps.getD t Go.undef)):Sem Value).run P w=.ok v w/\_;simp only[Iv]at hc;split at hc
  ·rename_i k ag hk ha;split at hc
   ·rename_i kt;cases hc;have hk1':ag=false->k=1:=fun e=>by subst e;simpa using kt
    have he:=h.env t;have w7:∀b oo,a.tmps.getD t Go.undef=.pointer (some ⟨b,oo,none⟩)->∀V,(loadVar ty ⟨b,oo,none⟩).run P w=.ok V w->(do loadVar ty (<-asAddr (a.tmps.getD t Go.undef)):Sem Value).run P w=.ok V w:=fun b oo e V hV=>by rw[e];simp only[Sem.run_bind,asAddr,Sem.run_pure,Result.andThen_ok,hV]
    simp only[rvD]at hx;split at hx
    ·rename_i cs off e;rw[e]at he;have he:=AJ he;split at hx
     ·rename_i jj;have jj:=Nat.le_of_ble_eq_true jj;cases hx;generalize hv:a.tmps.getD t Go.undef=vx at he;cases he with
      |elt _ _ b oo v hm hvv=>refine⟨_,by have:=w7 _ _ hv _ (OT hk ha hk1' (f:=fun j=>v (off+j)) fun j hj=>by rw[Nat.add_assoc];exact h.sub.1 _ _ _ (hm _ (by omega)));rw[hv]at this;exact this,AM (SS hk1' jj fun j hj=>hvv _ (by omega))⟩
     ·cases hx
    ·rename_i nm off e;rw[e]at he;obtain⟨hN,b,hμ,hxv⟩:=he;split at hx
     ·rename_i cs qt;split at hx
      ·rename_i jv;cases hx;rw[Bool.and_eq_true]at jv;have jj:=Nat.le_of_ble_eq_true jv.1;have jg:ag=true->BV ((cs.drop off).take k)=true:=fun e=>by have:=jv.2;rw[e]at this;simpa using this
       obtain⟨b',vs,ty,hμ',jc,j0,hv⟩:=h.blk nm _ qt;obtain rfl:b'=b:=by rw[hμ]at hμ';injection hμ' with e1;injection e1 with e2;injection e2 with e3;exact e3.symm
       have j4:∀j (hj:j<vs.size),w.cell? ⟨b',j,none⟩=some vs[j]:=fun j hj=>by simp[World.cell?,jc.heap,hj]
       refine⟨_,w7 _ _ hxv _ (OT hk ha hk1' (f:=fun j=>vs.getD (off+j) Go.undef) fun j hj=>?_),?_⟩
       ·rw[j4 _ (by omega)];simp[show off+j<vs.size by omega]
       ·cases ag with
        |true=>
         simp only[gG,if_true];show Rep M _ _;refine Rep.agg' ⟨by simp;omega,fun j h1 h2=>?_⟩;have hj:j<k:=by simpa using h2
         have hi:Ja (cs[off+j]'(by omega))=true:=by have:=jg rfl;simp only[BV,List.all_eq_true]at this;exact this _ (List.mem_iff_getElem.2 ⟨j,by simp;omega,by simp⟩)
         have:=OS (hv (off+j) (by omega) (by omega)) hi;simp[show off+j<vs.size by omega];exact this
        |false=>
         obtain rfl:=hk1' rfl;simp only[gG,Bool.false_eq_true,if_false,Nat.add_zero];have:cs.getD off .any=cs[off]'(by omega):=by simp[List.getD,List.getElem?_eq_getElem (show off<cs.length by omega)]
         rw[this];have:=hv off (by omega) (by omega);simpa[show off<vs.size by omega]using this
      ·cases hx
     ·cases hx
    ·cases hx
   ·cases hc
  ·cases hc
theorem Yt(h:Rel GL n S M μ st a w):∀{rvs:List ResultVar} {rs:List RV} {xs:List D},rvs.mapM (Iv P)=some rs->Jy st rs=some xs->∃vs,(rvs.mapM (TN a.tmps)).run P w=.ok vs w/\Dq M μ (names st.sto) xs vs
 |[],rs,xs,hc,hx=>by simp at hc;subst hc;simp[Jy]at hx;subst hx;exact⟨[],rfl,rfl,fun j hj=>by simp at hj⟩
 |rv::rvs,rs,xs,hc,hx=>by
  rw[List.mapM_cons]at hc;cases h1:Iv P rv with
  |none=>simp[h1]at hc
  |some r=>
   cases h2:rvs.mapM (Iv P)with
   |none=>simp[h1,h2]at hc
   |some rs'=>
    simp[h1,h2]at hc;subst hc;simp only[Jy]at hx;split at hx<;>cases hx;rename_i x xs' v6 hx2;obtain⟨v,e1,r1⟩:=l6 h h1 v6;obtain⟨vs,e2,r2⟩:=Yt h h2 hx2;refine⟨v::vs,by rw[List.mapM_cons];simp only[Sem.run_bind,e1,Result.andThen_ok,e2,Sem.run_pure],by simp[r2.1],fun j h1 h2=>?_⟩;cases j with
    |zero=>exact r1
    |succ j=>exact r2.2 j (by simpa using h1) (by simpa using h2)
theorem l7(h:Rel GL n S M μ st a w){fn:Func}{rs:List RV}{x:D}(hrs:fn.results.toList.mapM (Iv P)=some rs)(hx:Iw st rs=some x):∃v,(results fn a.tmps).run P w=.ok v w/\AI M μ (names st.sto) x v:=by
 unfold Iw at hx;split at hx
 ·rename_i xs hxs;obtain⟨us,e1,r1⟩:=Yt h hrs hxs;have e2:(results fn a.tmps).run P w=.ok (if h:us.toArray.size=1 then us.toArray[0]else .tuple us.toArray) w:=by rw[l5,Sem.run_bind,<-Array.toArray_toList (xs:=fn.results),List.mapM_toArray];simp_all
  by_cases h1:us.toArray.size=1
  ·rw[dif_pos h1]at e2;have hl:xs.length=1:=by have:=r1.1;simp at h1;omega
   match xs,hl,hx,r1 with
   |[y],_,hx,r1=>simp only[Nt,Option.some.injEq]at hx;subst hx;exact⟨_,e2,by have:=r1.2 0 (by simp) (by simp at h1;omega);simpa using this⟩
  ·rw[dif_neg h1]at e2;have hl:xs.length≠1:=by have:=r1.1;simp at h1;omega
   have hx':(if BV xs then some (D.i (.tup (xs.map Ii)))else none)=some x:=by
    match xs,hl,hx with
    |[],_,hx=>exact hx
    |[y],h0,_=>simp at h0
    |_::_::_,_,hx=>exact hx
   split at hx'
   ·rename_i ha;cases hx';refine⟨_,e2,AM (Rep.tup' ⟨by simpa using r1.1,fun j h1 h2=>?_⟩)⟩;have hj:j<xs.length:=by grind
    have hi:Ja xs[j]=true:=by grind[BV]
    have:=OS (r1.2 j hj (by simpa using h2)) hi;grind
   ·cases hx'
 ·cases hx
theorem Yu(olds:List Nat)(l:List (Nat×Blk))(m:Nat):Aa (CG olds l) m=if olds.contains m then Aa l m else none:=by
 induction l with
 |nil=>simp[CG,Aa]
 |cons x r ih=>grind[CG,Aa]
theorem l8(olds:List Nat)(l:List (Nat×Blk)):∀m b,Aa (CG olds l) m=some b->Aa l m=some b:=fun m b h=>by grind[Yu]
theorem StoOk.res(h:StoOk S.p M μ sto w){sto':List (Nat×Blk)}(hs:∀m b,Aa sto' m=some b->Aa sto m=some b)(hc:Qo sto' sto'=true):StoOk S.p M μ sto' w where
 sub:=h.sub
 blk:=fun nm b hb=>(h.blk nm b (hs nm b hb)).mono (Mem.le_refl _) rfl (fun m hm _=>⟨Js hc nm b hb m hm,rfl⟩) (fun _ _ _=>rfl) (fun _ _ _=>Mem.same_refl _ _)
 sep:=fun m m' k k' ji h1 h2=>by
  refine h.sep m m' k k' ji ?_ ?_
  ·obtain⟨x,hx⟩:=Option.isSome_iff_exists.1 h1;simp[names,hs m x hx]
  ·obtain⟨x,hx⟩:=Option.isSome_iff_exists.1 h2;simp[names,hs m' x hx]
 low:=h.low
theorem TO:∀{ks:List (Nat×Nat)} {o:Nat},o∈ks.map (·.1)->(o,kf ks o)∈ks
 |[],o,h=>by simp at h
 |(k,nw)::r,o,h=>by
  simp only[kf];split
  ·rename_i e;subst e;exact List.mem_cons_self
  ·rename_i e;simp only[List.map_cons,List.mem_cons]at h;exact List.mem_cons_of_mem _ (TO (h.resolve_left (Ne.symm e)))
theorem TP:∀{ks:List (Nat×Nat)},Ep (ks.map (·.2))=true->∀{o o' nw:Nat},(o,nw)∈ks->(o',nw)∈ks->o=o'
 |[],_,o,o',nw,h,_=>by simp at h
 |(k,m)::r,hd,o,o',nw,h,h'=>by
  obtain⟨h1,h2⟩:=Tz (by simpa using hd);simp only[List.mem_cons,Prod.mk.injEq]at h h';rcases h with⟨e1,e2⟩|h<;>rcases h' with⟨e3,e4⟩|h'
  ·rw[e1,e3]
  ·subst e2;exact(h1 (List.mem_map.2 ⟨_,h',rfl⟩)).elim
  ·subst e4;exact(h1 (List.mem_map.2 ⟨_,h,rfl⟩)).elim
  ·exact TP h2 h h'
def kb:List (Nat×Nat)->Nat->Option Nat
 |[],_=>none
 |(o,nw)::r,m=>if nw=m then some o else kb r m
theorem TQ:∀{ks:List (Nat×Nat)} {m o:Nat},kb ks m=some o->(o,m)∈ks
 |[],m,o,h=>by cases h
 |(k,nw)::r,m,o,h=>by
  simp only[kb]at h;split at h
  ·rename_i e;subst e;cases h;exact List.mem_cons_self
  ·exact List.mem_cons_of_mem _ (TQ h)
theorem Yv:∀{ks:List (Nat×Nat)} {m o:Nat},(o,m)∈ks->(kb ks m).isSome=true
 |[],m,o,h=>by simp at h
 |(k,nw)::r,m,o,h=>by
  simp only[kb];split
  ·rfl
  ·rename_i e;simp only[List.mem_cons,Prod.mk.injEq]at h;exact Yv (h.resolve_left fun q=>e q.2.symm)
theorem AQ.put{S:Nat->Prop}{M:Mem}{μ:Place}{N:Nat->Prop}{w:World}{nm b:Nat}{x:Blk}{o:Obj}(h:AQ S M μ N w nm x)(hd:∃ds,w.heap[b]? =some (.deferred ds)):AQ S M μ N (w.putObj b o) nm x:=by
 have own:∀{k:Nat} {q:Obj},Owns S M w k q->(∀ds,q≠.deferred ds)->Owns S M (w.putObj b o) k q:=fun{k q} hq ji=>⟨hq.low,by
  obtain⟨ds,hd⟩:=hd;rw[World.putObj_heap_other (fun e=>by subst e;rw[hq.heap]at hd;cases hd;exact ji ds rfl)];exact hq.heap,hq.unk⟩
 cases x with
 |cells cs=>obtain⟨bb,vs,t,e,ho,j0,hr⟩:=h;exact⟨bb,vs,t,e,own ho (fun _=>by simp),j0,hr⟩
 |rows e k rs=>obtain⟨aa,cap,e,hh⟩:=h;refine⟨aa,cap,e,hh.imp id ?_⟩;grind
 |map ls es=>obtain⟨bb,xs,clk,e,ho,q⟩:=h;exact⟨bb,xs,clk,e,own ho (fun _=>by simp),q⟩
 |iter cur rest=>obtain⟨bb,mm,since,seen,last,e,ho,q⟩:=h;exact⟨bb,mm,since,seen,last,e,own ho (fun _=>by simp),q⟩
 |lp l q cs=>obtain⟨vs,e,ho,q⟩:=h;exact⟨vs,e,own ho (fun _=>by simp),q⟩
 |gmap ls clk es=>obtain⟨bb,xs,e,ho,q⟩:=h;exact⟨bb,xs,e,own ho (fun _=>by simp),q⟩
 |arr e k rs=>obtain⟨aa,e1,hh⟩:=h;refine⟨aa,e1,hh.imp id ?_⟩;grind
theorem AQ.shr{S S':Nat->Prop}{M:Mem}{μ:Place}{N:Nat->Prop}{w:World}{nm:Nat}{x:Blk}(hs:∀b,S b->S' b)(h:AQ S' M μ N w nm x):AQ S M μ N w nm x:=
 h.reS fun k _ hS=>hs k hS
theorem StoOk.shr{S S':Nat->Prop}{M:Mem}{μ:Place}{l:List (Nat×Blk)}{w:World}(hs:∀b,S b->S' b)(h:StoOk S' M μ l w):StoOk S M μ l w:=
 ⟨h.sub,fun nm b hb=>(h.blk nm b hb).shr hs,h.sep,fun b hb=>h.low b (hs b hb)⟩
theorem StoOk.put{S:Nat->Prop}{M:Mem}{μ:Place}{l:List (Nat×Blk)}{w:World}{b:Nat}{o:Obj}(h:StoOk S M μ l w)(hd:∃ds,w.heap[b]? =some (.deferred ds)):StoOk S M μ l (w.putObj b o):=by
 refine⟨⟨fun k q v hk=>?_,fun k x hk=>?_⟩,fun nm x hx=>(h.blk nm x hx).put hd,h.sep,fun k hk=>by rw[World.putObj_size];exact h.low k hk⟩
 ·have h1:=h.sub.1 k q v hk;obtain⟨ds,hd⟩:=hd;have ji:k≠b:=fun e=>by subst e;simp[World.cell?,hd]at h1
  rw[<-h1];exact World.cell?_of_block (World.putObj_heap_other ji)
 ·have h1:=h.sub.2 k x hk;obtain⟨ds,hd⟩:=hd;have ji:k≠b:=fun e=>by grind
  rw[World.putObj_heap_other ji];exact h1
theorem Keeps.put{S:Nat->Prop}{w w':World}{b:Nat}{o:Obj}(h:Keeps S w w')(hb:¬S b):Keeps S w (w'.putObj b o):=
 ⟨h.os,h.tape,h.output,by rw[World.putObj_size];exact h.size,fun k hk=>by rw[World.putObj_heap_other (k:=k) (r:=b) (fun e=>hb (by rw[<-e];exact hk))];exact h.block k hk,h.drawn⟩
theorem l9{f:FuncId}{fn:Func}{mu:List Nat}{rt:List (Nat×Nat)}{j:J}{hh:List (Nat×List (List Nat))}{args:List D}{mv:List Nat}{R:D->List (Nat×Blk)->Prop}{rs:List RV}(hf:P.funcs[f]? =some fn)(hname:(fn.name != "runtime.NumGoroutine")=true)
  (hn:fn.ntmps=n)(jz:Nat.ble args.length n=true)(h999:Nat.ble n 999=true)(hbc:fn.body.bind (comp P GL n mu true rt hh)=some j.ir)(hrs:fn.results.toList.mapM (Iv P)=some rs)
  (hpin:((sto.map (·.1)).all fun m=>(Nat.ble 5000 m&&Nat.blt m 5500)||mv.contains m)=true)
  (hw:W2 P GL j (L7 rs (sto.map (·.1)) mv R) ⟨.l (Eg 0 args),sto⟩)(hfy:Nat.blt f 1000000000=true:=by first|rfl|assumption):MC P GL f args sto mv R:=by
 obtain⟨c,hb,hc⟩:=Option.bind_eq_some_iff.1 hbc;have jz:args.length<=n:=Nat.le_of_ble_eq_true jz;have h999:n<=999:=Nat.le_of_ble_eq_true h999;intro M μ w vs ki qg hr;refine .inl ⟨by unfold De;rw[hfy,hf];simp only[hname,Bool.true_and,hb,Option.isSome_some],?_⟩;have hvl:vs.size=args.length:=by simpa using hr.1
 subst hn;have h0:Rel GL fn.ntmps (AN μ sto w) M μ ⟨.l (Eg 0 args),sto⟩ {tmps:=vs++Array.replicate (fn.ntmps-vs.size) Go.undef,defers:=[]} w:=
  {toStoOk:=ki,small:=h999,pin:=fun _ _=>rfl,defers:=rfl,size:=by simp;omega,env:=fun s=>by refine TA args vs.toList 0 hr s _ (fun hl _=>?_);simp at hl;simp[hl,Array.getElem?_append],glob:=qg}
 refine callsIn_wide.1 (callsIn_of_wp_marks (n:=0) hf hb trivial (wpIn_mono (l4 c none _ hc (.inl rfl) _ _ M _ _ _ w h0 hw) ?_));rintro e a' w' ⟨st',hk,S',vo,M',μ',hS',hm,hkeep'⟩;have fin:∀w1,Rel GL fn.ntmps (AN μ sto w) M' μ' st' ⟨a'.tmps,[]⟩ w1->Keeps (AN μ sto w).p w w1->FY rs (sto.map (·.1)) mv R st'->∃v,(results fn a'.tmps).run P w1=.ok v w1/\∃v1,Ending.returned v=Ending.returned v1/\∃r sto' M'' μ'',R r sto'/\StoOk (AN μ sto w) M'' μ'' sto' w1/\AI M'' μ'' (names sto') r v1/\
   MExt (AN μ sto w) M M''/\Keeps (AN μ sto w) w w1/\∀nm,names sto nm->nm∉mv->μ'' nm=μ nm:=by
  intro w1 h' xe j8;obtain⟨l,ks,j8⟩:=j8;obtain⟨M2,h2,m2⟩:=h'.frzNs l;generalize frzNs l st'=st2 at j8 h2;split at j8
  ·rename_i x hx;obtain⟨v,jf,hxr⟩:=l7 h2 hrs hx;obtain⟨hko,⟨kh,wh⟩,hR⟩:=j8;simp only[Pf,Bool.and_eq_true,List.all_eq_true,Bool.or_eq_true,beq_iff_eq,Bool.not_eq_true']at hko;obtain⟨⟨kt,qo⟩,qh⟩:=hko;generalize jh:CG (ks.map (·.1)) st2.sto=sto2 at kh wh hR;have hsub2:∀m b,Aa sto2 m=some b->Aa st2.sto m=some b:=fun m b hb=>by grind[l8]
   have wg:∀m,names sto2 m->m∈ks.map (·.1):=fun m hm=>by grind[names,Yu]
   have v7:StoOk (AN μ sto w).p M2 μ' sto2 w1:=h2.toStoOk.res hsub2 wh;have hinj:∀a b,names sto2 a->names sto2 b->kf ks a=kf ks b->a=b:=fun a b ha hb e=>by grind[TO,TP]
   let μ2:Place:=fun m=>match kb ks m with|some o=>μ' o|none=>μ m
   have hμ2:∀m,names sto2 m->μ2 (kf ks m)=μ' m:=fun m hm=>by have h1:=TO (wg m hm);obtain⟨o,ho⟩:=Option.isSome_iff_exists.1 (Yv h1);have:o=m:=TP qo (TQ ho) h1;grind
   refine⟨v,jf,v,rfl,_,_,M2,μ2,hR,v7.mp hinj hμ2 (fun _=>Iff.rfl),?_,hm.trans m2,xe,fun nm jl hmv=>?_⟩
   ·have:AI M2 μ' (names sto2) x v:=hxr.mono' (Mem.le_refl _) fun q hq _=>⟨Fl kh q hq,rfl⟩
    exact this.mp (fun m hm=>G7 hm) hμ2
   ·simp only[μ2];cases hb:kb ks nm with
    |none=>rfl
    |some o=>
     have kl:=TQ hb;have hg:nm∈sto.map (·.1):=CE.2 jl;rcases qh _ kl with(e|e)|e
     ·simp only at e;subst e;simp only;rw[List.all_eq_true]at hpin;have:=hpin _ hg;simp only[Bool.or_eq_true,Bool.and_eq_true,Nat.ble_eq,Nat.blt_eq]at this;rcases this with q|q
      ·exact h2.pin _ q
      ·exact(hmv (List.contains_iff_mem.1 q)).elim
     ·have:=List.contains_iff_mem.2 hg;simp only at e;rw[e]at this;cases this
     ·exact(hmv (List.contains_iff_mem.1 e)).elim
  ·exact j8.elim
 obtain⟨bs,hbs,hnd,qp⟩:=vo.ds;have wu:a'.defers=bs.map mkD:=by rw[hS'.defers,hbs];exact List.append_nil _
 have hq:S'.q=(AN μ sto w).q:=vo.q;have key:FY rs (sto.map (·.1)) mv R st'->∀(bs:List Nat) (w1:World),bs.Nodup->(∀b∈bs,¬(AN μ sto w).p b/\w1.heap[b]? =some (.deferred (some [])))->StoOk (AN μ sto w).p M' μ' st'.sto w1->Keeps (AN μ sto w).p w w1->
   LeavesInM Fence.wide 0 P fn a'.tmps (fun e w'=>∃v,e=.returned v/\∃r sto' M' μ',R r sto'/\StoOk (AN μ sto w) M' μ' sto' w'/\AI M' μ' (names sto') r v/\MExt (AN μ sto w) M M'/\Keeps (AN μ sto w) w w'/\∀nm,names sto nm->nm∉mv->μ' nm=μ nm) (bs.map mkD) .returning w1:=by
  intro j8 bs
  induction bs with
  |nil=>intro w1 _ _ hs hk;obtain⟨v,jf,hh⟩:=fin w1 {toStoOk:=hs,small:=hS'.small,pin:=fun m hm=>(hS'.pin m hm).trans (by rw[hq]),defers:=rfl,size:=hS'.size,env:=hS'.env,glob:=hS'.glob} hk j8;exact⟨v,jf,hh⟩
  |cons b bs ih=>intro w1 hnd qp hs hk;have hb:=qp b List.mem_cons_self;refine⟨by simp,.inl ⟨b,w1.putObj b (.deferred none),rfl,run_takeDeferred hb.2,?_⟩⟩;refine ih _ (List.nodup_cons.1 hnd).2 (fun k (jk:k∈bs)=>⟨(qp k (List.mem_cons_of_mem _ jk)).1,?_⟩) (hs.put ⟨_,hb.2⟩) (hk.put hb.1);rw[World.putObj_heap_other (k:=k) (r:=b) (fun e=>(List.nodup_cons.1 hnd).1 (by rw[<-e];assumption))];exact(qp k (List.mem_cons_of_mem _ jk)).2
 have go:FY rs (sto.map (·.1)) mv R st'->_:=fun j8=>key j8 bs w' hnd (fun b hb=>⟨(qp b hb).2.1,(qp b hb).2.2⟩) (hS'.toStoOk.shr vo.p) hkeep'
 rw[<-wu]at go;cases e with
 |normal=>exact go hk
 |ret=>exact go hk
 |_=>exact hk.elim
end
end Go.Dl
end
