/-Lemmas.-/
import Derived.Test.YtojgbkiejjingaaGreatDoorV7
set_option linter.all false
section
namespace Go.Dl
open Go Go.RowKit
variable{st s t:St}{nm d0:Nat}{b:Blk}{N:List Nat}{g:GI}{p:Option (Nat×D)}{ins:Ins}
def Hx(p:Option (Nat×D))(v st:St):Prop:=(∀i,Aj v.env i=B1 p (Aj st.env) i)/\∀m,Aa v.sto m=Aa st.sto m
theorem Xp{c:Cp}(h:nm∉c.nms):fc nm b c=c:=by
 cases c with
 |ref r=>simp only[fc];cases r<;>simp only[Cp.nms,Zfq,Ref.nm]at h<;>simp[VP,Ref.nm,Ne.symm h]
 |_=>rfl
theorem Xq{l:List Cp}(h:nm∉l.flatMap Cp.nms):l.map (fc nm b)=l:=by
 conv=>rhs;rw[<-Ze3 l]
 exact Ze0 fun c hc=>Xp fun hn=>h (Zff.2 ⟨c,hc,hn⟩)
theorem OM{d:D}(h:nm∉d.nms):PZ nm b d=d:=by
 cases d with
 |ref r=>simp only[D.nms,Zfq]at h;simp[PZ,VP,Ne.symm h,Cp.toD]
 |fn f x y=>grind[D.nms,PZ,Xq]
 |tup cs=>simp only[PZ];rw[Xq h]
 |_=>rfl
theorem Xr{l:List D}(h:nm∉l.flatMap D.nms):l.map (PZ nm b)=l:=by
 conv=>rhs;rw[<-Ze3 l]
 exact Ze0 fun c hc=>OM fun hn=>h (Zff.2 ⟨c,hc,hn⟩)
theorem Th{x:Blk}(h:nm∉x.nms):eW nm b x=x:=by
 cases x with
 |cells l=>simp only[eW];rw[Xr h]
 |lp l q cs=>simp only[eW];rw[Xr h]
 |gmap ls clk es=>
  simp only[eW];congr 1
  conv=>rhs;rw[<-Ze3 es]
  exact Ze0 fun e he=>by rw[OM (fun hn=>h (Zff.2 ⟨e,he,hn⟩))];rfl
 |_=>rfl
theorem Xs{N:List Nat}{st:St}:∀{l:List Nat},Lr N st l↔∀m∈l,m∉N/\Lq (Aa st.sto m)
 |[]=>by simp[Lr]
 |m::r=>by simp only[Lr,Xs (l:=r),Zdv];simp
theorem Qp{N:List Nat}{st:St}:∀{us:List Nat},Eh N st us↔∀u∈us,∀m∈(Aj st.env u).nms,m∉N/\Lq (Aa st.sto m)
 |[]=>by simp[Eh]
 |u::r=>by simp only[Eh,Qp (us:=r),Xs,Zdv]
section
variable {P:Program}{GL:List (Nat×List I)}{sn:List Nat}
theorem Ti{v:St}(h:Hx p v st){o:O}(hd:∀d x,p=some (d,x)->d∉F0 o):AZ GL v o=AZ GL st o:=by
 cases o<;>simp only[AZ];rename_i n;rw[h.1];cases p with
 |none=>rfl
 |some q=>obtain⟨d,x⟩:=q;simp only[B1];rw[Zac];intro e;exact hd d x rfl (by simp[F0,e])
def GQ:List (Nat×Blk)->D->D
 |[],x=>x
 |(nm,b)::r,x=>GQ r (PZ nm b x)
def MM:List (Nat×Blk)->Cp->Cp
 |[],x=>x
 |(nm,b)::r,x=>MM r (fc nm b x)
theorem Xt:∀(l:List (Nat×Blk)) {x:D},(∀q∈l,q.1∉x.nms)->GQ l x=x
 |[],_,_=>rfl
 |(nm,b)::r,x,h=>by have e:PZ nm b x=x:=OM (h (nm,b) Zfd);simp only[GQ,e];exact Xt r fun q hq=>h q (Zfc _ hq)
theorem Xu:∀(l:List (Nat×Blk)) {x:Cp},(∀q∈l,q.1∉x.nms)->MM l x=x
 |[],_,_=>rfl
 |(nm,b)::r,x,h=>by have e:fc nm b x=x:=Xp (h (nm,b) Zfd);simp only[MM,e];exact Xu r fun q hq=>h q (Zfc _ hq)
theorem Xv:∀(l:List (Nat×Blk)) (x:I),GQ l (.i x)=.i x
 |[],_=>rfl
 |(nm,b)::r,x=>Xv r x
theorem Xw:∀(l:List (Nat×Blk)) (cs:List Cp),GQ l (.tup cs)=.tup (cs.map (MM l))
 |[],cs=>by simp[MM,GQ]
 |(nm,b)::r,cs=>by simp only[GQ,PZ,Xw r];rw[Ze4];rfl
def MN(N:List Nat)(d:Nat)(st s':St):Prop:=(∃l:List (Nat×Blk),(∀q∈l,q.1∈N)/\∀u,d≠u->Aj s'.env u=GQ l (Aj st.env u))/\∀m b,Aa st.sto m=some b->m∉N->b.nms=[]->Aa s'.sto m=some b
theorem MN.out{d:Nat}{s':St}(h:MN N d st s')(u:Nat)(hu:d≠u)(hn:∀m∈(Aj st.env u).nms,m∉N):Aj s'.env u=Aj st.env u:=by obtain⟨⟨l,h1,h2⟩,_⟩:=h;grind[Xt]
theorem Tj{p:Option (Nat×D)}:∀(l:List Nat) {v st:St},Hx p v st->(∀d x,p=some (d,x)->∀m∈x.nms,m∉l)->Hx p (frzNs l v) (frzNs l st)
 |[],v,st,hs,_=>hs
 |nm::l,v,st,hs,h=>by
  simp only[frzNs];refine Tj l ?_ fun d x e m hm hl=>h d x e m hm (Zfc _ hl)
  unfold St.frzN;rw[hs.2 nm];split
  ·split
   ·refine⟨fun i=>?_,fun m=>?_⟩
    ·simp only[St.frz,Aj,hs.1];cases p with
     |none=>rfl
     |some q=>grind[B1,OM]
    ·simp only[St.frz,JM,Hl,hs.2]
   ·exact hs
  ·exact hs
theorem Tk:∀(l:List Nat) (st:St),(∃L:List (Nat×Blk),(∀q∈L,q.1∈l)/\∀u,Aj (frzNs l st).env u=GQ L (Aj st.env u))/\∀m b,Aa st.sto m=some b->m∉l->b.nms=[]->Aa (frzNs l st).sto m=some b
 |[],st=>⟨⟨[],by simp,fun _=>rfl⟩,fun _ _ h _ _=>h⟩
 |nm::l,st=>by
  simp only[frzNs];obtain⟨⟨L,h0,h1⟩,h2⟩:=Tk l (st.frzN nm);have k2:∀m b,Aa st.sto m=some b->m≠nm->b.nms=[]->Aa (st.frzN nm).sto m=some b:=fun m b hm jg hb=>by
   unfold St.frzN;split
   ·split
    ·simp_all[St.frz,JM,Hl,Th]
    ·exact hm
   ·exact hm
  refine⟨?_,fun m b hm hn hb=>h2 m b (k2 m b hm (fun e=>hn (e▸Zfd)) hb) (fun hl=>hn (Zfc _ hl)) hb⟩;have k0:(∃b,∀u,Aj (st.frzN nm).env u=PZ nm b (Aj st.env u))\/∀u,Aj (st.frzN nm).env u=Aj st.env u:=by
   unfold St.frzN;split
   ·rename_i b _;split
    ·exact .inl ⟨b,fun u=>rfl⟩
    all_goals grind
   all_goals grind
  rcases k0 with⟨b,k0⟩|k0
  ·refine⟨(nm,b)::L,fun q hq=>?_,fun u=>by rw[h1,k0];rfl⟩;grind
  ·exact⟨L,fun q hq=>Zfc _ (h0 q hq),fun u=>by rw[h1,k0]⟩
theorem Qq{os:List O}(ho:∀o∈os,AZ GL s o=AZ GL t o)(hs:∀m,Aa s.sto m=Aa t.sto m):oN GL s os=oN GL t os:=by
 have e:(os.flatMap fun o=>(AZ GL s o).nms)=os.flatMap fun o=>(AZ GL t o).nms:=by rw[Zdq,Zdq];exact Zae List.flatten (Ze0 fun o h=>by rw[ho o h])
 grind[oN,Hn]
theorem Xx{v st0:St}{os:List O}{get:St->Option (FuncId×List D)}{K:St->Prop}(hs:Hx p v st)(hp:∀d x,p=some (d,x)->d0≠d)(he:∀o∈os,AZ GL v o=AZ GL st o)(hg:get v=get st)
  (hk:(∃L:List (Nat×Blk),(∀q∈L,q.1∈N)/\∀u,Aj st.env u=GQ L (Aj st0.env u))/\∀m b,Aa st0.sto m=some b->m∉N->b.nms=[]->Aa st.sto m=some b)(h:J4 P GL get os (some d0) v K):
  J4 P GL get os (some d0) st (fun s'=>(∃q,K q/\Hx p q s')/\MN N d0 st0 s'):=by
 unfold J4 at h⊢;rw[<-hg];split at h
 ·rename_i q _;obtain⟨h1,y,h2,h3⟩:=h;refine⟨?_,y,h2,⟨_,h3,fun i=>?_,hs.2⟩,⟨hk.1.choose,hk.1.choose_spec.1,fun u hu=>?_⟩,hk.2⟩
  ·rw[Zcu]at h1⊢;exact fun o ho=>by grind
  ·simp only[putO,St.put,Aj];cases p with
   |none=>simp only[B1,hs.1]
   |some q=>
    obtain⟨d,x⟩:=q;have jg:=hp d x rfl;simp only[B1,hs.1];by_cases h4:d=i
    ·subst h4;rw[Zac jg,Zaa rfl,Zaa rfl]
    ·rw[Zac h4,Zac h4]
  ·simp only[putO,St.put,Aj,Zac hu];exact hk.1.choose_spec.2 u
 ·exact h.elim
theorem frame(hc:Kd ins=true)(hdst:ins.dst=some d0){p:Option (Nat×D)}{v st:St}{K:St->Prop}(hs:Hx p v st)(hp:∀d x,p=some (d,x)->(∀m∈x.nms,m∉eR GL ins st)/\(∀o∈CH ins,d∉F0 o)/\d0≠d)
  (h:step P GL ins v K):step P GL ins st (fun s'=>(∃q,K q/\Hx p q s')/\MN (eR GL ins st) d0 st s'):=by
 have w8:∀o∈CH ins,AZ GL v o=AZ GL st o:=fun o ho=>Ti hs fun d x e=>(hp d x e).2.1 o ho
 have kr:Aa v.sto=Aa st.sto:=funext hs.2;have inN:(eR GL ins st=(CH ins).flatMap fun o=>(AZ GL st o).nms)->∀{o:O} {nm:Nat},o∈CH ins->nm∈(AZ GL st o).nms->nm∈eR GL ins st:=fun e _ _ ho hn=>by grind
 have hN0:∀(ins':Ins),ins=ins'->eR GL ins st=eR GL ins' st:=fun _ e=>by rw[e]
 generalize hN:eR GL ins st=N at hp inN hN0;have fin:∀(x0:D) (f:St->St),(∀s,(f s).env=s.env)->(∀s t:St,(∀m,Aa s.sto m=Aa t.sto m)->∀m,Aa (f s).sto m=Aa (f t).sto m)->(∀m b,Aa st.sto m=some b->m∉N->b.nms=[]->Aa (f st).sto m=some b)->K ((f v).put d0 x0)->(∃q,K q/\Hx p q ((f st).put d0 x0))/\MN N d0 st ((f st).put d0 x0):=fun x0 f hf1 hf2 hf3 hk=>by
  refine⟨⟨_,hk,fun i=>?_,fun m=>hf2 v st hs.2 m⟩,⟨[],by simp,fun u hu=>?_⟩,hf3⟩
  ·simp only[St.put,Aj,hf1];cases p with
   |none=>simp only[B1,hs.1]
   |some q=>obtain⟨d,x⟩:=q;have jg:=(hp d x rfl).2.2;simp only[B1,hs.1];grind
  all_goals grind[St.put,Aj,GQ]
 have finS:∀(x0:D) (nm:Nat) (bl:Blk),nm∈N->K (((⟨.sb nm (.iter none []) v.env,Sk nm (.iter none []) v.sto⟩:St).setB nm bl).put d0 x0)->(∃q,K q/\Hx p q (((⟨.sb nm (.iter none []) st.env,Sk nm (.iter none []) st.sto⟩:St).setB nm bl).put d0 x0))/\MN N d0 st (((⟨.sb nm (.iter none []) st.env,Sk nm (.iter none []) st.sto⟩:St).setB nm bl).put d0 x0):=fun x0 nm bl jl hk=>by
  refine⟨⟨_,hk,fun i=>?_,fun m=>?_⟩,⟨[(nm,.iter none [])],by simpa using jl,fun u hu=>?_⟩,fun m b hb hm hbn=>?_⟩
  ·simp only[St.put,St.setB,Aj];cases p with
   |none=>simp only[B1,hs.1]
   |some q=>obtain⟨d,x⟩:=q;obtain⟨hx,_,jg⟩:=hp d x rfl;simp only[B1,hs.1];grind[OM]
  ·simp_all[St.put,St.setB,CO,Hl]
  all_goals grind[St.put,St.setB,Aj,GQ,CO,Hl,Th]
 have setK:∀(nm:Nat) (bl:Blk),nm∈N->∀m b,Aa st.sto m=some b->m∉N->b.nms=[]->Aa (st.setB nm bl).sto m=some b:=fun nm bl jl m b hb hm _=>by grind[St.setB,CO]
 have bindK:∀(nm:Nat) (bl:Blk),Aa st.sto nm=none->∀m b,Aa st.sto m=some b->m∉N->b.nms=[]->Aa (st.bind nm bl).sto m=some b:=fun nm bl hnone m b hb hm _=>by grind[St.bind,Aa]
 cases ins<;>simp only[Kd,Zb4]at hc
 case app d e k b ox oy=>
  obtain rfl:d=d0:=by grind[Ins.dst]
  have e1:=w8 ox (by simp[CH]);have e2:=w8 oy (by simp[CH]);simp only[step,I2,e1,e2]at h⊢;split at h
  ·rename_i nm k0 lo hi ex;have jl:nm∈N:=inN hN.symm (o:=ox) (by simp[CH]) (by rw[ex];simp[D.nms,Ref.nm]);simp only[kr]at h;unfold J2 at h⊢;split at h
   ·rename_i e' k' rs hg;split at h
    ·rename_i ys hy;obtain⟨a1,a2,a3,a4,a5,a6,a7,a8⟩:=h;refine⟨a1,a2,a3,a4,a5,a6,fun q=>?_,fun q=>?_⟩
     ·exact fin _ (fun s=>s.setB nm _) (fun s=>rfl) (fun s t jf m=>by simp only[St.setB,CO,jf]) (setK nm _ jl) (a7 q)
     ·obtain⟨as,b1,b2,b3,b4,b5,b6⟩:=a8 q;exact⟨as,b1,b2,b3,b4,b5,fun c=>fin _ (fun s=>s.bind d _) (fun s=>rfl) (fun s t jf m=>by simp only[St.bind,Aa,jf]) (bindK d _ b5) (b6 c)⟩
    ·exact h.elim
   ·split at h
    ·unfold JT at h⊢;split at h
     ·obtain⟨a1,a2,a3,a4,a5,a6,a7,a8,a9,a10⟩:=h;exact⟨a1,a2,a3,a4,a5,a6,a7,a8,a9,finS _ _ _ jl a10⟩
     ·exact h.elim
    ·exact h.elim
  ·exact h.elim
 case bsl d e k ps=>
  obtain rfl:d=d0:=by grind[Ins.dst]
  cases ps with
  |cons a l=>
   have e1:∀o∈a::l,AZ GL v o=AZ GL st o:=fun o ho=>w8 o (by simpa[CH]using ho)
   have e2:((a::l).map fun o=>cellsI (H1 (AZ GL v o)))=(a::l).map fun o=>cellsI (H1 (AZ GL st o)):=Ze0 fun o ho=>by rw[e1 o ho]
   have e3:((a::l).all fun o=>JH (AZ GL v o)&&((cellsI (H1 (AZ GL v o))).length==k)&&(cellsI (H1 (AZ GL v o))).all I.one)=(a::l).all fun o=>JH (AZ GL st o)&&((cellsI (H1 (AZ GL st o))).length==k)&&(cellsI (H1 (AZ GL st o))).all I.one:=by grind
   simp only[step]at h⊢;rw[e2,e3]at h;exact⟨h.1,fin _ (fun s=>s) (fun s=>rfl) (fun s t jf m=>jf m) (fun m b hb _ _=>hb) h.2⟩
  |nil=>
   simp only[step,kr]at h⊢;unfold step.nilsE' at h⊢;split at h
   ·rename_i hnone;exact fin _ (fun s=>s.bind d _) (fun s=>rfl) (fun s t jf m=>by simp only[St.bind,Aa,jf]) (bindK d _ hnone) h
   ·exact h.elim
 case callf d f args=>
  obtain rfl:d=some d0:=by grind[Ins.dst]
  have e1:∀o∈args,AZ GL v o=AZ GL st o:=fun o ho=>w8 o (by simpa[CH]using ho)
  have e2:oN GL v args=oN GL st args:=Qq e1 hs.2;have hN':N=oN GL st args:=hN.symm;simp only[step,Ed,e2]at h⊢;rw[<-hN']at h⊢;have hs1:=Tj N hs fun d x e m hm=>(hp d x e).1 m hm
  have e3:∀o∈args,AZ GL (frzNs N v) o=AZ GL (frzNs N st) o:=fun o ho=>Ti hs1 fun d x e=>(hp d x e).2.1 o (by simpa[CH]using ho)
  refine Xx hs1 (fun d x e=>(hp d x e).2.2) e3 ?_ (Tk N st) h;simp only[EX,Ze0 e3]
 case callvf d fo args=>
  obtain rfl:d=some d0:=by grind[Ins.dst]
  have e1:∀o∈fo::args,AZ GL v o=AZ GL st o:=fun o ho=>w8 o (by simpa[CH]using ho)
  have e2:oN GL v (fo::args)=oN GL st (fo::args):=Qq e1 hs.2;have hN':N=oN GL st (fo::args):=hN.symm;simp only[step,Ed,e2]at h⊢;rw[<-hN']at h⊢;have hs1:=Tj N hs fun d x e m hm=>(hp d x e).1 m hm
  have e3:∀o∈fo::args,AZ GL (frzNs N v) o=AZ GL (frzNs N st) o:=fun o ho=>Ti hs1 fun d x e=>(hp d x e).2.1 o (by simpa[CH]using ho)
  refine Xx hs1 (fun d x e=>(hp d x e).2.2) e3 ?_ (Tk N st) h;simp only[DF,e3 fo (by simp),Ze0 fun o ho=>e3 o (Zfc _ ho)]
 case callo d f args=>
  obtain rfl:d=d0:=by grind[Ins.dst]
  have e1:args.map (AZ GL v)=args.map (AZ GL st):=Ze0 fun o ho=>w8 o (by simpa[CH]using ho)
  simp only[step,P4,e1]at h⊢;obtain⟨h1,R,h2,h3⟩:=h;refine⟨h1,R,h2,fun r sto' hr=>?_⟩;obtain⟨q1,q2⟩:=h3 r sto' hr;refine⟨fun nm hm=>by rw[<-kr];exact q1 nm hm,?_⟩;refine fin _ (fun s=>⟨s.env,A7 d sto'++s.sto⟩) (fun s=>rfl) (fun s t jf m=>by simp only[JP,jf]) (fun m b hb hm hbn=>?_) q2;simp only[JP];cases hg:Aa (A7 d sto') m with
  |none=>exact hb
  |some x=>have j9:m∈(A7 d sto').map (·.1):=Cl.2 (by simp only[names,hg];rfl);have:=(q1 m j9).1;rw[kr,hb]at this;cases this
 case ment d ox ok z ls e k=>
  obtain rfl:d=d0:=by grind[Ins.dst]
  have e1:=w8 ox (by simp[CH]);have e2:=w8 ok (by simp[CH]);simp only[step,JW,e1,e2]at h⊢;split at h
  ·rename_i nm q ex _;have jl:nm∈N:=inN hN.symm (o:=ox) (by simp[CH]) (by rw[ex];simp[D.nms,Ref.nm]);obtain⟨h1,h⟩:=h;refine⟨h1,?_⟩;simp only[kr]at h;unfold JV at h⊢;split at h
   ·obtain⟨h2,h⟩:=h;refine⟨h2,?_⟩;split at h
    ·unfold I0 at h⊢;split at h
     ·split at h
      ·exact fin _ (fun s=>s.setB _ _) (fun s=>rfl) (fun s t jf m=>by simp only[St.setB,CO,jf]) (setK nm _ jl) h
      ·exact h.elim
     ·exact h.elim
    ·unfold IZ at h⊢;simp only[kr]at h;generalize hfr:Aa st.sto (Ar d _)=fr at h⊢;cases z<;>try exact h.elim
     rename_i rows;cases rows with
     |cons _ _=>exact h.elim
     |nil=>cases fr with
      |some _=>exact h.elim
      |none=>exact fin _ (fun s=>(s.bind _ _).setB _ _) (fun s=>rfl) (fun s t jf m=>by simp only[St.setB,St.bind,CO,Aa,jf]) (fun m b hb hm hbn=>by
        have h1:=bindK _ (.rows e k []) hfr m b hb hm hbn;have jg:m≠nm:=fun e=>hm (e▸jl)
        simp only[St.setB,CO,Zac jg];exact h1) h
   ·exact h.elim
  ·exact h.elim
theorem Qs{g:X}(h:Lo g.1.ins=true):fh GL g st=none:=by
 unfold fh;split
 ·unfold wrI;grind[Lo]
 ·rfl
structure Late(us:List Nat)(g:GI)(l:List X):Prop where
 pure:∀b∈l,Lo b.1.ins=true
 uses:∀b∈l,∀u∈Ib b.1,u∈us
 dst:∀b∈l,∀d,b.1.ins.dst=some d->d∈us/\d∉CQ b.1/\(∀o∈CH g.ins,d∉F0 o)/\d∉Ia g
 own:∀d,g.ins.dst=some d->d∉us
 own2:∀b∈l,∀d,g.ins.dst=some d->d∉CQ b.1
 ord:l.Pairwise fun b c=>∀d,c.1.ins.dst=some d->d∉CQ b.1/\b.1.ins.dst≠some d
theorem Xy(ho:∀o∈CH ins,AZ GL s o=AZ GL t o)(hs:∀m,Aa s.sto m=Aa t.sto m):eR GL ins s=eR GL ins t:=by
 unfold eR;split
 ·exact Qq (by simpa[CH]using ho) hs
 ·exact Qq (by simpa[CH]using ho) hs
 ·rw[Zdq,Zdq];exact Zae List.flatten (Ze0 fun o h=>by rw[ho o h])
theorem jX(hs:Oc s t):eR GL ins s=eR GL ins t:=Xy (fun o _=>by rw[S5 hs]) hs.2
theorem jY{us:List Nat}(h:Eh N s us)(hs:Oc s t):Eh N t us:=Qp.2 fun u hu m hm=>by rw[<-hs.1]at hm;rw[<-hs.2];exact Qp.1 h u hu m hm
theorem Xz:∀(l:List X) {st:St} {R:St->Prop},(∀b∈l,Lo b.1.ins=true)->DW P GL sn l st R->∃e,R e/\(∀u,(∀b∈l,b.1.ins.dst≠some u)->Aj e.env u=Aj st.env u)/\∀m,Aa e.sto m=Aa st.sto m
 |[],st,R,_,h=>⟨st,h,fun _ _=>rfl,fun _=>rfl⟩
 |b::l,st,R,hp,h=>by
  obtain⟨e,h1,h2,h3⟩:=Xz l (fun c hc=>hp c (Zfc _ hc)) h.2;have hg:=F1 h.1;refine⟨e,h1,fun u hu=>?_,fun m=>?_⟩
  ·rw[h2 u fun c hc=>hu c (Zfc _ hc),hg.1];cases hq:Cx GL b st with
   |none=>rfl
   |some q=>obtain⟨d,x⟩:=q;have:=Kc h.1 hq;grind[B1]
  ·rw[h3,hg.2,Qs (hp b Zfd)];rfl
def ON(P:Program)(GL:List (Nat×List I))(us:List Nat)(g:GI)(v:St)(T:St->Prop):Prop:=match Bp g.gd v with
 |some true=>Eh (eR GL g.ins v) v us/\step P GL g.ins v T
 |some false=>T (Bv g.ins v)
 |none=>False
def Ki(P:Program)(GL:List (Nat×List I))(g:GI)(v:St)(T:St->Prop):Prop:=match Bp g.gd v with
 |some true=>step P GL g.ins v T
 |some false=>T (Bv g.ins v)
 |none=>False
theorem Qt(h:∀q∈Ia g,Aj s.env q=Aj t.env q):Bp g.gd s=Bp g.gd t:=by grind[Bp,Ia]
theorem Tl{i:Nat}(h:i∈Ia g):i∈CQ g:=by grind[Ia,CQ]
theorem Tm{i:Nat}(h:i∈Ib g):i∈CQ g:=by grind[Ib,Tl]
theorem XA{i:Nat}(h:i∈Ia g):i∈Ib g:=by grind[Ib,Tl]
theorem past{us:List Nat}{g:GI}{d0:Nat}(hc:Kd g.ins=true)(hd0:g.ins.dst=some d0){T:St->Prop}:∀(l:List X) (st:St),Late us g l->
  DW P GL sn l st (fun s=>∃v,Oc v s/\ON P GL us g v T)->∃v,Oc v st/\Ki P GL g v (fun s'=>DW P GL sn l s' fun s=>∃q,Oc q s/\T q)
 |[],st,hl,h=>by
  obtain⟨v,hv,h⟩:=h;refine⟨v,hv,?_⟩;unfold ON at h;unfold Ki;split at h
  ·rename_i e;exact Fx h.2 fun s' hs'=>⟨s',Oc.refl _,hs'⟩
  ·exact⟨_,Oc.refl _,h⟩
  ·exact h.elim
 |b::l,st,hl,h=>by
  obtain⟨hp,hr⟩:=h;have hl':Late us g l:=⟨fun c hc=>hl.pure c (Zfc _ hc),fun c hc=>hl.uses c (Zfc _ hc),fun c hc=>hl.dst c (Zfc _ hc),hl.own,fun c hc=>hl.own2 c (Zfc _ hc),(Zfy.1 hl.ord).2⟩;obtain⟨e,⟨v0,hv0,hg0⟩,wp,kr⟩:=Xz l (fun c hc=>hl'.pure c hc) hr;obtain⟨v,hv,hs⟩:=past hc hd0 l (Bq GL b st) hl' hr;have hbu:=hl.uses b Zfd;have xi:=hl.dst b Zfd;have qz:=(Zfy.1 hl.ord).1;have jo:∀u,Aj (Bq GL b st).env u=B1 (Cx GL b st) (Aj st.env) u:=(F1 hp).1;have hwr:=Qs (GL:=GL) (g:=b) (st:=st) (hl.pure b Zfd);have hsto0:∀m,Aa e.sto m=Aa st.sto m:=fun m=>by rw[kr,(F1 hp).2,hwr];rfl
  have hSP:Hx (Cx GL b st) v st:=⟨fun i=>by rw[hv.1,jo],fun m=>by rw[hv.2,(F1 hp).2,hwr];rfl⟩;have keepb:∀q,(∀d,b.1.ins.dst=some d->d≠q)->Aj (Bq GL b st).env q=Aj st.env q:=fun q hq=>by
   rw[jo];cases hz:Cx GL b st with
   |none=>rfl
   |some z=>obtain⟨d,x⟩:=z;simp only[B1];rw[Zac (hq d (Kc hp hz))]
  have hg1:Bp g.gd v=Bp g.gd st:=Qt fun q hq=>by rw[hv.1,keepb q fun d hd e=>(xi d hd).2.2.2 (e▸hq)]
  have hg2:Bp g.gd v0=Bp g.gd st:=Qt fun q hq=>by rw[hv0.1,wp q fun c hc hcd=>(hl'.dst c hc q hcd).2.2.2 hq,keepb q fun d hd e=>(xi d hd).2.2.2 (e▸hq)]
  have fin:∀(s' q:St),(∀i∈Ia b.1,Aj st.env i=Aj s'.env i)->(Bp b.1.gd st=some true->Ca P GL sn b s'/\Cx GL b s'=Cx GL b st)->DW P GL sn l q (fun s=>∃q,Oc q s/\T q)->Hx (Cx GL b st) q s'->
    DW P GL sn (b::l) s' (fun s=>∃q,Oc q s/\T q):=fun s' q wd hloc hq hqs=>by
   by_cases hgd:Bp b.1.gd st=some true
   ·obtain⟨l1,l2⟩:=hloc hgd;have l3:fh GL b s'=none:=Qs (hl.pure b Zfd);refine⟨l1,?_⟩;have hsim:Oc q (Bq GL b s'):=⟨fun i=>by rw[(F1 l1).1,l2,hqs.1],fun m=>by rw[(F1 l1).2,l3,hqs.2];rfl⟩;refine J9 l ?_ (Qj l hsim hq);rintro u ⟨w,⟨q2,hq2,hq3⟩,hw2⟩;exact⟨q2,hq2.trans hw2,hq3⟩
   ·
    have hgs:Bp b.1.gd s'=Bp b.1.gd st:=(Qt wd).symm;have hps:Ca P GL sn b s':=by
     unfold Ca at hp⊢;rw[hgs];split at hp
     ·exact hp.elim
     ·rename_i h;exact absurd h hgd
     ·rename_i h;simp only[]
    have hpp:Cx GL b s'=Cx GL b st:=by
     unfold Cx;rw[hgs];split
     ·rename_i h;exact absurd h hgd
     ·split<;>simp_all
    have hww:fh GL b s'=none:=Qs (hl.pure b Zfd);refine⟨hps,?_⟩;have hsim:Oc q (Bq GL b s'):=⟨fun i=>by rw[(F1 hps).1,hpp,hqs.1],fun m=>by rw[(F1 hps).2,hww,hqs.2];rfl⟩;refine J9 l ?_ (Qj l hsim hq);rintro u ⟨w,⟨q2,hq2,hq3⟩,hw2⟩;exact⟨q2,hq2.trans hw2,hq3⟩
  cases hgq:Bp g.gd st with
  |none=>unfold Ki at hs;rw[hg1,hgq]at hs;exact hs.elim
  |some wt=>
   cases wt with
   |false=>
    unfold Ki at hs;rw[hg1,hgq]at hs;have e1:∀s:St,Bv g.ins s=s.put d0 (.i .undef):=fun s=>by unfold Bv;rw[hd0]
    simp only[e1]at hs;refine⟨st,Oc.refl _,?_⟩;unfold Ki;rw[hgq];simp only[e1];have same:∀i∈CQ b.1,Aj st.env i=Aj (st.put d0 (.i .undef)).env i:=fun i hi=>by simp only[St.put,Aj];rw[Zac fun e:d0=i=>hl.own2 b Zfd d0 hd0 (e▸hi)]
    refine fin _ _ (fun i hi=>same i (Tl hi)) (fun _=>?_) hs ⟨fun i=>?_,hSP.2⟩
    ·obtain⟨l1,l2,_⟩:=Qk (t:=st.put d0 (.i .undef)) same (fun o ho nm hn _ _=>rfl) (fun d zs e _ _=>by have:=hl.pure b Zfd;rw[e]at this;simp[Lo]at this) hp;exact⟨l1,l2⟩
    ·simp only[St.put,Aj,hSP.1];cases hz:Cx GL b st with
     |none=>rfl
     |some z=>
      obtain⟨d,x⟩:=z;have jg:d0≠d:=fun e=>hl.own d0 hd0 (e▸(xi d (Kc hp hz)).1)
      simp only[B1];by_cases h1:d=i
      ·subst h1;rw[Zac jg,Zaa rfl,Zaa rfl]
      ·rw[Zac h1,Zac h1]
   |true=>
    unfold Ki at hs;rw[hg1,hgq]at hs;unfold ON at hg0;rw[hg2,hgq]at hg0;have he:=Qp.1 (jY hg0.1 hv0);rw[jX hv0]at he;have hN:eR GL g.ins e=eR GL g.ins st:=Xy (fun o ho=>by cases o<;>simp only[AZ];rename_i q;rw[wp q fun c hc hcd=>(hl'.dst c hc q hcd).2.2.1 _ ho (by simp[F0]),keepb q fun d hd e=>(xi d hd).2.2.1 _ ho (by simp[F0,e])]) hsto0
    rw[hN]at he;have hdata:∀u∈Ib b.1,∀m∈(Aj st.env u).nms,m∉eR GL g.ins st/\Lq (Aa st.sto m):=fun u hu m hm=>by have h1:=he u (hbu u hu) m;rw[wp u (fun c hc hcd=>(qz c hc u hcd).1 (Tm hu)),keepb u (fun d hd e=>(xi d hd).2.1 (e▸Tm hu)),hsto0]at h1;exact h1 hm
    have hx:∀d x,Cx GL b st=some (d,x)->(∀m∈x.nms,m∉eR GL g.ins st)/\(∀o∈CH g.ins,d∉F0 o)/\d0≠d:=fun d x hq=>by have hbd':=Kc hp hq;have h1:=he d (xi d hbd').1;rw[wp d (fun c hc hcd=>(qz c hc d hcd).2 hbd'),jo,hq]at h1;simp only[B1,Zaa]at h1;exact⟨fun m hm=>(h1 m hm).1,(xi d hbd').2.2.1,fun e:d0=d=>hl.own d0 hd0 (e▸(xi d hbd').1)⟩
    refine⟨st,Oc.refl _,?_⟩;unfold Ki;rw[hgq];refine Fx (frame hc hd0 hSP hx hs) ?_;rintro s' ⟨⟨q,hq,hqs⟩,hk⟩;have wd:∀i∈Ib b.1,Aj st.env i=Aj s'.env i:=fun i hi=>(hk.out i (fun e:d0=i=>hl.own2 b Zfd d0 hd0 (e▸Tm hi)) (fun m hm=>(hdata i hi m hm).1)).symm
    refine fin s' q (fun i hi=>wd i (XA hi)) (fun hgt=>?_) hq hqs;by_cases hext:∃d o i,b.1.ins=.ext d o i
    ·
     obtain⟨d,o,i,he⟩:=hext;have hput1:Cx GL b st=some (d,(pv (AZ GL st) (Aa st.sto) (.ext d o i)).1):=by unfold Cx;rw[hgt];simp only[Eg,he,BH]
     have hpre:(pv (AZ GL st) (Aa st.sto) (.ext d o i)).2:=by unfold Ca at hp;rw[hgt]at hp;simp only[he]at hp;exact hp.2.1
     have jl:=(hx _ _ hput1).1;have key:pv (AZ GL s') (Aa s'.sto) (.ext d o i)=pv (AZ GL st) (Aa st.sto) (.ext d o i):=by
      cases o with
      |t u=>
       obtain⟨⟨L,hL,hu⟩,_⟩:=hk;have hu:=hu u (fun e:d0=u=>hl.own2 b Zfd d0 hd0 (by unfold CQ;rw[he];simp[BB,F0,e]));simp only[pv,AZ,hu]at jl⊢;cases hv:Aj st.env u with
       |i x=>rw[Xv]
       |tup cs=>
        rw[hv]at jl;rw[Xw];simp only[Zes]at jl⊢;have hc:((cs.map (MM L)).getD i .any).toD=(cs.getD i .any).toD:=by
         rw[Zdx,Zdx,Zd5];cases hci:cs[i]? with
         |none=>rfl
         |some c=>simp only[Zhn,Zhh];rw[Zdx,hci]at jl;rw[Xu L fun q hq hm=>jl q.1 (by cases c<;>simp_all[Cp.toD,D.nms,Cp.nms]) (hL q hq)]
        rw[hc]
       |_=>exfalso;simp only[pv,AZ,hv]at hpre
      |_=>rfl
     have hgs':Bp b.1.gd s'=some true:=by rw[<-hgt];exact(Qt fun i hi=>wd i (XA hi)).symm
     constructor
     ·unfold Ca;rw[hgs'];simp only[he];exact⟨rfl,by rw[key];exact hpre,fun h=>by simp[looks]at h⟩
     ·unfold Cx;rw[hgs',hgt];simp only[Eg,he,BH,key]
    ·have jg:∀d o i,b.1.ins≠.ext d o i:=fun d o i e=>hext ⟨d,o,i,e⟩
     have eL:Ib b.1=CQ b.1:=by
      unfold Ib;split
      ·rename_i e;exact absurd e (jg _ _ _)
      ·rfl
     rw[eL]at wd hdata;obtain⟨l1,l2,_⟩:=Qk (t:=s') wd (fun o ho nm hn _ _=>by
      have jl:nm∉eR GL g.ins st/\Lq (Aa st.sto nm):=by
       have ho2:=S6 ho;clear ho;cases o with
       |t n=>exact hdata n (by unfold CQ;exact Ze9.2 (.inr (Zff.2 ⟨_,ho2,by simp[F0]⟩))) nm hn
       |_=>simp[AZ,D.nms]at hn
      cases hg:Aa st.sto nm with
      |none=>rw[hg]at jl;exact jl.2.elim
      |some bl=>rw[hg]at jl;exact(hk.2 nm bl hg jl.1 jl.2).symm) (fun d zs e _ _=>by have:=hl.pure b Zfd;rw[e]at this;simp[Lo]at this) hp
     exact⟨l1,l2⟩
end
end Go.Dl
end
section
namespace Go.Dl
open Go Go.RowKit
variable{gs:List GI}{p0 p1:Nat}{K:St->Prop}
theorem jZ{F:Fence}{j:Nat}{P:Program}{Q:Exit->Act->World->Prop}{a:Act}{w:World}{c:Code}{α:Type}(I:α->Act->World->Prop)(m:α->Nat)(x₀:α)(h₀:I x₀ a w)
  (round:∀x a w,I x a w->c.wpIn F j P (Exit.then (fun a' w'=>∃x',I x' a' w'/\m x'<m x) Q) a w):(Code.loop c).wpIn F j P Q a w:=by
 intro b k cs hro hb hr;have key:∀n x a w,m x=n->I x a w->∃e a' w',Q e a' w'/\ArrivesIn (Machine.fenced P F) P (lone (b.atR a (.code c::.inLoop c::k)) cs w) b k cs e a' w':=by
  intro n
  induction n using Nat.strongRecOn with
  |_ n ih=>
   intro x a w hn hI;obtain⟨e,a₁,w₁,hq,harr⟩:=round x a w hI b (.inLoop c::k) cs hro hb hr;cases e with
   |normal=>obtain⟨x',hI₁,jn⟩:=hq;obtain⟨e₂,a₂,w₂,hq₂,harr₂⟩:=ih (m x') (hn▸jn) x' a₁ w₁ rfl hI₁;exact⟨e₂,a₂,w₂,hq₂,.of_steps (StepsIn.trans harr (.one (fenced_calm hb hr rfl) stepR_inLoop)) harr₂⟩
   |exit id=>exact⟨_,a₁,w₁,hq,.pass (x:=.inLoop c) rfl (fun _ _=>.inl (by simp)) harr⟩
   |goto l=>exact⟨_,a₁,w₁,hq,.pass (x:=.inLoop c) rfl (fun _ _=>.inl (by simp)) harr⟩
   |ret=>exact⟨_,a₁,w₁,hq,.pass (x:=.inLoop c) rfl (fun _ _=>.inl (by simp)) harr⟩
   |panic ch=>exact⟨_,a₁,w₁,hq,.pass (x:=.inLoop c) rfl (fun _ _=>.inl (by simp)) harr⟩
   |outgrown=>exact⟨_,a₁,w₁,hq,.pass (x:=.inLoop c) rfl (fun _ _=>.inl (by simp)) harr⟩
 obtain⟨e,a',w',hq,harr⟩:=key _ x₀ a w rfl h₀;exact⟨e,a',w',hq,.of_steps (.one (fenced_calm hb hr rfl) stepR_loop) harr⟩
section
variable {P:Program}{GL:List (Nat×List I)}{n:Nat}{S:Sh}{mu:List Nat}{rt:List (Nat×Nat)}
theorem kC{S':Sh}{M M':Mem}{w w':World}{K:Exit->St->Prop}(hg:Grow S S' w')(hm:MExt S.p M M')(hb:Keeps S.p w w')(e:Exit)(a'':Act)(w'':World)
  (k:Fw GL n S' M' w' K e a'' w''):Fw GL n S M w K e a'' w'':=by
 obtain⟨st'',hk,hr⟩:=k;exact⟨st'',hk,hr.trans hg hm hb⟩
def chE(P:Program)(GL:List (Nat×List I))(us:List Nat):List GI->(St->Prop)->St->Prop
 |[],T,s=>∃v,Oc v s/\T v
 |g::r,T,s=>∃v,Oc v s/\ON P GL us g v (chE P GL us r T)
theorem XB{us:List Nat}{l:List GI}{T:St->Prop}{s t:St}(h:chE P GL us l T s)(hs:Oc s t):chE P GL us l T t:=by
 cases l with
 |nil=>obtain⟨v,h1,h2⟩:=h;exact⟨v,h1.trans hs,h2⟩
 |cons g r=>obtain⟨v,h1,h2⟩:=h;exact⟨v,h1.trans hs,h2⟩
theorem XC{sn:List Nat}{ins:Ins}(h:Kd ins=true)(st:St)(K:St->Prop):Ad P GL sn ins st K=Hu P GL sn ins st K:=by cases ins<;>simp only[Kd,Zb4]at h<;>rfl
theorem XD{sn:List Nat}:∀(l:List GI) {T:St->Prop} {s:St},(∀g∈l,Kd g.ins=true)->evD P GL sn l s T->chE P GL (DY sn) l T s
 |[],T,s,_,h=>⟨s,Oc.refl s,h⟩
 |g::r,T,s,hl,h=>by
  have h1:=hl g Zfd;have q:∀s',evD P GL sn r s' T->chE P GL (DY sn) r T s':=fun s' hs'=>XD r (fun g hg=>hl g (Zfc _ hg)) hs'
  refine⟨s,Oc.refl s,?_⟩;simp only[evD]at h;unfold ON Bp;split at h
  ·rename_i e;rw[e];rw[XC h1]at h;exact⟨h.1,Fx h.2 q⟩
  ·rename_i sl want e;rw[e];simp only;unfold fE at h;split at h
   ·rename_i b ev;rw[ev];simp only;cases hb:(b==want)with
    |true=>have h2:=h.1 hb;rw[XC h1]at h2;exact⟨h2.1,Fx h2.2 q⟩
    |false=>exact q _ (h.2 hb)
   ·rename_i ev;rw[ev];exact q _ h
   ·exact h.elim
theorem kD(ins:Ins):(toF ins).dst=ins.dst:=by
 cases ins<;>try rfl
 rename_i ps;cases ps<;>rfl
theorem XE{get:St->Option (FuncId×List D)}{os:List O}{d:Option Nat}{st:St}(hg:∀s f ds,get s=some (f,ds)->(os.all fun o=>JH (AZ GL s o))=true->ds.all JH=true)(h:Ed P GL get os d st K):Ah P GL get st d K:=by
 unfold Ed J4 at h;refine⟨oN GL st os,?_⟩;split at h
 ·rename_i p e;obtain⟨h1,y,h2,h3⟩:=h;rw[e];refine .inl ⟨[],[],_,h2,trivial,rfl,?_,rfl,?_⟩
  ·have:=hg _ p.1 p.2 e h1;rw[Zcu]at this⊢;intro x hx;have:=this x hx;cases x<;>simp[JH]at this;rfl
  ·rintro r s ⟨rfl,rfl⟩;exact⟨fun nm hm=>by simp[A7]at hm,fun nm hm=>by simp at hm,h3⟩
 ·exact h.elim
theorem kE{ins:Ins}{st:St}(h:step P GL (toF ins) st K):step P GL ins st K:=by
 cases ins<;>try exact h
 case call d f args=>
  refine XE (fun s f' ds e h1=>?_) h;simp only[EX,Zhp,Zhr]at e;obtain⟨rfl,rfl⟩:=e;rw[Zcu]at h1⊢;intro x hx;obtain⟨o,ho,rfl⟩:=Zfh.1 hx;exact h1 o ho
 case callv d fo args=>
  refine XE (fun s f' ds e h1=>?_) h;rw[Zcu]at h1⊢;have h0:=h1 fo (by simp);unfold DF EA at e;split at e
  ·cases e;intro x hx;simp only[Ze9,Zfh]at hx;rcases hx with(⟨z,_,rfl⟩|⟨o,ho,rfl⟩)|⟨z,_,rfl⟩
   ·rfl
   ·exact h1 o (by simp[ho])
   ·rfl
  ·rename_i ef;rw[ef]at h0;simp[JH]at h0
  ·cases e
 case bsn d e k ps=>
  cases ps with
  |nil=>exact h
  |cons a l=>simp only[toF,step]at h⊢;refine⟨?_,h.2⟩;rw[h.1];rfl
theorem XF{α β:Type}[DecidableEq α]:∀(l:List α) (hn:l.Nodup) (xs:List β) (hl:xs.length=l.length) (d:β),∃f:α->β,l.map f=xs
 |[],_,[],hl,d=>⟨fun _=>d,rfl⟩
 |[],_,x::xs,hl,d=>by simp at hl
 |a::l,hn,[],hl,d=>by simp at hl
 |a::l,hn,x::xs,hl,d=>by obtain⟨h1,h2⟩:=Zfu.1 hn;obtain⟨f,hf⟩:=XF l h2 xs (by simpa using hl) d;refine⟨fun b=>if b=a then x else f b,?_⟩;simp only[Ze1,Zaa];congr 1;rw[<-hf];exact Ze0 fun b hb=>Zac fun e:b=a=>h1 (e▸hb)
theorem Rel.drew{M:Mem}{μ:Place}{st:St}{a:Act}{w:World}(h:Rel GL n S M μ st a w):Rel GL n S M μ st a w.drew:=
 h.of h.toStoOk.drew (Mem.le_refl _) fun _ _ hv=>hv
end
def dep(ops:Array Oper)(i:Nat):List Nat:=(EF ops).getD i []
def XG(ops:Array Oper)(l:Array Bool):Prop:=∀k,l.getD k false=true->∀d∈dep ops k,l.getD d false=true
def Anc(ops:Array Oper)(i j:Nat):Prop:=∀l:Array Bool,XG ops l->(∀d∈dep ops i,l.getD d false=true)->l.getD j false=true
section
variable {P:Program}{ops:Array Oper}{ro:Option Nat}{Q:Exit->Act->World->Prop}
theorem Qu{l:Array Bool}{i:Nat}:i∈Region.ready .any ops l↔i<ops.size/\l.getD i true=false/\∀d∈dep ops i,l.getD d false=true:=by
 simp only[Region.ready,Zfe,Zfn,Zbz,Zb7];refine and_congr_right fun hi=>and_congr_right fun _=>?_
 rw[show dep ops i=(ops[i].after.toList.filter fun e=>Region.binds .any e).map (·.on) by simp[dep,EF,Zdx,hi]];simp only[Zbh hi,Zhn,Zhh,Array.all_eq_true_iff_forall_mem,Zfh,Zfe,Array.mem_toList_iff];grind
theorem Qv{l:Array Bool}{j:Nat}(h:j<l.size):l.getD j true=l.getD j false:=by simp[Zbe,Zbh h]
theorem getD_set(l:Array Bool)(i q:Nat)(hi:i<l.size):(l.setIfInBounds i true).getD q false=(q==i||l.getD q false):=by
 simp only[Zbe,Zbm];by_cases e:i=q
 ·subst e;simp[hi]
 ·simp[e,Ne.symm e]
theorem kF(h1:p1<=ops.size)(hE:∀i,∀d∈dep ops i,d<i)(hS:∀i,p1<=i->i<ops.size->∀j,j<p1->Anc ops i j)(Inv:List Nat->Act->World->Prop)
  (fin:∀l a w,l.size=ops.size->(∀j,j<ops.size->(l.getD j false=true↔j<p1))->Inv [] a w->wpAnyIn (FR ro) 0 P .any ops Q (ops.size-p1) l a w)
  (stp:∀x i y a w,(x++i::y).Pairwise (·<·)->(∀j∈x++i::y,p0<=j/\j<p1)->(∀q,q<p1->q∉x++y->∀j,Anc ops q j->j∉x++i::y)->Inv (x++i::y) a w->wpOpIn (FR ro) 0 P ops Q i (Inv (x++y)) a w):
  ∀(k:Nat) (T:List Nat) (l:Array Bool) (a:Act) (w:World),T.length=k->l.size=ops.size->XG ops l->(∀j,j<ops.size->(l.getD j false=true↔j<p1/\j∉T))->T.Pairwise (·<·)->(∀j∈T,p0<=j/\j<p1)->Inv T a w->wpAnyIn (FR ro) 0 P .any ops Q (k+(ops.size-p1)) l a w:=by
 intro k
 induction k with
 |zero=>intro T l a w hk hz hc hl hp hT hI;obtain rfl:=Zdf hk;rw[Zg8];exact fin l a w hz (fun j hj=>by rw[hl j hj];simp) hI
 |succ k ih=>
  intro T l a w hk hz hc hl hp hT hI;obtain⟨i0,T',rfl⟩:=List.exists_cons_of_length_eq_add_one hk;have un:∀j∈i0::T',¬l.getD j false=true:=fun j hj h=>((hl j (Zgy (hT j hj).2 h1)).1 h).2 hj
  have h0:=hT i0 Zfd;rw[Nat.succ_add];refine⟨fun hn=>?_,fun i hi=>?_⟩
  ·have:i0∈Region.ready .any ops l:=Qu.2 ⟨by omega,by rw[Qv (by omega)];simpa using un i0 Zfd,fun d hd=>by
    have:=hE i0 d hd;refine(hl d (by omega)).2 ⟨by omega,fun hm=>?_⟩;rcases Zfb.1 hm with e|e
    ·omega
    ·have:=(Zfy.1 hp).1 d e;omega⟩
   rw[hn]at this;cases this
  ·obtain⟨hi1,jx,hi3⟩:=Qu.1 hi;rw[Qv (by omega)]at jx;have jn:i<p1:=by
    rcases Zgz i p1 with q|q
    ·exact q
    ·exact(un i0 Zfd (hS i q hi1 i0 h0.2 l hc hi3)).elim
   have hm:i∈i0::T':=Zci fun h=>by rw[(hl i hi1).2 ⟨jn,h⟩]at jx;cases jx
   generalize i0::T'=T at*;obtain⟨x,y,rfl⟩:=List.append_of_mem hm;have hd:=Zfx.1 hp;have hy:=Zfy.1 hd.2.1;have nx:∀j∈x++y,j≠i:=fun j hj e=>by
    rcases Ze9.1 hj with h|h
    ·have:=hd.2.2 j h i (by simp);omega
    ·have:=hy.1 j h;omega
   refine wpOpIn_mono (fun a' w' h=>ih (x++y) (l.setIfInBounds i true) a' w' (by simp at hk⊢;omega) (by simpa using hz) ?_ ?_ (Zfx.2 ⟨hd.1,hy.2,fun p hp q hq=>hd.2.2 p hp q (Zfc _ hq)⟩) (fun j hj=>hT j (by grind)) h) (stp x i y a w hp hT ?_ hI)
   ·intro q hq d hd;rw[getD_set _ _ _ (by omega),Zcb]at hq⊢;rcases hq with hq|hq
    ·rw[beq_iff_eq.1 hq]at hd;exact .inr (hi3 d hd)
    ·exact .inr (hc q hq d hd)
   ·intro j hj;rw[getD_set _ _ _ (by omega),Zcb,hl j hj,Zas];by_cases e:j=i
    ·subst e;simp only[true_or,true_iff];exact⟨jn,fun h=>nx j h rfl⟩
    ·simp[e]
   ·intro q hq hn j hj hm;refine un j hm (hj l hc ?_);by_cases e:q=i
    ·exact e▸hi3
    ·exact hc q ((hl q (by omega)).2 ⟨hq,by grind⟩)
end
section
variable {P:Program}{GL:List (Nat×List I)}{n:Nat}{S:Sh}{mu mg:List Nat}{ops:Array Oper}{M:Mem}{st:St}{a:Act}{w:World}{Q:Exit->Act->World->Prop}{ro:Option Nat}{sn:List Nat}
theorem OO(p0 p1:Nat):jC [] p0 p1=List.range' p0 (p1-p0):=Zdk.2 fun _ _=>by simp
theorem Qw(h:p1<=gs.length):(jC [] p0 p1).map (VN gs)=(gs.take p1).drop p0:=by
 rw[OO];exact List.ext_getElem (by simp;omega) fun i h1 h2=>by simp at h2;simp[VN,show p0+i<gs.length by omega]
theorem Tn{ops:Array Oper}:∀{gs:List GI},Ht P GL n mu ops=some gs->gs.length=ops.size:=by
 have key:∀(l:List Oper) (gs:List GI),l.mapM (H9 P GL n mu ops)=some gs->gs.length=l.length:=by
  intro l
  induction l with
  |nil=>intro gs h;cases h;rfl
  |cons o l ih=>intro gs h;rw[Zey]at h;obtain⟨g,h1,h⟩:=Zhd.1 h;obtain⟨g',h2,h⟩:=Zhd.1 h;cases h;simp[ih g' h2]
 intro gs h;simpa using key _ _ h
theorem Qx(h:Ht P GL n mu ops=some gs){i:Nat}(hi:i<ops.size):(ops[i]?).bind (H9 P GL n mu ops)=some (VN gs i):=by
 have key:∀(l:List Oper) (gs:List GI),l.mapM (H9 P GL n mu ops)=some gs->∀i,i<l.length->(l[i]?).bind (H9 P GL n mu ops)=some (VN gs i):=by
  intro l
  induction l with
  |nil=>intro gs h i hi;cases hi
  |cons o l ih=>
   intro gs h i hi;rw[Zey]at h;obtain⟨g,h1,h⟩:=Zhd.1 h;obtain⟨g',h2,h⟩:=Zhd.1 h;cases h;cases i with
   |zero=>simp[h1,VN]
   |succ i=>simpa[VN]using ih g' h2 i (by simpa using hi)
 simpa using key _ _ h i (by simpa using hi)
theorem MO{μ:Place}{i:Nat}{g:GI}(l:List Nat)(hg:(ops[i]?).bind (H9 P GL n mu ops)=some g)(h:Rel GL n S M μ st a w){b:Bool}(hb:Bp g.gd st=some b){K:St->Prop}
  (hs:if b=true then step P GL g.ins (frzNs l st) K else K (Bv g.ins st)){nx:Act->World->Prop}(hn:∀s a' w',eQ GL n S M w s a' w'->K s->nx a' w'):wpOpIn (FR ro) 0 P ops Q i nx a w:=by
 obtain⟨o,ho,hg⟩:=Zhd.1 hg;have hw:=jI h hg hb;obtain⟨w8,hd⟩:=jJ hg;unfold wpOpIn;rw[ho];simp only[hw];cases b with
 |true=>obtain⟨M1,h1,m1⟩:=h.frzNs l;exact Oper.wpIn_mono (fun a' w' ⟨s,hk,M',μ',h',hm,hb⟩=>hn s a' w' ⟨M',μ',h',m1.trans hm,hb⟩ hk) (jH ro (jL w8 hs) (jM h1 w8 hs))
 |false=>
  obtain⟨hdd,hdn⟩:=hd fun e=>by rw[e]at hb;cases hb
  exact⟨fun _ _=>trivial,hn _ _ _ (eQ.of (jG h hdd hdn)) hs⟩
theorem XH{g:GI}{r:List GI}(h:ev P GL (g::r) st K):∃b,Bp g.gd st=some b/\if b=true then step P GL g.ins (frzNs (AA GL g.ins st) st) (fun s=>ev P GL r s K)else ev P GL r (Bv g.ins st) K:=by
 rw[OJ]at h;unfold Bp;split at h
 ·rename_i e;rw[e];exact⟨true,rfl,h⟩
 ·rename_i s want e;rw[e];simp only;unfold fE at h;split at h
  ·rename_i b e1;rw[e1];refine⟨_,rfl,?_⟩;cases hb:b==want with
   |true=>exact h.1 hb
   |false=>exact h.2 hb
  ·rename_i e1;rw[e1];exact⟨_,rfl,h⟩
  ·exact h.elim
theorem eQ.trans{M':Mem}{w' w'':World}{s':St}{a'':Act}(h:MExt S M M')(hb:Keeps S w w')(k:eQ GL n S M' w' s' a'' w''):eQ GL n S M w s' a'' w'':=by obtain⟨M2,μ2,h2,m2,b2⟩:=k;exact⟨M2,μ2,h2,h.trans m2,hb.trans b2⟩
def Fin(P:Program)(GL:List (Nat×List I))(n:Nat)(S:Sh)(ro:Option Nat)(ops:Array Oper)(Q:Exit->Act->World->Prop)(M:Mem)(w:World)(p1:Nat)(K:St->Prop):Prop:=
 ∀l a' w',l.size=ops.size->(∀j,j<ops.size->(l.getD j false=true↔j<p1))->(∃s,eQ GL n S M w s a' w'/\K s)->wpAnyIn (FR ro) 0 P .any ops Q (ops.size-p1) l a' w'
theorem XI(h0:p0<=p1)(h1:p1<=ops.size)(hE:∀i,∀d∈dep ops i,d<i)(hS:∀i,p1<=i->i<ops.size->∀j,j<p1->Anc ops i j)(I:List Nat->St->Prop)
  {K:St->Prop}(hK:∀s,I [] s->K s)(fin:Fin P GL n S ro ops Q M w p1 K)
  (stp:∀x i y M μ st a w,(x++i::y).Pairwise (·<·)->(∀j∈x++i::y,p0<=j/\j<p1)->(∀q,q<p1->q∉x++y->∀j,Anc ops q j->j∉x++i::y)->Rel GL n S M μ st a w->I (x++i::y) st->
   ∀nx:Act->World->Prop,(∀s a' w',eQ GL n S M w s a' w'->I (x++y) s->nx a' w')->wpOpIn (FR ro) 0 P ops Q i nx a w)
  {μ:Place}{l:Array Bool}(hz:l.size=ops.size)(hl:∀j,j<ops.size->(l.getD j false=true↔j<p0))(h:Rel GL n S M μ st a w)(hI:I (jC [] p0 p1) st):wpAnyIn (FR ro) 0 P .any ops Q (ops.size-p0) l a w:=by
 have hm:∀j,j∈jC [] p0 p1↔p0<=j/\j<p1:=fun j=>by simp[jC,Zfo];omega
 have hc:=OO p0 p1;have:=kF (Q:=Q) (ro:=ro) (p0:=p0) h1 hE hS (fun T a' w'=>∃s,eQ GL n S M w s a' w'/\I T s) (fun l a' w' q1 q2 ⟨s,q3,q4⟩=>fin l a' w' q1 q2 ⟨s,q3,hK s q4⟩) (fun x i y a' w' q1 q2 q3 ⟨s,⟨M',μ',q4,q5,q6⟩,q7⟩=>
  stp x i y M' μ' s a' w' q1 q2 q3 q4 q7 _ fun s2 a2 w2 q8 q9=>⟨s2,eQ.trans q5 q6 q8,q9⟩) (p1-p0) (jC [] p0 p1) l a w (by rw[hc];simp) hz
  (fun k hk d hd=>by
   have e:∀j,l.getD j false=true->j<ops.size:=fun j hj=>by
    rcases Zgz j ops.size with q|q
    ·exact q
    ·simp[Array.getD,hz,Nat.not_lt.2 q]at hj
   have:=(hl k (e k hk)).1 hk;have:=hE k d hd;exact(hl d (by omega)).2 (by omega)) (fun j hj=>by rw[hl j hj,hm];omega) (Zcq _ Zf0) (fun j hj=>(hm j).1 hj) ⟨st,eQ.of h,hI⟩
 rwa [show p1-p0+(ops.size-p1)=ops.size-p0 by omega]at this
theorem XJ(hgs:Ht P GL n mu ops=some gs){p0 p1:Nat}(h0:p0<=p1)(h1:p1<=ops.size)(hE:∀i,∀d∈dep ops i,d<i)(hS:∀i,p1<=i->i<ops.size->∀j,j<p1->Anc ops i j)
  (hq:∀i j,p0<=j->j<i->i<p1->Anc ops i j){K:St->Prop}(fin:Fin P GL n S ro ops Q M w p1 K)
  {μ:Place}{l:Array Bool}(hz:l.size=ops.size)(hl:∀j,j<ops.size->(l.getD j false=true↔j<p0))(h:Rel GL n S M μ st a w)(hs:ev P GL ((jC [] p0 p1).map (VN gs)) st K):wpAnyIn (FR ro) 0 P .any ops Q (ops.size-p0) l a w:=by
 refine XI h0 h1 hE hS (fun T s=>ev P GL (T.map (VN gs)) s K) (fun s h=>h) fin (fun x i y M μ st a w q1 q2 q3 h hs nx hn=>?_) hz hl h hs;obtain rfl:x=[]:=by
  cases x with
  |nil=>rfl
  |cons j x=>
   have hi:=q2 i (by simp);exact(q3 i hi.2 (fun hm=>by
    have hd:=Zfx.1 q1;rcases Ze9.1 hm with e|e
    ·exact Zgx _ (hd.2.2 i e i (by simp))
    ·exact Zgx _ ((Zfy.1 hd.2.1).1 i e)) j (hq i j (q2 j (by simp)).1 ((Zfx.1 q1).2.2 j (by simp) i (by simp)) hi.2) (by simp)).elim
 obtain⟨b,hb,hs⟩:=XH hs;exact MO _ (Qx hgs (Zgy (q2 i (by simp)).2 h1)) h hb hs hn
theorem Lt{g:GI}{d:Nat}(h:g.ins.dst=some d):d∈Ke g:=by simp[Ke,h]
theorem kG{gs':List GI}(hgs:Ht P GL n mg ops=some gs)(hgs':Ht P GL n mu ops=some gs'){p0 p1:Nat}(h0:p0<=p1)(h1:p1<=ops.size)(hE:∀i,∀d∈dep ops i,d<i)(hS:∀i,p1<=i->i<ops.size->∀j,j<p1->Anc ops i j)
  {anc:List (List Nat)}(hA:∀i,i<ops.size->∀j∈anc.getD i [],Anc ops i j){ql us:List Nat}(k8:Qm anc gs gs' ql us p0 p1=true){K:St->Prop}(fin:Fin P GL n S ro ops Q M w p1 K)(hus:us=DY sn)
  {μ:Place}{l:Array Bool}(hz:l.size=ops.size)(hl:∀j,j<ops.size->(l.getD j false=true↔j<p0))(h:Rel GL n S M μ st a w)(hs:evD P GL sn ((jC ql p0 p1).map (VN gs)++(chQ ql p0 p1).map (gF gs')) st K):wpAnyIn (FR ro) 0 P .any ops Q (ops.size-p0) l a w:=by
 simp only[Qm,Zbz,Zcb,Zcu,List.isEmpty_iff,Zgo,Zc4,Zb7,Zb1,Zaj,Zcz,Zfe]at k8;obtain⟨hX,k8⟩:=k8;have memX:∀i,i∈jC ql p0 p1↔(i<p1/\p0<=i)/\i∉ql:=fun i=>by simp[jC,Zfo];omega
 have memQ:∀i,i∈chQ ql p0 p1↔(i<p1/\p0<=i)/\i∈ql:=fun i=>by simp[chQ,Zfo];omega
 have sQ:(chQ ql p0 p1).Pairwise (·<·):=Zcq _ Zf0;have hQc:∀g∈(chQ ql p0 p1).map (gF gs'),Kd g.ins=true:=fun g hg=>by
  obtain⟨q,hq,rfl⟩:=Zfh.1 hg;rcases k8 with e|e
  ·rw[e]at hq;cases hq
  ·exact(e.1.2 q hq).1.1.1.1
 rw[Tf]at hs;obtain⟨xs,hxs,jh⟩:=Te _ _ _ (Zcu.2 fun g hg=>by obtain⟨x,hx,rfl⟩:=Zfh.1 hg;exact(hX x hx).1) hs;obtain⟨xf,rfl⟩:=XF (jC ql p0 p1) (Zcq _ List.nodup_range') xs (by have:=Zae List.length hxs;simpa using this) (⟨none,.mov 0 (.t 0)⟩,none);have hxf:∀i∈jC ql p0 p1,(xf i).1=VN gs i:=by rw[Ze4]at hxs;exact fun i hi=>List.map_inj_left.1 hxs i hi
 have jh:=J9 _ (fun u hu=>hus▸XD _ hQc hu) jh;refine XI h0 h1 hE hS (fun T s=>∃Qd Qr,chQ ql p0 p1=Qd++Qr/\(∀q∈Qd,q∉T)/\(∀q∈Qr,q∈T)/\DW P GL sn ((T.filter fun i=>!ql.contains i).map xf) s (chE P GL us (Qr.map (gF gs')) K)) (K:=fun s=>∃v,Oc v s/\K v) ?_
  (fun l a' w' q1 q2 ⟨s,⟨M',μ',q3,q4⟩,v,q5,q6⟩=>fin l a' w' q1 q2 ⟨v,⟨M',μ',q3.sim q5.symm,q4⟩,q6⟩) ?_ hz hl h ⟨[],_,rfl,by simp,fun q hq=>by have:=(memQ q).1 hq;rw[OO];simp[Zfo];omega,by
   rw[show((jC [] p0 p1).filter fun i=>!ql.contains i)=jC ql p0 p1 by rw[OO];rfl];exact jh⟩
 ·rintro s ⟨Qd,Qr,_,_,q3,q4⟩;obtain rfl:Qr=[]:=Zde.2 fun q hq=>by cases q3 q hq
  exact q4
 rintro x i y M μ st a w q1 q2 q3 h ⟨Qd,Qr,hQQ,hQd,hQr,hr⟩ nx hn;have hi:=q2 i (by simp);have his:i<ops.size:=by omega
 have hpw:=Zfx.1 q1;have hxi:∀j∈x,j<i:=fun j hj=>hpw.2.2 j hj i (by simp)
 have hni:i∉x++y:=fun hm=>by
  rcases Ze9.1 hm with e|e
  ·exact Zgx _ (hxi i e)
  ·exact Zgx _ ((Zfy.1 hpw.2.1).1 i e)
 have nA:∀q,q<p1->q∉x++y->∀j∈x++i::y,j∉anc.getD q []:=fun q hq hqn j hj hm=>q3 q hq hqn j (hA q (by omega) j hm) hj
 rw[Zdi,Zdj]at hr;by_cases hdr:i∈ql
 ·have hiQ:=(memQ i).2 ⟨⟨hi.2,hi.1⟩,hdr⟩;have k8:=k8.resolve_left fun e=>by rw[e]at hiQ;cases hiQ
  obtain⟨⟨hU,hQ⟩,hXX⟩:=k8;have hiR:i∈Qr:=by rw[hQQ]at hiQ;exact(Ze9.1 hiQ).elim (fun q=>(hQd i q (by simp)).elim) id
  cases Qr with
  |nil=>cases hiR
  |cons q0 Qr=>
   have kh:∀q∈Qd++q0::Qr,q∈chQ ql p0 p1:=fun q hq=>hQQ▸hq
   have hpq:=Zfx.1 (hQQ▸sQ);have e0:q0=i:=by
    rcases Zfb.1 hiR with e|e
    ·exact e.symm
    ·have jn:q0<i:=(Zfy.1 hpq.2.1).1 i e;have:=((hQ q0 (kh q0 (by simp))).1.2 i hiQ).resolve_left (by omega);exact(nA i hi.2 hni q0 (hQr q0 (by simp)) this).elim
   subst e0;obtain⟨⟨⟨⟨c1,c3⟩,c4⟩,_⟩,hXQ⟩:=hQ q0 hiQ;obtain⟨d0,hd0⟩:=Zhi.1 c3;have hTX:∀b∈(x.filter fun i=>!ql.contains i)++(y.filter fun i=>!ql.contains i),b∈jC ql p0 p1/\b∉anc.getD q0 []:=fun b hb=>by
    have hb':b∈x++y/\b∉ql:=by grind
    have jy:b∈x++q0::y:=by grind
    have:=q2 b jy;exact⟨(memX b).2 ⟨⟨this.2,this.1⟩,hb'.2⟩,nA q0 hi.2 hni b jy⟩
   rw[Zac (by simpa using hdr)]at hr;have hlate:Late us (gF gs' q0) (((x.filter fun i=>!ql.contains i)++(y.filter fun i=>!ql.contains i)).map xf):=by
    refine⟨fun b hb=>?_,fun b hb u hu=>?_,fun b hb d hd=>?_,fun d hd=>c4 d (Lt hd),fun b hb d hd=>?_,?_⟩
    rotate_right
    ·rw[Zf1,<-Zdi];refine List.Pairwise.imp_of_mem ?_ (Zcq _ (Zfx.2 ⟨hpw.1,(Zfy.1 hpw.2.1).2,fun p hp q hq=>hpw.2.2 p hp q (Zfc _ hq)⟩));intro b c hb hc hbc d hd;rw[Zdi]at hb hc;rw[hxf c (hTX c hc).1]at hd;rw[hxf b (hTX b hb).1];have:=((hXX c (hTX c hc).1 d (Lt hd)).2 b (hTX b hb).1).resolve_left (by omega);exact⟨this.1,fun e=>this.2 (Lt e)⟩
    all_goals
     obtain⟨b,jy,rfl⟩:=Zfh.1 hb;obtain⟨hb,hn⟩:=hTX b jy;have k1:=(hXQ b hb).resolve_left hn;have k2:=hU b ⟨hb,q0,hiQ,hn⟩;rw[hxf b hb]at*
    ·exact k1.1.1
    ·exact k2 u (Ze9.2 (.inl hu))
    ·have k3:=k1.2 d (Lt hd);refine⟨k2 d (Ze9.2 (.inr (Lt hd))),(hXX b hb d (Lt hd)).1,fun o ho hu=>k3 (Ze9.2 (.inl (Zff.2 ⟨o,ho,hu⟩))),fun hu=>k3 (Ze9.2 (.inr hu))⟩
    ·exact k1.1.2 d (Lt hd)
   obtain⟨v,hv,hs⟩:=past c1 hd0 _ st hlate hr;have hI:∀s,DW P GL sn (((x.filter fun i=>!ql.contains i)++(y.filter fun i=>!ql.contains i)).map xf) s (fun s=>∃q,Oc q s/\chE P GL us (Qr.map (gF gs')) K q)->∃Qd Qr,chQ ql p0 p1=Qd++Qr/\(∀q∈Qd,q∉x++y)/\(∀q∈Qr,q∈x++y)/\DW P GL sn (((x++y).filter fun i=>!ql.contains i).map xf) s (chE P GL us (Qr.map (gF gs')) K):=fun s hs=>
    ⟨Qd++[q0],Qr,by rw[hQQ];simp,by grind,fun q hq=>by
     have:=hQr q (Zfc _ hq);have:=(Zfy.1 hpq.2.1).1 q hq;grind,by
     rw[Zdi];exact J9 _ (fun u ⟨q,hq,hk⟩=>XB hk hq) hs⟩
   have hg:=Qx hgs' his;unfold Ki at hs;split at hs
   ·rename_i e;exact MO (b:=true) [] hg (h.sim hv.symm) e (kE hs) fun s a' w' q1 q2=>hn s a' w' q1 (hI s q2)
   ·rename_i e;refine MO (b:=false) (K:=fun s=>s=Bv (VN gs' q0).ins v) [] hg (h.sim hv.symm) e rfl fun s a' w' q1 q2=>hn s a' w' q1 (hI s ?_)
    have e1:Bv (toF (VN gs' q0).ins) v=Bv (VN gs' q0).ins v:=by unfold Bv;rw[kD]
    rw[q2,<-e1];exact hs
   ·exact hs.elim
 ·have hiX:=(memX i).2 ⟨⟨hi.2,hi.1⟩,hdr⟩;rw[Zaa (by simpa using hdr),Zez,Ze1]at hr;obtain⟨hp,jh⟩:=W4 _ _ _ st _ h.closed (fun b hb=>by obtain⟨j,hj,rfl⟩:=Zfh.1 hb;obtain⟨hj,hjq⟩:=Zfe.1 hj;have hjX:=(memX j).2 ⟨(q2 j (by simp[hj])).symm,by simpa using hjq⟩;rw[hxf i hiX,hxf j hjX];exact(((hX i hiX).2 j hjX).resolve_left (by have:=hxi j hj;omega)).resolve_left (nA i hi.2 hni j (by simp[hj]))) hr
  have hg:=Qx hgs his;rw[<-hxf i hiX]at hg;generalize xf i=X0 at hp jh hg;have hgo:∀s a' w',eQ GL n S M w s a' w'->Bq GL X0 st=s->nx a' w':=fun s a' w' e1 e2=>hn s a' w' e1 ⟨Qd,Qr,hQQ,by grind,fun q hq=>by
   have:=hQr q hq;have:q≠i:=fun e=>hdr (e▸((memQ q).1 (by rw[hQQ];simp[hq])).2)
   grind,by
   rw[Zdi,Zez,<-e2];exact J9 _ (fun u ⟨v,hk,hs⟩=>XB hk hs) jh⟩
  unfold Ca at hp;unfold Bq at hgo;split at hp
  ·exact hp.elim
  ·rename_i e;rw[e]at hgo;exact MO (b:=true) [] hg h e (Xi hp rfl) hgo
  ·rename_i e;rw[e]at hgo;exact MO (b:=false) (K:=Eq _) [] hg h e rfl hgo
theorem XK{n:Nat}(h:ckE (EF ops) ops.size=true):∀i,∀d∈dep ops i,d<i:=fun i d hd=>by
 have hi:i<ops.size:=by
  rcases Zgz i ops.size with q|q
  ·exact q
  ·simp[dep,EF,Zdx,q]at hd
 simp only[ckE,Zcu,Zfn,Zgp]at h;exact h i hi d hd
theorem kH{anc:List (List Nat)}(hE:∀i,∀d∈dep ops i,d<i)(h:ckA (EF ops) anc ops.size=true):∀i,i<ops.size->∀j∈anc.getD i [],Anc ops i j:=by
 simp only[ckA,Zcu,Zfn,Zcz,Zcb,Nat.beq_eq,Zc4]at h;intro i
 induction i using Nat.strongRecOn with
 |_ i ih=>
  intro hi j hj l hc hd;obtain⟨d,hm,e⟩:=h i hi j hj;have:=hE i d hm;rcases e with e|e
  ·exact e▸hd d hm
  ·exact ih d this (by omega) j e l hc (hc d (hd d hm))
theorem XL(h:ckS (EF ops) p0 p1=true):∀i j,p0<=j->j<i->i<p1->Anc ops i j:=by
 simp only[ckS,Zcu,Zfn,Zcb,Zgo,Zc4]at h;intro i
 induction i with
 |zero=>intro j _ h;omega
 |succ i ih=>
  intro j h0 h1 h2 l hc hd;have:=hd i ((h (i+1) h2).resolve_left (by omega));by_cases e:j=i
  ·exact e▸this
  ·exact ih j h0 (by omega) (by omega) l hc (hc i this)
theorem kI{a b:IR}{j:J}(h:cutI a b=j.ir):∃x y:J,x.ir=a/\y.ir=b/\∀K st,W2 P GL j K st->W2 P GL x (Kf (W2 P GL y) K) st:=by
 cases b
 case skip=>exact⟨j,.skip,h.symm,rfl,fun K st h=>DZ j h fun e s hs=>by cases e<;>first|exact⟨s,.inl rfl,hs⟩|exact hs⟩
 all_goals
  cases j<;>simp only[cutI,J.ir,reduceCtorEq,IR.cut.injEq]at h
  all_goals
   rename_i x y;refine⟨x,y,h.1.symm,h.2.symm,fun K st h=>?_⟩
   first|exact h|exact DZ _ h fun e s hs=>by cases e<;>first|exact⟨_,.inr (.inr ⟨_,rfl⟩),hs⟩|exact hs
theorem XM{gs gs':List GI}(hgs:Ht P GL n mg ops=some gs)(hgs':Ht P GL n mu ops=some gs')(hE:∀i,∀d∈dep ops i,d<i)(hA:∀i,i<ops.size->∀j∈(OH (EF ops)).getD i [],Anc ops i j)
  {rt:List (Nat×Nat)}{K:Exit->St->Prop}{M:Mem}{w:World}:∀(hs:List (List Nat)) (p0:Nat) (j:J),OI mu true rt ops gs gs' ops.size hs p0=some j.ir->p0<=ops.size->
   ∀(l:Array Bool) (s:St) (a:Act) (w':World),l.size=ops.size->(∀j,j<ops.size->(l.getD j false=true↔j<p0))->eQ GL n S M w s a w'->W2 P GL j K s->wpAnyIn (FR ro) 0 P .any ops (Fw GL n S M w K) (ops.size-p0) l a w'
 |[],p0,j,hc,h0,l,s,a,w',hz,hl,h,hs=>by
  simp only[OI,Zgo]at hc;split at hc
  ·cases j<;>simp only[J.ir,reduceCtorEq,Zhp]at hc;have e:ops.size-p0=0:=by omega
   rw[e];refine⟨Zde.2 fun i hi=>?_,s,hs,h.c⟩;obtain⟨h1,h2,_⟩:=Qu.1 hi;rw[Qv (by omega),(hl i h1).2 (by omega)]at h2;cases h2
  ·cases hc
 |hh::r,p0,j,hc,h0,l,s,a,w',hz,hl,⟨M',μ',h,m,k⟩,hs=>by
  unfold OI at hc;simp only[Zbz,Zcb,Zgo,Nat.beq_eq]at hc;generalize Lp ops.size hh=p1 at hc;split at hc
  rotate_left
  ·cases hc
  rename_i hp;obtain⟨y0,hy,hc⟩:=Zhd.1 hc;have vo:p1<=ops.size:=by rcases hp.2 with e|e;exact Zgs e;exact e.1
  have hS:∀i,p1<=i->i<ops.size->∀j,j<p1->Anc ops i j:=fun i q1 q2 j q3=>by
   rcases hp.2 with e|e
   ·omega
   ·have:=e.2;simp only[ckB,Zcu,Zfn,Zcb,Zgp,Zc4]at this;exact hA i q2 j ((this i q2).resolve_left (by omega) j q3)
  have fin:∀(y:J) (post:List Nat),y.ir=y0->Fin P GL n S ro ops (Fw GL n S M w K) M' w' p1 fun s=>Kf (W2 P GL y) K .normal (frzNs (Ls post s) s):=fun y post e l a2 w2 q1 q2 ⟨s,⟨M2,μ2,h2,m2,k2⟩,S',hq,q3⟩=>by obtain⟨M3,h3,m3⟩:=h2.frzNs (Ls post s);exact XM hgs hgs' hE hA r p1 y (e▸hy) vo l S' a2 w2 q1 q2 ⟨M3,μ2,h3.subQ hq,(m.trans m2).trans m3,k.trans k2⟩ q3
  have out:∀{a b:IR} {c:Bool},(if c=true then some (cutI a b)else none)=some j.ir->c=true/\∃x y:J,x.ir=a/\y.ir=b/\W2 P GL x (Kf (W2 P GL y) K) s:=fun hc=>by
   split at hc
   ·rename_i e;obtain⟨x,y,e1,e2,e3⟩:=kI (P:=P) (GL:=GL) (Zho hc);exact⟨e,x,y,e1,e2,e3 K s hs⟩
   ·cases hc
  unfold W8 at hc;split at hc
  ·obtain⟨hk,x,y,e1,e2,hs⟩:=out hc;cases x<;>simp only[J.ir,reduceCtorEq,IR.reg.injEq]at e1;subst e1;exact XJ hgs' hp.1 vo hE hS (XL hk) (fin y [] e2) hz hl h (by rw[Qw (by rw[Tn hgs'];exact vo)];exact hs)
  all_goals
   obtain⟨hk,x,y,e1,e2,hs⟩:=out hc;cases x<;>simp only[J.ir,reduceCtorEq,IR.dreg.injEq]at e1;obtain⟨rfl,rfl,rfl⟩:=e1;obtain⟨l2,hs⟩:=hs;obtain⟨M2,h2,m2⟩:=h.frzNs l2;exact kG hgs hgs' hp.1 vo hE hS hA hk (fun l a2 w2 q1 q2 q=>fin y _ e2 l a2 w2 q1 q2 (q.imp fun s q3=>⟨eQ.trans m2 (Keeps.refl _ _) q3.1,q3.2⟩)) rfl hz hl h2 (by
    first|exact hs|(rw[show chQ [] p0 p1=[]from List.filter_eq_nil_iff.2 fun _ _=>by simp,Ze5,Zc1,Qw (by rw[Tn hgs];exact vo)];exact hs))
end
section
variable {P:Program}{GL:List (Nat×List I)}{n:Nat}{S:Sh}{mu:List Nat}{rt:List (Nat×Nat)}
theorem XN{ops:Array Oper}{gs:List GI}(hgs:Ht P GL n mu ops=some gs){r:Option Nat}{K:Exit->St->Prop}{M:Mem}{w:World}:∀(T:List Nat) (s:St) (a:Act) (w':World),(∀i∈T,i<ops.size)->eQ GL n S M w s a w'->
  ev P GL (T.map (VN gs)) s (K .normal)->wpOpsIn (FR r) 0 P ops (Fw GL n S M w K) T a w'
 |[],s,a,w',hT,h,hs=>⟨s,hs,h.c⟩
 |i::T,s,a,w',hT,⟨M',μ',h,m,k⟩,hs=>by obtain⟨b,hb,hs⟩:=XH hs;rw[wpOpsIn_cons];exact MO _ (Qx hgs (hT i Zfd)) h hb hs fun s a w2 q1 q2=>XN hgs T s a w2 (fun i hi=>hT i (Zfc _ hi)) (eQ.trans m k q1) q2
theorem kJ{rt:List (Nat×Nat)}{hh:List (Nat×List (List Nat))}:∀(c:Code) (r:Option Nat) (j:J),comp P GL n mu true rt hh c=some j.ir->(r=none\/GP j.ir=true)->∀(S:Sh) (K:Exit->St->Prop) (M:Mem) (μ:Place) (st:St) (a:Act) (w:World),Rel GL n S M μ st a w->W2 P GL j K st->c.wpIn (FR r) 0 P (Fw GL n S M w K) a w:=by
 intro c
 induction c with
 |skip=>intro r j hc xm S K M μ st a w h hs;cases j<;>simp only[comp,J.ir,Zhp,reduceCtorEq]at hc;exact wpIn_skip ⟨st,hs,Fv.of h⟩
 |region id ops draw=>
  intro r j hc xm S K M μ st a w h hs;unfold comp at hc;have drew:P.follows .mixedOrders=true->wpAnyIn (FR r) 0 P .any ops (Fw GL n S M w.drew K) (ops.size-0) (Array.replicate ops.size false) a w.drew->draw=true->(Code.region id ops draw).wpIn (FR r) 0 P (Fw GL n S M w K) a w:=fun h1 h2 h3=>by subst h3;exact Zaz (wpIn_region_any h1 h2) fun e a' w' ⟨st',hk,S',vu,M',μ',h',hm,hb⟩=>⟨st',hk,S',vu,M',μ',h',hm,((Keeps.refl S.p w).drew).trans hb⟩
  have hz:∀j,j<ops.size->((Array.replicate ops.size false).getD j false=true↔j<0):=fun j hj=>by simp[hj]
  simp only at hc;split at hc
  ·split at hc
   ·rename_i hk;obtain⟨gs,hg,e⟩:=Zhl.1 hc;cases j<;>simp only[J.ir,reduceCtorEq,IR.reg.injEq]at e;subst e;have hl:=Tn hg;cases draw with
    |false=>exact wpIn_region (XN hg (List.range ops.size) st a w (fun i hi=>Zfn.1 hi) (eQ.of h) (by have:=Qw (gs:=gs) (p0:=0) (Zgs hl.symm);rw[OO,Zg6,<-Zf3,<-hl,Zgd]at this;rw[<-hl,this];exact hs))
    |true=>
     simp only[Zb9,Zb5,Zbz]at hk;exact drew hk.1 (XJ (K:=K .normal) hg (Zg9 _) (Zgu _) (XK (n:=0) hk.2.1) (fun i h1 h2=>by omega) (XL hk.2.2) (fun l a w q1 q2 ⟨s,q3,q4⟩=>by rw[Zg5];refine⟨Zde.2 fun i hi=>?_,s,q4,q3.c⟩;obtain⟨h1,h2,_⟩:=Qu.1 hi;rw[Qv (by omega),(q2 i h1).2 h1]at h2;cases h2) (by simp) hz h.drew (by rw[Qw (Zgs hl.symm),<-hl,Zgd];exact hs)) rfl
   ·cases hc
  ·rename_i jg;have hd:draw=true:=by cases draw with|true=>rfl|false=>exact(jg rfl).elim
   split at hc
   ·rename_i gs gs' hg vu;split at hc
    ·rename_i hk;simp only[Zbz]at hk;have hE:=XK (n:=0) hk.2.1;exact drew hk.1 (XM hg vu hE (kH hE hk.2.2) _ 0 j hc (Zg9 _) _ st a w.drew (by simp) hz (eQ.of h.drew) hs) hd
    ·cases hc
   ·cases hc
 |seq x y ihx ihy=>
  intro r j hc xm S K M μ st a w h hs;simp only[comp]at hc;split at hc<;>simp only[Zhp,reduceCtorEq]at hc;rename_i i1 i2 h1 h2;obtain⟨j1,j2,rfl,rfl,hs⟩:∃j1 j2:J,j1.ir=i1/\j2.ir=i2/\W2 P GL j1 (Kf (W2 P GL j2) K) st:=by
   cases j<;>simp only[J.ir,reduceCtorEq,IR.cut.injEq]at hc
   ·exact⟨_,_,hc.1.symm,hc.2.symm,DZ _ hs fun e s hs=>by cases e<;>first|exact⟨_,.inr (.inr ⟨_,rfl⟩),hs⟩|exact hs⟩
   ·exact⟨_,_,hc.1.symm,hc.2.symm,hs⟩
  rw[<-hc]at xm;simp only[GP,Zbz]at xm;refine wpIn_seq (Zaz (ihx r _ h1 (xm.imp_right And.left) S _ M μ st a w h hs) ?_);rintro e a' w' ⟨st',hk,j8⟩;cases e with
  |normal=>obtain⟨S',vu,M',μ',h',hm,hb⟩:=j8;obtain⟨T',hT,hk⟩:=hk;exact Zaz (ihy r _ h2 (xm.imp_right And.right) S' _ M' μ' T' a' w' (h'.subQ hT) hk) (fun e a'' w'' k=>kC vu hm hb e a'' w'' k)
  |_=>exact⟨st',hk,j8⟩
 |cond c x y ihx ihy=>
  intro r j hc xm S K M μ st a w h hs;simp only[comp]at hc;split at hc<;>simp only[Zhp,reduceCtorEq]at hc;rename_i oc i1 i2 h0 h1 h2;cases j<;>simp only[J.ir,reduceCtorEq,IR.cond.injEq]at hc;obtain⟨rfl,rfl,rfl⟩:=hc;simp only[J.ir,GP,Zbz]at xm;have hr:=Az h h0;simp only[W2]at hs;split at hs
  ·rename_i t e;rw[e]at hr;have hb:=GJ (AE hr);cases t with
   |true=>exact wpIn_cond_true hb (ihx r _ h1 (xm.imp_right And.left) S _ M μ st a w h (hs.1 rfl))
   |false=>exact wpIn_cond_false hb (ihy r _ h2 (xm.imp_right And.right) S _ M μ st a w h (hs.2 rfl))
  ·exact hs.elim
 |block id c ih=>
  intro r j hc xm S K M μ st a w h hs;simp only[comp,Zhl]at hc;obtain⟨i1,h1,e⟩:=hc;cases j<;>simp only[J.ir,reduceCtorEq,IR.block.injEq]at e;obtain⟨rfl,rfl⟩:=e;refine wpIn_block (Zaz (ih r _ h1 xm S _ M μ st a w h hs) ?_);rintro e a' w' ⟨st',hk,j8⟩;cases e with
  |exit id'=>
   simp only[E3,Exit.inBlock]at hk⊢;split
   all_goals
    rename_i e;simp only[e]at hk;exact⟨st',hk,j8⟩
  |_=>exact⟨st',hk,j8⟩
 |loop c ih=>
  intro r j hc xm S K M μ st a w h hs;simp only[comp,Zhl]at hc;obtain⟨i1,h1,e⟩:=hc;cases j<;>simp only[J.ir,reduceCtorEq,IR.loop.injEq]at e;subst e;obtain⟨ι,F,m,i0,kh,hround⟩:=hs;refine jZ (α:=ι) (fun i a' w'=>Fv GL n S M w (F i) a' w') m i0 (Fv.of (h.sub' kh)) ?_;rintro i a' w' ⟨S',vu,M',μ',h',hm,hb⟩;refine Zaz (ih r _ h1 xm S' _ M' μ' _ a' w' h' (hround i)) ?_;rintro e a'' w'' ⟨st'',hk,j8⟩;cases e with
  |normal=>obtain⟨i',jn,xh⟩:=hk;obtain⟨S2,g2,M2,μ2,h2,m2,b2⟩:=j8;exact⟨i',Fv.trans vu hm hb ⟨S2,g2,M2,μ2,h2.sub' xh,m2,b2⟩,jn⟩
  |_=>exact⟨st'',hk,j8.trans vu hm hb⟩
 |exit id=>intro r j hc xm S K M μ st a w h hs;cases j<;>simp only[comp,J.ir,Zhp,reduceCtorEq,IR.exit.injEq]at hc;subst hc;exact wpIn_exit ⟨st,hs,Fv.of h⟩
 |ret=>intro r j hc xm S K M μ st a w h hs;cases j<;>simp only[comp,J.ir,Zhp,reduceCtorEq]at hc;exact wpIn_ret ⟨st,hs,Fv.of h⟩
 |rangeFunc g ps x y ihx ihy=>
  intro r j hc xm S K M μ st a w h hs;simp only[comp]at hc;split at hc
  ·rename_i og ix iy h0 h1 h2;split at hc
   ·rename_i hfree;cases j<;>simp only[J.ir,reduceCtorEq,Zhp,IR.rf.injEq]at hc;obtain⟨rfl,rfl,rfl,rfl,rfl⟩:=hc;rcases xm with rfl|xm
    ·simp only[Zbz,Zcu,Zgp]at hfree;exact jW h h0 hfree.2 (fun l=>ihx (some l) _ h1 (.inr hfree.1.1)) (fun l=>ihy (some l) _ h2 (.inr hfree.1.2)) hs
    ·simp[GP,J.ir]at xm
   ·cases hc
  ·cases hc
 |_=>intro r j hc;simp[comp]at hc
end
end Go.Dl
end
section
namespace Go.Dl
open Go Go.RowKit
section
variable {P:Program}{GL:List (Nat×List I)}{n:Nat}{S:Sh}{M:Mem}{μ μ':Place}{N N':Nat->Prop}{f:Nat->Nat}{sto:List (Nat×Blk)}{w:World}{nm:Nat}{st:St}{a:Act}
inductive RV where
 |tmp (t:Nat)
 |cell (t k:Nat) (ag:Bool)
def Ic(P:Program):ResultVar->Option RV
 |.tmp t=>some (.tmp t)
 |.cell t ty=>match PY P ty,Ee P ty with|some k,some ag=>if ag||k==1 then some (.cell t k ag)else none|_,_=>none
def rvD(st:St):RV->Option D
 |.tmp t=>match Aj st.env t with|.any=>none|x=>some x
 |.cell t k ag=>match Aj st.env t with
  |.i (.elt cs off)=>if Nat.ble (off+k) cs.length then some (.i (pk ag cs off k))else none
  |.ref (.loc nm off)=>match Aa st.sto nm with
   |some (.cells cs)=>if Nat.ble (off+k) cs.length&&(!ag||BG ((cs.drop off).take k))then some (fy ag cs off k)else none
   |_=>none
  |_=>none
def Jb(st:St):List RV->Option (List D)
 |[]=>some []
 |r::rs=>match rvD st r,Jb st rs with|some x,some xs=>some (x::xs)|_,_=>none
def MP:List D->Option D
 |[x]=>some x
 |xs=>if BG xs then some (.i (.tup (xs.map H1)))else none
def kf:List (Nat×Nat)->Nat->Nat
 |[],m=>m
 |(o,nw)::r,m=>if o=m then nw else kf r m
def Cn(olds:List Nat):List (Nat×Blk)->List (Nat×Blk)
 |[]=>[]
 |(m,b)::r=>if olds.contains m then(m,b)::Cn olds r else Cn olds r
def OP(given mv:List Nat)(ks:List (Nat×Nat)):Bool:=
 Ea (ks.map (·.1))&&Ea (ks.map (·.2))&&ks.all fun p=>p.1==p.2||!(given.contains p.2)||mv.contains p.2
def Ie(st:St)(rs:List RV):Option D:=match Jb st rs with|some xs=>MP xs|none=>none
def Fy(rs:List RV)(given mv:List Nat)(R:D->List (Nat×Blk)->Prop)(st:St):Prop:=
 ∃l ks,match Ie (frzNs l st) rs with
  |some x=>OP given mv ks=true/\(Oe (Cn (ks.map (·.1)) (frzNs l st).sto) x.nms=true/\PW (Cn (ks.map (·.1)) (frzNs l st).sto) (Cn (ks.map (·.1)) (frzNs l st).sto)=true)/\
    R (I8 (kf ks) x) (IL (kf ks) (Cn (ks.map (·.1)) (frzNs l st).sto))
  |none=>False
def Lu(rs:List RV)(given mv:List Nat)(R:D->List (Nat×Blk)->Prop):Exit->St->Prop
 |.normal,st=>Fy rs given mv R st
 |.ret,st=>Fy rs given mv R st
 |_,_=>False
def To(tmps:Array Value):ResultVar->Sem Value
 |.tmp t=>pure (tmps.getD t Go.undef)
 |.cell a t=>do loadVar t (<-asAddr (tmps.getD a Go.undef))
theorem kK(fn:Func)(tmps:Array Value):results fn tmps=(do let vs <-fn.results.mapM (To tmps);pure (if h:vs.size=1 then vs[0]else .tuple vs)):=by rfl
theorem kL(h:Rel GL n S M μ st a w){rv:ResultVar}{r:RV}{x:D}(hc:Ic P rv=some r)(hx:rvD st r=some x):∃v,(To a.tmps rv).run P w=.ok v w/\AD M μ (names st.sto) x v:=by
 cases rv with
 |tmp t=>simp[Ic]at hc;subst hc;have he:=h.env t;simp only[rvD]at hx;split at hx<;>cases hx;exact⟨_,rfl,he⟩
 |cell t ty=>
  show∃v,(do loadVar ty (<-asAddr (a.tmps.getD t Go.undef)):Sem Value).run P w=.ok v w/\_;simp only[Ic]at hc;split at hc
  ·rename_i k ag hk ha;split at hc
   ·rename_i qc;cases hc;have hk1':ag=false->k=1:=fun e=>by subst e;simpa using qc
    have he:=h.env t;have xg:∀b oo,a.tmps.getD t Go.undef=.pointer (some ⟨b,oo,none⟩)->∀V,(loadVar ty ⟨b,oo,none⟩).run P w=.ok V w->(do loadVar ty (<-asAddr (a.tmps.getD t Go.undef)):Sem Value).run P w=.ok V w:=fun b oo e V hV=>by rw[e];simp only[Sem.run_bind,asAddr,Sem.run_pure,Result.andThen_ok,hV]
    simp only[rvD]at hx;split at hx
    ·rename_i cs off e;rw[e]at he;have he:=AE he;split at hx
     ·rename_i ji;have ji:=Zgr ji;cases hx;generalize hv:a.tmps.getD t Go.undef=vx at he;cases he with
      |elt _ _ b oo v hm hvv=>refine⟨_,by have:=xg _ _ hv _ (Oq hk ha hk1' (f:=fun j=>v (off+j)) fun j hj=>by rw[Zgl];exact h.sub.1 _ _ _ (hm _ (by omega)));rw[hv]at this;exact this,AJ (Sp hk1' ji fun j hj=>hvv _ (by omega))⟩
     ·cases hx
    ·rename_i nm off e;rw[e]at he;obtain⟨hN,b,hμ,hxv⟩:=he;split at hx
     ·rename_i cs kq;split at hx
      ·rename_i kl;cases hx;rw[Zbz]at kl;have ji:=Zgr kl.1;have jj:ag=true->BG ((cs.drop off).take k)=true:=fun e=>by have:=kl.2;rw[e]at this;simpa using this
       obtain⟨b',vs,ty,hμ',jc,j0,hv⟩:=h.blk nm _ kq;obtain rfl:b'=b:=by rw[hμ]at hμ';injection hμ' with e1;injection e1 with e2;injection e2 with e3;exact e3.symm
       have j6:∀j (hj:j<vs.size),w.cell? ⟨b',j,none⟩=some vs[j]:=fun j hj=>by simp[World.cell?,jc.heap,hj]
       refine⟨_,xg _ _ hxv _ (Oq hk ha hk1' (f:=fun j=>vs.getD (off+j) Go.undef) fun j hj=>?_),?_⟩
       ·rw[j6 _ (by omega)];simp[show off+j<vs.size by omega]
       ·cases ag with
        |true=>
         simp only[fy,Zad];show Rep M _ _;refine Rep.agg' ⟨by simp;omega,fun j h1 h2=>?_⟩;have hj:j<k:=by simpa using h2
         have hi:JH (cs[off+j]'(by omega))=true:=by have:=jj rfl;simp only[BG,Zcu]at this;exact this _ (Zfg.2 ⟨j,by simp;omega,by simp⟩)
         have:=Oo (hv (off+j) (by omega) (by omega)) hi;simp[show off+j<vs.size by omega];exact this
        |false=>
         obtain rfl:=hk1' rfl;simp only[fy,Zb4,Zag,Zgn];have:cs.getD off .any=cs[off]'(by omega):=by simp[List.getD,Zd2 (show off<cs.length by omega)]
         rw[this];have:=hv off (by omega) (by omega);simpa[show off<vs.size by omega]using this
      ·cases hx
     ·cases hx
    ·cases hx
   ·cases hc
  ·cases hc
theorem XO(h:Rel GL n S M μ st a w):∀{rvs:List ResultVar} {rs:List RV} {xs:List D},rvs.mapM (Ic P)=some rs->Jb st rs=some xs->∃vs,(rvs.mapM (To a.tmps)).run P w=.ok vs w/\Db M μ (names st.sto) xs vs
 |[],rs,xs,hc,hx=>by simp at hc;subst hc;simp[Jb]at hx;subst hx;exact⟨[],rfl,rfl,fun j hj=>by simp at hj⟩
 |rv::rvs,rs,xs,hc,hx=>by
  rw[Zey]at hc;cases h1:Ic P rv with
  |none=>simp[h1]at hc
  |some r=>
   cases h2:rvs.mapM (Ic P)with
   |none=>simp[h1,h2]at hc
   |some rs'=>
    simp[h1,h2]at hc;subst hc;simp only[Jb]at hx;split at hx<;>cases hx;rename_i x xs' hx1 hx2;obtain⟨v,e1,r1⟩:=kL h h1 hx1;obtain⟨vs,e2,r2⟩:=XO h h2 hx2;refine⟨v::vs,by rw[Zey];simp only[Sem.run_bind,e1,Result.andThen_ok,e2,Sem.run_pure],by simp[r2.1],fun j h1 h2=>?_⟩;cases j with
    |zero=>exact r1
    |succ j=>exact r2.2 j (by simpa using h1) (by simpa using h2)
theorem kM(h:Rel GL n S M μ st a w){fn:Func}{rs:List RV}{x:D}(hrs:fn.results.toList.mapM (Ic P)=some rs)(hx:Ie st rs=some x):∃v,(results fn a.tmps).run P w=.ok v w/\AD M μ (names st.sto) x v:=by
 unfold Ie at hx;split at hx
 ·rename_i xs hxs;obtain⟨us,e1,r1⟩:=XO h hrs hxs;have e2:(results fn a.tmps).run P w=.ok (if h:us.toArray.size=1 then us.toArray[0]else .tuple us.toArray) w:=by rw[kK,Sem.run_bind,<-Zbu (xs:=fn.results),List.mapM_toArray];simp_all
  by_cases h1:us.toArray.size=1
  ·rw[dif_pos h1]at e2;have hl:xs.length=1:=by have:=r1.1;simp at h1;omega
   match xs,hl,hx,r1 with
   |[y],_,hx,r1=>simp only[MP,Zhp]at hx;subst hx;exact⟨_,e2,by have:=r1.2 0 (by simp) (by simp at h1;omega);simpa using this⟩
  ·rw[dif_neg h1]at e2;have hl:xs.length≠1:=by have:=r1.1;simp at h1;omega
   have hx':(if BG xs then some (D.i (.tup (xs.map H1)))else none)=some x:=by
    match xs,hl,hx with
    |[],_,hx=>exact hx
    |[y],h0,_=>simp at h0
    |_::_::_,_,hx=>exact hx
   split at hx'
   ·rename_i ha;cases hx';refine⟨_,e2,AJ (Rep.tup' ⟨by simpa using r1.1,fun j h1 h2=>?_⟩)⟩;have hj:j<xs.length:=by grind
    have hi:JH xs[j]=true:=by grind[BG]
    have:=Oo (r1.2 j hj (by simpa using h2)) hi;grind
   ·cases hx'
 ·cases hx
theorem XP(olds:List Nat)(l:List (Nat×Blk))(m:Nat):Aa (Cn olds l) m=if olds.contains m then Aa l m else none:=by
 induction l with
 |nil=>simp[Cn,Aa]
 |cons x r ih=>grind[Cn,Aa]
theorem kN(olds:List Nat)(l:List (Nat×Blk)):∀m b,Aa (Cn olds l) m=some b->Aa l m=some b:=fun m b h=>by grind[XP]
theorem StoOk.res(h:StoOk S.p M μ sto w){sto':List (Nat×Blk)}(hs:∀m b,Aa sto' m=some b->Aa sto m=some b)(hc:PW sto' sto'=true):StoOk S.p M μ sto' w where
 sub:=h.sub
 blk:=fun nm b hb=>(h.blk nm b (hs nm b hb)).mono (Mem.le_refl _) rfl (fun m hm _=>⟨I4 hc nm b hb m hm,rfl⟩) (fun _ _ _=>rfl) (fun _ _ _=>Mem.same_refl _ _)
 sep:=fun m m' k k' jg h1 h2=>by
  refine h.sep m m' k k' jg ?_ ?_
  ·obtain⟨x,hx⟩:=Zhi.1 h1;simp[names,hs m x hx]
  ·obtain⟨x,hx⟩:=Zhi.1 h2;simp[names,hs m' x hx]
 low:=h.low
theorem Tp:∀{ks:List (Nat×Nat)} {o:Nat},o∈ks.map (·.1)->(o,kf ks o)∈ks
 |[],o,h=>by simp at h
 |(k,nw)::r,o,h=>by
  simp only[kf];split
  ·rename_i e;subst e;exact Zfd
  ·rename_i e;simp only[Ze1,Zfb]at h;exact Zfc _ (Tp (h.resolve_left (Ne.symm e)))
theorem Tq:∀{ks:List (Nat×Nat)},Ea (ks.map (·.2))=true->∀{o o' nw:Nat},(o,nw)∈ks->(o',nw)∈ks->o=o'
 |[],_,o,o',nw,h,_=>by simp at h
 |(k,m)::r,hd,o,o',nw,h,h'=>by
  obtain⟨h1,h2⟩:=S9 (by simpa using hd);simp only[Zfb,Zhr]at h h';rcases h with⟨e1,e2⟩|h<;>rcases h' with⟨e3,e4⟩|h'
  ·rw[e1,e3]
  ·subst e2;exact(h1 (Zfh.2 ⟨_,h',rfl⟩)).elim
  ·subst e4;exact(h1 (Zfh.2 ⟨_,h,rfl⟩)).elim
  ·exact Tq h2 h h'
def kb:List (Nat×Nat)->Nat->Option Nat
 |[],_=>none
 |(o,nw)::r,m=>if nw=m then some o else kb r m
theorem Tr:∀{ks:List (Nat×Nat)} {m o:Nat},kb ks m=some o->(o,m)∈ks
 |[],m,o,h=>by cases h
 |(k,nw)::r,m,o,h=>by
  simp only[kb]at h;split at h
  ·rename_i e;subst e;cases h;exact Zfd
  ·exact Zfc _ (Tr h)
theorem XQ:∀{ks:List (Nat×Nat)} {m o:Nat},(o,m)∈ks->(kb ks m).isSome=true
 |[],m,o,h=>by simp at h
 |(k,nw)::r,m,o,h=>by
  simp only[kb];split
  ·rfl
  ·rename_i e;simp only[Zfb,Zhr]at h;exact XQ (h.resolve_left fun q=>e q.2.symm)
theorem AP.put{S:Nat->Prop}{M:Mem}{μ:Place}{N:Nat->Prop}{w:World}{nm b:Nat}{x:Blk}{o:Obj}(h:AP S M μ N w nm x)(hd:∃ds,w.heap[b]? =some (.deferred ds)):AP S M μ N (w.putObj b o) nm x:=by
 have own:∀{k:Nat} {q:Obj},Owns S M w k q->(∀ds,q≠.deferred ds)->Owns S M (w.putObj b o) k q:=fun{k q} hq jg=>⟨hq.low,by
  obtain⟨ds,hd⟩:=hd;rw[World.putObj_heap_other (fun e=>by subst e;rw[hq.heap]at hd;cases hd;exact jg ds rfl)];exact hq.heap,hq.unk⟩
 cases x with
 |cells cs=>obtain⟨bb,vs,t,e,ho,j0,hr⟩:=h;exact⟨bb,vs,t,e,own ho (fun _=>by simp),j0,hr⟩
 |rows e k rs=>obtain⟨aa,cap,e,hh⟩:=h;refine⟨aa,cap,e,hh.imp id ?_⟩;grind
 |map ls es=>obtain⟨bb,xs,clk,e,ho,q⟩:=h;exact⟨bb,xs,clk,e,own ho (fun _=>by simp),q⟩
 |iter cur rest=>obtain⟨bb,mm,since,seen,last,e,ho,q⟩:=h;exact⟨bb,mm,since,seen,last,e,own ho (fun _=>by simp),q⟩
 |lp l q cs=>obtain⟨vs,e,ho,q⟩:=h;exact⟨vs,e,own ho (fun _=>by simp),q⟩
 |gmap ls clk es=>obtain⟨bb,xs,e,ho,q⟩:=h;exact⟨bb,xs,e,own ho (fun _=>by simp),q⟩
 |arr e k rs=>obtain⟨aa,e1,hh⟩:=h;refine⟨aa,e1,hh.imp id ?_⟩;grind
theorem AP.shr{S S':Nat->Prop}{M:Mem}{μ:Place}{N:Nat->Prop}{w:World}{nm:Nat}{x:Blk}(hs:∀b,S b->S' b)(h:AP S' M μ N w nm x):AP S M μ N w nm x:=
 h.reS fun k _ hS=>hs k hS
theorem StoOk.shr{S S':Nat->Prop}{M:Mem}{μ:Place}{l:List (Nat×Blk)}{w:World}(hs:∀b,S b->S' b)(h:StoOk S' M μ l w):StoOk S M μ l w:=
 ⟨h.sub,fun nm b hb=>(h.blk nm b hb).shr hs,h.sep,fun b hb=>h.low b (hs b hb)⟩
theorem StoOk.put{S:Nat->Prop}{M:Mem}{μ:Place}{l:List (Nat×Blk)}{w:World}{b:Nat}{o:Obj}(h:StoOk S M μ l w)(hd:∃ds,w.heap[b]? =some (.deferred ds)):StoOk S M μ l (w.putObj b o):=by
 refine⟨⟨fun k q v hk=>?_,fun k x hk=>?_⟩,fun nm x hx=>(h.blk nm x hx).put hd,h.sep,fun k hk=>by rw[World.putObj_size];exact h.low k hk⟩
 ·have h1:=h.sub.1 k q v hk;obtain⟨ds,hd⟩:=hd;have jg:k≠b:=fun e=>by subst e;simp[World.cell?,hd]at h1
  rw[<-h1];exact World.cell?_of_block (World.putObj_heap_other jg)
 ·have h1:=h.sub.2 k x hk;obtain⟨ds,hd⟩:=hd;have jg:k≠b:=fun e=>by grind
  rw[World.putObj_heap_other jg];exact h1
theorem Keeps.put{S:Nat->Prop}{w w':World}{b:Nat}{o:Obj}(h:Keeps S w w')(hb:¬S b):Keeps S w (w'.putObj b o):=
 ⟨h.os,h.tape,h.output,by rw[World.putObj_size];exact h.size,fun k hk=>by rw[World.putObj_heap_other (k:=k) (r:=b) (fun e=>hb (by rw[<-e];exact hk))];exact h.block k hk,h.drawn⟩
theorem kO{f:FuncId}{fn:Func}{mu:List Nat}{rt:List (Nat×Nat)}{j:J}{hh:List (Nat×List (List Nat))}{args:List D}{mv:List Nat}{R:D->List (Nat×Blk)->Prop}{rs:List RV}(hf:P.funcs[f]? =some fn)(hname:(fn.name != "runtime.NumGoroutine")=true)
  (hn:fn.ntmps=n)(jz:Nat.ble args.length n=true)(h999:Nat.ble n 999=true)(hbc:fn.body.bind (comp P GL n mu true rt hh)=some j.ir)(hrs:fn.results.toList.mapM (Ic P)=some rs)
  (hpin:((sto.map (·.1)).all fun m=>(Nat.ble 5000 m&&Nat.blt m 5500)||mv.contains m)=true)
  (hw:W2 P GL j (Lu rs (sto.map (·.1)) mv R) ⟨.l (DK 0 args),sto⟩)(hfy:Nat.blt f 1000000000=true:=by first|rfl|assumption):MC P GL f args sto mv R:=by
 obtain⟨c,hb,hc⟩:=Zhd.1 hbc;have jz:args.length<=n:=Zgr jz;have h999:n<=999:=Zgr h999;intro M μ w vs kr qp hr;refine .inl ⟨by unfold Ck;rw[hfy,hf];simp only[hname,Zce,hb,Zhk],?_⟩;have hvl:vs.size=args.length:=by simpa using hr.1
 subst hn;have h0:Rel GL fn.ntmps (AL μ sto w) M μ ⟨.l (DK 0 args),sto⟩ {tmps:=vs++Array.replicate (fn.ntmps-vs.size) Go.undef,defers:=[]} w:=
  {toStoOk:=kr,small:=h999,pin:=fun _ _=>rfl,defers:=rfl,size:=by simp;omega,env:=fun s=>by refine Ta args vs.toList 0 hr s _ (fun hl _=>?_);simp at hl;simp[hl,Zbf],glob:=qp}
 refine callsIn_wide.1 (callsIn_of_wp_marks (n:=0) hf hb trivial (Zaz (kJ c none _ hc (.inl rfl) _ _ M _ _ _ w h0 hw) ?_));rintro e a' w' ⟨st',hk,S',vu,M',μ',hS',hm,hkeep'⟩;have fin:∀w1,Rel GL fn.ntmps (AL μ sto w) M' μ' st' ⟨a'.tmps,[]⟩ w1->Keeps (AL μ sto w).p w w1->Fy rs (sto.map (·.1)) mv R st'->∃v,(results fn a'.tmps).run P w1=.ok v w1/\∃v1,Ending.returned v=Ending.returned v1/\∃r sto' M'' μ'',R r sto'/\StoOk (AL μ sto w) M'' μ'' sto' w1/\AD M'' μ'' (names sto') r v1/\
   MExt (AL μ sto w) M M''/\Keeps (AL μ sto w) w w1/\∀nm,names sto nm->nm∉mv->μ'' nm=μ nm:=by
  intro w1 h' xl j8;obtain⟨l,ks,j8⟩:=j8;obtain⟨M2,h2,m2⟩:=h'.frzNs l;generalize frzNs l st'=st2 at j8 h2;split at j8
  ·rename_i x hx;obtain⟨v,jh,hxr⟩:=kM h2 hrs hx;obtain⟨hko,⟨j9,vw⟩,hR⟩:=j8;simp only[OP,Zbz,Zcu,Zcb,Zas,Zb7]at hko;obtain⟨⟨qc,qe⟩,qf⟩:=hko;generalize jf:Cn (ks.map (·.1)) st2.sto=sto2 at j9 vw hR;have hsub2:∀m b,Aa sto2 m=some b->Aa st2.sto m=some b:=fun m b hb=>by grind[kN]
   have wm:∀m,names sto2 m->m∈ks.map (·.1):=fun m hm=>by grind[names,XP]
   have we:StoOk (AL μ sto w).p M2 μ' sto2 w1:=h2.toStoOk.res hsub2 vw;have hinj:∀a b,names sto2 a->names sto2 b->kf ks a=kf ks b->a=b:=fun a b ha hb e=>by grind[Tp,Tq]
   let μ2:Place:=fun m=>match kb ks m with|some o=>μ' o|none=>μ m
   have hμ2:∀m,names sto2 m->μ2 (kf ks m)=μ' m:=fun m hm=>by have h1:=Tp (wm m hm);obtain⟨o,ho⟩:=Zhi.1 (XQ h1);have:o=m:=Tq qe (Tr ho) h1;grind
   refine⟨v,jh,v,rfl,_,_,M2,μ2,hR,we.mp hinj hμ2 (fun _=>Iff.rfl),?_,hm.trans m2,xl,fun nm jl hmv=>?_⟩
   ·have:AD M2 μ' (names sto2) x v:=hxr.mono' (Mem.le_refl _) fun q hq _=>⟨E1 j9 q hq,rfl⟩
    exact this.mp (fun m hm=>GO hm) hμ2
   ·simp only[μ2];cases hb:kb ks nm with
    |none=>rfl
    |some o=>
     have kw:=Tr hb;have hg:nm∈sto.map (·.1):=Cl.2 jl;rcases qf _ kw with(e|e)|e
     ·simp only at e;subst e;simp only;rw[Zcu]at hpin;have:=hpin _ hg;simp only[Zcb,Zbz,Zgo,Zgp]at this;rcases this with q|q
      ·exact h2.pin _ q
      ·exact(hmv (Zc4.1 q)).elim
     ·have:=Zc4.2 hg;simp only at e;rw[e]at this;cases this
     ·exact(hmv (Zc4.1 e)).elim
  ·exact j8.elim
 obtain⟨bs,hbs,hnd,qy⟩:=vu.ds;have wy:a'.defers=bs.map mkD:=by rw[hS'.defers,hbs];exact Zc1 _
 have hq:S'.q=(AL μ sto w).q:=vu.q;have key:Fy rs (sto.map (·.1)) mv R st'->∀(bs:List Nat) (w1:World),bs.Nodup->(∀b∈bs,¬(AL μ sto w).p b/\w1.heap[b]? =some (.deferred (some [])))->StoOk (AL μ sto w).p M' μ' st'.sto w1->Keeps (AL μ sto w).p w w1->
   LeavesInM Fence.wide 0 P fn a'.tmps (fun e w'=>∃v,e=.returned v/\∃r sto' M' μ',R r sto'/\StoOk (AL μ sto w) M' μ' sto' w'/\AD M' μ' (names sto') r v/\MExt (AL μ sto w) M M'/\Keeps (AL μ sto w) w w'/\∀nm,names sto nm->nm∉mv->μ' nm=μ nm) (bs.map mkD) .returning w1:=by
  intro j8 bs
  induction bs with
  |nil=>intro w1 _ _ hs hk;obtain⟨v,jh,hh⟩:=fin w1 {toStoOk:=hs,small:=hS'.small,pin:=fun m hm=>(hS'.pin m hm).trans (by rw[hq]),defers:=rfl,size:=hS'.size,env:=hS'.env,glob:=hS'.glob} hk j8;exact⟨v,jh,hh⟩
  |cons b bs ih=>intro w1 hnd qy hs hk;have hb:=qy b Zfd;refine⟨by simp,.inl ⟨b,w1.putObj b (.deferred none),rfl,run_takeDeferred hb.2,?_⟩⟩;refine ih _ (Zfu.1 hnd).2 (fun k (jk:k∈bs)=>⟨(qy k (Zfc _ jk)).1,?_⟩) (hs.put ⟨_,hb.2⟩) (hk.put hb.1);rw[World.putObj_heap_other (k:=k) (r:=b) (fun e=>(Zfu.1 hnd).1 (by rw[<-e];assumption))];exact(qy k (Zfc _ jk)).2
 have go:Fy rs (sto.map (·.1)) mv R st'->_:=fun j8=>key j8 bs w' hnd (fun b hb=>⟨(qy b hb).2.1,(qy b hb).2.2⟩) (hS'.toStoOk.shr vu.p) hkeep'
 rw[<-wy]at go;cases e with
 |normal=>exact go hk
 |ret=>exact go hk
 |_=>exact hk.elim
end
end Go.Dl
end
