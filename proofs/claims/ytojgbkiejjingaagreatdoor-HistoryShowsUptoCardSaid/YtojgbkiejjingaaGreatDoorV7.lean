/-Lemmas.-/
import Derived.Test.YtojgbkiejjingaaGreatDoorV6
import Derived.Orders
set_option linter.all false
section
namespace Go.Dl
open Go Go.RowKit
section
variable {P:Program}{GL:List (Nat×List I)}{sn:List Nat}
theorem iY{cs:List D}{off:Nat}{nm:Nat}(h:nm∈(cs.getD off .any).nms):∃d∈cs,nm∈d.nms:=by grind[D.nms]
theorem iZ{ins:Ins}{ρ:O->D}{σ:Nat->Option Blk}{nm:Nat}(h:nm∈(pv ρ σ ins).1.nms):
  (∃o∈BB ins,nm∈(ρ o).nms)\/∃m cs d,σ m=some (.cells cs)/\d∈cs/\nm∈d.nms:=by
 have no:∀x:I,nm∈(D.i x).nms->False:=fun x h=>by grind[D.nms]
 have noa:nm∈(D.any).nms->False:=fun h=>by grind[D.nms]
 cases ins<;>simp only[pv,BB]at h⊢
 case mov d x=>exact .inl ⟨x,by simp,h⟩
 case pick d c a b=>
  split at h
  ·rename_i t _;cases t
   ·exact .inl ⟨b,by simp,h⟩
   ·exact .inl ⟨a,by simp,h⟩
  ·exact(noa h).elim
 case load d x k ag=>
  split at h
  ·exact(no _ h).elim
  ·split at h
   ·rename_i nm' off e _ cs hg;simp only[fy]at h;split at h
    ·exact(no _ h).elim
    ·obtain⟨d,hd,hn⟩:=iY h;exact .inr ⟨nm',cs,d,hg,hd,hn⟩
   ·exact(noa h).elim
  ·split at h<;>first|exact(no _ h).elim|exact(noa h).elim
  ·exact(noa h).elim
 case fa d x off=>
  refine .inl ⟨x,by simp,?_⟩;split at h
  ·exact(no _ h).elim
  ·rename_i e;rw[e];exact h
  ·rename_i e;rw[e];exact h
  ·exact(noa h).elim
 case iaa d x i k len=>
  refine .inl ⟨x,by simp,?_⟩;split at h
  ·exact(no _ h).elim
  ·rename_i e _;rw[e];exact h
  ·rename_i e _;rw[e];exact h
  ·exact(noa h).elim
 case ia d s i k=>
  split at h
  ·exact(no _ h).elim
  ·rename_i e _;refine .inl ⟨s,by simp,?_⟩;split at h
   ·rw[e];exact h
   ·exact(noa h).elim
  ·exact(noa h).elim
 case slc d x lo hi k=>
  split at h
  ·split at h<;>first|exact(no _ h).elim|exact(noa h).elim
  ·rename_i e;refine .inl ⟨x,by simp,?_⟩;split at h
   ·split at h
    ·rw[e];exact h
    ·exact(noa h).elim
   ·split at h
    ·rw[e];exact h
    ·exact(noa h).elim
   ·exact(noa h).elim
  ·exact(noa h).elim
 case ext d x i=>
  split at h
  ·exact(no _ h).elim
  ·rename_i cs e;refine .inl ⟨x,by simp,?_⟩;rw[e];simp only[D.nms,Zff];by_cases hi:i<cs.length
   ·refine⟨cs[i],Zef hi,?_⟩;have e2:cs.getD i .any=cs[i]:=by grind
    rw[e2]at h;cases hc:cs[i]<;>rw[hc]at h<;>first|exact h|simp[Cp.toD,D.nms]at h
   ·have e2:cs.getD i .any=.any:=by simp[List.getD,Zd3 (Zgt hi)]
    rw[e2]at h;simp[Cp.toD,D.nms]at h
  ·exact(noa h).elim
 case mkfn d f first caps=>
  split at h
  ·rename_i a b e1 e2;have key:∀(l:List O) (cs:List Cp),(l.mapM fun o=>Cm (ρ o))=some cs->nm∈cs.flatMap Cp.nms->∃o∈l,nm∈(ρ o).nms:=by
    intro l
    induction l with
    |nil=>intro cs h1 h2;simp at h1;subst h1;simp at h2
    |cons x l ih=>
     intro cs h1 h2;rw[Zey]at h1;cases q1:Cm (ρ x)with
     |none=>simp[q1]at h1
     |some c=>
      cases q2:(l.mapM fun o=>Cm (ρ o))with
      |none=>simp[q1,q2]at h1
      |some cs'=>
       simp[q1,q2]at h1;subst h1;simp only[Zdp,Ze9]at h2;rcases h2 with h2|h2
       ·refine⟨x,by simp,?_⟩;cases hx:ρ x<;>simp[hx,Cm]at q1<;>subst q1<;>simp[Cp.nms]at h2;simp[D.nms,h2]
       all_goals grind
   unfold fnD at h;split at h
   ·exact(no _ h).elim
   ·simp only[D.nms,Ze9]at h;rcases h with h|h
    ·obtain⟨o,ho,hn⟩:=key _ _ e1 h;exact .inl ⟨o,by simp[ho],hn⟩
    ·obtain⟨o,ho,hn⟩:=key _ _ e2 h;exact .inl ⟨o,by simp[ho],hn⟩
  ·exact(noa h).elim
 all_goals first
  |exact(noa h).elim
  |exact(no _ h).elim
  |(split at h<;>first|exact(noa h).elim|exact(no _ h).elim|(split at h<;>first|exact(noa h).elim|exact(no _ h).elim|(split at h<;>first|exact(noa h).elim|exact(no _ h).elim)))
theorem i6{x d:D}(hd:d∈A9 x){nm:Nat}(h:nm∈d.nms):nm∈x.nms:=by
 cases x with
 |i y=>cases y<;>simp[A9]at hd<;>first|(subst hd;exact h)|(obtain⟨z,_,rfl⟩:=hd;simp[D.nms]at h)
 |_=>simp[A9]at hd;subst hd;exact h
theorem i7{α:Type}{cs us:List α}{off:Nat}{x:α}(h:x∈setL cs off us):x∈cs\/x∈us:=by grind[setL]
theorem i8{g:X}{st:St}(hc:I7 st)(hp:Ca P GL sn g st):I7 (Bq GL g st):=by
 obtain⟨e,s⟩:=F1 hp;have mono:∀m,names st.sto m->names (Bq GL g st).sto m:=fun m hm=>by
  simp only[names]at hm⊢;rw[s];unfold Dt;split
  ·split;rfl;exact hm
  ·exact hm
 constructor
 ·intro i nm hn;rw[e]at hn;unfold B1 at hn;split at hn
  ·rename_i d v jo;split at hn
   ·unfold Cx at jo;unfold Ca at hp;split at hp
    ·exact hp.elim
    ·rename_i hg;simp only[hg]at jo;have key:∀ins:Ins,(BH ins).isSome->nm∈(pv (AZ GL st) (Aa st.sto) ins).1.nms->names (Bq GL g st).sto nm:=fun ins hd h=>by
      rcases iZ h with⟨o,_,ho⟩|⟨m,cs,d,hm,hd,hdn⟩
      ·exact mono _ (Ql (GL:=GL) hc ho)
      ·exact mono _ (hc.2 m _ hm nm (Zff.2 ⟨d,hd,hdn⟩))
     cases wb:g.1.ins<;>rw[wb]at jo hp<;>simp only[Eg,BH,reduceCtorEq,Zhp,Zhr]at jo
     case call=>split at jo<;>cases jo;simp[D.nms]at hn
     case callv=>split at jo<;>cases jo;simp[D.nms]at hn
     case alloc d zs=>
      obtain⟨rfl,rfl⟩:=jo;simp[D.nms,Ref.nm]at hn;subst hn;simp only[names];rw[s];simp[Dt,fh,hg,wb,wrI]
     all_goals
      obtain⟨_,rfl⟩:=jo;exact key _ (by simp[BH]) hn
    ·rename_i hg;simp only[hg]at jo;split at jo<;>cases jo;simp[D.nms]at hn
   ·exact mono _ (hc.1 i nm hn)
  ·exact mono _ (hc.1 i nm hn)
 ·intro nm b kq m hm;rw[s]at kq;unfold Dt at kq;split at kq
  ·rename_i d' bl hw;split at kq
   ·cases kq;unfold fh at hw;split at hw
    ·cases wb:g.1.ins<;>rw[wb]at hw<;>simp only[wrI,reduceCtorEq]at hw
     case alloc d2 zs=>
      cases hw;simp only[Blk.nms,Zff]at hm;obtain⟨d,hd,hm⟩:=hm;obtain⟨z,_,rfl⟩:=Zfh.1 hd;simp[D.nms]at hm
     case store ox ov k=>
      split at hw
      ·rename_i nm2 off e2;split at hw
       ·rename_i cs2 hg2;cases hw;simp only[Blk.nms,Zff]at hm;obtain⟨d,hd,hm⟩:=hm;rcases i7 hd with h|h
        ·exact mono _ (hc.2 _ _ hg2 m (Zff.2 ⟨d,h,hm⟩))
        ·exact mono _ (Ql (GL:=GL) hc (i6 h hm))
       ·cases hw
      ·cases hw
     case mupd ox oq ov ls=>
      split at hw
      ·split at hw
       ·cases hw;simp[Blk.nms]at hm
       ·cases hw
      ·cases hw
    ·cases hw
   ·exact mono _ (hc.2 nm b kq m hm)
  ·exact mono _ (hc.2 nm b kq m hm)
theorem W4:∀(l:List X) (g:X) (r:List X) (st:St) (K:St->Prop),I7 st->(∀x∈l,OE x.1 g.1=true)->DW P GL sn (l++g::r) st K->Ca P GL sn g st/\DW P GL sn (l++r) (Bq GL g st) (fun u=>∃v,K v/\Oc v u)
 |[],g,r,st,K,hc,hi,h=>⟨h.1,J9 r (fun u hu=>⟨u,hu,Oc.refl u⟩) h.2⟩
 |x::l,g,r,st,K,hc,hi,h=>by obtain⟨h1,h2⟩:=h;obtain⟨h3,h4⟩:=W4 l g r (Bq GL x st) K (i8 hc h1) (fun y hy=>hi y (Zfc _ hy)) h2;obtain⟨h5,h6,h7⟩:=swap hc (hi x (Zfd)) h1 h3;refine⟨h5,h6,?_⟩;refine J9 (l++r) ?_ (Qj (l++r) h7.symm h4);rintro u ⟨v,⟨v',hk,hs⟩,hs'⟩;exact⟨v',hk,hs.trans hs'⟩
end
end Go.Dl
end
section
namespace Go.Dl
open Go Go.RowKit
variable{g:Nat->Nat}
def OF(f:Nat->Nat):Ref->Ref
 |.loc nm off=>.loc (f nm) off
 |.sl nm k lo hi=>.sl (f nm) k lo hi
 |.lel nm k row off=>.lel (f nm) k row off
 |.mp nm=>.mp (f nm)
 |.it nm=>.it (f nm)
def mpC(f:Nat->Nat):Cp->Cp
 |.ref r=>.ref (OF f r)
 |c=>c
def I8(f:Nat->Nat):D->D
 |.ref r=>.ref (OF f r)
 |.fn g first caps=>.fn g (first.map (mpC f)) (caps.map (mpC f))
 |.tup cs=>.tup (cs.map (mpC f))
 |x=>x
def KL(f:Nat->Nat):Blk->Blk
 |.cells cs=>.cells (cs.map (I8 f))
 |.lp l q cs=>.lp l q (cs.map (I8 f))
 |.gmap ls clk es=>.gmap ls clk (es.map fun e=>(e.1,e.2.1,I8 f e.2.2))
 |x=>x
def IL(f:Nat->Nat):List (Nat×Blk)->List (Nat×Blk)
 |[]=>[]
 |(m,x)::r=>(f m,KL f x)::IL f r
section
variable {P:Program}{GL:List (Nat×List I)}{n:Nat}{S:Sh}{M:Mem}{μ μ':Place}{N N':Nat->Prop}{f:Nat->Nat}{sto:List (Nat×Blk)}{w:World}{nm:Nat}{st:St}{a:Act}
theorem BF.mp(hN:∀m,N m->N' (f m))(hμ:∀m,N m->μ' (f m)=μ m){r:Ref}{v:Value}(h:BF μ N r v):BF μ' N' (OF f r) v:=by cases r<;>exact⟨hN _ h.1,by rw[hμ _ h.1];exact h.2⟩
theorem B8.mp(hN:∀m,N m->N' (f m))(hμ:∀m,N m->μ' (f m)=μ m){x:Cp}{v:Value}(h:B8 M μ N x v):B8 M μ' N' (mpC f x) v:=by
 cases x with
 |ref r=>exact BF.mp hN hμ h
 |_=>exact h
theorem AD.mp(hN:∀m,N m->N' (f m))(hμ:∀m,N m->μ' (f m)=μ m){x:D}{v:Value}(h:AD M μ N x v):AD M μ' N' (I8 f x) v:=by
 cases x with
 |ref r=>exact BF.mp hN hμ h
 |fn g first caps=>
  obtain⟨va,vb,e,hy,h1,h2⟩:=h;have key:∀{l:List Cp} {vs:List Value},DU M μ N l vs->DU M μ' N' (l.map (mpC f)) vs:=fun h=>⟨by simpa using h.1,fun j a b=>by rw[Zee];exact(h.2 j (by simpa using a) b).mp hN hμ⟩
  exact⟨va,vb,e,hy.imp id (fun q=>by rw[q];rfl),key h1,key h2⟩
 |tup cs=>obtain⟨vs,e,h1⟩:=h;exact⟨vs,e,by simpa using h1.1,fun j a b=>by rw[Zee];exact(h1.2 j (by simpa using a) b).mp hN hμ⟩
 |_=>exact h
theorem AP.mp{S:Nat->Prop}(hN:∀m,N m->N' (f m))(hμ:∀m,N m->μ' (f m)=μ m){x:Blk}(hn:N nm)(h:AP S M μ N w nm x):AP S M μ' N' w (f nm) (KL f x):=by
 cases x with
 |cells cs=>obtain⟨bb,vs,t,e,ho,hs,hr⟩:=h;exact⟨bb,vs,t,by rw[hμ _ hn];exact e,ho,by simpa using hs,fun j h h'=>by rw[Zee];exact(hr j (by simpa using h) h').mp hN hμ⟩
 |lp l q cs=>obtain⟨vs,e,ho,hs,hr⟩:=h;exact⟨vs,by rw[hμ _ hn];exact e,ho,by simpa using hs,fun j h h'=>by rw[Zee];exact(hr j (by simpa using h) h').mp hN hμ⟩
 |gmap ls clk es=>
  obtain⟨bb,xs,e,ho,q1,q2,q3⟩:=h;exact⟨bb,xs,by rw[hμ _ hn];exact e,ho,⟨by simpa using q1.1,fun j a b=>by rw[Zee];have:=q1.2 j (by simpa using a) b;exact⟨this.1,this.2.1,this.2.2.mp hN hμ⟩⟩,q2,
   fun e he=>by obtain⟨e0,he0,rfl⟩:=Zfh.1 he;exact q3 e0 he0⟩
 |_=>simp only[KL,AP]at h⊢;rw[hμ _ hn];exact h
theorem S7(hinj:∀a b,names sto a->names sto b->f a=f b->a=b){m:Nat}{b':Blk}(h:Aa (IL f sto) m=some b'):∃o b,Aa sto o=some b/\f o=m/\b'=KL f b:=by
 induction sto with
 |nil=>cases h
 |cons x r ih=>grind[IL,Aa,FX]
theorem GO{m:Nat}(h:names sto m):names (IL f sto) (f m):=by
 induction sto with
 |nil=>simp[names,Aa]at h
 |cons x r ih=>grind[names,Aa,IL]
theorem S8(hinj:∀a b,names sto a->names sto b->f a=f b->a=b){m:Nat}(h:names (IL f sto) m):∃o,names sto o/\f o=m:=by obtain⟨b',hb⟩:=Zhi.1 h;grind[S7,names]
theorem StoOk.mp{S S':Nat->Prop}(h:StoOk S M μ sto w)(hinj:∀a b,names sto a->names sto b->f a=f b->a=b)(hμ:∀m,names sto m->μ' (f m)=μ m)(hS:∀b,S' b↔S b):StoOk S' M μ' (IL f sto) w:=by
 obtain rfl:S'=S:=funext fun b=>propext (hS b)
 refine⟨h.sub,fun nm b' hb=>?_,fun nm nm' k k' jg h1 h2 hk jk=>?_,h.low⟩
 ·obtain⟨o,b,h1,rfl,rfl⟩:=S7 hinj hb;exact(h.blk o b h1).mp (fun m hm=>GO hm) hμ (by simp[names,h1])
 ·obtain⟨o,g1,rfl⟩:=S8 hinj h1;obtain⟨o',g2,rfl⟩:=S8 hinj h2;rw[hμ _ g1]at hk;rw[hμ _ g2]at jk;exact h.sep o o' k k' (fun e=>jg (by rw[e])) g1 g2 hk jk
theorem Db.mp(hN:∀m,N m->N' (f m))(hμ:∀m,N m->μ' (f m)=μ m){xs:List D}{vs:List Value}(h:Db M μ N xs vs):Db M μ' N' (xs.map (I8 f)) vs:=
 ⟨by simpa using h.1,fun j a b=>by rw[Zee];exact(h.2 j (by simpa using a) b).mp hN hμ⟩
theorem DX{f:Nat->Nat}(h:∀m,g (f m)=m)(x:D):I8 g (I8 f x)=x:=by
 have hR:∀r,OF g (OF f r)=r:=fun r=>by cases r<;>simp[OF,h]
 have hC:∀l:List Cp,l.map (mpC g ∘ mpC f)=l:=fun l=>by
  induction l with
  |nil=>rfl
  |cons c l ih=>rw[Ze1,ih];congr 1;cases c<;>simp[mpC,hR]
 cases x<;>simp[I8,hR,hC]
theorem i9{f:Nat->Nat}(h:∀m,g (f m)=m)(x:Blk):KL g (KL f x)=x:=by
 cases x with
 |cells cs=>simp only[KL,Ze4];congr 1;induction cs with
  |nil=>rfl
  |cons c l ih=>rw[Ze1,ih];simp[DX h]
 |lp l q cs=>simp only[KL,Ze4];congr 1;induction cs with
  |nil=>rfl
  |cons c l ih=>rw[Ze1,ih];simp[DX h]
 |gmap ls clk es=>simp only[KL,Ze4];congr 1;induction es with
  |nil=>rfl
  |cons c l ih=>rw[Ze1,ih];simp[DX h]
 |_=>rfl
theorem E2{f:Nat->Nat}(h:∀m,g (f m)=m)(s:List (Nat×Blk)):IL g (IL f s)=s:=by
 induction s with
 |nil=>rfl
 |cons x r ih=>obtain⟨k,b⟩:=x;simp[IL,h,i9 h,ih]
theorem MC.ren(hfg:∀m,g (f m)=m)(hgf:∀m,f (g m)=m){fn:FuncId}{args:List D}{mv:List Nat}{R:D->List (Nat×Blk)->Prop}(h:MC P GL fn args sto mv R):
  MC P GL fn (args.map (I8 f)) (IL f sto) (mv.map f) (fun r s=>R (I8 g r) (IL g s)):=by
 intro M μ w vs h1 h2 h3;have inj:∀a b,f a=f b->a=b:=fun a b e=>by grind
 have injg:∀a b,g a=g b->a=b:=fun a b e=>by grind
 have hn:∀m,names (IL f sto) m->names sto (g m):=fun m hm=>by grind[S8]
 have hS:∀b,(AL (fun m=>μ (f m)) sto w).p b↔(AL μ (IL f sto) w).p b:=fun b=>
  ⟨fun hb=>⟨hb.1,fun m hm=>by have:=hb.2 _ (hn m hm);simpa[hgf]using this⟩,fun hb=>⟨hb.1,fun m hm=>hb.2 _ (GO hm)⟩⟩
 have k1:StoOk (AL (fun m=>μ (f m)) sto w) M (fun m=>μ (f m)) sto w:=by have:=h1.mp (f:=g) (μ':=fun m=>μ (f m)) (fun a b _ _ e=>injg a b e) (fun m _=>by simp[hgf]) hS;grind[E2]
 have k3:Db M (fun m=>μ (f m)) (names sto) args vs.toList:=by
  have:=h3.mp (f:=g) (μ':=fun m=>μ (f m)) (N':=names sto) hn (fun m _=>by simp[hgf]);rw[Ze4]at this;have e:args.map (I8 g ∘ I8 f)=args:=by
   have:I8 g ∘ I8 f=id:=funext fun x=>DX hfg x
   simp_all
  grind
 refine(h M _ w vs k1 h2 k3).mono ?_;rintro v w' ⟨r,s',M',μ',hR,q1,q2,q3,q4,q5⟩;have hSe:(AL (fun m=>μ (f m)) sto w).p=(AL μ (IL f sto) w).p:=funext fun b=>propext (hS b)
 rw[hSe]at q3 q4;refine⟨I8 f r,IL f s',M',fun m=>μ' (g m),by simp only[DX hfg,E2 hfg];exact hR,q1.mp (fun a b _ _ e=>inj a b e) (fun m _=>by simp[hfg]) (fun b=>(hS b).symm),
  q2.mp (fun m hm=>GO hm) (fun m _=>by simp[hfg]),q3,q4,fun m hm hmv=>?_⟩
 have:=q5 (g m) (hn m hm) (fun hc=>hmv (Zfh.2 ⟨g m,hc,hgf m⟩));simpa[hgf]using this
def sw(a b m:Nat):Nat:=if m=a then b else if m=b then a else m
def KN:List (Nat×Nat)->Nat->Nat
 |[],m=>m
 |(a,b)::r,m=>sw a b (KN r m)
def IM:List (Nat×Nat)->Nat->Nat
 |[],m=>m
 |(a,b)::r,m=>IM r (sw a b m)
theorem W5(a b m:Nat):sw a b (sw a b m)=m:=by grind[sw]
theorem I9:∀(l:List (Nat×Nat)) (m:Nat),IM l (KN l m)=m
 |[],m=>rfl
 |(a,b)::r,m=>by simp only[IM,KN,W5];exact I9 r m
theorem BQ:∀(l:List (Nat×Nat)) (m:Nat),KN l (IM l m)=m
 |[],m=>rfl
 |(a,b)::r,m=>by simp only[IM,KN];rw[BQ r,W5]
theorem MC.as(l:List (Nat×Nat)){fn:FuncId}{args:List D}{mv:List Nat}{R:D->List (Nat×Blk)->Prop}(h:MC P GL fn args sto mv R):
  MC P GL fn (args.map (I8 (KN l))) (IL (KN l) sto) (mv.map (KN l)) (fun r s=>R (I8 (IM l) r) (IL (IM l) s)):=h.ren (I9 l) (BQ l)
theorem S9{l:List Nat}{x:Nat}(h:Ea (x::l)=true):x∉l/\Ea l=true:=by grind[Ea]
def DK:Nat->List D->List (Nat×D)
 |_,[]=>[]
 |i,x::xs=>(i,x)::DK (i+1) xs
theorem Ta:∀(xs:List D) (vs:List Value) (i:Nat),Db M μ N xs vs->∀s (v:Value),(∀h:s-i<vs.length,i<=s->v=vs[s-i])->AD M μ N (Cv (DK i xs) s) v
 |[],vs,i,h,s,v,hv=>trivial
 |x::xs,vs,i,h,s,v,hv=>by
  simp only[DK,Cv];split
  ·rename_i e;subst e;have hl:0<vs.length:=by have:=h.1;simp at this;omega
   rw[hv (by simpa using hl) (Zgu _)];simp only[Zg5];have:=h.2 0 (by simp) hl;simpa using this
  ·rename_i jg;cases vs with
   |nil=>have:=h.1;simp at this
   |cons u us=>refine Ta xs us (i+1) ⟨by simpa using h.1,fun j a b=>by have:=h.2 (j+1) (by simpa using a) (by simpa using b);simpa using this⟩ s v (fun hl ji=>?_);grind
end
end Go.Dl
end
section
namespace Go.Dl
open Go Go.RowKit
variable{st:St}{K K':St->Prop}{M:Mem}{w w':World}{a:Act}{μ:Place}{ins:Ins}{sn:List Nat}{o:Oper}{d:Nat}{zero:I}{ok:Bool}
inductive IR where
 |skip
 |reg (gs:List GI)
 |dreg (sn:List Nat) (gs:List GI) (post:List Nat)
 |cut (a b:IR)
 |cond (c:O) (a b:IR)
 |block (id:Nat) (c:IR)
 |loop (c:IR)
 |exit (id:Nat)
 |ret
 |rf (n:Nat) (og:O) (ps:List Nat) (ia ib:IR)
inductive J where
 |skip
 |rg (gs:List GI)
 |dr (sn:List Nat) (fz:List O) (gs:List GI) (post:List Nat)
 |sq (ks:List Nat) (a b:J)
 |ct (ks:List Nat) (a b:J)
 |cond (c:O) (a b:J)
 |block (id:Nat) (c:J)
 |lp (c:J)
 |exit (id:Nat)
 |ret
 |rf (n:Nat) (og:O) (ps:List Nat) (a b:J)
def J.ir:J->IR
 |.skip=>.skip
 |.rg gs=>.reg gs
 |.dr sn _ gs post=>.dreg sn gs post
 |.sq _ a b=>.cut a.ir b.ir
 |.ct _ a b=>.cut a.ir b.ir
 |.cond c a b=>.cond c a.ir b.ir
 |.block id c=>.block id c.ir
 |.lp c=>.loop c.ir
 |.exit id=>.exit id
 |.ret=>.ret
 |.rf n og ps a b=>.rf n og ps a.ir b.ir
def mkD(b:Nat):Deferred:={target:=.collected b,args:=#[]}
structure Grow(S S':Sh)(w':World):Prop where
 p:∀b,S.p b->S'.p b
 q:S'.q=S.q
 ds:∃bs:List Nat,S'.ds=bs.map mkD++S.ds/\bs.Nodup/\∀b∈bs,S'.p b/\¬S.p b/\w'.heap[b]? =some (.deferred (some []))
theorem Grow.refl(S:Sh)(w:World):Grow S S w:=⟨fun _ h=>h,rfl,[],rfl,List.nodup_nil,by simp⟩
theorem Grow.trans{S S' S'':Sh}{w'':World}(h:Grow S S' w')(k:Grow S' S'' w'')(hk:Keeps S'.p w' w''):Grow S S'' w'':=by
 obtain⟨bs,e,nd,hb⟩:=h.ds;obtain⟨cs,e',nd',hc⟩:=k.ds;refine⟨fun b hb=>k.p b (h.p b hb),k.q.trans h.q,cs++bs,by rw[e',e];simp,?_,?_⟩
 ·rw[List.nodup_append];refine⟨nd',nd,fun x hx y hy hxy=>?_⟩;subst hxy;exact(hc x hx).2.1 (hb x hy).1
 ·intro b hm;rcases Ze9.1 hm with hm|hm
  ·obtain⟨h1,h2,h3⟩:=hc b hm;exact⟨h1,fun hp=>h2 (h.p b hp),h3⟩
  ·obtain⟨h1,h2,h3⟩:=hb b hm;exact⟨k.p b h1,h2,(hk.block b h1).trans h3⟩
def Fv(GL:List (Nat×List I))(n:Nat)(S:Sh)(M:Mem)(w:World)(st':St)(a':Act)(w':World):Prop:=
 ∃S',Grow S S' w'/\∃M' μ',Rel GL n S' M' μ' st' a' w'/\MExt S.p M M'/\Keeps S.p w w'
theorem MExt.less{S S':Nat->Prop}{M':Mem}(h:MExt S M M')(hs:∀b,S' b->S b):MExt S' M M':=⟨h.le,fun b hb=>h.old b (hs b hb)⟩
section
variable {GL:List (Nat×List I)}{n:Nat}{S S':Sh}
theorem eQ.c{st':St}{a':Act}(h:eQ GL n S M w st' a' w'):Fv GL n S M w st' a' w':=by obtain⟨M',μ',h,hm,hb⟩:=h;exact⟨S,Grow.refl S _,M',μ',h,hm,hb⟩
theorem Fv.of(h:Rel GL n S M μ st a w):Fv GL n S M w st a w:=(eQ.of h).c
theorem Fv.trans{M':Mem}{w'':World}{st'':St}{a'':Act}(hg:Grow S S' w')(hm:MExt S.p M M')(hb:Keeps S.p w w')(k:Fv GL n S' M' w' st'' a'' w''):Fv GL n S M w st'' a'' w'':=by obtain⟨S2,g2,M2,μ2,h2,hm2,jy⟩:=k;exact⟨S2,hg.trans g2 jy,M2,μ2,h2,hm.trans (hm2.less hg.p),hb.trans (jy.mono hg.p)⟩
end
def Fw(GL:List (Nat×List I))(n:Nat)(S:Sh)(M:Mem)(w:World)(K:Exit->St->Prop):Exit->Act->World->Prop:=
 fun e a' w'=>∃st',K e st'/\Fv GL n S M w st' a' w'
def FR(r:Option Nat):Fence:={Fence.wide with round:=r}
theorem jA:FR none=Fence.wide:=rfl
section
variable (P:Program)(GL:List (Nat×List I))(n:Nat)(mu:List Nat)
def H9(ops:Array Oper)(o:Oper):Option GI:=
 let ins:=(H7 P GL n mu o).getD (.no o.dst)
 match o.guard with
 |none=>some ⟨none,ins⟩
 |some (j,want)=>match(ops[j]?).bind (·.dst)with
  |some t=>if t<n/\ins.dst=o.dst/\J8 n o=true then some ⟨some (t,want),ins⟩else none
  |none=>none
def Ht(ops:Array Oper):Option (List GI):=ops.toList.mapM (H9 P GL n mu ops)
def W6(gs:List GI):List Nat:=gs.filterMap fun g=>match g.ins with|.store (.t s) _ _=>some s|_=>none
def OG(ins:Ins):Bool:=match ins with
 |.call _ _ _|.callv _ _ _|.alloc _ _|.mupd _ _ _ _|.store _ _ _=>true
 |ins=>(BH ins).isSome
def Kd:Ins->Bool
 |.app _ _ _ _ _ _=>true
 |.bsl _ _ _ _=>true
 |.callf _ _ _=>true
 |.callvf _ _ _=>true
 |.ment _ _ _ _ _ _ _=>true
 |.callo _ _ _=>true
 |_=>false
def CH:Ins->List O
 |.app _ _ _ _ x y=>[x,y]
 |.ment _ x k _ _ _ _=>[x,k]
 |.callo _ _ args=>args
 |.callf _ _ args=>args
 |.callvf _ f args=>f::args
 |.bsl _ _ _ ps=>ps
 |_=>[]
def W7(rt:List (Nat×Nat))(gs:List GI):List Nat:=(W6 gs).map fun s=>match rt.find? (·.1==s)with|some p=>p.2|none=>s
def jB(rt:List (Nat×Nat))(gs:List GI):List Nat:=(W6 gs).filter fun s=>!mu.contains s&&!(rt.any (·.1==s))
def ML:Nat:=1000000
def VN(gs:List GI)(i:Nat):GI:=gs.getD i ⟨none,.no none⟩
def Ke(g:GI):List Nat:=match g.ins.dst with|some d=>[d]|none=>[]
def toF:Ins->Ins
 |.call d f args=>.callf d f args
 |.callv d f args=>.callvf d f args
 |.bsn d e k (p::ps)=>.bsl d e k (p::ps)
 |ins=>ins
def gF(gs:List GI)(i:Nat):GI:=⟨(VN gs i).gd,toF (VN gs i).ins⟩
def Ia(g:GI):List Nat:=match g.gd with|some (s,_)=>[s]|none=>[]
def DY(sn:List Nat):List Nat:=(sn.filter fun q=>decide (ML<=q)).map fun q=>q-ML
def jC(ql:List Nat)(p0 p:Nat):List Nat:=(List.range' p0 (p-p0)).filter fun i=>!ql.contains i
def chQ(ql:List Nat)(p0 p:Nat):List Nat:=(List.range' p0 (p-p0)).filter fun i=>ql.contains i
def Ib(g:GI):List Nat:=match g.ins with
 |.ext _ _ _=>Ia g
 |_=>CQ g
def Lo(ins:Ins):Bool:=match ins with
 |.call _ _ _|.callv _ _ _=>true
 |.alloc _ _|.store _ _ _|.mupd _ _ _ _=>false
 |ins=>(BH ins).isSome
def GP:IR->Bool
 |.rf _ _ _ _ _=>false
 |.cut a b=>GP a&&GP b
 |.cond _ a b=>GP a&&GP b
 |.block _ c=>GP c
 |.loop c=>GP c
 |_=>true
def muD:List Nat:=9000::mu.filter fun q=>Nat.ble 5000 q
def EF(ops:Array Oper):List (List Nat):=ops.toList.map fun o=>(o.after.toList.filter fun e=>Region.binds .any e).map (·.on)
def OH(ds:List (List Nat)):List (List Nat):=ds.foldl (fun acc d=>acc++[(d++d.flatMap fun j=>acc.getD j []).eraseDups]) []
def ckE(ds:List (List Nat))(n:Nat):Bool:=(List.range n).all fun i=>(ds.getD i []).all fun d=>Nat.blt d i
def ckA(ds anc:List (List Nat))(n:Nat):Bool:=(List.range n).all fun i=>(anc.getD i []).all fun j=>(ds.getD i []).any fun d=>Nat.beq d j||(anc.getD d []).contains j
def ckB(anc:List (List Nat))(n p:Nat):Bool:=(List.range n).all fun i=>Nat.blt i p||(List.range p).all fun j=>(anc.getD i []).contains j
def ckS(ds:List (List Nat))(p0 p1:Nat):Bool:=(List.range p1).all fun i=>Nat.ble i p0||(ds.getD i []).contains (i-1)
def Qm(anc:List (List Nat))(gs gs':List GI)(ql us:List Nat)(p0 p1:Nat):Bool:=
 let X:=jC ql p0 p1
 let Q:=chQ ql p0 p1
 (X.all fun i=>OG (VN gs i).ins&&X.all fun j=>Nat.ble i j||((anc.getD i []).contains j||OE (VN gs j) (VN gs i)))&&
 (Q.isEmpty||(((X.filter fun i=>Q.any fun q=>!(anc.getD q []).contains i).all fun i=>(Ib (VN gs i)++Ke (VN gs i)).all us.contains)
  &&(Q.all fun q=>Kd (gF gs' q).ins&&(gF gs' q).ins.dst.isSome&&((Ke (gF gs' q)).all fun d=>!us.contains d)&&(Q.all fun r=>Nat.ble r q||(anc.getD r []).contains q)
   &&X.all fun i=>(anc.getD q []).contains i||(Lo (VN gs i).ins&&((Ke (gF gs' q)).all fun d=>!(CQ (VN gs i)).contains d)&&(Ke (VN gs i)).all fun d=>!((CH (gF gs' q).ins).flatMap F0++Ia (gF gs' q)).contains d))
  &&X.all fun i=>(Ke (VN gs i)).all fun d=>!(CQ (VN gs i)).contains d&&X.all fun j=>Nat.ble i j||(!(CQ (VN gs j)).contains d&&!(Ke (VN gs j)).contains d)))
def cutI(a:IR):IR->IR
 |.skip=>a
 |b=>.cut a b
def Lp(n:Nat):List Nat->Nat
 |0::_|[]=>n
 |p::_=>p
def jD:List Nat->List Nat
 |[]=>[0]
 |_::l=>l
def W8(c:Bool)(rt:List (Nat×Nat))(ops:Array Oper)(gs gs':List GI)(p0 p1:Nat)(y:IR):List Nat->Option IR
 |0::_=>if(match c with|true=>ckS (EF ops) p0 p1|_=>true)=true then some (cutI (.reg ((gs'.take p1).drop p0)) y)else none
 |[]=>
  let G:=(gs.take p1).drop p0
  if(match c with|true=>Qm (OH (EF ops)) gs gs' [] (DY (W7 rt G)) p0 p1|_=>true)=true then some (cutI (.dreg (W7 rt G) G (jB mu rt G)) y)else none
 |k::l=>if(match c with|true=>Qm (OH (EF ops)) gs gs' (l.take k) (DY ((l.drop k).map (·+ML))) p0 p1|_=>true)=true then some (cutI (.dreg ((l.drop k).map (·+ML)) ((jC (l.take k) p0 p1).map (VN gs)++(chQ (l.take k) p0 p1).map (gF gs')) []) y)else none
def OI(c:Bool)(rt:List (Nat×Nat))(ops:Array Oper)(gs gs':List GI)(n:Nat):List (List Nat)->Nat->Option IR
 |[],p0=>if(match c with|true=>Nat.ble n p0|_=>true)=true then some .skip else none
 |h::r,p0=>if(match c with|true=>Nat.ble p0 (Lp n h)&&(Nat.beq (Lp n h) n||(Nat.ble (Lp n h) n&&ckB (OH (EF ops)) n (Lp n h)))|_=>true)=true then
   (OI c rt ops gs gs' n r (Lp n h)).bind fun y=>W8 mu c rt ops gs gs' p0 (Lp n h) y (jD h)
  else none
def W9(k:Nat):List (Nat×List (List Nat))->List (List Nat)
 |[]=>[]
 |p::r=>if Nat.beq p.1 k then p.2 else W9 k r
def comp(c:Bool)(rt:List (Nat×Nat))(h:List (Nat×List (List Nat))):Code->Option IR
 |.skip=>some .skip
 |.region i ops draw=>match(if draw then W9 i h else[])with
  |[]=>if(match c with|true=>!draw||(P.follows .mixedOrders&&(ckE (EF ops) ops.size&&ckS (EF ops) 0 ops.size))|_=>true)=true then(Ht P GL n mu ops).map .reg else none
  |hs=>match Ht P GL n (muD mu) ops,Ht P GL n mu ops with
   |some gs,some gs'=>if(match c with|true=>P.follows .mixedOrders&&(ckE (EF ops) ops.size&&ckA (EF ops) (OH (EF ops)) ops.size)|_=>true)=true then OI mu c rt ops gs gs' ops.size hs 0 else none
   |_,_=>none
 |.seq a b=>match comp c rt h a,comp c rt h b with|some x,some y=>some (.cut x y)|_,_=>none
 |.cond x a b=>match cO GL x,comp c rt h a,comp c rt h b with|some oc,some a,some b=>some (.cond oc a b)|_,_,_=>none
 |.block id x=>(comp c rt h x).map (.block id)
 |.loop x=>(comp c rt h x).map .loop
 |.exit id=>some (.exit id)
 |.ret=>some .ret
 |.rangeFunc g ps x y=>match cO GL g,comp c rt h x,comp c rt h y with
  |some og,some ix,some iy=>if(GP ix&&GP iy&&ps.toList.all fun p=>Nat.blt p n)=true then some (.rf n og ps.toList ix iy)else none
  |_,_,_=>none
 |_=>none
def E3(id:Nat)(K:Exit->St->Prop):Exit->St->Prop
 |.exit id',s=>if id'=id then K .normal s else K (.exit id') s
 |e,s=>K e s
def jE{ι:Type}(F:ι->St)(μ:ι->Nat)(m:Nat)(K:Exit->St->Prop):Exit->St->Prop
 |.normal,s=>∃i,μ i<m/\Sub (F i) s
 |e,s=>K e s
def Du(sn:List Nat)(d:D):Prop:=∀nm∈d.nms,nm∉sn
def Lq:Option Blk->Prop
 |none=>False
 |some b=>b.nms=[]
def Lr(N:List Nat)(st:St):List Nat->Prop
 |[]=>True
 |m::r=>(N.contains m=false/\Lq (Aa st.sto m))/\Lr N st r
def Eh(N:List Nat)(st:St):List Nat->Prop
 |[]=>True
 |u::r=>Lr N st (Aj st.env u).nms/\Eh N st r
def eR(ins:Ins)(st:St):List Nat:=match ins with
 |.callf _ _ args=>oN GL st args
 |.callvf _ f args=>oN GL st (f::args)
 |ins=>(CH ins).flatMap fun o=>(AZ GL st o).nms
def Hu(sn:List Nat)(ins:Ins)(st:St)(K:St->Prop):Prop:=Eh (eR GL ins st) st (DY sn)/\step P GL ins st K
def Ad(sn:List Nat)(ins:Ins)(st:St)(K:St->Prop):Prop:=
 match ins with
 |.call d f args=>(args.all fun o=>JH (AZ GL st o))=true/\∃y,Is1 P GL f (args.map (AZ GL st)) y/\K (putO st d (.i y))
 |.callv d fo args=>JH (AZ GL st fo)=true/\(args.all fun o=>JH (AZ GL st o))=true/\match EA (AZ GL st fo) (args.map (AZ GL st))with
  |some p=>∃y,Is1 P GL p.1 p.2 y/\K (putO st d (.i y))
  |none=>False
 |.alloc d zs=>step P GL (.alloc d zs) st K
 |.mupd ox oq ov ls=>step P GL (.mupd ox oq ov ls) st K
 |.store ox ov k=>(match AZ GL st ox with|.ref (.loc nm _)=>nm∈sn|_=>False)/\step P GL (.store ox ov k) st K
 |.load d x k ag=>Du sn (AZ GL st x)/\step P GL (.load d x k ag) st K
 |.ia d s i k=>(Du sn (AZ GL st s)/\Du sn (AZ GL st i))/\step P GL (.ia d s i k) st K
 |.slc d x lo hi k=>(∀o∈BB (.slc d x lo hi k),Du sn (AZ GL st o))/\step P GL (.slc d x lo hi k) st K
 |.app d e k b x y=>Hu P GL sn (.app d e k b x y) st K
 |.bsl d e k ps=>Hu P GL sn (.bsl d e k ps) st K
 |.callf d f args=>Hu P GL sn (.callf d f args) st K
 |.callvf d f args=>Hu P GL sn (.callvf d f args) st K
 |.ment d x key zero ls e k=>Hu P GL sn (.ment d x key zero ls e k) st K
 |.callo d f args=>Hu P GL sn (.callo d f args) st K
 |ins=>(BH ins).isSome=true/\step P GL ins st K
def evD(sn:List Nat):List GI->St->(St->Prop)->Prop
 |[],st,K=>K st
 |g::r,st,K=>
  match g.gd with
  |none=>Ad P GL sn g.ins st fun s=>evD sn r s K
  |some (s,want)=>fE (Aj st.env s) want (Ad P GL sn g.ins st fun s=>evD sn r s K) (evD sn r (Bv g.ins st) K)
def Ei(e:Env):List Nat->List (Nat×D)
 |[]=>[]
 |s::r=>(s,Aj e s)::Ei e r
def prn(ks:List Nat)(s:St):St:=⟨.l (Ei s.env ks),s.sto⟩
def Xa(S s:St):Prop:=S=s\/Sub S s\/∃ks,S=prn ks s
def Kf(W:(Exit->St->Prop)->St->Prop)(K:Exit->St->Prop):Exit->St->Prop
 |.normal,s=>∃S,Xa S s/\W K S
 |e,s=>K e s
theorem Xb{W W':(Exit->St->Prop)->St->Prop}{K K':Exit->St->Prop}(hw:∀s,W K s->W' K' s)(hk:∀e s,K e s->K' e s):∀e s,Kf W K e s->Kf W' K' e s
 |.normal,s,⟨S,h,h1⟩=>⟨S,h,hw S h1⟩
 |.exit _,s,h|.goto _,s,h|.ret,s,h|.panic _,s,h|.outgrown,s,h=>hk _ s h
def Ls(post:List Nat)(s:St):List Nat:=post.flatMap fun t=>(Aj s.env t).nms
inductive Jm where
 |none
 |ret
 |exit (id:Nat)
 deriving DecidableEq
def Jm.code:Jm->Option Code
 |.none=>Option.none
 |.ret=>some .ret
 |.exit id=>some (.exit id)
def Jm.ex:Jm->Exit
 |.none=>.normal
 |.ret=>.ret
 |.exit id=>.exit id
def Jm.go:Jm->Bool
 |.none=>true
 |_=>false
def Sj(mv:List Nat)(l:List (Nat×Blk)):Bool:=((l.map (·.1)).all fun q=>(Nat.ble 5000 q&&Nat.blt q 5500)||(mv.contains q&&Nat.ble 5500 q&&Nat.blt q 6000))&&PW l l&&Ea (l.map (·.1))
def okV(mv:List Nat):Bool:=mv.all fun q=>Nat.ble 5500 q&&Nat.blt q 6000
def Hv(gf:FuncId)(caps:List I)(xs:List (List I)):Prop:=
 ∀(y:FuncId) (m:Nat->List (Nat×Blk)) (mv:List Nat) (N:Nat) (go:Nat->Bool),okV mv=true->(∀j,Sj mv (m j)=true/\(m j).map (·.1)=(m 0).map (·.1))->
  N<=xs.length->(∀j,j+1<N->go j=true)->(N<xs.length->0<N/\go (N-1)=false)->
  (∀j,j<N->MC P GL y ((xs.getD j []).map .i) (m j) mv (fun r s=>r=.i (.bool (go j))/\s=m (j+1)))->
  MC P GL gf (.i (.fn y [] [])::caps.map .i) (m 0) mv (fun r s=>r=.i (.tup [])/\s=m N)
def Ja(gf:FuncId)(caps:List I)(ι:Type)(i0:ι)(Nx:ι->List I->ι->Prop)(Fin:ι->Prop):Prop:=
 ∀(y:FuncId) (m:ι->List (Nat×Blk)) (mv:List Nat) (stop:ι->Bool),okV mv=true->stop i0=false->(∀i,Sj mv (m i)=true/\(m i).map (·.1)=(m i0).map (·.1))->
  (∀i x i',Nx i x i'->stop i=false->MC P GL y (x.map .i) (m i) mv (fun r s=>r=.i (.bool (!stop i'))/\s=m i'))->
  MC P GL gf (.i (.fn y [] [])::caps.map .i) (m i0) mv (fun r s=>r=.i (.tup [])/\∃i,(stop i=true\/Fin i)/\s=m i)
theorem Xc(stop:Nat->Bool):∀L:Nat,∃N,N<=L/\(∀j,j<N->stop j=false)/\(N=L\/stop N=true)
 |0=>⟨0,Zgu _,fun j h=>absurd h (Nat.not_lt_zero j),.inl rfl⟩
 |L+1=>by obtain⟨N,h1,h2,h3⟩:=Xc stop L;grind
theorem Hv.g{gf:FuncId}{caps:List I}{xs:List (List I)}(h:Hv P GL gf caps xs):Ja P GL gf caps Nat 0 (fun j x j'=>j<xs.length/\x=xs.getD j []/\j'=j+1) (fun j=>j=xs.length):=by
 intro y m mv stop hV h0 hm hy;obtain⟨N,h1,h2,h3⟩:=Xc stop xs.length;refine(h y m mv N (fun j=>!stop (j+1)) hV hm h1 (fun j hj=>by simp only[h2 (j+1) hj];rfl) (fun jn=>?_) (fun j hj=>hy j _ (j+1) ⟨by omega,rfl,rfl⟩ (h2 j hj))).mono ?_
 all_goals grind
def fi(nx:List (Nat×Blk))(j:Jm):Exit->St->Prop:=fun e s=>e=j.ex/\∃l,Be nx (frzNs l s).sto
def Xd(W:(Exit->St->Prop)->St->Prop)(K:Exit->St->Prop):Exit->St->Prop
 |.normal,s=>Kf W K .normal s
 |_,_=>False
def EG:List Nat->List I->List (Nat×D)->List (Nat×D)
 |p::ps,x::xs,e=>EG ps xs ((p,.i x)::e)
 |_,_,e=>e
def Hw(f:List (Nat×Nat)):Nat->List D->Env->Prop
 |_,[],_=>True
 |i,x::xs,e=>(x=.any\/Aj e i=I8 (IM f) x)/\Hw f (i+1) xs e
def okL(l:List (Nat×Blk))(L:List D):Bool:=L.all fun x=>Oe l x.nms&&x.nms.all fun q=>Nat.ble 5000 q&&Nat.blt q 5499
def Kg(l:List (Nat×Blk)):Bool:=(l.map (·.1)).all fun q=>!(q==5499)
def Tb(st:St)(mv:List Nat)(m0 mN:List (Nat×Blk))(K:St->Prop):Prop:=
 (∀nm∈(A7 999 mN).map (·.1),(Aa m0 nm).isSome=true\/(Aa st.sto nm=none/\nm<5000))/\(∀nm∈m0.map (·.1),(Aa mN nm).isSome=true->ren 999 nm=nm)/\(mv.all fun m=>Nat.blt m 5000||Nat.ble 5500 m)=true/\K (Ds st m0 mN mv 999)
def rfW(n:Nat)(og:O)(ps:List Nat)(Wa Wb:(Exit->St->Prop)->St->Prop)(K:Exit->St->Prop)(st:St):Prop:=
 ∃gf caps,∃(ι:Type) (i0:ι) (Nx:ι->List I->ι->Prop) (Fin:ι->Prop),AZ GL st og=.i (.fn gf [] caps)/\Ck P gf=true/\Ja P GL gf caps ι i0 Nx Fin/\
  ∃(f:List (Nat×Nat)) (L:List D) (m:ι->List (Nat×Blk)) (mv:List Nat) (jm:ι->Jm),
   jm i0=.none/\okV mv=true/\(∀i,Sj mv (m i)=true/\Kg (m i)=true/\okL (m i) L=true/\(m i).map (·.1)=(m i0).map (·.1))/\
   L.length=n/\Hw f 0 L st.env/\KN f 5499=5499/\Be (IL (IM f) (m i0)) st.sto/\
   (∀i x i',Nx i x i'->jm i=.none->x.length=ps.length/\Wa (Xd Wb (fi (m i') (jm i'))) ⟨.l (EG ps x (DK 0 L)),m i⟩)/\
   ∀i,(jm i≠.none\/Fin i)->Tb st (mv.map (IM f)) (IL (IM f) (m i0)) (IL (IM f) (m i)) (K (jm i).ex)
theorem jF{n:Nat}{og:O}{ps:List Nat}{Wa Wa' Wb Wb':(Exit->St->Prop)->St->Prop}{K K':Exit->St->Prop}(h:rfW P GL n og ps Wa Wb K st)
  (ha:∀{K K':Exit->St->Prop} {s},Wa K s->(∀e s,K e s->K' e s)->Wa' K' s)(hb:∀{K:Exit->St->Prop} {s},Wb K s->Wb' K s)(hk:∀e s,K e s->K' e s):rfW P GL n og ps Wa' Wb' K' st:=by
 obtain⟨gf,caps,ι,i0,Nx,Fin,e1,e2,e3,f,L,m,mv,jm,q1,q2,q3,q4,q5,q6,q7,q8,q9⟩:=h;refine⟨gf,caps,ι,i0,Nx,Fin,e1,e2,e3,f,L,m,mv,jm,q1,q2,q3,q4,q5,q6,q7,fun i x i' hx hi=>⟨(q8 i x i' hx hi).1,ha (q8 i x i' hx hi).2 fun e s hs=>?_⟩,fun i hi=>⟨(q9 i hi).1,(q9 i hi).2.1,(q9 i hi).2.2.1,hk _ _ (q9 i hi).2.2.2⟩⟩;cases e with
 |normal=>exact Xb (fun s h=>hb h) (fun _ _ h=>h) .normal s hs
 |_=>exact hs
def Kh(ks:List Nat)(W:(Exit->St->Prop)->St->Prop)(K:Exit->St->Prop):Exit->St->Prop
 |.normal,s=>W K (prn ks s)
 |e,s=>K e s
def W2:J->(Exit->St->Prop)->St->Prop
 |.skip,K,st=>K .normal st
 |.rg gs,K,st=>ev P GL gs st (K .normal)
 |.dr sn _ gs post,K,st=>∃l,evD P GL sn gs (frzNs l st) fun s=>K .normal (frzNs (Ls post s) s)
 |.sq ks a b,K,st=>W2 a (Kh ks (W2 b) K) st
 |.ct _ a b,K,st=>W2 a (Kf (W2 b) K) st
 |.cond c a b,K,st=>match AZ GL st c with
  |.i (.bool t)=>br t (W2 a K st) (W2 b K st)
  |_=>False
 |.block id c,K,st=>W2 c (E3 id K) st
 |.lp c,K,st=>∃(ι:Type) (F:ι->St) (m:ι->Nat) (i₀:ι),Sub (F i₀) st/\∀i,W2 c (jE F m (m i) K) (F i)
 |.exit id,K,st=>K (.exit id) st
 |.ret,K,st=>K .ret st
 |.rf n og ps a b,K,st=>rfW P GL n og ps (W2 a) (W2 b) K st
end
section
variable {P:Program}{GL:List (Nat×List I)}{n:Nat}{S:Sh}{mu:List Nat}
theorem jG(h:Rel GL n S M μ st a w){ins:Ins}{o:Oper}(hd:ins.dst=o.dst)(hn:∀d,o.dst=some d->d<n):
  Rel GL n S M μ (Bv ins st) (a.put o.dst Go.undef) w:=by
 unfold Bv;rw[hd];cases hod:o.dst with
 |none=>exact h
 |some d=>exact h.put (hn d hod) (AJ .undef)
theorem jH{P:Program}{nx:Act->World->Prop}{Q:Exit->Act->World->Prop}(r:Option Nat)(hd:∀c,o.op≠.defer c)(h:o.wpX P a w nx Q):o.wpIn (FR r) 0 P a w nx Q:=by
 refine⟨fun _ _=>trivial,?_⟩;have e:o.semAt (FR r).round a.eval=execOp a.eval o:=by
  cases r with
  |none=>exact Oper.semAt_none _ _
  |some l=>exact Oper.semAt_some l _ o hd
 rw[e];exact h
theorem jI{ops:Array Oper}(h:Rel GL n S M μ st a w){o:Oper}{g:GI}(hg:H9 P GL n mu ops o=some g){b:Bool}
  (hb:Bp g.gd st=some b):Region.wanted o (yielded ops a.tmps)=b:=by
 unfold H9 at hg;cases hgd:o.guard with
 |none=>simp only[hgd,Zhp]at hg;subst hg;simp only[Bp,Zhp]at hb;subst hb;simp[Region.wanted,hgd]
 |some jw=>
  obtain⟨j,want⟩:=jw;simp only[hgd]at hg;cases hj:(ops[j]?).bind (·.dst)with
  |none=>simp[hj]at hg
  |some t=>
   simp only[hj]at hg;split at hg
   ·rename_i kl;cases hg;have htmp:a.tmps[t]? =some (a.tmps.getD t Go.undef):=by
     have:t<a.tmps.size:=by rw[h.size];exact kl.1
     simp[this]
    have hy:yielded ops a.tmps j=match a.tmps.getD t Go.undef with|.bool b=>some b|_=>none:=by unfold yielded;rw[hj];simp only[Zhf];rw[htmp];cases a.tmps.getD t Go.undef<;>rfl
    have hre:=h.env t;simp only[Bp]at hb;split at hb
    ·rename_i b' wd;cases hb;rw[wd]at hre;have hbv:=GJ (AE hre);rw[hbv]at hy;simp only[Region.wanted,hgd,hy];cases want<;>cases b'<;>rfl
    ·rename_i wd;cases hb;rw[wd]at hre;have hbv:a.tmps.getD t Go.undef=Go.undef:=by have:=AE hre;generalize a.tmps.getD t Go.undef=v at this;cases this;rfl
     rw[hbv]at hy;simp only[Go.undef]at hy;simp[Region.wanted,hgd,hy]
    ·cases hb
   ·cases hg
theorem jJ{ops:Array Oper}{g:GI}(hg:H9 P GL n mu ops o=some g):(H7 P GL n mu o).getD (.no o.dst)=g.ins/\(g.gd≠none->g.ins.dst=o.dst/\∀d,o.dst=some d->d<n):=by grind[H9,J8]
theorem jK(h:H7 P GL n mu o=some ins):∀c,o.op≠.defer c:=fun c e=>by grind[H7]
theorem jL(hc:(H7 P GL n mu o).getD (.no o.dst)=ins)(hs:step P GL ins st K):∀c,o.op≠.defer c:=by
 cases w8:H7 P GL n mu o with
 |none=>rw[w8]at hc;simp only[Zhg]at hc;subst hc;exact(show False from hs).elim
 |some i=>exact jK w8
theorem jM{Q:Exit->Act->World->Prop}(h:Rel GL n S M μ st a w){ins:Ins}(hc:(H7 P GL n mu o).getD (.no o.dst)=ins)(hs:step P GL ins st K):o.wpX P a w (Aw GL n S M w K) Q:=by
 cases w8:H7 P GL n mu o with
 |none=>rw[w8]at hc;simp only[Zhg]at hc;subst hc;exact(show False from hs).elim
 |some i=>rw[w8]at hc;simp only[Zhh]at hc;subst hc;exact iJ h w8 hs
theorem OJ{g:GI}{r:List GI}:ev P GL (g::r) st K↔match g.gd with|none=>step P GL g.ins (frzNs (AA GL g.ins st) st) (fun s=>ev P GL r s K)|some (s,want)=>fE (Aj st.env s) want (step P GL g.ins (frzNs (AA GL g.ins st) st) (fun s=>ev P GL r s K)) (ev P GL r (Bv g.ins st) K):=by rfl
theorem Xe{b:Bool}{A A' C C':Prop}(h:br b A C)(h1:A->A')(h2:C->C'):br b A' C':=⟨fun e=>h1 (h.1 e),fun e=>h2 (h.2 e)⟩
theorem OK{v:D}{b:Bool}{A A' C C':Prop}(h:fE v b A C)(h1:A->A')(h2:C->C'):fE v b A' C':=by unfold fE at*;grind[Xe]
theorem Tc{get:St->Option (FuncId×List D)}{d:Option Nat}(h:Ah P GL get st d K)(hk:∀s,K s->K' s):Ah P GL get st d K':=by
 obtain⟨l,h⟩:=h;refine⟨l,?_⟩;split at h
 ·rcases h with⟨sto,mv,R,h1,h2,h3,h4,h6,h5⟩|⟨R,h1,h2,h3⟩|⟨sto,mv,R,h1,h2,h3,h4,h6,h5⟩
  ·exact .inl ⟨sto,mv,R,h1,h2,h3,h4,h6,fun r s hr=>⟨(h5 r s hr).1,(h5 r s hr).2.1,hk _ (h5 r s hr).2.2⟩⟩
  ·exact .inr (.inl ⟨R,h1,h2,fun r s hr=>by obtain⟨y,e1,e2,e3⟩:=h3 r s hr;exact⟨y,e1,e2,hk _ e3⟩⟩)
  ·exact .inr (.inr ⟨sto,mv,R,h1,h2,h3,h4,h6,fun r s hr=>by obtain⟨k1,k2,y,s',k3,k4,k5⟩:=h5 r s hr;exact⟨k1,k2,y,s',k3,k4,hk _ k5⟩⟩)
 ·exact h.elim
theorem jN{fr:Option Blk}{e' k':Nat}{rs:List (Option (List I))}{nm k0 lo hi e k b:Nat}{ys:List (List I)}(h:J1 fr e' k' rs nm k0 lo hi d e k b ys st K)(hk:∀s,K s->K' s):J1 fr e' k' rs nm k0 lo hi d e k b ys st K':=by obtain⟨q1,q2,q3,q4,q5,q6,q7,q8⟩:=h;exact⟨q1,q2,q3,q4,q5,q6,fun hh=>hk _ (q7 hh),fun hh=>by obtain⟨as,r1,r2,r3,r4,r5,r6⟩:=q8 hh;exact⟨as,r1,r2,r3,r4,r5,fun c=>hk _ (r6 c)⟩⟩
theorem jO{x y:D}{e k b:Nat}(h:I2 x y d e k b st K)(hk:∀s,K s->K' s):I2 x y d e k b st K':=by
 unfold I2 at*;split at h
 ·unfold J2 at*;split at h
  ·split at h
   ·obtain⟨q1,q2,q3,q4,q5,q6,q7,q8⟩:=h;exact⟨q1,q2,q3,q4,q5,q6,fun hh=>hk _ (q7 hh),fun hh=>by obtain⟨as,r1,r2,r3,r4,r5,r6⟩:=q8 hh;exact⟨as,r1,r2,r3,r4,r5,fun c=>hk _ (r6 c)⟩⟩
   ·exact h
  ·split at h
   ·unfold JT at*;split at h;exact⟨h.1,h.2.1,h.2.2.1,h.2.2.2.1,h.2.2.2.2.1,h.2.2.2.2.2.1,h.2.2.2.2.2.2.1,h.2.2.2.2.2.2.2.1,h.2.2.2.2.2.2.2.2.1,hk _ h.2.2.2.2.2.2.2.2.2⟩;exact h
   ·exact h
 ·exact h
theorem Xf{b:Option Blk}{ls:List LK}{q:I}(h:Hp b ls q zero ok d st K)(hk:∀s,K s->K' s):Hp b ls q zero ok d st K':=by unfold Hp at*;split at h;exact⟨h.1,hk _ h.2⟩;exact h
theorem jP{x key:D}{ls:List LK}(h:EY x key zero ok ls d st K)(hk:∀s,K s->K' s):EY x key zero ok ls d st K':=by
 unfold EY at*;split at h
 all_goals grind[Xf]
theorem jQ{r:Option D}(h:ED ok r zero d st K)(hk:∀s,K s->K' s):ED ok r zero d st K':=by unfold ED at*;grind
theorem Fx(h:step P GL ins st K)(hk:∀s,K s->K' s):step P GL ins st K':=by
 cases hd:BH ins with
 |some d=>simp_all[OD]
 |none=>
  cases ins<;>simp only[BH,reduceCtorEq]at hd<;>simp only[step]at h⊢
  case nils=>unfold KT at*;split at h<;>exact hk _ h
  case box=>unfold Mp at*;split at h;exact hk _ h;exact h
  case boxm=>unfold GC at*;split at h;exact⟨h.1,hk _ h.2⟩;exact h
  case alloc=>unfold GC at*;split at h;exact⟨h.1,hk _ h.2⟩;exact h
  case store=>
   unfold Ho at*;split at h
   ·unfold JR at*;split at h;exact⟨h.1,h.2.1,h.2.2.1,hk _ h.2.2.2⟩;exact h
   ·unfold Ms at*;split at h;exact⟨h.1,h.2.1,h.2.2.1,h.2.2.2.1,h.2.2.2.2.1,h.2.2.2.2.2.1,hk _ h.2.2.2.2.2.2⟩;exact h
   ·exact h
  case stfrz=>
   unfold Mu at*;split at h
   ·unfold Mt at*;split at h;exact⟨h.1,h.2.1,h.2.2.1,h.2.2.2.1,h.2.2.2.2.1,hk _ h.2.2.2.2.2⟩;exact h
   ·exact h
  case isnil=>
   unfold Cw at*;split at h
   ·exact hk _ h
   ·split at h<;>first|exact fun b=>hk _ (h b)|exact h
  case bso d e k ps=>exact⟨h.1,by have h2:=h.2;unfold JU at*;split at h2;exact hk _ h2;exact h2⟩
  case bsl d e k ps=>
   cases ps with
   |nil=>simp only[step.nilsE']at h⊢;split at h;exact hk _ h;exact h
   |cons p ps=>exact⟨h.1,hk _ h.2⟩
  case call=>exact Tc h hk
  case callv=>exact Tc h hk
  case calln=>unfold Mo at*;split at h;exact Tc h hk;exact h
  case callf=>unfold Ed J4 at*;split at h;exact⟨h.1,h.2.choose,h.2.choose_spec.1,hk _ h.2.choose_spec.2⟩;exact h
  case callvf=>unfold Ed J4 at*;split at h;exact⟨h.1,h.2.choose,h.2.choose_spec.1,hk _ h.2.choose_spec.2⟩;exact h
  case callo=>obtain⟨h1,R,h2,h3⟩:=h;exact⟨h1,R,h2,fun r s hr=>⟨(h3 r s hr).1,hk _ (h3 r s hr).2⟩⟩
  case app=>exact jO h hk
  case appz=>
   unfold Li at*;split at h
   ·unfold J3 at*;split at h;exact⟨h.1,h.2.1,h.2.2.1,jN h.2.2.2 hk⟩;exact h
   ·exact h
  case mkgm=>unfold K9 at*;split at h;exact hk _ h;exact h
  case lookg=>
   unfold IX at*;split at h
   ·refine⟨h.1,?_⟩;have h:=h.2;unfold IW at*;split at h
    ·exact⟨h.1,jQ h.2 hk⟩
    ·exact Xf h hk
   ·exact jP h hk
  case mupdg=>
   unfold Lb at*;split at h
   ·refine⟨h.1,?_⟩;have h:=h.2;unfold IY at*;split at h
    ·exact⟨h.1,hk _ h.2⟩
    ·exact⟨h.1,hk _ h.2⟩
    ·exact h
   ·exact h
  case ment=>
   unfold JW at*;split at h
   ·refine⟨h.1,?_⟩;have h:=h.2;unfold JV at*;split at h
    ·refine⟨h.1,?_⟩;have h:=h.2;split at h
     ·unfold I0 at*;split at h
      ·split at h;exact hk _ h;exact h
      ·exact h
     ·unfold IZ at*;split at h;exact hk _ h;exact h
    ·exact h
   ·exact h
  case ests=>
   unfold Lc at*;split at h
   ·unfold JX at*;split at h;exact⟨h.1,hk _ h.2⟩;exact h
   ·exact h
  case cap=>
   unfold Ld at*;split at h
   ·unfold JY at*;split at h;exact hk _ h;exact fun c hc=>hk _ (h c hc);exact h
   ·exact h
  case cpy=>
   unfold Lg at*;split at h
   ·unfold JZ at*;split at h;exact⟨h.1,h.2.1,h.2.2.1,h.2.2.2.1,h.2.2.2.2.1,hk _ h.2.2.2.2.2⟩;exact h
   ·exact h
  case clr=>
   unfold Lh at*;split at h
   ·unfold I1 at*;split at h;exact⟨h.1,h.2.1,h.2.2.1,hk _ h.2.2.2⟩;exact⟨h.1,h.2.1,h.2.2.1,hk _ h.2.2.2⟩;exact h
   ·exact h
  case mksl=>unfold MD at*;split at h;exact⟨h.1,h.2.1,h.2.2.1,hk _ h.2.2.2⟩;exact h
  case slc3=>unfold J0 at*;split at h;exact⟨h.1,hk _ h.2⟩;exact⟨h.1,hk _ h.2⟩;exact h
  case slc0=>unfold Mw at*;split at h;exact hk _ h;exact h
  case mkmap=>unfold K6 at*;split at h<;>exact hk _ h
  case mupd=>
   unfold H4 at*;split at h
   ·refine⟨h.1,?_⟩;have h:=h.2;unfold IU at*;split at h;exact⟨h.1,hk _ h.2⟩;exact h
   ·exact h
  case rng=>unfold K7 at*;split at h;exact hk _ h;exact hk _ h;exact h
  case nxt=>
   unfold Mz at*;split at h
   ·unfold My at*;split at h;exact⟨fun e=>hk _ (h.1 e),fun i hi=>hk _ (h.2 i hi)⟩;exact h
   ·exact h
  case ent=>
   unfold MB at*;split at h
   ·unfold MA at*;split at h;exact hk _ h;exact h
   ·exact h
theorem Xg:∀{gs:List GI} {st:St} {K K':St->Prop},ev P GL gs st K->(∀s,K s->K' s)->ev P GL gs st K'
 |[],st,K,K',h,hk=>hk _ h
 |g::r,st,K,K',h,hk=>by
  have q1:∀s,ev P GL r s K->ev P GL r s K':=fun s hs=>Xg hs hk
  grind[OJ,Fx,OK]
theorem Td(h:Ad P GL sn ins st K)(hk:∀s,K s->K' s):Ad P GL sn ins st K':=by
 cases ins<;>simp only[Ad]at h⊢
 case call=>obtain⟨h1,y,h2,h3⟩:=h;exact⟨h1,y,h2,hk _ h3⟩
 case callv=>
  refine⟨h.1,h.2.1,?_⟩;have h:=h.2.2;split at h
  ·obtain⟨y,h2,h3⟩:=h;exact⟨y,h2,hk _ h3⟩
  ·exact h
 case alloc=>exact Fx h hk
 case mupd=>exact Fx h hk
 case app=>exact⟨h.1,Fx h.2 hk⟩
 case ment=>exact⟨h.1,Fx h.2 hk⟩
 case callo=>exact⟨h.1,Fx h.2 hk⟩
 case callf=>exact⟨h.1,Fx h.2 hk⟩
 case callvf=>exact⟨h.1,Fx h.2 hk⟩
 case bsl=>exact⟨h.1,Fx h.2 hk⟩
 all_goals exact⟨h.1,Fx h.2 hk⟩
theorem Qn{sn:List Nat}:∀{gs:List GI} {st:St} {K K':St->Prop},evD P GL sn gs st K->(∀s,K s->K' s)->evD P GL sn gs st K'
 |[],st,K,K',h,hk=>hk _ h
 |g::r,st,K,K',h,hk=>by
  have q1:∀s,evD P GL sn r s K->evD P GL sn r s K':=fun s hs=>Qn hs hk
  grind[evD,Td,OK]
theorem DZ:∀(c:J) {st:St} {K K':Exit->St->Prop},W2 P GL c K st->(∀e s,K e s->K' e s)->W2 P GL c K' st
 |.skip,st,K,K',h,hk=>hk _ _ h
 |.rg gs,st,K,K',h,hk=>Xg h (hk _)
 |.dr sn _ gs post,st,K,K',h,hk=>by obtain⟨l,h⟩:=h;exact⟨l,Qn h (fun s hs=>hk _ _ hs)⟩
 |.sq ks a b,st,K,K',h,hk=>DZ a h (fun e s hs=>by
   cases e with
   |normal=>exact DZ b hs hk
   |_=>exact hk _ _ hs)
 |.ct _ a b,st,K,K',h,hk=>DZ a h (Xb (fun s q=>DZ b q hk) hk)
 |.cond c a b,st,K,K',h,hk=>by
  simp only[W2]at h⊢;split at h
  ·exact Xe h (fun hh=>DZ a hh hk) (fun hh=>DZ b hh hk)
  ·exact h
 |.block id c,st,K,K',h,hk=>DZ c h (fun e s hs=>by
   cases e with
   |exit id'=>simp only[E3]at hs⊢;split at hs;rename_i e;rw[Zaa e];exact hk _ _ hs;rename_i e;rw[Zac e];exact hk _ _ hs
   |_=>exact hk _ _ hs)
 |.lp c,st,K,K',h,hk=>by
  obtain⟨ι,F,m,i0,h0,hr⟩:=h;refine⟨ι,F,m,i0,h0,fun i=>DZ c (hr i) (fun e s hs=>?_)⟩;cases e with
  |normal=>exact hs
  |_=>exact hk _ _ hs
 |.exit id,st,K,K',h,hk=>hk _ _ h
 |.ret,st,K,K',h,hk=>hk _ _ h
 |.rf n og ps a b,st,K,K',h,hk=>jF P GL h (fun q1 q2=>DZ a q1 q2) (fun q=>q) hk
theorem Xh(e:Env)(s:Nat):∀ks,Cv (Ei e ks) s=.any\/Cv (Ei e ks) s=Aj e s
 |[]=>.inl rfl
 |k::r=>by
  simp only[Ei,Cv];split
  ·rename_i h;subst h;exact .inr rfl
  ·exact Xh e s r
theorem Rel.prn(h:Rel GL n S M μ st a w)(ks:List Nat):Rel GL n S M μ (prn ks st) a w:=
 {toStoOk:=h.toStoOk,small:=h.small,pin:=h.pin,defers:=h.defers,size:=h.size,glob:=h.glob,env:=fun s=>by
   simp only[Dl.prn,Aj];rcases Xh st.env s ks with e|e
   ·rw[e];trivial
   ·rw[e];exact h.env s}
theorem Rel.subQ{s:St}(h:Rel GL n S M μ st a w):Xa s st->Rel GL n S M μ s a w
 |.inl e=>e▸h
 |.inr (.inl e)=>h.sub' e
 |.inr (.inr ⟨ks,e⟩)=>e▸h.prn ks
theorem Xi{x:Option I}(h:BP P GL sn ins x st)(hk:K (Ef GL ins x st)):step P GL ins st K:=by
 have calls:∀{f:FuncId} {ds:List D} {y:I} {d:Option Nat},(∀v∈ds,JH v=true)->Is1 P GL f ds y->K (putO st d (.i y))->Wc P GL f ds st d K:=fun{f ds y d} hI h2 hk=>by
  refine⟨[],[],_,h2,trivial,rfl,?_,rfl,?_⟩
  ·rw[Zcu];intro v hv;have:=hI v hv;cases v<;>simp[JH]at this;rfl
  ·rintro r s ⟨rfl,rfl⟩;refine⟨fun nm hm=>by simp[A7]at hm,fun nm hm=>by simp at hm,?_⟩;exact hk
 have nofrz:∀(st:St),frzNs [] st=st:=fun _=>rfl
 cases ins
 case call d f args=>
  obtain⟨h1,y,rfl,h2⟩:=h;rw[Zcu]at h1;refine⟨[],?_⟩;simp only[nofrz,EX];refine .inl (calls (y:=y) (fun v hv=>by obtain⟨o,ho,rfl⟩:=Zfh.1 hv;exact h1 o ho) h2 ?_);cases d<;>exact hk
 case callv d fo args=>
  obtain⟨h0,h1,p,y,h2,rfl,h3⟩:=h;rw[Zcu]at h1;refine⟨[],?_⟩;simp only[nofrz,DF,h2];refine .inl (calls (y:=y) (fun v hv=>?_) h3 ?_)
  ·unfold EA at h2;split at h2
   ·cases h2;simp only[Ze9,Zfh]at hv;rcases hv with(⟨z,_,rfl⟩|⟨o,ho,rfl⟩)|⟨z,_,rfl⟩
    ·rfl
    ·exact h1 o ho
    ·rfl
   ·rename_i e;rw[e]at h0;simp[JH]at h0
   ·cases h2
  ·cases d<;>exact hk
 case alloc d zs=>
  simp only[step,GC];obtain⟨h,h1⟩:Aa st.sto d=none/\(zs.map D.i).all Ez=true:=h;rw[h];exact⟨h1,hk⟩
 case mupd ox oq ov ls=>
  simp only[BP]at h;simp only[Ef]at hk;simp only[step,H4];split at h
  ·rename_i nm q u e1 e2 e3;obtain⟨h1,h⟩:=h;split at h
   ·rename_i ls' es hg;simp only[e1,e2,e3,hg,IU]at hk⊢;exact⟨h1,h,hk⟩
   ·exact h.elim
  ·exact h.elim
 case store ox ov k=>
  simp only[BP]at h;simp only[Ef]at hk;simp only[step,Ho];split at h
  ·rename_i nm off e;obtain⟨_,h⟩:=h;split at h
   ·rename_i cs hg;simp only[e,hg,JR]at hk⊢;exact⟨h.1,h.2.1,h.2.2,hk⟩
   ·exact h.elim
  ·exact h.elim
 all_goals
  obtain⟨h1,h2,_⟩:=h
  first
   |(simp[BH]at h1;done)
   |(refine(OD P GL (d:=_) rfl st K).2 ⟨h2,?_⟩;exact hk)
theorem Xj(hdr:OG ins=true)(h:Ad P GL sn ins st K):∃x,BP P GL sn ins x st/\K (Ef GL ins x st):=by
 have pure:∀ins:Ins,∀d,BH ins=some d->step P GL ins st K->(∀o∈BB ins,looks ins=true->∀nm∈(AZ GL st o).nms,nm∉sn)->
   ((BH ins).isSome/\(pv (AZ GL st) (Aa st.sto) ins).2/\(looks ins=true->∀o∈BB ins,∀nm∈(AZ GL st o).nms,nm∉sn))/\K (st.put d (pv (AZ GL st) (Aa st.sto) ins).1):=fun ins d hd hs hl=>by
  obtain⟨h1,h2⟩:=(OD P GL hd st K).1 hs;exact⟨⟨by rw[hd];rfl,h1,fun l o ho nm hn=>hl o ho l nm hn⟩,h2⟩
 cases ins
 case call d f args=>
  obtain⟨h1,y,h2,h3⟩:=h;refine⟨some y,⟨h1,y,rfl,h2⟩,?_⟩;cases d<;>exact h3
 case callv d fo args=>
  obtain⟨h0,h1,h⟩:=h;split at h
  ·rename_i p hp;obtain⟨y,h2,h3⟩:=h;refine⟨some y,⟨h0,h1,p,y,hp,rfl,h2⟩,?_⟩;cases d<;>exact h3
  ·exact h.elim
 case alloc d zs=>
  refine⟨none,?_⟩;simp only[Ad,step,GC]at h;split at h
  ·rename_i hg;exact⟨⟨hg,h.1⟩,h.2⟩
  ·exact h.elim
 case mupd ox oq ov ls=>
  refine⟨none,?_⟩;simp only[Ad,step,H4]at h;simp only[BP,Ef];split at h
  ·rename_i nm q u e1 e2 e3;obtain⟨h1,h⟩:=h;unfold IU at h;split at h
   ·rename_i ls' es hg;simp only[e1,e2,e3,hg];exact⟨⟨h1,h.1⟩,h.2⟩
   ·exact h.elim
  ·exact h.elim
 case store ox ov k=>
  obtain⟨h1,h⟩:=h;refine⟨none,?_⟩;simp only[step,Ho]at h;simp only[BP,Ef];split at h
  ·rename_i nm off e;rw[e]at h1;unfold JR at h;split at h
   ·rename_i cs hg;simp only[e,hg];exact⟨⟨h1,h.1,h.2.1,h.2.2.1⟩,h.2.2.2⟩
   ·exact h.elim
  ·rename_i e;rw[e]at h1;exact h1.elim
  ·exact h.elim
 case load d x k ag=>
  obtain⟨h1,h⟩:=h;exact⟨none,pure (.load d x k ag) d rfl h (fun o ho _ nm hn=>by simp[BB]at ho;subst ho;exact h1 nm hn)⟩
 case ia d s i k=>
  obtain⟨⟨h1,h2⟩,h⟩:=h;exact⟨none,pure (.ia d s i k) d rfl h (fun o ho _ nm hn=>by
   simp[BB]at ho;rcases ho with rfl|rfl
   ·exact h1 nm hn
   ·exact h2 nm hn)⟩
 case slc d x lo hi k=>
  obtain⟨h1,h⟩:=h;exact⟨none,pure (.slc d x lo hi k) d rfl h (fun o ho _ nm hn=>h1 o ho nm hn)⟩
 all_goals
  first
   |(simp[OG,BH]at hdr;done)
   |(obtain⟨h1,h⟩:=h;exact⟨none,pure _ _ rfl h (fun o ho hl=>by simp[looks]at hl)⟩)
theorem Te{sn:List Nat}:∀(gs:List GI) (st:St) (K:St->Prop),(gs.all fun g=>OG g.ins)=true->evD P GL sn gs st K->∃xs:List X,xs.map (·.1)=gs/\DW P GL sn xs st K
 |[],st,K,_,h=>⟨[],rfl,h⟩
 |g::r,st,K,hd,h=>by
  rw[Zct,Zbz]at hd;have go:Ad P GL sn g.ins st (fun s=>evD P GL sn r s K)->Bp g.gd st=some true->∃xs:List X,xs.map (·.1)=g::r/\DW P GL sn xs st K:=fun hs hg=>by
   obtain⟨x,h1,h2⟩:=Xj hd.1 hs;obtain⟨xs,e,hr⟩:=Te r _ K hd.2 h2;refine⟨(g,x)::xs,by simp[e],?_,?_⟩
   ·unfold Ca;simp only[hg];exact h1
   ·unfold Bq;simp only[hg];exact hr
  have skip:evD P GL sn r (Bv g.ins st) K->Bp g.gd st=some false->∃xs:List X,xs.map (·.1)=g::r/\DW P GL sn xs st K:=fun hs hg=>by
   obtain⟨xs,e,hr⟩:=Te r _ K hd.2 hs;refine⟨(g,none)::xs,by simp[e],?_,?_⟩
   ·unfold Ca;simp only[hg]
   ·unfold Bq;simp only[hg];exact hr
  simp only[evD]at h;split at h
  ·rename_i e;exact go h (by rw[e];rfl)
  ·rename_i s want e;unfold fE at h;split at h
   ·rename_i b hb;have hg:Bp g.gd st=some (b==want):=by rw[e];simp only[Bp,hb]
    cases hbw:b==want with
    |true=>rw[hbw]at h hg;exact go (h.1 rfl) hg
    |false=>rw[hbw]at h hg;exact skip (h.2 rfl) hg
   ·rename_i hb;exact skip h (by rw[e];simp only[Bp,hb])
   ·exact h.elim
theorem Tf{sn:List Nat}:∀(a b:List GI) (st:St) (K:St->Prop),evD P GL sn (a++b) st K=evD P GL sn a st (fun s=>evD P GL sn b s K)
 |[],b,st,K=>rfl
 |g::a,b,st,K=>by
  simp only[Zc3,evD];have e:(fun s=>evD P GL sn (a++b) s K)=fun s=>evD P GL sn a s (fun s=>evD P GL sn b s K):=funext fun s=>Tf a b s K
  rw[e,Tf a b]
end
end Go.Dl
end
section
namespace Go.Dl
open Go Go.RowKit
variable{g:Nat->Nat}{l:List (Nat×Blk)}{N:Nat->Prop}{mv:List Nat}{nm:Nat}
section
variable {P:Program}{GL:List (Nat×List I)}{n:Nat}{S:Sh}{M:Mem}{μ:Place}{st:St}{a:Act}{w:World}{sto:List (Nat×Blk)}
theorem AP.reS{S S':Nat->Prop}{M:Mem}{μ:Place}{w:World}{x:Blk}(h:AP S M μ N w nm x)(hs:∀k,An (μ nm)=some k->S' k->S k):AP S' M μ N w nm x:=by
 have own:∀{k:Nat} {q:Obj},An (μ nm)=some k->Owns S M w k q->Owns S' M w k q:=fun e hq=>⟨fun hb=>hq.low (hs _ e hb),hq.heap,hq.unk⟩
 cases x with
 |cells cs=>obtain⟨bb,vs,t,e,ho,j0,hr⟩:=h;exact⟨bb,vs,t,e,own (by rw[e];rfl) ho,j0,hr⟩
 |rows e k rs=>obtain⟨aa,cap,e,hh⟩:=h;refine⟨aa,cap,e,hh.imp id ?_⟩;grind[An]
 |map ls es=>obtain⟨bb,xs,clk,e,ho,q⟩:=h;exact⟨bb,xs,clk,e,own (by rw[e];rfl) ho,q⟩
 |iter cur rest=>obtain⟨bb,mm,since,seen,last,e,ho,q⟩:=h;exact⟨bb,mm,since,seen,last,e,own (by rw[e];rfl) ho,q⟩
 |lp l q cs=>obtain⟨vs,e,ho,q⟩:=h;exact⟨vs,e,own (by rw[e];rfl) ho,q⟩
 |gmap ls clk es=>obtain⟨bb,xs,e,ho,q⟩:=h;exact⟨bb,xs,e,own (by rw[e];rfl) ho,q⟩
 |arr e k rs=>obtain⟨aa,e1,hh⟩:=h;refine⟨aa,e1,hh.imp id ?_⟩;rintro⟨bb,o',cur,rfl,jg,ho,q⟩;exact⟨bb,o',cur,rfl,jg,own (by rw[e1];exact P1 (by simpa using jg)) ho,q⟩
theorem AP.putN{S:Nat->Prop}{M:Mem}{μ:Place}{w:World}{b:Nat}{x:Blk}{o:Obj}(h:AP S M μ N w nm x)(hb:An (μ nm)≠some b):AP S M μ N (w.putObj b o) nm x:=
 AP.mono (S:=⟨S,μ,[]⟩) h (Mem.le_refl _) rfl (fun _ _ k=>⟨k,rfl⟩) (fun k hk _=>World.putObj_heap_other (fun e=>hb (e▸hk))) (fun _ _ _=>Mem.same_refl _ _)
theorem AP.nameMono{S:Nat->Prop}{M:Mem}{μ:Place}{N':Nat->Prop}{w:World}{x:Blk}(h:AP S M μ N w nm x)(hN:∀m∈x.nms,N m->N' m):AP S M μ N' w nm x:=
 AP.mono (S:=⟨S,μ,[]⟩) h (Mem.le_refl _) rfl (fun m hm k=>⟨hN m hm k,rfl⟩) (fun _ _ _=>rfl) (fun _ _ _=>Mem.same_refl _ _)
theorem StoOk.putN{S:Nat->Prop}{b:Nat}{o:Obj}(h:StoOk S M μ sto w)(hu:M.unk b)(hb:∀m,names sto m->An (μ m)≠some b):StoOk S M μ sto (w.putObj b o) where
 sub:=h.sub.world fun k _ hk=>World.putObj_heap_other (fun e=>hk (e▸hu))
 blk:=fun nm x hx=>(h.blk nm x hx).putN (hb nm (by simp[names,hx]))
 sep:=h.sep
 low:=fun k hk=>by rw[World.putObj_size];exact h.low k hk
theorem Rel.putN(h:Rel GL n S M μ st a w){b:Nat}{o:Obj}(hu:M.unk b)(hb:∀m,names st.sto m->An (μ m)≠some b):Rel GL n S M μ st a (w.putObj b o):=
 h.of (st':=st) (h.toStoOk.putN hu hb) (Mem.le_refl _) fun _ _ hv=>hv
theorem StoOk.reS{S S':Nat->Prop}(h:StoOk S M μ sto w)(hs:∀m k,names sto m->An (μ m)=some k->S' k->S k)(hlow:∀b,S' b->b<w.heap.size):StoOk S' M μ sto w where
 sub:=h.sub
 blk:=fun nm x hx=>(h.blk nm x hx).reS fun k hk hS=>hs nm k (by simp[names,hx]) hk hS
 sep:=h.sep
 low:=hlow
theorem StoOk.part{S:Nat->Prop}{sto':List (Nat×Blk)}(h:StoOk S M μ sto w)(hs:∀m b,Aa sto' m=some b->Aa sto m=some b)(hc:∀nm b,Aa sto' nm=some b->∀m∈b.nms,names sto' m):StoOk S M μ sto' w where
 sub:=h.sub
 blk:=fun nm b hb=>(h.blk nm b (hs nm b hb)).nameMono fun m hm _=>hc nm b hb m hm
 sep:=fun m m' k k' jg h1 h2=>by
  refine h.sep m m' k k' jg ?_ ?_
  ·obtain⟨x,hx⟩:=Zhi.1 h1;simp[names,hs m x hx]
  ·obtain⟨x,hx⟩:=Zhi.1 h2;simp[names,hs m' x hx]
 low:=h.low
theorem KO.calls{f:FuncId}{vs:Array Value}{R:Value->World->Prop}(he:Ck P f=true)(h:KO P f vs w R):Calls P f vs w fun e w'=>∃v,e=.returned v/\R v w':=by
 have hy:Nat.blt f 1000000000=true:=by grind[Ck]
 rcases h with⟨_,h2⟩|⟨_,row,h1,_⟩|⟨_,v,w',h1,_⟩|⟨h1,_⟩
 all_goals grind[J6]
theorem Xk{r:Ref}:(OF g r).nm=g r.nm:=by cases r<;>rfl
theorem Xl{c:Cp}{q:Nat}(h:q∈(mpC g c).nms):∃p∈c.nms,q=g p:=by
 cases c with
 |ref r=>simp[mpC,Cp.nms,Xk]at h⊢;exact h
 |_=>simp[mpC,Cp.nms]at h
theorem Qo{d:D}{q:Nat}(h:q∈(I8 g d).nms):∃p∈d.nms,q=g p:=by
 cases d with
 |ref r=>simp[I8,D.nms,Xk]at h⊢;exact h
 |fn f a b=>grind[I8,D.nms,Xl]
 |tup cs=>grind[I8,D.nms,Xl]
 |_=>simp[I8,D.nms]at h
theorem jR{b:Blk}{q:Nat}(h:q∈(KL g b).nms):∃p∈b.nms,q=g p:=by
 cases b with
 |cells cs=>grind[KL,Blk.nms,Qo]
 |lp l q cs=>grind[KL,Blk.nms,Qo]
 |gmap ls clk es=>grind[KL,Blk.nms,Qo]
 |_=>simp[KL,Blk.nms]at h
theorem E4{T:List (Nat×Blk)}{k:Nat}{b:Blk}(h:PW T l=true):PW ((k,b)::T) l=true:=by
 induction l with
 |nil=>rfl
 |cons x r ih=>obtain⟨m,y⟩:=x;simp only[PW,Zbz]at h⊢;refine⟨?_,ih h.2⟩;simp only[Oe,Zcu]at h⊢;intro q hq;exact FX q (h.1 q hq)
theorem EH(h:Sj mv l=true):PW l l=true:=by grind[Sj]
theorem jS(h:Sj mv l=true):∀q,names l q->pinned q\/q∈mv:=fun q hq=>by
 simp only[Sj,Zbz,Zcu]at h;have:=h.1.1 q (Cl.2 hq);simp only[Zcb,Zbz,Zgo,Zgp]at this;rcases this with q1|q1
 ·exact .inl q1
 all_goals grind
theorem OL(h:Kg l=true):Aa l 5499=none:=by
 cases hg:Aa l 5499 with
 |none=>rfl
 |some b=>grind[names,Kg,Cl]
theorem Xm{N:Nat->Prop}:∀(ps:List Nat) (xs:List I) (vs:List Value) (e:List (Nat×D)) (t:Array Value),ps.length=xs.length->Ak M xs vs->(∀p∈ps,p<t.size)->(∀s,AD M μ N (Cv e s) (t.getD s Go.undef))->
  ∀s,AD M μ N (Cv (EG ps xs e) s) (((ps.zip vs).foldl (fun t p=>t.setIfInBounds p.1 p.2) t).getD s Go.undef)
 |[],xs,vs,e,t,_,_,_,h,s=>by simp_all[EG]
 |p::ps,[],vs,e,t,hl,_,_,_,s=>by simp at hl
 |p::ps,x::xs,[],e,t,hl,hr,_,_,s=>by have:=hr.1;simp at this
 |p::ps,x::xs,v::vs,e,t,hl,hr,hp,h,s=>by
  simp only[EG,List.zip_cons_cons,Zdt];refine Xm ps xs vs _ _ (by simpa using hl) ⟨by simpa using hr.1,fun j a b=>by have:=hr.2 (j+1) (by simpa using a) (by simpa using b);simpa using this⟩ (fun q hq=>by simpa using hp q (Zfc _ hq)) (fun s=>?_) s;have hpt:p<t.size:=hp p Zfd;simp only[Cv];by_cases e':p=s
  ·subst e';simp only[Zad];have:=hr.2 0 (by simp) (by simp);show Rep M x _;simp_all
  all_goals simp_all
theorem Xn(l:Nat):Nat.blt (1000000000+l) 1000000000=false:=by
 cases h:Nat.blt (1000000000+l) 1000000000 with
 |false=>rfl
 |true=>rw[Zgp]at h;omega
theorem jT{q:LQ}{l:Nat}{L:List D}{mj mk:List (Nat×Blk)}{xj:List I}{jm:Jm}{ix iy:J}(hn9:n<=999)(hq:q.jump=none)
  (hx:∀(S:Sh) (K:Exit->St->Prop) (M:Mem) (μ:Place) (st:St) (a:Act) (w:World),Rel GL n S M μ st a w->W2 P GL ix K st->q.assign.wpIn (FR (some l)) 0 P (Fw GL n S M w K) a w)
  (hy:∀(S:Sh) (K:Exit->St->Prop) (M:Mem) (μ:Place) (st:St) (a:Act) (w:World),Rel GL n S M μ st a w->W2 P GL iy K st->q.body.wpIn (FR (some l)) 0 P (Fw GL n S M w K) a w)
  (k8:Sj mv mj=true)(hok':Sj mv mk=true)(h99:Kg mj=true)(h99':Kg mk=true)(hL:okL mj L=true)(hL':okL mk L=true)(hLn:L.length=n)(hps:xj.length=q.ps.toList.length)(wi:∀p∈q.ps.toList,p<n)
  (hw:W2 P GL ix (Xd (W2 P GL iy) (fi mk jm)) ⟨.l (EG q.ps.toList xj (DK 0 L)),mj⟩):
  MC P GL (1000000000+l) (xj.map .i) ((5499,.lp l q L)::mj) mv (fun r s=>r=.i (.bool jm.go)/\s=(5499,.lp l {q with jump:=jm.code} L)::mk):=by
 intro Mr μr wr vs kr qp jr;obtain⟨ts,hμ,jc,j0,hrs⟩:=kr.blk 5499 (.lp l q L) (by simp[Aa]);have qu:An (μr 5499)=some l:=by rw[hμ];rfl
 have h5:Aa mj 5499=none:=OL h99;have h5':Aa mk 5499=none:=OL h99';have vw:PW mj mj=true:=by exact EH k8
 have hcl':PW mk mk=true:=by exact EH hok'
 have hup:∀m b,Aa mj m=some b->Aa ((5499,.lp l q L)::mj) m=some b:=fun m b hb=>by simp only[Aa];rw[Zac (fun e=>by subst e;rw[h5]at hb;cases hb)];exact hb
 have hnl:∀m k,names mj m->An (μr m)=some k->k≠l:=fun m k hm hk=>by refine kr.sep m 5499 k l (fun e=>by subst e;simp[names,h5]at hm) (FX m hm) D9 hk qu
 refine .inr (.inr (.inr ⟨Xn l,q.fn,(q.ps.zip vs).foldl (fun t x=>t.setIfInBounds x.1 x.2) ts,q.assign,q.body,?_,?_⟩))
 ·have e:1000000000+l-1000000000=l:=by omega
  rw[e];exact run_yield (P:=P) (args:=vs) jc.heap (by have h1:=jr.1;have h2:(q.lp ts).params=q.ps:=rfl;rw[h2];simp at h1 hps;omega)
 ·have e:1000000000+l-1000000000=l:=by omega
  rw[e];refine roundIn_of_wpIn (F:=Fence.wide) trivial ?_
  let Sr:Sh:=⟨fun b=>(AL μr ((5499,.lp l q L)::mj) wr).p b\/b=l,μr,[]⟩
  have qv:l<wr.heap.size:=jc.lt;have hRepL:Db Mr μr (names mj) L ts.toList:=⟨by simpa using j0,fun j a b=>by
   have hj:j<ts.size:=by simpa using b
   have:=(hrs j a hj).mono' (N':=names mj) (μ':=μr) (Mem.le_refl _) fun m hm _=>⟨by
    simp only[okL,Zcu,Zbz]at hL;exact E1 (hL _ (Zef a)).1 m hm,rfl⟩
   simpa using this⟩
  have hxL:Ak Mr xj vs.toList:=⟨by simpa using jr.1,fun j a b=>by have:=jr.2 j (by simpa using a) b;rw[Zee]at this;exact this⟩
  have h0:Rel GL n Sr Mr μr ⟨.l (EG q.ps.toList xj (DK 0 L)),mj⟩ {tmps:=(q.ps.zip vs).foldl (fun t x=>t.setIfInBounds x.1 x.2) ts,defers:=[]} wr:=by
   have hsize:∀(l:List (Tmp×Value)) (t:Array Value),(l.foldl (fun t x=>t.setIfInBounds x.1 x.2) t).size=t.size:=fun l=>by
    induction l with
    |nil=>intro t;rfl
    |cons x l ih=>intro t;simp[ih]
   have hfold:(q.ps.zip vs).foldl (fun t x=>t.setIfInBounds x.1 x.2) ts=(q.ps.toList.zip vs.toList).foldl (fun t x=>t.setIfInBounds x.1 x.2) ts:=by rw[<-Array.foldl_toList];simp
   refine{toStoOk:=?_,small:=hn9,pin:=fun _ _=>rfl,defers:=rfl,size:=?_,env:=fun s=>?_,glob:=qp}
   ·refine(kr.part hup fun nm b hb=>I4 vw nm b hb).reS (fun m k hm hk hS=>?_) (fun b hb=>?_)
    ·rcases hS with hS|hS
     ·exact hS
     ·exact(hnl m k hm hk hS).elim
    ·rcases hb with hb|rfl
     ·exact kr.low b hb
     ·exact qv
   ·rw[hfold,hsize];omega
   ·rw[hfold];refine Xm q.ps.toList xj vs.toList _ ts (by omega) hxL (fun p hp=>Zgy (wi p hp) (by omega)) (fun s=>?_) s;refine Ta L ts.toList 0 hRepL s _ (fun hl _=>?_);simp at hl;simp[hl]
  refine Zaz (hx Sr _ Mr μr _ _ wr h0 hw) ?_;rintro e a' w' ⟨st',hk,S',vu,M',μ',h',hm,xl⟩;cases e with
  |normal=>
   have hSl:Sr.p l:=.inr rfl;have hl1:w'.heap[l]? =some (.loop (q.lp ts)):=(xl.block l hSl).trans jc.heap;refine⟨_,run_beginRound hl1 (by show(if q.jump.isNone=true then LoopState.ready else LoopState.done)=_;rw[hq];rfl),?_⟩;generalize hw2:w'.putObj l (.loop {q.lp ts with state:=.busy})=w2;have hun:M'.unk l:=Mem.unk_same jc.unk (hm.old l hSl);have h'':Rel GL n S' M' μ' st' a' w2:=by rw[<-hw2];exact h'.putN hun fun m hm e=>(h'.toStoOk.lt hm e).2.1 (vu.p l hSl)
   have hb:q.body.wpIn (FR (some l)) 0 P (Fw GL n S' M' w2 (fi mk jm)) a' w2:=by obtain⟨T,hT,hk⟩:=hk;exact hy S' _ M' μ' T a' w2 (h''.subQ hT) hk
   refine Zaz hb ?_;rintro e2 a3 w3 ⟨st3,⟨rfl,lf,kh⟩,S3,hg3,M3,μ3,h3,hm3,hkeep3⟩;obtain⟨M4,h4,m4⟩:=h3.frzNs lf;have hS'l:S'.p l:=vu.p l hSl;have hl3:w3.heap[l]? =some (.loop {q.lp ts with state:=.busy}):=(hkeep3.block l hS'l).trans (by rw[<-hw2];exact World.putObj_heap_same (Og hl1));have wp:=run_endRound (P:=P) jm.code hl3;have hgo:jm.code.isNone=jm.go:=by cases jm<;>rfl
   rw[hgo]at wp;have hpinq:∀m,pinned m->μ3 m=μr m:=fun m hp=>by rw[h4.pin m hp,hg3.q,vu.q]
   have hlsz:l<w3.heap.size:=Og hl3;have hMle:Mr.le M4:=Mem.le_trans hm.le (Mem.le_trans hm3.le m4.le);have hS3:∀b,(AL μr ((5499,.lp l q L)::mj) wr).p b->S3.p b:=fun b hb=>hg3.p b (vu.p b (.inl hb))
   have hun4:M4.unk l:=Mem.unk_same (Mem.unk_same hun (hm3.old l hS'l)) (m4.old l (hg3.p l hS'l));have hs3:StoOk S3.p M4 μ3 mk w3:=h4.toStoOk.part (J7 kh) fun nm b hb=>I4 hcl' nm b hb
   have hnl3:∀m k,names mk m->An (μ3 m)=some k->k≠l:=fun m k hm hk e=>(hs3.lt hm hk).2.1 (e▸hg3.p l hS'l)
   have hl4:(w3.putObj l (.loop {(q.lp ts)with state:=if jm.go=true then .ready else .done,pending:=jm.code})).heap[l]? =some (.loop (({q with jump:=jm.code}:LQ).lp ts)):=by rw[World.putObj_heap_same hlsz];cases jm<;>rfl
   have fin:∃v,Ending.returned (Value.bool jm.go)=.returned v/\∃r sto' M' μ',(r=D.i (.bool jm.go)/\sto'=(5499,.lp l {q with jump:=jm.code} L)::mk)/\StoOk (AL μr ((5499,.lp l q L)::mj) wr) M' μ' sto' (w3.putObj l (.loop {(q.lp ts)with state:=if jm.go=true then .ready else .done,pending:=jm.code}))/\AD M' μ' (names sto') r v/\
     MExt (AL μr ((5499,.lp l q L)::mj) wr) Mr M'/\Keeps (AL μr ((5499,.lp l q L)::mj) wr) wr (w3.putObj l (.loop {(q.lp ts)with state:=if jm.go=true then .ready else .done,pending:=jm.code}))/\∀nm,names ((5499,.lp l q L)::mj) nm->nm∉mv->μ' nm=μr nm:=by
    have hs4:StoOk (AL μr ((5499,.lp l q L)::mj) wr).p M4 μ3 mk (w3.putObj l (.loop {(q.lp ts)with state:=if jm.go=true then .ready else .done,pending:=jm.code})):=
     (hs3.reS (fun m k _ _ hS=>hS3 k hS) (fun b hb=>hs3.low b (hS3 b hb))).putN hun4 fun m hm e=>hnl3 m l hm e rfl
    have hbind:=hs4.bind (nm:=5499) (b:=.lp l {q with jump:=jm.code} L) (x:=.pointer (some ⟨l,0,none⟩)) h5' ⟨ts,Bh _ _ _,⟨jc.low,hl4,hun4⟩,j0,fun j a b=>by
     refine(hrs j a b).mono' hMle fun m hm _=>?_
     simp only[okL,Zcu,Zbz]at hL';obtain⟨q1,q2⟩:=hL' _ (Zef a);have q3:=q2 m hm;simp only[Zgo,Zgp]at q3;exact⟨FX m (E1 q1 m hm),by rw[CD _ _ (by omega)];exact hpinq m ⟨q3.1,by omega⟩⟩⟩ (fun m k hm hk=>by
     simp only[An];intro e;cases e;exact hnl3 m l hm hk rfl)
    have hup3:BA μ3 5499 (.pointer (some ⟨l,0,none⟩))=μ3:=by
     funext m;by_cases e:m=5499
     ·subst e;rw[Bh,hpinq 5499 ⟨by omega,by omega⟩,hμ]
     ·rw[CD _ _ e]
    rw[hup3]at hbind;refine⟨_,rfl,_,_,M4,μ3,⟨rfl,rfl⟩,hbind,AJ (.bool _),⟨hMle,fun b hb=>?_⟩,?_,fun nm jl hmv=>?_⟩
    ·exact Mem.same_trans (hm.old b (.inl hb)) (Mem.same_trans (hm3.old b (vu.p b (.inl hb))) (m4.old b (hS3 b hb)))
    ·have hnsl:¬(AL μr ((5499,.lp l q L)::mj) wr).p l:=jc.low;have k1:Keeps (AL μr ((5499,.lp l q L)::mj) wr).p wr w':=xl.mono fun b hb=>.inl hb
     have put:∀{A B:World} {o:Obj},Keeps (AL μr ((5499,.lp l q L)::mj) wr).p A B->Keeps (AL μr ((5499,.lp l q L)::mj) wr).p A (B.putObj l o):=fun h=>
      ⟨h.os,h.tape,h.output,by rw[World.putObj_size];exact h.size,fun k hk=>by rw[World.putObj_heap_other (k:=k) (r:=l) (fun e=>hnsl (by rw[e]at hk;exact hk))];exact h.block k hk,h.drawn⟩
     have k2:Keeps (AL μr ((5499,.lp l q L)::mj) wr).p wr w2:=by rw[<-hw2];exact put k1
     exact put (k2.trans (hkeep3.mono fun b hb=>vu.p b (.inl hb)))
    ·by_cases e:nm=5499
     ·subst e;exact hpinq 5499 ⟨by omega,by omega⟩
     ·have:names mj nm:=by simp only[names,Aa,Zac (Ne.symm e)]at jl;exact jl
      exact(jS k8 nm this).elim (hpinq nm) (fun hc=>(hmv hc).elim)
   cases jm with
   |none=>exact⟨_,_,wp,fin⟩
   |ret=>exact⟨_,_,wp,fin⟩
   |exit id=>exact⟨_,_,wp,fin⟩
  |_=>exact hk.elim
theorem jU{k:Nat}{q:LQ}{L:List D}(h:Sj mv l=true)(hL:okL l L=true)(h99:Kg l=true):Sj mv ((5499,.lp k q L)::l)=true:=by
 have hc:=EH h;simp only[Sj,Zbz,Ze1,Zct]at h⊢;refine⟨⟨⟨by rw[Zcb];left;decide,h.1.1⟩,?_⟩,?_⟩
 rotate_left
 ·grind[Ea,Cl,names,OL]
 grind[PW,E4,Oe,Blk.nms,okL,FX,E1]
theorem Xo{f:List (Nat×Nat)}:∀{L:List D} {i:Nat} {e:Env},Hw f i L e->∀j (h:j<L.length),L[j]=.any\/Aj e (i+j)=I8 (IM f) L[j]
 |[],i,e,_,j,h=>by simp at h
 |x::xs,i,e,hs,0,h=>hs.1
 |x::xs,i,e,hs,j+1,h=>by have:=Xo hs.2 j (by simpa using h);grind
theorem jV{g':Nat->Nat}(hg:∀m,g' (g m)=m){l:List (Nat×Blk)}(h:PW l l=true):∀nm b,Aa (IL g l) nm=some b->∀m∈b.nms,names (IL g l) m:=fun nm b hb m hm=>by obtain⟨o,b0,h1,rfl,rfl⟩:=S7 (fun a b _ _ e=>by rw[<-hg a,e,hg]) hb;obtain⟨p,hp,rfl⟩:=jR hm;exact GO (I4 h o b0 h1 p hp)
theorem jW(h:Rel GL n S M μ st a w){g:Operand}{ps:Array Tmp}{x y:Code}{og:O}{ix iy:J}{K:Exit->St->Prop}(hg:cO GL g=some og)(wi:∀p∈ps.toList,p<n)
  (hx:∀(l:Nat) (S:Sh) (K:Exit->St->Prop) (M:Mem) (μ:Place) (st:St) (a:Act) (w:World),Rel GL n S M μ st a w->W2 P GL ix K st->x.wpIn (FR (some l)) 0 P (Fw GL n S M w K) a w)
  (hy:∀(l:Nat) (S:Sh) (K:Exit->St->Prop) (M:Mem) (μ:Place) (st:St) (a:Act) (w:World),Rel GL n S M μ st a w->W2 P GL iy K st->y.wpIn (FR (some l)) 0 P (Fw GL n S M w K) a w)
  (hs:rfW P GL n og ps.toList (W2 P GL ix) (W2 P GL iy) K st):(Code.rangeFunc g ps x y).wpIn (FR none) 0 P (Fw GL n S M w K) a w:=by
 obtain⟨gf,caps,ι,i0,Nx,Fin,e1,ku,hseq,f,L,m,mv,jm,hj0,hV,hm,hLn,hsubL,hf99,kh,hrnd,hend0⟩:=hs;have hgy:Nat.blt gf 1000000000=true:=by unfold Ck at ku;rw[Zbz]at ku;exact ku.1
 have hro:=Az h hg;rw[e1]at hro;obtain⟨va,vb,hev,_,ra,rb⟩:=(AE hro).fn_inv;have hva:va=#[]:=by have:=ra.1;simpa using this
 subst hva;rw[show FV gf=Fn.func gf from Zaa hgy]at hev;refine wpIn_rangeFunc ?_;intro fn _;rw[jA]
 let D:=w.heap.size
 let l:=w.heap.size+1
 let q:LQ:={fn,ps,assign:=x,body:=y,defers:=w.heap.size,jump:=none}
 let c:=IL (IM f) (m i0)
 generalize hw1:w.alloc (.deferred (some []))=w1;generalize hw2:w1.alloc (.loop (q.lp a.tmps))=w2;have hsz1:w1.heap.size=w.heap.size+1:=by rw[<-hw1,Ml]
 have hsz2:w2.heap.size=w.heap.size+2:=by rw[<-hw2,Ml,hsz1]
 refine⟨l,[mkD D],w2,{target:=.fn (.func gf) vb,args:=#[.func (.yield l) #[] #[]]},w2,gf,#[.func (.yield l) #[] #[]]++vb,w2,?_,?_,?_,?_,?_,?_⟩
 ·rw[<-hw2,<-hw1];exact run_enterLoop_outer _ _ _ _ _
 ·simp only[resolve,hev];simp[go_sem]
 ·intro _ _;trivial
 ·simp[invoke,go_sem,J6 ku]
 ·intro hh;simp[Fence.wide]at hh
 have hcl0:PW (m i0) (m i0)=true:=EH (hm i0).1;have hcc:∀nm b,Aa c nm=some b->∀p∈b.nms,names c p:=jV (BQ f) hcl0;have hsubg:=J7 kh
 let S1:Sh:=⟨fun b=>S.p b\/b=D,S.q,mkD D::S.ds⟩
 let a1:Act:={a with defers:=mkD D::a.defers}
 have h1:Rel GL n S1 M μ st a1 w1:=by
  refine{toStoOk:=?_,small:=h.small,pin:=h.pin,defers:=?_,size:=h.size,env:=h.env,glob:=h.glob}
  ·rw[<-hw1];refine(h.toStoOk.alloc _).reS (fun k b hk hb hS=>?_) (fun b hb=>?_)
   ·rcases hS with hS|rfl
    ·exact hS
    ·have:=(h.toStoOk.lt hk hb).1;simp only[D]at this;omega
   ·rw[Ml];rcases hb with hb|rfl
    ·have:=h.low b hb;omega
    ·simp only[D];omega
  ·show mkD D::a.defers=mkD D::S.ds;rw[h.defers]
 have hA:StoOk (AL μ c w1).p M μ c w1:=h1.toStoOk.hand hsubg hcc;have hA2:StoOk (AL μ c w1).p M μ c w2:=by rw[<-hw2];exact hA.alloc _
 let μ0:Place:=fun k=>μ (IM f k)
 have hback:IL (KN f) c=m i0:=E2 (BQ f) (m i0);have hB:StoOk (AL μ c w1).p M μ0 (m i0) w2:=by
  have:=hA2.mp (f:=KN f) (μ':=μ0) (S':=(AL μ c w1).p) (fun a b _ _ e=>by rw[<-I9 f a,e,I9]) (fun k _=>by show μ (IM f (KN f k))=μ k;rw[I9]) (fun _=>Iff.rfl)
  rwa [hback]at this
 have h5:Aa (m i0) 5499=none:=OL (hm i0).2.1
 let X:Value:=.pointer (some ⟨l,0,none⟩)
 have hnsl:¬(AL μ c w1).p l:=fun hh=>by have:=hh.1;rw[hsz1]at this;simp only[l]at this;omega
 have hC:StoOk (AL μ c w1).p M (BA μ0 5499 X) ((5499,.lp l q L)::m i0) w2:=by
  refine hB.bind h5 ⟨a.tmps,Bh _ _ _,⟨hnsl,?_,Mem.unk_new h.sub (by simp only[l];omega)⟩,by rw[h.size,hLn],fun j ha hb=>?_⟩ fun k b hk hb=>?_
  ·rw[<-hw2];have:=GA w1 (.loop (q.lp a.tmps));rw[hsz1]at this;exact this
  ·rcases Xo hsubL j ha with e|e
   ·rw[e];trivial
   ·have hr:=h.env j;rw[Zg8]at e;rw[e]at hr;have ki:a.tmps.getD j Go.undef=a.tmps[j]:=by simp[hb]
    rw[ki]at hr;have hr2:AD M μ (names c) (I8 (IM f) L[j]) a.tmps[j]:=hr.mono' (Mem.le_refl _) fun p hp _=>by obtain⟨p0,hp0,rfl⟩:=Qo hp;have hL:=(hm i0).2.2.1;simp only[okL,Zcu,Zbz]at hL;exact⟨GO (E1 (hL _ (Zef ha)).1 p0 hp0),rfl⟩
    have:=hr2.mp (f:=KN f) (N':=names ((5499,.lp l q L)::m i0)) (μ':=BA μ0 5499 X) (fun p hp=>by
     have:=GO (f:=KN f) hp;rw[hback]at this;exact FX _ this) (fun p hp=>by
     have:=GO (f:=KN f) hp;rw[hback]at this;rw[CD _ _ (fun e=>by rw[e]at this;simp[names,h5]at this)];show μ (IM f (KN f p))=μ p;rw[I9])
    rw[DX (BQ f)]at this;exact this
  ·have:=(hB.lt hk hb).2.1;simp only[X,An];intro e;cases e;have qu:=hA.lt (m:=IM f k) (by have:=GO (f:=IM f) hk;exact this) (k:=l) hb;have:=qu.1;rw[hsz1]at this;simp only[l]at this;omega
 have hP:(AL (BA μ0 5499 X) ((5499,.lp l q L)::m i0) w2).p=(AL μ c w1).p:=by
  funext b;refine propext ⟨fun hb=>?_,fun hb=>?_⟩
  ·have qy:b≠l:=fun e=>hb.2 5499 D9 (by rw[Bh,e];rfl)
   refine⟨?_,fun k hk e=>?_⟩
   ·have:=hb.1;rw[hsz2]at this;rw[hsz1];simp only[l]at qy;omega
   ·have jk:=GO (f:=KN f) hk;rw[hback]at jk;refine hb.2 (KN f k) (FX _ jk) ?_;rw[CD _ _ (fun e=>by rw[e]at jk;simp[names,h5]at jk)];show An (μ (IM f (KN f k)))=some b;rw[I9];exact e
  ·refine⟨?_,fun k hk e=>?_⟩
   ·have:=hb.1;rw[hsz1]at this;rw[hsz2];omega
   ·by_cases ek:k=5499
    ·subst ek;rw[Bh]at e;simp only[X,An]at e;cases e;exact hnsl hb
    ·rw[CD _ _ ek]at e;have jk:names (m i0) k:=by simp only[names,Aa,Zac (Ne.symm ek)]at hk;exact hk
     exact hb.2 (IM f k) (GO jk) e
 let qj:ι->LQ:=fun i=>{q with jump:=(jm i).code}
 let m':ι->List (Nat×Blk):=fun i=>(5499,.lp l (qj i) L)::m i
 have hgo0:∀i,(!(jm i).go)=false->jm i=.none:=fun i h=>by
  cases hj:jm i with
  |none=>rfl
  |ret=>rw[hj]at h;cases h
  |exit id=>rw[hj]at h;cases h
 have hqn:∀i,jm i=.none->qj i=q:=fun i h=>by simp only[qj,h];rfl
 have hMC:=hseq (1000000000+l) m' mv (fun i=>!(jm i).go) hV (by show(!(jm i0).go)=false;rw[hj0];rfl) (fun i=>⟨jU (hm i).1 (hm i).2.2.1 (hm i).2.1,by
   show 5499::(m i).map (·.1)=5499::(m i0).map (·.1);rw[(hm i).2.2.2]⟩) (fun i xx i' hx' hi=>by
   have j9:=hgo0 i hi;obtain⟨r1,r2⟩:=hrnd i xx i' hx' j9;have:=jT (P:=P) (GL:=GL) (n:=n) (q:=q) (l:=l) (mv:=mv) (ix:=ix) (iy:=iy) h.small rfl (hx l) (hy l) (hm i).1 (hm i').1 (hm i).2.1 (hm i').2.1 (hm i).2.2.1 (hm i').2.2.1 hLn r1 wi r2;have e2:m' i=(5499,.lp l q L)::m i:=by simp only[m',hqn i j9]
   rw[e2];refine this.mono ?_;rintro r s ⟨rfl,rfl⟩;exact⟨by show Dl.D.i (.bool (jm i').go)=Dl.D.i (.bool (!!(jm i').go));rw[Bool.not_not],rfl⟩)
 have hm'0:m' i0=(5499,.lp l q L)::m i0:=by simp only[m',hqn i0 hj0]
 rw[hm'0]at hMC;have jz:Db M (BA μ0 5499 X) (names ((5499,.lp l q L)::m i0)) (.i (.fn (1000000000+l) [] [])::caps.map .i) (#[Value.func (.yield l) #[] #[]]++vb).toList:=by
  have e:FV (1000000000+l)=.yield l:=by unfold FV;rw[Zac (by rw[Xn];simp),Nat.add_sub_cancel_left]
  have hy0:AD M (BA μ0 5499 X) (names ((5499,.lp l q L)::m i0)) (.i (.fn (1000000000+l) [] [])) (.func (.yield l) #[] #[]):=by rw[<-e];exact AJ (Rep.fn _ [] [] #[] #[] (.inr rfl) rfl rfl (fun j hj=>by simp at hj) (fun j hj=>by simp at hj))
  have hb:=SE (μ:=BA μ0 5499 X) (N:=names ((5499,.lp l q L)::m i0)) rb;have:=Ot (xs:=[.i (.fn (1000000000+l) [] [])]) (vs:=[Value.func (.yield l) #[] #[]]) ⟨rfl,fun j ha hb=>by
   have:j=0:=by simpa using ha
   subst this;exact hy0⟩ hb
  simpa using this
 refine callsIn_wide.2 (((hMC M _ w2 _ (by rw[hP];exact hC) h.glob jz).calls ku).mono ?_);rintro e w3 ⟨v,rfl,r,sto',M',μ',⟨rfl,N,ko,rfl⟩,k1,_,k3,k4,k5⟩;obtain⟨hfr,wm,w7,hK⟩:=hend0 N (ko.imp (fun q e=>by have q2:(!(jm N).go)=true:=q;rw[e]at q2;cases q2) id);have hm'N:m' N=(5499,.lp l (qj N) L)::m N:=rfl;rw[hm'N]at k1;rw[hP]at k1 k3 k4;obtain⟨ts,hμ',hown',_,_⟩:=k1.blk 5499 (.lp l (qj N) L) (by simp[Aa]);have hqN:(qj N).jump=(jm N).code:=rfl;have hnb:(((qj N).lp ts).state)≠.busy:=by show(if(qj N).jump.isNone=true then LoopState.ready else .done)≠.busy;split<;>simp
 have wp:=run_endLoop (P:=P) hown'.heap hnb;refine⟨(jm N).code,_,by rw[wp];show Result.ok (qj N).jump _=_;rw[hqN],?_⟩;generalize hw4:w3.putObj l (.loop {(qj N).lp ts with state:=.exhausted})=w4;have h5N:Aa (m N) 5499=none:=OL (hm N).2.1;have hclN:PW (m N) (m N)=true:=EH (hm N).1;have hupN:∀k b,Aa (m N) k=some b->Aa ((5499,.lp l (qj N) L)::m N) k=some b:=fun k b hb=>by simp only[Aa];rw[Zac (fun e=>by subst e;rw[h5N]at hb;cases hb)];exact hb
 have hs4:StoOk (AL μ c w1).p M' μ' (m N) w4:=by
  rw[<-hw4];refine(k1.part hupN fun nm b hb=>I4 hclN nm b hb).putN hown'.unk fun k hk e=>?_
  refine k1.sep k 5499 l l (fun e=>by subst e;simp[names,h5N]at hk) ?_ (D9) e (by rw[hμ'];rfl) rfl;obtain⟨b,hb⟩:=Zhi.1 hk;simp[names,hupN k b hb]
 let μ3:Place:=fun k=>μ' (KN f k)
 have hs5:StoOk (AL μ c w1).p M' μ3 (IL (IM f) (m N)) w4:=
  hs4.mp (f:=IM f) (fun a b _ _ e=>by rw[<-BQ f a,e,BQ]) (fun k _=>by show μ' (KN f (IM f k))=μ' k;rw[BQ]) (fun _=>Iff.rfl)
 have xl:Keeps (AL μ c w1).p w1 w4:=by
  have q1:Keeps (AL μ c w1).p w1 w2:=by rw[<-hw2];exact FW _ _ fun k hk=>hk.1
  have q2:=q1.trans k4;rw[<-hw4];exact⟨q2.os,q2.tape,q2.output,by rw[World.putObj_size];exact q2.size,fun k hk=>by rw[World.putObj_heap_other (k:=k) (r:=l) (fun e=>hnsl (by rw[e]at hk;exact hk))];exact q2.block k hk,q2.drawn⟩
 obtain⟨μ2,hRel,hME,hKe,_⟩:=h1.afterCall (mv:=mv.map (IM f)) (d:=999) (by omega) hsubg hs5 k3 xl (fun nm jl hmv=>by
   have jk:=GO (f:=KN f) jl;rw[hback]at jk;have h99:KN f nm≠5499:=fun e=>by rw[e]at jk;simp[names,h5]at jk
   have:=k5 (KN f nm) (FX _ jk) (fun hc=>hmv (Zfh.2 ⟨_,hc,I9 f nm⟩));show μ' (KN f nm)=μ nm;rw[this,CD _ _ h99];show μ (IM f (KN f nm))=μ nm;rw[I9])
  (fun nm jl=>hfr nm (Cl.2 jl)) (fun nm jl hp=>by rw[Zcu]at w7;have:=w7 nm jl;unfold pinned at hp;simp only[Zcb,Zgp,Zgo]at this;omega) (fun nm q1 q2=>wm nm (Cl.2 q1) q2)
 have j8:Fv GL n S M w (Ds st c (IL (IM f) (m N)) (mv.map (IM f)) 999) a1 w4:=by
  refine⟨S1,⟨fun b hb=>.inl hb,rfl,[D],rfl,by simp,fun b hb=>?_⟩,M',μ2,hRel,hME.less fun b hb=>.inl hb,?_⟩
  ·have:b=D:=by simpa using hb
   subst this;refine⟨.inr rfl,fun hh=>?_,?_⟩
   ·have:=h.low _ hh;simp only[D]at this;omega
   ·rw[hKe.block D (.inr rfl),<-hw1];exact GA w _
  ·have q1:Keeps S.p w w1:=by rw[<-hw1];exact FW _ _ h.low
   exact q1.trans (hKe.mono fun b hb=>.inl hb)
 generalize jm N=j at hK;cases j with
 |none=>exact⟨_,hK,j8⟩
 |ret=>exact wpIn_ret ⟨_,hK,j8⟩
 |exit id=>exact wpIn_exit ⟨_,hK,j8⟩
end
end Go.Dl
end
