/-Lemmas.-/
import Derived.Test.YtkhlddbmhehbbaaGreatDoorU6
import Derived.Orders
set_option linter.all false
section
namespace Go.Dl
open Go Go.RowKit
section
variable {P:Program}{GL:List (Nat×List I)}{sn:List Nat}
theorem kX{cs:List D}{off:Nat}{nm:Nat}(h:nm∈(cs.getD off .any).nms):∃d∈cs,nm∈d.nms:=by grind[D.nms]
theorem kY{ins:Ins}{ρ:O->D}{σ:Nat->Option Blk}{nm:Nat}(h:nm∈(pv ρ σ ins).1.nms):
  (∃o∈BQ ins,nm∈(ρ o).nms)\/∃m cs d,σ m=some (.cells cs)/\d∈cs/\nm∈d.nms:=by
 have no:∀x:I,nm∈(D.i x).nms->False:=fun x h=>by grind[D.nms]
 have noa:nm∈(D.any).nms->False:=fun h=>by grind[D.nms]
 cases ins<;>simp only[pv,BQ]at h⊢
 case mov d x=>exact .inl ⟨x,by simp,h⟩
 case pick d c a b=>
  split at h
  ·rename_i t _;cases t
   ·exact .inl ⟨b,by simp,h⟩
   ·exact .inl ⟨a,by simp,h⟩
  ·exact(noa h).elim
 case load d x k ag=>
  split at h
  ·exact(no _ h).elim
  ·split at h
   ·rename_i nm' off e _ cs hg;simp only[gG]at h;split at h
    ·exact(no _ h).elim
    ·obtain⟨d,hd,hn⟩:=kX h;exact .inr ⟨nm',cs,d,hg,hd,hn⟩
   ·exact(noa h).elim
  ·split at h<;>first|exact(no _ h).elim|exact(noa h).elim
  ·exact(noa h).elim
 case fa d x off=>
  refine .inl ⟨x,by simp,?_⟩;split at h
  ·exact(no _ h).elim
  ·rename_i e;rw[e];exact h
  ·rename_i e;rw[e];exact h
  ·exact(noa h).elim
 case iaa d x i k len=>
  refine .inl ⟨x,by simp,?_⟩;split at h
  ·exact(no _ h).elim
  ·rename_i e _;rw[e];exact h
  ·rename_i e _;rw[e];exact h
  ·exact(noa h).elim
 case ia d s i k=>
  split at h
  ·exact(no _ h).elim
  ·rename_i e _;refine .inl ⟨s,by simp,?_⟩;split at h
   ·rw[e];exact h
   ·exact(noa h).elim
  ·exact(noa h).elim
 case slc d x lo hi k=>
  split at h
  ·split at h<;>first|exact(no _ h).elim|exact(noa h).elim
  ·rename_i e;refine .inl ⟨x,by simp,?_⟩;split at h
   ·split at h
    ·rw[e];exact h
    ·exact(noa h).elim
   ·split at h
    ·rw[e];exact h
    ·exact(noa h).elim
   ·exact(noa h).elim
  ·exact(noa h).elim
 case ext d x i=>
  split at h
  ·exact(no _ h).elim
  ·rename_i cs e;refine .inl ⟨x,by simp,?_⟩;rw[e];simp only[D.nms,List.mem_flatMap];by_cases hi:i<cs.length
   ·refine⟨cs[i],List.getElem_mem hi,?_⟩;have e2:cs.getD i .any=cs[i]:=by grind
    rw[e2]at h;cases hc:cs[i]<;>rw[hc]at h<;>first|exact h|simp[Cp.toD,D.nms]at h
   ·have e2:cs.getD i .any=.any:=by simp[List.getD,List.getElem?_eq_none (Nat.le_of_not_lt hi)]
    rw[e2]at h;simp[Cp.toD,D.nms]at h
  ·exact(noa h).elim
 case mkfn d f first caps=>
  split at h
  ·rename_i a b e1 e2;have key:∀(l:List O) (cs:List Cp),(l.mapM fun o=>CF (ρ o))=some cs->nm∈cs.flatMap Cp.nms->∃o∈l,nm∈(ρ o).nms:=by
    intro l
    induction l with
    |nil=>intro cs h1 h2;simp at h1;subst h1;simp at h2
    |cons x l ih=>
     intro cs h1 h2;rw[List.mapM_cons]at h1;cases q1:CF (ρ x)with
     |none=>simp[q1]at h1
     |some c=>
      cases q2:(l.mapM fun o=>CF (ρ o))with
      |none=>simp[q1,q2]at h1
      |some cs'=>
       simp[q1,q2]at h1;subst h1;simp only[List.flatMap_cons,List.mem_append]at h2;rcases h2 with h2|h2
       ·refine⟨x,by simp,?_⟩;cases hx:ρ x<;>simp[hx,CF]at q1<;>subst q1<;>simp[Cp.nms]at h2;simp[D.nms,h2]
       all_goals grind
   unfold fnD at h;split at h
   ·exact(no _ h).elim
   ·simp only[D.nms,List.mem_append]at h;rcases h with h|h
    ·obtain⟨o,ho,hn⟩:=key _ _ e1 h;exact .inl ⟨o,by simp[ho],hn⟩
    ·obtain⟨o,ho,hn⟩:=key _ _ e2 h;exact .inl ⟨o,by simp[ho],hn⟩
  ·exact(noa h).elim
 all_goals first
  |exact(noa h).elim
  |exact(no _ h).elim
  |(split at h<;>first|exact(noa h).elim|exact(no _ h).elim|(split at h<;>first|exact(noa h).elim|exact(no _ h).elim|(split at h<;>first|exact(noa h).elim|exact(no _ h).elim)))
theorem kZ{x d:D}(hd:d∈Bh x){nm:Nat}(h:nm∈d.nms):nm∈x.nms:=by
 cases x with
 |i y=>cases y<;>simp[Bh]at hd<;>first|(subst hd;exact h)|(obtain⟨z,_,rfl⟩:=hd;simp[D.nms]at h)
 |_=>simp[Bh]at hd;subst hd;exact h
theorem lg{α:Type}{cs us:List α}{off:Nat}{x:α}(h:x∈setL cs off us):x∈cs\/x∈us:=by grind[setL]
theorem lh{g:X}{st:St}(hc:Jv st)(hp:Ck P GL sn g st):Jv (BD GL g st):=by
 obtain⟨e,s⟩:=Gu hp;have mono:∀m,names st.sto m->names (BD GL g st).sto m:=fun m hm=>by
  simp only[names]at hm⊢;rw[s];unfold DO;split
  ·split;rfl;exact hm
  ·exact hm
 constructor
 ·intro i nm hn;rw[e]at hn;unfold Ca at hn;split at hn
  ·rename_i d v jo;split at hn
   ·unfold CO at jo;unfold Ck at hp;split at hp
    ·exact hp.elim
    ·rename_i hg;simp only[hg]at jo;have key:∀ins:Ins,(BW ins).isSome->nm∈(pv (A8 GL st) (Aa st.sto) ins).1.nms->names (BD GL g st).sto nm:=fun ins hd h=>by
      rcases kY h with⟨o,_,ho⟩|⟨m,cs,d,hm,hd,hdn⟩
      ·exact mono _ (QN (GL:=GL) hc ho)
      ·exact mono _ (hc.2 m _ hm nm (List.mem_flatMap.2 ⟨d,hd,hdn⟩))
     cases vw:g.1.ins<;>rw[vw]at jo hp<;>simp only[Ew,BW,reduceCtorEq,Option.some.injEq,Prod.mk.injEq]at jo
     case call=>split at jo<;>cases jo;simp[D.nms]at hn
     case callv=>split at jo<;>cases jo;simp[D.nms]at hn
     case alloc d zs=>
      obtain⟨rfl,rfl⟩:=jo;simp[D.nms,Ref.nm]at hn;subst hn;simp only[names];rw[s];simp[DO,gt,hg,vw,wrI]
     all_goals
      obtain⟨_,rfl⟩:=jo;exact key _ (by simp[BW]) hn
    ·rename_i hg;simp only[hg]at jo;split at jo<;>cases jo;simp[D.nms]at hn
   ·exact mono _ (hc.1 i nm hn)
  ·exact mono _ (hc.1 i nm hn)
 ·intro nm b qt m hm;rw[s]at qt;unfold DO at qt;split at qt
  ·rename_i d' bl hw;split at qt
   ·cases qt;unfold gt at hw;split at hw
    ·cases vw:g.1.ins<;>rw[vw]at hw<;>simp only[wrI,reduceCtorEq]at hw
     case alloc d2 zs=>
      cases hw;simp only[Blk.nms,List.mem_flatMap]at hm;obtain⟨d,hd,hm⟩:=hm;obtain⟨z,_,rfl⟩:=List.mem_map.1 hd;simp[D.nms]at hm
     case store ox ov k=>
      split at hw
      ·rename_i nm2 off e2;split at hw
       ·rename_i cs2 hg2;cases hw;simp only[Blk.nms,List.mem_flatMap]at hm;obtain⟨d,hd,hm⟩:=hm;rcases lg hd with h|h
        ·exact mono _ (hc.2 _ _ hg2 m (List.mem_flatMap.2 ⟨d,h,hm⟩))
        ·exact mono _ (QN (GL:=GL) hc (kZ h hm))
       ·cases hw
      ·cases hw
     case mupd ox oq ov ls=>
      split at hw
      ·split at hw
       ·cases hw;simp[Blk.nms]at hm
       ·cases hw
      ·cases hw
    ·cases hw
   ·exact mono _ (hc.2 nm b qt m hm)
  ·exact mono _ (hc.2 nm b qt m hm)
theorem XI:∀(l:List X) (g:X) (r:List X) (st:St) (K:St->Prop),Jv st->(∀x∈l,O5 x.1 g.1=true)->Ef P GL sn (l++g::r) st K->Ck P GL sn g st/\Ef P GL sn (l++r) (BD GL g st) (fun u=>∃v,K v/\OF v u)
 |[],g,r,st,K,hc,hi,h=>⟨h.1,KB r (fun u hu=>⟨u,hu,OF.refl u⟩) h.2⟩
 |x::l,g,r,st,K,hc,hi,h=>by obtain⟨h1,h2⟩:=h;obtain⟨h3,h4⟩:=XI l g r (BD GL x st) K (lh hc h1) (fun y hy=>hi y (List.mem_cons_of_mem _ hy)) h2;obtain⟨h5,h6,h7⟩:=swap hc (hi x (List.mem_cons_self)) h1 h3;refine⟨h5,h6,?_⟩;refine KB (l++r) ?_ (QL (l++r) h7.symm h4);rintro u ⟨v,⟨v',hk,hs⟩,hs'⟩;exact⟨v',hk,hs.trans hs'⟩
end
end Go.Dl
end
section
namespace Go.Dl
open Go Go.RowKit
variable{g:Nat->Nat}
def Qs(f:Nat->Nat):Ref->Ref
 |.loc nm off=>.loc (f nm) off
 |.sl nm k lo hi=>.sl (f nm) k lo hi
 |.lel nm k row off=>.lel (f nm) k row off
 |.mp nm=>.mp (f nm)
 |.it nm=>.it (f nm)
def mpC(f:Nat->Nat):Cp->Cp
 |.ref r=>.ref (Qs f r)
 |c=>c
def J8(f:Nat->Nat):D->D
 |.ref r=>.ref (Qs f r)
 |.fn g first caps=>.fn g (first.map (mpC f)) (caps.map (mpC f))
 |.tup cs=>.tup (cs.map (mpC f))
 |x=>x
def MR(f:Nat->Nat):Blk->Blk
 |.cells cs=>.cells (cs.map (J8 f))
 |.lp l q cs=>.lp l q (cs.map (J8 f))
 |.gmap ls clk es=>.gmap ls clk (es.map fun e=>(e.1,e.2.1,J8 f e.2.2))
 |x=>x
def J5(f:Nat->Nat):List (Nat×Blk)->List (Nat×Blk)
 |[]=>[]
 |(m,x)::r=>(f m,MR f x)::J5 f r
section
variable {P:Program}{GL:List (Nat×List I)}{n:Nat}{S:Sh}{M:Mem}{μ μ':Place}{N N':Nat->Prop}{f:Nat->Nat}{sto:List (Nat×Blk)}{w:World}{nm:Nat}{st:St}{a:Act}
theorem BU.mp(hN:∀m,N m->N' (f m))(hμ:∀m,N m->μ' (f m)=μ m){r:Ref}{v:Value}(h:BU μ N r v):BU μ' N' (Qs f r) v:=by cases r<;>exact⟨hN _ h.1,by rw[hμ _ h.1];exact h.2⟩
theorem Ci.mp(hN:∀m,N m->N' (f m))(hμ:∀m,N m->μ' (f m)=μ m){x:Cp}{v:Value}(h:Ci M μ N x v):Ci M μ' N' (mpC f x) v:=by
 cases x with
 |ref r=>exact BU.mp hN hμ h
 |_=>exact h
theorem AI.mp(hN:∀m,N m->N' (f m))(hμ:∀m,N m->μ' (f m)=μ m){x:D}{v:Value}(h:AI M μ N x v):AI M μ' N' (J8 f x) v:=by
 cases x with
 |ref r=>exact BU.mp hN hμ h
 |fn g first caps=>
  obtain⟨va,vb,e,hy,h1,h2⟩:=h;have key:∀{l:List Cp} {vs:List Value},Ed M μ N l vs->Ed M μ' N' (l.map (mpC f)) vs:=fun h=>⟨by simpa using h.1,fun j a b=>by rw[List.getElem_map];exact(h.2 j (by simpa using a) b).mp hN hμ⟩
  exact⟨va,vb,e,hy.imp id (fun q=>by rw[q];rfl),key h1,key h2⟩
 |tup cs=>obtain⟨vs,e,h1⟩:=h;exact⟨vs,e,by simpa using h1.1,fun j a b=>by rw[List.getElem_map];exact(h1.2 j (by simpa using a) b).mp hN hμ⟩
 |_=>exact h
theorem AQ.mp{S:Nat->Prop}(hN:∀m,N m->N' (f m))(hμ:∀m,N m->μ' (f m)=μ m){x:Blk}(hn:N nm)(h:AQ S M μ N w nm x):AQ S M μ' N' w (f nm) (MR f x):=by
 cases x with
 |cells cs=>obtain⟨bb,vs,t,e,ho,hs,hr⟩:=h;exact⟨bb,vs,t,by rw[hμ _ hn];exact e,ho,by simpa using hs,fun j h h'=>by rw[List.getElem_map];exact(hr j (by simpa using h) h').mp hN hμ⟩
 |lp l q cs=>obtain⟨vs,e,ho,hs,hr⟩:=h;exact⟨vs,by rw[hμ _ hn];exact e,ho,by simpa using hs,fun j h h'=>by rw[List.getElem_map];exact(hr j (by simpa using h) h').mp hN hμ⟩
 |gmap ls clk es=>
  obtain⟨bb,xs,e,ho,q1,q2,q3⟩:=h;exact⟨bb,xs,by rw[hμ _ hn];exact e,ho,⟨by simpa using q1.1,fun j a b=>by rw[List.getElem_map];have:=q1.2 j (by simpa using a) b;exact⟨this.1,this.2.1,this.2.2.mp hN hμ⟩⟩,q2,
   fun e he=>by obtain⟨e0,he0,rfl⟩:=List.mem_map.1 he;exact q3 e0 he0⟩
 |_=>simp only[MR,AQ]at h⊢;rw[hμ _ hn];exact h
theorem Tx(hinj:∀a b,names sto a->names sto b->f a=f b->a=b){m:Nat}{b':Blk}(h:Aa (J5 f sto) m=some b'):∃o b,Aa sto o=some b/\f o=m/\b'=MR f b:=by
 induction sto with
 |nil=>cases h
 |cons x r ih=>grind[J5,Aa,Gq]
theorem G7{m:Nat}(h:names sto m):names (J5 f sto) (f m):=by
 induction sto with
 |nil=>simp[names,Aa]at h
 |cons x r ih=>grind[names,Aa,J5]
theorem Ty(hinj:∀a b,names sto a->names sto b->f a=f b->a=b){m:Nat}(h:names (J5 f sto) m):∃o,names sto o/\f o=m:=by obtain⟨b',hb⟩:=Option.isSome_iff_exists.1 h;grind[Tx,names]
theorem StoOk.mp{S S':Nat->Prop}(h:StoOk S M μ sto w)(hinj:∀a b,names sto a->names sto b->f a=f b->a=b)(hμ:∀m,names sto m->μ' (f m)=μ m)(hS:∀b,S' b↔S b):StoOk S' M μ' (J5 f sto) w:=by
 obtain rfl:S'=S:=funext fun b=>propext (hS b)
 refine⟨h.sub,fun nm b' hb=>?_,fun nm nm' k k' ji h1 h2 hk jk=>?_,h.low⟩
 ·obtain⟨o,b,h1,rfl,rfl⟩:=Tx hinj hb;exact(h.blk o b h1).mp (fun m hm=>G7 hm) hμ (by simp[names,h1])
 ·obtain⟨o,g1,rfl⟩:=Ty hinj h1;obtain⟨o',g2,rfl⟩:=Ty hinj h2;rw[hμ _ g1]at hk;rw[hμ _ g2]at jk;exact h.sep o o' k k' (fun e=>ji (by rw[e])) g1 g2 hk jk
theorem Dq.mp(hN:∀m,N m->N' (f m))(hμ:∀m,N m->μ' (f m)=μ m){xs:List D}{vs:List Value}(h:Dq M μ N xs vs):Dq M μ' N' (xs.map (J8 f)) vs:=
 ⟨by simpa using h.1,fun j a b=>by rw[List.getElem_map];exact(h.2 j (by simpa using a) b).mp hN hμ⟩
theorem Ex{f:Nat->Nat}(h:∀m,g (f m)=m)(x:D):J8 g (J8 f x)=x:=by
 have hR:∀r,Qs g (Qs f r)=r:=fun r=>by cases r<;>simp[Qs,h]
 have hC:∀l:List Cp,l.map (mpC g ∘ mpC f)=l:=fun l=>by
  induction l with
  |nil=>rfl
  |cons c l ih=>rw[List.map_cons,ih];congr 1;cases c<;>simp[mpC,hR]
 cases x<;>simp[J8,hR,hC]
theorem li{f:Nat->Nat}(h:∀m,g (f m)=m)(x:Blk):MR g (MR f x)=x:=by
 cases x with
 |cells cs=>simp only[MR,List.map_map];congr 1;induction cs with
  |nil=>rfl
  |cons c l ih=>rw[List.map_cons,ih];simp[Ex h]
 |lp l q cs=>simp only[MR,List.map_map];congr 1;induction cs with
  |nil=>rfl
  |cons c l ih=>rw[List.map_cons,ih];simp[Ex h]
 |gmap ls clk es=>simp only[MR,List.map_map];congr 1;induction es with
  |nil=>rfl
  |cons c l ih=>rw[List.map_cons,ih];simp[Ex h]
 |_=>rfl
theorem FQ{f:Nat->Nat}(h:∀m,g (f m)=m)(s:List (Nat×Blk)):J5 g (J5 f s)=s:=by
 induction s with
 |nil=>rfl
 |cons x r ih=>obtain⟨k,b⟩:=x;simp[J5,h,li h,ih]
theorem MC.ren(hfg:∀m,g (f m)=m)(hgf:∀m,f (g m)=m){fn:FuncId}{args:List D}{mv:List Nat}{R:D->List (Nat×Blk)->Prop}(h:MC P GL fn args sto mv R):
  MC P GL fn (args.map (J8 f)) (J5 f sto) (mv.map f) (fun r s=>R (J8 g r) (J5 g s)):=by
 intro M μ w vs h1 h2 h3;have inj:∀a b,f a=f b->a=b:=fun a b e=>by grind
 have injg:∀a b,g a=g b->a=b:=fun a b e=>by grind
 have hn:∀m,names (J5 f sto) m->names sto (g m):=fun m hm=>by grind[Ty]
 have hS:∀b,(AN (fun m=>μ (f m)) sto w).p b↔(AN μ (J5 f sto) w).p b:=fun b=>
  ⟨fun hb=>⟨hb.1,fun m hm=>by have:=hb.2 _ (hn m hm);simpa[hgf]using this⟩,fun hb=>⟨hb.1,fun m hm=>hb.2 _ (G7 hm)⟩⟩
 have k1:StoOk (AN (fun m=>μ (f m)) sto w) M (fun m=>μ (f m)) sto w:=by have:=h1.mp (f:=g) (μ':=fun m=>μ (f m)) (fun a b _ _ e=>injg a b e) (fun m _=>by simp[hgf]) hS;grind[FQ]
 have k3:Dq M (fun m=>μ (f m)) (names sto) args vs.toList:=by
  have:=h3.mp (f:=g) (μ':=fun m=>μ (f m)) (N':=names sto) hn (fun m _=>by simp[hgf]);rw[List.map_map]at this;have e:args.map (J8 g ∘ J8 f)=args:=by
   have:J8 g ∘ J8 f=id:=funext fun x=>Ex hfg x
   simp_all
  grind
 refine(h M _ w vs k1 h2 k3).mono ?_;rintro v w' ⟨r,s',M',μ',hR,q1,q2,q3,q4,q5⟩;have hSe:(AN (fun m=>μ (f m)) sto w).p=(AN μ (J5 f sto) w).p:=funext fun b=>propext (hS b)
 rw[hSe]at q3 q4;refine⟨J8 f r,J5 f s',M',fun m=>μ' (g m),by simp only[Ex hfg,FQ hfg];exact hR,q1.mp (fun a b _ _ e=>inj a b e) (fun m _=>by simp[hfg]) (fun b=>(hS b).symm),
  q2.mp (fun m hm=>G7 hm) (fun m _=>by simp[hfg]),q3,q4,fun m hm hmv=>?_⟩
 have:=q5 (g m) (hn m hm) (fun hc=>hmv (List.mem_map.2 ⟨g m,hc,hgf m⟩));simpa[hgf]using this
def sw(a b m:Nat):Nat:=if m=a then b else if m=b then a else m
def MS:List (Nat×Nat)->Nat->Nat
 |[],m=>m
 |(a,b)::r,m=>sw a b (MS r m)
def J6:List (Nat×Nat)->Nat->Nat
 |[],m=>m
 |(a,b)::r,m=>J6 r (sw a b m)
theorem XJ(a b m:Nat):sw a b (sw a b m)=m:=by grind[sw]
theorem Jw:∀(l:List (Nat×Nat)) (m:Nat),J6 l (MS l m)=m
 |[],m=>rfl
 |(a,b)::r,m=>by simp only[J6,MS,XJ];exact Jw r m
theorem Cb:∀(l:List (Nat×Nat)) (m:Nat),MS l (J6 l m)=m
 |[],m=>rfl
 |(a,b)::r,m=>by simp only[J6,MS];rw[Cb r,XJ]
theorem MC.as(l:List (Nat×Nat)){fn:FuncId}{args:List D}{mv:List Nat}{R:D->List (Nat×Blk)->Prop}(h:MC P GL fn args sto mv R):
  MC P GL fn (args.map (J8 (MS l))) (J5 (MS l) sto) (mv.map (MS l)) (fun r s=>R (J8 (J6 l) r) (J5 (J6 l) s)):=h.ren (Jw l) (Cb l)
theorem Tz{l:List Nat}{x:Nat}(h:Ep (x::l)=true):x∉l/\Ep l=true:=by grind[Ep]
def Eg:Nat->List D->List (Nat×D)
 |_,[]=>[]
 |i,x::xs=>(i,x)::Eg (i+1) xs
theorem TA:∀(xs:List D) (vs:List Value) (i:Nat),Dq M μ N xs vs->∀s (v:Value),(∀h:s-i<vs.length,i<=s->v=vs[s-i])->AI M μ N (CW (Eg i xs) s) v
 |[],vs,i,h,s,v,hv=>trivial
 |x::xs,vs,i,h,s,v,hv=>by
  simp only[Eg,CW];split
  ·rename_i e;subst e;have hl:0<vs.length:=by have:=h.1;simp at this;omega
   rw[hv (by simpa using hl) (Nat.le_refl _)];simp only[Nat.sub_self];have:=h.2 0 (by simp) hl;simpa using this
  ·rename_i ji;cases vs with
   |nil=>have:=h.1;simp at this
   |cons u us=>refine TA xs us (i+1) ⟨by simpa using h.1,fun j a b=>by have:=h.2 (j+1) (by simpa using a) (by simpa using b);simpa using this⟩ s v (fun hl jj=>?_);grind
end
end Go.Dl
end
section
namespace Go.Dl
open Go Go.RowKit
variable{st:St}{K K':St->Prop}{M:Mem}{w w':World}{a:Act}{μ:Place}{ins:Ins}{sn:List Nat}{o:Oper}{d:Nat}{zero:I}{ok:Bool}
inductive IR where
 |skip
 |reg (gs:List GI)
 |dreg (sn:List Nat) (gs:List GI) (post:List Nat)
 |cut (a b:IR)
 |cond (c:O) (a b:IR)
 |block (id:Nat) (c:IR)
 |loop (c:IR)
 |exit (id:Nat)
 |ret
 |rf (n:Nat) (og:O) (ps:List Nat) (ia ib:IR)
inductive J where
 |skip
 |rg (gs:List GI)
 |dr (sn:List Nat) (fz:List O) (gs:List GI) (post:List Nat)
 |sq (ks:List Nat) (a b:J)
 |ct (ks:List Nat) (a b:J)
 |cond (c:O) (a b:J)
 |block (id:Nat) (c:J)
 |lp (c:J)
 |exit (id:Nat)
 |ret
 |rf (n:Nat) (og:O) (ps:List Nat) (a b:J)
def J.ir:J->IR
 |.skip=>.skip
 |.rg gs=>.reg gs
 |.dr sn _ gs post=>.dreg sn gs post
 |.sq _ a b=>.cut a.ir b.ir
 |.ct _ a b=>.cut a.ir b.ir
 |.cond c a b=>.cond c a.ir b.ir
 |.block id c=>.block id c.ir
 |.lp c=>.loop c.ir
 |.exit id=>.exit id
 |.ret=>.ret
 |.rf n og ps a b=>.rf n og ps a.ir b.ir
def mkD(b:Nat):Deferred:={target:=.collected b,args:=#[]}
structure Grow(S S':Sh)(w':World):Prop where
 p:∀b,S.p b->S'.p b
 q:S'.q=S.q
 ds:∃bs:List Nat,S'.ds=bs.map mkD++S.ds/\bs.Nodup/\∀b∈bs,S'.p b/\¬S.p b/\w'.heap[b]? =some (.deferred (some []))
theorem Grow.refl(S:Sh)(w:World):Grow S S w:=⟨fun _ h=>h,rfl,[],rfl,List.nodup_nil,by simp⟩
theorem Grow.trans{S S' S'':Sh}{w'':World}(h:Grow S S' w')(k:Grow S' S'' w'')(hk:Keeps S'.p w' w''):Grow S S'' w'':=by
 obtain⟨bs,e,nd,hb⟩:=h.ds;obtain⟨cs,e',nd',hc⟩:=k.ds;refine⟨fun b hb=>k.p b (h.p b hb),k.q.trans h.q,cs++bs,by rw[e',e];simp,?_,?_⟩
 ·rw[List.nodup_append];refine⟨nd',nd,fun x hx y hy hxy=>?_⟩;subst hxy;exact(hc x hx).2.1 (hb x hy).1
 ·intro b hm;rcases List.mem_append.1 hm with hm|hm
  ·obtain⟨h1,h2,h3⟩:=hc b hm;exact⟨h1,fun hp=>h2 (h.p b hp),h3⟩
  ·obtain⟨h1,h2,h3⟩:=hb b hm;exact⟨k.p b h1,h2,(hk.block b h1).trans h3⟩
def FS(GL:List (Nat×List I))(n:Nat)(S:Sh)(M:Mem)(w:World)(st':St)(a':Act)(w':World):Prop:=
 ∃S',Grow S S' w'/\∃M' μ',Rel GL n S' M' μ' st' a' w'/\MExt S.p M M'/\Keeps S.p w w'
theorem MExt.less{S S':Nat->Prop}{M':Mem}(h:MExt S M M')(hs:∀b,S' b->S b):MExt S' M M':=⟨h.le,fun b hb=>h.old b (hs b hb)⟩
section
variable {GL:List (Nat×List I)}{n:Nat}{S S':Sh}
theorem gg.c{st':St}{a':Act}(h:gg GL n S M w st' a' w'):FS GL n S M w st' a' w':=by obtain⟨M',μ',h,hm,hb⟩:=h;exact⟨S,Grow.refl S _,M',μ',h,hm,hb⟩
theorem FS.of(h:Rel GL n S M μ st a w):FS GL n S M w st a w:=(gg.of h).c
theorem FS.trans{M':Mem}{w'':World}{st'':St}{a'':Act}(hg:Grow S S' w')(hm:MExt S.p M M')(hb:Keeps S.p w w')(k:FS GL n S' M' w' st'' a'' w''):FS GL n S M w st'' a'' w'':=by obtain⟨S2,g2,M2,μ2,h2,hm2,ko⟩:=k;exact⟨S2,hg.trans g2 ko,M2,μ2,h2,hm.trans (hm2.less hg.p),hb.trans (ko.mono hg.p)⟩
end
def FU(GL:List (Nat×List I))(n:Nat)(S:Sh)(M:Mem)(w:World)(K:Exit->St->Prop):Exit->Act->World->Prop:=
 fun e a' w'=>∃st',K e st'/\FS GL n S M w st' a' w'
def FR(r:Option Nat):Fence:={Fence.wide with round:=r}
theorem lj:FR none=Fence.wide:=rfl
section
variable (P:Program)(GL:List (Nat×List I))(n:Nat)(mu:List Nat)
def Iq(ops:Array Oper)(o:Oper):Option GI:=
 let ins:=(Io P GL n mu o).getD (.no o.dst)
 match o.guard with
 |none=>some ⟨none,ins⟩
 |some (j,want)=>match(ops[j]?).bind (·.dst)with
  |some t=>if t<n/\ins.dst=o.dst/\KA n o=true then some ⟨some (t,want),ins⟩else none
  |none=>none
def HJ(ops:Array Oper):Option (List GI):=ops.toList.mapM (Iq P GL n mu ops)
def XK(gs:List GI):List Nat:=gs.filterMap fun g=>match g.ins with|.store (.t s) _ _=>some s|_=>none
def O6(ins:Ins):Bool:=match ins with
 |.call _ _ _|.callv _ _ _|.alloc _ _|.mupd _ _ _ _|.store _ _ _=>true
 |ins=>(BW ins).isSome
def KD:Ins->Bool
 |.app _ _ _ _ _ _=>true
 |.bsl _ _ _ _=>true
 |.bso _ _ _ _=>true
 |.callf _ _ _=>true
 |.callvf _ _ _=>true
 |.ment _ _ _ _ _ _ _=>true
 |.callo _ _ _=>true
 |_=>false
def CP:Ins->List O
 |.app _ _ _ _ x y=>[x,y]
 |.ment _ x k _ _ _ _=>[x,k]
 |.callo _ _ args=>args
 |.callf _ _ args=>args
 |.callvf _ f args=>f::args
 |.bsl _ _ _ ps=>ps
 |.bso _ _ _ ps=>ps
 |_=>[]
def XL(rt:List (Nat×Nat))(gs:List GI):List Nat:=(XK gs).map fun s=>match rt.find? (·.1==s)with|some p=>p.2|none=>s
def lk(rt:List (Nat×Nat))(gs:List GI):List Nat:=(XK gs).filter fun s=>!mu.contains s&&!(rt.any (·.1==s))
def No:Nat:=1000000
def WA(gs:List GI)(i:Nat):GI:=gs.getD i ⟨none,.no none⟩
def KE(g:GI):List Nat:=match g.ins.dst with|some d=>[d]|none=>[]
def toF:Ins->Ins
 |.call d f args=>.callf d f args
 |.callv d f args=>.callvf d f args
 |.bsn d e k (p::ps)=>.bsl d e k (p::ps)
 |ins=>ins
def gF(gs:List GI)(i:Nat):GI:=⟨(WA gs i).gd,toF (WA gs i).ins⟩
def Ir(g:GI):List Nat:=match g.gd with|some (s,_)=>[s]|none=>[]
def D3(sn:List Nat):List Nat:=(sn.filter fun q=>decide (No<=q)).map fun q=>q-No
def ll(ql:List Nat)(p0 p:Nat):List Nat:=(List.range' p0 (p-p0)).filter fun i=>!ql.contains i
def chQ(ql:List Nat)(p0 p:Nat):List Nat:=(List.range' p0 (p-p0)).filter fun i=>ql.contains i
def It(g:GI):List Nat:=match g.ins with
 |.ext _ _ _=>Ir g
 |_=>C5 g
def L0(ins:Ins):Bool:=match ins with
 |.call _ _ _|.callv _ _ _=>true
 |.alloc _ _|.store _ _ _|.mupd _ _ _ _=>false
 |ins=>(BW ins).isSome
def G8:IR->Bool
 |.rf _ _ _ _ _=>false
 |.cut a b=>G8 a&&G8 b
 |.cond _ a b=>G8 a&&G8 b
 |.block _ c=>G8 c
 |.loop c=>G8 c
 |_=>true
def muD:List Nat:=9000::mu.filter fun q=>Nat.ble 5000 q
def EV(ops:Array Oper):List (List Nat):=ops.toList.map fun o=>(o.after.toList.filter fun e=>Region.binds .any e).map (·.on)
def O7(ds:List (List Nat)):List (List Nat):=ds.foldl (fun acc d=>acc++[(d++d.flatMap fun j=>acc.getD j []).eraseDups]) []
def ckE(ds:List (List Nat))(n:Nat):Bool:=(List.range n).all fun i=>(ds.getD i []).all fun d=>Nat.blt d i
def ckA(ds anc:List (List Nat))(n:Nat):Bool:=(List.range n).all fun i=>(anc.getD i []).all fun j=>(ds.getD i []).any fun d=>Nat.beq d j||(anc.getD d []).contains j
def ckB(anc:List (List Nat))(n p:Nat):Bool:=(List.range n).all fun i=>Nat.blt i p||(List.range p).all fun j=>(anc.getD i []).contains j
def ckS(ds:List (List Nat))(p0 p1:Nat):Bool:=(List.range p1).all fun i=>Nat.ble i p0||(ds.getD i []).contains (i-1)
def QO(anc:List (List Nat))(gs gs':List GI)(ql us:List Nat)(p0 p1:Nat):Bool:=
 let X:=ll ql p0 p1
 let Q:=chQ ql p0 p1
 (X.all fun i=>O6 (WA gs i).ins&&X.all fun j=>Nat.ble i j||((anc.getD i []).contains j||O5 (WA gs j) (WA gs i)))&&
 (Q.isEmpty||(((X.filter fun i=>Q.any fun q=>!(anc.getD q []).contains i).all fun i=>(It (WA gs i)++KE (WA gs i)).all us.contains)
  &&(Q.all fun q=>KD (gF gs' q).ins&&(gF gs' q).ins.dst.isSome&&((KE (gF gs' q)).all fun d=>!us.contains d)&&(Q.all fun r=>Nat.ble r q||(anc.getD r []).contains q)
   &&X.all fun i=>(anc.getD q []).contains i||(L0 (WA gs i).ins&&((KE (gF gs' q)).all fun d=>!(C5 (WA gs i)).contains d)&&(KE (WA gs i)).all fun d=>!((CP (gF gs' q).ins).flatMap Gt++Ir (gF gs' q)).contains d))
  &&X.all fun i=>(KE (WA gs i)).all fun d=>!(C5 (WA gs i)).contains d&&X.all fun j=>Nat.ble i j||(!(C5 (WA gs j)).contains d&&!(KE (WA gs j)).contains d)))
def cutI(a:IR):IR->IR
 |.skip=>a
 |b=>.cut a b
def L1(n:Nat):List Nat->Nat
 |0::_|[]=>n
 |p::_=>p
def lr:List Nat->List Nat
 |[]=>[0]
 |_::l=>l
def XM(c:Bool)(rt:List (Nat×Nat))(ops:Array Oper)(gs gs':List GI)(p0 p1:Nat)(y:IR):List Nat->Option IR
 |0::_=>if(match c with|true=>ckS (EV ops) p0 p1|_=>true)=true then some (cutI (.reg ((gs'.take p1).drop p0)) y)else none
 |[]=>
  let G:=(gs.take p1).drop p0
  if(match c with|true=>QO (O7 (EV ops)) gs gs' [] (D3 (XL rt G)) p0 p1|_=>true)=true then some (cutI (.dreg (XL rt G) G (lk mu rt G)) y)else none
 |k::l=>if(match c with|true=>QO (O7 (EV ops)) gs gs' (l.take k) (D3 ((l.drop k).map (·+No))) p0 p1|_=>true)=true then some (cutI (.dreg ((l.drop k).map (·+No)) ((ll (l.take k) p0 p1).map (WA gs)++(chQ (l.take k) p0 p1).map (gF gs')) []) y)else none
def O8(c:Bool)(rt:List (Nat×Nat))(ops:Array Oper)(gs gs':List GI)(n:Nat):List (List Nat)->Nat->Option IR
 |[],p0=>if(match c with|true=>Nat.ble n p0|_=>true)=true then some .skip else none
 |h::r,p0=>if(match c with|true=>Nat.ble p0 (L1 n h)&&(Nat.beq (L1 n h) n||(Nat.ble (L1 n h) n&&ckB (O7 (EV ops)) n (L1 n h)))|_=>true)=true then
   (O8 c rt ops gs gs' n r (L1 n h)).bind fun y=>XM mu c rt ops gs gs' p0 (L1 n h) y (lr h)
  else none
def XN(k:Nat):List (Nat×List (List Nat))->List (List Nat)
 |[]=>[]
 |p::r=>if Nat.beq p.1 k then p.2 else XN k r
def comp(c:Bool)(rt:List (Nat×Nat))(h:List (Nat×List (List Nat))):Code->Option IR
 |.skip=>some .skip
 |.region i ops draw=>match(if draw then XN i h else[])with
  |[]=>if(match c with|true=>!draw||(P.follows .mixedOrders&&(ckE (EV ops) ops.size&&ckS (EV ops) 0 ops.size))|_=>true)=true then(HJ P GL n mu ops).map .reg else none
  |hs=>match HJ P GL n (muD mu) ops,HJ P GL n mu ops with
   |some gs,some gs'=>if(match c with|true=>P.follows .mixedOrders&&(ckE (EV ops) ops.size&&ckA (EV ops) (O7 (EV ops)) ops.size)|_=>true)=true then O8 mu c rt ops gs gs' ops.size hs 0 else none
   |_,_=>none
 |.seq a b=>match comp c rt h a,comp c rt h b with|some x,some y=>some (.cut x y)|_,_=>none
 |.cond x a b=>match cO GL x,comp c rt h a,comp c rt h b with|some oc,some a,some b=>some (.cond oc a b)|_,_,_=>none
 |.block id x=>(comp c rt h x).map (.block id)
 |.loop x=>(comp c rt h x).map .loop
 |.exit id=>some (.exit id)
 |.ret=>some .ret
 |.rangeFunc g ps x y=>match cO GL g,comp c rt h x,comp c rt h y with
  |some og,some ix,some iy=>if(G8 ix&&G8 iy&&ps.toList.all fun p=>Nat.blt p n)=true then some (.rf n og ps.toList ix iy)else none
  |_,_,_=>none
 |_=>none
def FV(id:Nat)(K:Exit->St->Prop):Exit->St->Prop
 |.exit id',s=>if id'=id then K .normal s else K (.exit id') s
 |e,s=>K e s
def lu{ι:Type}(F:ι->St)(μ:ι->Nat)(m:Nat)(K:Exit->St->Prop):Exit->St->Prop
 |.normal,s=>∃i,μ i<m/\Sub (F i) s
 |e,s=>K e s
def DP(sn:List Nat)(d:D):Prop:=∀nm∈d.nms,nm∉sn
def L3:Option Blk->Prop
 |none=>False
 |some b=>b.nms=[]
def L4(N:List Nat)(st:St):List Nat->Prop
 |[]=>True
 |m::r=>(N.contains m=false/\L3 (Aa st.sto m))/\L4 N st r
def Eh(N:List Nat)(st:St):List Nat->Prop
 |[]=>True
 |u::r=>L4 N st (Aj st.env u).nms/\Eh N st r
def gc(ins:Ins)(st:St):List Nat:=match ins with
 |.callf _ _ args=>oN GL st args
 |.callvf _ f args=>oN GL st (f::args)
 |ins=>(CP ins).flatMap fun o=>(A8 GL st o).nms
def Gv(sn:List Nat)(ins:Ins)(st:St)(K:St->Prop):Prop:=Eh (gc GL ins st) st (D3 sn)/\step P GL ins st K
def Ad(sn:List Nat)(ins:Ins)(st:St)(K:St->Prop):Prop:=
 match ins with
 |.call d f args=>(args.all fun o=>Ja (A8 GL st o))=true/\∃y,Is1 P GL f (args.map (A8 GL st)) y/\K (putO st d (.i y))
 |.callv d fo args=>Ja (A8 GL st fo)=true/\(args.all fun o=>Ja (A8 GL st o))=true/\match EQ (A8 GL st fo) (args.map (A8 GL st))with
  |some p=>∃y,Is1 P GL p.1 p.2 y/\K (putO st d (.i y))
  |none=>False
 |.alloc d zs=>step P GL (.alloc d zs) st K
 |.mupd ox oq ov ls=>step P GL (.mupd ox oq ov ls) st K
 |.store ox ov k=>(match A8 GL st ox with|.ref (.loc nm _)=>nm∈sn|_=>False)/\step P GL (.store ox ov k) st K
 |.load d x k ag=>DP sn (A8 GL st x)/\step P GL (.load d x k ag) st K
 |.ia d s i k=>(DP sn (A8 GL st s)/\DP sn (A8 GL st i))/\step P GL (.ia d s i k) st K
 |.slc d x lo hi k=>(∀o∈BQ (.slc d x lo hi k),DP sn (A8 GL st o))/\step P GL (.slc d x lo hi k) st K
 |.app d e k b x y=>Gv P GL sn (.app d e k b x y) st K
 |.bsl d e k ps=>Gv P GL sn (.bsl d e k ps) st K
 |.bso d e k ps=>Gv P GL sn (.bso d e k ps) st K
 |.callf d f args=>Gv P GL sn (.callf d f args) st K
 |.callvf d f args=>Gv P GL sn (.callvf d f args) st K
 |.ment d x key zero ls e k=>Gv P GL sn (.ment d x key zero ls e k) st K
 |.callo d f args=>Gv P GL sn (.callo d f args) st K
 |ins=>(BW ins).isSome=true/\step P GL ins st K
def evD(sn:List Nat):List GI->St->(St->Prop)->Prop
 |[],st,K=>K st
 |g::r,st,K=>
  match g.gd with
  |none=>Ad P GL sn g.ins st fun s=>evD sn r s K
  |some (s,want)=>gL (Aj st.env s) want (Ad P GL sn g.ins st fun s=>evD sn r s K) (evD sn r (BF g.ins st) K)
def Ey(e:Env):List Nat->List (Nat×D)
 |[]=>[]
 |s::r=>(s,Aj e s)::Ey e r
def prn(ks:List Nat)(s:St):St:=⟨.l (Ey s.env ks),s.sto⟩
def XO(S s:St):Prop:=S=s\/Sub S s\/∃ks,S=prn ks s
def KF(W:(Exit->St->Prop)->St->Prop)(K:Exit->St->Prop):Exit->St->Prop
 |.normal,s=>∃S,XO S s/\W K S
 |e,s=>K e s
theorem XP{W W':(Exit->St->Prop)->St->Prop}{K K':Exit->St->Prop}(hw:∀s,W K s->W' K' s)(hk:∀e s,K e s->K' e s):∀e s,KF W K e s->KF W' K' e s
 |.normal,s,⟨S,h,h1⟩=>⟨S,h,hw S h1⟩
 |.exit _,s,h|.goto _,s,h|.ret,s,h|.panic _,s,h|.outgrown,s,h=>hk _ s h
def L5(post:List Nat)(s:St):List Nat:=post.flatMap fun t=>(Aj s.env t).nms
inductive Jm where
 |none
 |ret
 |exit (id:Nat)
 deriving DecidableEq
def Jm.code:Jm->Option Code
 |.none=>Option.none
 |.ret=>some .ret
 |.exit id=>some (.exit id)
def Jm.ex:Jm->Exit
 |.none=>.normal
 |.ret=>.ret
 |.exit id=>.exit id
def Jm.go:Jm->Bool
 |.none=>true
 |_=>false
def SK(mv:List Nat)(l:List (Nat×Blk)):Bool:=((l.map (·.1)).all fun q=>(Nat.ble 5000 q&&Nat.blt q 5500)||(mv.contains q&&Nat.ble 5500 q&&Nat.blt q 6000))&&Qo l l&&Ep (l.map (·.1))
def okV(mv:List Nat):Bool:=mv.all fun q=>Nat.ble 5500 q&&Nat.blt q 6000
def Np(gf:FuncId)(caps:List I)(xs:List (List I)):Prop:=
 ∀(y:FuncId) (m:Nat->List (Nat×Blk)) (mv:List Nat) (N:Nat) (go:Nat->Bool),okV mv=true->(∀j,SK mv (m j)=true/\(m j).map (·.1)=(m 0).map (·.1))->
  N<=xs.length->(∀j,j+1<N->go j=true)->(N<xs.length->0<N/\go (N-1)=false)->
  (∀j,j<N->MC P GL y ((xs.getD j []).map .i) (m j) mv (fun r s=>r=.i (.bool (go j))/\s=m (j+1)))->
  MC P GL gf (.i (.fn y [] [])::caps.map .i) (m 0) mv (fun r s=>r=.i (.tup [])/\s=m N)
def Jx(gf:FuncId)(caps:List I)(ι:Type)(i0:ι)(Nx:ι->List I->ι->Prop)(Fin:ι->Prop):Prop:=
 ∀(y:FuncId) (m:ι->List (Nat×Blk)) (mv:List Nat) (stop:ι->Bool),okV mv=true->stop i0=false->(∀i,SK mv (m i)=true/\(m i).map (·.1)=(m i0).map (·.1))->
  (∀i x i',Nx i x i'->stop i=false->MC P GL y (x.map .i) (m i) mv (fun r s=>r=.i (.bool (!stop i'))/\s=m i'))->
  MC P GL gf (.i (.fn y [] [])::caps.map .i) (m i0) mv (fun r s=>r=.i (.tup [])/\∃i,(stop i=true\/Fin i)/\s=m i)
theorem XQ(stop:Nat->Bool):∀L:Nat,∃N,N<=L/\(∀j,j<N->stop j=false)/\(N=L\/stop N=true)
 |0=>⟨0,Nat.le_refl _,fun j h=>absurd h (Nat.not_lt_zero j),.inl rfl⟩
 |L+1=>by obtain⟨N,h1,h2,h3⟩:=XQ stop L;grind
theorem Np.g{gf:FuncId}{caps:List I}{xs:List (List I)}(h:Np P GL gf caps xs):Jx P GL gf caps Nat 0 (fun j x j'=>j<xs.length/\x=xs.getD j []/\j'=j+1) (fun j=>j=xs.length):=by
 intro y m mv stop hV h0 hm hy;obtain⟨N,h1,h2,h3⟩:=XQ stop xs.length;refine(h y m mv N (fun j=>!stop (j+1)) hV hm h1 (fun j hj=>by simp only[h2 (j+1) hj];rfl) (fun jn=>?_) (fun j hj=>hy j _ (j+1) ⟨by omega,rfl,rfl⟩ (h2 j hj))).mono ?_
 all_goals grind
def lv(nx:List (Nat×Blk))(j:Jm):Exit->St->Prop:=fun e s=>e=j.ex/\∃l,Br nx (frzNs l s).sto
def XR(W:(Exit->St->Prop)->St->Prop)(K:Exit->St->Prop):Exit->St->Prop
 |.normal,s=>KF W K .normal s
 |_,_=>False
def Fm:List Nat->List I->List (Nat×D)->List (Nat×D)
 |p::ps,x::xs,e=>Fm ps xs ((p,.i x)::e)
 |_,_,e=>e
def Iu(f:List (Nat×Nat)):Nat->List D->Env->Prop
 |_,[],_=>True
 |i,x::xs,e=>(x=.any\/Aj e i=J8 (J6 f) x)/\Iu f (i+1) xs e
def okL(l:List (Nat×Blk))(L:List D):Bool:=L.all fun x=>OL l x.nms&&x.nms.all fun q=>Nat.ble 5000 q&&Nat.blt q 5499
def KG(l:List (Nat×Blk)):Bool:=(l.map (·.1)).all fun q=>!(q==5499)
def TB(st:St)(mv:List Nat)(m0 mN:List (Nat×Blk))(K:St->Prop):Prop:=
 (∀nm∈(Bj 999 mN).map (·.1),(Aa m0 nm).isSome=true\/(Aa st.sto nm=none/\nm<5000))/\(∀nm∈m0.map (·.1),(Aa mN nm).isSome=true->ren 999 nm=nm)/\(mv.all fun m=>Nat.blt m 5000||Nat.ble 5500 m)=true/\K (DN st m0 mN mv 999)
def rfW(n:Nat)(og:O)(ps:List Nat)(Wa Wb:(Exit->St->Prop)->St->Prop)(K:Exit->St->Prop)(st:St):Prop:=
 ∃gf caps,∃(ι:Type) (i0:ι) (Nx:ι->List I->ι->Prop) (Fin:ι->Prop),A8 GL st og=.i (.fn gf [] caps)/\De P gf=true/\Jx P GL gf caps ι i0 Nx Fin/\
  ∃(f:List (Nat×Nat)) (L:List D) (m:ι->List (Nat×Blk)) (mv:List Nat) (jm:ι->Jm),
   jm i0=.none/\okV mv=true/\(∀i,SK mv (m i)=true/\KG (m i)=true/\okL (m i) L=true/\(m i).map (·.1)=(m i0).map (·.1))/\
   L.length=n/\Iu f 0 L st.env/\MS f 5499=5499/\Br (J5 (J6 f) (m i0)) st.sto/\
   (∀i x i',Nx i x i'->jm i=.none->x.length=ps.length/\Wa (XR Wb (lv (m i') (jm i'))) ⟨.l (Fm ps x (Eg 0 L)),m i⟩)/\
   ∀i,(jm i≠.none\/Fin i)->TB st (mv.map (J6 f)) (J5 (J6 f) (m i0)) (J5 (J6 f) (m i)) (K (jm i).ex)
theorem lw{n:Nat}{og:O}{ps:List Nat}{Wa Wa' Wb Wb':(Exit->St->Prop)->St->Prop}{K K':Exit->St->Prop}(h:rfW P GL n og ps Wa Wb K st)
  (ha:∀{K K':Exit->St->Prop} {s},Wa K s->(∀e s,K e s->K' e s)->Wa' K' s)(hb:∀{K:Exit->St->Prop} {s},Wb K s->Wb' K s)(hk:∀e s,K e s->K' e s):rfW P GL n og ps Wa' Wb' K' st:=by
 obtain⟨gf,caps,ι,i0,Nx,Fin,e1,e2,e3,f,L,m,mv,jm,q1,q2,q3,q4,q5,q6,q7,q8,q9⟩:=h;refine⟨gf,caps,ι,i0,Nx,Fin,e1,e2,e3,f,L,m,mv,jm,q1,q2,q3,q4,q5,q6,q7,fun i x i' hx hi=>⟨(q8 i x i' hx hi).1,ha (q8 i x i' hx hi).2 fun e s hs=>?_⟩,fun i hi=>⟨(q9 i hi).1,(q9 i hi).2.1,(q9 i hi).2.2.1,hk _ _ (q9 i hi).2.2.2⟩⟩;cases e with
 |normal=>exact XP (fun s h=>hb h) (fun _ _ h=>h) .normal s hs
 |_=>exact hs
def KH(ks:List Nat)(W:(Exit->St->Prop)->St->Prop)(K:Exit->St->Prop):Exit->St->Prop
 |.normal,s=>W K (prn ks s)
 |e,s=>K e s
def W2:J->(Exit->St->Prop)->St->Prop
 |.skip,K,st=>K .normal st
 |.rg gs,K,st=>ev P GL gs st (K .normal)
 |.dr sn _ gs post,K,st=>∃l,evD P GL sn gs (frzNs l st) fun s=>K .normal (frzNs (L5 post s) s)
 |.sq ks a b,K,st=>W2 a (KH ks (W2 b) K) st
 |.ct _ a b,K,st=>W2 a (KF (W2 b) K) st
 |.cond c a b,K,st=>match A8 GL st c with
  |.i (.bool t)=>br t (W2 a K st) (W2 b K st)
  |_=>False
 |.block id c,K,st=>W2 c (FV id K) st
 |.lp c,K,st=>∃(ι:Type) (F:ι->St) (m:ι->Nat) (i₀:ι),Sub (F i₀) st/\∀i,W2 c (lu F m (m i) K) (F i)
 |.exit id,K,st=>K (.exit id) st
 |.ret,K,st=>K .ret st
 |.rf n og ps a b,K,st=>rfW P GL n og ps (W2 a) (W2 b) K st
end
section
variable {P:Program}{GL:List (Nat×List I)}{n:Nat}{S:Sh}{mu:List Nat}
theorem lx(h:Rel GL n S M μ st a w){ins:Ins}{o:Oper}(hd:ins.dst=o.dst)(hn:∀d,o.dst=some d->d<n):
  Rel GL n S M μ (BF ins st) (a.put o.dst Go.undef) w:=by
 unfold BF;rw[hd];cases hod:o.dst with
 |none=>exact h
 |some d=>exact h.put (hn d hod) (AM .undef)
theorem ly{P:Program}{nx:Act->World->Prop}{Q:Exit->Act->World->Prop}(r:Option Nat)(hd:∀c,o.op≠.defer c)(h:o.wpX P a w nx Q):o.wpIn (FR r) 0 P a w nx Q:=by
 refine⟨fun _ _=>trivial,?_⟩;have e:o.semAt (FR r).round a.eval=execOp a.eval o:=by
  cases r with
  |none=>exact Oper.semAt_none _ _
  |some l=>exact Oper.semAt_some l _ o hd
 rw[e];exact h
theorem lz{ops:Array Oper}(h:Rel GL n S M μ st a w){o:Oper}{g:GI}(hg:Iq P GL n mu ops o=some g){b:Bool}
  (hb:BC g.gd st=some b):Region.wanted o (yielded ops a.tmps)=b:=by
 unfold Iq at hg;cases hgd:o.guard with
 |none=>simp only[hgd,Option.some.injEq]at hg;subst hg;simp only[BC,Option.some.injEq]at hb;subst hb;simp[Region.wanted,hgd]
 |some jw=>
  obtain⟨j,want⟩:=jw;simp only[hgd]at hg;cases hj:(ops[j]?).bind (·.dst)with
  |none=>simp[hj]at hg
  |some t=>
   simp only[hj]at hg;split at hg
   ·rename_i jv;cases hg;have htmp:a.tmps[t]? =some (a.tmps.getD t Go.undef):=by
     have:t<a.tmps.size:=by rw[h.size];exact jv.1
     simp[this]
    have hy:yielded ops a.tmps j=match a.tmps.getD t Go.undef with|.bool b=>some b|_=>none:=by unfold yielded;rw[hj];simp only[Option.bind_some];rw[htmp];cases a.tmps.getD t Go.undef<;>rfl
    have hre:=h.env t;simp only[BC]at hb;split at hb
    ·rename_i b' vz;cases hb;rw[vz]at hre;have hbv:=G4 (AJ hre);rw[hbv]at hy;simp only[Region.wanted,hgd,hy];cases want<;>cases b'<;>rfl
    ·rename_i vz;cases hb;rw[vz]at hre;have hbv:a.tmps.getD t Go.undef=Go.undef:=by have:=AJ hre;generalize a.tmps.getD t Go.undef=v at this;cases this;rfl
     rw[hbv]at hy;simp only[Go.undef]at hy;simp[Region.wanted,hgd,hy]
    ·cases hb
   ·cases hg
theorem lA{ops:Array Oper}{g:GI}(hg:Iq P GL n mu ops o=some g):(Io P GL n mu o).getD (.no o.dst)=g.ins/\(g.gd≠none->g.ins.dst=o.dst/\∀d,o.dst=some d->d<n):=by grind[Iq,KA]
theorem lB(h:Io P GL n mu o=some ins):∀c,o.op≠.defer c:=fun c e=>by grind[Io]
theorem lC(hc:(Io P GL n mu o).getD (.no o.dst)=ins)(hs:step P GL ins st K):∀c,o.op≠.defer c:=by
 cases wp:Io P GL n mu o with
 |none=>rw[wp]at hc;simp only[Option.getD_none]at hc;subst hc;exact(show False from hs).elim
 |some i=>exact lB wp
theorem lD{Q:Exit->Act->World->Prop}(h:Rel GL n S M μ st a w){ins:Ins}(hc:(Io P GL n mu o).getD (.no o.dst)=ins)(hs:step P GL ins st K):o.wpX P a w (Ax GL n S M w K) Q:=by
 cases wp:Io P GL n mu o with
 |none=>rw[wp]at hc;simp only[Option.getD_none]at hc;subst hc;exact(show False from hs).elim
 |some i=>rw[wp]at hc;simp only[Option.getD_some]at hc;subst hc;exact kK h wp hs
theorem O9{g:GI}{r:List GI}:ev P GL (g::r) st K↔match g.gd with|none=>step P GL g.ins (frzNs (AC GL g.ins st) st) (fun s=>ev P GL r s K)|some (s,want)=>gL (Aj st.env s) want (step P GL g.ins (frzNs (AC GL g.ins st) st) (fun s=>ev P GL r s K)) (ev P GL r (BF g.ins st) K):=by rfl
theorem XS{b:Bool}{A A' C C':Prop}(h:br b A C)(h1:A->A')(h2:C->C'):br b A' C':=⟨fun e=>h1 (h.1 e),fun e=>h2 (h.2 e)⟩
theorem Pa{v:D}{b:Bool}{A A' C C':Prop}(h:gL v b A C)(h1:A->A')(h2:C->C'):gL v b A' C':=by unfold gL at*;grind[XS]
theorem TC{get:St->Option (FuncId×List D)}{d:Option Nat}(h:Ah P GL get st d K)(hk:∀s,K s->K' s):Ah P GL get st d K':=by
 obtain⟨l,h⟩:=h;refine⟨l,?_⟩;split at h
 ·rcases h with⟨sto,mv,R,h1,h2,h3,h4,h6,h5⟩|⟨R,h1,h2,h3⟩|⟨sto,mv,R,h1,h2,h3,h4,h6,h5⟩
  ·exact .inl ⟨sto,mv,R,h1,h2,h3,h4,h6,fun r s hr=>⟨(h5 r s hr).1,(h5 r s hr).2.1,hk _ (h5 r s hr).2.2⟩⟩
  ·exact .inr (.inl ⟨R,h1,h2,fun r s hr=>by obtain⟨y,e1,e2,e3⟩:=h3 r s hr;exact⟨y,e1,e2,hk _ e3⟩⟩)
  ·exact .inr (.inr ⟨sto,mv,R,h1,h2,h3,h4,h6,fun r s hr=>by obtain⟨k1,k2,y,s',k3,k4,k5⟩:=h5 r s hr;exact⟨k1,k2,y,s',k3,k4,hk _ k5⟩⟩)
 ·exact h.elim
theorem lE{fr:Option Blk}{e' k':Nat}{rs:List (Option (List I))}{nm k0 lo hi e k b:Nat}{ys:List (List I)}(h:Kr fr e' k' rs nm k0 lo hi d e k b ys st K)(hk:∀s,K s->K' s):Kr fr e' k' rs nm k0 lo hi d e k b ys st K':=by obtain⟨q1,q2,q3,q4,q5,q6,q7,q8⟩:=h;exact⟨q1,q2,q3,q4,q5,q6,fun hh=>hk _ (q7 hh),fun hh=>by obtain⟨as,r1,r2,r3,r4,r5,r6⟩:=q8 hh;exact⟨as,r1,r2,r3,r4,r5,fun c=>hk _ (r6 c)⟩⟩
theorem lF{x y:D}{e k b:Nat}(h:Jq x y d e k b st K)(hk:∀s,K s->K' s):Jq x y d e k b st K':=by
 unfold Jq at*;split at h
 ·unfold Ks at*;split at h
  ·split at h
   ·obtain⟨q1,q2,q3,q4,q5,q6,q7,q8⟩:=h;exact⟨q1,q2,q3,q4,q5,q6,fun hh=>hk _ (q7 hh),fun hh=>by obtain⟨as,r1,r2,r3,r4,r5,r6⟩:=q8 hh;exact⟨as,r1,r2,r3,r4,r5,fun c=>hk _ (r6 c)⟩⟩
   ·exact h
  ·split at h
   ·unfold Kj at*;split at h;exact⟨h.1,h.2.1,h.2.2.1,h.2.2.2.1,h.2.2.2.2.1,h.2.2.2.2.2.1,h.2.2.2.2.2.2.1,h.2.2.2.2.2.2.2.1,h.2.2.2.2.2.2.2.2.1,hk _ h.2.2.2.2.2.2.2.2.2⟩;exact h
   ·exact h
 ·exact h
theorem XT{b:Option Blk}{ls:List LK}{q:I}(h:HE b ls q zero ok d st K)(hk:∀s,K s->K' s):HE b ls q zero ok d st K':=by unfold HE at*;split at h;exact⟨h.1,hk _ h.2⟩;exact h
theorem lG{x key:D}{ls:List LK}(h:Fj x key zero ok ls d st K)(hk:∀s,K s->K' s):Fj x key zero ok ls d st K':=by
 unfold Fj at*;split at h
 all_goals grind[XT]
theorem lH{r:Option D}(h:ES ok r zero d st K)(hk:∀s,K s->K' s):ES ok r zero d st K':=by unfold ES at*;grind
theorem FW(h:step P GL ins st K)(hk:∀s,K s->K' s):step P GL ins st K':=by
 cases hd:BW ins with
 |some d=>simp_all[O4]
 |none=>
  cases ins<;>simp only[BW,reduceCtorEq]at hd<;>simp only[step]at h⊢
  case nils=>unfold Lv at*;split at h<;>exact hk _ h
  case box=>unfold M0 at*;split at h;exact hk _ h;exact h
  case boxm=>unfold G0 at*;split at h;exact⟨h.1,hk _ h.2⟩;exact h
  case alloc=>unfold G0 at*;split at h;exact⟨h.1,hk _ h.2⟩;exact h
  case store=>
   unfold HD at*;split at h
   ·unfold Kh at*;split at h;exact⟨h.1,h.2.1,h.2.2.1,hk _ h.2.2.2⟩;exact h
   ·unfold M6 at*;split at h;exact⟨h.1,h.2.1,h.2.2.1,h.2.2.2.1,h.2.2.2.2.1,h.2.2.2.2.2.1,hk _ h.2.2.2.2.2.2⟩;exact h
   ·exact h
  case stfrz=>
   unfold M8 at*;split at h
   ·unfold M7 at*;split at h;exact⟨h.1,h.2.1,h.2.2.1,h.2.2.2.1,h.2.2.2.2.1,hk _ h.2.2.2.2.2⟩;exact h
   ·exact h
  case isnil=>
   unfold CN at*;split at h
   ·exact hk _ h
   ·split at h<;>first|exact fun b=>hk _ (h b)|exact h
  case bso d e k ps=>exact⟨h.1,by have h2:=h.2;unfold Ji at*;split at h2;exact hk _ h2;exact h2⟩
  case bsl d e k ps=>
   cases ps with
   |nil=>simp only[step.nilsE']at h⊢;split at h;exact hk _ h;exact h
   |cons p ps=>exact⟨h.1,hk _ h.2⟩
  case call=>exact TC h hk
  case callv=>exact TC h hk
  case calln=>unfold MZ at*;split at h;exact TC h hk;exact h
  case callf=>unfold Et Ku at*;split at h;exact⟨h.1,h.2.choose,h.2.choose_spec.1,hk _ h.2.choose_spec.2⟩;exact h
  case callvf=>unfold Et Ku at*;split at h;exact⟨h.1,h.2.choose,h.2.choose_spec.1,hk _ h.2.choose_spec.2⟩;exact h
  case callo=>obtain⟨h1,R,h2,h3⟩:=h;exact⟨h1,R,h2,fun r s hr=>⟨(h3 r s hr).1,hk _ (h3 r s hr).2⟩⟩
  case app=>exact lF h hk
  case appz=>
   unfold LU at*;split at h
   ·unfold Kt at*;split at h;exact⟨h.1,h.2.1,h.2.2.1,lE h.2.2.2 hk⟩;exact h
   ·exact h
  case mkgm=>unfold LJ at*;split at h;exact hk _ h;exact h
  case lookg=>
   unfold Jk at*;split at h
   ·refine⟨h.1,?_⟩;have h:=h.2;unfold Jj at*;split at h
    ·exact⟨h.1,lH h.2 hk⟩
    ·exact XT h hk
   ·exact lG h hk
  case mupdg=>
   unfold LL at*;split at h
   ·refine⟨h.1,?_⟩;have h:=h.2;unfold Jl at*;split at h
    ·exact⟨h.1,hk _ h.2⟩
    ·exact⟨h.1,hk _ h.2⟩
    ·exact h
   ·exact h
  case ment=>
   unfold Kl at*;split at h
   ·refine⟨h.1,?_⟩;have h:=h.2;unfold Kk at*;split at h
    ·refine⟨h.1,?_⟩;have h:=h.2;split at h
     ·unfold Jo at*;split at h
      ·split at h;exact hk _ h;exact h
      ·exact h
     ·unfold Jn at*;split at h;exact hk _ h;exact h
    ·exact h
   ·exact h
  case ests=>
   unfold LM at*;split at h
   ·unfold Km at*;split at h;exact⟨h.1,hk _ h.2⟩;exact h
   ·exact h
  case cap=>
   unfold LN at*;split at h
   ·unfold Kn at*;split at h;exact hk _ h;exact fun c hc=>hk _ (h c hc);exact h
   ·exact h
  case cpy=>
   unfold LR at*;split at h
   ·unfold Ko at*;split at h;exact⟨h.1,h.2.1,h.2.2.1,h.2.2.2.1,h.2.2.2.2.1,hk _ h.2.2.2.2.2⟩;exact h
   ·exact h
  case clr=>
   unfold LS at*;split at h
   ·unfold Jp at*;split at h;exact⟨h.1,h.2.1,h.2.2.1,hk _ h.2.2.2⟩;exact⟨h.1,h.2.1,h.2.2.1,hk _ h.2.2.2⟩;exact h
   ·exact h
  case mksl=>unfold Nh at*;split at h;exact⟨h.1,h.2.1,h.2.2.1,hk _ h.2.2.2⟩;exact h
  case slc3=>unfold Kp at*;split at h;exact⟨h.1,hk _ h.2⟩;exact⟨h.1,hk _ h.2⟩;exact h
  case slc0=>unfold Na at*;split at h;exact hk _ h;exact h
  case mkmap=>unfold LG at*;split at h<;>exact hk _ h
  case mupd=>
   unfold Il at*;split at h
   ·refine⟨h.1,?_⟩;have h:=h.2;unfold Jg at*;split at h;exact⟨h.1,hk _ h.2⟩;exact h
   ·exact h
  case rng=>unfold LH at*;split at h;exact hk _ h;exact hk _ h;exact h
  case nxt=>
   unfold Nd at*;split at h
   ·unfold Nc at*;split at h;exact⟨fun e=>hk _ (h.1 e),fun i hi=>hk _ (h.2 i hi)⟩;exact h
   ·exact h
  case ent=>
   unfold Ng at*;split at h
   ·unfold Nf at*;split at h;exact hk _ h;exact h
   ·exact h
theorem XU:∀{gs:List GI} {st:St} {K K':St->Prop},ev P GL gs st K->(∀s,K s->K' s)->ev P GL gs st K'
 |[],st,K,K',h,hk=>hk _ h
 |g::r,st,K,K',h,hk=>by
  have q1:∀s,ev P GL r s K->ev P GL r s K':=fun s hs=>XU hs hk
  grind[O9,FW,Pa]
theorem TD(h:Ad P GL sn ins st K)(hk:∀s,K s->K' s):Ad P GL sn ins st K':=by
 cases ins<;>simp only[Ad]at h⊢
 case call=>obtain⟨h1,y,h2,h3⟩:=h;exact⟨h1,y,h2,hk _ h3⟩
 case callv=>
  refine⟨h.1,h.2.1,?_⟩;have h:=h.2.2;split at h
  ·obtain⟨y,h2,h3⟩:=h;exact⟨y,h2,hk _ h3⟩
  ·exact h
 case alloc=>exact FW h hk
 case mupd=>exact FW h hk
 case app=>exact⟨h.1,FW h.2 hk⟩
 case ment=>exact⟨h.1,FW h.2 hk⟩
 case callo=>exact⟨h.1,FW h.2 hk⟩
 case callf=>exact⟨h.1,FW h.2 hk⟩
 case callvf=>exact⟨h.1,FW h.2 hk⟩
 case bsl=>exact⟨h.1,FW h.2 hk⟩
 all_goals exact⟨h.1,FW h.2 hk⟩
theorem QP{sn:List Nat}:∀{gs:List GI} {st:St} {K K':St->Prop},evD P GL sn gs st K->(∀s,K s->K' s)->evD P GL sn gs st K'
 |[],st,K,K',h,hk=>hk _ h
 |g::r,st,K,K',h,hk=>by
  have q1:∀s,evD P GL sn r s K->evD P GL sn r s K':=fun s hs=>QP hs hk
  grind[evD,TD,Pa]
theorem Ei:∀(c:J) {st:St} {K K':Exit->St->Prop},W2 P GL c K st->(∀e s,K e s->K' e s)->W2 P GL c K' st
 |.skip,st,K,K',h,hk=>hk _ _ h
 |.rg gs,st,K,K',h,hk=>XU h (hk _)
 |.dr sn _ gs post,st,K,K',h,hk=>by obtain⟨l,h⟩:=h;exact⟨l,QP h (fun s hs=>hk _ _ hs)⟩
 |.sq ks a b,st,K,K',h,hk=>Ei a h (fun e s hs=>by
   cases e with
   |normal=>exact Ei b hs hk
   |_=>exact hk _ _ hs)
 |.ct _ a b,st,K,K',h,hk=>Ei a h (XP (fun s q=>Ei b q hk) hk)
 |.cond c a b,st,K,K',h,hk=>by
  simp only[W2]at h⊢;split at h
  ·exact XS h (fun hh=>Ei a hh hk) (fun hh=>Ei b hh hk)
  ·exact h
 |.block id c,st,K,K',h,hk=>Ei c h (fun e s hs=>by
   cases e with
   |exit id'=>simp only[FV]at hs⊢;split at hs;rename_i e;rw[if_pos e];exact hk _ _ hs;rename_i e;rw[if_neg e];exact hk _ _ hs
   |_=>exact hk _ _ hs)
 |.lp c,st,K,K',h,hk=>by
  obtain⟨ι,F,m,i0,h0,hr⟩:=h;refine⟨ι,F,m,i0,h0,fun i=>Ei c (hr i) (fun e s hs=>?_)⟩;cases e with
  |normal=>exact hs
  |_=>exact hk _ _ hs
 |.exit id,st,K,K',h,hk=>hk _ _ h
 |.ret,st,K,K',h,hk=>hk _ _ h
 |.rf n og ps a b,st,K,K',h,hk=>lw P GL h (fun q1 q2=>Ei a q1 q2) (fun q=>q) hk
theorem XV(e:Env)(s:Nat):∀ks,CW (Ey e ks) s=.any\/CW (Ey e ks) s=Aj e s
 |[]=>.inl rfl
 |k::r=>by
  simp only[Ey,CW];split
  ·rename_i h;subst h;exact .inr rfl
  ·exact XV e s r
theorem Rel.prn(h:Rel GL n S M μ st a w)(ks:List Nat):Rel GL n S M μ (prn ks st) a w:=
 {toStoOk:=h.toStoOk,small:=h.small,pin:=h.pin,defers:=h.defers,size:=h.size,glob:=h.glob,env:=fun s=>by
   simp only[Dl.prn,Aj];rcases XV st.env s ks with e|e
   ·rw[e];trivial
   ·rw[e];exact h.env s}
theorem Rel.subQ{s:St}(h:Rel GL n S M μ st a w):XO s st->Rel GL n S M μ s a w
 |.inl e=>e▸h
 |.inr (.inl e)=>h.sub' e
 |.inr (.inr ⟨ks,e⟩)=>e▸h.prn ks
theorem XW{x:Option I}(h:B2 P GL sn ins x st)(hk:K (Ev GL ins x st)):step P GL ins st K:=by
 have calls:∀{f:FuncId} {ds:List D} {y:I} {d:Option Nat},(∀v∈ds,Ja v=true)->Is1 P GL f ds y->K (putO st d (.i y))->WO P GL f ds st d K:=fun{f ds y d} hI h2 hk=>by
  refine⟨[],[],_,h2,trivial,rfl,?_,rfl,?_⟩
  ·rw[List.all_eq_true];intro v hv;have:=hI v hv;cases v<;>simp[Ja]at this;rfl
  ·rintro r s ⟨rfl,rfl⟩;refine⟨fun nm hm=>by simp[Bj]at hm,fun nm hm=>by simp at hm,?_⟩;exact hk
 have nofrz:∀(st:St),frzNs [] st=st:=fun _=>rfl
 cases ins
 case call d f args=>
  obtain⟨h1,y,rfl,h2⟩:=h;rw[List.all_eq_true]at h1;refine⟨[],?_⟩;simp only[nofrz,Fi];refine .inl (calls (y:=y) (fun v hv=>by obtain⟨o,ho,rfl⟩:=List.mem_map.1 hv;exact h1 o ho) h2 ?_);cases d<;>exact hk
 case callv d fo args=>
  obtain⟨h0,h1,p,y,h2,rfl,h3⟩:=h;rw[List.all_eq_true]at h1;refine⟨[],?_⟩;simp only[nofrz,DZ,h2];refine .inl (calls (y:=y) (fun v hv=>?_) h3 ?_)
  ·unfold EQ at h2;split at h2
   ·cases h2;simp only[List.mem_append,List.mem_map]at hv;rcases hv with(⟨z,_,rfl⟩|⟨o,ho,rfl⟩)|⟨z,_,rfl⟩
    ·rfl
    ·exact h1 o ho
    ·rfl
   ·rename_i e;rw[e]at h0;simp[Ja]at h0
   ·cases h2
  ·cases d<;>exact hk
 case alloc d zs=>
  simp only[step,G0];obtain⟨h,h1⟩:Aa st.sto d=none/\(zs.map D.i).all EP=true:=h;rw[h];exact⟨h1,hk⟩
 case mupd ox oq ov ls=>
  simp only[B2]at h;simp only[Ev]at hk;simp only[step,Il];split at h
  ·rename_i nm q u e1 e2 e3;obtain⟨h1,h⟩:=h;split at h
   ·rename_i ls' es hg;simp only[e1,e2,e3,hg,Jg]at hk⊢;exact⟨h1,h,hk⟩
   ·exact h.elim
  ·exact h.elim
 case store ox ov k=>
  simp only[B2]at h;simp only[Ev]at hk;simp only[step,HD];split at h
  ·rename_i nm off e;obtain⟨_,h⟩:=h;split at h
   ·rename_i cs hg;simp only[e,hg,Kh]at hk⊢;exact⟨h.1,h.2.1,h.2.2,hk⟩
   ·exact h.elim
  ·exact h.elim
 all_goals
  obtain⟨h1,h2,_⟩:=h
  first
   |(simp[BW]at h1;done)
   |(refine(O4 P GL (d:=_) rfl st K).2 ⟨h2,?_⟩;exact hk)
theorem XX(hdr:O6 ins=true)(h:Ad P GL sn ins st K):∃x,B2 P GL sn ins x st/\K (Ev GL ins x st):=by
 have pure:∀ins:Ins,∀d,BW ins=some d->step P GL ins st K->(∀o∈BQ ins,looks ins=true->∀nm∈(A8 GL st o).nms,nm∉sn)->
   ((BW ins).isSome/\(pv (A8 GL st) (Aa st.sto) ins).2/\(looks ins=true->∀o∈BQ ins,∀nm∈(A8 GL st o).nms,nm∉sn))/\K (st.put d (pv (A8 GL st) (Aa st.sto) ins).1):=fun ins d hd hs hl=>by
  obtain⟨h1,h2⟩:=(O4 P GL hd st K).1 hs;exact⟨⟨by rw[hd];rfl,h1,fun l o ho nm hn=>hl o ho l nm hn⟩,h2⟩
 cases ins
 case call d f args=>
  obtain⟨h1,y,h2,h3⟩:=h;refine⟨some y,⟨h1,y,rfl,h2⟩,?_⟩;cases d<;>exact h3
 case callv d fo args=>
  obtain⟨h0,h1,h⟩:=h;split at h
  ·rename_i p hp;obtain⟨y,h2,h3⟩:=h;refine⟨some y,⟨h0,h1,p,y,hp,rfl,h2⟩,?_⟩;cases d<;>exact h3
  ·exact h.elim
 case alloc d zs=>
  refine⟨none,?_⟩;simp only[Ad,step,G0]at h;split at h
  ·rename_i hg;exact⟨⟨hg,h.1⟩,h.2⟩
  ·exact h.elim
 case mupd ox oq ov ls=>
  refine⟨none,?_⟩;simp only[Ad,step,Il]at h;simp only[B2,Ev];split at h
  ·rename_i nm q u e1 e2 e3;obtain⟨h1,h⟩:=h;unfold Jg at h;split at h
   ·rename_i ls' es hg;simp only[e1,e2,e3,hg];exact⟨⟨h1,h.1⟩,h.2⟩
   ·exact h.elim
  ·exact h.elim
 case store ox ov k=>
  obtain⟨h1,h⟩:=h;refine⟨none,?_⟩;simp only[step,HD]at h;simp only[B2,Ev];split at h
  ·rename_i nm off e;rw[e]at h1;unfold Kh at h;split at h
   ·rename_i cs hg;simp only[e,hg];exact⟨⟨h1,h.1,h.2.1,h.2.2.1⟩,h.2.2.2⟩
   ·exact h.elim
  ·rename_i e;rw[e]at h1;exact h1.elim
  ·exact h.elim
 case load d x k ag=>
  obtain⟨h1,h⟩:=h;exact⟨none,pure (.load d x k ag) d rfl h (fun o ho _ nm hn=>by simp[BQ]at ho;subst ho;exact h1 nm hn)⟩
 case ia d s i k=>
  obtain⟨⟨h1,h2⟩,h⟩:=h;exact⟨none,pure (.ia d s i k) d rfl h (fun o ho _ nm hn=>by
   simp[BQ]at ho;rcases ho with rfl|rfl
   ·exact h1 nm hn
   ·exact h2 nm hn)⟩
 case slc d x lo hi k=>
  obtain⟨h1,h⟩:=h;exact⟨none,pure (.slc d x lo hi k) d rfl h (fun o ho _ nm hn=>h1 o ho nm hn)⟩
 all_goals
  first
   |(simp[O6,BW]at hdr;done)
   |(obtain⟨h1,h⟩:=h;exact⟨none,pure _ _ rfl h (fun o ho hl=>by simp[looks]at hl)⟩)
theorem TE{sn:List Nat}:∀(gs:List GI) (st:St) (K:St->Prop),(gs.all fun g=>O6 g.ins)=true->evD P GL sn gs st K->∃xs:List X,xs.map (·.1)=gs/\Ef P GL sn xs st K
 |[],st,K,_,h=>⟨[],rfl,h⟩
 |g::r,st,K,hd,h=>by
  rw[List.all_cons,Bool.and_eq_true]at hd;have go:Ad P GL sn g.ins st (fun s=>evD P GL sn r s K)->BC g.gd st=some true->∃xs:List X,xs.map (·.1)=g::r/\Ef P GL sn xs st K:=fun hs hg=>by
   obtain⟨x,h1,h2⟩:=XX hd.1 hs;obtain⟨xs,e,hr⟩:=TE r _ K hd.2 h2;refine⟨(g,x)::xs,by simp[e],?_,?_⟩
   ·unfold Ck;simp only[hg];exact h1
   ·unfold BD;simp only[hg];exact hr
  have skip:evD P GL sn r (BF g.ins st) K->BC g.gd st=some false->∃xs:List X,xs.map (·.1)=g::r/\Ef P GL sn xs st K:=fun hs hg=>by
   obtain⟨xs,e,hr⟩:=TE r _ K hd.2 hs;refine⟨(g,none)::xs,by simp[e],?_,?_⟩
   ·unfold Ck;simp only[hg]
   ·unfold BD;simp only[hg];exact hr
  simp only[evD]at h;split at h
  ·rename_i e;exact go h (by rw[e];rfl)
  ·rename_i s want e;unfold gL at h;split at h
   ·rename_i b hb;have hg:BC g.gd st=some (b==want):=by rw[e];simp only[BC,hb]
    cases hbw:b==want with
    |true=>rw[hbw]at h hg;exact go (h.1 rfl) hg
    |false=>rw[hbw]at h hg;exact skip (h.2 rfl) hg
   ·rename_i hb;exact skip h (by rw[e];simp only[BC,hb])
   ·exact h.elim
theorem TF{sn:List Nat}:∀(a b:List GI) (st:St) (K:St->Prop),evD P GL sn (a++b) st K=evD P GL sn a st (fun s=>evD P GL sn b s K)
 |[],b,st,K=>rfl
 |g::a,b,st,K=>by
  simp only[List.cons_append,evD];have e:(fun s=>evD P GL sn (a++b) s K)=fun s=>evD P GL sn a s (fun s=>evD P GL sn b s K):=funext fun s=>TF a b s K
  rw[e,TF a b]
end
end Go.Dl
end
section
namespace Go.Dl
open Go Go.RowKit
variable{g:Nat->Nat}{l:List (Nat×Blk)}{N:Nat->Prop}{mv:List Nat}{nm:Nat}
section
variable {P:Program}{GL:List (Nat×List I)}{n:Nat}{S:Sh}{M:Mem}{μ:Place}{st:St}{a:Act}{w:World}{sto:List (Nat×Blk)}
theorem AQ.reS{S S':Nat->Prop}{M:Mem}{μ:Place}{w:World}{x:Blk}(h:AQ S M μ N w nm x)(hs:∀k,An (μ nm)=some k->S' k->S k):AQ S' M μ N w nm x:=by
 have own:∀{k:Nat} {q:Obj},An (μ nm)=some k->Owns S M w k q->Owns S' M w k q:=fun e hq=>⟨fun hb=>hq.low (hs _ e hb),hq.heap,hq.unk⟩
 cases x with
 |cells cs=>obtain⟨bb,vs,t,e,ho,j0,hr⟩:=h;exact⟨bb,vs,t,e,own (by rw[e];rfl) ho,j0,hr⟩
 |rows e k rs=>obtain⟨aa,cap,e,hh⟩:=h;refine⟨aa,cap,e,hh.imp id ?_⟩;grind[An]
 |map ls es=>obtain⟨bb,xs,clk,e,ho,q⟩:=h;exact⟨bb,xs,clk,e,own (by rw[e];rfl) ho,q⟩
 |iter cur rest=>obtain⟨bb,mm,since,seen,last,e,ho,q⟩:=h;exact⟨bb,mm,since,seen,last,e,own (by rw[e];rfl) ho,q⟩
 |lp l q cs=>obtain⟨vs,e,ho,q⟩:=h;exact⟨vs,e,own (by rw[e];rfl) ho,q⟩
 |gmap ls clk es=>obtain⟨bb,xs,e,ho,q⟩:=h;exact⟨bb,xs,e,own (by rw[e];rfl) ho,q⟩
 |arr e k rs=>obtain⟨aa,e1,hh⟩:=h;refine⟨aa,e1,hh.imp id ?_⟩;rintro⟨bb,o',cur,rfl,ji,ho,q⟩;exact⟨bb,o',cur,rfl,ji,own (by rw[e1];exact Qu (by simpa using ji)) ho,q⟩
theorem AQ.putN{S:Nat->Prop}{M:Mem}{μ:Place}{w:World}{b:Nat}{x:Blk}{o:Obj}(h:AQ S M μ N w nm x)(hb:An (μ nm)≠some b):AQ S M μ N (w.putObj b o) nm x:=
 AQ.mono (S:=⟨S,μ,[]⟩) h (Mem.le_refl _) rfl (fun _ _ k=>⟨k,rfl⟩) (fun k hk _=>World.putObj_heap_other (fun e=>hb (e▸hk))) (fun _ _ _=>Mem.same_refl _ _)
theorem AQ.nameMono{S:Nat->Prop}{M:Mem}{μ:Place}{N':Nat->Prop}{w:World}{x:Blk}(h:AQ S M μ N w nm x)(hN:∀m∈x.nms,N m->N' m):AQ S M μ N' w nm x:=
 AQ.mono (S:=⟨S,μ,[]⟩) h (Mem.le_refl _) rfl (fun m hm k=>⟨hN m hm k,rfl⟩) (fun _ _ _=>rfl) (fun _ _ _=>Mem.same_refl _ _)
theorem StoOk.putN{S:Nat->Prop}{b:Nat}{o:Obj}(h:StoOk S M μ sto w)(hu:M.unk b)(hb:∀m,names sto m->An (μ m)≠some b):StoOk S M μ sto (w.putObj b o) where
 sub:=h.sub.world fun k _ hk=>World.putObj_heap_other (fun e=>hk (e▸hu))
 blk:=fun nm x hx=>(h.blk nm x hx).putN (hb nm (by simp[names,hx]))
 sep:=h.sep
 low:=fun k hk=>by rw[World.putObj_size];exact h.low k hk
theorem Rel.putN(h:Rel GL n S M μ st a w){b:Nat}{o:Obj}(hu:M.unk b)(hb:∀m,names st.sto m->An (μ m)≠some b):Rel GL n S M μ st a (w.putObj b o):=
 h.of (st':=st) (h.toStoOk.putN hu hb) (Mem.le_refl _) fun _ _ hv=>hv
theorem StoOk.reS{S S':Nat->Prop}(h:StoOk S M μ sto w)(hs:∀m k,names sto m->An (μ m)=some k->S' k->S k)(hlow:∀b,S' b->b<w.heap.size):StoOk S' M μ sto w where
 sub:=h.sub
 blk:=fun nm x hx=>(h.blk nm x hx).reS fun k hk hS=>hs nm k (by simp[names,hx]) hk hS
 sep:=h.sep
 low:=hlow
theorem StoOk.part{S:Nat->Prop}{sto':List (Nat×Blk)}(h:StoOk S M μ sto w)(hs:∀m b,Aa sto' m=some b->Aa sto m=some b)(hc:∀nm b,Aa sto' nm=some b->∀m∈b.nms,names sto' m):StoOk S M μ sto' w where
 sub:=h.sub
 blk:=fun nm b hb=>(h.blk nm b (hs nm b hb)).nameMono fun m hm _=>hc nm b hb m hm
 sep:=fun m m' k k' ji h1 h2=>by
  refine h.sep m m' k k' ji ?_ ?_
  ·obtain⟨x,hx⟩:=Option.isSome_iff_exists.1 h1;simp[names,hs m x hx]
  ·obtain⟨x,hx⟩:=Option.isSome_iff_exists.1 h2;simp[names,hs m' x hx]
 low:=h.low
theorem Lp.calls{f:FuncId}{vs:Array Value}{R:Value->World->Prop}(he:De P f=true)(h:Lp P f vs w R):Calls P f vs w fun e w'=>∃v,e=.returned v/\R v w':=by
 have hy:Nat.blt f 1000000000=true:=by grind[De]
 rcases h with⟨_,h2⟩|⟨_,row,h1,_⟩|⟨_,v,w',h1,_⟩|⟨h1,_⟩
 all_goals grind[Kw]
theorem XY{r:Ref}:(Qs g r).nm=g r.nm:=by cases r<;>rfl
theorem XZ{c:Cp}{q:Nat}(h:q∈(mpC g c).nms):∃p∈c.nms,q=g p:=by
 cases c with
 |ref r=>simp[mpC,Cp.nms,XY]at h⊢;exact h
 |_=>simp[mpC,Cp.nms]at h
theorem QQ{d:D}{q:Nat}(h:q∈(J8 g d).nms):∃p∈d.nms,q=g p:=by
 cases d with
 |ref r=>simp[J8,D.nms,XY]at h⊢;exact h
 |fn f a b=>grind[J8,D.nms,XZ]
 |tup cs=>grind[J8,D.nms,XZ]
 |_=>simp[J8,D.nms]at h
theorem lI{b:Blk}{q:Nat}(h:q∈(MR g b).nms):∃p∈b.nms,q=g p:=by
 cases b with
 |cells cs=>grind[MR,Blk.nms,QQ]
 |lp l q cs=>grind[MR,Blk.nms,QQ]
 |gmap ls clk es=>grind[MR,Blk.nms,QQ]
 |_=>simp[MR,Blk.nms]at h
theorem FX{T:List (Nat×Blk)}{k:Nat}{b:Blk}(h:Qo T l=true):Qo ((k,b)::T) l=true:=by
 induction l with
 |nil=>rfl
 |cons x r ih=>obtain⟨m,y⟩:=x;simp only[Qo,Bool.and_eq_true]at h⊢;refine⟨?_,ih h.2⟩;simp only[OL,List.all_eq_true]at h⊢;intro q hq;exact Gq q (h.1 q hq)
theorem Fo(h:SK mv l=true):Qo l l=true:=by grind[SK]
theorem lJ(h:SK mv l=true):∀q,names l q->pinned q\/q∈mv:=fun q hq=>by
 simp only[SK,Bool.and_eq_true,List.all_eq_true]at h;have:=h.1.1 q (CE.2 hq);simp only[Bool.or_eq_true,Bool.and_eq_true,Nat.ble_eq,Nat.blt_eq]at this;rcases this with q1|q1
 ·exact .inl q1
 all_goals grind
theorem Pb(h:KG l=true):Aa l 5499=none:=by
 cases hg:Aa l 5499 with
 |none=>rfl
 |some b=>grind[names,KG,CE]
theorem X1{N:Nat->Prop}:∀(ps:List Nat) (xs:List I) (vs:List Value) (e:List (Nat×D)) (t:Array Value),ps.length=xs.length->Ak M xs vs->(∀p∈ps,p<t.size)->(∀s,AI M μ N (CW e s) (t.getD s Go.undef))->
  ∀s,AI M μ N (CW (Fm ps xs e) s) (((ps.zip vs).foldl (fun t p=>t.setIfInBounds p.1 p.2) t).getD s Go.undef)
 |[],xs,vs,e,t,_,_,_,h,s=>by simp_all[Fm]
 |p::ps,[],vs,e,t,hl,_,_,_,s=>by simp at hl
 |p::ps,x::xs,[],e,t,hl,hr,_,_,s=>by have:=hr.1;simp at this
 |p::ps,x::xs,v::vs,e,t,hl,hr,hp,h,s=>by
  simp only[Fm,List.zip_cons_cons,List.foldl_cons];refine X1 ps xs vs _ _ (by simpa using hl) ⟨by simpa using hr.1,fun j a b=>by have:=hr.2 (j+1) (by simpa using a) (by simpa using b);simpa using this⟩ (fun q hq=>by simpa using hp q (List.mem_cons_of_mem _ hq)) (fun s=>?_) s;have hpt:p<t.size:=hp p List.mem_cons_self;simp only[CW];by_cases e':p=s
  ·subst e';simp only[if_true];have:=hr.2 0 (by simp) (by simp);show Rep M x _;simp_all
  all_goals simp_all
theorem X2(l:Nat):Nat.blt (1000000000+l) 1000000000=false:=by
 cases h:Nat.blt (1000000000+l) 1000000000 with
 |false=>rfl
 |true=>rw[Nat.blt_eq]at h;omega
theorem lK{q:LQ}{l:Nat}{L:List D}{mj mk:List (Nat×Blk)}{xj:List I}{jm:Jm}{ix iy:J}(hn9:n<=999)(hq:q.jump=none)
  (hx:∀(S:Sh) (K:Exit->St->Prop) (M:Mem) (μ:Place) (st:St) (a:Act) (w:World),Rel GL n S M μ st a w->W2 P GL ix K st->q.assign.wpIn (FR (some l)) 0 P (FU GL n S M w K) a w)
  (hy:∀(S:Sh) (K:Exit->St->Prop) (M:Mem) (μ:Place) (st:St) (a:Act) (w:World),Rel GL n S M μ st a w->W2 P GL iy K st->q.body.wpIn (FR (some l)) 0 P (FU GL n S M w K) a w)
  (kg:SK mv mj=true)(hok':SK mv mk=true)(h99:KG mj=true)(h99':KG mk=true)(hL:okL mj L=true)(hL':okL mk L=true)(hLn:L.length=n)(hps:xj.length=q.ps.toList.length)(we:∀p∈q.ps.toList,p<n)
  (hw:W2 P GL ix (XR (W2 P GL iy) (lv mk jm)) ⟨.l (Fm q.ps.toList xj (Eg 0 L)),mj⟩):
  MC P GL (1000000000+l) (xj.map .i) ((5499,.lp l q L)::mj) mv (fun r s=>r=.i (.bool jm.go)/\s=(5499,.lp l {q with jump:=jm.code} L)::mk):=by
 intro Mr μr wr vs ki qg jp;obtain⟨ts,hμ,jc,j0,hrs⟩:=ki.blk 5499 (.lp l q L) (by simp[Aa]);have qn:An (μr 5499)=some l:=by rw[hμ];rfl
 have h5:Aa mj 5499=none:=Pb h99;have h5':Aa mk 5499=none:=Pb h99';have wh:Qo mj mj=true:=by exact Fo kg
 have hcl':Qo mk mk=true:=by exact Fo hok'
 have hup:∀m b,Aa mj m=some b->Aa ((5499,.lp l q L)::mj) m=some b:=fun m b hb=>by simp only[Aa];rw[if_neg (fun e=>by subst e;rw[h5]at hb;cases hb)];exact hb
 have hnl:∀m k,names mj m->An (μr m)=some k->k≠l:=fun m k hm hk=>by refine ki.sep m 5499 k l (fun e=>by subst e;simp[names,h5]at hm) (Gq m hm) Eo hk qn
 refine .inr (.inr (.inr ⟨X2 l,q.fn,(q.ps.zip vs).foldl (fun t x=>t.setIfInBounds x.1 x.2) ts,q.assign,q.body,?_,?_⟩))
 ·have e:1000000000+l-1000000000=l:=by omega
  rw[e];exact run_yield (P:=P) (args:=vs) jc.heap (by have h1:=jp.1;have h2:(q.lp ts).params=q.ps:=rfl;rw[h2];simp at h1 hps;omega)
 ·have e:1000000000+l-1000000000=l:=by omega
  rw[e];refine roundIn_of_wpIn (F:=Fence.wide) trivial ?_
  let Sr:Sh:=⟨fun b=>(AN μr ((5499,.lp l q L)::mj) wr).p b\/b=l,μr,[]⟩
  have qq:l<wr.heap.size:=jc.lt;have hRepL:Dq Mr μr (names mj) L ts.toList:=⟨by simpa using j0,fun j a b=>by
   have hj:j<ts.size:=by simpa using b
   have:=(hrs j a hj).mono' (N':=names mj) (μ':=μr) (Mem.le_refl _) fun m hm _=>⟨by
    simp only[okL,List.all_eq_true,Bool.and_eq_true]at hL;exact Fl (hL _ (List.getElem_mem a)).1 m hm,rfl⟩
   simpa using this⟩
  have hxL:Ak Mr xj vs.toList:=⟨by simpa using jp.1,fun j a b=>by have:=jp.2 j (by simpa using a) b;rw[List.getElem_map]at this;exact this⟩
  have h0:Rel GL n Sr Mr μr ⟨.l (Fm q.ps.toList xj (Eg 0 L)),mj⟩ {tmps:=(q.ps.zip vs).foldl (fun t x=>t.setIfInBounds x.1 x.2) ts,defers:=[]} wr:=by
   have hsize:∀(l:List (Tmp×Value)) (t:Array Value),(l.foldl (fun t x=>t.setIfInBounds x.1 x.2) t).size=t.size:=fun l=>by
    induction l with
    |nil=>intro t;rfl
    |cons x l ih=>intro t;simp[ih]
   have hfold:(q.ps.zip vs).foldl (fun t x=>t.setIfInBounds x.1 x.2) ts=(q.ps.toList.zip vs.toList).foldl (fun t x=>t.setIfInBounds x.1 x.2) ts:=by rw[<-Array.foldl_toList];simp
   refine{toStoOk:=?_,small:=hn9,pin:=fun _ _=>rfl,defers:=rfl,size:=?_,env:=fun s=>?_,glob:=qg}
   ·refine(ki.part hup fun nm b hb=>Js wh nm b hb).reS (fun m k hm hk hS=>?_) (fun b hb=>?_)
    ·rcases hS with hS|hS
     ·exact hS
     ·exact(hnl m k hm hk hS).elim
    ·rcases hb with hb|rfl
     ·exact ki.low b hb
     ·exact qq
   ·rw[hfold,hsize];omega
   ·rw[hfold];refine X1 q.ps.toList xj vs.toList _ ts (by omega) hxL (fun p hp=>Nat.lt_of_lt_of_le (we p hp) (by omega)) (fun s=>?_) s;refine TA L ts.toList 0 hRepL s _ (fun hl _=>?_);simp at hl;simp[hl]
  refine wpIn_mono (hx Sr _ Mr μr _ _ wr h0 hw) ?_;rintro e a' w' ⟨st',hk,S',vo,M',μ',h',hm,xe⟩;cases e with
  |normal=>
   have hSl:Sr.p l:=.inr rfl;have hl1:w'.heap[l]? =some (.loop (q.lp ts)):=(xe.block l hSl).trans jc.heap;refine⟨_,run_beginRound hl1 (by show(if q.jump.isNone=true then LoopState.ready else LoopState.done)=_;rw[hq];rfl),?_⟩;generalize hw2:w'.putObj l (.loop {q.lp ts with state:=.busy})=w2;have hun:M'.unk l:=Mem.unk_same jc.unk (hm.old l hSl);have h'':Rel GL n S' M' μ' st' a' w2:=by rw[<-hw2];exact h'.putN hun fun m hm e=>(h'.toStoOk.lt hm e).2.1 (vo.p l hSl)
   have hb:q.body.wpIn (FR (some l)) 0 P (FU GL n S' M' w2 (lv mk jm)) a' w2:=by obtain⟨T,hT,hk⟩:=hk;exact hy S' _ M' μ' T a' w2 (h''.subQ hT) hk
   refine wpIn_mono hb ?_;rintro e2 a3 w3 ⟨st3,⟨rfl,lf,j9⟩,S3,hg3,M3,μ3,h3,hm3,hkeep3⟩;obtain⟨M4,h4,m4⟩:=h3.frzNs lf;have hS'l:S'.p l:=vo.p l hSl;have hl3:w3.heap[l]? =some (.loop {q.lp ts with state:=.busy}):=(hkeep3.block l hS'l).trans (by rw[<-hw2];exact World.putObj_heap_same (OI hl1));have wl:=run_endRound (P:=P) jm.code hl3;have hgo:jm.code.isNone=jm.go:=by cases jm<;>rfl
   rw[hgo]at wl;have hpinq:∀m,pinned m->μ3 m=μr m:=fun m hp=>by rw[h4.pin m hp,hg3.q,vo.q]
   have hlsz:l<w3.heap.size:=OI hl3;have hMle:Mr.le M4:=Mem.le_trans hm.le (Mem.le_trans hm3.le m4.le);have hS3:∀b,(AN μr ((5499,.lp l q L)::mj) wr).p b->S3.p b:=fun b hb=>hg3.p b (vo.p b (.inl hb))
   have hun4:M4.unk l:=Mem.unk_same (Mem.unk_same hun (hm3.old l hS'l)) (m4.old l (hg3.p l hS'l));have hs3:StoOk S3.p M4 μ3 mk w3:=h4.toStoOk.part (Kz j9) fun nm b hb=>Js hcl' nm b hb
   have hnl3:∀m k,names mk m->An (μ3 m)=some k->k≠l:=fun m k hm hk e=>(hs3.lt hm hk).2.1 (e▸hg3.p l hS'l)
   have hl4:(w3.putObj l (.loop {(q.lp ts)with state:=if jm.go=true then .ready else .done,pending:=jm.code})).heap[l]? =some (.loop (({q with jump:=jm.code}:LQ).lp ts)):=by rw[World.putObj_heap_same hlsz];cases jm<;>rfl
   have fin:∃v,Ending.returned (Value.bool jm.go)=.returned v/\∃r sto' M' μ',(r=D.i (.bool jm.go)/\sto'=(5499,.lp l {q with jump:=jm.code} L)::mk)/\StoOk (AN μr ((5499,.lp l q L)::mj) wr) M' μ' sto' (w3.putObj l (.loop {(q.lp ts)with state:=if jm.go=true then .ready else .done,pending:=jm.code}))/\AI M' μ' (names sto') r v/\
     MExt (AN μr ((5499,.lp l q L)::mj) wr) Mr M'/\Keeps (AN μr ((5499,.lp l q L)::mj) wr) wr (w3.putObj l (.loop {(q.lp ts)with state:=if jm.go=true then .ready else .done,pending:=jm.code}))/\∀nm,names ((5499,.lp l q L)::mj) nm->nm∉mv->μ' nm=μr nm:=by
    have hs4:StoOk (AN μr ((5499,.lp l q L)::mj) wr).p M4 μ3 mk (w3.putObj l (.loop {(q.lp ts)with state:=if jm.go=true then .ready else .done,pending:=jm.code})):=
     (hs3.reS (fun m k _ _ hS=>hS3 k hS) (fun b hb=>hs3.low b (hS3 b hb))).putN hun4 fun m hm e=>hnl3 m l hm e rfl
    have hbind:=hs4.bind (nm:=5499) (b:=.lp l {q with jump:=jm.code} L) (x:=.pointer (some ⟨l,0,none⟩)) h5' ⟨ts,Bq _ _ _,⟨jc.low,hl4,hun4⟩,j0,fun j a b=>by
     refine(hrs j a b).mono' hMle fun m hm _=>?_
     simp only[okL,List.all_eq_true,Bool.and_eq_true]at hL';obtain⟨q1,q2⟩:=hL' _ (List.getElem_mem a);have q3:=q2 m hm;simp only[Nat.ble_eq,Nat.blt_eq]at q3;exact⟨Gq m (Fl q1 m hm),by rw[CY _ _ (by omega)];exact hpinq m ⟨q3.1,by omega⟩⟩⟩ (fun m k hm hk=>by
     simp only[An];intro e;cases e;exact hnl3 m l hm hk rfl)
    have hup3:BP μ3 5499 (.pointer (some ⟨l,0,none⟩))=μ3:=by
     funext m;by_cases e:m=5499
     ·subst e;rw[Bq,hpinq 5499 ⟨by omega,by omega⟩,hμ]
     ·rw[CY _ _ e]
    rw[hup3]at hbind;refine⟨_,rfl,_,_,M4,μ3,⟨rfl,rfl⟩,hbind,AM (.bool _),⟨hMle,fun b hb=>?_⟩,?_,fun nm jl hmv=>?_⟩
    ·exact Mem.same_trans (hm.old b (.inl hb)) (Mem.same_trans (hm3.old b (vo.p b (.inl hb))) (m4.old b (hS3 b hb)))
    ·have hnsl:¬(AN μr ((5499,.lp l q L)::mj) wr).p l:=jc.low;have k1:Keeps (AN μr ((5499,.lp l q L)::mj) wr).p wr w':=xe.mono fun b hb=>.inl hb
     have put:∀{A B:World} {o:Obj},Keeps (AN μr ((5499,.lp l q L)::mj) wr).p A B->Keeps (AN μr ((5499,.lp l q L)::mj) wr).p A (B.putObj l o):=fun h=>
      ⟨h.os,h.tape,h.output,by rw[World.putObj_size];exact h.size,fun k hk=>by rw[World.putObj_heap_other (k:=k) (r:=l) (fun e=>hnsl (by rw[e]at hk;exact hk))];exact h.block k hk,h.drawn⟩
     have k2:Keeps (AN μr ((5499,.lp l q L)::mj) wr).p wr w2:=by rw[<-hw2];exact put k1
     exact put (k2.trans (hkeep3.mono fun b hb=>vo.p b (.inl hb)))
    ·by_cases e:nm=5499
     ·subst e;exact hpinq 5499 ⟨by omega,by omega⟩
     ·have:names mj nm:=by simp only[names,Aa,if_neg (Ne.symm e)]at jl;exact jl
      exact(lJ kg nm this).elim (hpinq nm) (fun hc=>(hmv hc).elim)
   cases jm with
   |none=>exact⟨_,_,wl,fin⟩
   |ret=>exact⟨_,_,wl,fin⟩
   |exit id=>exact⟨_,_,wl,fin⟩
  |_=>exact hk.elim
theorem lL{k:Nat}{q:LQ}{L:List D}(h:SK mv l=true)(hL:okL l L=true)(h99:KG l=true):SK mv ((5499,.lp k q L)::l)=true:=by
 have hc:=Fo h;simp only[SK,Bool.and_eq_true,List.map_cons,List.all_cons]at h⊢;refine⟨⟨⟨by rw[Bool.or_eq_true];left;decide,h.1.1⟩,?_⟩,?_⟩
 rotate_left
 ·grind[Ep,CE,names,Pb]
 grind[Qo,FX,OL,Blk.nms,okL,Gq,Fl]
theorem X3{f:List (Nat×Nat)}:∀{L:List D} {i:Nat} {e:Env},Iu f i L e->∀j (h:j<L.length),L[j]=.any\/Aj e (i+j)=J8 (J6 f) L[j]
 |[],i,e,_,j,h=>by simp at h
 |x::xs,i,e,hs,0,h=>hs.1
 |x::xs,i,e,hs,j+1,h=>by have:=X3 hs.2 j (by simpa using h);grind
theorem lM{g':Nat->Nat}(hg:∀m,g' (g m)=m){l:List (Nat×Blk)}(h:Qo l l=true):∀nm b,Aa (J5 g l) nm=some b->∀m∈b.nms,names (J5 g l) m:=fun nm b hb m hm=>by obtain⟨o,b0,h1,rfl,rfl⟩:=Tx (fun a b _ _ e=>by rw[<-hg a,e,hg]) hb;obtain⟨p,hp,rfl⟩:=lI hm;exact G7 (Js h o b0 h1 p hp)
theorem lN(h:Rel GL n S M μ st a w){g:Operand}{ps:Array Tmp}{x y:Code}{og:O}{ix iy:J}{K:Exit->St->Prop}(hg:cO GL g=some og)(we:∀p∈ps.toList,p<n)
  (hx:∀(l:Nat) (S:Sh) (K:Exit->St->Prop) (M:Mem) (μ:Place) (st:St) (a:Act) (w:World),Rel GL n S M μ st a w->W2 P GL ix K st->x.wpIn (FR (some l)) 0 P (FU GL n S M w K) a w)
  (hy:∀(l:Nat) (S:Sh) (K:Exit->St->Prop) (M:Mem) (μ:Place) (st:St) (a:Act) (w:World),Rel GL n S M μ st a w->W2 P GL iy K st->y.wpIn (FR (some l)) 0 P (FU GL n S M w K) a w)
  (hs:rfW P GL n og ps.toList (W2 P GL ix) (W2 P GL iy) K st):(Code.rangeFunc g ps x y).wpIn (FR none) 0 P (FU GL n S M w K) a w:=by
 obtain⟨gf,caps,ι,i0,Nx,Fin,e1,k8,hseq,f,L,m,mv,jm,hj0,hV,hm,hLn,hsubL,hf99,j9,hrnd,hend0⟩:=hs;have hgy:Nat.blt gf 1000000000=true:=by unfold De at k8;rw[Bool.and_eq_true]at k8;exact k8.1
 have hro:=Az h hg;rw[e1]at hro;obtain⟨va,vb,hev,_,ra,rb⟩:=(AJ hro).fn_inv;have hva:va=#[]:=by have:=ra.1;simpa using this
 subst hva;rw[show Gn gf=Fn.func gf from if_pos hgy]at hev;refine wpIn_rangeFunc ?_;intro fn _;rw[lj]
 let D:=w.heap.size
 let l:=w.heap.size+1
 let q:LQ:={fn,ps,assign:=x,body:=y,defers:=w.heap.size,jump:=none}
 let c:=J5 (J6 f) (m i0)
 generalize hw1:w.alloc (.deferred (some []))=w1;generalize hw2:w1.alloc (.loop (q.lp a.tmps))=w2;have hsz1:w1.heap.size=w.heap.size+1:=by rw[<-hw1,MV]
 have hsz2:w2.heap.size=w.heap.size+2:=by rw[<-hw2,MV,hsz1]
 refine⟨l,[mkD D],w2,{target:=.fn (.func gf) vb,args:=#[.func (.yield l) #[] #[]]},w2,gf,#[.func (.yield l) #[] #[]]++vb,w2,?_,?_,?_,?_,?_,?_⟩
 ·rw[<-hw2,<-hw1];exact run_enterLoop_outer _ _ _ _ _
 ·simp only[resolve,hev];simp[go_sem]
 ·intro _ _;trivial
 ·simp[invoke,go_sem,Kw k8]
 ·intro hh;simp[Fence.wide]at hh
 have hcl0:Qo (m i0) (m i0)=true:=Fo (hm i0).1;have hcc:∀nm b,Aa c nm=some b->∀p∈b.nms,names c p:=lM (Cb f) hcl0;have hsubg:=Kz j9
 let S1:Sh:=⟨fun b=>S.p b\/b=D,S.q,mkD D::S.ds⟩
 let a1:Act:={a with defers:=mkD D::a.defers}
 have h1:Rel GL n S1 M μ st a1 w1:=by
  refine{toStoOk:=?_,small:=h.small,pin:=h.pin,defers:=?_,size:=h.size,env:=h.env,glob:=h.glob}
  ·rw[<-hw1];refine(h.toStoOk.alloc _).reS (fun k b hk hb hS=>?_) (fun b hb=>?_)
   ·rcases hS with hS|rfl
    ·exact hS
    ·have:=(h.toStoOk.lt hk hb).1;simp only[D]at this;omega
   ·rw[MV];rcases hb with hb|rfl
    ·have:=h.low b hb;omega
    ·simp only[D];omega
  ·show mkD D::a.defers=mkD D::S.ds;rw[h.defers]
 have hA:StoOk (AN μ c w1).p M μ c w1:=h1.toStoOk.hand hsubg hcc;have hA2:StoOk (AN μ c w1).p M μ c w2:=by rw[<-hw2];exact hA.alloc _
 let μ0:Place:=fun k=>μ (J6 f k)
 have hback:J5 (MS f) c=m i0:=FQ (Cb f) (m i0);have hB:StoOk (AN μ c w1).p M μ0 (m i0) w2:=by
  have:=hA2.mp (f:=MS f) (μ':=μ0) (S':=(AN μ c w1).p) (fun a b _ _ e=>by rw[<-Jw f a,e,Jw]) (fun k _=>by show μ (J6 f (MS f k))=μ k;rw[Jw]) (fun _=>Iff.rfl)
  rwa [hback]at this
 have h5:Aa (m i0) 5499=none:=Pb (hm i0).2.1
 let X:Value:=.pointer (some ⟨l,0,none⟩)
 have hnsl:¬(AN μ c w1).p l:=fun hh=>by have:=hh.1;rw[hsz1]at this;simp only[l]at this;omega
 have hC:StoOk (AN μ c w1).p M (BP μ0 5499 X) ((5499,.lp l q L)::m i0) w2:=by
  refine hB.bind h5 ⟨a.tmps,Bq _ _ _,⟨hnsl,?_,Mem.unk_new h.sub (by simp only[l];omega)⟩,by rw[h.size,hLn],fun j ha hb=>?_⟩ fun k b hk hb=>?_
  ·rw[<-hw2];have:=GY w1 (.loop (q.lp a.tmps));rw[hsz1]at this;exact this
  ·rcases X3 hsubL j ha with e|e
   ·rw[e];trivial
   ·have hr:=h.env j;rw[Nat.zero_add]at e;rw[e]at hr;have ka:a.tmps.getD j Go.undef=a.tmps[j]:=by simp[hb]
    rw[ka]at hr;have hr2:AI M μ (names c) (J8 (J6 f) L[j]) a.tmps[j]:=hr.mono' (Mem.le_refl _) fun p hp _=>by obtain⟨p0,hp0,rfl⟩:=QQ hp;have hL:=(hm i0).2.2.1;simp only[okL,List.all_eq_true,Bool.and_eq_true]at hL;exact⟨G7 (Fl (hL _ (List.getElem_mem ha)).1 p0 hp0),rfl⟩
    have:=hr2.mp (f:=MS f) (N':=names ((5499,.lp l q L)::m i0)) (μ':=BP μ0 5499 X) (fun p hp=>by
     have:=G7 (f:=MS f) hp;rw[hback]at this;exact Gq _ this) (fun p hp=>by
     have:=G7 (f:=MS f) hp;rw[hback]at this;rw[CY _ _ (fun e=>by rw[e]at this;simp[names,h5]at this)];show μ (J6 f (MS f p))=μ p;rw[Jw])
    rw[Ex (Cb f)]at this;exact this
  ·have:=(hB.lt hk hb).2.1;simp only[X,An];intro e;cases e;have qn:=hA.lt (m:=J6 f k) (by have:=G7 (f:=J6 f) hk;exact this) (k:=l) hb;have:=qn.1;rw[hsz1]at this;simp only[l]at this;omega
 have hP:(AN (BP μ0 5499 X) ((5499,.lp l q L)::m i0) w2).p=(AN μ c w1).p:=by
  funext b;refine propext ⟨fun hb=>?_,fun hb=>?_⟩
  ·have qp:b≠l:=fun e=>hb.2 5499 Eo (by rw[Bq,e];rfl)
   refine⟨?_,fun k hk e=>?_⟩
   ·have:=hb.1;rw[hsz2]at this;rw[hsz1];simp only[l]at qp;omega
   ·have jk:=G7 (f:=MS f) hk;rw[hback]at jk;refine hb.2 (MS f k) (Gq _ jk) ?_;rw[CY _ _ (fun e=>by rw[e]at jk;simp[names,h5]at jk)];show An (μ (J6 f (MS f k)))=some b;rw[Jw];exact e
  ·refine⟨?_,fun k hk e=>?_⟩
   ·have:=hb.1;rw[hsz1]at this;rw[hsz2];omega
   ·by_cases ek:k=5499
    ·subst ek;rw[Bq]at e;simp only[X,An]at e;cases e;exact hnsl hb
    ·rw[CY _ _ ek]at e;have jk:names (m i0) k:=by simp only[names,Aa,if_neg (Ne.symm ek)]at hk;exact hk
     exact hb.2 (J6 f k) (G7 jk) e
 let qj:ι->LQ:=fun i=>{q with jump:=(jm i).code}
 let m':ι->List (Nat×Blk):=fun i=>(5499,.lp l (qj i) L)::m i
 have hgo0:∀i,(!(jm i).go)=false->jm i=.none:=fun i h=>by
  cases hj:jm i with
  |none=>rfl
  |ret=>rw[hj]at h;cases h
  |exit id=>rw[hj]at h;cases h
 have hqn:∀i,jm i=.none->qj i=q:=fun i h=>by simp only[qj,h];rfl
 have hMC:=hseq (1000000000+l) m' mv (fun i=>!(jm i).go) hV (by show(!(jm i0).go)=false;rw[hj0];rfl) (fun i=>⟨lL (hm i).1 (hm i).2.2.1 (hm i).2.1,by
   show 5499::(m i).map (·.1)=5499::(m i0).map (·.1);rw[(hm i).2.2.2]⟩) (fun i xx i' hx' hi=>by
   have kh:=hgo0 i hi;obtain⟨r1,r2⟩:=hrnd i xx i' hx' kh;have:=lK (P:=P) (GL:=GL) (n:=n) (q:=q) (l:=l) (mv:=mv) (ix:=ix) (iy:=iy) h.small rfl (hx l) (hy l) (hm i).1 (hm i').1 (hm i).2.1 (hm i').2.1 (hm i).2.2.1 (hm i').2.2.1 hLn r1 we r2;have e2:m' i=(5499,.lp l q L)::m i:=by simp only[m',hqn i kh]
   rw[e2];refine this.mono ?_;rintro r s ⟨rfl,rfl⟩;exact⟨by show Dl.D.i (.bool (jm i').go)=Dl.D.i (.bool (!!(jm i').go));rw[Bool.not_not],rfl⟩)
 have hm'0:m' i0=(5499,.lp l q L)::m i0:=by simp only[m',hqn i0 hj0]
 rw[hm'0]at hMC;have jz:Dq M (BP μ0 5499 X) (names ((5499,.lp l q L)::m i0)) (.i (.fn (1000000000+l) [] [])::caps.map .i) (#[Value.func (.yield l) #[] #[]]++vb).toList:=by
  have e:Gn (1000000000+l)=.yield l:=by unfold Gn;rw[if_neg (by rw[X2];simp),Nat.add_sub_cancel_left]
  have hy0:AI M (BP μ0 5499 X) (names ((5499,.lp l q L)::m i0)) (.i (.fn (1000000000+l) [] [])) (.func (.yield l) #[] #[]):=by rw[<-e];exact AM (Rep.fn _ [] [] #[] #[] (.inr rfl) rfl rfl (fun j hj=>by simp at hj) (fun j hj=>by simp at hj))
  have hb:=S6 (μ:=BP μ0 5499 X) (N:=names ((5499,.lp l q L)::m i0)) rb;have:=OU (xs:=[.i (.fn (1000000000+l) [] [])]) (vs:=[Value.func (.yield l) #[] #[]]) ⟨rfl,fun j ha hb=>by
   have:j=0:=by simpa using ha
   subst this;exact hy0⟩ hb
  simpa using this
 refine callsIn_wide.2 (((hMC M _ w2 _ (by rw[hP];exact hC) h.glob jz).calls k8).mono ?_);rintro e w3 ⟨v,rfl,r,sto',M',μ',⟨rfl,N,qr,rfl⟩,k1,_,k3,k4,k5⟩;obtain⟨hfr,wg,ww,hK⟩:=hend0 N (qr.imp (fun q e=>by have q2:(!(jm N).go)=true:=q;rw[e]at q2;cases q2) id);have hm'N:m' N=(5499,.lp l (qj N) L)::m N:=rfl;rw[hm'N]at k1;rw[hP]at k1 k3 k4;obtain⟨ts,hμ',hown',_,_⟩:=k1.blk 5499 (.lp l (qj N) L) (by simp[Aa]);have hqN:(qj N).jump=(jm N).code:=rfl;have hnb:(((qj N).lp ts).state)≠.busy:=by show(if(qj N).jump.isNone=true then LoopState.ready else .done)≠.busy;split<;>simp
 have wl:=run_endLoop (P:=P) hown'.heap hnb;refine⟨(jm N).code,_,by rw[wl];show Result.ok (qj N).jump _=_;rw[hqN],?_⟩;generalize hw4:w3.putObj l (.loop {(qj N).lp ts with state:=.exhausted})=w4;have h5N:Aa (m N) 5499=none:=Pb (hm N).2.1;have hclN:Qo (m N) (m N)=true:=Fo (hm N).1;have hupN:∀k b,Aa (m N) k=some b->Aa ((5499,.lp l (qj N) L)::m N) k=some b:=fun k b hb=>by simp only[Aa];rw[if_neg (fun e=>by subst e;rw[h5N]at hb;cases hb)];exact hb
 have hs4:StoOk (AN μ c w1).p M' μ' (m N) w4:=by
  rw[<-hw4];refine(k1.part hupN fun nm b hb=>Js hclN nm b hb).putN hown'.unk fun k hk e=>?_
  refine k1.sep k 5499 l l (fun e=>by subst e;simp[names,h5N]at hk) ?_ (Eo) e (by rw[hμ'];rfl) rfl;obtain⟨b,hb⟩:=Option.isSome_iff_exists.1 hk;simp[names,hupN k b hb]
 let μ3:Place:=fun k=>μ' (MS f k)
 have hs5:StoOk (AN μ c w1).p M' μ3 (J5 (J6 f) (m N)) w4:=
  hs4.mp (f:=J6 f) (fun a b _ _ e=>by rw[<-Cb f a,e,Cb]) (fun k _=>by show μ' (MS f (J6 f k))=μ' k;rw[Cb]) (fun _=>Iff.rfl)
 have xe:Keeps (AN μ c w1).p w1 w4:=by
  have q1:Keeps (AN μ c w1).p w1 w2:=by rw[<-hw2];exact Gp _ _ fun k hk=>hk.1
  have q2:=q1.trans k4;rw[<-hw4];exact⟨q2.os,q2.tape,q2.output,by rw[World.putObj_size];exact q2.size,fun k hk=>by rw[World.putObj_heap_other (k:=k) (r:=l) (fun e=>hnsl (by rw[e]at hk;exact hk))];exact q2.block k hk,q2.drawn⟩
 obtain⟨μ2,hRel,hME,hKe,_⟩:=h1.afterCall (mv:=mv.map (J6 f)) (d:=999) (by omega) hsubg hs5 k3 xe (fun nm jl hmv=>by
   have jk:=G7 (f:=MS f) jl;rw[hback]at jk;have h99:MS f nm≠5499:=fun e=>by rw[e]at jk;simp[names,h5]at jk
   have:=k5 (MS f nm) (Gq _ jk) (fun hc=>hmv (List.mem_map.2 ⟨_,hc,Jw f nm⟩));show μ' (MS f nm)=μ nm;rw[this,CY _ _ h99];show μ (J6 f (MS f nm))=μ nm;rw[Jw])
  (fun nm jl=>hfr nm (CE.2 jl)) (fun nm jl hp=>by rw[List.all_eq_true]at ww;have:=ww nm jl;unfold pinned at hp;simp only[Bool.or_eq_true,Nat.blt_eq,Nat.ble_eq]at this;omega) (fun nm q1 q2=>wg nm (CE.2 q1) q2)
 have j8:FS GL n S M w (DN st c (J5 (J6 f) (m N)) (mv.map (J6 f)) 999) a1 w4:=by
  refine⟨S1,⟨fun b hb=>.inl hb,rfl,[D],rfl,by simp,fun b hb=>?_⟩,M',μ2,hRel,hME.less fun b hb=>.inl hb,?_⟩
  ·have:b=D:=by simpa using hb
   subst this;refine⟨.inr rfl,fun hh=>?_,?_⟩
   ·have:=h.low _ hh;simp only[D]at this;omega
   ·rw[hKe.block D (.inr rfl),<-hw1];exact GY w _
  ·have q1:Keeps S.p w w1:=by rw[<-hw1];exact Gp _ _ h.low
   exact q1.trans (hKe.mono fun b hb=>.inl hb)
 generalize jm N=j at hK;cases j with
 |none=>exact⟨_,hK,j8⟩
 |ret=>exact wpIn_ret ⟨_,hK,j8⟩
 |exit id=>exact wpIn_exit ⟨_,hK,j8⟩
end
end Go.Dl
end
