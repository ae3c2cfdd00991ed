/-
  Lemmas, no statement.
-/
import Derived.Test.YtojgbkiejjingaaGreatDoorK29
set_option linter.all false
namespace Go.Dl
open Go Go.RowKit
variable{K:St->Prop}{r:List GI}{ins:Ins}{E:List GI->St->(St->Prop)->Prop}
def Fe(s:Nat)(w:Bool):List GI->Option (List GI×O×Nat×List GI)
 |[]=>none
 |⟨none,.pick d (.t q) x y⟩::r=>if q=s then(if w then(match y with|.c (.bool false)=>some ([],x,d,r)|_=>none)else match x with|.c (.bool true)=>some ([],y,d,r)|_=>none)else none
 |g::r=>match Fe s w r with
  |some (b,o,d,r')=>some (g::b,o,d,r')
  |none=>none
def F1:Ins->Bool
 |.call (some _) _ _=>true
 |.callv (some _) _ _=>true
 |i=>(Bp i).isSome
def D3(s:Nat)(w:Bool):List Nat->List GI->Bool
 |_,[]=>true
 |ds,g::r=>(match g.gd with|some (q,u)=>(q==s&&u==w)||ds.contains q|none=>false)&&F1 g.ins&&(match g.ins.dst with|some d=>d !=s&&D3 s w (d::ds) r|none=>false)
def KW(s:Nat)(w:Bool)(g:GI):GI:=match g.gd with|some (q,u)=>if q=s/\u=w then⟨none,g.ins⟩else g|none=>g
def CO(s:Nat)(w:Bool)(l:List GI):List GI:=l.map (KW s w)
def BY(l:List GI):List Nat:=l.filterMap fun g=>g.ins.dst
def Ce(f:Nat->D):Nat->List Nat->St->St
 |_,[],st=>st
 |k,d::ds,st=>Ce f (k+1) ds (st.put d (f k))
def rL(w b v:Bool):Bool:=if w then b&&v else b||v
section
variable {P:Program}{GL:List (Nat×List I)}{sn:List Nat}{s:Nat}{w:Bool}
theorem US(f:Nat->D):∀(ds:List Nat) (k:Nat) (st:St),s∉ds->Af (Ce f k ds st).env s=Af st.env s
 |[],_,_,_=>rfl
 |d::ds,k,st,h=>by simp only[Ce];rw[US f ds _ _ (fun hm=>h (List.mem_cons_of_mem _ hm))];grind[St.put,Af]
theorem UT(f g:Nat->D):∀(ds:List Nat) (k:Nat) (st:St),(∀j,k<=j->f j=g j)->Ce f k ds st=Ce g k ds st
 |[],_,_,_=>rfl
 |d::ds,k,st,h=>by simp only[Ce,h k (Nat.le_refl _)];exact UT f g ds (k+1) _ fun j hj=>h j (by omega)
def Qy(k:Nat)(x:D)(f:Nat->D):Nat->D:=fun j=>if j=k then x else f j
theorem bR(k:Nat)(x:D)(f:Nat->D)(d:Nat)(ds:List Nat)(st:St):Ce (Qy k x f) k (d::ds) st=Ce f (k+1) ds (st.put d x):=by grind[Ce,Qy,UT]
theorem bS(h:F1 ins=true):FQ ins=true:=by cases ins<;>first|rfl|exact h|(simp only[F1,Bp,Option.isSome_none,Bool.false_eq_true]at h;done)|(rename_i d _ _;cases d<;>first|rfl|simp[F1,Bp]at h)
theorem UU{st:St}{d:Nat}(hi:F1 ins=true)(hd:ins.dst=some d)(h:Ae P GL sn ins st K):Ae P GL sn ins st (fun s'=>K s'/\∃x,s'=st.put d x):=by
 cases ins
 case call d' f args=>
  cases d' with
  |none=>simp[Ins.dst]at hd
  |some d'=>simp only[Ins.dst,Option.some.injEq]at hd;subst hd;obtain⟨h1,y,h2,h3⟩:=h;exact⟨h1,y,h2,h3,_,rfl⟩
 case callv d' f args=>
  cases d' with
  |none=>simp[Ins.dst]at hd
  |some d'=>
   simp only[Ins.dst,Option.some.injEq]at hd;subst hd;obtain⟨h0,h1,h⟩:=h;refine⟨h0,h1,?_⟩;split at h
   ·obtain⟨y,h2,h3⟩:=h;exact⟨y,h2,h3,_,rfl⟩
   ·exact h.elim
 all_goals first
  |(simp[F1,Bp]at hi;done)
  |(simp only[Ins.dst,Option.some.injEq]at hd
    subst hd;obtain⟨h0,h⟩:=h;obtain⟨h1,h2⟩:=(L9 P GL rfl st _).1 h;exact⟨h0,(L9 P GL rfl st _).2 ⟨h1,h2,_,rfl⟩⟩)
theorem UV{st:St}(hi:F1 ins=true)(h:Ae P GL sn ins st K):step P GL ins (frzNs (Av GL ins st) st) K:=by
 obtain⟨x,hp,hk⟩:=Uj (bS hi) h;have hpre:Av GL ins st=[]:=by
  have noD:∀v:D,G5 v=true->v.nms=[]:=fun v hv=>by cases v<;>simp[G5]at hv;rfl
  have no1:∀os:List O,(∀o∈os,G5 (AL GL st o)=true)->oN GL st os=[]:=fun os ho=>by simp_all[AL,oN,DW]
  cases ins
  case bsn d e k ps=>
   obtain⟨_,h2,_⟩:=hp;simp only[pv,List.all_eq_true,Bool.and_eq_true]at h2;exact no1 _ fun o ho=>(h2.2 o ho).1.1
  case build d zs ps=>
   obtain⟨_,h2,_⟩:=hp;simp only[pv,List.all_eq_true,Bool.and_eq_true]at h2;exact no1 _ fun o ho=>by grind
  case load d x k ag=>
   cases ag with
   |false=>rfl
   |true=>
    obtain⟨_,h2,_⟩:=hp;simp only[Av];unfold rW;split
    ·rename_i nm off e;simp only[pv,e]at h2;split at h2
     ·rename_i cs hg;have ha:=h2.2 trivial;have:LW (Ac st.sto nm) off k=[]:=by simp_all[LW,Bk]
      rw[this];rfl
     ·exact h2.elim
    ·rfl
  case ofb d x=>
   obtain⟨_,h2,_⟩:=hp;simp only[pv]at h2;refine no1 _ fun o ho=>?_
   simp only[List.mem_singleton]at ho;subst ho;split at h2
   ·rename_i e;rw[e];rfl
   ·exact h2.elim
  all_goals first
   |rfl
   |(simp[F1,Bp]at hi;done)
 rw[hpre];exact JQ hp hk
theorem Oe{ds:List Nat}{g:GI}(h:D3 s w ds (g::r)=true):∃q u d,g.gd=some (q,u)/\((q=s/\u=w)\/q∈ds)/\F1 g.ins=true/\g.ins.dst=some d/\d≠s/\D3 s w (d::ds) r=true:=by grind[D3]
structure Evl(P:Program)(GL:List (Nat×List I))(sn:List Nat)(E:List GI->St->(St->Prop)->Prop):Prop where
 go:∀g r st K,F1 g.ins=true->g.gd=none->Ae P GL sn g.ins st (fun s=>E r s K)->E (g::r) st K
 gd:∀q u i r st K,F1 i=true->YU (Af st.env q) u (Ae P GL sn i st fun s=>E r s K) (E r (Bg i st) K)->E (⟨some (q,u),i⟩::r) st K
theorem Evl.yes{E:List GI->St->(St->Prop)->Prop}(hE:Evl P GL sn E){tail:List GI}{K:St->Prop}:∀(l:List GI) (ds:List Nat) (st:St),D3 s w ds l=true->Af st.env s=.i (.bool w)->
  evD P GL sn (CO s w l) st (fun st'=>E tail st' K)->E (l++tail) st K
 |[],ds,st,_,_,h=>h
 |g::r,ds,st,kc,hs,h=>by
  obtain⟨q,u,d,e,hq,hi,hd,zz,hr⟩:=Oe kc;have next:∀st',evD P GL sn (CO s w r) st' (fun st'=>E tail st' K)->Af st'.env s=.i (.bool w)->E (r++tail) st' K:=fun st' h' wu=>Evl.yes hE r (d::ds) st' hr wu h'
  have keep:∀st' x,st'=st.put d x->Af st'.env s=.i (.bool w):=fun st' x e=>by grind[St.put,Af]
  have put:∀{st0:St} {K1 K2:St->Prop},Ae P GL sn g.ins st0 K1->(∀x,K1 (st0.put d x)->K2 (st0.put d x))->Ae P GL sn g.ins st0 K2:=fun{st0 K1 K2} h1 h2=>
   Qf (UU hi hd h1) fun s' ⟨k1,x,e⟩=>by grind
  obtain⟨gd,ins⟩:=g;simp only at e hi hd hq;subst e;show E (⟨some (q,u),ins⟩::(r++tail)) st K;refine hE.gd q u ins _ st K hi ?_;grind[CO,KW,evD,YU,Ss,Mi,Bg]
theorem Of{g:GI}{st:St}:evD P GL sn (g::r) st K↔match g.gd with
   |none=>Ae P GL sn g.ins st fun s'=>evD P GL sn r s' K
   |some (q,u)=>YU (Af st.env q) u (Ae P GL sn g.ins st fun s'=>evD P GL sn r s' K) (evD P GL sn r (Bg g.ins st) K):=by
 obtain⟨gd,ins⟩:=g;cases gd with
 |none=>exact Iff.rfl
 |some p=>exact Iff.rfl
theorem UW{K:St->Prop}:∀(l:List GI) (ds:List Nat) (st:St) (k:Nat),D3 s w ds l=true->evD P GL sn (CO s w l) st K->evD P GL sn (CO s w l) st (fun st'=>K st'/\∃f,st'=Ce f k (BY l) st)
 |[],ds,st,k,_,h=>⟨h,fun _=>.any,rfl⟩
 |g::r,ds,st,k,kc,h=>by
  obtain⟨q,u,d,e,hq,hi,hd,zz,hr⟩:=Oe kc;have zA:BY (g::r)=d::BY r:=by simp[BY,hd]
  have ins1:(KW s w g).ins=g.ins:=by grind[KW]
  have fin:∀x,evD P GL sn (CO s w r) (st.put d x) K->evD P GL sn (CO s w r) (st.put d x) (fun st'=>K st'/\∃f,st'=Ce f k (BY (g::r)) st):=fun x hx=>by refine Mj (UW r (d::ds) _ (k+1) hr hx) ?_;rintro s' ⟨k1,f,rfl⟩;exact⟨k1,Qy k x f,by rw[zA,bR]⟩
  have st1:Ae P GL sn g.ins st (fun s'=>evD P GL sn (CO s w r) s' K)->Ae P GL sn g.ins st (fun s'=>evD P GL sn (CO s w r) s' (fun st'=>K st'/\∃f,st'=Ce f k (BY (g::r)) st)):=fun h1=>by refine Qf (UU hi hd h1) ?_;grind
  have h:Dl.evD P GL sn (KW s w g::CO s w r) st K:=h;grind[KW,CO,Of,Mi,Bg]
theorem Evl.no{E:List GI->St->(St->Prop)->Prop}(hE:Evl P GL sn E){tail:List GI}{K:St->Prop}{b:Bool}(hb:(b==w)=false):∀(l:List GI) (ds:List Nat) (st:St) (k:Nat),D3 s w ds l=true->Af st.env s=.i (.bool b)->(∀q∈ds,Af st.env q=.i .undef)->
  E tail (Ce (fun _=>.i .undef) k (BY l) st) K->E (l++tail) st K
 |[],ds,st,k,_,_,_,h=>h
 |g::r,ds,st,k,kc,hs,hu,h=>by
  obtain⟨q,u,d,e,hq,hi,hd,zz,hr⟩:=Oe kc;have zA:BY (g::r)=d::BY r:=by simp[BY,hd]
  rw[zA]at h;simp only[Ce]at h;have hnext:E (r++tail) (Bg g.ins st) K:=by
   simp only[Bg,hd];refine Evl.no hE hb r (d::ds) _ (k+1) hr ?_ ?_ h
   all_goals grind[St.put,Af]
  obtain⟨gd,ins⟩:=g;simp only at e hi hd hq hnext;subst e;show E (⟨some (q,u),ins⟩::(r++tail)) st K;refine hE.gd q u ins _ st K hi ?_;grind[YU,Su]
theorem bT:∀{l b r:List GI} {o:O} {d:Nat},Fe s w l=some (b,o,d,r)->l=b++⟨none,.pick d (.t s) (if w then o else .c (.bool true)) (if w then .c (.bool false)else o)⟩::r:=by
 intro l
 induction l with
 |nil=>intro b r o d h;simp[Fe]at h
 |cons g l ih=>
  intro b r o d h;have other:∀g:GI,(match Fe s w l with|some (b,o,d,r')=>some (g::b,o,d,r')|none=>none)=some (b,o,d,r)->g::l=b++⟨none,.pick d (.t s) (if w then o else .c (.bool true)) (if w then .c (.bool false)else o)⟩::r:=fun g h=>by grind
  unfold Fe at h;grind
theorem Evl.ev:Evl P GL sn (Dl.ev P GL) where
 go:=fun g r st K hi hg h=>by grind[IX,UV]
 gd:=fun q u i r st K hi h=>by grind[IX,Mi,UV]
theorem Evl.evD:Evl P GL sn (Dl.evD P GL sn) where
 go:=fun g r st K hi hg h=>by grind[Of]
 gd:=fun q u i r st K hi h=>by grind[Of]
theorem Evl.sc(hE:Evl P GL sn E)(hpk:∀d s x y r st K,Db (AL GL st (.t s)) d (AL GL st x) (AL GL st y) st (fun s'=>E r s' K)->E (⟨none,.pick d (.t s) x y⟩::r) st K)
  {s:Nat}{b w v:Bool}{l blk r':List GI}{R:O}{d:Nat}{st:St}{K:St->Prop}(z1:Fe s w l=some (blk,R,d,r'))(kc:D3 s w [] blk=true)(hs:Af st.env s=.i (.bool b))
  (h1:b=w->Dl.evD P GL sn (CO s w blk) st (fun st'=>AL GL st' R=.i (.bool v)))(h2:∀f,E r' ((Ce f 0 (BY blk) st).put d (.i (.bool (rL w b v)))) K):E l st K:=by
 rw[bT z1];have hpick:∀f st',st'=Ce f 0 (BY blk) st->(∀x,AL GL st' (if w then R else .c (.bool true))=x->∀y,AL GL st' (if w then .c (.bool false)else R)=y->Af st'.env s=.i (.bool b)->(if b then x else y)=.i (.bool (rL w b v)))->s∉BY blk->
   E (⟨none,.pick d (.t s) (if w then R else .c (.bool true)) (if w then .c (.bool false)else R)⟩::r') st' K:=fun f st' e hv hns=>by
  have hg:Af st'.env s=.i (.bool b):=by grind[US]
  have:=hv _ rfl _ rfl hg;refine hpk _ _ _ _ _ _ _ ?_;have qq:AL GL st' (.t s)=.i (.bool b):=hg;rw[qq];simp only[Db];cases b with
  |true=>rw[Ss];simp only[if_true]at this;rw[this,e];exact h2 f
  |false=>rw[Su];simp only[Bool.false_eq_true,if_false]at this;rw[this,e];exact h2 f
 have hns:s∉BY blk:=by
  have:∀(l:List GI) (ds:List Nat),D3 s w ds l=true->s∉BY l:=by
   intro l
   induction l with
   |nil=>intro ds _ hm;simp[BY]at hm
   |cons g l ih=>grind[Oe,BY]
  grind
 by_cases hb:b=w
 ·subst hb;refine hE.yes blk [] st kc hs ?_;refine Mj (UW blk [] st 0 kc (h1 rfl)) ?_;rintro st' ⟨hR,f,rfl⟩;refine hpick f _ rfl ?_ hns;intro x hx y hy _;cases b with
  |true=>simp only[if_true]at hx⊢;rw[<-hx,hR];rfl
  |false=>simp only[Bool.false_eq_true,if_false]at hy⊢;rw[<-hy,hR];rfl
 ·have hb':(b==w)=false:=by simpa using hb
  refine hE.no hb' blk [] st 0 kc hs (fun q hq=>by cases hq) (hpick _ _ rfl ?_ hns);intro x hx y hy _;cases w with
  |true=>
   have:b=false:=by grind
   subst this;simp only[if_true,Bool.false_eq_true,if_false]at hy⊢;rw[<-hy];rfl
  |false=>
   have:b=true:=by grind
   subst this;simp only[Bool.false_eq_true,if_false,if_true]at hx⊢;rw[<-hx];rfl
theorem bU{s:Nat}{b w v:Bool}{i:Ins}{blk r':List GI}{R:O}{d:Nat}{e:Env}{so:List (Nat×Blk)}(z1:Fe s w (⟨some (s,w),i⟩::r)=some (blk,R,d,r'))(kc:D3 s w [] blk=true)(hs:Af e s=.i (.bool b))
  (h1:b=w->Dl.evD P GL [] (CO s w blk) ⟨e,so⟩ (fun st'=>AL GL st' R=.i (.bool v)))(h2:∀f,Dl.ev P GL r' ((Ce f 0 (BY blk) ⟨e,so⟩).put d (.i (.bool (rL w b v)))) K):Dl.ev P GL (⟨some (s,w),i⟩::r) ⟨e,so⟩ K:=
 Evl.ev.sc (fun _ _ _ _ _ _ _ h=>h) z1 kc hs h1 h2
theorem bV{s:Nat}{b w v:Bool}{i:Ins}{blk r':List GI}{R:O}{d:Nat}{e:Env}{so:List (Nat×Blk)}(z1:Fe s w (⟨some (s,w),i⟩::r)=some (blk,R,d,r'))(kc:D3 s w [] blk=true)(hs:Af e s=.i (.bool b))
  (h1:b=w->Dl.evD P GL sn (CO s w blk) ⟨e,so⟩ (fun st'=>AL GL st' R=.i (.bool v)))(h2:∀f,Dl.evD P GL sn r' ((Ce f 0 (BY blk) ⟨e,so⟩).put d (.i (.bool (rL w b v)))) K):Dl.evD P GL sn (⟨some (s,w),i⟩::r) ⟨e,so⟩ K:=
 Evl.evD.sc (fun _ _ _ _ _ _ _ h=>⟨rfl,h⟩) z1 kc hs h1 h2
theorem Qz {s:Nat}{b w v:Bool}{i:Ins}{r blk r':List GI}{R:O}{d:Nat}{e:Env}{so:List (Nat×Blk)}{K:St->Prop}(z1:Fe s w (⟨some (s,w),i⟩::r)=some (blk,R,d,r'))(kc:D3 s w [] blk=true)(hs:Af e s=.i (.bool b))(h1:b=w->Dl.evD P GL [] (CO s w blk) ⟨e,so⟩ (fun st'=>AL GL st' R=.i (.bool v)))(h2:∀f,Dl.ev P GL r' ((Ce f 0 (BY blk) ⟨e,so⟩).put d (.i (.bool (rL w b v)))) K):bI P GL s (.i (.bool b)) w i r ⟨e,so⟩ K:=by have:=bU (P:=P) (GL:=GL) (so:=so) z1 kc hs h1 h2;rw[IX]at this;simp only[hs]at this;exact this
theorem bW {s:Nat}{b w v:Bool}{i:Ins}{r blk r':List GI}{R:O}{d:Nat}{e:Env}{so:List (Nat×Blk)}{K:St->Prop}(z1:Fe s w (⟨some (s,w),i⟩::r)=some (blk,R,d,r'))(kc:D3 s w [] blk=true)(hs:Af e s=.i (.bool b))(h1:b=w->Dl.evD P GL sn (CO s w blk) ⟨e,so⟩ (fun st'=>AL GL st' R=.i (.bool v)))(h2:∀f,Dl.evD P GL sn r' ((Ce f 0 (BY blk) ⟨e,so⟩).put d (.i (.bool (rL w b v)))) K):bJ P GL s (.i (.bool b)) w sn i r ⟨e,so⟩ K:=by have:=bV (P:=P) (GL:=GL) (so:=so) z1 kc hs h1 h2;rw[Of]at this;simp only[hs]at this;exact this
theorem Al(x:Bool):D.i (I.bool x)=D.i (I.bool x):=rfl
end
theorem xJ:(∀f k st,Ce f k [] st=st)/\(∀f k d ds st,Ce f k (d::ds) st=Ce f (k+1) ds (st.put d (f k)))/\(∀b v,rL true b v=(b&&v))/\(∀b v,rL false b v=(b||v))/\
  (∀s w,CO s w []=[])/\(∀s w q u i r,CO s w (⟨some (q,u),i⟩::r)=(if q=s/\u=w then⟨none,i⟩else⟨some (q,u),i⟩)::CO s w r)/\(BY []=[])/\(∀g i r,BY (⟨g,i⟩::r)=i.dst.toList++BY r)/\(∀d:Nat,(some d).toList=[d]):=by
 and_intros<;>intros<;>first|rfl|(rename_i g i r;cases h:i.dst<;>simp[BY,h])
end Go.Dl
