/-
  Lemmas, no statement.
-/
import Derived.Test.YtojgbkiejjingaaGreatDoorK22
set_option linter.all false
namespace Go.Dl
open Go Go.RowKit
variable{g:Nat->Nat}
def Nv(f:Nat->Nat):Ref->Ref
 |.loc nm off=>.loc (f nm) off
 |.sl nm k lo hi=>.sl (f nm) k lo hi
 |.lel nm k row off=>.lel (f nm) k row off
 |.mp nm=>.mp (f nm)
 |.it nm=>.it (f nm)
def ri(f:Nat->Nat):Cp->Cp
 |.ref r=>.ref (Nv f r)
 |c=>c
def If(f:Nat->Nat):D->D
 |.ref r=>.ref (Nv f r)
 |.fn g first caps=>.fn g (first.map (ri f)) (caps.map (ri f))
 |.tup cs=>.tup (cs.map (ri f))
 |x=>x
def KC(f:Nat->Nat):Blk->Blk
 |.cells cs=>.cells (cs.map (If f))
 |.lp l q cs=>.lp l q (cs.map (If f))
 |.gmap ls clk es=>.gmap ls clk (es.map fun e=>(e.1,e.2.1,If f e.2.2))
 |x=>x
def Ig(f:Nat->Nat):List (Nat×Blk)->List (Nat×Blk)
 |[]=>[]
 |(m,x)::r=>(f m,KC f x)::Ig f r
section
variable {P:Program}{GL:List (Nat×List I)}{n:Nat}{S:Sh}{M:Mem}{μ μ':Place}{N N':Nat->Prop}{f:Nat->Nat}{sto:List (Nat×Blk)}{w:World}{nm:Nat}{st:St}{a:Act}
theorem Bo.mp(hN:∀m,N m->N' (f m))(hμ:∀m,N m->μ' (f m)=μ m){r:Ref}{v:Value}(h:Bo μ N r v):Bo μ' N' (Nv f r) v:=by cases r<;>exact⟨hN _ h.1,by rw[hμ _ h.1];exact h.2⟩
theorem BJ.mp(hN:∀m,N m->N' (f m))(hμ:∀m,N m->μ' (f m)=μ m){x:Cp}{v:Value}(h:BJ M μ N x v):BJ M μ' N' (ri f x) v:=by
 cases x with
 |ref r=>exact Bo.mp hN hμ h
 |_=>exact h
theorem Az.mp(hN:∀m,N m->N' (f m))(hμ:∀m,N m->μ' (f m)=μ m){x:D}{v:Value}(h:Az M μ N x v):Az M μ' N' (If f x) v:=by
 cases x with
 |ref r=>exact Bo.mp hN hμ h
 |fn g first caps=>
  obtain⟨va,vb,e,hy,h1,h2⟩:=h;have key:∀{l:List Cp} {vs:List Value},C9 M μ N l vs->C9 M μ' N' (l.map (ri f)) vs:=fun h=>⟨by simpa using h.1,fun j a b=>by rw[List.getElem_map];exact(h.2 j (by simpa using a) b).mp hN hμ⟩
  exact⟨va,vb,e,hy.imp id (fun q=>by rw[q];rfl),key h1,key h2⟩
 |tup cs=>obtain⟨vs,e,h1⟩:=h;exact⟨vs,e,by simpa using h1.1,fun j a b=>by rw[List.getElem_map];exact(h1.2 j (by simpa using a) b).mp hN hμ⟩
 |_=>exact h
theorem AI.mp{S:Nat->Prop}(hN:∀m,N m->N' (f m))(hμ:∀m,N m->μ' (f m)=μ m){x:Blk}(hn:N nm)(h:AI S M μ N w nm x):AI S M μ' N' w (f nm) (KC f x):=by
 cases x with
 |cells cs=>obtain⟨bb,vs,t,e,ho,hs,hr⟩:=h;exact⟨bb,vs,t,by rw[hμ _ hn];exact e,ho,by simpa using hs,fun j h h'=>by rw[List.getElem_map];exact(hr j (by simpa using h) h').mp hN hμ⟩
 |lp l q cs=>obtain⟨vs,e,ho,hs,hr⟩:=h;exact⟨vs,by rw[hμ _ hn];exact e,ho,by simpa using hs,fun j h h'=>by rw[List.getElem_map];exact(hr j (by simpa using h) h').mp hN hμ⟩
 |gmap ls clk es=>
  obtain⟨bb,xs,e,ho,q1,q2,q3⟩:=h;exact⟨bb,xs,by rw[hμ _ hn];exact e,ho,⟨by simpa using q1.1,fun j a b=>by rw[List.getElem_map];have:=q1.2 j (by simpa using a) b;exact⟨this.1,this.2.1,this.2.2.mp hN hμ⟩⟩,q2,
   fun e he=>by obtain⟨e0,he0,rfl⟩:=List.mem_map.1 he;exact q3 e0 he0⟩
 |_=>simp only[KC,AI]at h⊢;rw[hμ _ hn];exact h
theorem P6(hinj:∀a b,names sto a->names sto b->f a=f b->a=b){m:Nat}{b':Blk}(h:Ac (Ig f sto) m=some b'):∃o b,Ac sto o=some b/\f o=m/\b'=KC f b:=by
 induction sto with
 |nil=>cases h
 |cons x r ih=>grind[Ig,Ac,ED]
theorem E9{m:Nat}(h:names sto m):names (Ig f sto) (f m):=by
 induction sto with
 |nil=>simp[names,Ac]at h
 |cons x r ih=>grind[names,Ac,Ig]
theorem P7(hinj:∀a b,names sto a->names sto b->f a=f b->a=b){m:Nat}(h:names (Ig f sto) m):∃o,names sto o/\f o=m:=by obtain⟨b',hb⟩:=Option.isSome_iff_exists.1 h;grind[P6,names]
theorem StoOk.mp{S S':Nat->Prop}(h:StoOk S M μ sto w)(hinj:∀a b,names sto a->names sto b->f a=f b->a=b)(hμ:∀m,names sto m->μ' (f m)=μ m)(hS:∀b,S' b↔S b):StoOk S' M μ' (Ig f sto) w:=by
 obtain rfl:S'=S:=funext fun b=>propext (hS b)
 refine⟨h.sub,fun nm b' hb=>?_,fun nm nm' k k' jh h1 h2 hk jn=>?_,h.low⟩
 ·obtain⟨o,b,h1,rfl,rfl⟩:=P6 hinj hb;exact(h.blk o b h1).mp (fun m hm=>E9 hm) hμ (by simp[names,h1])
 ·obtain⟨o,g1,rfl⟩:=P7 hinj h1;obtain⟨o',g2,rfl⟩:=P7 hinj h2;rw[hμ _ g1]at hk;rw[hμ _ g2]at jn;exact h.sep o o' k k' (fun e=>jh (by rw[e])) g1 g2 hk jn
theorem CL.mp(hN:∀m,N m->N' (f m))(hμ:∀m,N m->μ' (f m)=μ m){xs:List D}{vs:List Value}(h:CL M μ N xs vs):CL M μ' N' (xs.map (If f)) vs:=
 ⟨by simpa using h.1,fun j a b=>by rw[List.getElem_map];exact(h.2 j (by simpa using a) b).mp hN hμ⟩
theorem El{f:Nat->Nat}(h:∀m,g (f m)=m)(x:D):If g (If f x)=x:=by
 have hR:∀r,Nv g (Nv f r)=r:=fun r=>by cases r<;>simp[Nv,h]
 have hC:∀l:List Cp,l.map (ri g ∘ ri f)=l:=fun l=>by
  induction l with
  |nil=>rfl
  |cons c l ih=>rw[List.map_cons,ih];congr 1;cases c<;>simp[ri,hR]
 cases x<;>simp[If,hR,hC]
theorem aQ{f:Nat->Nat}(h:∀m,g (f m)=m)(x:Blk):KC g (KC f x)=x:=by
 cases x with
 |cells cs=>simp only[KC,List.map_map];congr 1;induction cs with
  |nil=>rfl
  |cons c l ih=>rw[List.map_cons,ih];simp[El h]
 |lp l q cs=>simp only[KC,List.map_map];congr 1;induction cs with
  |nil=>rfl
  |cons c l ih=>rw[List.map_cons,ih];simp[El h]
 |gmap ls clk es=>simp only[KC,List.map_map];congr 1;induction es with
  |nil=>rfl
  |cons c l ih=>rw[List.map_cons,ih];simp[El h]
 |_=>rfl
theorem FN{f:Nat->Nat}(h:∀m,g (f m)=m)(s:List (Nat×Blk)):Ig g (Ig f s)=s:=by
 induction s with
 |nil=>rfl
 |cons x r ih=>obtain⟨k,b⟩:=x;simp[Ig,h,aQ h,ih]
theorem MC.ren(hfg:∀m,g (f m)=m)(hgf:∀m,f (g m)=m){fn:FuncId}{args:List D}{mv:List Nat}{R:D->List (Nat×Blk)->Prop}(h:MC P GL fn args sto mv R):
  MC P GL fn (args.map (If f)) (Ig f sto) (mv.map f) (fun r s=>R (If g r) (Ig g s)):=by
 intro M μ w vs h1 h2 h3;have inj:∀a b,f a=f b->a=b:=fun a b e=>by grind
 have injg:∀a b,g a=g b->a=b:=fun a b e=>by grind
 have hn:∀m,names (Ig f sto) m->names sto (g m):=fun m hm=>by grind[P7]
 have hS:∀b,(AH (fun m=>μ (f m)) sto w).p b↔(AH μ (Ig f sto) w).p b:=fun b=>
  ⟨fun hb=>⟨hb.1,fun m hm=>by have:=hb.2 _ (hn m hm);simpa[hgf]using this⟩,fun hb=>⟨hb.1,fun m hm=>hb.2 _ (E9 hm)⟩⟩
 have k1:StoOk (AH (fun m=>μ (f m)) sto w) M (fun m=>μ (f m)) sto w:=by have:=h1.mp (f:=g) (μ':=fun m=>μ (f m)) (fun a b _ _ e=>injg a b e) (fun m _=>by simp[hgf]) hS;grind[FN]
 have k3:CL M (fun m=>μ (f m)) (names sto) args vs.toList:=by
  have:=h3.mp (f:=g) (μ':=fun m=>μ (f m)) (N':=names sto) hn (fun m _=>by simp[hgf]);rw[List.map_map]at this;have e:args.map (If g ∘ If f)=args:=by
   have:If g ∘ If f=id:=funext fun x=>El hfg x
   simp_all
  grind
 refine(h M _ w vs k1 h2 k3).mono ?_;rintro v w' ⟨r,s',M',μ',hR,q1,q2,q3,q4,q5⟩;have hSe:(AH (fun m=>μ (f m)) sto w).p=(AH μ (Ig f sto) w).p:=funext fun b=>propext (hS b)
 rw[hSe]at q3 q4;refine⟨If f r,Ig f s',M',fun m=>μ' (g m),by simp only[El hfg,FN hfg];exact hR,q1.mp (fun a b _ _ e=>inj a b e) (fun m _=>by simp[hfg]) (fun b=>(hS b).symm),
  q2.mp (fun m hm=>E9 hm) (fun m _=>by simp[hfg]),q3,q4,fun m hm hmv=>?_⟩
 have:=q5 (g m) (hn m hm) (fun hc=>hmv (List.mem_map.2 ⟨g m,hc,hgf m⟩));simpa[hgf]using this
def sw(a b m:Nat):Nat:=if m=a then b else if m=b then a else m
def LL:List (Nat×Nat)->Nat->Nat
 |[],m=>m
 |(a,b)::r,m=>sw a b (LL r m)
def Ih:List (Nat×Nat)->Nat->Nat
 |[],m=>m
 |(a,b)::r,m=>Ih r (sw a b m)
theorem T8(a b m:Nat):sw a b (sw a b m)=m:=by grind[sw]
theorem Hy:∀(l:List (Nat×Nat)) (m:Nat),Ih l (LL l m)=m
 |[],m=>rfl
 |(a,b)::r,m=>by simp only[Ih,LL,T8];exact Hy r m
theorem Cq:∀(l:List (Nat×Nat)) (m:Nat),LL l (Ih l m)=m
 |[],m=>rfl
 |(a,b)::r,m=>by simp only[Ih,LL];rw[Cq r,T8]
theorem MC.as(l:List (Nat×Nat)){fn:FuncId}{args:List D}{mv:List Nat}{R:D->List (Nat×Blk)->Prop}(h:MC P GL fn args sto mv R):
  MC P GL fn (args.map (If (LL l))) (Ig (LL l) sto) (mv.map (LL l)) (fun r s=>R (If (Ih l) r) (Ig (Ih l) s)):=h.ren (Hy l) (Cq l)
theorem P8{l:List Nat}{x:Nat}(h:Dq (x::l)=true):x∉l/\Dq l=true:=by grind[Dq]
def C3:Nat->List D->List (Nat×D)
 |_,[]=>[]
 |i,x::xs=>(i,x)::C3 (i+1) xs
theorem P9:∀(xs:List D) (vs:List Value) (i:Nat),CL M μ N xs vs->∀s (v:Value),(∀h:s-i<vs.length,i<=s->v=vs[s-i])->Az M μ N (B2 (C3 i xs) s) v
 |[],vs,i,h,s,v,hv=>trivial
 |x::xs,vs,i,h,s,v,hv=>by
  simp only[C3,B2];split
  ·rename_i e;subst e;have hl:0<vs.length:=by have:=h.1;simp at this;omega
   rw[hv (by simpa using hl) (Nat.le_refl _)];simp only[Nat.sub_self];have:=h.2 0 (by simp) hl;simpa using this
  ·rename_i jh;cases vs with
   |nil=>have:=h.1;simp at this
   |cons u us=>refine P9 xs us (i+1) ⟨by simpa using h.1,fun j a b=>by have:=h.2 (j+1) (by simpa using a) (by simpa using b);simpa using this⟩ s v (fun hl ji=>?_);grind
end
end Go.Dl
