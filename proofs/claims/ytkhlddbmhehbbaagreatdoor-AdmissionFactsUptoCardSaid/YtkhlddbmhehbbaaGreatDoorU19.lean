/-Lemmas.-/
import Derived.Test.YtkhlddbmhehbbaaGreatDoorU18
set_option linter.all false
set_option maxRecDepth 100000
set_option maxHeartbeats 8000000
namespace Go.Proofs.YtkhlddbmhehbbaaGreatDoor
open Go Go.Dl Go.As Go.Proofs
variable {mx:Int}
attribute[local irreducible] Ah Ai MC W2 EM ev evD step Ad
section
def IT(d:List Nat):Prop:=∀x∈d,x<=1000
theorem xt{target i:Nat}{d:List Nat}{t:Nat}(h:IT d):IT (Dv target i d t):=by
 unfold Dv;split
 ·rename_i jn;intro x hx;rcases List.mem_or_eq_of_mem_set hx with e|e
  ·exact h x e
  ·have:d.getD i 0<=1000:=by
    rcases Nat.lt_or_ge i d.length with q|q
    ·rw[List.getD,List.getElem?_eq_getElem q];exact h _ (List.getElem_mem q)
    all_goals grind
   omega
 ·exact h
theorem U0{target i:Nat}:∀{r:List Nat} {d:List Nat},IT d->IT (C8 target i r d)
 |[],d,h=>h
 |t::r,d,h=>U0 (target:=target) (i:=i) (r:=r) (d:=Dv target i d t) (xt h)
theorem U1{to:List (List Nat)}{target:Nat}:∀{n:Nat} {d:List Nat},IT d->IT (Cm to target n d)
 |0,d,h=>h
 |n+1,d,h=>by rw[N4];exact U0 (U1 h)
theorem xu(target i:Nat)(r d:List Nat)(k:Nat)(h:k<r.length):C8 target i (r.take (k+1)) d=Dv target i (C8 target i (r.take k) d) (r.getD k default):=by rw[List.take_succ_eq_append_getElem h,C8,List.foldl_append,AS h];rfl
theorem aP(n v:Nat):CR (List.replicate n v)=n*v:=by
 induction n with
 |zero=>simp[CR]
 |succ n ih=>rw[List.replicate_succ,CR,ih,Nat.succ_mul];omega
def JM(n i:Nat):List Nat:=List.replicate i 1000++List.replicate (n-i) 0
theorem xv{n i:Nat}(h:i<n):(JM n i).set i 1000=JM n (i+1):=by unfold JM;rw[show n-i=(n-(i+1))+1 by omega,List.replicate_succ,List.set_append_right _ _ (by simp)];simp only[List.length_replicate,Nat.sub_self,List.set_cons_zero];rw[List.replicate_succ',List.append_assoc];rfl
theorem aQ(to:List (List Nat))(target:Nat)(hn:to.length<=1000000)(ht:target<to.length)(hr:∀r∈to,r.length<=1000000/\∀t∈r,t<to.length):Is mx 213 [.sl (to.map PR),iI target] (.sl ((Bb to target).map IS)):=by
 refine MX rV ?_
 (repeat' first|simp(disch:=omega)only[go_sem,simprocAttr]|(refine And.intro ?_ ?_;focus omega))
 refine BG [0,1,5] (by simp only[V0,MQ,reduceIte,Nat.reduceEqDiff];rfl) (fun i:Nat=>[(6,.i (iI i))]) (fun i=>[(13,.rows 3 1 ((JM to.length i).map IS))])
  (fun i=>i<=to.length) (fun i=>to.length-i) 0 (by simp) (by simp[V0,I9,L9,Ref.nm,JM]) ?_
 intro i hi;have hfl:(JM to.length i).length=to.length:=by grind[JM]
 by_cases ja:i<to.length
 ·refine La (cj (Cq ja) hfl) ?_;refine⟨i+1,by omega,by omega,rfl,?_⟩;rw[Nat.zero_add,<-xv ja,List.map_set];rfl
 ·have hii:i=to.length:=by omega
  subst hii;have hf:JM to.length to.length=List.replicate to.length 1000:=by simp[JM]
  rw[hf];refine Hw (Ih ja) ?_;refine BG [0,1,5] (by simp only[V0,MQ,reduceIte,Nat.reduceEqDiff];rfl) (fun g:Bool×List Nat=>[(7,.i (.bool g.1))]) (fun g=>[(13,.rows 3 1 (g.2.map IS))])
   (fun g=>g.2.length=to.length/\IT g.2/\CR g.2<=1000*to.length/\(g.1=true->E8 to target (1000*to.length) g.2=Bb to target)/\(g.1=false->g.2=Bb to target)) (fun g=>if g.1=true then CR g.2+1 else 0) (true,List.replicate to.length 1000)
   ⟨by simp,(fun x hx=>by rw[List.eq_of_mem_replicate hx];omega),by rw[aP];omega,fun _=>rfl,by simp⟩ (by simp[V0,I9,L9,Ref.nm]) ?_
  rintro⟨b,d⟩ ⟨xh,jj,hsum,qe,ko⟩;simp only at xh jj hsum qe ko;cases b
  ·have hd:=ko rfl;rw[<-hd];have hleT:(to.length<=d.length)=True:=eq_true (by omega);refine Hw hleT ?_;rw[List.take_of_length_le (by rw[List.length_map,xh];exact Nat.le_refl _)]
  ·have jh:=aO to target (1000*to.length) d hsum;rw[qe rfl]at jh;refine Lbn ?_;refine lT [0,1,5] (fun i:Nat=>[(7,.i (.bool (!decide (Cm to target i d=d)))),(8,.i (iI i))]) (fun i=>[(13,.rows 3 1 ((Cm to target i d).map IS))]) (fun i=>i<=to.length) (fun i=>to.length-i) 0 ?_;intro i hi;have hDl:=UZ to target i d;have hDle:=U1 (to:=to) (target:=target) (n:=i) jj;have hDs:=MA to target i d;by_cases ja:i<to.length
   ·have ju:=hr _ (AA ja);have hss:=N4 to target i d;have hgd:to.getD i []=to.getD i default:=rfl;rw[hgd]at hss;generalize hrw:to.getD i default=row at ju hss;generalize hD:Cm to target i d=D at hDl hDle hDs hss
    (repeat' first|simp(disch:=omega)only[go_sem,simprocAttr,Cq ja]|refine Ae ?_|fail)
    refine BG [0,1,5,8] (by simp only[V0,MQ,reduceIte,Nat.reduceEqDiff];rfl) (fun k:Nat=>[(7,.i (.bool (!decide (C8 target i (row.take k) D=d)))),(9,.i (iI k))]) (fun k=>[(13,.rows 3 1 ((C8 target i (row.take k) D).map IS))])
     (fun k=>k<=row.length) (fun k=>row.length-k) 0 (by simp) (by simp[V0,I9,L9,Ref.nm,C8];try rfl) ?_
    intro k hk;have hEl:=UY target i (row.take k) D;have hEle:=U0 (target:=target) (i:=i) (r:=row.take k) hDle;have hEs:=PS target i (row.take k) D;by_cases jk:k<row.length
    ·have hrt:=xu target i row D k jk;have hti:=ju.2 _ (AA jk);generalize C8 target i (row.take k) D=E at hEl hEle hEs hrt;generalize hgt:row.getD k default=t at hti hrt;have hEn:E.length=to.length:=by omega
     have htE:t<E.length:=by omega
     have hiE:i<E.length:=by omega
     have hv:=hEle _ (AA htE);have hw:=hEle _ (AA hiE);have hvia:gk target E t=if t=target then 1 else E.getD t default+1:=rfl
     have v6:=UX target i E t;have hgi:E.getD i 0=E.getD i default:=rfl;have hx2:Dv target i E t=if gk target E t<E.getD i default then E.set i (gk target E t)else E:=rfl
     have k7:∀v:Nat,(E.map IS).set i [I.int .i64 (v:Int)]=(E.set i v).map IS:=fun v=>by simp
     have hwr:IntKind.i64.wrap (((E.getD t default:Nat):Int)+1)=((E.getD t default+1:Nat):Int):=BH (by omega) (by omega);have hup:∀v,gk target E t=v->v<E.getD i default->C8 target i (row.take (k+1)) D=E.set i v/\(!decide (C8 target i (row.take (k+1)) D=d))=true:=fun v hv1 hv2=>by grind
     have qb:¬gk target E t<E.getD i default->C8 target i (row.take (k+1)) D=E:=fun hv1=>by grind
     have htT:(t<to.length)=True:=eq_true hti;have hiT:(i<to.length)=True:=eq_true ja
     (repeat' first|simp(disch:=omega)only[go_sem,simprocAttr,Cq ja,Cq jk,hrw,hgt,Cq hti,hEn,htT,hiT,Nat.zero_add,Nat.sub_zero]|refine Sx.s ?_ ?_<;>try(intro h;have h':=h;try simp only[HB]at h';try rewrite [h];try simp only[h])|refine Ae ?_|fail)
     ·obtain⟨e1,e2⟩:=hup 1 (by rw[hvia,if_pos (by omega)]) (by omega);exact⟨k+1,by omega,by omega,⟨by rw[e2],rfl⟩,by rw[e1,<-k7];rfl⟩
     ·have e1:=qb (by rw[hvia,if_pos (by omega)];omega);exact⟨k+1,by omega,by omega,⟨by rw[e1],rfl⟩,by rw[e1]⟩
     ·obtain⟨e1,e2⟩:=hup (E.getD t default+1) (by rw[hvia,if_neg (by omega)]) (by omega);exact⟨k+1,by omega,by omega,⟨by rw[e2],rfl⟩,by rw[e1,<-k7];rfl⟩
     ·have e1:=qb (by rw[hvia,if_neg (by omega)];omega);exact⟨k+1,by omega,by omega,⟨by rw[e1],rfl⟩,by rw[e1]⟩
    ·have e:row.take k=row:=List.take_of_length_le (by omega);rw[e];refine Hw (cj (Cq ja) (cj (Ih jk) hrw)) ?_;refine⟨i+1,by omega,by omega,?_,?_⟩
     ·rw[hss];exact⟨rfl,rfl⟩
     ·rw[hss]
   ·have hii:i=to.length:=by omega
    subst hii;refine Hw (Ih ja) ?_;refine⟨(!decide (Cm to target to.length d=d),Cm to target to.length d),⟨by show(Cm to target to.length d).length=_;omega,hDle,by show CR (Cm to target to.length d)<=_;omega,?_,?_⟩,?_,rfl,rfl⟩
    ·intro hq;simp only[Bool.not_eq_true',decide_eq_false_iff_not]at hq;rw[if_neg hq]at jh;exact jh.symm
    ·intro hq;simp only[Bool.not_eq_false',decide_eq_true_eq]at hq;rw[if_pos hq]at jh;show Cm to target to.length d=_;rw[hq,<-jh]
    ·by_cases hq:Cm to target to.length d=d
     ·simp[hq]
     ·have:=hDs.2 hq;simp[hq];exact this
end
section
theorem aR(to:List (List Nat))(target:Nat):∀(f:Nat) (d:List Nat),(E8 to target f d).length=d.length
 |0,d=>rfl
 |f+1,d=>by
  unfold E8;split
  ·rfl
  ·rw[aR to target f,UZ]
theorem aS{to:List (List Nat)}{target:Nat}:∀{f:Nat} {d:List Nat},IT d->IT (E8 to target f d)
 |0,d,h=>h
 |f+1,d,h=>by
  unfold E8;split
  ·exact h
  ·exact aS (U1 h)
theorem K3(to:List (List Nat))(target:Nat):(Bb to target).length=to.length:=by simp[Bb,aR]
theorem aT(to:List (List Nat))(target:Nat):IT (Bb to target):=aS fun x hx=>by grind
theorem xw(to:List (List Nat))(target:Nat):Cm to target to.length (Bb to target)=Bb to target:=aN _ _ _ _ (by rw[aP,Nat.mul_comm];exact Nat.le_refl _)
theorem aU(to:List (List Nat))(target:Nat):∀(n:Nat) (d:List Nat),Cm to target n d=d->∀i,i<n->C8 target i (to.getD i []) d=d
 |0,d,h,i,hi=>by omega
 |n+1,d,h,i,hi=>by
  have h1:=MA to target n d;have h2:=PS target n (to.getD n []) (Cm to target n d);rw[N4]at h;have e:Cm to target n d=d:=by
   refine Classical.byContradiction fun hq=>?_
   have:=h1.2 hq;rw[h]at h2;omega
  rw[e]at h;by_cases kh:i=n
  ·rw[kh];exact h
  ·exact aU to target n d e i (by omega)
theorem aV(target i:Nat):∀(r:List Nat) (d:List Nat),C8 target i r d=d->∀t∈r,Dv target i d t=d
 |[],d,h,t,ht=>by simp at ht
 |s::r,d,h,t,ht=>by
  have h1:=UX target i d s;have h2:=PS target i r (Dv target i d s);have hh:C8 target i r (Dv target i d s)=d:=h;have e:Dv target i d s=d:=by
   refine Classical.byContradiction fun hq=>?_
   have:=h1.2 hq;rw[hh]at h2;omega
  rcases List.mem_cons.1 ht with e1|e1
  ·rw[e1];exact e
  ·rw[e]at hh;exact aV target i r d hh t e1
theorem xy(target:Nat)(d:List Nat)(t:Nat):1<=gk target d t:=by grind[gk]
theorem RO{to:List (List Nat)}{target i t:Nat}(hi:i<to.length)(ht:t∈to.getD i []):(Bb to target).getD i 0<=gk target (Bb to target) t:=by have h1:=aV target i _ _ (aU to target to.length _ (xw to target) i hi) t ht;grind[Dv,Bb,gk]
def JN(to:List (List Nat))(target:Nat)(d:List Nat):Prop:=∀i,i<d.length->1<=d.getD i 0/\(d.getD i 0=1000\/∃t∈to.getD i [],gk target d t<=d.getD i 0)
theorem getD_set(d:List Nat)(i j v:Nat)(hj:j<d.length):(d.set i v).getD j 0=if i=j then v else d.getD j 0:=by grind
theorem aW{target:Nat}{d:List Nat}{i v t:Nat}(hv:v<d.getD i 0):gk target (d.set i v) t<=gk target d t:=by grind[gk]
theorem xz{to:List (List Nat)}{target i t:Nat}{d:List Nat}(h:JN to target d)(ht:t∈to.getD i []):JN to target (Dv target i d t):=by
 unfold Dv;split
 ·rename_i jn;intro j hj;have jq:j<d.length:=by simpa using hj
  rw[getD_set _ _ _ _ jq];split
  ·rename_i e;exact⟨xy _ _ _,.inr ⟨t,by rw[<-e];exact ht,aW jn⟩⟩
  ·obtain⟨h1,h2⟩:=h j jq;refine⟨h1,h2.imp id ?_⟩;rintro⟨u,hu1,hu2⟩;exact⟨u,hu1,Nat.le_trans (aW jn) hu2⟩
 ·exact h
theorem aX{to:List (List Nat)}{target i:Nat}:∀(r:List Nat) {d:List Nat},JN to target d->(∀t∈r,t∈to.getD i [])->JN to target (C8 target i r d)
 |[],d,h,_=>h
 |s::r,d,h,hs=>aX r (xz h (hs s List.mem_cons_self)) fun t ht=>hs t (List.mem_cons_of_mem _ ht)
theorem aY{to:List (List Nat)}{target:Nat}:∀(n:Nat) {d:List Nat},JN to target d->JN to target (Cm to target n d)
 |0,d,h=>h
 |n+1,d,h=>by rw[N4];exact aX _ (aY n h) fun t ht=>ht
theorem aZ{to:List (List Nat)}{target:Nat}:∀{f:Nat} {d:List Nat},JN to target d->JN to target (E8 to target f d)
 |0,d,h=>h
 |f+1,d,h=>by
  unfold E8;split
  ·exact h
  ·exact aZ (aY _ h)
theorem N5(to:List (List Nat))(target:Nat):JN to target (Bb to target):=by
 refine aZ fun i hi=>?_
 grind
def Cw(to:List (List Nat)):Nat->Int×Nat
 |0=>(-1,1000)
 |i+1=>if(Bb to i).getD i 0<(Cw to i).2 then((i:Int),(Bb to i).getD i 0)else Cw to i
theorem RP(to:List (List Nat)):∀n,((Cw to n).1=-1/\(Cw to n).2=1000)\/(∃i:Nat,(Cw to n).1=(i:Int)/\i<n/\(Cw to n).2=(Bb to i).getD i 0/\(Cw to n).2<1000)
 |0=>.inl ⟨rfl,rfl⟩
 |n+1=>by
  have h:=RP to n;simp only[Cw];split
  ·rename_i jn;refine .inr ⟨n,rfl,by omega,rfl,?_⟩;rcases h with⟨_,h⟩|⟨_,_,_,_,h⟩<;>(simp only;omega)
  ·rcases h with⟨h1,h2⟩|⟨i,h1,h2,h3,h4⟩
   ·exact .inl ⟨h1,h2⟩
   ·exact .inr ⟨i,h1,by omega,h3,h4⟩
def MB(to:List (List Nat))(d:List Nat)(at_ n:Nat):Nat:=((to.getD at_ []).takeWhile fun t=>!decide (d.getD t 0=n)).length
def MD(to:List (List Nat))(d:List Nat):Nat->Nat->List Nat
 |0,_=>[]
 |n+1,at_=>(to.getD at_ []).getD (MB to d at_ (n+1)) 0::MD to d n ((to.getD at_ []).getD (MB to d at_ (n+1)) 0)
def PT(ns:List AT)(to:List (List Nat)):List AT:=
 if(Cw to ns.length).1<0 then[]else
  ns.getD (Cw to ns.length).1.toNat default::(MD to (Bb to (Cw to ns.length).1.toNat) ((Cw to ns.length).2-1) (Cw to ns.length).1.toNat).map fun k=>ns.getD k default
theorem bc(ns:List AT)(to:List (List Nat)):PT ns to=[]↔(Cw to ns.length).1<0:=by simp[PT]
theorem xA{to:List (List Nat)}{target at_ n:Nat}(hi:at_<to.length)(hd:(Bb to target).getD at_ 0=n+1)(hn:1<=n)(h999:n+1<1000):
  MB to (Bb to target) at_ n<(to.getD at_ []).length/\(Bb to target).getD ((to.getD at_ []).getD (MB to (Bb to target) at_ n) 0) 0=n:=by
 obtain⟨_,h2⟩:=N5 to target at_ (by rw[K3];exact hi);rcases h2 with h2|⟨t,ht,h2⟩
 ·omega
 ·have h3:=RO (target:=target) hi ht;have hv:gk target (Bb to target) t=n+1:=by omega
  have ht2:(Bb to target).getD t 0=n:=by grind[gk]
  have kz:∃x∈to.getD at_ [],¬(fun t=>!decide ((Bb to target).getD t 0=n)) x=true:=⟨t,ht,by show¬(!decide ((Bb to target).getD t 0=n))=true;rw[decide_eq_true ht2];decide⟩;unfold MB;generalize to.getD at_ []=row at kz;clear h2 h3 ht
  induction row with
  |nil=>obtain⟨x,hx,_⟩:=kz;simp at hx
  |cons a r ih=>
   by_cases ha:(Bb to target).getD a 0=n
   ·rw[List.takeWhile_cons,if_neg (by rw[decide_eq_true ha];decide)];exact⟨by simp,ha⟩
   ·rw[List.takeWhile_cons,if_pos (by rw[decide_eq_false ha];rfl)];obtain⟨x,hx,hx2⟩:=kz;rcases List.mem_cons.1 hx with e|e
    ·subst e;exact absurd (Classical.byContradiction fun hq=>hx2 (by show(!decide ((Bb to target).getD x 0=n))=true;rw[decide_eq_false hq];rfl)) ha
    ·have:=ih ⟨x,e,hx2⟩;simp only[List.length_cons,List.getD_cons_succ];exact⟨by omega,this.2⟩
end
section
@[go_sem] theorem aL7(d e k:Nat)(rows:List (List I))(st:St)(K:St->Prop):Ji none d e k rows st K=K ((st.bind d (.rows e k rows)).put d (.ref (.sl d k 0 rows.length))):=rfl
theorem RQ{α:Type}[Inhabited α]{p:α->Bool}{l:List α}{i:Nat}(h:(l.take i).all p=true)(hi:i<l.length)(hp:p (l.getD i default)=false):(l.takeWhile p).length=i:=JI h (by omega) (.inr hp)
theorem xB(c:Cat)(ns:List AT)(to:List (List Nat))(hn:ns.length<=1000000)(hnt:ns.length=to.length)(hr:∀r∈to,r.length<=1000000/\∀t∈r,t<to.length)
  (h1:Is mx 212 [.agg (At c)] (.tup [.sl (ns.map BS),.sl (to.map PR)])):Is mx 154 [.agg (At c)] (.sl ((PT ns to).map BS)):=by
 refine MX pZ ?_;refine Dp h1 ?_;refine lT [3,4] (fun i:Nat=>[(5,.i (iI (Cw to i).1)),(6,.i (iI ((Cw to i).2:Int))),(7,.i (iI i))]) (fun _=>[]) (fun i=>i<=ns.length) (fun i=>ns.length-i) 0 ?_;intro i hi;by_cases ja:i<ns.length
 ·have hit:i<to.length:=by omega
  have h2:=aQ (mx:=mx) to i (by omega) hit hr;have jd:=K3 to i;have jj:=aT to i;have hb:Cw to (i+1)=if(Bb to i).getD i 0<(Cw to i).2 then((i:Int),(Bb to i).getD i 0)else Cw to i:=rfl
  have hgi:(Bb to i).getD i 0=(Bb to i).getD i default:=rfl;have hlT:((i:Int)<((Bb to i).length:Int))=True:=eq_true (by omega);have hnT:(i<(Bb to i).length)=True:=eq_true (by omega);have hv:=jj _ (AA (n:=i) (l:=Bb to i) (by omega));rw[hgi]at hb;generalize Bb to i=d at h2 jd jj hb hlT hnT hv;refine Dp (cj h2 (cj (Cq ja) hlT)) (cj ?_ ?_)
  ·intro _ _;rw[if_pos (by omega)]at hb;exact⟨i+1,by omega,by omega,by rw[hb],by rw[hb],rfl⟩
  ·intro _ _;rw[if_neg (by omega)]at hb;exact⟨i+1,by omega,by omega,by rw[hb],by rw[hb],rfl⟩
 ·have kh:i=ns.length:=by omega
  subst kh;have hC:PT ns to=if(Cw to ns.length).1<0 then[]else
   ns.getD (Cw to ns.length).1.toNat default::(MD to (Bb to (Cw to ns.length).1.toNat) ((Cw to ns.length).2-1) (Cw to ns.length).1.toNat).map fun k=>ns.getD k default:=rfl
  rcases RP to ns.length with⟨qe,ko⟩|⟨b,qe,ko,hb3,hb4⟩
  ·rw[if_pos (by omega)]at hC;rw[hC];exact Hw (cj (Ih ja) (cj qe ko)) trivial
  ·rw[if_neg (by omega),qe,Int.toNat_natCast]at hC;generalize hq:(Cw to ns.length).2=q at hC hb3 hb4;have hbt:b<to.length:=by omega
   have h2:=aQ (mx:=mx) to b (by omega) hbt hr;have jd:=K3 to b;have jj:=aT to b;have hnx:=fun(a n:Nat)=>xA (to:=to) (target:=b) (at_:=a) (n:=n)
   have hq1:1<=q:=by have:=(N5 to b b (by omega)).1;omega
   generalize Bb to b=d at h2 jd jj hnx hC hb3;have hbF:((b:Int)<0)=False:=eq_false (by omega);rw[hC];have hq12:((q-1:Nat):Int)=(q:Int)-1:=by omega
   refine Dp (cj h2 (cj (Ih ja) (cj qe (cj hbF (cj (Cq ko) @BS.eq_1))))) ?_;refine BG [3,4,9] (by simp only[V0,MQ,reduceIte,Nat.reduceEqDiff];rfl) (fun g:Nat×Nat×List AT=>[(10,.ref (.sl 45 1 0 g.2.2.length)),(11,.i (iI g.2.1)),(12,.i (iI g.1))]) (fun g=>[(45,.rows 9 1 (g.2.2.map BS))])
    (fun g=>(g.1<1000/\1<=g.2.2.length)/\g.2.1<to.length/\d.getD g.2.1 0=g.1+1/\g.2.2.length+g.1=q/\g.2.2++(MD to d g.1 g.2.1).map (fun k=>ns.getD k default)=ns.getD b default::(MD to d (q-1) b).map fun k=>ns.getD k default) (fun g=>g.1) (q-1,b,[ns.getD b default])
    ⟨⟨by show q-1<_;omega,Nat.le_refl _⟩,hbt,by show d.getD b 0=q-1+1;omega,by show 1+(q-1)=q;omega,rfl⟩ (by simp[V0,I9,L9,Ref.nm];omega) ?_
   rintro⟨n,a,acc⟩ ⟨⟨hn1,hn0⟩,ha,hda,hal,wo⟩;simp only at hn1 hn0 ha hda hal wo;have han:a<ns.length:=by omega
   cases n with
   |zero=>simp only[MD,List.map_nil,List.append_nil]at wo;have htl:List.take acc.length (acc.map BS)=acc.map BS:=List.take_of_length_le (by simp);refine Hw (cj @Int.natCast_zero (cj @Int.lt_irrefl htl)) ?_;rw[wo];rfl
   |succ n=>
    have hx:=hnx a (n+1) ha hda (by omega) (by omega);have hga:to.getD a []=to.getD a default:=rfl;simp only[MD,List.map_cons]at wo;rw[hga]at hx wo;have ju:=hr _ (AA ha);have hp:(0:Int)<(n:Int)+1:=by omega
    have hnextd:MB to d a (n+1)=((to.getD a default).takeWhile fun t=>!decide (d.getD t 0=n+1)).length:=rfl;generalize MB to d a (n+1)=j at hx wo hnextd;generalize hrw:to.getD a default=row at hx wo ju hnextd;refine Hw hp ?_;refine lT [3,4,9,10,11,12] (fun k:Nat=>[(13,.i (iI k))]) (fun _=>[(45,.rows 9 1 (acc.map BS))]) (fun k=>k<=j/\(row.take k).all (fun t=>!decide (d.getD t 0=n+1))=true) (fun k=>j-k) 0 ?_ (by simp);rintro k ⟨hk,jg⟩;have hkr:k<row.length:=by omega
    have ht:=ju.2 _ (AA hkr);have htT:(row.getD k default<to.length)=True:=eq_true ht;have htN:(row.getD k default<ns.length)=True:=eq_true (by omega);have hgd:∀t,d.getD t 0=d.getD t default:=fun _=>rfl
    by_cases he:d.getD (row.getD k default) default=n+1
    ·have hjk:j=k:=by grind[RQ]
     subst hjk;have heT:((d.getD (row.getD j default) default:Int)=(n:Int)+1)=True:=eq_true (by omega);have hgr:row.getD j 0=row.getD j default:=rfl;rw[hgr]at wo;generalize hgt:row.getD j default=t at ht htT htN he heT wo;have htT2:(t<to.length)=True:=eq_true ht;have htN2:(t<ns.length)=True:=eq_true (by omega)
     (repeat' first|simp(disch:=omega)only[go_sem,simprocAttr,Cq ha,Cq hkr,hrw,hgt,Cq ht,jd,hnt,Nat.sub_zero]|refine Sx.s ?_ ?_<;>try(intro h;have h':=h;try simp only[HB]at h';try rewrite [h];try simp only[h])|refine Ae ?_|fail)
     ·exfalso;omega
     ·exact⟨by simp,by simp[I.one],by omega,by omega,(n,t,acc++[ns.getD t default]),⟨⟨by show n<1000;omega,by simp⟩,ht,by show d.getD t 0=n+1;exact he,by simp;omega,by rw[<-wo,List.append_assoc];rfl⟩,by show n<n+1;omega,⟨by simp,rfl,by show D.i (I.int .i64 ((n:Int)+1-1))=D.i (iI n);congr 2;omega⟩,by simp⟩
    ·have heF:((d.getD (row.getD k default) default:Int)=(n:Int)+1)=False:=eq_false (by omega);generalize hgt:row.getD k default=t at ht htT htN he heF;have htT2:(t<to.length)=True:=eq_true ht
     (repeat' first|simp(disch:=omega)only[go_sem,simprocAttr,Cq ha,Cq hkr,hrw,hgt,Cq ht,jd,Nat.sub_zero]|refine Sx.s ?_ ?_<;>try(intro h;have h':=h;try simp only[HB]at h';try rewrite [h];try simp only[h])|refine Ae ?_|(refine And.intro ?_ ?_;focus omega))
     ·exact⟨k+1,⟨by
       have:j≠k:=fun e=>he (by
        subst e;have:=hx.2;rw[show row.getD j 0=t from hgt]at this;exact this)
       omega,BR (d:=default) jg hkr (by show(!decide (d.getD (row.getD k default) 0=n+1))=true;rw[hgt];exact(by rw[decide_eq_false he];rfl:(!decide (d.getD t default=n+1))=true))⟩,by
       have:j≠k:=fun e=>he (by
        subst e;have:=hx.2;rw[show row.getD j 0=t from hgt]at this;exact this)
       omega,rfl⟩
     ·exfalso;omega
end
section
def H4(c:Cat):List AT:=PT (AY c) (Wv c (AY c))
theorem xC{c:Cat}(hc:AP c<=1073741823)(n:AT):(Gg c n).length<=1073741823:=by grind[UW,IQ,aL,NF,Gg,E7]
theorem xD(c:Cat)(hc:AP c<=1073741823)(hf:c.features.length<=1000):Is mx 154 [.agg (At c)] (.sl ((H4 c).map BS)):=by
 have hn:(AY c).length<=c.features.length:=by grind[RN,AY]
 have hl:(Wv c (AY c)).length=(AY c).length:=by simp[Wv]
 refine xB c (AY c) (Wv c (AY c)) (by omega) hl.symm ?_ (xq c hc (by omega) (xC hc));intro r hr;obtain⟨s,_,rfl⟩:=List.mem_map.1 hr;refine⟨Nat.le_trans (List.length_filter_le _ _) (by simp;omega),fun t ht=>?_⟩;rw[hl];have:=(List.mem_filter.1 ht).1;grind
def Cf(c:Cat):List Ftr:=c.features++c.drafts++c.past
theorem C9(f:Ftr):(Ag f).length=18:=by obtain⟨_,_,_,b,_⟩:=f;cases b;simp[Ag,Ar,eE]
theorem Do(f:Ftr):(Ag f).all I.one=true:=by obtain⟨_,_,_,b,_⟩:=f;cases b;simp[Ag,Ar,eE,I.one]
theorem xE(c:Cat)(h1:c.features.length<=1073741)(h2:c.drafts.length<=1073741)(h3:c.past.length<=1073741):Is mx 151 [.agg (At c)] (.sl ((Cf c).map Ag)):=by
 have ha:=Bi c.features C9 Do;have hb:=Bi c.drafts C9 Do;have hp:=Bi c.past C9 Do;have t1:List.take (c.features.length+c.drafts.length) (c.features.map Ag++c.drafts.map Ag)=c.features.map Ag++c.drafts.map Ag:=List.take_of_length_le (by simp);have t2:List.take (c.features.length+c.drafts.length+c.past.length) (c.features.map Ag++c.drafts.map Ag++c.past.map Ag)=c.features.map Ag++c.drafts.map Ag++c.past.map Ag:=List.take_of_length_le (by simp;omega);refine MX rJ ?_
 (repeat' first|simp(disch:=omega)only[go_sem,simprocAttr,eq_true ha.1,eq_true ha.2,eq_true hb.1,eq_true hb.2,eq_true hp.1,eq_true hp.2,Nat.zero_add,Nat.sub_zero,List.length_map,List.length_append,List.length_nil,t1,t2]|refine Sz.s ?_|(refine And.intro ?_ ?_;focus omega))
 simp only[Cf,List.map_append]
def WE(a b:AT):Bool:=Op.bytesLess a b||decide (a=b)
def gtP(p:Option AT)(n:AT):Bool:=match p with|none=>false|some m=>WE n m
def Hn:Option AT->List Tbl->Int
 |_,[]=>0
 |p,t::r=>if GH t≠0 then GH t else if gtP p t.name=true then 1 else Hn (some t.name) r
theorem bf(p:Option AT)(t:Tbl)(r:List Tbl):Hn p (t::r)=if GH t≠0 then GH t else if gtP p t.name=true then 1 else Hn (some t.name) r:=rfl
def Gh(l:List Tbl)(i:Nat):Option AT:=if i=0 then none else some (l.getD (i-1) default).name
theorem xF(c:Cat)(hc:AP c<=1073741824):Is mx 150 [.agg (At c)] (iI (Hn none c.tables)):=by
 have hl:c.tables.length<=1073741824:=by grind[Ce,H2]
 refine MX pY ?_;refine OG ?_;refine lT [1] (fun i:Nat=>[(3,.i (iI i))]) (fun _=>[]) (fun i=>i<=c.tables.length/\Hn (Gh c.tables i) (c.tables.drop i)=Hn none c.tables) (fun i=>c.tables.length-i) 0 ?_ ⟨by omega,rfl⟩;rintro i ⟨hi,jb⟩;by_cases ja:i<c.tables.length
 ·have hm:=AA ja;have hb:Dt (c.tables.getD i default)<=1073741824:=by grind[Ce,Cd,Dt]
  have h1:=vJ (mx:=mx) (c.tables.getD i default) (fun f hf=>by have h1:=H1 (c.tables.getD i default);have h2:=Cd (b:=F2) hf;have h3:=NT f;omega) (by have h1:=H1 (c.tables.getD i default);have:=PF (c.tables.getD i default).fields;omega);rw[El ja,bf]at jb;have hnx:Gh c.tables (i+1)=some (c.tables.getD i default).name:=by simp[Gh]
  rw[<-hnx]at jb;by_cases h0:i=0
  ·subst h0;have hp0:gtP (Gh c.tables 0) (c.tables.getD 0 default).name=false:=rfl;simp only[hp0,Bool.false_eq_true,if_false]at jb;have hz:(0:Int)<(c.tables.length:Int):=by omega
   refine Dp (cj h1 (cj hz (cj @Int.natCast_zero @Int.lt_irrefl))) (cj ?_ ?_)
   ·intro h h';rw[if_pos h']at jb;rw[<-jb]
   ·intro _ _;rw[if_neg (by omega)]at jb;exact⟨1,⟨ja,by rw[<-jb]⟩,by omega,rfl⟩
  ·have hpr:Gh c.tables i=some (c.tables.getD (i-1) default).name:=by simp[Gh,h0]
   have hg:gtP (Gh c.tables i) (c.tables.getD i default).name=(Op.bytesLess (c.tables.getD i default).name (c.tables.getD (i-1) default).name||decide ((c.tables.getD i default).name=(c.tables.getD (i-1) default).name)):=by rw[hpr];rfl
   rw[hg]at jb;have jx:(0:Int)<(i:Int):=by omega
   have j9:((i:Int)-1).toNat=i-1:=by omega
   have ky:(i:Int)-1=((i-1:Nat):Int):=by omega
   have hltp:i-1<c.tables.length:=by omega
   refine Dp (cj h1 (cj (Cq ja) (cj jx (cj ky (Cq hltp))))) (cj ?_ (cj ?_ ?_))
   ·intro h h';rw[if_pos h']at jb;rw[<-jb]
   ·intro _ _ h h';rw[if_neg (by omega),if_pos h]at jb;rw[<-jb]
   ·intro _ _ h h';rw[if_neg (by omega),if_neg (by rw[h];simp)]at jb;exact⟨i+1,⟨by omega,jb⟩,by omega,rfl⟩
 ·rw[List.drop_eq_nil_of_le (by omega),show∀p,Hn p []=0 from fun p=>by cases p<;>rfl]at jb;rw[<-jb];exact Hw (Ih ja) trivial
def GO(f:Ftr):Int:=if(!(Di f.name&&Di f.entity)||decide (f.version<1)||decide (1099511627776<f.version))=true then 1 else if E4 f.typ≠0 then E4 f.typ else FB f.body
theorem xG(f:Ftr)(hf:Bl f<=1073741824):Is mx 152 [.agg (Ag f)] (iI (GO f)):=by
 have h0:=Hj f;have h4:Ek f.typ=Af A5 f.typ.unit+f.typ.of.length+1:=rfl;have hl:=Ft f.typ.unit;have h1:=aq (mx:=mx) f.body (by omega);have h2:=RI (mx:=mx) f.typ (by omega) (fun y hy=>by have h1:=Cd (b:=A5) (l:=f.typ.unit) hy;have h2:A5 y=y.name.length+1:=rfl;omega);have hR:=GO.eq_1 f;refine MX nJ ?_
 (repeat' first|exact Av _|simp(disch:=omega)only[go_sem,simprocAttr]|refine' AD (fun hq=>?_) (fun f=>?_)<;>try(have je:=hq;try simp only[HB]at je)|refine Sx.s ?_ ?_<;>try(intro h;have h':=h;try simp only[HB]at h';try rewrite [h];try simp only[h])|refine Ab (IK _) ?_|refine Ab (h1) ?_|refine Ab (h2) ?_|refine Ae ?_|refine Sz.s ?_|fail)
 all_goals(refine congrArg (I.int .i64) ?_;rw[hR];first|done|(grind(splits:=20)))
end
section
def H5(f:Ftr)(g:Ftr):Bool:=decide (g.name=f.name)&&decide (g.version=f.version)
def N6(nf np i:Nat):Bool:=decide (i=0)||decide (i=nf)||decide (i=np)
def H6(nf np i:Nat)(p f:Ftr):Bool:= !N6 nf np i&&(Op.bytesLess f.name p.name||decide (i<np)&&decide (f.name=p.name))
def EE(nf np:Nat):List Ftr->List Ftr->Int
 |_,[]=>0
 |seen,f::r=>if GO f≠0 then GO f else if H6 nf np seen.length (seen.getD (seen.length-1) default) f=true then 1 else if seen.any (H5 f)=true then 121 else EE nf np (seen++[f]) r
theorem bj(nf np:Nat)(s:List Ftr):EE nf np s []=0:=by rfl
theorem U2(nf np:Nat)(seen:List Ftr)(f:Ftr)(r:List Ftr):EE nf np seen (f::r)=if GO f≠0 then GO f else if H6 nf np seen.length (seen.getD (seen.length-1) default) f=true then 1 else if seen.any (H5 f)=true then 121 else EE nf np (seen++[f]) r:=by rfl
def D6(c:Cat):List Ftr->Int
 |[]=>0
 |f::r=>if DU c f≠0 then DU c f else D6 c r
def H7(c:Cat):Int:=
 if 16<c.tables.length\/32<c.features.length\/32<c.drafts.length\/32<c.past.length then 2
 else if Hn none c.tables≠0 then Hn none c.tables
 else if EE c.features.length (c.features.length+c.drafts.length) [] (Cf c)≠0 then EE c.features.length (c.features.length+c.drafts.length) [] (Cf c)
 else if D6 c c.features≠0 then D6 c c.features
 else if H4 c≠[]then 120 else 0
theorem bk{c:Cat}(hc:AP c<=1073741823){f:Ftr}(h:f∈Cf c):Bl f<=1073741823:=by grind[Ce,Cf,Cd,Bl]
theorem xH{α:Type}[Inhabited α]{l:List α}{i j:Nat}(h:j<i)(hi:i<=l.length):(l.take i).getD j default=l.getD j default:=by grind
theorem Cg{α:Type}[Inhabited α]{l:List α}{i:Nat}(h:i<l.length):l.take (i+1)=l.take i++[l.getD i default]:=by simp_all
theorem xI(c:Cat)(hc:AP c<=1073741823):Is mx 108 [.agg (At c)] (iI (H7 c)):=by
 have hR:=H7.eq_1 c;have lt:=H2 c.tables;have lf:=Dm c.features;have ld:=Dm c.drafts;have lp:=Dm c.past;have hb:=Ce c;have h1:=xF (mx:=mx) c (by omega);by_cases hlim:16<c.tables.length\/32<c.features.length\/32<c.drafts.length\/32<c.past.length
 ·rw[if_pos hlim]at hR;rw[hR];have hg:(decide ((16:Int)<(c.tables.length:Int))||decide ((32:Int)<(c.features.length:Int))||decide ((32:Int)<(c.drafts.length:Int))||decide ((32:Int)<(c.past.length:Int)))=true:=by grind
  refine MX Y8 ?_
  (repeat' first|exact Av _|simp(disch:=omega)only[go_sem,simprocAttr,hg]|refine' AD (fun hq=>?_) (fun f=>?_)<;>try(have je:=hq;try simp only[HB]at je)|refine Ae ?_|refine Sz.s ?_|fail)
  all_goals(exfalso;simp_all)
 ·rw[if_neg hlim]at hR;have hg:(decide ((16:Int)<(c.tables.length:Int))||decide ((32:Int)<(c.features.length:Int))||decide ((32:Int)<(c.drafts.length:Int))||decide ((32:Int)<(c.past.length:Int)))=false:=by grind
  have h2:=xE (mx:=mx) c (by omega) (by omega) (by omega);have h3:=xD (mx:=mx) c hc (by omega);have hvl:(Cf c).length=c.features.length+c.drafts.length+c.past.length:=by grind[Cf]
  have hvb:=fun f=>bk (c:=c) hc (f:=f)
  have hcf:=fun f (h:f∈c.features)=>Cd (b:=Bl) h
  generalize Cf c=all at h2 hR hvl hvb;have hnpI:(c.features.length:Int)+(c.drafts.length:Int)=((c.features.length+c.drafts.length:Nat):Int):=by omega
  generalize hnp:c.features.length+c.drafts.length=np at hR hvl hnpI;refine MX Y8 ?_
  (repeat' first|exact Av _|simp(disch:=omega)only[go_sem,simprocAttr,hg,hnpI]|refine' AD (fun hq=>?_) (fun f=>?_)<;>try(have je:=hq;try simp only[HB]at je)|refine Sx.s ?_ ?_<;>try(intro h;have h':=h;try simp only[HB]at h';try rewrite [h];try simp only[h])|refine Ab (h1) ?_|refine Ab (h2) ?_|refine Ae ?_|refine Sz.s ?_|fail)
  ·rw[hR,if_pos h']
  rw[if_neg (by omega)]at hR;refine lT [1,4,5] (fun i:Nat=>[(6,.i (iI i))]) (fun _=>[]) (fun i=>i<=all.length/\EE c.features.length np (all.take i) (all.drop i)=EE c.features.length np [] all) (fun i=>all.length-i) 0 ?_;rintro i ⟨hi,jb⟩;by_cases ja:i<all.length
  ·have hm:=AA ja;have h4:=xG (mx:=mx) (all.getD i default) (by have:=hvb _ hm;omega);rw[El ja,U2,<-Cg ja,List.length_take,Nat.min_eq_left hi]at jb;have hfst:(decide ((i:Int)=0)||decide ((i:Int)=(c.features.length:Int))||decide ((i:Int)=(np:Int)))=N6 c.features.length np i:=by grind[N6]
   have hmid:∀(K:Prop),((GO (all.getD i default)=0/\H6 c.features.length np i ((all.take i).getD (i-1) default) (all.getD i default)=false)->K)->K\/True:=fun _ _=>.inr trivial
   have kh:GO (all.getD i default)=0->H6 c.features.length np i ((all.take i).getD (i-1) default) (all.getD i default)=false->(if((all.take i).any (H5 (all.getD i default)))=true then 121 else EE c.features.length np (all.take (i+1)) (all.drop (i+1)))=EE c.features.length np [] all:=fun e1 e2=>by grind
   refine OG ?_;refine Ae ?_
   (repeat' first|simp(disch:=omega)only[go_sem,simprocAttr,Cq ja]|fail)
   refine Ae ?_
   (repeat' first|simp(disch:=omega)only[go_sem,simprocAttr,Cq ja]|refine Sx.s ?_ ?_<;>try(intro h;have h':=h;try simp only[HB]at h';try rewrite [h];try simp only[h])|refine Ab (h4) ?_|fail)
   refine Ae ?_
   (repeat' first|exact Av _|simp(disch:=omega)only[go_sem,simprocAttr]|refine' AD (fun hq=>?_) (fun f=>?_)<;>try(have je:=hq;try simp only[HB]at je)|refine Sx.s ?_ ?_<;>try(intro h;have h':=h;try simp only[HB]at h';try rewrite [h];try simp only[h])|refine Sz.s ?_|fail)
   ·rw[if_pos h']at jb;rw[hR,<-jb,if_pos h']
   rename_i jc _;have jc:GO (all.getD i default)=0:=by omega
   refine Dl.cutS [1,4,5,6] (by simp only[V0,MQ,reduceIte,Nat.reduceEqDiff];rfl) [] [] (H6 c.features.length np i ((all.take i).getD (i-1) default) (all.getD i default)=false) ?_ (fun hbad=>?_)
   ·cases hf:N6 c.features.length np i
    ·have hi0:i≠0:=by intro e;subst e;simp[N6]at hf
     have j9:((i:Int)-1).toNat=i-1:=by omega
     have ky:(i:Int)-1=((i-1:Nat):Int):=by omega
     have hltp:i-1<all.length:=by omega
     have hbad:H6 c.features.length np i ((all.take i).getD (i-1) default) (all.getD i default)=(Op.bytesLess (all.getD i default).name (all.getD (i-1) default).name||decide ((i:Int)<(np:Int))&&decide ((all.getD i default).name=(all.getD (i-1) default).name)):=by grind[H6]
     rw[hf]at hfst;rw[hbad]at jb⊢;cases qe:Op.bytesLess (all.getD i default).name (all.getD (i-1) default).name
     ·cases ko:decide ((i:Int)<(np:Int))
      ·exact Hw (cj (Cq ja) (cj hfst (cj ky (cj (Cq hltp) (cj qe ko))))) trivial
      ·cases hb3:decide ((all.getD i default).name=(all.getD (i-1) default).name)
       ·exact Hw (cj (Cq ja) (cj hfst (cj ky (cj (Cq hltp) (cj qe (cj ko hb3)))))) trivial
       ·refine Hw (cj (Cq ja) (cj hfst (cj ky (cj (Cq hltp) (cj qe (cj ko hb3)))))) ?_;rw[if_neg (by omega),if_pos (by rw[qe,ko,hb3];rfl)]at jb;rw[hR,<-jb];rfl
     ·refine Hw (cj (Cq ja) (cj hfst (cj ky (cj (Cq hltp) qe)))) ?_;rw[if_neg (by omega),if_pos (by rw[qe];rfl)]at jb;rw[hR,<-jb];rfl
    ·have hbad:H6 c.features.length np i ((all.take i).getD (i-1) default) (all.getD i default)=false:=by simp[H6,hf]
     rw[hf]at hfst;exact Hw (cj hfst hbad) trivial
   ·rw[if_neg (by omega),if_neg (by rw[hbad];simp)]at jb;refine OG ?_;refine lT [1,4,5,6] (fun k:Nat=>[(8,.i (iI k))]) (fun _=>[]) (fun k=>k<=i/\(all.take k).all (fun g=>!H5 (all.getD i default) g)=true) (fun k=>i-k) 0 ?_;rintro k ⟨hk,jg⟩;by_cases jk:k<i
    ·have hka:k<all.length:=by omega
     cases hsn:decide ((all.getD k default).name=(all.getD i default).name)
     ·refine Hw (cj (Cq ja) (cj (Cq jk) (cj (Cq hka) hsn))) ?_;exact⟨k+1,⟨by omega,BR (d:=default) jg hka (by simp only[H5,hsn];rfl)⟩,by omega,rfl⟩
     ·cases hsv:decide ((all.getD k default).version=(all.getD i default).version)
      ·refine Hw (cj (Cq ja) (cj (Cq jk) (cj (Cq hka) (cj hsn hsv)))) ?_;exact⟨k+1,⟨by omega,BR (d:=default) jg hka (by simp only[H5,hsn,hsv];rfl)⟩,by omega,rfl⟩
      ·refine Hw (cj (Cq ja) (cj (Cq jk) (cj (Cq hka) (cj hsn hsv)))) ?_;have hany:(all.take i).any (H5 (all.getD i default))=true:=by rw[List.any_eq_true];refine⟨all.getD k default,?_,by simp only[H5,hsn,hsv];rfl⟩;have:=AA (n:=k) (l:=all.take i) (by simp;omega);grind
       rw[if_pos hany]at jb;rw[hR,<-jb];rfl
    ·have hki:k=i:=by omega
     subst hki;have hany:(all.take k).any (H5 (all.getD k default))=false:=by grind
     rw[if_neg (by rw[hany];simp)]at jb;refine Hw (Ih jk) ?_;exact⟨k+1,⟨by omega,jb⟩,by omega,rfl⟩
  ·rw[List.drop_eq_nil_of_le (by omega),bj]at jb;rw[<-jb,if_neg (by simp)]at hR;refine Hw (Ih ja) ?_;refine lT [1] (fun i:Nat=>[(9,.i (iI i))]) (fun _=>[]) (fun i=>i<=c.features.length/\D6 c (c.features.drop i)=D6 c c.features) (fun i=>c.features.length-i) 0 ?_ ⟨by omega,rfl⟩;rintro j ⟨hj,hjv⟩;by_cases jq:j<c.features.length
   ·have h5:=aG (mx:=mx) c (c.features.getD j default) (by omega) (by have:=hcf _ (AA jq);omega);rw[El jq,D6]at hjv
    (repeat' first|simp(disch:=omega)only[go_sem,simprocAttr,Cq jq]|refine Sx.s ?_ ?_<;>try(intro h;have h':=h;try simp only[HB]at h';try rewrite [h];try simp only[h])|refine Ab (h5) ?_|refine Ae ?_|refine AG ?_|refine Sz.s ?_|fail)
    ·rw[if_pos h']at hjv;rw[hR,<-hjv,if_pos h']
    ·rw[if_neg (by omega)]at hjv;exact⟨j+1,⟨by omega,hjv⟩,by omega,rfl⟩
   ·rw[List.drop_eq_nil_of_le (by omega),D6]at hjv;rw[<-hjv,if_neg (by simp)]at hR;rw[hR];generalize H4 c=cy at h3
    (repeat' first|simp(disch:=omega)only[go_sem,simprocAttr,Ih jq]|refine Sx.s ?_ ?_<;>try(intro h;have h':=h;try simp only[HB]at h';try rewrite [h];try simp only[h])|refine Ab (h3) ?_|refine Ae ?_|refine Sz.s ?_|fail)
    all_goals(refine congrArg (I.int .i64) ?_;cases cy<;>simp_all)
    all_goals omega
end
section
def U3(f:Fct):Bool:=if f.kind=3 then decide (f.table=[])&&decide (f.key=[])&&decide (f.event=0)&&decide ((f.fields.length:Int)=0)else Mw f.key&&decide (0<=f.event)&&decide (f.event<=1099511627776)
def RR(f:Fct):Bool:=if f.kind=1 then decide (f.ref=0)else if f.kind=2\/f.kind=3 then decide (1<=f.ref)&&decide (f.ref<f.id.seq)else false
def H8(f:Fct):Bool:=Di f.id.source&&decide (1<=f.id.seq)&&decide (f.id.seq<=1099511627776)&&RR f&&U3 f
theorem xJ(f:Fct)(hf:Bz f<=1073741824):Is mx 90 [.agg (Ap f)] (.bool (H8 f)):=by
 have h0:=IM f;have h1:=ak (mx:=mx) f.key (by omega);refine MX F90 ?_
 (repeat' first|exact Av _|simp only[go_sem,simprocAttr]|refine' AD (fun hq=>?_) (fun f=>?_)<;>try(have je:=hq;try simp only[HB]at je)|refine Sx.s ?_ ?_<;>try(intro h;have h':=h;try simp only[HB]at h';try simp only[h])|refine Ab (IK _) ?_|refine Ab (h1) ?_|refine Ae ?_|refine Sz.s ?_|fail)
 all_goals(refine congrArg I.bool ?_;simp only[H8,U3,RR];first|done|(grind(splits:=20)))
def PU(v:Val)(f:Fld):Bool:=RJ v f.typ
def C2(c:Cat)(f:Fct):Int:=
 if H8 f=false then 1 else if f.kind=3 then 0 else match AU c.tables f.table with
  |none=>4
  |some t=>if f.fields.length≠t.fields.length then 5 else if eqL PU f.fields t.fields=true then 0 else 5
theorem bm{q c r:Bool}(h:q=(c&&r))(hc:(!c)=true):q=false:=(JH h hc).symm
theorem bo(c:Cat)(f:Fct)(hc:AP c<=1073741824)(hf:Bz f<=1073741824):Is mx 60 [.agg (At c),.agg (Ap f)] (iI (C2 c f)):=by
 have h0:=IM f;have hvl:=PG f.fields;have lt:=H2 c.tables;have hb:=Ce c;have h1:=xJ (mx:=mx) f hf;have h2:=PP (mx:=mx) c f.table (by omega);have hR:=C2.eq_1 c f;refine MX F60 ?_;cases vu:H8 f
 ·rw[vu]at h1;rw[if_pos vu]at hR;rw[hR];exact Dp h1 trivial
 ·rw[vu]at h1;rw[if_neg (by rw[vu];simp)]at hR;by_cases h3:f.kind=3
  ·rw[if_pos h3]at hR;rw[hR];exact Dp (cj h1 h3) trivial
  ·rw[if_neg h3]at hR;cases ht:AU c.tables f.table with
   |none=>rw[ht]at h2 hR;rw[hR];simp only[Hm,Option.getD_none,Option.isSome_none]at h2;exact Dp (cj h1 (cj h2 h3)) trivial
   |some t=>
    rw[ht]at h2 hR;simp only at hR;simp only[Hm,Option.getD_some,Option.isSome_some]at h2;by_cases hl:f.fields.length=t.fields.length
    ·rw[if_neg (by omega)]at hR;have hlF:((f.fields.length:Int)=(t.fields.length:Int))=True:=eq_true (by omega);refine A4 (cj h1 (cj h2 (cj h3 hlF))) ?_;refine lS [3,5] (fun i=>[(7,.i (iI i))]) (fun _=>[]) (fun i=>eqL PU f.fields t.fields=eqL PU (f.fields.drop i) (t.fields.drop i)) f.fields.length ?_;intro i hi jb;by_cases ja:i<f.fields.length
     ·have jt:i<t.fields.length:=by omega
      have jh:=HU jb ja jt;have h4:=vR (mx:=mx) (f.fields.getD i default) (t.fields.getD i default).typ (by have h1:=Cd (b:=EZ) (AA ja);have h2:EZ (f.fields.getD i default)=(f.fields.getD i default).s.length+1:=rfl;omega);refine Kas (cj h4 (cj (Cq ja) (Cq jt))) (cj ?_ ?_)
      ·intro h h';rw[hR,bm jh h];rfl
      ·intro h h';exact IH jh h
     ·rw[hR,HV jb (by omega) (by omega)];exact Hw (Ih ja) trivial
    ·rw[if_pos hl]at hR;rw[hR];have hlF:((f.fields.length:Int)=(t.fields.length:Int))=False:=eq_false (by omega);exact A4 (cj h1 (cj h2 (cj h3 hlF))) trivial
def Ay(f:Fct):Fid:=if f.kind=1 then f.id else⟨f.id.source,f.ref⟩
theorem U4(f:Fct):Is mx 44 [.agg (Ap f)] (.agg (Ao (Ay f))):=by
 refine MX F44 ?_;refine WB (cj ?_ ?_)
 ·intro h h';simp[Ay,h']
 ·intro h h';simp[Ay,h']
def D7(a b:Int):Int:=if a<b then-1 else if b<a then 1 else 0
theorem xK(a b:Int):Is mx 178 [iI a,iI b] (iI (D7 a b)):=by
 refine MX oX ?_
 (repeat' first|simp only[go_sem,simprocAttr]|refine Sx.s ?_ ?_<;>try(intro h;have h':=h;try simp only[HB]at h';try simp only[h])|refine Ae ?_|refine Sz.s ?_|fail)
 all_goals(refine congrArg (I.int .i64) ?_;simp only[D7];first|done|(grind(splits:=20)))
def CS(a b:Fid):Int:=if Op.bytesLess a.source b.source=true then-1 else if a.source=b.source then D7 a.seq b.seq else 1
theorem xL(a b:Fid):Is mx 119 [.agg (Ao a),.agg (Ao b)] (iI (CS a b)):=by
 have h1:=xK (mx:=mx) a.seq b.seq;refine MX rA ?_
 (repeat' first|simp only[go_sem,simprocAttr]|refine Sx.s ?_ ?_<;>try(intro h;have h':=h;try simp only[HB]at h';try simp only[h])|refine Ab (h1) ?_|refine Ae ?_|refine Sz.s ?_|fail)
 all_goals(refine congrArg (I.int .i64) ?_;simp only[CS];first|done|(grind(splits:=20)))
def FC(a b:Rw):Int:=if D7 a.event b.event≠0 then D7 a.event b.event else CS a.id b.id
end
section
def BY(l:List Ftr)(name:AT):Int:=Bk (fun f:Ftr=>decide (f.name=name)) l
theorem xM{α:Type}[Inhabited α]{p:α->Bool}{l:List α}{i:Nat}(h:(l.take i).all (fun x=>!p x)=true)(hi:i<l.length)(hp:p (l.getD i default)=true):Bk p l=(i:Int):=by
 rw[AS hi]at hp;refine KP hi hp fun j hj hji=>?_
 rw[List.all_eq_true]at h;have hm:l[j]∈l.take i:=List.mem_iff_getElem.2 ⟨j,by simp;omega,by simp⟩;grind
theorem xN{α:Type}{p:α->Bool}{l:List α}{i:Nat}(h:(l.take i).all (fun x=>!p x)=true)(hi:¬i<l.length):Bk p l=-1:=by rw[List.take_of_length_le (by omega),List.all_eq_true]at h;grind[KQ]
theorem N7(l:List Ftr)(name:AT)(hl:l.length<=1073741824):Is mx 202 [.sl (l.map Ag),.str name,iI 0] (iI (BY l name)):=by
 refine MX nR ?_;refine OG ?_;refine lS [0,1] (fun i=>[(7,.i (iI i))]) (fun _=>[]) (fun i=>(l.take i).all (fun f=>!decide (f.name=name))=true) l.length ?_;intro i hi jb;by_cases ja:i<l.length
 ·by_cases hn:(l.getD i default).name=name
  ·rw[show BY l name=(i:Int)from xM jb ja (by simpa using hn)];exact Hw (cj (Cq ja) hn) trivial
  ·refine La (cj (Cq ja) hn) ?_;exact BR (d:=default) jb ja (by simpa using hn)
 ·rw[show BY l name=-1 from xN jb ja];exact Hw (Ih ja) trivial
def GP(l:List Ftr)(name:AT):Nat->Int
 |0=>-1
 |i+1=>if(l.getD i default).name=name then(i:Int)else GP l name i
def H9(l:List Ftr)(name:AT):Int:=GP l name l.length
theorem xO(l:List Ftr)(name:AT)(hl:l.length<=1073741824):Is mx 206 [.sl (l.map Ag),.str name] (iI (H9 l name)):=by
 refine MX nS ?_
 (repeat' first|simp(disch:=omega)only[go_sem,simprocAttr]|fail)
 refine DQ [0,1] (by simp only[V0,MQ,reduceIte,Nat.reduceEqDiff];rfl) (fun i=>[(5,.i (iI (GP l name i))),(6,.i (iI i))]) (fun _=>[]) (fun _=>True) l.length 0 (by omega) trivial (by simp[V0,I9,L9,GP]) ?_;intro i hi _;by_cases ja:i<l.length
 ·by_cases hn:(l.getD i default).name=name
  ·(repeat' first|simp(disch:=omega)only[go_sem,simprocAttr,Cq ja,eq_true hn,GP]|refine Ae ?_|fail)
   exact ja
  ·(repeat' first|simp(disch:=omega)only[go_sem,simprocAttr,Cq ja,eq_false hn,GP]|refine Ae ?_|fail)
   exact ja
 ·have hie:i=l.length:=by omega
  rw[H9,<-hie];exact Hw (Ih ja) trivial
def Bd{α:Type}(l:List α)(k:Nat):List α:=l.take k++l.drop (k+1)
theorem PV(l:List Ftr)(k:Nat)(hl:l.length<=1073741824)(hk:k<l.length):Is mx 205 [.sl (l.map Ag),iI k] (.sl ((Bd l k).map Ag)):=by
 have h1:=Bi (l.take k) C9 Do;have h2:=Bi (l.drop (k+1)) C9 Do;have h0:=Bi l C9 Do;rw[List.map_take]at h1;rw[List.map_drop]at h2;have c1:(k<=l.length)=True:=eq_true (by omega);have c2:(k+1<=l.length)=True:=eq_true (by omega);have c3:min k l.length=k:=by omega
 have ky:((k:Int)+1).toNat=k+1:=by omega
 have c4:((k:Int)+1<=(l.length:Int))=True:=eq_true (by omega);have c5:((k:Int)<=(l.length:Int))=True:=eq_true (by omega);have c6:(0<=(k:Int)+1)=True:=eq_true (by omega);refine MX rT ?_
 (repeat' first|simp(disch:=omega)only[go_sem,simprocAttr,eq_true h0.1,eq_true h1.1,eq_true h1.2,Int.le_refl,eq_true h2.1,eq_true h2.2,Nat.zero_add,Nat.sub_zero,List.length_map,List.length_take,List.length_drop,List.length_nil,c3,ky,c4,c5,c6,List.take_take,Nat.min_self]|refine Sz.s ?_|(refine And.intro ?_ ?_;focus omega))
 rw[List.take_of_length_le (by simp;omega)];simp only[Bd,List.map_append,List.map_take,List.map_drop]
def Bo{α:Type}(l:List α)(k:Nat)(x:α):List α:=l.take k++[x]++l.drop k
def FE(l:List Ftr)(name:AT):Nat:=(l.takeWhile fun g=>WE g.name name).length
theorem xP(l:List Ftr)(name:AT):FE l name<=l.length:=List.Sublist.length_le (List.takeWhile_sublist _)
def B4(l:List Ftr)(f:Ftr):List Ftr:=Bo l (FE l f.name) f
theorem N8{α:Type}{f:α->List I}{l:List α}{s:α}{k:Nat}(h:k<=l.length):List.take (k+1+(l.length-k)) (List.take (k+1) (List.take k (l.map f)++[f s])++List.drop k (l.map f))=List.map f (List.take k l++[s]++List.drop k l):=by have:=UU f (s:=s) h;simp_all
theorem N9(l:List Ftr)(f:Ftr)(hl:l.length<=1073741823):Is mx 204 [.sl (l.map Ag),.agg (Ag f)] (.sl ((B4 l f).map Ag)):=by
 refine MX qC ?_
 (repeat' first|simp(disch:=omega)only[go_sem,simprocAttr]|fail)
 refine BG [0,3] (by simp only[V0,MQ,reduceIte,Nat.reduceEqDiff];rfl) (fun k:Nat=>[(5,.i (iI k))]) (fun _=>[])
  (fun k=>k<=l.length/\(l.take k).all (fun g=>WE g.name f.name)=true) (fun k=>l.length-k) 0 (by simp) (by simp[V0,I9,L9]) ?_
 rintro k ⟨hk,jg⟩;have h1:=Bi (l.take k) C9 Do;have h2:=Bi (l.drop k) C9 Do;have h0:=Bi l C9 Do;have c5:((k:Int)<=(l.length:Int))=True:=eq_true (by omega);have h3:=Bi [f] C9 Do;rw[List.map_take]at h1;rw[List.map_drop]at h2;simp only[List.map_cons,List.map_nil]at h3;have c1:(k<=l.length)=True:=eq_true (by omega);have c3:min k l.length=k:=by omega
 by_cases jk:k<l.length
 ·cases jj:WE (l.getD k default).name f.name
  ·have ku:FE l f.name=k:=RQ jg jk jj;have vw:B4 l f=l.take k++[f]++l.drop k:=by rw[B4,ku];rfl
   rw[vw];unfold WE at jj
   (repeat' first|simp(disch:=omega)only[go_sem,simprocAttr,Cq jk,jj,eq_true h0.1,eq_true h1.1,eq_true h1.2,Int.le_refl,eq_true h2.1,eq_true h2.2,eq_true h3.1,eq_true h3.2,Nat.zero_add,Nat.sub_zero,List.length_map,List.length_take,List.length_drop,List.length_nil,c3,c5,List.take_take,Nat.min_self]|refine Ae ?_|refine AG ?_|refine Sz.s ?_|(refine And.intro ?_ ?_;focus omega))
   rw[<-N8 hk]
  ·have hle2:=jj;unfold WE at hle2
   (repeat' first|simp(disch:=omega)only[go_sem,simprocAttr,Cq jk,hle2]|refine Ae ?_|refine AG ?_|fail)
   exact⟨k+1,⟨by omega,BR (d:=default) jg jk jj⟩,by omega,rfl⟩
 ·have ku:FE l f.name=k:=JI jg hk (.inl (by omega));have vw:B4 l f=l.take k++[f]++l.drop k:=by rw[B4,ku];rfl
  rw[vw]
  (repeat' first|simp(disch:=omega)only[go_sem,simprocAttr,Ih jk,eq_true h0.1,eq_true h1.1,eq_true h1.2,Int.le_refl,eq_true h2.1,eq_true h2.2,eq_true h3.1,eq_true h3.2,Nat.zero_add,Nat.sub_zero,List.length_map,List.length_take,List.length_drop,List.length_nil,c3,c5,List.take_take,Nat.min_self]|refine Ae ?_|refine AG ?_|refine Sz.s ?_|(refine And.intro ?_ ?_;focus omega))
  rw[<-N8 hk]
def Ln(r:Cat×Int):I:=.tup [.agg (At r.1),iI r.2]
abbrev ME:List D:=[.i (.sl []),.i (.sl []),.i (.sl []),.i (.sl [])]
def E9(l:List Tbl)(name:AT):Nat:=(l.takeWhile fun g=>WE g.name name).length
def Fa(l:List Tbl)(t:Tbl):List Tbl:=Bo l (E9 l t.name) t
def K4(c:Cat)(t:Tbl):Cat×Int:=if(AU c.tables t.name).isSome=true then(B3,121)else({c with tables:=Fa c.tables t},0)
theorem Oa(t:Tbl):(AR t).length=4:=rfl
theorem Ob(t:Tbl):(AR t).all I.one=true:=rfl
theorem xQ(c:Cat)(t:Tbl)(hl:c.tables.length<=1073741823):Is mx 145 [.agg (At c),.agg (AR t)] (Ln (K4 c t)):=by
 have h1:=PP (mx:=mx) c t.name (by omega);unfold Hm at h1;refine MX oT ?_;cases hs:(AU c.tables t.name).isSome
 ·rw[hs]at h1;rw[K4,if_neg (by rw[hs];simp)]
  (repeat' first|simp(disch:=omega)only[go_sem,simprocAttr]|refine Sx.s ?_ ?_<;>try(intro h;have h':=h;try simp only[HB]at h';try rewrite [h];try simp only[h])|refine Ab (h1) ?_|refine Ae ?_|fail)
  refine BG [2,3,4] (by simp only[V0,MQ,reduceIte,Nat.reduceEqDiff];rfl) (fun k:Nat=>[(8,.i (iI k))]) (fun _=>[(4,.cells ME),(2,.cells ((At c).map .i))])
   (fun k=>k<=c.tables.length/\(c.tables.take k).all (fun g=>WE g.name t.name)=true) (fun k=>c.tables.length-k) 0 (by simp) (by simp[V0,I9,Ref.nm,At,D.nms,OL]) ?_
  rintro k ⟨hk,jg⟩;have h1:=Bi (c.tables.take k) Oa Ob;have h2:=Bi (c.tables.drop k) Oa Ob;have h0:=Bi c.tables Oa Ob;have c5:((k:Int)<=(c.tables.length:Int))=True:=eq_true (by omega);have h3:=Bi [t] Oa Ob;rw[List.map_take]at h1;rw[List.map_drop]at h2;simp only[List.map_cons,List.map_nil]at h3;have x1:(∀r∈[[I.str t.name,I.str t.entity,I.sl (t.fields.map Cc),I.int .i64 t.keep]],r.length=4)=True:=eq_true (by simp);have x2:(∀r∈[[I.str t.name,I.str t.entity,I.sl (t.fields.map Cc),I.int .i64 t.keep]],r.all I.one=true)=True:=eq_true (by simp[I.one]);have c1:(k<=c.tables.length)=True:=eq_true (by omega);have c3:min k c.tables.length=k:=by omega
  by_cases jk:k<c.tables.length
  ·cases jj:WE (c.tables.getD k default).name t.name
   ·have ku:E9 c.tables t.name=k:=RQ jg jk jj;have vw:Fa c.tables t=c.tables.take k++[t]++c.tables.drop k:=by rw[Fa,ku];rfl
    rw[vw];unfold WE at jj
    (repeat' first|simp(disch:=omega)only[go_sem,simprocAttr,Ln,List.map_cons,List.map_nil,Cq jk,jj,eq_true h0.1,eq_true h1.1,eq_true h1.2,Int.le_refl,eq_true h2.1,eq_true h2.2,x1,x2,Nat.zero_add,Nat.sub_zero,List.length_map,List.length_take,List.length_drop,List.length_nil,c3,c5,List.take_take,Nat.min_self]|refine Ae ?_|refine AG ?_|refine Sz.s ?_|(refine And.intro ?_ ?_;focus omega))
    rw[<-N8 (f:=AR) hk];rfl
   ·have hle2:=jj;unfold WE at hle2;refine By (cj (Cq jk) hle2) ?_;exact⟨k+1,⟨by omega,BR (d:=default) jg jk jj⟩,by omega,rfl⟩
  ·have ku:E9 c.tables t.name=k:=JI jg hk (.inl (by omega));have vw:Fa c.tables t=c.tables.take k++[t]++c.tables.drop k:=by rw[Fa,ku];rfl
   rw[vw]
   (repeat' first|simp(disch:=omega)only[go_sem,simprocAttr,Ln,List.map_cons,List.map_nil,Ih jk,eq_true h0.1,eq_true h1.1,eq_true h1.2,Int.le_refl,eq_true h2.1,eq_true h2.2,x1,x2,Nat.zero_add,Nat.sub_zero,List.length_map,List.length_take,List.length_drop,List.length_nil,c3,c5,List.take_take,Nat.min_self]|refine Ae ?_|refine AG ?_|refine Sz.s ?_|(refine And.intro ?_ ?_;focus omega))
   rw[<-N8 (f:=AR) hk];rfl
 ·rw[hs]at h1;rw[K4,if_pos hs];exact Dp (cj h1 @Ln.eq_1) trivial
def DF(name:AT)(n:Int)(f:Ftr):Int:=if f.name=name then(if n<=f.version then f.version else n)else n
def FF(c:Cat)(name:AT):Int:=(Cf c).foldl (DF name) 0
theorem xR(c:Cat)(name:AT)(h1:c.features.length<=1073741)(h2:c.drafts.length<=1073741)(h3:c.past.length<=1073741):Is mx 203 [.agg (At c),.str name] (iI (FF c name)):=by
 have ha:=Bi c.features C9 Do;have hb:=Bi c.drafts C9 Do;have hp:=Bi c.past C9 Do;have t1:List.take (c.features.length+c.drafts.length) (c.features.map Ag++c.drafts.map Ag)=c.features.map Ag++c.drafts.map Ag:=List.take_of_length_le (by simp);have t2:List.take (c.features.length+c.drafts.length+c.past.length) (c.features.map Ag++c.drafts.map Ag++c.past.map Ag)=c.features.map Ag++c.drafts.map Ag++c.past.map Ag:=List.take_of_length_le (by simp;omega);have hvl:(Cf c).length=c.features.length+c.drafts.length+c.past.length:=by grind[Cf]
 have hvm:(Cf c).map Ag=c.features.map Ag++c.drafts.map Ag++c.past.map Ag:=by simp[Cf]
 refine MX pe ?_
 (repeat' first|simp(disch:=omega)only[go_sem,simprocAttr,eq_true ha.1,eq_true ha.2,eq_true hb.1,eq_true hb.2,eq_true hp.1,eq_true hp.2,Nat.zero_add,Nat.sub_zero,List.length_map,List.length_append,List.length_nil,t1]|refine AG ?_|(refine And.intro ?_ ?_;focus omega))
 rw[<-hvm,<-hvl];have hR:FF c name=(Cf c).foldl (DF name) 0:=rfl;rw[hR];have hvle:(Cf c).length<=1073741824:=by omega
 generalize Cf c=all at hvle;refine DQ [1,5] (by simp only[V0,MQ,reduceIte,Nat.reduceEqDiff];rfl) (fun i=>[(6,.i (iI ((all.take i).foldl (DF name) 0))),(7,.i (iI i))]) (fun _=>[(8,.rows 62 18 (all.map Ag))]) (fun _=>True) all.length 0 (by omega) trivial (by simp[V0,I9,L9,Ref.nm]) ?_;intro i hi _;by_cases ja:i<all.length
 ·have hT:(all.take (i+1)).foldl (DF name) 0=DF name ((all.take i).foldl (DF name) 0) (all.getD i default):=by grind[Cg]
  have hnT:(i<all.length)=True:=eq_true ja;generalize (all.take i).foldl (DF name) 0=n at hT;by_cases hn:(all.getD i default).name=name
  ·refine By (cj (Cq ja) (cj hn hnT)) ?_;rw[hT,DF,if_pos hn];refine congrArg (fun n=>D.i (I.int .i64 n)) ?_;split<;>split<;>omega
  ·refine By (cj (Cq ja) (cj hn hnT)) ?_;rw[hT,DF,if_neg hn]
 ·have e:all.take i=all:=List.take_of_length_le (by omega);rw[e];have hnF:((i:Int)<(all.length:Int))=False:=Ih ja;exact By hnF trivial
end
section
theorem EF(l:List Ftr)(name:AT):(BY l name=-1/\BX l name=none)\/∃i:Nat,BY l name=(i:Int)/\i<l.length/\BX l name=some (l.getD i default):=by
 have h0:BY l name=-1\/0<=BY l name:=by grind[BY,Bk]
 rcases Mq (fun f:Ftr=>decide (f.name=name)) l with⟨h1,h2⟩|⟨h1,h2,h3⟩
 ·have h1:BY l name<0:=h1;exact .inl ⟨by omega,h2⟩
 ·have h1:0<=BY l name:=h1;exact .inr ⟨(BY l name).toNat,by omega,h2,h3⟩
theorem Cx(f:Ftr):Ag f=[.str f.name,.str f.entity,.int .i64 f.typ.kind,.sl (f.typ.unit.map Aw),.str f.typ.of,.int .i64 f.body.kind,.str f.body.op,.str f.body.name,.str f.body.table,.int .i64 f.body.val.kind,.int .i64 f.body.val.n,.str f.body.val.s,.sl (f.body.unit.map Aw),.int .i64 f.body.param,.int .i64 f.body.win.kind,.int .i64 f.body.win.size,.sl (f.body.args.map eE),.int .i64 f.version]:=by simp[Ag,Ar,Pn]
theorem RS(l:List Ftr)(name:AT):∀n,GP l name n=-1\/∃i:Nat,GP l name n=(i:Int)/\i<n/\(l.getD i default).name=name
 |0=>.inl rfl
 |n+1=>by
  unfold GP;split
  ·rename_i h;exact .inr ⟨n,rfl,by omega,h⟩
  ·rcases RS l name n with h|⟨i,h1,h2,h3⟩
   ·exact .inl h
   ·exact .inr ⟨i,h1,by omega,h3⟩
theorem RT{α:Type}(l:List α)(k:Nat):(Bd l k).length<=l.length:=by grind[Bd]
theorem xS(l:List Ftr)(f:Ftr):(B4 l f).length=l.length+1:=by grind[B4,Bo]
def IU(c:Cat)(name:AT):Cat×Int:=if BY c.drafts name<0 then(B3,4)else({c with drafts:=Bd c.drafts (BY c.drafts name).toNat},0)
theorem xT(c:Cat)(name:AT)(h2:c.drafts.length<=1073741824):Is mx 149 [.agg (At c),.str name] (Ln (IU c name)):=by
 have i1:=N7 (mx:=mx) c.drafts name h2;refine MX oU ?_;rcases EF c.drafts name with⟨e,_⟩|⟨i,e,hi,_⟩
 ·rw[e]at i1;rw[IU,e];exact Dp (cj i1 @Ln.eq_1) trivial
 ·rw[e]at i1;have hR:IU c name=({c with drafts:=Bd c.drafts i},0):=by grind[IU]
  rw[hR];have hF:((i:Int)<0)=False:=eq_false (by omega);have w1:=PV (mx:=mx) c.drafts i h2 hi;exact Dp (cj i1 (cj w1 (cj @Ln.eq_1 hF))) trivial
def GQ(c:Cat)(name:AT):Cat×Int:=
 if BY c.drafts name<0 then(B3,4)
 else if BY c.features name<0 then(⟨c.tables,B4 c.features (c.drafts.getD (BY c.drafts name).toNat default),Bd c.drafts (BY c.drafts name).toNat,c.past⟩,0)
 else(⟨c.tables,B4 (Bd c.features (BY c.features name).toNat) (c.drafts.getD (BY c.drafts name).toNat default),Bd c.drafts (BY c.drafts name).toNat,B4 c.past (c.features.getD (BY c.features name).toNat default)⟩,0)
theorem xU(c:Cat)(name:AT)(h1:c.features.length<=1073741823)(h2:c.drafts.length<=1073741823)(h3:c.past.length<=1073741823):Is mx 147 [.agg (At c),.str name] (Ln (GQ c name)):=by
 have i1:=N7 (mx:=mx) c.drafts name (by omega);have i2:=N7 (mx:=mx) c.features name (by omega);refine MX rI ?_;rcases EF c.drafts name with⟨e,_⟩|⟨i,e,hi,_⟩
 ·rw[e]at i1;rw[GQ,e];exact Dp (cj i1 @Ln.eq_1) trivial
 ·rw[e]at i1;have hF:((i:Int)<0)=False:=eq_false (by omega);have w1:=PV (mx:=mx) c.drafts i (by omega) hi;rcases EF c.features name with⟨e',_⟩|⟨j,e',hj,_⟩
  ·rw[e']at i2;have hR:GQ c name=(⟨c.tables,B4 c.features (c.drafts.getD i default),Bd c.drafts i,c.past⟩,0):=by grind[GQ]
   rw[hR];have s1:=N9 (mx:=mx) c.features (c.drafts.getD i default) h1;exact Dp (cj i1 (cj w1 (cj i2 (cj s1 (cj @Ln.eq_1 (cj hF (Cq hi))))))) trivial
  ·rw[e']at i2;have hR:GQ c name=(⟨c.tables,B4 (Bd c.features j) (c.drafts.getD i default),Bd c.drafts i,B4 c.past (c.features.getD j default)⟩,0):=by grind[GQ]
   rw[hR];have hF2:(0<=(j:Int))=True:=eq_true (by omega);have w2:=PV (mx:=mx) c.features j (by omega) hj;have s1:=N9 (mx:=mx) (Bd c.features j) (c.drafts.getD i default) (by have:=RT c.features j;omega);have s2:=N9 (mx:=mx) c.past (c.features.getD j default) h3
   (repeat' first|simp(disch:=omega)only[go_sem,simprocAttr,Ln,hF,hF2,Cq hi,Cq hj]|refine Sx.s ?_ ?_<;>try(intro h;have h':=h;try simp only[HB]at h';try simp only[h])|refine Ab (i1) ?_|refine Ab (w1) ?_|refine Ab (i2) ?_|refine Ab (w2) ?_|refine Ab (s1) ?_|refine Ab (s2) ?_|refine Ae ?_|refine AG ?_|refine Sz.s ?_)
   all_goals(try rfl)
def FG(c:Cat)(name:AT):Cat×Int:=
 if BY c.features name<0 then(B3,4)
 else if H9 c.past name<0\/0<=BY c.drafts name then(B3,140)
 else(⟨c.tables,B4 (Bd c.features (BY c.features name).toNat) (c.past.getD (H9 c.past name).toNat default),B4 c.drafts (c.features.getD (BY c.features name).toNat default),Bd c.past (H9 c.past name).toNat⟩,0)
theorem xV(c:Cat)(name:AT)(h1:c.features.length<=1073741823)(h2:c.drafts.length<=1073741823)(h3:c.past.length<=1073741823):Is mx 148 [.agg (At c),.str name] (Ln (FG c name)):=by
 have i1:=N7 (mx:=mx) c.drafts name (by omega);have i2:=N7 (mx:=mx) c.features name (by omega);have i3:=xO (mx:=mx) c.past name (by omega);refine MX nI ?_;rcases EF c.features name with⟨e,_⟩|⟨j,e,hj,_⟩
 ·rw[e]at i2;rw[FG,e];exact Dp (cj i2 @Ln.eq_1) trivial
 ·rw[e]at i2;have hF:((j:Int)<0)=False:=eq_false (by omega);rcases RS c.past name c.past.length with e3|⟨o,e3,ho,_⟩
  ·have e3':H9 c.past name=-1:=e3;rw[e3']at i3;have hR:FG c name=(B3,140):=by grind[FG]
   rw[hR];exact Dp (cj i2 (cj i3 (cj @Ln.eq_1 hF))) trivial
  ·have e3':H9 c.past name=(o:Int):=e3;rw[e3']at i3;have hF3:((o:Int)<0)=False:=eq_false (by omega);rcases EF c.drafts name with⟨e1,_⟩|⟨i,e1,hi,_⟩
   ·rw[e1]at i1;have hR:FG c name=(⟨c.tables,B4 (Bd c.features j) (c.past.getD o default),B4 c.drafts (c.features.getD j default),Bd c.past o⟩,0):=by rw[FG,e,e1,e3',if_neg (by omega),if_neg (by omega)];rfl
    rw[hR];have w2:=PV (mx:=mx) c.features j (by omega) hj;have w3:=PV (mx:=mx) c.past o (by omega) ho;have s1:=N9 (mx:=mx) (Bd c.features j) (c.past.getD o default) (by have:=RT c.features j;omega);have s2:=N9 (mx:=mx) c.drafts (c.features.getD j default) h2
    (repeat' first|simp(disch:=omega)only[go_sem,simprocAttr,Ln,hF,hF3,Cq hj,Cq ho]|refine Sx.s ?_ ?_<;>try(intro h;have h':=h;try simp only[HB]at h';try simp only[h])|refine Ab (i1) ?_|refine Ab (i2) ?_|refine Ab (i3) ?_|refine Ab (w2) ?_|refine Ab (w3) ?_|refine Ab (s1) ?_|refine Ab (s2) ?_|refine Ae ?_|refine AG ?_|refine Sz.s ?_)
    all_goals(try rfl)
   ·rw[e1]at i1
    have hF2:(0<=(i:Int))=True:=eq_true (by omega)
    have hR:FG c name=(B3,140):=by simp_all[FG,e1]
    rw[hR]
    exact Dp (cj i1 (cj i2 (cj i3 (cj @Ln.eq_1 (cj hF (cj hF2 hF3)))))) trivial
theorem bp{name:AT}:∀(l:List Ftr) (n:Int),n<=l.foldl (DF name) n
 |[],n=>Int.le_refl _
 |f::l,n=>by
  have h1:n<=DF name n f:=by grind[DF]
  exact Int.le_trans h1 (bp l _)
theorem xW(c:Cat)(name:AT):0<=FF c name:=bp _ _
def Ho(f:Ftr)(v:Int):Ftr:=⟨f.name,f.entity,f.typ,f.body,v⟩
def JO(c:Cat)(f:Ftr):Cat×Int:=
 if f.version≠0 then(B3,1)else if 0<=BY c.drafts f.name then(B3,121)else if DU c f≠0 then(B3,DU c f)
 else if 1099511627776<=FF c f.name then(B3,2)else({c with drafts:=B4 c.drafts (Ho f (FF c f.name+1))},0)
theorem xX(c:Cat)(f:Ftr)(hc:AP c<=1073741823)(hf:Bl f<=1073741823)(h1:c.features.length<=1073741)(h2:c.drafts.length<=1073741)(h3:c.past.length<=1073741):Is mx 146 [.agg (At c),.agg (Ag f)] (Ln (JO c f)):=by
 have i1:=N7 (mx:=mx) c.drafts f.name (by omega);have f1:=aG (mx:=mx) c f (by omega) (by omega);have n1:=xR (mx:=mx) c f.name h1 h2 h3;have hge:=xW c f.name;have hR:=JO.eq_1 c f;rw[Cx]at f1⊢;refine MX pX ?_;by_cases hv:f.version=0
 ·rw[if_neg (by omega)]at hR;rcases EF c.drafts f.name with⟨e,_⟩|⟨i,e,hi,_⟩
  ·rw[e]at i1 hR;rw[if_neg (by omega)]at hR;by_cases qa:DU c f=0
   ·rw[if_neg (by omega)]at hR;rw[qa]at f1;by_cases hnw:1099511627776<=FF c f.name
    ·rw[if_pos hnw]at hR;rw[hR]
     (repeat' first|simp(disch:=omega)only[go_sem,simprocAttr,Ln,eq_true hv,ne_eq,not_true_eq_false,decide_false,decide_true,eq_true hnw]|refine Sx.s ?_ ?_<;>try(intro h;have h':=h;try simp only[HB]at h';try simp only[h])|refine Ab (i1) ?_|refine Ab (f1) ?_|refine Ab (n1) ?_|refine Ae ?_|refine Sz.s ?_|fail)
     all_goals(try rfl)
    ·rw[if_neg hnw]at hR;rw[hR];have s1:=N9 (mx:=mx) c.drafts (Ho f (FF c f.name+1)) (by omega);rw[Cx]at s1;simp only[Ho]at s1
     (repeat' first|simp(disch:=omega)only[go_sem,simprocAttr,Ln,eq_true hv,ne_eq,not_true_eq_false,decide_false,decide_true,eq_false hnw]|refine Sx.s ?_ ?_<;>try(intro h;have h':=h;try simp only[HB]at h';try simp only[h])|refine Ab (i1) ?_|refine Ab (f1) ?_|refine Ab (n1) ?_|refine Ab (s1) ?_|refine Ae ?_|refine Sz.s ?_|fail)
     all_goals(try rfl)
   ·rw[if_pos qa]at hR;rw[hR];have hn:(DU c f=0)=False:=eq_false qa
    (repeat' first|simp(disch:=omega)only[go_sem,simprocAttr,Ln,eq_true hv,ne_eq,not_true_eq_false,not_false_eq_true,decide_false,decide_true,hn]|refine Sx.s ?_ ?_<;>try(intro h;have h':=h;try simp only[HB]at h';try simp only[h])|refine Ab (i1) ?_|refine Ab (f1) ?_|refine Ae ?_|refine Sz.s ?_|fail)
    all_goals(try rfl)
  ·rw[e]at i1 hR;rw[if_pos (by omega)]at hR;rw[hR];have hF2:(0<=(i:Int))=True:=eq_true (by omega);exact A4 (cj i1 (cj @Ln.eq_1 (cj hv hF2))) trivial
 ·rw[if_pos hv]at hR;rw[hR];have hn:(f.version=0)=False:=eq_false hv;exact By (cj @Ln.eq_1 hn) trivial
end
section
def RU(a b:Chg):Bool:=decide (a.kind=b.kind)&&decide (a.name=b.name)&&Gf a.table b.table&&GF a.feature b.feature
theorem U5(a b:Chg)(ha:Cl a<=1073741824)(hb:Cl b<=1073741824):Is mx 144 [.agg (AE a),.agg (AE b)] (.bool (RU a b)):=by
 have a3:=GD a;have b3:=GD b;have h2:=UF (mx:=mx) a.table b.table (by omega) (by omega);have h3:=UG (mx:=mx) a.feature b.feature (by omega) (by omega);refine MX nH ?_
 (repeat' first|exact Av _|simp only[go_sem,simprocAttr]|refine' AD (fun hq=>?_) (fun f=>?_)<;>try(have je:=hq;try simp only[HB]at je)|refine Ab (h2) ?_|refine Ab (h3) ?_|refine Sz.s ?_|fail)
 all_goals rfl
def JP(x:Chg):Chg:=if x.kind=1 then⟨x.kind,x.table,CL,[]⟩else if x.kind=2 then⟨x.kind,BB,x.feature,[]⟩else⟨x.kind,BB,CL,x.name⟩
def GR(x:Chg):Bool:=if 1<=x.kind/\x.kind<=5 then RU x (JP x)else false
theorem xY(x:Chg)(hx:Cl x<=1073741000):Is mx 106 [.agg (AE x)] (.bool (GR x)):=by
 have hb:=GD x;have n1:Bl CL=4:=by decide
 have n2:Dt BB=1:=by decide
 have c1:=U5 (mx:=mx) x ⟨x.kind,x.table,CL,[]⟩ (by omega) (by rw[GD];simp only[n1];simp;omega);have c2:=U5 (mx:=mx) x ⟨x.kind,BB,x.feature,[]⟩ (by omega) (by rw[GD];simp only[n2];simp;omega);have c3:=U5 (mx:=mx) x ⟨x.kind,BB,CL,x.name⟩ (by omega) (by rw[GD];simp only[n1,n2];omega);have e1:=Cx x.feature;by_cases hk:1<=x.kind/\x.kind<=5
 ·have jk:x.kind=1\/x.kind=2\/x.kind=3\/x.kind=4\/x.kind=5:=by omega
  have hR:GR x=RU x (JP x):=by grind[GR]
  rw[hR];have q1:x.kind≠1->x.kind≠2->JP x=⟨x.kind,BB,CL,x.name⟩:=fun h1 h2=>by grind[JP]
  rw[Bw ⟨x.kind,x.table,CL,[]⟩]at c1;rw[Bw ⟨x.kind,BB,x.feature,[]⟩]at c2;rw[Bw ⟨x.kind,BB,CL,x.name⟩]at c3;refine MX Y6 ?_;rcases jk with h|h|h|h|h
  ·rw[show JP x=⟨x.kind,x.table,CL,[]⟩ by rw[JP,if_pos h]];rw[h]at c1⊢;exact Dp (cj c1 h) trivial
  ·rw[show JP x=⟨x.kind,BB,x.feature,[]⟩ by rw[JP,if_neg (by omega),if_pos h]];rw[h]at c2⊢;exact Dp (cj c2 (cj h @Cx)) trivial
  ·rw[q1 (by omega) (by omega)];rw[h]at c3⊢;exact Dp (cj c3 h) trivial
  ·rw[q1 (by omega) (by omega)];rw[h]at c3⊢;exact Dp (cj c3 h) trivial
  ·rw[q1 (by omega) (by omega)];rw[h]at c3⊢;exact Dp (cj c3 h) trivial
 ·rw[GR,if_neg hk];have f1:(x.kind=1)=False:=eq_false (by omega);have f2:(x.kind=2)=False:=eq_false (by omega);have f3:(x.kind=3)=False:=eq_false (by omega);have f4:(x.kind=4)=False:=eq_false (by omega);have f5:(x.kind=5)=False:=eq_false (by omega);refine MX Y6 ?_;exact Hw (cj f1 (cj f2 (cj f3 (cj f4 f5)))) trivial
def DH(c:Cat)(x:Chg):Cat×Int:=
 if x.kind=1 then K4 c x.table else if x.kind=2 then JO c x.feature else if x.kind=3 then GQ c x.name else if x.kind=4 then FG c x.name else IU c x.name
theorem xZ(c:Cat)(x:Chg)(hc:AP c<=1073741)(hx:Cl x<=1073741):Is mx 107 [.agg (At c),.agg (AE x)] (Ln (DH c x)):=by
 have hb:=GD x;have w5:=Ce c;have l0:=H2 c.tables;have l1:=Dm c.features;have l2:=Dm c.drafts;have l3:=Dm c.past;have c1:=xQ (mx:=mx) c x.table (by omega);have c2:=xX (mx:=mx) c x.feature (by omega) (by omega) (by omega) (by omega) (by omega);have c3:=xU (mx:=mx) c x.name (by omega) (by omega) (by omega);have c4:=xV (mx:=mx) c x.name (by omega) (by omega) (by omega);have c5:=xT (mx:=mx) c x.name (by omega);unfold DH;refine MX pO ?_;by_cases h1:x.kind=1
 ·rw[if_pos h1];exact Dp (cj c1 (cj @Ln.eq_1 h1)) trivial
 rw[if_neg h1];by_cases h2:x.kind=2
 ·rw[if_pos h2];exact Dp (cj c2 (cj @Ln.eq_1 (cj h1 h2))) trivial
 rw[if_neg h2];by_cases h3:x.kind=3
 ·rw[if_pos h3];exact Dp (cj c3 (cj @Ln.eq_1 (cj h1 (cj h2 h3)))) trivial
 rw[if_neg h3];by_cases h4:x.kind=4
 ·rw[if_pos h4];exact Dp (cj c4 (cj @Ln.eq_1 (cj h1 (cj h2 (cj h3 h4))))) trivial
 ·rw[if_neg h4];exact Dp (cj c5 (cj @Ln.eq_1 (cj h1 (cj h2 (cj h3 h4))))) trivial
theorem Gi{α:Type}(b:α->Nat)(l r:List α):Af b (l++r)=Af b l+Af b r:=by
 induction l with
 |nil=>simp[Af]
 |cons a l ih=>simp only[List.cons_append,Af,ih];omega
theorem U6{α:Type}(b:α->Nat)(l:List α)(k:Nat):Af b (l.take k)+Af b (l.drop k)=Af b l:=by rw[<-Gi,List.take_append_drop]
theorem MF{α:Type}(b:α->Nat)(l:List α)(k:Nat)(x:α):Af b (Bo l k x)=Af b l+b x:=by grind[U6,Bo,Gi,Af]
theorem x7(l:List Ftr)(f:Ftr):Af Bl (B4 l f)=Af Bl l+Bl f:=MF Bl l _ f
theorem PW{α:Type}[Inhabited α](b:α->Nat)(l:List α)(k:Nat)(h:k<l.length):Af b (Bd l k)+b (l.getD k default)=Af b l:=by grind[U6,El,Bd,Gi,Af]
theorem x8(f:Ftr)(v:Int):Bl (Ho f v)=Bl f:=rfl
theorem U7(c:Cat)(x:Chg):AP (DH c x).1<=AP c+Cl x:=by
 have hx:=GD x;have hc:=Ce c;have hn:AP B3=1:=rfl;unfold DH;split
 ·unfold K4;split
  ·show AP B3<=_;omega
  ·show AP {c with tables:=Fa c.tables x.table}<=_;have:=MF Dt c.tables (E9 c.tables x.table.name) x.table;rw[Ce];simp only[Fa];omega
 split
 ·unfold JO;repeat' split
  all_goals first|(show AP B3<=_;omega)|skip
  have h2:=x8 x.feature (FF c x.feature.name+1);generalize Ho x.feature (FF c x.feature.name+1)=g at h2⊢;have h1:=x7 c.drafts g;have h3:=Ce ⟨c.tables,c.features,B4 c.drafts g,c.past⟩;simp only at h3;rw[h1,h2]at h3;exact(show AP ⟨c.tables,c.features,B4 c.drafts g,c.past⟩<=_ by rw[h3];omega)
 split
 ·unfold GQ;rcases EF c.drafts x.name with⟨e,_⟩|⟨i,e,hi,_⟩
  ·rw[e,if_pos (by omega)];show AP B3<=_;omega
  ·rw[e,if_neg (by omega)];have d1:=PW Bl c.drafts i hi;rcases EF c.features x.name with⟨e',_⟩|⟨j,e',hj,_⟩
   ·rw[e',if_pos (by omega)];simp only[Int.toNat_natCast];have:=MF Bl c.features (FE c.features (c.drafts.getD i default).name) (c.drafts.getD i default);rw[Ce];simp only[B4];omega
   ·rw[e',if_neg (by omega)];simp only[Int.toNat_natCast];have d2:=PW Bl c.features j hj;have s1:=MF Bl (Bd c.features j) (FE (Bd c.features j) (c.drafts.getD i default).name) (c.drafts.getD i default);have s2:=MF Bl c.past (FE c.past (c.features.getD j default).name) (c.features.getD j default);rw[Ce];simp only[B4];omega
 split
 ·unfold FG;rcases EF c.features x.name with⟨e,_⟩|⟨j,e,hj,_⟩
  ·rw[e,if_pos (by omega)];show AP B3<=_;omega
  ·rw[e,if_neg (by omega)];split
   ·show AP B3<=_;omega
   ·rename_i hq;rcases RS c.past x.name c.past.length with e3|⟨o,e3,ho,_⟩
    ·have e3':H9 c.past x.name=-1:=e3;omega
    ·have e3':H9 c.past x.name=(o:Int):=e3;rw[e3'];simp only[Int.toNat_natCast];have d2:=PW Bl c.features j hj;have d3:=PW Bl c.past o ho;have s1:=MF Bl (Bd c.features j) (FE (Bd c.features j) (c.past.getD o default).name) (c.past.getD o default);have s2:=MF Bl c.drafts (FE c.drafts (c.features.getD j default).name) (c.features.getD j default);rw[Ce];simp only[B4];omega
 ·unfold IU;rcases EF c.drafts x.name with⟨e,_⟩|⟨i,e,hi,_⟩
  ·rw[e,if_pos (by omega)];show AP B3<=_;omega
  ·rw[e,if_neg (by omega)];simp only[Int.toNat_natCast];have d1:=PW Bl c.drafts i hi;rw[Ce];simp only;omega
def MG(c:Cat)(x:Chg):Int:=if(DH c x).2=0 then H7 (DH c x).1 else(DH c x).2
def Cn(c:Cat)(x:Chg):Cat×Int:=if GR x=false then(B3,1)else if MG c x≠0 then(B3,MG c x)else((DH c x).1,0)
theorem U8(c:Cat)(x:Chg)(hb:AP c+Cl x<=1073741):Is mx 75 [.agg (At c),.agg (AE x)] (Ln (Cn c x)):=by
 have hch:=U7 c x;have c1:=xY (mx:=mx) x (by omega);have c2:=xZ (mx:=mx) c x (by omega) (by omega);have c3:=xI (mx:=mx) (DH c x).1 (by omega);have hR:=Cn.eq_1 c x;have hE:=MG.eq_1 c x;generalize DH c x=r at c2 c3 hR hE;refine MX F75 ?_;cases hp:GR x
 ·rw[hp]at c1;rw[if_pos hp]at hR;rw[hR];exact Dp (cj c1 @Ln.eq_1) trivial
 ·rw[hp]at c1;rw[if_neg (by rw[hp];simp)]at hR;by_cases h0:r.2=0
  ·rw[if_pos h0]at hE;by_cases hk:H7 r.1=0
   ·rw[if_neg (by omega)]at hR;rw[hR];exact A4 (cj c1 (cj c2 (cj c3 (cj @Ln.eq_1 (cj h0 hk))))) trivial
   ·rw[if_pos (by omega),hE]at hR;rw[hR];exact A4 (cj c1 (cj c2 (cj c3 (cj @Ln.eq_1 (cj h0 hk))))) trivial
  ·rw[if_neg h0]at hE;rw[if_pos (by omega),hE]at hR;rw[hR];exact A4 (cj c1 (cj c2 (cj @Ln.eq_1 h0))) trivial
def AZ(l:List Ent)(tick:Int):Nat->Cat
 |0=>B3
 |i+1=>if(l.getD i default).kind≠3\/tick<(l.getD i default).tick then AZ l tick i else if(Cn (AZ l tick i) (l.getD i default).change).2=0 then(Cn (AZ l tick i) (l.getD i default).change).1 else AZ l tick i
def atR(l:List Ent)(tick:Int):Cat:=AZ l tick l.length
theorem bt(c:Cat)(x:Chg):AP (Cn c x).1<=AP c+Cl x:=by
 have:=U7 c x;have hn:AP B3=1:=rfl;have hc:=Ce c;unfold Cn;repeat' split
 ·grind
 ·grind
 ·exact this
theorem K5(l:List Ent)(tick:Int):∀i,i<=l.length->AP (AZ l tick i)<=Af Am (l.take i)+1
 |0,_=>by simp[AZ,Af];decide
 |i+1,h=>by
  have h0:=K5 l tick i (by omega);have h1:Af Am (l.take (i+1))=Af Am (l.take i)+Am (l.getD i default):=by grind[Cg,Gi,Af]
  have h2:=DS (l.getD i default);have h3:=bt (AZ l tick i) (l.getD i default).change;rw[h1];simp only[AZ];repeat' split
  all_goals omega
theorem Hp{α:Type}(b:α->Nat)(l:List α)(k:Nat):Af b (l.take k)<=Af b l:=by have:=U6 b l k;omega
theorem bu(l:List Ent)(tick:Int)(hl:Af Am l<=1073740):Is mx 85 [.sl (l.map Ac),iI tick] (.agg (At (atR l tick))):=by
 have jd:=KW l;refine MX F85 ?_
 (repeat' first|simp(disch:=omega)only[go_sem,simprocAttr]|fail)
 refine DQ [0,1,4,5] (by simp only[V0,MQ,reduceIte,Nat.reduceEqDiff];rfl) (fun i=>[(6,.i (iI i))]) (fun i=>[(5,.cells ((At (AZ l tick i)).map .i)),(4,.cells ME)]) (fun _=>True) l.length 0 (by omega) trivial (by simp[V0,I9,Ref.nm,AZ,At,D.nms,OL]) ?_;intro i hi _;have hb:=K5 l tick i hi;have qp:=Hp Am l (i+1);by_cases ja:i<l.length
 ·have hts:Af Am (l.take (i+1))=Af Am (l.take i)+Am (l.getD i default):=by rw[Cg ja,Gi];simp[Af]
  have hbe:=DS (l.getD i default);have hS:AZ l tick (i+1)=if(l.getD i default).kind≠3\/tick<(l.getD i default).tick then AZ l tick i else if(Cn (AZ l tick i) (l.getD i default).change).2=0 then(Cn (AZ l tick i) (l.getD i default).change).1 else AZ l tick i:=rfl
  have c1:=U8 (mx:=mx) (AZ l tick i) (l.getD i default).change (by omega);generalize AZ l tick i=c at hS c1;by_cases hk:(l.getD i default).kind=3
  ·by_cases ht:tick<(l.getD i default).tick
   ·rw[if_pos (.inr ht)]at hS;refine ne (cj (Cq ja) (cj hk ht)) ?_;rw[hS]
   ·rw[if_neg (by omega)]at hS;generalize Cn c (l.getD i default).change=r at hS c1;by_cases h0:r.2=0
    ·rw[if_pos h0]at hS;refine ne (cj c1 (cj @Ln.eq_1 (cj (Cq ja) (cj hk (cj ht h0))))) ?_;rw[hS]
    ·rw[if_neg h0]at hS;refine ne (cj c1 (cj @Ln.eq_1 (cj (Cq ja) (cj hk (cj ht h0))))) ?_;rw[hS]
  ·rw[if_pos (.inl hk)]at hS;refine ne (cj (Cq ja) hk) ?_;rw[hS]
 ·have e:i=l.length:=by omega
  rw[atR,<-e];exact By (Ih ja) trivial
end
section
def JQ(s:AT):Bool:= !s.any (CI 33)&&decide (1<=(s.length:Int))&&decide ((s.length:Int)<=32)
theorem x9(s:AT)(hs:s.length<=1073741824):Is mx 105 [.str s] (.bool (JQ s)):=by
 refine MX ny ?_;refine OG ?_;refine lS [0] (fun i=>[(3,.i (iI i))]) (fun _=>[]) (fun i=>(s.take i).all (fun c=>!CI 33 c)=true) s.length ?_;intro i hi jb;by_cases ja:i<s.length
 ·refine Ka (Cq ja) (cj ?_ ?_)
  ·intro h h';have hb:CI 33 (s.getD i default)=true:=h;have:s.any (CI 33)=true:=by grind
   rw[JQ,this];rfl
  ·intro h h';have hb:CI 33 (s.getD i default)=false:=h;exact BR (d:=default) jb ja (by rw[hb];rfl)
 ·rw[List.take_of_length_le (by omega),List.all_eq_true]at jb;have:s.any (CI 33)=false:=by grind
  rw[JQ,this];exact Dp (Ih ja) trivial
abbrev RW:Fid:=⟨[],0⟩
def D8(x:Ers):Bool:=
 if x.kind=1 then Di x.entity&&JQ x.key&&decide (x.id=RW)
 else decide (x.kind=2)&&Di x.id.source&&decide (1<=x.id.seq)&&decide (x.id.seq<=1099511627776)&&decide (x.entity=[])&&decide (x.key=[])
theorem FH(a b:Fid):decide (a=b)=(decide (a.source=b.source)&&decide (a.seq=b.seq)):=by cases a;cases b;simp
theorem Cy(a b:AT):(a==b)=decide (a=b):=by grind
theorem Cz(a b:Int):(a==b)=decide (a=b):=by rfl
theorem bv(x:Ers)(hx:DD x<=1073741824):Is mx 74 [.agg (BL x)] (.bool (D8 x)):=by
 have h0:x.key.length<=1073741824:=by grind[DD,Hf]
 have h1:=x9 (mx:=mx) x.key h0;refine MX F74 ?_
 (repeat' first|exact Av _|simp(disch:=omega)only[go_sem,simprocAttr]|refine' AD (fun hq=>?_) (fun f=>?_)<;>try(have je:=hq;try simp only[HB]at je)|refine Sx.s ?_ ?_<;>try(intro h;have h':=h;try simp only[HB]at h';try rewrite [h];try simp only[h])|refine Ab (IK _) ?_|refine Ab (h1) ?_|refine Ae ?_|refine Sz.s ?_|fail)
 all_goals(refine congrArg I.bool ?_;simp only[D8,FH,Cy,Cz];first|done|(grind(splits:=20)))
def JR(f:Fct):Bool:=decide (f.id=RW)&&decide (f.kind=0)&&decide (f.ref=0)&&decide (f.table=[])&&decide (f.key=[])&&decide (f.event=0)&&decide ((f.fields.length:Int)=0)
theorem ya(f:Fct):Is mx 176 [.agg (Ap f)] (.bool (JR f)):=by
 refine MX rK ?_;refine WB ?_
 all_goals intros
 all_goals(refine congrArg I.bool ?_;simp only[JR,FH,Cy,Cz];first|done|(grind(splits:=20)))
def IV(x:Chg):Bool:=Gf x.table BB&&GF x.feature CL&&decide (x.kind=0)&&decide (x.name=[])
theorem yb(x:Chg)(hx:Cl x<=1073741824):Is mx 177 [.agg (AE x)] (.bool (IV x)):=by
 have a3:=GD x;have h2:=UF (mx:=mx) x.table BB (by omega) (by decide);have h3:=UG (mx:=mx) x.feature CL (by omega) (by decide);refine MX nL ?_;refine Dp (cj h2 h3) ?_
 all_goals intros
 all_goals(refine congrArg I.bool ?_;simp only[IV];first|done|(grind(splits:=20)))
abbrev JS:Ers:=⟨0,[],[],RW⟩
def Fb(x:Ent):Bool:=
 decide (x.kind=1)&&decide (x.erasure=JS)&&IV x.change||decide (x.kind=2)&&JR x.fact&&IV x.change||decide (x.kind=3)&&JR x.fact&&decide (x.erasure=JS)
theorem bw(a b:Ers):decide (a=b)=(decide (a.kind=b.kind)&&(decide (a.entity=b.entity)&&(decide (a.key=b.key)&&decide (a.id=b.id)))):=by cases a;cases b;simp
theorem yd(x:Ent)(hx:Am x<=1073741824):Is mx 117 [.agg (Ac x)] (.bool (Fb x)):=by
 have a1:=DS x;have h1:=ya (mx:=mx) x.fact;have h2:=yb (mx:=mx) x.change (by omega);refine MX oL ?_;refine Dp (cj h1 h2) ?_
 all_goals intros
 all_goals(refine congrArg I.bool ?_;simp only[Fb,bw,FH,Cy,Cz];first|done|(grind(splits:=20)))
def IW(l:List Ent)(at_:Nat)(x:Ent):Bool:=decide (x.kind=1)&&decide (x.fact.id=(l.getD at_ default).fact.id)
def DV(l:List Ent)(at_:Nat):Bool:=(l.take at_).any (IW l at_)
theorem ye(l:List Ent)(at_:Nat)(hl:l.length<=1073741824)(ha:at_<l.length):Is mx 118 [.sl (l.map Ac),iI at_] (.bool (DV l at_)):=by
 refine MX pQ ?_;refine OG ?_;refine lS [0,1] (fun i=>[(5,.i (iI i))]) (fun _=>[]) (fun i=>(l.take i).all (fun x=>!IW l at_ x)=true) at_ ?_;intro i hi jb;by_cases ja:i<at_
 ·have xi:i<l.length:=by omega
  have hs:∀b1 b2,decide ((l.getD i default).kind=1)=b1->decide ((l.getD i default).fact.id=(l.getD at_ default).fact.id)=b2->IW l at_ (l.getD i default)=(b1&&b2):=fun b1 b2 h1 h2=>by grind[IW]
  have hyes:IW l at_ (l.getD i default)=true->DV l at_=true:=fun e=>by rw[DV,List.any_eq_true];refine⟨l.getD i default,?_,e⟩;have:=AA (n:=i) (l:=l.take at_) (by simp;omega);grind
  have qb:IW l at_ (l.getD i default)=false->(l.take (i+1)).all (fun x=>!IW l at_ x)=true:=fun e=>BR (d:=default) jb xi (by rw[e];rfl)
  cases h1:decide ((l.getD i default).kind=1)
  ·refine La (cj (Cq ja) (cj (Cq xi) h1)) ?_;exact qb (hs _ _ h1 rfl)
  ·cases h2:decide ((l.getD i default).fact.id=(l.getD at_ default).fact.id)
   ·have h3:=h2;rw[FH]at h3;refine La (cj (Cq ja) (cj (Cq xi) (cj (Cq ha) (cj h1 (cj @Cy (cj @Cz h3)))))) ?_;exact qb (hs _ _ h1 h2)
   ·have h3:=h2;rw[FH]at h3;refine Hw (cj (Cq ja) (cj (Cq xi) (cj (Cq ha) (cj h1 (cj @Cy (cj @Cz h3)))))) ?_;rw[hyes (hs _ _ h1 h2)]
 ·refine Hw (Ih ja) ?_;have e:i=at_:=by omega
  rw[e]at jb;have:DV l at_=false:=by grind[DV]
  rw[this]
end
section
def EG(x:Ent):Bool:=decide (x.no<1)||decide (1099511627776<x.no)||decide (x.tick<0)||decide (1099511627776<x.tick)
def Dw(l:List Ent)(i:Nat)(x:Ent):Bool:=decide (0<i)&&(decide (x.no<=(l.getD (i-1) default).no)||decide (x.tick<(l.getD (i-1) default).tick))
def CA(l:List Ent)(i:Nat)(c:Cat):Cat×Int:=
 if(EG (l.getD i default)||Dw l i (l.getD i default))=true then(c,150)
 else if Fb (l.getD i default)=false then(c,1)
 else if(l.getD i default).kind=1 then(if C2 c (l.getD i default).fact=0/\DV l i=true then(c,151)else(c,C2 c (l.getD i default).fact))
 else if(l.getD i default).kind=2 then(if D8 (l.getD i default).erasure=false then(c,1)else(c,0))
 else Cn c (l.getD i default).change
theorem yf(l:List Ent)(i:Nat)(c:Cat)(hl:Af Am l<=1073740)(hi:i<l.length)(hc:AP c+Am (l.getD i default)<=1073741):Is mx 83 [.sl (l.map Ac),iI i,.agg (At c)] (Ln (CA l i c)):=by
 have jd:=KW l;have hbe:=DS (l.getD i default);have hbf:=IM (l.getD i default).fact;have c1:=yd (mx:=mx) (l.getD i default) (by omega);have c2:=bo (mx:=mx) c (l.getD i default).fact (by omega) (by omega);have c3:=ye (mx:=mx) l i (by omega) hi;have c4:=bv (mx:=mx) (l.getD i default).erasure (by omega);have c5:=U8 (mx:=mx) c (l.getD i default).change (by omega);have hR:=CA.eq_1 l i c;have hoB:i≠0->Dw l i (l.getD i default)=(decide ((l.getD i default).no<=(l.getD (i-1) default).no)||decide ((l.getD i default).tick<(l.getD (i-1) default).tick)):=fun h=>by grind[Dw]
 have hoA:(decide ((l.getD i default).no<1)||decide (1099511627776<(l.getD i default).no)||decide ((l.getD i default).tick<0)||decide (1099511627776<(l.getD i default).tick))=EG (l.getD i default):=rfl;have jn:=Cq hi;refine MX F83 ?_;refine Man jn ?_;refine Dl.cutS [0,1,5,6,8] (by simp only[V0,MQ,reduceIte,Nat.reduceEqDiff];rfl) [] [(6,.cells ME)] ((EG (l.getD i default)||Dw l i (l.getD i default))=false) ?_ (fun kx=>?_)
 ·cases hA:EG (l.getD i default)
  ·rw[hA]at hoA hR;by_cases h0:i=0
   ·subst h0;have hB:Dw l 0 (l.getD 0 default)=false:=rfl;rw[hB];exact Dp (cj hoA (cj @Int.natCast_zero @Int.lt_irrefl)) trivial
   ·have jx:((0:Int)<(i:Int))=True:=eq_true (by omega);have j9:((i:Int)-1).toNat=i-1:=by omega
    have ky:(i:Int)-1=((i-1:Nat):Int):=by omega
    have hlp:i-1<l.length:=by omega
    rw[hoB h0]at hR⊢;cases qe:decide ((l.getD i default).no<=(l.getD (i-1) default).no)
    ·cases ko:decide ((l.getD i default).tick<(l.getD (i-1) default).tick)
     ·exact Dp (cj hoA (cj jx (cj ky (cj (Cq hlp) (cj qe ko))))) trivial
     ·rw[if_pos (by rw[qe,ko];rfl)]at hR;rw[hR];exact Dp (cj @Ln.eq_1 (cj hoA (cj jx (cj ky (cj (Cq hlp) (cj qe ko)))))) trivial
    ·rw[if_pos (by rw[qe];rfl)]at hR;rw[hR];exact Dp (cj @Ln.eq_1 (cj hoA (cj jx (cj ky (cj (Cq hlp) qe))))) trivial
  ·rw[hA]at hoA;rw[if_pos (by rw[hA];rfl)]at hR;rw[hR];exact Dp (cj @Ln.eq_1 hoA) trivial
 ·rw[if_neg (by rw[kx];simp)]at hR;cases vu:Fb (l.getD i default)
  ·rw[if_pos vu]at hR;rw[vu]at c1;rw[hR];exact Dp (cj c1 @Ln.eq_1) trivial
  ·rw[if_neg (by rw[vu];simp)]at hR;rw[vu]at c1;by_cases kt:(l.getD i default).kind=1
   ·rw[if_pos kt]at hR;by_cases he:C2 c (l.getD i default).fact=0
    ·cases ht:DV l i
     ·rw[ht]at c3;rw[if_neg (by rw[ht];simp)]at hR;rw[hR];exact Dp (cj c1 (cj c2 (cj c3 (cj @Ln.eq_1 (cj kt he))))) trivial
     ·rw[ht]at c3;rw[if_pos ⟨he,ht⟩]at hR;rw[hR];exact Dp (cj c1 (cj c2 (cj c3 (cj @Ln.eq_1 (cj kt he))))) trivial
    ·rw[if_neg (fun h=>he h.1)]at hR;rw[hR];exact Dp (cj c1 (cj c2 (cj @Ln.eq_1 (cj kt he)))) trivial
   ·rw[if_neg kt]at hR;by_cases qo:(l.getD i default).kind=2
    ·rw[if_pos qo]at hR;cases her:D8 (l.getD i default).erasure
     ·rw[her]at c4;rw[if_pos her]at hR;rw[hR];exact Dp (cj c1 (cj c4 (cj @Ln.eq_1 (cj kt qo)))) trivial
     ·rw[her]at c4;rw[if_neg (by rw[her];simp)]at hR;rw[hR];exact Dp (cj c1 (cj c4 (cj @Ln.eq_1 (cj kt qo)))) trivial
    ·rw[if_neg qo]at hR;rw[hR];exact Dp (cj c1 (cj c5 (cj @Ln.eq_1 (cj kt qo)))) trivial
def A1(l:List Ent):Nat->Cat×Int
 |0=>(B3,0)
 |i+1=>if(A1 l i).2≠0 then A1 l i else CA l i (A1 l i).1
def AW(l:List Ent):Int:=if 4096<l.length then 2 else(A1 l l.length).2
theorem U9{l:List Ent}{i:Nat}(h:(A1 l i).2≠0):∀j,i<=j->A1 l j=A1 l i:=by
 intro j hj
 induction j with
 |zero=>rw[show i=0 by omega]
 |succ j ih=>grind[A1]
theorem yg(l:List Ent)(i:Nat)(c:Cat):AP (CA l i c).1<=AP c+Am (l.getD i default):=by
 have h1:=bt c (l.getD i default).change;have h2:=DS (l.getD i default);unfold CA;repeat' split
 all_goals first|(show AP c<=_;omega)|omega
theorem RX(l:List Ent):∀i,i<=l.length->AP (A1 l i).1<=Af Am (l.take i)+1
 |0,_=>by simp[A1,Af];decide
 |i+1,h=>by have h0:=RX l i (by omega);grind[Af,Am,Cg,Gi,yg,A1]
theorem yh(l:List Ent)(hl:Af Am l<=1073740):Is mx 36 [.sl (l.map Ac)] (iI (AW l)):=by
 have jd:=KW l;have hR:=AW.eq_1 l;refine MX F36 ?_;by_cases h4:4096<l.length
 ·rw[if_pos h4]at hR;rw[hR];have h4T:((4096:Int)<(l.length:Int))=True:=eq_true (by omega);exact Hw h4T trivial
 ·rw[if_neg h4]at hR;have h4F:((4096:Int)<(l.length:Int))=False:=eq_false (by omega)
  (repeat' first|simp(disch:=omega)only[go_sem,simprocAttr,h4F]|refine Ae ?_)
  refine DQ [0,3] (by simp only[V0,MQ,reduceIte,Nat.reduceEqDiff];rfl) (fun i=>[(4,.i (iI i))]) (fun i=>[(3,.cells ((At (A1 l i).1).map .i))]) (fun i=>(A1 l i).2=0) l.length 0 (by omega) rfl (by simp[V0,I9,Ref.nm,A1,At,D.nms,OL]) ?_
  intro i hi jb
  have hb:=RX l i hi
  by_cases ja:i<l.length
  ·have hts:Af Am (l.take (i+1))=Af Am (l.take i)+Am (l.getD i default):=by rw[Cg ja,Gi];simp[Af]
   have qp:=Hp Am l (i+1)
   have hS:A1 l (i+1)=CA l i (A1 l i).1:=by grind[A1]
   have herr:=U9 (l:=l) (i:=i+1)
   have c1:=yf (mx:=mx) l i (A1 l i).1 hl ja (by omega)
   generalize (A1 l i).1=c at hS c1
   rw[<-hS]at c1
   by_cases he:(A1 l (i+1)).2=0
   ·refine A4 (cj c1 (cj @Ln.eq_1 (cj (Cq ja) he))) ?_
    first|done|exact ja|exact⟨ja,he⟩
   ·have:=herr he l.length (by omega)
    rw[this]at hR
    rw[hR]
    exact A4 (cj c1 (cj @Ln.eq_1 (cj (Cq ja) he))) trivial
  ·have e:i=l.length:=by omega
   rw[<-e,jb]at hR
   rw[hR]
   exact By (Ih ja) trivial
end
section
theorem JT(x:Ent):(Ac x).length=40:=YV.2.2.2.2.1 x
theorem JU(x:Ent):(Ac x).all I.one=true:=YW.2.2.2.2.1 x
theorem Oc(x:Fid):(Ao x).length=2:=rfl
theorem Od(x:Fid):(Ao x).all I.one=true:=rfl
theorem JV{α:Type}{f:α->List I}{k:Nat}(h1:∀x,(f x).length=k)(h2:∀x,(f x).all I.one=true)(a:α):(∀r∈[f a],r.length=k)=True/\(∀r∈[f a],r.all I.one=true)=True:=by grind
def BM(l:List Ent)(tick:Int):List Ent:=l.filter fun x=>decide (x.tick<=tick)
def cutI(l:List Fid)(id:Fid):Nat:=(l.takeWhile fun y=>decide (CS y id<0)).length
def EH(l:List Fid)(id:Fid):List Fid:=if cutI l id<l.length/\l.getD (cutI l id) default=id then l else Bo l (cutI l id) id
theorem Va(l:List Fid)(id:Fid):(EH l id).length<=l.length+1:=by grind[EH,Bo]
theorem Vb{l:List Fid}{id:Fid}{k:Nat}(h:cutI l id=k):EH l id=if k<l.length/\l.getD k default=id then l else l.take k++[id]++l.drop k:=by rw[<-h];rfl
theorem bx(l:List Fid)(id:Fid)(hl:l.length<=1073741823):Is mx 86 [.sl (l.map Ao),.agg (Ao id)] (.sl ((EH l id).map Ao)):=by
 refine MX F86 ?_;refine OG ?_;refine lT [0,3] (fun k:Nat=>[(5,.i (iI k))]) (fun _=>[]) (fun k=>k<=l.length/\(l.take k).all (fun y=>decide (CS y id<0))=true) (fun k=>l.length-k) 0 ?_;rintro k ⟨hk,jg⟩;have h1:=Bi (l.take k) Oc Od;have h2:=Bi (l.drop k) Oc Od;have h0:=Bi l Oc Od;have c5:((k:Int)<=(l.length:Int))=True:=eq_true (by omega);have h3:=JV Oc Od id;rw[List.map_take]at h1;rw[List.map_drop]at h2;simp only[Ao]at h3;have c1:(k<=l.length)=True:=eq_true (by omega);have c3:min k l.length=k:=by omega
 by_cases jk:k<l.length
 ·have q1:=xL (mx:=mx) (l.getD k default) id;cases km:decide (CS (l.getD k default) id<0)
  ·have ku:cutI l id=k:=RQ jg jk km;have kw:(decide ((l.getD k default).source=id.source)&&decide ((l.getD k default).seq=id.seq))=decide (l.getD k default=id):=(FH _ _).symm;by_cases vz:l.getD k default=id
   ·have jo:EH l id=l:=by rw[Vb ku,if_pos ⟨jk,vz⟩]
    rw[jo];rw[decide_eq_true vz]at kw;exact Hw (cj q1 (cj (Cq jk) (cj km (cj @Cy (cj @Cz kw))))) trivial
   ·have jo:EH l id=l.take k++[id]++l.drop k:=by rw[Vb ku,if_neg];rintro⟨_,h⟩;exact vz h
    rw[jo];rw[decide_eq_false vz]at kw
    (repeat' first|simp(disch:=omega)only[go_sem,simprocAttr,Cq jk,km,Cy,Cz,kw,eq_true h0.1,eq_true h1.1,eq_true h1.2,Int.le_refl,eq_true h2.1,eq_true h2.2,h3.1,h3.2,Nat.zero_add,Nat.sub_zero,List.length_map,List.length_take,List.length_drop,List.length_nil,c3,c5,List.take_take,Nat.min_self]|refine Ab (q1) ?_|refine Ae ?_|refine AG ?_|refine Sz.s ?_|(refine And.intro ?_ ?_;focus omega))
    rw[<-N8 (f:=Ao) hk];rfl
  ·refine Hw (cj q1 (cj (Cq jk) km)) ?_;exact⟨k+1,⟨by omega,BR (d:=default) jg jk km⟩,by omega,rfl⟩
 ·have ku:cutI l id=k:=JI jg hk (.inl (by omega));have jo:EH l id=l.take k++[id]++l.drop k:=by rw[Vb ku,if_neg];omega
  rw[jo]
  (repeat' first|simp(disch:=omega)only[go_sem,simprocAttr,Ih jk,eq_true h0.1,eq_true h1.1,eq_true h1.2,Int.le_refl,eq_true h2.1,eq_true h2.2,h3.1,h3.2,Nat.zero_add,Nat.sub_zero,List.length_map,List.length_take,List.length_drop,List.length_nil,c3,c5,List.take_take,Nat.min_self]|refine Ae ?_|refine AG ?_|refine Sz.s ?_|(refine And.intro ?_ ?_;focus omega))
  rw[<-N8 (f:=Ao) hk];rfl
def Be(l:List Fid)(id:Fid):Bool:=l.any fun y=>decide (y=id)
theorem RY(l:List Fid)(id:Fid)(hl:l.length<=1073741824):Is mx 32 [.sl (l.map Ao),.agg (Ao id)] (.bool (Be l id)):=by
 refine MX F32 ?_;refine OG ?_;refine lS [0,3] (fun i=>[(5,.i (iI i))]) (fun _=>[]) (fun i=>(l.take i).all (fun y=>!decide (y=id))=true) l.length ?_;intro i hi jb;by_cases ja:i<l.length
 ·have kw:(decide ((l.getD i default).source=id.source)&&decide ((l.getD i default).seq=id.seq))=decide (l.getD i default=id):=(FH _ _).symm;by_cases hn:l.getD i default=id
  ·have:Be l id=true:=by grind[Be]
   rw[this];rw[decide_eq_true hn]at kw;exact Hw (cj (Cq ja) (cj @Cy (cj @Cz kw))) trivial
  ·rw[decide_eq_false hn]at kw;refine La (cj (Cq ja) (cj @Cy (cj @Cz kw))) ?_;exact BR (d:=default) jb ja (by rw[decide_eq_false hn];rfl)
 ·have:Be l id=false:=by grind[Be]
  rw[this];exact Hw (Ih ja) trivial
end
end Go.Proofs.YtkhlddbmhehbbaaGreatDoor
