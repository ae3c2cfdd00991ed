/-Lemmas.-/
import Derived.Test.YtkhlddbmhehbbaaGreatDoorU24
set_option linter.all false
set_option maxRecDepth 100000
set_option maxHeartbeats 8000000
namespace Go.Proofs.YtkhlddbmhehbbaaGreatDoor
open Go Go.Dl Go.As Go.Proofs
variable {mx:Int}
attribute[local irreducible] Ah Ai MC W2 EM ev evD step Ad
section
theorem Wj(l:List Ent)(e:Ent):Af Am (Db l e).1<=Am e/\(Db l e).1.length<=1:=by
 unfold Db;split
 ·simp[Af]
 ·simp[Af,DS,Ba]
theorem fB(tick:Int)(f:Fct):Am (BN tick f)<=Bz f+200:=by
 have h1:=DS (BN tick f);have h4:DD JS<=40:=by decide
 have h5:Cl CU<=40:=by decide
 unfold BN at*;simp only at h1;omega
theorem SC(l:List Ent)(p:Pol)(tick:Int)(f:Fct):Af Am (Bg l p tick f).1<=Bz f+200/\(Bg l p tick f).1.length<=1:=by
 have h1:=Wj l (BN tick f);have h2:=fB tick f;unfold Bg
 repeat' split
 all_goals first|(simp[Af];done)|(exact⟨by omega,by omega⟩)
end
section
theorem Valid.tick1{l:List Ent}(h:Valid l){i:Nat}(hi:i+1<l.length):(l.getD i default).tick<=(l.getD (i+1) default).tick:=by have:=h.order hi;simp only[Bool.or_eq_false_iff,Dw,Bool.and_eq_false_iff,decide_eq_false_iff_not,Nat.add_sub_cancel]at this;omega
theorem Valid.ticks{l:List Ent}(h:Valid l){i:Nat}:∀{j:Nat},i<=j->j<l.length->(l.getD i default).tick<=(l.getD j default).tick
 |0,hij,hj=>by
  have:i=0:=by omega
  subst this;exact Int.le_refl _
 |j+1,hij,hj=>by
  by_cases e:i=j+1
  ·subst e;exact Int.le_refl _
  ·exact Int.le_trans (h.ticks (j:=j) (by omega) (by omega)) (h.tick1 hj)
theorem Valid.noChange{l:List Ent}(h:Valid l){i:Nat}(hi:i<l.length)(hk:(l.getD i default).kind≠3):Bu l (i+1)=Bu l i:=by
 rcases h.kinds hi with q|q|q
 ·exact(h.fact hi q).1
 ·exact h.erase hi q
 all_goals omega
end
section
theorem MP{α:Type}{l:List α}{e d:α}{i:Nat}(h:i<l.length):(l++[e]).getD i d=l.getD i d:=by grind
theorem J3{α:Type}{l:List α}{e d:α}:(l++[e]).getD l.length d=e:=by simp
theorem Wp(l:List Ent)(e:Ent):∀i,i<=l.length->Bm (l++[e]) i=Bm l i
 |0,_=>rfl
 |i+1,h=>by rw[Bm,Bm,MP (by omega),Wp l e i (by omega),List.take_append_of_le_length (by omega)]
end
section
theorem aF6(l:List Ent)(e:Ent){i:Nat}(hi:i<l.length):DV (l++[e]) i=DV l i:=by unfold DV;rw[List.take_append_of_le_length (by omega)];congr 1;funext x;unfold IW;rw[MP hi]
theorem aF7(l:List Ent)(e:Ent){i:Nat}(hi:i<l.length)(c:Cat):CA (l++[e]) i c=CA l i c:=by
 have h:Dw (l++[e]) i (l.getD i default)=Dw l i (l.getD i default):=by
  unfold Dw;by_cases h0:0<i
  ·rw[MP (by omega)]
  ·simp[h0]
 unfold CA;rw[MP hi,h,aF6 l e hi]
theorem SF(l:List Ent)(e:Ent):∀i,i<=l.length->A1 (l++[e]) i=A1 l i
 |0,_=>rfl
 |i+1,h=>by rw[A1,A1,SF l e i (by omega),aF7 l e (by omega)]
theorem Wq{l:List Ent}(h:AW l=0)(e:Ent)(hn:l.length<4096)(h1:(CA (l++[e]) l.length (Bu l l.length)).2=0):AW (l++[e])=0:=by have hV:=Ec h;unfold AW;rw[if_neg (by simp;omega),List.length_append,List.length_cons,List.length_nil,A1,SF l e _ (Nat.le_refl _),if_neg (by simp[hV.err _ (Nat.le_refl _)])];exact h1
end
section
theorem Wr{l:List Ent}(h:Valid l):A2 l=Bu l l.length:=by have:=h.atR (Nat.le_refl l.length);rw[List.take_length]at this;exact this
theorem SG{l:List Ent}(h:Valid l){tick:Int}(he:BT l tick=false):0<=tick/\tick<=1099511627776/\(0<l.length->(l.getD (l.length-1) default).tick<=tick):=by
 unfold BT at he;rw[Bool.or_eq_false_iff,decide_eq_false_iff_not,decide_eq_false_iff_not]at he;by_cases h0:l.length=0
 ·rw[if_pos h0]at he;omega
 ·rw[if_neg h0]at he;have:=h.tick (i:=l.length-1) (by omega);unfold A6 at he;omega
theorem aF8{l:List Ent}(h:Valid l):1<=MU l/\(0<l.length->(l.getD (l.length-1) default).no<MU l):=by
 unfold MU;by_cases h0:l.length=0
 ·rw[if_pos h0];omega
 ·rw[if_neg h0];have:=h.order (i:=l.length-1) (by omega);simp only[EG,Bool.or_eq_false_iff,decide_eq_false_iff_not]at this;unfold A6;omega
theorem fL{l:List Ent}(h:Valid l){e:Ent}(he:BT l e.tick=false)(hn:MU l<=1099511627776):
  (EG (Ba e (MU l))||Dw (l++[Ba e (MU l)]) l.length (Ba e (MU l)))=false:=by
 obtain⟨h1,h2,h3⟩:=SG h he;obtain⟨h4,h5⟩:=aF8 h;have ha:EG (Ba e (MU l))=false:=by have e1:(Ba e (MU l)).no=MU l:=rfl;have e2:(Ba e (MU l)).tick=e.tick:=rfl;unfold EG;rw[e1,e2,Bool.or_eq_false_iff,Bool.or_eq_false_iff,Bool.or_eq_false_iff];exact⟨⟨⟨decide_eq_false (by omega),decide_eq_false (by omega)⟩,decide_eq_false (by omega)⟩,decide_eq_false (by omega)⟩
 have hb:Dw (l++[Ba e (MU l)]) l.length (Ba e (MU l))=false:=by
  generalize hx:Ba e (MU l)=x;have e1:x.no=MU l:=by rw[<-hx];rfl
  have e2:x.tick=e.tick:=by rw[<-hx];rfl
  unfold Dw;by_cases h0:0<l.length
  ·rw[MP (by omega),Bool.and_eq_false_iff,Bool.or_eq_false_iff];have:=h3 h0;have:=h5 h0;exact .inr ⟨decide_eq_false (by omega),decide_eq_false (by omega)⟩
  ·rw[decide_eq_false h0];rfl
 rw[ha,hb];rfl
theorem aF9{l:List Ent}{f:Fct}{e:Ent}(h:Fd l f=none)(hf:e.fact=f):DV (l++[e]) l.length=false:=by unfold DV;rw[List.take_append_of_le_length (Nat.le_refl _),List.take_length,List.any_eq_false];intro x hx;have:=List.find?_eq_none.1 h x hx;unfold IW;rw[J3,hf];exact this
theorem aFa{l:List Ent}{f:Fct}(h1:DX l f≠1)(h2:DX l f≠2):Fd l f=none:=by
 unfold DX at h1 h2;cases e:Fd l f with
 |none=>rfl
 |some x=>rw[e]at h1 h2;simp only at h1 h2;split at h1<;>simp_all
theorem Ll{l:List Ent}{p:Pol}{tick:Int}{f:Fct}{m:List Ent}{e:Int}(h:Bg l p tick f=(m,e)):m=[]\/
  (e=0/\m=[Ba (BN tick f) (MU l)]/\l.length<4096/\MU l<=1099511627776/\CM p=0/\BT l tick=false/\C2 (A2 l) f=0/\Be (AF l) (Ay f)=false/\Fd l f=none/\GU p tick f=0/\Ib p f (A7 l f)=false):=by
 unfold Bg at h;split at h
 ·cases h;exact .inl rfl
 rename_i a1;split at h
 ·cases h;exact .inl rfl
 rename_i a2;split at h
 ·cases h;exact .inl rfl
 rename_i a3;split at h
 ·cases h;exact .inl rfl
 rename_i a4;split at h
 ·cases h;exact .inl rfl
 rename_i a5;split at h
 ·cases h;exact .inl rfl
 rename_i a6;split at h
 ·cases h;exact .inl rfl
 rename_i a7;unfold Db at h;split at h
 ·cases h;exact .inl rfl
 rename_i a8;cases h;refine .inr ⟨rfl,rfl,by omega,by omega,?_,?_,?_,by simpa using a3,aFa a4 a5,?_,by simpa using a7⟩
 ·exact Classical.byContradiction fun q=>a1 (.inl q)
 ·cases q:BT l tick
  ·rfl
  ·exact absurd (.inr q) a1
 ·exact Classical.byContradiction a2
 ·exact Classical.byContradiction a6
theorem OC{l:List Ent}(hl:AW l=0){p:Pol}{tick:Int}{f:Fct}{m:List Ent}{e:Int}(h:Bg l p tick f=(m,e)):AW (l++m)=0:=by
 have hV:=Ec hl;rcases Ll h with rfl|⟨_,rfl,h1,h2,_,h3,h4,_,h5,_,_⟩
 ·rw[List.append_nil];exact hl
 ·refine Wq hl _ h1 ?_;have ho:=fL hV (e:=BN tick f) h3 h2;have ht:DV (l++[Ba (BN tick f) (MU l)]) l.length=false:=aF9 h5 rfl;rw[Wr hV]at h4;unfold CA;rw[J3,if_neg (by rw[ho];simp),if_neg (by simp[Fb,Ba,BN,IV,R9,Sa]),if_pos (show(Ba (BN tick f) (MU l)).kind=1 from rfl),if_neg (by rw[ht];simp)];exact h4
end
section
theorem Ws(l:List Ent)(e:Ent)(hk:e.kind≠2):AF (l++[e])=AF l:=by unfold AF;rw[List.length_append,List.length_cons,List.length_nil,Bm,J3,Wp l e _ (Nat.le_refl _),if_pos (by simpa using hk)]
end
section
theorem fN{l:List Ent}(hl:AW l=0){e:Ent}(hk:e.kind=1)(h:AW (l++[e])=0):A2 (l++[e])=A2 l:=by
 have h1:=Ec hl;have h2:=Ec h;rw[Wr h1,Wr h2,List.length_append,List.length_cons,List.length_nil];have jn:l.length<(l++[e]).length:=by simp
 have:=h2.noChange (i:=l.length) jn (by rw[J3,hk];decide);rw[this];unfold Bu;rw[SF l e _ (Nat.le_refl _)]
end
section
theorem Valid.no1{l:List Ent}(h:Valid l){i:Nat}(hi:i+1<l.length):(l.getD i default).no<(l.getD (i+1) default).no:=by have:=h.order hi;simp only[Bool.or_eq_false_iff,Dw,Bool.and_eq_false_iff,decide_eq_false_iff_not,Nat.add_sub_cancel]at this;rcases this.2 with q|q<;>omega
theorem Valid.nos{l:List Ent}(h:Valid l){i:Nat}:∀{j:Nat},i<j->j<l.length->(l.getD i default).no<(l.getD j default).no
 |0,hij,_=>absurd hij (by omega)
 |j+1,hij,hj=>by
  have h1:=h.no1 hj;by_cases e:i=j
  ·subst e;exact h1
  ·have:=h.nos (i:=i) (j:=j) (by omega) (by omega);omega
def Bv(l:List Ent):List Ent:=l.filter fun e=>decide (e.kind=3)
theorem fU{l:List Ent}(hl:AW l=0):∀n,n<=l.length->AW (Bv (l.take n))=0/\Bu (Bv (l.take n)) (Bv (l.take n)).length=Bu l n
 |0,_=>⟨rfl,rfl⟩
 |n+1,hn=>by
  have hV:=Ec hl;obtain⟨h1,h2⟩:=fU hl n (by omega);have jn:n<l.length:=by omega
  have ht:l.take (n+1)=l.take n++[l.getD n default]:=Cg jn;have jd:(Bv (l.take n)).length<=n:=by
   have:=List.length_filter_le (fun e:Ent=>decide (e.kind=3)) (l.take n);have h3:(l.take n).length<=n:=by simp;omega
   unfold Bv;omega
  by_cases hk:(l.getD n default).kind=3
  ·have hd:Bv (l.take (n+1))=Bv (l.take n)++[l.getD n default]:=by unfold Bv;rw[ht,List.filter_append];simp only[List.filter_cons,hk,decide_true,if_true,List.filter_nil]
   have hlast:0<(Bv (l.take n)).length->∃j,j<n/\(Bv (l.take n)).getD ((Bv (l.take n)).length-1) default=l.getD j default:=fun h0=>by
    have hm:(Bv (l.take n)).getD ((Bv (l.take n)).length-1) default∈l.take n:=(List.mem_filter.1 (AA (l:=Bv (l.take n)) (by omega))).1;obtain⟨j,hj,e⟩:=List.mem_iff_getElem.1 hm;have jq:j<n/\j<l.length:=by simp at hj;omega
    refine⟨j,jq.1,?_⟩;rw[<-e,List.getElem_take,AS jq.2]
   have hchg:=hV.change jn hk;have kx:=hV.order jn;rw[Bool.or_eq_false_iff]at kx;have kd:CA (Bv (l.take n)++[l.getD n default]) (Bv (l.take n)).length (Bu (Bv (l.take n)) (Bv (l.take n)).length)=(Bu l (n+1),0):=by
    have hb:Dw (Bv (l.take n)++[l.getD n default]) (Bv (l.take n)).length (l.getD n default)=false:=by
     unfold Dw;by_cases h0:0<(Bv (l.take n)).length
     ·obtain⟨j,hj,e⟩:=hlast h0;rw[MP (by omega),e,Bool.and_eq_false_iff,Bool.or_eq_false_iff];have:=hV.nos hj jn;have:=hV.ticks (i:=j) (j:=n) (by omega) jn;exact .inr ⟨decide_eq_false (by omega),decide_eq_false (by omega)⟩
     ·rw[decide_eq_false h0];rfl
    unfold CA;rw[J3,if_neg (by rw[kx.1,hb];simp),if_neg (by rw[hV.form jn];simp),if_neg (by rw[hk];decide),if_neg (by rw[hk];decide),h2];exact hchg
   have hc:=Wq h1 (l.getD n default) (by have:=Valid.len hl;omega) (by rw[kd]);rw[hd];refine⟨hc,?_⟩;rw[List.length_append,List.length_cons,List.length_nil];have:=(Ec hc).step (i:=(Bv (l.take n)).length) (by simp);have e0:Bu (Bv (l.take n)++[l.getD n default]) (Bv (l.take n)).length=Bu (Bv (l.take n)) (Bv (l.take n)).length:=by unfold Bu;rw[SF _ _ _ (Nat.le_refl _)]
   rw[e0,kd]at this;exact(congrArg Prod.fst this).symm
  ·have hd:Bv (l.take (n+1))=Bv (l.take n):=by unfold Bv;rw[ht,List.filter_append,List.filter_cons,if_neg (by rw[decide_eq_false hk];decide),List.filter_nil,List.append_nil]
   rw[hd,hV.noChange jn hk];exact⟨h1,h2⟩
theorem aFl{l:List Ent}(hl:AW l=0):AW (Bv l)=0:=by have:=(fU hl l.length (Nat.le_refl _)).1;rw[List.take_length]at this;exact this
end
section
theorem aFm{c:Cat}{f:Fct}(h:C2 c f=0)(h3:f.kind≠3):∃t,AU c.tables f.table=some t:=by
 unfold C2 at h;split at h
 ·cases h
 ·cases e:AU c.tables f.table with
  |none=>rw[e]at h;simp[h3]at h
  |some t=>exact⟨t,rfl⟩
theorem fV{l:List Ent}{t u:Int}:∀i,i<=l.length->(∀j,j<i->(l.getD j default).tick<=t/\(l.getD j default).tick<=u)->AZ l t i=AZ l u i
 |0,_,_=>rfl
 |i+1,hi,h=>by
  have ih:=fV (l:=l) (t:=t) (u:=u) i (by omega) fun j hj=>h j (by omega)
  obtain⟨h1,h2⟩:=h i (by omega);rw[AZ,AZ,ih];by_cases hk:(l.getD i default).kind=3
  ·have a:¬((l.getD i default).kind≠3\/t<(l.getD i default).tick):=by rintro(q|q);exact q hk;omega
   have b:¬((l.getD i default).kind≠3\/u<(l.getD i default).tick):=by rintro(q|q);exact q hk;omega
   rw[if_neg a,if_neg b]
  ·rw[if_pos (.inl hk),if_pos (.inl hk)]
theorem aFn{l:List Ent}{f:Fct}{e:Ent}(hk:e.kind=1)(hf:e.fact=f)(he:Be (AF l) (Ay f)=false)(hc:A2 (l++[e])=A2 l)(hfa:C2 (A2 l) f=0):
  (A7 (l++[e]) f).2=(A7 l f).2+1/\(A7 l f).1<=(A7 (l++[e]) f).1/\(A7 (l++[e]) f).1<=(A7 l f).1+1/\(f.kind≠3->(A7 (l++[e]) f).1=(A7 l f).1+1):=by
 have h1:A7 (l++[e]) f=Dx (A2 l) (AF l) f (A7 l f) e:=by unfold A7;rw[hc,Ws l e (by rw[hk];decide),List.foldl_append,List.foldl_cons,List.foldl_nil]
 have qb:¬(e.kind≠1\/Be (AF l) (Ay e.fact)=true):=by
  rintro(q|q)
  ·exact q hk
  ·rw[hf,he]at q;cases q
 rw[h1];unfold Dx;rw[if_neg qb,hf,if_pos rfl];refine⟨rfl,?_,?_,fun h3=>?_⟩
 ·simp only;split<;>omega
 ·simp only;split<;>omega
 ·obtain⟨t,ht⟩:=aFm hfa h3;have:IX (A2 l) f f=true:=by unfold IX;rw[ht];simp[h3]
  show(if _ then _ else _)=_;rw[if_pos this]
theorem aFo{l:List Ent}(hl:AW l=0){p:Pol}{tick:Int}{f:Fct}{e:Ent}{k:Int}(h:Bg l p tick f=([e],k)):
  k=0/\AW (l++[e])=0/\(p.perSource≠0->(A7 (l++[e]) f).2<=p.perSource)/\(f.kind≠3->p.perKey≠0->(A7 (l++[e]) f).1<=p.perKey)/\(f.kind≠3->p.late≠0->tick-p.late<=f.event)/\
   (f.kind≠3->p.lead≠0->f.event<=tick+p.lead)/\1<=(A7 (l++[e]) f).2/\(f.kind≠3->1<=(A7 (l++[e]) f).1)/\C2 (atR (l++[e]) tick) f=0/\e.tick=tick:=by
 have hv:=OC hl h;rcases Ll h with q|⟨hk,q,_,_,c1,c2,c3,c4,c5,c6,c7⟩
 ·cases q
 ·obtain rfl:e=Ba (BN tick f) (MU l):=by simpa using q
  have d2:=fN hl (e:=Ba (BN tick f) (MU l)) rfl hv;obtain⟨n1,n2,n3,n4⟩:=aFn (f:=f) (e:=Ba (BN tick f) (MU l)) rfl rfl c4 d2 c3;obtain⟨b1,_,b3,_⟩:=yn l f;have hE:(Ba (BN tick f) (MU l)).tick=tick:=rfl;have wd:atR (l++[Ba (BN tick f) (MU l)]) tick=A2 (l++[Ba (BN tick f) (MU l)]):=by
   obtain⟨t1,t2,t3⟩:=SG (Ec hl) c2;refine fV _ (Nat.le_refl _) fun j hj=>?_
   have jq:j<l.length+1:=by simpa using hj
   by_cases e:j=l.length
   ·subst e;rw[J3,hE];omega
   ·rw[MP (by omega)];have a1:=(Ec hl).ticks (i:=j) (j:=l.length-1) (by omega) (by omega);have a2:=t3 (by omega);omega
  rw[wd,d2];generalize A7 (l++[Ba (BN tick f) (MU l)]) f=cn at*;generalize A7 l f=co at*;unfold Ib at c7;simp only[Bool.or_eq_false_iff,Bool.and_eq_false_iff,decide_eq_false_iff_not]at c7;unfold GU at c6;refine⟨hk,hv,fun a=>?_,fun h3 a=>?_,fun h3 a=>?_,fun h3 a=>?_,by omega,fun h3=>?_,c3,hE⟩
  ·rcases c7.2 with q|q
   ·exact absurd a q
   ·omega
  ·have:=n4 h3;rcases c7.1 with(q|q)|q
   ·exact absurd a q
   ·exact absurd h3 q
   ·omega
  ·rw[if_neg h3]at c6;split at c6
   ·cases c6
   ·rename_i q;exact Classical.byContradiction fun z=>q ⟨a,by omega⟩
  ·rw[if_neg h3]at c6;split at c6
   ·cases c6
   ·split at c6
    ·cases c6
    ·rename_i q;exact Classical.byContradiction fun z=>q ⟨a,by omega⟩
  ·have:=n4 h3;omega
end
section
theorem aGm(l:List Ent)(hl:l.length<=30000):Is mx 21 [.sl (l.map Ac)] (.sl ((Bv l).map Ac)):=by
 refine MX F21 ?_;refine OG ?_;refine lT [0] (fun i:Nat=>[(3,.ref (.sl 3 40 0 (Bv (l.take i)).length)),(4,.i (iI i))]) (fun i=>[(3,.rows 66 40 ((Bv (l.take i)).map Ac))]) (fun i=>i<=l.length) (fun i=>l.length-i) 0 ?_;intro i hi;have hfl:(Bv (l.take i)).length<=i:=Nat.le_trans (List.length_filter_le _ _) (by simp;omega);by_cases ja:i<l.length
 ·have wb:Bv (l.take (i+1))=if decide ((l.getD i default).kind=3)=true then Bv (l.take i)++[l.getD i default]else Bv (l.take i):=PQ (fun x:Ent=>decide (x.kind=3)) l i ja
  have w6:=JV JT JU (l.getD i default);generalize Bv (l.take i)=acc at wb hfl;cases ht:decide ((l.getD i default).kind=3)
  ·rw[ht,if_neg (by simp)]at wb;refine Hw (cj (Cq ja) ht) ?_;exact⟨i+1,by omega,by omega,by rw[wb];exact⟨rfl,rfl⟩,by rw[wb]⟩
  ·rw[ht,if_pos rfl]at wb;refine ne (cj (Cq ja) (cj ht (cj w6.1 w6.2))) ?_;exact⟨i+1,by omega,by omega,by rw[wb];exact⟨by simp,rfl⟩,by rw[wb];simp⟩
 ·have e:l.take i=l:=List.take_of_length_le (by omega);rw[e];exact Hw (Ih ja) trivial
def Hv(t:Int)(a:Arr):Int:=if(decide (0<a.after)&&decide (a.after<=100)&&decide (t<1073741824))=true then t+a.after else t
def SI(p:Pol)(s:List Ent×Int)(a:Arr):List Ent×Int:=(s.1++(Bg s.1 p (Hv s.2 a) a.fact).1,Hv s.2 a)
def J4(p:Pol)(s:List Ent×Int)(l:List Arr)(i:Nat):List Ent×Int:=(l.take i).foldl (SI p) s
theorem fY(p:Pol)(s:List Ent×Int)(l:List Arr){i:Nat}(h:i<l.length):J4 p s l (i+1)=SI p (J4 p s l i) (l.getD i default):=by unfold J4;rw[Cg h,List.foldl_append];rfl
theorem fZ{t:Int}(a:Arr)(h0:0<=t)(h1:t<=1099511627776):0<=Hv t a/\Hv t a<=1099511627776:=by
 unfold Hv;split
 ·rename_i h;simp at h;omega
 ·omega
def okB(l0:List Ent)(l:List Arr)(i:Nat)(s:List Ent×Int):Prop:=AW s.1=0/\0<=s.2/\s.2<=1099511627776/\s.1.length<=60+i/\Af Am s.1<=Af Am l0+Af Gm (l.take i)+200*i
theorem aGn{l0:List Ent}{l:List Arr}{p:Pol}{i:Nat}{s:List Ent×Int}(h:okB l0 l i s)(hi:i<l.length):okB l0 l (i+1) (SI p s (l.getD i default)):=by
 obtain⟨h1,h2,h3,h4,h5⟩:=h;have hb:=SC s.1 p (Hv s.2 (l.getD i default)) (l.getD i default).fact;have ht:=fZ (l.getD i default) h2 h3;refine⟨OC h1 (e:=(Bg s.1 p (Hv s.2 (l.getD i default)) (l.getD i default).fact).2) rfl,ht.1,ht.2,?_,?_⟩
 ·show(s.1++(Bg s.1 p (Hv s.2 (l.getD i default)) (l.getD i default).fact).1).length<=_;rw[List.length_append];omega
 ·show Af Am (s.1++(Bg s.1 p (Hv s.2 (l.getD i default)) (l.getD i default).fact).1)<=_;rw[Gi,Cg hi,Gi];simp only[Af];have:Gm (l.getD i default)=Bz (l.getD i default).fact+1:=rfl;omega
theorem ga(p:Ent->Bool):∀l:List Ent,Af Am (l.filter p)<=Af Am l
 |[]=>by simp[Af]
 |e::l=>by have:=ga p l;rw[List.filter_cons];split<;>simp only[Af]<;>omega
theorem aGo(l:List Ent)(p:Pol)(ar:List Arr)(hb:Af Am l+Af Gm ar<=1048576):Is mx 6 [.sl (l.map Ac),.agg (Bf p),.sl (ar.map If)] (.bool true):=by
 have v1:=MN (mx:=mx) l (by omega);have ex:=MO (mx:=mx);have c33:=VW (mx:=mx) p;cases hf:decide (l.length<=60)&&decide (AW l=0)
 ·rw[hf]at v1;refine MX F6 ?_;exact Dp v1 trivial
 rw[hf]at v1;rw[Bool.and_eq_true,decide_eq_true_eq,decide_eq_true_eq]at hf;by_cases hp:CM p=0
 case neg=>
  have dp:decide (CM p≠0)=true:=by simpa using hp
  generalize CM p=e at c33 dp;refine MX F6 ?_;exact Dp (cj v1 (cj c33 (cj dp @DK))) trivial
 rw[hp]at c33;have d1:=aGm (mx:=mx) l (by omega);have hdv:=aFl hf.2;have xh:(Bv l).length<=l.length:=List.length_filter_le _ _;have hdb:Af Am (Bv l)<=Af Am l:=ga _ l;generalize Bv l=dl at*;obtain⟨t0,ht0⟩:∃t:Int,t=if 0<dl.length then(dl.getD (dl.length-1) default).tick else 0:=⟨_,rfl⟩;have h00:okB dl ar 0 (J4 p (dl,t0) ar 0):=by
  have ht:0<=t0/\t0<=1099511627776:=by
   rw[ht0];split
   ·exact(Ec hdv).tick (by omega)
   ·omega
  exact⟨hdv,ht.1,ht.2,by show dl.length<=_;omega,by show Af Am dl<=_;omega⟩
 have cc:=cj v1 (cj c33 d1);refine MX F6 ?_
 (repeat' first|simp(disch:=omega)only[go_sem,simprocAttr,DK]|refine Sz.s ?_|fail)
 refine Ae ?_
 (repeat' first|simp(disch:=omega)only[go_sem,simprocAttr,DK,ne_eq,not_true_eq_false,decide_false]|refine Sx.s ?_ ?_<;>try(intro h;have h':=h;try simp only[HB]at h';try rewrite [h];try simp only[h])|refine Kx @cc ?_|refine Sz.s ?_|fail)
 refine Dl.cutS [2,4,7] (by simp only[V0,MQ,reduceIte,Nat.reduceEqDiff];rfl) [(8,.i (iI t0))] [] True ?_ (fun _=>?_)
 ·rcases Sv dl (by omega)with⟨g0,d0,vi⟩|⟨g0,d0⟩
  ·rw[ht0,if_pos g0];exact Ka (cj d0 vi) trivial
  ·rw[ht0,if_neg (by omega)];exact Dp d0 trivial
 refine OG ?_;refine lS [2,4] (fun i=>[(7,.i (.sl ((J4 p (dl,t0) ar i).1.map Ac))),(8,.i (iI (J4 p (dl,t0) ar i).2)),(9,.i (iI i))]) (fun _=>[]) (fun i=>okB dl ar i (J4 p (dl,t0) ar i)) (min ar.length 30) ?_ (hi:=h00);intro i hi kg;by_cases ja:i<min ar.length 30
 case neg=>
  have dc:(decide ((i:Int)<(ar.length:Int))&&decide ((i:Int)<30))=false:=by
   by_cases h:i<ar.length
   ·have:¬i<30:=by omega
    simp;omega
   ·simp;omega
  have k1:=Sq (mx:=mx) (J4 p (dl,t0) ar i).1 (by
   have h5:=kg.2.2.2.2;have:=Hp Gm ar i;omega)
  rw[kg.1]at k1;exact Dp (cj dc (cj k1 ex)) trivial
 have xc:i<ar.length:=by omega
 have dc:decide ((i:Int)<30)=true:=decide_eq_true (by omega);have hok2:=aGn (p:=p) kg xc;rw[<-fY p _ ar xc]at hok2;have hsu:=fY p (dl,t0) ar xc;obtain⟨o1,o2,o3,o4,o5⟩:=kg;have hfb:Gm (ar.getD i default)<=Af Gm ar:=Cd (AA xc);have ke:=Hp Gm ar i;generalize J4 p (dl,t0) ar i=s at*;obtain⟨L,st⟩:=s;simp only at o1 o2 o3 o4 o5 hsu;have hfa:Gm (ar.getD i default)=Bz (ar.getD i default).fact+1:=rfl;obtain⟨u0,u1⟩:=fZ (ar.getD i default) o2 o3;obtain⟨T,hT⟩:∃T,T=Hv st (ar.getD i default):=⟨_,rfl⟩;unfold SI at hsu;rw[<-hT]at u0 u1 hsu;have c:=EL (mx:=mx) o1 p T (ar.getD i default).fact (by omega) (by omega);have x0:=Cq xc;refine Ae ?_
 (repeat' first|simp(disch:=omega)only[go_sem,simprocAttr,x0,dc,decide_true]|refine' AD (fun hq=>?_) (fun f=>?_)<;>try(have je:=hq;try simp only[HB]at je)|refine Sz.s ?_|fail)
 refine Ae ?_
 (repeat' first|simp(disch:=omega)only[go_sem,simprocAttr]|refine Sz.s ?_|fail)
 refine Dl.cutS [2,4,7,9] (by simp only[V0,MQ,reduceIte,Nat.reduceEqDiff];rfl) [(8,.i (iI T))] [] True ?_ (fun _=>?_)
 ·cases hct:(decide (0<(ar.getD i default).after)&&decide ((ar.getD i default).after<=100)&&decide (st<1073741824))
  ·have hw:T=st:=by rw[hT,Hv,hct,if_neg (by simp)]
   subst hw;exact Dp (cj x0 hct) trivial
  ·have hw:IntKind.i64.wrap (st+(ar.getD i default).after)=T:=by rw[hT,Hv,if_pos hct];simp only[Bool.and_eq_true,decide_eq_true_eq]at hct;exact BH (by omega) (by omega)
   exact Dp (cj x0 (cj hct hw)) trivial
 clear hT;rcases hr:Bg L p T (ar.getD i default).fact with⟨m,e⟩;rw[hr]at c hsu;rcases Ll hr with rfl|⟨rfl,hm,_,_,_,he,_⟩
 ·simp only[List.append_nil]at hsu;refine Dp (cj x0 (cj c (cj @DK @Ww.eq_1))) ?_;rw[hsu]at hok2⊢;exact⟨ja,hok2,rfl,rfl⟩
 subst hm;generalize Ba (BN T (ar.getD i default).fact) (MU L)=x at*;simp only at hsu;have hv:=OC o1 hr;have hnb:Af Am (L++[x])<=1060000/\(L++[x]).length<=100:=by rw[hsu]at hok2;obtain⟨_,_,_,h4,h5⟩:=hok2;have:=Hp Gm ar (i+1);simp only at h4 h5;exact⟨by omega,by omega⟩
 have w1:=SB (mx:=mx) L [x] (by omega) (by simp);have cn:=SA (mx:=mx) hv (ar.getD i default).fact (by omega);obtain⟨_,_,b1,b2,b3,b4,b5,b6,b7,_⟩:=aFo o1 hr;have at1:=eM (mx:=mx) (L++[x]) T (by omega);have fc:=Vv (mx:=mx) (atR (L++[x]) T) (ar.getD i default).fact (by have h1:=K5 (L++[x]) T (L++[x]).length (Nat.le_refl _);have h2:=Hp Am (L++[x]) (L++[x]).length;show AP (AZ (L++[x]) T (L++[x]).length)<=_;omega) (by omega);rw[b7]at fc;obtain⟨_,_,pl,pd⟩:=Ss hp;have x1:IntKind.i64.wrap (T-p.late)=T-p.late:=BH (by omega) (by omega);have x2:IntKind.i64.wrap (T+p.lead)=T+p.lead:=BH (by omega) (by omega);generalize A7 (L++[x]) (ar.getD i default).fact=nn at*;generalize L++[x]=n at*;simp only[List.map_cons,List.map_nil]at c w1;have k1:p.perSource≠0->decide (p.perSource<nn.2)=false:=fun h=>decide_eq_false (by have:=b1 h;omega)
 have k2:(ar.getD i default).fact.kind≠3->p.perKey≠0->decide (p.perKey<nn.1)=false:=fun h3 h=>decide_eq_false (by have:=b2 h3 h;omega)
 have k3:(ar.getD i default).fact.kind≠3->p.late≠0->decide ((ar.getD i default).fact.event<T-p.late)=false:=fun h3 h=>decide_eq_false (by have:=b3 h3 h;omega)
 have k4:(ar.getD i default).fact.kind≠3->p.lead≠0->decide (T+p.lead<(ar.getD i default).fact.event)=false:=fun h3 h=>decide_eq_false (by have:=b4 h3 h;omega)
 have k5:decide (nn.2<1)=false:=decide_eq_false (by omega);have k6:(ar.getD i default).fact.kind≠3->decide (nn.1<1)=false:=fun h3=>decide_eq_false (by have:=b6 h3;omega)
 have cd:=cj c (cj w1 (cj cn (cj at1 fc)))
 (repeat' first|simp(disch:=omega)only[go_sem,simprocAttr,DK,Ww.eq_1,x0,x1,x2,k1,k2,k3,k4,k5,k6,ne_eq,not_true_eq_false,decide_false,Bool.and_false,Bool.or_false,Bool.or_self]|refine' AD (fun hq=>?_) (fun f=>?_)<;>try(have je:=hq;try simp only[HB]at je)|refine Sx.s ?_ ?_<;>try(intro h;have h':=h;try simp only[HB]at h';try rewrite [h];try simp only[h])|refine Kx @cd ?_|refine Ae ?_|refine AG ?_|refine Sz.s ?_|fail)
 all_goals
  rw[hsu]at hok2⊢;exact⟨ja,hok2,rfl,rfl⟩
end
end Go.Proofs.YtkhlddbmhehbbaaGreatDoor
