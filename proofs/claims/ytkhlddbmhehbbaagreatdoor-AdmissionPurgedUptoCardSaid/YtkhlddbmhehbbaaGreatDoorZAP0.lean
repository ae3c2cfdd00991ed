/-Lemmas.-/
import Derived.Test.YtkhlddbmhehbbaaGreatDoorU24
set_option linter.all false
set_option maxRecDepth 100000
set_option maxHeartbeats 8000000
namespace Go.Proofs.YtkhlddbmhehbbaaGreatDoor
open Go Go.Dl Go.As Go.Proofs
variable {mx:Int}
attribute[local irreducible] Ah Ai MC W2 EM ev evD step Ad
section
theorem Wj(l:List Ent)(e:Ent):Af Am (Db l e).1<=Am e/\(Db l e).1.length<=1:=by
 unfold Db;split
 ·simp[Af]
 ·simp[Af,DS,Ba]
theorem fB(tick:Int)(f:Fct):Am (BN tick f)<=Bz f+200:=by
 have h1:=DS (BN tick f);have h4:DD JS<=40:=by decide
 have h5:Cl CU<=40:=by decide
 unfold BN at*;simp only at h1;omega
theorem aE8(tick:Int)(x:Ers):Am (EI tick x)<=DD x+200:=by
 have h1:=DS (EI tick x);have h4:Bz CT<=40:=by decide
 have h5:Cl CU<=40:=by decide
 unfold EI at*;simp only at h1;omega
theorem SC(l:List Ent)(p:Pol)(tick:Int)(f:Fct):Af Am (Bg l p tick f).1<=Bz f+200/\(Bg l p tick f).1.length<=1:=by
 have h1:=Wj l (BN tick f);have h2:=fB tick f;unfold Bg
 repeat' split
 all_goals first|(simp[Af];done)|(exact⟨by omega,by omega⟩)
theorem Wk(l:List Ent)(tick:Int)(x:Ers):Af Am (CC l tick x).1<=DD x+200/\(CC l tick x).1.length<=1:=by
 have h1:=Wj l (EI tick x);have h2:=aE8 tick x;unfold CC
 repeat' split
 all_goals first|(simp[Af];done)|(exact⟨by omega,by omega⟩)
theorem Qn{m:List Ent}(hb:Af Am m<=1073700):Is mx 18 [.sl (m.map Ac),.sl (m.map Ac)] (.bool true):=by
 have wy:∀x∈m,Am x<=1073741824:=fun x hx=>by have:=Cd (b:=Am) hx;omega
 have hl:=KW m;have s1:=vA (mx:=mx) m m (by omega) (by omega) wy wy;rw[aDp]at s1;exact s1
end
section
theorem Valid.seq{l:List Ent}(h:Valid l){i:Nat}(hi:i<l.length)(hk:(l.getD i default).kind=1):1<=(l.getD i default).fact.id.seq:=by
 have:=(h.fact hi hk).2;unfold C2 at this;split at this
 ·simp at this
 ·rename_i q;unfold H8 at q;simp only[Bool.not_eq_false,Bool.and_eq_true,decide_eq_true_eq]at q;exact q.1.1.1.2
end
section
theorem OD(g:List Fid)(e:Ent):(BE g e).tick=e.tick/\(BE g e).no=e.no/\((BE g e).kind=3↔e.kind=3)/\(e.kind≠1->BE g e=e):=by
 unfold BE;split
 ·rename_i h;refine⟨rfl,rfl,⟨fun q=>absurd q (by show(2:Int)≠3;decide),fun q=>by omega⟩,fun q=>absurd h.1 q⟩
 ·exact⟨rfl,rfl,Iff.rfl,fun _=>rfl⟩
theorem Lm{g:List Fid}{l:List Ent}{i:Nat}(h:i<l.length):(l.map (BE g)).getD i default=BE g (l.getD i default):=by simp[List.getD_eq_getElem?_getD,h]
theorem Wt(g:List Fid)(l:List Ent)(t:Int):∀i,i<=l.length->AZ (l.map (BE g)) t i=AZ l t i
 |0,_=>rfl
 |i+1,h=>by
  have ih:=Wt g l t i (by omega);obtain⟨h1,_,h3,h4⟩:=OD g (l.getD i default);rw[AZ,AZ,Lm (by omega),ih,h1];by_cases hk:(l.getD i default).kind=3
  ·rw[h4 (by omega)]
  ·rw[if_pos (.inl (fun q=>hk (h3.1 q))),if_pos (.inl hk)]
theorem fP(l:List Ent):A2 (BZ l)=A2 l:=by
 show AZ (BZ l) _ (BZ l).length=AZ l _ l.length;have:(BZ l).length=l.length:=by unfold BZ;simp
 rw[this];exact Wt _ l _ _ (Nat.le_refl _)
theorem Wu(l:List Ent):(BZ l).length=l.length/\(0<l.length->(A6 (BZ l)).tick=(A6 l).tick/\(A6 (BZ l)).no=(A6 l).no):=by
 have h:(BZ l).length=l.length:=by unfold BZ;simp
 refine⟨h,fun h0=>?_⟩;unfold A6;rw[h];show((l.map (BE (AF l))).getD _ _).tick=_/\((l.map (BE (AF l))).getD _ _).no=_;rw[Lm (by omega)];exact⟨(OD _ _).1,(OD _ _).2.1⟩
theorem fQ(l:List Ent)(tick:Int):BT (BZ l) tick=BT l tick:=by
 obtain⟨h1,h2⟩:=Wu l;unfold BT;by_cases h0:l.length=0
 ·rw[if_pos (by omega),if_pos h0]
 ·rw[if_neg (by omega),if_neg h0,(h2 (by omega)).1]
theorem fR(l:List Ent)(e:Ent):Db (BZ l) e=Db l e:=by
 obtain⟨h1,h2⟩:=Wu l;have:MU (BZ l)=MU l:=by
  unfold MU;by_cases h0:l.length=0
  ·rw[if_pos (by omega),if_pos h0]
  ·rw[if_neg (by omega),if_neg h0,(h2 (by omega)).2]
 unfold Db;rw[h1,this]
theorem aFg(l:List Ent)(tick:Int)(x:Ers):CC (BZ l) tick x=CC l tick x:=by unfold CC;rw[fQ,fR]
theorem aFh(l:List Ent)(f:Fct)(he:AF (BZ l)=AF l):A7 (BZ l) f=A7 l f:=by
 unfold A7;rw[he,fP];unfold BZ;rw[List.foldl_map];congr 1;funext a e;unfold BE;split
 ·rename_i h;unfold Dx;rw[if_pos (.inl (by show(2:Int)≠1;decide)),if_pos (.inr h.2)]
 ·rfl
end
section
def Ig(l:List Ent)(i:Nat)(y:Fid):Prop:=(l.getD i default).kind=2/\(if(l.getD i default).erasure.kind=2 then y=(l.getD i default).erasure.id
 else∃e∈l.take i,e.kind=1/\e.fact.kind≠3/\e.fact.key=(l.getD i default).erasure.key/\(∃t,AU (atR (l.take i) 1099511627776).tables e.fact.table=some t/\t.entity=(l.getD i default).erasure.entity)/\y=Ay e.fact)
theorem SH(l:List Ent)(y:Fid):∀n,y∈Bm l n↔∃i,i<n/\Ig l i y
 |0=>by simp[Bm]
 |n+1=>by
  have ih:=SH l y n;have hs:(∃i,i<n+1/\Ig l i y)↔((∃i,i<n/\Ig l i y)\/Ig l n y):=by
   constructor
   ·rintro⟨i,hi,h⟩;by_cases e:i=n
    ·subst e;exact .inr h
    ·exact .inl ⟨i,by omega,h⟩
   ·rintro(⟨i,hi,h⟩|h)
    ·exact⟨i,by omega,h⟩
    ·exact⟨n,by omega,h⟩
  rw[hs,<-ih];rw[Bm.eq_2];unfold Ig;by_cases hk:(l.getD n default).kind=2
  ·rw[if_neg (fun q=>q hk)];by_cases h2:(l.getD n default).erasure.kind=2
   ·rw[if_pos h2,if_pos h2,P5];exact⟨fun h=>h.elim (fun q=>.inr ⟨hk,q⟩) .inl,fun h=>h.elim .inr fun q=>.inl q.2⟩
   ·rw[if_neg h2,if_neg h2,R2];exact⟨fun h=>h.elim .inl fun q=>.inr ⟨hk,q⟩,fun h=>h.elim .inl fun q=>.inr q.2⟩
  ·rw[if_pos hk];exact⟨.inl,fun h=>h.elim id fun q=>absurd q.1 hk⟩
theorem aFi(g:List Fid)(l:List Ent)(i:Nat):atR ((l.map (BE g)).take i) 1099511627776=atR (l.take i) 1099511627776:=by rw[<-List.map_take];have:=Wt g (l.take i) 1099511627776 (l.take i).length (Nat.le_refl _);unfold atR;rw[List.length_map];exact this
theorem fS(l:List Ent):AF (BZ l)=AF l:=by
 refine Lb Ic (Oi _ _) (Oi _ _) fun y=>?_
 show y∈Bm (l.map (BE (AF l))) _↔y∈Bm l _;have jd:(BZ l).length=l.length:=(Wu l).1;rw[jd,SH,SH];have hg:∀z,z∈AF l↔∃i,i<l.length/\Ig l i z:=fun z=>SH l z l.length
 generalize AF l=g at*;constructor
 ·rintro⟨i,hi,h⟩;unfold Ig at h;rw[Lm hi,aFi]at h;by_cases hp:(l.getD i default).kind=1/\Be g (Ay (l.getD i default).fact)=true
  ·have e:BE g (l.getD i default)=DI (l.getD i default):=if_pos hp;rw[e,if_pos (by rfl)]at h;have hy:y=Ay (l.getD i default).fact:=h.2;exact(hg y).1 (by rw[hy];exact(P6 _ _).1 hp.2)
  ·have e:BE g (l.getD i default)=l.getD i default:=if_neg hp;rw[e]at h;refine⟨i,hi,h.1,?_⟩;by_cases h2:(l.getD i default).erasure.kind=2
   ·rw[if_pos h2]at h⊢;exact h.2
   ·rw[if_neg h2]at h⊢;obtain⟨_,x,hx,h1,h3⟩:=h;rw[<-List.map_take,List.mem_map]at hx;obtain⟨x',hx',rfl⟩:=hx;by_cases hp':x'.kind=1/\Be g (Ay x'.fact)=true
    ·have e':BE g x'=DI x':=if_pos hp';rw[e']at h1;exact absurd h1 (by show(2:Int)≠1;decide)
    ·have e':BE g x'=x':=if_neg hp';rw[e']at h1 h3;exact⟨x',hx',h1,h3⟩
 ·rintro⟨i,hi,h⟩;have hy:y∈g:=(hg y).2 ⟨i,hi,h⟩;by_cases h2:(l.getD i default).erasure.kind=2
  ·unfold Ig at h;rw[if_pos h2]at h;refine⟨i,hi,?_⟩;unfold Ig;rw[Lm hi,(OD g _).2.2.2 (by rw[h.1];decide),if_pos h2];exact h
  ·unfold Ig at h;rw[if_neg h2]at h;obtain⟨_,x,hx,h1,_,_,_,rfl⟩:=h;obtain⟨j,hj,hjx⟩:=List.mem_iff_getElem.1 hx;have jq:j<i/\j<l.length:=by simp at hj;omega
   have hxj:l.getD j default=x:=by rw[List.getElem_take]at hjx;rw[List.getD_eq_getElem?_getD,List.getElem?_eq_getElem jq.2];exact hjx
   refine⟨j,jq.2,?_⟩;unfold Ig;have e:BE g x=DI x:=if_pos ⟨h1,(P6 _ _).2 hy⟩;rw[Lm jq.2,hxj,e];exact⟨rfl,by rw[if_pos (by rfl)];rfl⟩
end
section
theorem fT{α:Type}{p q:α->Bool}:∀{l:List α},(∀x∈l,p x=q x)->l.find? p=l.find? q
 |[],_=>rfl
 |x::l,h=>by
  have h1:=h x (List.mem_cons_self ..);have h2:=fT (p:=p) (q:=q) (l:=l) fun y hy=>h y (List.mem_cons_of_mem _ hy)
  rw[List.find?_cons,List.find?_cons,h1,h2]
theorem aFj{l:List Ent}{f:Fct}(h:∀e∈l,e.kind=1->e.fact.id=f.id->Be (AF l) (Ay e.fact)=false):Fd (BZ l) f=Fd l f:=by
 have h1:∀e∈l,CB f (BE (AF l) e)=CB f e:=fun e he=>by
  unfold BE;split
  ·rename_i hp;unfold CB;by_cases v8:e.fact.id=f.id
   ·have:=h e he hp.1 v8;rw[this]at hp;simp at hp
   ·rw[decide_eq_false v8,Bool.and_false];simp[DI]
  ·rfl
 unfold Fd BZ;rw[List.find?_map];rw[fT (p:=CB f ∘ BE (AF l)) (q:=CB f) (fun e he=>h1 e he)];cases hw:l.find? (CB f)with
 |none=>rfl
 |some e=>have he:=List.mem_of_find?_eq_some hw;have hi:=List.find?_some hw;unfold CB at hi;rw[Bool.and_eq_true,decide_eq_true_eq,decide_eq_true_eq]at hi;have:=h e he hi.1 hi.2;show some (BE _ e)=some e;unfold BE;rw[if_neg (by rw[this];simp)]
theorem aFk{l:List Ent}{f:Fct}(h:∀e∈l,e.kind=1->e.fact.id=f.id->Be (AF l) (Ay e.fact)=false)(p:Pol)(tick:Int)(x:Ers):
  Bg (BZ l) p tick f=Bg l p tick f/\A7 (BZ l) f=A7 l f/\CC (BZ l) tick x=CC l tick x:=by
 have hc:=aFh l f (fS l);refine⟨?_,hc,aFg l tick x⟩;have hs:DX (BZ l) f=DX l f:=by unfold DX;rw[aFj h]
 unfold Bg;rw[fQ,fP,fS,hs,hc,fR]
end
section
theorem aFt{f:Fct}(h:H8 f=true):Di (Ay f).source=true/\1<=(Ay f).seq/\(Ay f).seq<=1099511627776:=by unfold H8 RR at h;unfold Ay;grind
theorem aFu{c:Cat}{e:Ent}(h:C2 c e.fact=0):Fb (DI e)=true/\D8 (DI e).erasure=true:=by
 have hf:H8 e.fact=true:=by unfold C2 at h;grind
 have hb:=aFt hf;have h1:JR CT=true:=by decide
 have h2:IV CU=true:=by decide
 exact⟨by simp[Fb,DI,h1,h2],by simp[D8,DI,hb]⟩
theorem aFv{g:List Fid}{l:List Ent}{i:Nat}(hi:i<l.length)(he:BE g (l.getD i default)=l.getD i default)(h:DV l i=false):DV (l.map (BE g)) i=false:=by
 unfold DV at h⊢;rw[List.any_eq_false]at h⊢;intro x hx;rw[<-List.map_take]at hx;obtain⟨y,hy,rfl⟩:=List.mem_map.1 hx;have h1:=h y hy;unfold IW at h1⊢;rw[Lm hi,he];unfold BE;split
 ·simp[DI]
 ·exact h1
theorem fW{l:List Ent}(h:Valid l)(g:List Fid):∀i,i<=l.length->A1 (l.map (BE g)) i=(Bu l i,0)
 |0,_=>rfl
 |i+1,hi=>by
  have ih:=fW h g i (by omega);have hi:i<l.length:=hi;rw[A1,ih,if_neg (by simp)];have hs:=h.step hi;have kx:=h.order hi;obtain⟨p1,p2,p3,p4⟩:=OD g (l.getD i default);obtain⟨q1,q2,_,_⟩:=OD g (l.getD (i-1) default);have ho:(EG (BE g (l.getD i default))||Dw (l.map (BE g)) i (BE g (l.getD i default)))=false:=by unfold EG Dw at kx⊢;rw[Lm (by omega),p1,p2,q1,q2];exact kx
  unfold CA at hs⊢;rw[kx]at hs;rw[Lm hi,ho];by_cases hw:(l.getD i default).kind=1/\Be g (Ay (l.getD i default).fact)=true
  ·have e1:BE g (l.getD i default)=DI (l.getD i default):=if_pos hw;obtain⟨f1,f2⟩:=h.fact hi hw.1;obtain⟨w1,w2⟩:=aFu f2;rw[e1,w1,w2,f1];simp[DI]
  ·have e1:BE g (l.getD i default)=l.getD i default:=if_neg hw;rw[e1];by_cases hk:(l.getD i default).kind=1
   ·have t1:=h.twice hi hk;rw[aFv hi e1 t1];rw[t1]at hs;exact hs
   ·rw[if_neg hk]at hs⊢;exact hs
theorem aFw{l:List Ent}(hl:AW l=0):AW (BZ l)=0:=by
 have h1:=Valid.len hl;have h2:(BZ l).length=l.length:=by unfold BZ;simp
 unfold AW;rw[if_neg (by omega),h2];exact congrArg Prod.snd (fW (Ec hl) _ _ (Nat.le_refl _))
end
section
theorem aG5(l:List Ent)(p:Pol)(tick:Int)(f:Fct)(x:Ers)(hb:Af Am l+Bz f+DD x<=1048576):Is mx 8 [.sl (l.map Ac),.agg (Bf p),iI tick,.agg (Ap f),.agg (BL x)] (.bool true):=by
 have v1:=MN (mx:=mx) l (by omega);have ex:=MO (mx:=mx);cases hf:decide (l.length<=60)&&decide (AW l=0)
 ·rw[hf]at v1;refine MX F8 ?_;exact Dp v1 trivial
 rw[hf]at v1;rw[Bool.and_eq_true,decide_eq_true_eq,decide_eq_true_eq]at hf;have hV:=Ec hf.2;have p1:=y8 (mx:=mx) l (by omega);rw[aDn hV]at p1;have g1:=Sy (mx:=mx) hf.2;have hgl:(AF l).length<=1073741824:=by have:=Oe (l:=l) (by omega);omega
 have hqv:=aFw hf.2;have hqb:Af Am (BZ l)<=Af Am l+6000:=by
  have:∀(g:List Fid) (l:List Ent),Af Am (l.map (BE g))<=Af Am l+100*l.length:=by
   intro g l
   induction l with
   |nil=>simp[Af]
   |cons e l ih=>have:=aDr g e;simp only[List.map_cons,Af,List.length_cons];omega
  have:=this (AF l) l;unfold BZ;omega
 have c1:=SA (mx:=mx) hf.2 f (by omega);have c2:=SA (mx:=mx) hqv f (by omega);have c3:=EL (mx:=mx) hf.2 p tick f (by omega) (by omega);have c4:=EL (mx:=mx) hqv p tick f (by omega) (by omega);have c5:=Ql (mx:=mx) hf.2 tick x (by omega) (by omega);have c6:=Ql (mx:=mx) hqv tick x (by omega) (by omega);have law:=fun h=>aFk (l:=l) (f:=f) h p tick x
 have s1:=Qn (mx:=mx) (m:=(Bg l p tick f).1) (by have:=SC l p tick f;omega);have s2:=Qn (mx:=mx) (m:=(CC l tick x).1) (by have:=Wk l tick x;omega);generalize BZ l=q at*;generalize hgo:AF l=gone at*;refine MX F8 ?_;refine Dp (cj v1 (cj p1 (cj g1 @DK))) ?_;refine lS [0,2,6,8,9,11,12] (fun i=>[(13,.i (iI i))]) (fun _=>[]) (fun i=>(l.take i).all (fun e=>!(CB f e&&Be gone (Ay e.fact)))=true) l.length ?_;intro i hi jb;by_cases ja:i<l.length
 ·have b1:=Oh (mx:=mx) (l.getD i default).fact;have b2:=RY (mx:=mx) gone (Ay (l.getD i default).fact) hgl;have v8:CB f (l.getD i default)=(decide ((l.getD i default).kind=1)&&decide ((l.getD i default).fact.id=f.id)):=rfl;have kw:(decide ((l.getD i default).fact.id.source=f.id.source)&&decide ((l.getD i default).fact.id.seq=f.id.seq))=decide ((l.getD i default).fact.id=f.id):=(FH _ _).symm;have jh:=fun h=>BR (p:=fun e:Ent=>!(CB f e&&Be gone (Ay e.fact))) (d:=default) jb ja h
  simp only[v8]at jh;generalize Be gone (Ay (l.getD i default).fact)=bg at b2 jh;cases hk:decide ((l.getD i default).kind=1)&&decide ((l.getD i default).fact.id=f.id)
  ·rw[hk]at jh;refine Dp (cj (Cq ja) (cj @Cy (cj @Cz (cj kw hk)))) ?_;exact⟨ja,jh rfl⟩
  ·rw[hk]at jh;cases bg
   ·refine Dp (cj (Cq ja) (cj @Cy (cj @Cz (cj kw (cj hk (cj b1 b2)))))) ?_;exact⟨ja,jh rfl⟩
   ·exact Dp (cj (Cq ja) (cj @Cy (cj @Cz (cj kw (cj hk (cj b1 (cj b2 ex))))))) trivial
 ·rw[List.take_of_length_le (by omega),List.all_eq_true]at jb;obtain⟨l1,l2,l3⟩:=law fun e he hk v8=>by have:=jb e he;simp[CB,hk,v8]at this;exact this
  rw[l1]at c4;rw[l2]at c2;rw[l3]at c6;generalize A7 l f=n at c1 c2;generalize Bg l p tick f=r at c3 c4 s1;generalize CC l tick x=y at c5 c6 s2;exact Dp (cj (Ih ja) (cj c1 (cj c2 (cj c3 (cj c4 (cj c5 (cj c6 (cj s1 (cj s2 (cj ex (cj @DK @Ww.eq_1))))))))))) trivial
end
end Go.Proofs.YtkhlddbmhehbbaaGreatDoor
