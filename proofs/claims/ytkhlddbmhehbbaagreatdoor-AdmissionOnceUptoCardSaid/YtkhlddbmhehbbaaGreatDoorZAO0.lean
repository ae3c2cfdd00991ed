/-Lemmas.-/
import Derived.Test.YtkhlddbmhehbbaaGreatDoorU24
set_option linter.all false
set_option maxRecDepth 100000
set_option maxHeartbeats 8000000
namespace Go.Proofs.YtkhlddbmhehbbaaGreatDoor
open Go Go.Dl Go.As Go.Proofs
variable {mx:Int}
attribute[local irreducible] Ah Ai MC W2 EM ev evD step Ad
section
theorem fB(tick:Int)(f:Fct):Am (BN tick f)<=Bz f+200:=by
 have h1:=DS (BN tick f);have h4:DD JS<=40:=by decide
 have h5:Cl CU<=40:=by decide
 unfold BN at*;simp only at h1;omega
end
section
theorem Valid.noChange{l:List Ent}(h:Valid l){i:Nat}(hi:i<l.length)(hk:(l.getD i default).kind≠3):Bu l (i+1)=Bu l i:=by
 rcases h.kinds hi with q|q|q
 ·exact(h.fact hi q).1
 ·exact h.erase hi q
 all_goals omega
end
section
theorem MP{α:Type}{l:List α}{e d:α}{i:Nat}(h:i<l.length):(l++[e]).getD i d=l.getD i d:=by grind
theorem J3{α:Type}{l:List α}{e d:α}:(l++[e]).getD l.length d=e:=by simp
theorem Wp(l:List Ent)(e:Ent):∀i,i<=l.length->Bm (l++[e]) i=Bm l i
 |0,_=>rfl
 |i+1,h=>by rw[Bm,Bm,MP (by omega),Wp l e i (by omega),List.take_append_of_le_length (by omega)]
end
section
theorem aF6(l:List Ent)(e:Ent){i:Nat}(hi:i<l.length):DV (l++[e]) i=DV l i:=by unfold DV;rw[List.take_append_of_le_length (by omega)];congr 1;funext x;unfold IW;rw[MP hi]
theorem aF7(l:List Ent)(e:Ent){i:Nat}(hi:i<l.length)(c:Cat):CA (l++[e]) i c=CA l i c:=by
 have h:Dw (l++[e]) i (l.getD i default)=Dw l i (l.getD i default):=by
  unfold Dw;by_cases h0:0<i
  ·rw[MP (by omega)]
  ·simp[h0]
 unfold CA;rw[MP hi,h,aF6 l e hi]
theorem SF(l:List Ent)(e:Ent):∀i,i<=l.length->A1 (l++[e]) i=A1 l i
 |0,_=>rfl
 |i+1,h=>by rw[A1,A1,SF l e i (by omega),aF7 l e (by omega)]
theorem Wq{l:List Ent}(h:AW l=0)(e:Ent)(hn:l.length<4096)(h1:(CA (l++[e]) l.length (Bu l l.length)).2=0):AW (l++[e])=0:=by have hV:=Ec h;unfold AW;rw[if_neg (by simp;omega),List.length_append,List.length_cons,List.length_nil,A1,SF l e _ (Nat.le_refl _),if_neg (by simp[hV.err _ (Nat.le_refl _)])];exact h1
end
section
theorem Wr{l:List Ent}(h:Valid l):A2 l=Bu l l.length:=by have:=h.atR (Nat.le_refl l.length);rw[List.take_length]at this;exact this
theorem SG{l:List Ent}(h:Valid l){tick:Int}(he:BT l tick=false):0<=tick/\tick<=1099511627776/\(0<l.length->(l.getD (l.length-1) default).tick<=tick):=by
 unfold BT at he;rw[Bool.or_eq_false_iff,decide_eq_false_iff_not,decide_eq_false_iff_not]at he;by_cases h0:l.length=0
 ·rw[if_pos h0]at he;omega
 ·rw[if_neg h0]at he;have:=h.tick (i:=l.length-1) (by omega);unfold A6 at he;omega
theorem aF8{l:List Ent}(h:Valid l):1<=MU l/\(0<l.length->(l.getD (l.length-1) default).no<MU l):=by
 unfold MU;by_cases h0:l.length=0
 ·rw[if_pos h0];omega
 ·rw[if_neg h0];have:=h.order (i:=l.length-1) (by omega);simp only[EG,Bool.or_eq_false_iff,decide_eq_false_iff_not]at this;unfold A6;omega
theorem fL{l:List Ent}(h:Valid l){e:Ent}(he:BT l e.tick=false)(hn:MU l<=1099511627776):
  (EG (Ba e (MU l))||Dw (l++[Ba e (MU l)]) l.length (Ba e (MU l)))=false:=by
 obtain⟨h1,h2,h3⟩:=SG h he;obtain⟨h4,h5⟩:=aF8 h;have ha:EG (Ba e (MU l))=false:=by have e1:(Ba e (MU l)).no=MU l:=rfl;have e2:(Ba e (MU l)).tick=e.tick:=rfl;unfold EG;rw[e1,e2,Bool.or_eq_false_iff,Bool.or_eq_false_iff,Bool.or_eq_false_iff];exact⟨⟨⟨decide_eq_false (by omega),decide_eq_false (by omega)⟩,decide_eq_false (by omega)⟩,decide_eq_false (by omega)⟩
 have hb:Dw (l++[Ba e (MU l)]) l.length (Ba e (MU l))=false:=by
  generalize hx:Ba e (MU l)=x;have e1:x.no=MU l:=by rw[<-hx];rfl
  have e2:x.tick=e.tick:=by rw[<-hx];rfl
  unfold Dw;by_cases h0:0<l.length
  ·rw[MP (by omega),Bool.and_eq_false_iff,Bool.or_eq_false_iff];have:=h3 h0;have:=h5 h0;exact .inr ⟨decide_eq_false (by omega),decide_eq_false (by omega)⟩
  ·rw[decide_eq_false h0];rfl
 rw[ha,hb];rfl
theorem aF9{l:List Ent}{f:Fct}{e:Ent}(h:Fd l f=none)(hf:e.fact=f):DV (l++[e]) l.length=false:=by unfold DV;rw[List.take_append_of_le_length (Nat.le_refl _),List.take_length,List.any_eq_false];intro x hx;have:=List.find?_eq_none.1 h x hx;unfold IW;rw[J3,hf];exact this
theorem aFa{l:List Ent}{f:Fct}(h1:DX l f≠1)(h2:DX l f≠2):Fd l f=none:=by
 unfold DX at h1 h2;cases e:Fd l f with
 |none=>rfl
 |some x=>rw[e]at h1 h2;simp only at h1 h2;split at h1<;>simp_all
theorem Ll{l:List Ent}{p:Pol}{tick:Int}{f:Fct}{m:List Ent}{e:Int}(h:Bg l p tick f=(m,e)):m=[]\/
  (e=0/\m=[Ba (BN tick f) (MU l)]/\l.length<4096/\MU l<=1099511627776/\CM p=0/\BT l tick=false/\C2 (A2 l) f=0/\Be (AF l) (Ay f)=false/\Fd l f=none/\GU p tick f=0/\Ib p f (A7 l f)=false):=by
 unfold Bg at h;split at h
 ·cases h;exact .inl rfl
 rename_i a1;split at h
 ·cases h;exact .inl rfl
 rename_i a2;split at h
 ·cases h;exact .inl rfl
 rename_i a3;split at h
 ·cases h;exact .inl rfl
 rename_i a4;split at h
 ·cases h;exact .inl rfl
 rename_i a5;split at h
 ·cases h;exact .inl rfl
 rename_i a6;split at h
 ·cases h;exact .inl rfl
 rename_i a7;unfold Db at h;split at h
 ·cases h;exact .inl rfl
 rename_i a8;cases h;refine .inr ⟨rfl,rfl,by omega,by omega,?_,?_,?_,by simpa using a3,aFa a4 a5,?_,by simpa using a7⟩
 ·exact Classical.byContradiction fun q=>a1 (.inl q)
 ·cases q:BT l tick
  ·rfl
  ·exact absurd (.inr q) a1
 ·exact Classical.byContradiction a2
 ·exact Classical.byContradiction a6
theorem OC{l:List Ent}(hl:AW l=0){p:Pol}{tick:Int}{f:Fct}{m:List Ent}{e:Int}(h:Bg l p tick f=(m,e)):AW (l++m)=0:=by
 have hV:=Ec hl;rcases Ll h with rfl|⟨_,rfl,h1,h2,_,h3,h4,_,h5,_,_⟩
 ·rw[List.append_nil];exact hl
 ·refine Wq hl _ h1 ?_;have ho:=fL hV (e:=BN tick f) h3 h2;have ht:DV (l++[Ba (BN tick f) (MU l)]) l.length=false:=aF9 h5 rfl;rw[Wr hV]at h4;unfold CA;rw[J3,if_neg (by rw[ho];simp),if_neg (by simp[Fb,Ba,BN,IV,R9,Sa]),if_pos (show(Ba (BN tick f) (MU l)).kind=1 from rfl),if_neg (by rw[ht];simp)];exact h4
end
section
theorem Ws(l:List Ent)(e:Ent)(hk:e.kind≠2):AF (l++[e])=AF l:=by unfold AF;rw[List.length_append,List.length_cons,List.length_nil,Bm,J3,Wp l e _ (Nat.le_refl _),if_pos (by simpa using hk)]
end
section
theorem fN{l:List Ent}(hl:AW l=0){e:Ent}(hk:e.kind=1)(h:AW (l++[e])=0):A2 (l++[e])=A2 l:=by
 have h1:=Ec hl;have h2:=Ec h;rw[Wr h1,Wr h2,List.length_append,List.length_cons,List.length_nil];have jn:l.length<(l++[e]).length:=by simp
 have:=h2.noChange (i:=l.length) jn (by rw[J3,hk];decide);rw[this];unfold Bu;rw[SF l e _ (Nat.le_refl _)]
theorem fO{l:List Ent}{f g:Fct}{e:Ent}(h:Fd l f=none)(he:e.kind=1)(hf:e.fact.id=f.id)(hg:g.id=f.id):Fd (l++[e]) g=some e:=by
 have e1:CB g=CB f:=by funext x;unfold CB;rw[hg]
 unfold Fd at*;rw[e1,List.find?_append,h];simp[CB,he,hf]
theorem aFe{l:List Ent}{e:Ent}{w:Int}(h1:e.tick<=w)(h2:w<=1099511627776):BT (l++[e]) w=false:=by
 unfold BT A6;rw[if_neg (by simp),Bool.or_eq_false_iff];have:(l++[e]).length-1=l.length:=by simp
 rw[this,J3];exact⟨decide_eq_false (by omega),decide_eq_false (by omega)⟩
theorem aFf{l:List Ent}(hl:AW l=0){p:Pol}{tick w:Int}{f g:Fct}{e:Ent}{k:Int}(h:Bg l p tick f=([e],k))(hw:tick<=w)(hw2:w<=1099511627776)(hg:g.id=f.id)
  (hs:Dn f g=true->f=g):Bg (l++[e]) p w f=([],0)/\(Bg (l++[e]) p w g).1=[]/\((Bg (l++[e]) p w g).2=0↔Dn f g=true):=by
 have hv:=OC hl h;rcases Ll h with q|⟨_,q,_,_,c1,c2,c3,c4,c5,_,_⟩
 ·cases q
 ·obtain rfl:e=Ba (BN tick f) (MU l):=by simpa using q
  have d1:=aFe (l:=l) (e:=Ba (BN tick f) (MU l)) (w:=w) hw hw2;have d2:=fN hl (e:=Ba (BN tick f) (MU l)) rfl hv;have d3:=Ws l (Ba (BN tick f) (MU l)) (by show(1:Int)≠2;decide);have d4:=fO (e:=Ba (BN tick f) (MU l)) c5 rfl rfl (rfl:f.id=f.id);have d5:=fO (e:=Ba (BN tick f) (MU l)) c5 rfl rfl hg;have s1:DX (l++[Ba (BN tick f) (MU l)]) f=1:=by unfold DX;rw[d4];exact if_pos (fx f)
  have s2:DX (l++[Ba (BN tick f) (MU l)]) g=if Dn f g=true then 1 else 2:=by unfold DX;rw[d5];rfl
  generalize l++[Ba (BN tick f) (MU l)]=n at*;refine⟨?_,?_⟩
  ·unfold Bg;rw[if_neg (by rw[c1,d1];simp),d2,if_neg (by rw[c3];simp),d3,if_neg (by rw[c4];simp),if_pos s1]
  ·by_cases hfg:Dn f g=true
   ·obtain rfl:=hs hfg;rw[if_pos hfg]at s2;unfold Bg;rw[if_neg (by rw[c1,d1];simp),d2,if_neg (by rw[c3];simp),d3,if_neg (by rw[c4];simp),if_pos s1];exact⟨rfl,fun _=>hfg,fun _=>rfl⟩
   ·rw[if_neg hfg]at s2;unfold Bg;rw[if_neg (by rw[c1,d1];simp)];split
    ·rename_i a;exact⟨rfl,fun q=>absurd q a,fun q=>absurd q hfg⟩
    split
    ·exact⟨rfl,fun q=>by simp at q,fun q=>absurd q hfg⟩
    rw[s2];exact⟨rfl,fun q=>by simp at q,fun q=>absurd q hfg⟩
end
section
theorem aFp{a b:Fct}(h:Dn a b=true):a=b:=by
 have hv:∀l m:List Val,eqL CJ l m=true->l=m:=by
  intro l
  induction l with
  |nil=>intro m h;cases m<;>simp_all[eqL]
  |cons x l ih=>
   intro m h;cases m with
   |nil=>simp[eqL]at h
   |cons y m=>simp only[eqL,Bool.and_eq_true,ZE,decide_eq_true_eq]at h;rw[h.1,ih m h.2]
 obtain⟨⟨s,q⟩,k,r,t,y,e,f⟩:=a;obtain⟨⟨s',q'⟩,k',r',t',y',e',f'⟩:=b;simp only[Dn,Bool.and_eq_true,beq_iff_eq,decide_eq_true_eq]at h;obtain⟨⟨⟨⟨⟨⟨⟨h1,h2⟩,h3⟩,h4⟩,h5⟩,h6⟩,h7⟩,h8⟩:=h;rw[hv _ _ h8,h1,h2,h3,h4,h5,h6,h7]
end
section
theorem aFx(e:Ent)(n:Int):Am (Ba e n)=Am e:=by simp only[DS,Ba]
theorem aFy(l:List Ent)(p:Pol)(tick later:Int)(f other:Fct)(hb:Af Am l+Bz f+Bz other<=1048576):Is mx 5 [.sl (l.map Ac),.agg (Bf p),iI tick,iI later,.agg (Ap f),.agg (Ap other)] (.bool true):=by
 have v1:=MN (mx:=mx) l (by omega);have ex:=MO (mx:=mx);cases hf:decide (l.length<=60)&&decide (AW l=0)
 ·rw[hf]at v1;refine MX F5 ?_;exact Dp v1 trivial
 rw[hf]at v1;by_cases h59:59<(l.length:Int)
 ·refine MX F5 ?_;exact A4 (cj v1 h59) trivial
 rw[Bool.and_eq_true,decide_eq_true_eq,decide_eq_true_eq]at hf;have d59:decide (59<(l.length:Int))=false:=decide_eq_false h59;have c1:=EL (mx:=mx) hf.2 p tick f (by omega) (by omega);rcases hr:Bg l p tick f with⟨m,e⟩;rw[hr]at c1;rcases Ll hr with rfl|⟨rfl,hm,_,_,_,he,_⟩
 ·cases he0:decide (e≠0)
  all_goals
   refine MX F5 ?_;exact Dp (cj v1 (cj d59 (cj c1 (cj ex (cj he0 (cj @DK @Ww.eq_1)))))) trivial
 have hbx:Am (Ba (BN tick f) (MU l))<=Bz f+200:=by rw[aFx];exact fB tick f
 generalize Ba (BN tick f) (MU l)=x at hm hbx;subst hm;obtain⟨t0,t1,_⟩:=SG (Ec hf.2) he;obtain⟨w,hw⟩:∃w,w=if(decide (tick<later)&&decide (later<=1099511627776))=true then later else tick:=⟨_,rfl⟩;have hw1:tick<=w/\w<=1099511627776:=by grind
 obtain⟨g,hg⟩:∃g:Fct,g=⟨f.id,other.kind,other.ref,other.table,other.key,other.event,other.fields⟩:=⟨_,rfl⟩;have hgb:Bz g<=Bz f+Bz other:=by rw[hg];simp only[IM];unfold Hf;omega
 obtain⟨o1,o2,o3⟩:=aFf hf.2 hr hw1.1 hw1.2 (g:=g) (by rw[hg]) aFp;have hv:=OC hf.2 hr;have hlb:Af Am (l++[x])<=1048776:=by rw[Gi];simp only[Af];omega
 have w1:=SB (mx:=mx) l [x] (by omega) (by simp);have c2:=EL (mx:=mx) hv p w f (by omega) (by omega);have c3:=EL (mx:=mx) hv p w g (by omega) (by omega);rw[o1]at c2;have s1:=eV (mx:=mx) f g (by have:=OA f;omega) (by have:=OA g;omega);have o4:decide ((Bg (l++[x]) p w g).2=0)=Dn f g:=by rw[Bool.eq_iff_iff,decide_eq_true_eq];exact o3
 rcases hq:Bg (l++[x]) p w g with⟨m2,e2⟩;rw[hq]at c3 o2 o4;simp only at o2 o4;subst o2;generalize Dn f g=bb at s1 o4;generalize l++[x]=n at w1 c2 c3;rw[hg]at c3 s1;simp only[List.map_cons,List.map_nil]at c1 w1;rw[KM]at c1 c2 c3;rw[KM,KM]at s1;cases hc:decide (tick<later)&&decide (later<=1099511627776)<;>rw[hc]at hw<;>simp only[if_true,if_false,Bool.false_eq_true]at hw<;>rw[hw]at c2 c3
 all_goals
  refine MX F5 ?_;exact A4 (cj v1 (cj d59 (cj c1 (cj w1 (cj hc (cj c2 (cj c3 (cj s1 (cj o4 (cj ex (cj @DK (cj @KM @Ww.eq_1)))))))))))) trivial
end
end Go.Proofs.YtkhlddbmhehbbaaGreatDoor
