/-Lemmas.-/
import Derived.Test.YtkhlddbmhehbbaaGreatDoorU21
set_option linter.all false
set_option maxRecDepth 100000
set_option maxHeartbeats 8000000
namespace Go.Proofs.YtkhlddbmhehbbaaGreatDoor
open Go Go.Dl Go.As Go.Proofs
variable {mx:Int}
attribute[local irreducible] Ah Ai MC W2 EM ev evD step Ad
section
def CD(l:List Ent)(tick:Int):Nat->List (Chg×Cat)
 |0=>[]
 |i+1=>if(l.getD i default).kind≠3\/tick<(l.getD i default).tick then CD l tick i else if(Cn (AZ l tick i) (l.getD i default).change).2=0 then CD l tick i++[((l.getD i default).change,(Cn (AZ l tick i) (l.getD i default).change).1)]else CD l tick i
def eCC(p:Chg×Cat):List I:=[.agg (AE p.1),.agg (At p.2)]
def MK(xs:List (Chg×Cat)):Cat:=if xs.length=0 then B3 else(xs.getD (xs.length-1) default).2
theorem cY(xs:List (Chg×Cat))(p:Chg×Cat):MK (xs++[p])=p.2:=by simp[MK]
theorem cZ(l:List Ent)(tick:Int):∀i,MK (CD l tick i)=AZ l tick i
 |0=>rfl
 |i+1=>by have ih:=cZ l tick i;rw[CD.eq_2,AZ.eq_2];grind[cY]
theorem Sb(l:List Ent)(tick:Int)(i:Nat):∀n,i<=n->CD l tick i<+:CD l tick n
 |0,h=>by rw[show i=0 by omega];exact List.prefix_refl _
 |n+1,h=>by
  by_cases e:i=n+1
  ·rw[e];exact List.prefix_refl _
  ·have ih:=Sb l tick i n (by omega);rw[CD.eq_2];split
   ·exact ih
   ·split
    ·exact ih.trans (List.prefix_append _ _)
    ·exact ih
theorem aA6(l:List Ent)(tick:Int):Is mx 68 [.sl (l.map Ac),iI tick] (.fn 98 [] [.elt [.sl (l.map Ac)] 0,.elt [iI tick] 0]):=by refine MX F68 ?_;exact Lbn trivial
theorem J1{mv:List Nat}{l:List (Nat×Blk)}(h:SK mv l=true){q:Nat}(hq:q<5000)(b:Blk):Br l ((q,b)::l):=Pl (mv:=mv) (Vq h) _ fun m c hm=>by grind[Oj,Aa]
theorem VA{P:Program}{GG:List (Nat×List I)}{q:Nat}{b:Blk}{mk:List (Nat×Blk)}{get:St->Option (FuncId×List D)}{E0:Env}{mj:List (Nat×Blk)}{d:Option Nat}{K:St->Prop}{y:FuncId}{xs:List I}{mv:List Nat}{r0:I}(hy:MC P GG y (xs.map .i) mj mv (fun r s=>r=.i r0/\s=mk))(hd:∀s,d=some s->s<999)
  (ka:get ⟨E0,(q,b)::mj⟩=some (y,xs.map .i))(hj:SK mv mj=true)(hk:SK mv mk=true)(hn:mk.map (·.1)=mj.map (·.1))(hV:okV mv=true)(ho:T0 [(q,b)]=true)(ks:List Nat){E:List (Nat×D)}(hE:Ey E0 ks=E)(hl:(E.all fun p=>OL [(q,b)] p.2.nms)=true)
  (k:K (putO ⟨.l E,(q,b)::mk⟩ d (.i r0))):Ah P GG get ⟨E0,(q,b)::mj⟩ d K:=T3 (own:=[(q,b)]) hy hd ka hj hk hn hV ho ks hE hl k
theorem aA7(l:List Ent)(tick:Int)(hl:l.length<=1073741824)(hA:∀i,i<l.length->(l.getD i default).kind=3->(l.getD i default).tick<=tick->Is mx 72 [.agg (At (AZ l tick i)),.agg (AE (l.getD i default).change)] (Ln (Cn (AZ l tick i) (l.getD i default).change))):
  Np Tryz.prog (OE mx) 98 [.elt [.sl (l.map Ac)] 0,.elt [iI tick] 0] ((CD l tick l.length).map eCC):=by
 intro y m mv N go hV hm hN hgo qd hy;rw[List.length_map]at hN qd;have hk:∀k,SK mv (m k)=true:=fun k=>(hm k).1
 have g1:∀k q,q<5000->Aa (m k) q=none:=fun k q hq=>Oj (hk k) hq
 have g2:∀k q b,q<5000->SL q b (m k)=m k:=fun k q b hq=>Qa (hk k) hq b
 have g3:∀k q,q<5000->Cs (m k) q=m k:=fun k q hq=>Qb (hk k) hq
 have g8:∀k q b,q<5000->Ch (m k) q b=m k:=fun k q b hq=>R7 fun p hp=>by grind[P9]
 have g4:∀k,Br (m k) (m k)=True:=fun k=>eq_true (MI (hk k))
 have g5:∀k,Qo (m k) (m k)=true:=fun k=>Fo (hk k)
 refine MX F98 ?_ (hpin:=Qc (hk 0))
 (repeat' first|simp(disch:=omega)only[go_sem,simprocAttr,List.map_cons,List.map_nil,g1]|fail)
 refine BG [0,2,4,9,10] (by simp only[V0,MQ,reduceIte,Nat.reduceEqDiff];rfl) (fun i:Nat=>[(11,.i (iI i))]) (fun i=>(4,.cells ((At (AZ l tick i)).map .i))::m (CD l tick i).length)
  (fun i=>i<=l.length/\(CD l tick i).length<=N/\((CD l tick i).length=N->N=(CD l tick l.length).length)) (fun i=>l.length-i) 0 ⟨by omega,by simp[CD],fun h=>by
   by_cases jn:N<(CD l tick l.length).length
   ·have:=(qd jn).1;simp[CD]at h;omega
   ·omega⟩ ?_ ?_
 ·have g6:=J1 (hk 0) (q:=4) (by decide) (.cells ((At B3).map .i));have g7:=FX (k:=4) (b:=.cells ((At B3).map .i)) (g5 0);simp[V0,I9,L9,Ref.nm,CD,AZ,At]at g6 g7⊢;exact⟨g6,g7⟩
 rintro i ⟨hi,wn,hc2⟩;have vp:=(Sb l tick i l.length hi).length_le;by_cases ja:i<l.length
 ·have jr:=CD.eq_2 l tick i;have wd:=AZ.eq_2 l tick i;by_cases qh:(l.getD i default).kind=3
  ·by_cases ht:tick<(l.getD i default).tick
   ·rw[if_pos (.inr ht)]at jr wd
    (repeat' first|simp(disch:=omega)only[go_sem,simprocAttr,Cq ja,AV,eq_true qh,eq_true ht,ne_eq,not_true_eq_false,decide_true,decide_false,g1,g2,g3]|refine Ae ?_|fail)
    exact⟨i+1,by rw[jr];exact⟨by omega,wn,hc2⟩,by omega,rfl,⟨by rw[wd],by rw[jr];exact J1 (hk _) (by decide) _⟩,by first|rfl|exact FX (g5 _)|exact⟨rfl,FX (g5 _)⟩⟩
   ·rw[if_neg (by rintro(q|q);exact q qh;exact ht q)]at jr wd;have hA':=hA i ja qh (by omega);rw[Bw]at hA';have hpl2:=(Sb l tick (i+1) l.length (by omega)).length_le;have hpp:=Sb l tick (i+1) l.length (by omega);generalize Cn (AZ l tick i) (l.getD i default).change=r at jr wd hA';obtain⟨d,e⟩:=r;simp only[Ln]at hA' jr wd;by_cases he:e=0
    ·subst he;rw[if_pos rfl]at jr wd;have hx:((CD l tick l.length).map eCC).getD (CD l tick i).length []=eCC ((l.getD i default).change,d):=by rw[jr]at hpp;obtain⟨r,hr⟩:=hpp;grind
     have jd:(CD l tick (i+1)).length=(CD l tick i).length+1:=by grind
     have hcN:(CD l tick i).length<N:=by omega
     have y1:=hy _ hcN;rw[hx]at y1;simp only[eCC,Bw]at y1;generalize (CD l tick i).length=k at y1 hcN jd vp wn hc2
     (repeat' first|simp(disch:=omega)only[go_sem,simprocAttr,Cq ja,AV,eq_true qh,eq_false ht,ne_eq,not_true_eq_false,decide_true,decide_false,g1,g2,g3,g8]|refine Sx.s ?_ ?_<;>try(intro h;have h':=h;try simp only[HB]at h';try rewrite [h];try simp only[h])|refine Ab (hA') ?_|refine Ae ?_|fail)
     refine VA (mj:=m k) (mk:=m (k+1)) y1 (fun s e=>by cases e;decide) (by simp only[DZ,EQ,go_sem,reduceCtorEq,Nat.reduceEqDiff,List.map_cons,List.map_nil,List.append_nil,List.nil_append]) (hk _) (hk _) ((hm _).2.trans (hm _).2.symm) hV rfl [0,2,4,9,10,11] (by simp only[V0,MQ,reduceIte,Nat.reduceEqDiff];rfl) (by simp only[go_sem,List.all_cons,List.all_nil]) ?_;cases hgk:go k
     ·(repeat' first|simp(disch:=omega)only[go_sem,simprocAttr]|fail)
      have hkN:k+1=N:=by grind
      rw[hkN];exact Ld (own:=[(4,_)]) (hk N) rfl ⟨rfl,rfl⟩
     ·(repeat' first|simp(disch:=omega)only[go_sem,simprocAttr,List.nil_append]|fail)
      refine⟨i+1,⟨by omega,by rw[jd];omega,fun h=>?_⟩,by omega,rfl,⟨by rw[wd],by rw[jd];exact J1 (hk _) (by decide) _⟩,by first|rfl|exact FX (g5 _)|exact⟨rfl,FX (g5 _)⟩⟩;rcases Nat.lt_or_ge N (CD l tick l.length).length with q|q
      ·have h2:=(qd q).2;have h3:N-1=k:=by omega
       rw[h3,hgk]at h2;cases h2
      ·omega
    ·rw[if_neg he]at jr wd;refine A4 (cj hA' (cj (Cq ja) (cj @AV (cj qh (cj ht (cj he (cj g1 (cj g2 g3)))))))) ?_;exact⟨i+1,by rw[jr];exact⟨by omega,wn,hc2⟩,by omega,rfl,⟨by rw[wd],by rw[jr];exact J1 (hk _) (by decide) _⟩,by first|rfl|exact FX (g5 _)|exact⟨rfl,FX (g5 _)⟩⟩
  ·rw[if_pos (.inl qh)]at jr wd;refine By (cj (Cq ja) (cj @AV (cj qh (cj g1 (cj g2 g3))))) ?_;exact⟨i+1,by rw[jr];exact⟨by omega,wn,hc2⟩,by omega,rfl,⟨by rw[wd],by rw[jr];exact J1 (hk _) (by decide) _⟩,by first|rfl|exact FX (g5 _)|exact⟨rfl,FX (g5 _)⟩⟩
 ·have e:i=l.length:=by omega
  subst e;have:(CD l tick l.length).length=N:=by omega
  refine Hw (Ih ja) ?_;rw[this];exact Ld (own:=[(4,_)]) (hk N) rfl ⟨rfl,rfl⟩
theorem aA8(l:List Ent)(tick:Int)(hl:l.length<=1073741824)(hA:∀i,i<l.length->(l.getD i default).kind=3->(l.getD i default).tick<=tick->Is mx 72 [.agg (At (AZ l tick i)),.agg (AE (l.getD i default).change)] (Ln (Cn (AZ l tick i) (l.getD i default).change))):
  Is mx 23 [.sl (l.map Ac),iI tick] (.agg (At (atR l tick))):=by
 have u1:=aA6 (mx:=mx) l tick;have hs:=aA7 (mx:=mx) l tick hl hA;have hlast:atR l tick=MK (CD l tick l.length):=(cZ l tick l.length).symm;rw[hlast];generalize CD l tick l.length=xs at hs;refine MX F23 ?_;refine Dp u1 ?_;have hx:∀j,j<xs.length->(xs.map eCC).getD j []=eCC (xs.getD j default):=fun j hj=>by grind
 have jn:∀j,j<xs.length->MK (xs.take (j+1))=(xs.getD j default).2:=fun j hj=>by rw[Cg hj,cY]
 refine Rh (gf:=98) rfl (by kernel_rfl) hs [(4,5004)] [.any,.any,.any,.any,.ref (.loc 5004 0),.any,.any,.any,.any,.any,.any,.any,.any,.any] (fun j=>[(5004,.cells ((At (MK (xs.take j))).map .i))]) [] xs.length .none
  ⟨by simp,fun _=>by simp,fun h=>absurd rfl h⟩ rfl (fun j hj=>⟨rfl,rfl,rfl,rfl⟩) rfl (by simp[Iu,Aj,CW,J8,Qs,J6,sw]) rfl (by simp[J5,MR,J8,J6,sw,Br,Aa,At,MK]) (fun j hj=>⟨by rw[hx j hj];rfl,?_⟩) ?_
 ·rw[hx j hj,ite_self,jn j hj];unfold eCC;simp only[Fm,Eg,Nat.reduceAdd];refine Man (cj @EA.eq_1 @lv.eq_1) ?_
  all_goals intros
  all_goals(refine⟨rfl,[],?_⟩;simp(disch:=omega)only[go_sem])
 ·refine⟨by simp[J5,MR,J6,sw,Bj,ren,Aa],by simp[J5,MR,J6,sw,ren,Aa],rfl,?_⟩;show FV 0 _ .normal _;rw[List.take_length]
  (repeat' first|simp(disch:=omega)only[go_sem,simprocAttr,J5,MR,J8,J6,sw,Bj,ren,List.map_cons,List.map_nil]|refine Sz.s ?_|fail)
  all_goals trace_state
end
section
theorem VB{P:Program}{GG:List (Nat×List I)}{f:FuncId}{nm k:Nat}{os:List O}{st:St}{d:Option Nat}{K:St->Prop}{ds:List D}{sto:List (Nat×Blk)}{mv:List Nat}{R:D->List (Nat×Blk)->Prop}(h:MC P GG f ds sto mv R)(wu:os.map (Lu GG nm k st)=ds)(jl:(Aa st.sto nm).isSome=true)(h1:Br sto st.sto)
  (h2:(Qo sto sto&&(ds.all fun x=>OL sto x.nms)&&(mv.all fun m=>Nat.blt m 5000||Nat.ble 5500 m))=true)(hk:∀r sto',R r sto'->((Bj (d.getD 999) sto').map (·.1)).all (fun nm=>(Aa sto nm).isSome||((Aa st.sto nm).isNone&&Nat.blt nm 5000))=true/\
   (sto.map (·.1)).all (fun nm=>(Aa sto' nm).isNone||ren (d.getD 999) nm==nm)=true/\K (putO (DN st sto sto' mv (d.getD 999)) d (Df (d.getD 999) r))):Ah P GG (ON GG f nm k os) st d K:=by
 subst wu;rw[Bool.and_eq_true,Bool.and_eq_true]at h2;unfold Ah;refine⟨[],?_⟩;have e:ON GG f nm k os (frzNs [] st)=some (f,os.map (Lu GG nm k st)):=if_pos jl;rw[e];refine .inl ⟨sto,mv,R,h,h1,h2.1.1,h2.1.2,h2.2,fun r s hr=>?_⟩;obtain⟨k1,k2,k3⟩:=hk r s hr;rw[List.all_eq_true]at k1 k2;refine⟨fun nm hm=>?_,fun nm hm hs=>?_,k3⟩
 ·have:=k1 nm hm;rw[Bool.or_eq_true,Bool.and_eq_true]at this;rcases this with e|⟨e1,e2⟩
  ·exact .inl e
  ·exact .inr ⟨by show Aa st.sto nm=none;simpa using e1,by simpa using e2⟩
 ·have:=k2 nm hm;rw[Bool.or_eq_true]at this;rcases this with e|e
  ·cases hg:Aa s nm<;>simp[hg]at e hs
  ·simpa using e
end
section

end
section
theorem da:∀(l:List Fac) (m:List (AT×Int)) (s:AT),(Al (EC l m) s).getD 0=(Al m s).getD 0+Dj l s
 |[],m,s=>by simp[EC,Dj]
 |f::r,m,s=>by rw[EC,da r,Rg,Dj];grind
theorem db:∀(l:List Fac) (m:List (AT×Int)) (s:AT),s∈(EC l m).map (·.1)↔s∈m.map (·.1)\/∃f∈l,f.name=s
 |[],m,s=>by simp[EC]
 |f::r,m,s=>by rw[EC,db r,KL];grind
theorem dd:∀(l:List Fac) (m:List (AT×Int)),(m.map (·.1)).Nodup->((EC l m).map (·.1)).Nodup
 |[],m,h=>h
 |f::r,m,h=>by refine dd r _ ?_;rw[KL];grind
def ML(a b:AT):Prop:=Op.bytesLess a b=true
theorem aA9:SLt ML:=⟨P3,R0⟩
theorem aAa{l:List AT}(h:l.Nodup):(CK l).Pairwise ML:=by
 have h1:=Uu l;have h2:(CK l).Nodup:=(List.mergeSort_perm l _).nodup_iff.2 h;refine(List.pairwise_and_iff.2 ⟨h1,h2⟩).imp fun{a b} ⟨h3,h4⟩=>?_
 rcases Vh a b with q|q|q
 ·exact q
 ·exact absurd q h4
 ·rw[P1,decide_eq_true_eq]at q;exact absurd q (List.not_lt.2 h3)
theorem de(s:AT):B6 [] s=[s]:=by rfl
theorem df(a:AT)(r:List AT)(s:AT):B6 (a::r) s=if Op.bytesLess a s=true then a::B6 r s else if a=s then a::r else s::a::r:=by unfold B6 HW;rw[List.takeWhile_cons];grind
theorem Ou(s x:AT):∀l:List AT,x∈B6 l s↔x=s\/x∈l
 |[]=>by simp[de]
 |a::r=>by have ih:=Ou s x r;grind[df]
theorem dh(s:AT):∀l:List AT,l.Pairwise ML->(B6 l s).Pairwise ML
 |[],_=>by rw[de];simp
 |a::r,h=>by
  obtain⟨h1,h2⟩:=List.pairwise_cons.1 h;have ih:=dh s r h2;rw[df];split
  ·rename_i hl;refine List.pairwise_cons.2 ⟨fun x hx=>?_,ih⟩;rcases(Ou s x r).1 hx with e|e
   ·rw[e];exact hl
   ·exact h1 x e
  ·rename_i hl;split
   ·exact h
   ·rename_i ji;have hs:ML s a:=by
     rcases Vh a s with q|q|q
     ·exact absurd q hl
     ·exact absurd q ji
     ·exact q
    refine List.pairwise_cons.2 ⟨fun x hx=>?_,h⟩;rcases List.mem_cons.1 hx with e|e
    ·rw[e];exact hs
    ·exact R0 _ _ _ hs (h1 x e)
theorem di:∀(l:List Fac) (out:List AT),out.Pairwise ML->(Em out l).Pairwise ML
 |[],_,h=>h
 |f::r,out,h=>di r _ (dh f.name out h)
theorem dj:∀(l:List Fac) (out:List AT) (x:AT),x∈Em out l↔x∈out\/∃f∈l,f.name=x
 |[],out,x=>by simp[Em]
 |f::r,out,x=>by rw[Em,dj r,Ou];grind
theorem aAb(l:List Fac):CK ((EC l []).map (·.1))=Em [] l:=by
 refine Lb aA9 (aAa (dd l [] (by simp))) (di l [] List.Pairwise.nil) fun x=>?_
 have h:=(List.mergeSort_perm ((EC l []).map (·.1)) (fun x y=>decide (x<=y))).mem_iff (a:=x);unfold CK;simp[db,dj]
theorem aAc(n:Int):(!decide (Cv n<=1152921504606846976)||Gc n)=Gc n:=by
 cases h:Gc n
 ·have:Cv n<=1152921504606846976:=by unfold Gc at h;simp only[decide_eq_false_iff_not]at h;unfold Cv;split<;>omega
  grind
 ·simp
theorem dn(l:List Fac):∀(ns:List AT) (u:List Fac),GB (EC l []) ns u=Ge l ns u
 |[],u=>by simp only[GB,Ge];grind
 |s::r,u=>by
  have hg:(Al (EC l []) s).getD 0=Dj l s:=by rw[da];simp[Al]
  simp only[GB,Ge,JJ,hg,aAc,dn l r];grind
theorem dq(l:List Fac):HY l=IL l:=by unfold HY IL;rw[dn,aAb]
theorem dt:∀(u:List Fac) (p:Option AT),uc p (Dk u)=uc p u
 |[],_=>rfl
 |f::r,p=>by have ih:=dt r (some f.name);unfold Dk at ih⊢;simp only[List.map_cons,uc,ih];grind
theorem aAd(u:List Fac):BJ (Dk u)=BJ u:=by unfold BJ;rw[dt];simp[Dk]
theorem aAe(a b:List Fac):En a b 1=Fy a b:=by unfold En Fy;simp[dq]
theorem aAf(a b:List Fac):En a b (-1)=Hi a b:=by
 unfold En Hi Fy;rw[dq,aAd];have:(b.map fun f:Fac=>(⟨f.name,-1*f.exp⟩:Fac))=Dk b:=List.map_congr_left fun f _=>by simp
 grind
theorem du(a b:Xpr):KR a b=Fz a b:=by
 have hw:(a.win==b.win)=(a.win.kind==b.win.kind&&a.win.size==b.win.size):=by rw[Bool.eq_iff_iff];cases a.win;cases b.win;simp
 have hv:(a.val==b.val)=CJ a.val b.val:=by rw[ZE,Bool.eq_iff_iff];simp
 unfold KR Fz;grind
theorem aAg(w:Win):Pt w=PL w:=by unfold Pt PL;rw[Bool.eq_iff_iff];split<;>simp<;>grind
theorem aAh(x:Xpr)(i:Bool):(IE x i&&Mi x)=GK x i:=by
 unfold IE Mi GK;rw[du];by_cases h1:x.kind=1
 ·simp only[h1,if_true,Rl,PK,Gz,RG]
 ·by_cases h2:x.kind=2
  ·simp[h2,Gz,NV,Hk,Bool.and_assoc]
  ·by_cases h3:x.kind=3
   ·simp[h3,Gz,NV,Hk,Bool.and_assoc]
   ·by_cases h4:x.kind=4
    ·simp[h4,Gz,NV,Hk,Bool.and_assoc]
    ·by_cases h5:x.kind=5
     ·have hm:Ps x.op=JK x.op:=by
       unfold Ps JK;by_cases q:x.op=JG
       ·rw[if_pos q,if_neg (by rw[q];decide),if_pos q]
       all_goals grind
      have hl:Pr x.op=if JK x.op<=1 then JK x.op else 1:=by unfold Pr JK;grind
      simp only[h5,Rm,PM,Gz,Hk,aAg,<-hl,hm];grind
     ·by_cases h6:x.kind=6
      ·simp[h6,Gz,KX,Bool.and_comm]
      ·by_cases h7:x.kind=7
       ·simp[h7,Gz,KX,Bool.and_comm]
       ·have hb:(x.kind=8\/x.kind=9)->Fz x (Gz x)=(KX x&&decide (x.op=[])):=fun h=>by
         have:Gz x=.mk x.kind [] [] [] F1 [] 0 Fv []:=by unfold Gz;grind
         rw[this];simp only[KX,Fz,Xpr.kind,Xpr.op,Xpr.name,Xpr.table,Xpr.val,Xpr.unit,Xpr.param,Xpr.win];grind
        grind
theorem VC(l:List Xpr)(i:Bool):formRs l i=l.all fun x=>FA x i:=by
 induction l with
 |nil=>rfl
 |cons x r ih=>simp[formRs,ih]
theorem aAi{a:Xpr}{i:Bool}(h:FA a i=true):KR a Fw=gh a Fw:=by
 have hE:gh a Fw=(!(!Fz a Fw||decide ((a.args.length:Int)≠Fw.args.length))&&eqL gh a.args Fw.args):=by rw[Px];simp only[Fz,Uq ZD];grind
 rw[du,hE];cases hf:Fz a Fw
 ·rfl
 ·have hk:a.kind=1:=by simp only[Fz,Bool.and_eq_true,decide_eq_true_eq]at hf;have:Fw.kind=1:=rfl;grind
  rw[PN]at h;simp only[Bool.and_eq_true,decide_eq_true_eq]at h;have hl:=h.1.2;rw[hk]at hl;have hl0:a.args=[]:=by have:GJ 1=0:=rfl;rw[this]at hl;exact List.length_eq_zero_iff.1 (by omega)
  rw[hl0];rfl
theorem aAj:∀(m:Nat) (x:Xpr) (i:Bool),Bs x<=m->HS x i=FA x i:=by
 intro m
 induction m with
 |zero=>intro x _ h;have:=Fs x;omega
 |succ m ih=>
  intro x i hm;have j0:=Ej x;have jz:properXs x.args (i||decide (x.kind=5))=formRs x.args (E5 x i):=by
   rw[Rn,VC];unfold E5;rw[Bool.eq_iff_iff,List.all_eq_true,List.all_eq_true];have key:∀y∈x.args,HS y (i||decide (x.kind=5))=FA y (i||decide (x.kind=5)):=fun y hy=>by obtain⟨k,hk,rfl⟩:=List.getElem_of_mem hy;exact ih _ _ (by have:=Hd x.args k hk;have:=Fr x.args (k+1);omega)
   exact⟨fun h y hy=>by rw[<-key y hy];exact h y hy,fun h y hy=>by rw[key y hy];exact h y hy⟩
  rw[Mj,PN,jz];have hN:=aAh x i;have hM:JF x.kind=GJ x.kind:=rfl;rw[hN,hM];cases hn:GK x i&&decide ((x.args.length:Int)=GJ x.kind)
  ·rfl
  ·cases hA:formRs x.args (E5 x i)
   ·rfl
   ·simp only[Bool.true_and];unfold NW;by_cases h5:x.kind=5
    ·by_cases hc:x.op=HR
     ·simp only[Bool.and_eq_true,decide_eq_true_eq]at hn;have hl:=hn.2;have h0:0<x.args.length:=by rw[h5]at hl;have:GJ 5=2:=rfl;omega
      rw[VC,List.all_eq_true]at hA;rw[aAi (hA _ (AA h0))];simp[h5,hc]
     ·simp[h5,hc]
    ·simp[h5]
theorem dw(x:Xpr):IF x=FB x:=by unfold IF FB;rw[aAj _ x false (Nat.le_refl _)];omega
theorem VD{l:List AT}{x:AT}(h:BA l x=true):x∈l:=by unfold BA at h;grind
theorem dx(a b:Typ):Gy a b=KZ a b:=by
 unfold Gy KZ KY;by_cases h1:a.kind≠b.kind\/a.of≠b.of
 ·rw[if_pos h1];simp[h1]
 ·rw[if_neg h1,if_neg h1];by_cases h2:a.unit=b.unit
  ·have:a=b:=by cases a;cases b;simp at h1 h2;simp[h1,h2]
   subst this;simp
  ·simp[h2]
theorem aAk{op:AT}(h:BA IA op=true)(a b:Typ):NQ op a b=NX op a b:=by
 have hm:=VD h;unfold NQ NX;by_cases hb:b.kind≠1
 ·rw[if_pos hb,if_pos hb]
 ·rw[if_neg hb,if_neg hb];simp only[IA,List.mem_cons,List.not_mem_nil,or_false]at hm;cases hn:C7 a<;>by_cases h4:a.kind=4<;>rcases hm with e|e|e|e|e|e|e|e|e|e<;>subst e<;>
   simp[BA,UL,UM,av,NO,JG,He,Rz,RA,HR,PC,Uy,Uz,h4]
theorem aAl{op:AT}(h:BA JC op=true)(a:Typ):NR op a=unR op a:=by have hm:=VD h;unfold NR unR;simp only[JC,List.mem_cons,List.not_mem_nil,or_false]at hm;cases hn:C7 a<;>by_cases h1:a.kind=1<;>rcases hm with e|e|e<;>subst e<;>simp[NP,UA,PD,h1]
theorem aAm{op:AT}(h:BA IB op=true)(a b:Typ):E3 op a b=NZ op a b:=by
 have hm:=VD h;have hk:(C7 a&&C7 b)=true->max a.kind b.kind=if a.kind=2/\b.kind=2 then 2 else 3:=fun q=>by simp only[Bool.and_eq_true,C7,Bool.or_eq_true,beq_iff_eq]at q;omega
 unfold E3 NZ;simp only[aAe,aAf,NY,UO,UP,PO,RK,UN,sOr];simp only[IB,List.mem_cons,List.not_mem_nil,or_false]at hm;grind
theorem aAn{x:Xpr}{i:Bool}(h:FA x i=true):GK x i=true/\formRs x.args (E5 x i)=true:=by rw[PN]at h;grind
theorem dy{c:Cat}{ent entR:AT}{tO:Option Tbl}{tR:Tbl}{x:Xpr}{i:Bool}(l:List Typ)(h:GK x i=true)(kq:(i=true/\tO=some tR)\/(i=false/\entR=ent)):HZ c ent tO x l=opR c entR tR x l:=by
 have hk:=aD h;unfold GK at h;unfold HZ opR;by_cases h1:x.kind=1
 ·simp[h1]
 rw[if_neg h1]at h;by_cases h2:x.kind=2
 ·rw[if_pos h2,Bool.and_eq_true]at h;rcases kq with⟨_,e⟩|⟨e,_⟩
  ·simp[h2,e]
  ·rw[e]at h;simp at h
 rw[if_neg h2]at h;by_cases h3:x.kind=3
 ·rw[if_pos (.inl h3),Bool.and_eq_true]at h;rcases kq with⟨e,_⟩|⟨_,e⟩
  ·rw[e]at h;simp at h
  ·simp[h3,e]
 by_cases h4:x.kind=4
 ·simp[h4]
 rw[if_neg (by omega)]at h;by_cases h5:x.kind=5
 ·rw[if_pos h5,Bool.and_eq_true]at h;have ha:=h.2;unfold PM at ha;simp only[Bool.and_eq_true]at ha;simp only[h5,Int.reduceEq,if_true,if_false];exact aAk ha.1.1.1.1.1 _ _
 rw[if_neg h5]at h;by_cases h6:x.kind=6
 ·rw[if_pos h6,Bool.and_eq_true]at h;simp only[h6,Int.reduceEq,if_true,if_false];exact aAl h.2 _
 rw[if_neg h6]at h;by_cases h7:x.kind=7
 ·rw[if_pos h7,Bool.and_eq_true]at h;simp only[h7,Int.reduceEq,if_true,if_false];exact aAm h.2 _ _
 by_cases h8:x.kind=8
 ·simp[h8,dx]
 ·have h9:x.kind=9:=by omega
  simp[h9,dx]
theorem aAo(c:Cat):∀(m:Nat) (x:Xpr) (i:Bool) (ent entR:AT) (tO:Option Tbl) (tR:Tbl),Bs x<=m->FA x i=true->((i=true/\tO=some tR)\/(i=false/\entR=ent))->D4 c ent tO x=DT c entR tR x:=by
 intro m
 induction m with
 |zero=>intro x _ _ _ _ _ h;have:=Fs x;omega
 |succ m ih=>
  intro x i ent entR tO tR hm hf kq;have j0:=Ej x;obtain⟨hn,ha⟩:=aAn hf;rw[VC,List.all_eq_true]at ha;have hl:∀(ent entR:AT) (tO:Option Tbl) (tR:Tbl),((E5 x i=true/\tO=some tR)\/(E5 x i=false/\entR=ent))->∀l:List Xpr,(∀y∈l,y∈x.args)->inferXs c ent tO l=inferRs c entR tR l:=by
   intro ent entR tO tR hr l
   induction l with
   |nil=>intro _;rfl
   |cons y r ihl=>
    intro hy;have hy0:=hy y List.mem_cons_self;have hsy:Bs y<=m:=by obtain⟨k,hk,rfl⟩:=List.getElem_of_mem hy0;have:=Hd x.args k hk;have:=Fr x.args (k+1);omega
    rw[inferXs,inferRs,ih y _ ent entR tO tR hsy (ha y hy0) hr,ihl fun z hz=>hy z (List.mem_cons_of_mem _ hz)];split
    ·rfl
    ·cases inferRs c entR tR r<;>rfl
  rw[RB,RL];by_cases h5:x.kind=5
  ·have hi:i=false:=by unfold GK at hn;rw[if_neg (by omega),if_neg (by omega),if_neg (by omega),if_pos h5,Bool.and_eq_true]at hn;simpa using hn.1
   have he:entR=ent:=by
    rcases kq with⟨e,_⟩|⟨_,e⟩
    ·rw[hi]at e;cases e
    ·exact e
   subst he;unfold inT JL K0 IP H0 D5;simp only[h5,if_true];cases qk:c.tables.find? (fun t=>decide (t.name=x.table))with
   |none=>simp
   |some t=>
    simp only;by_cases hte:t.entity≠entR
    ·simp[hte]
    ·rw[if_neg hte,if_neg hte];simp only[ne_eq,not_true_eq_false,if_false];rw[hl entR [] (some t) t (.inl ⟨by unfold E5;simp[h5],rfl⟩) x.args fun _ h=>h];cases inferRs c [] t x.args with
     |error e=>rfl
     |ok l=>exact dy l hn kq
  ·unfold inT JL K0 IP;simp only[h5,if_false,ne_eq,not_true_eq_false];have hia:E5 x i=i:=by unfold E5;simp[h5]
   rw[hl ent entR tO tR (by rw[hia];exact kq) x.args fun _ h=>h];cases inferRs c entR tR x.args with
   |error e=>rfl
   |ok l=>exact dy l hn kq
theorem aAp(c:Cat)(ent:AT)(x:Xpr):Hh c ent x=E6 c ent x:=by
 unfold Hh E6;rw[dw];by_cases h:FB x≠0
 ·rw[if_pos h,if_pos h]
 ·rw[if_neg h,if_neg h];exact aAo c _ x false ent ent none BB (Nat.le_refl _) (aF (by omega)) (.inr ⟨rfl,rfl⟩)
theorem aAq(c:Cat)(f:Ftr):RD c f=DU c f:=by
 unfold RD DU;have:∀a b:Typ,(Gy a b).2=KY a b:=fun a b=>by unfold Gy KY;grind
 rw[aAp,this,Hk,Hk,RG]
end
section
theorem dz:∀(l:List Ftr) (out:List AT) (x:AT),x∈GN l out↔x∈out\/∃f∈l,f.name=x
 |[],out,x=>by simp[GN]
 |f::r,out,x=>by have h:=dz r (B6 out f.name) x;unfold GN at h⊢;grind[Ou]
theorem dA(c:Cat)(x:AT):x∈AY c↔∃f∈c.features,f.name=x:=by unfold AY;rw[dz];simp
theorem dC{l:List Ftr}{x:AT}:(BX l x).isSome=true↔∃f∈l,f.name=x:=by unfold BX;simp
theorem aAr{c:Cat}{a b:AT}(h:b∈Gg c a):b∈AY c:=by unfold Gg at h;grind[dA,dC]
theorem Sc{α:Type}[Inhabited α]{l:List α}{x:α}(h:x∈l):∃k,k<l.length/\l.getD k default=x:=by obtain⟨k,hk,e⟩:=List.getElem_of_mem h;exact⟨k,hk,by rw[AS hk];exact e⟩
theorem VF{c:Cat}{i k:Nat}(hi:i<(AY c).length):k∈(Wv c (AY c)).getD i []↔k<(AY c).length/\(AY c).getD k default∈Gg c ((AY c).getD i default):=by
 have e:(Wv c (AY c)).getD i []=Mz (AY c) (Gg c ((AY c).getD i default)):=by unfold Wv;grind
 rw[e];unfold Mz BA;simp
def EJ(E:AT->AT->Prop):Nat->AT->AT->Prop
 |0,a,b=>E a b
 |n+1,a,b=>∃m,E a m/\EJ E n m b
def Ov(c:Cat)(a b:AT):Prop:=b∈Gg c a
theorem dD{c:Cat}{j:Nat}(hj:j<(AY c).length):∀(n i:Nat),i<(AY c).length->(Bb (Wv c (AY c)) j).getD i 0<=n->n<1000->∃n,EJ (Ov c) n ((AY c).getD i default) ((AY c).getD j default)
 |0,i,hi,h,_=>by have:=(N5 (Wv c (AY c)) j i (by rw[K3];unfold Wv;simpa using hi)).1;omega
 |n+1,i,hi,h,h9=>by
  have hw:=(N5 (Wv c (AY c)) j i (by rw[K3];unfold Wv;simpa using hi)).2;rcases hw with hw|⟨t,ht,hv⟩
  ·omega
  ·obtain⟨h1,h2⟩:=(VF hi).1 ht;unfold gk at hv;split at hv
   ·rename_i e;subst e;exact⟨0,h2⟩
   ·obtain⟨k,hk⟩:=dD hj n t h1 (by omega) (by omega);exact⟨k+1,_,h2,hk⟩
theorem dE(to:List (List Nat)):∀n,(Cw to n).1<0->∀i,i<n->1000<=(Bb to i).getD i 0
 |0,_,i,hi=>by omega
 |n+1,h,i,hi=>by
  have hb:=RP to n;simp only[Cw]at h;split at h
  ·simp only at h;omega
  ·rename_i jn;have h2:(Cw to n).2=1000:=by
    rcases hb with⟨_,e⟩|⟨k,e,_⟩
    ·exact e
    ·omega
   by_cases e:i=n
   ·subst e;omega
   ·exact dE to n h i (by omega)
theorem aAs{c:Cat}(h:H4 c≠[]):∃a∈AY c,∃n,EJ (Ov c) n a a:=by
 unfold H4 at h;rw[ne_eq,bc]at h;rcases RP (Wv c (AY c)) (AY c).length with⟨e,_⟩|⟨i,h1,h2,h3,h4⟩
 all_goals grind[dD]
end
section
abbrev SM:=List (AT×Bool)
def Wx(m:SM):List (I×I):=m.map fun p=>(.str p.1,.bool p.2)
def inM(m:SM)(s:AT):Bool:=(Al m s).getD false
theorem Sd(m:SM)(s:AT):C0 (Wx m) (.str s) (.bool false) false=.bool (inM m s):=NC (eK:=I.str) (f:=I.bool) JA m s false
theorem Qg(m:SM)(s:AT):Ee (Wx m) (.str s) (.bool true)=Wx (AO m s true):=NB (eK:=I.str) (f:=I.bool) JA m s true
theorem dF(m:SM):(∀e∈Wx m,AB [.s] e.1=true)=True:=eq_true fun e he=>by obtain⟨p,_,rfl⟩:=List.mem_map.1 he;rfl
mutual
def Dz:Xpr->SM×SM->SM×SM
 |.mk k _ n t _ _ _ _ a,acc=>dirMs a (if k=3\/k=4 then AO acc.1 n true else acc.1,if k=5 then AO acc.2 t true else acc.2)
def dirMs:List Xpr->SM×SM->SM×SM
 |[],acc=>acc
 |x::r,acc=>dirMs r (Dz x acc)
end
def gm(x:Xpr)(acc:SM×SM):SM×SM:=(if x.kind=3\/x.kind=4 then AO acc.1 x.name true else acc.1,if x.kind=5 then AO acc.2 x.table true else acc.2)
theorem aAt(x:Xpr)(acc:SM×SM):Dz x acc=dirMs x.args (gm x acc):=by cases x;rfl
theorem aAu(l:List Xpr)(i:Nat)(h:i<l.length)(acc:SM×SM):dirMs (l.take (i+1)) acc=Dz (l.getD i default) (dirMs (l.take i) acc):=by
 induction l generalizing i acc with
 |nil=>simp at h
 |cons a r ih=>
  cases i with
  |zero=>simp[dirMs]
  |succ i=>grind[dirMs]
theorem aAv:∀(m:Nat) (x:Xpr) (acc:SM×SM),Bs x<=m->bX x<=1073741824->MC Tryz.prog (OE mx) 247 [.i (.agg (eE x)),.ref (.mp 5000),.ref (.mp 5001)] [(5000,.map [.s] (Wx acc.1)),(5001,.map [.s] (Wx acc.2))] []
  (fun r s=>r=.i (.tup [])/\s=[(5000,.map [.s] (Wx (Dz x acc).1)),(5001,.map [.s] (Wx (Dz x acc).2))]):=by
 intro m
 induction m with
 |zero=>intro x acc h;have:=Fs x;omega
 |succ m ih=>
  intro x acc hm hb;have j0:=Ej x;have hla:=Mh x;rw[aAt];refine MX se ?_;refine Man @HP ?_;refine Dl.cutS [1,2,3] (by simp only[V0,MQ,reduceIte,Nat.reduceEqDiff];rfl) [] [(5000,.map [.s] (Wx (gm x acc).1)),(5001,.map [.s] (Wx (gm x acc).2))] True ?_ (fun _=>?_)
  ·by_cases h3:x.kind=3
   ·have e:gm x acc=(AO acc.1 x.name true,acc.2):=by simp[gm,h3]
    rw[e];exact Hw (cj h3 @Qg) trivial
   ·by_cases h4:x.kind=4
    ·have e:gm x acc=(AO acc.1 x.name true,acc.2):=by simp[gm,h4]
     rw[e];exact Hw (cj h4 @Qg) trivial
    ·by_cases h5:x.kind=5
     ·have e:gm x acc=(acc.1,AO acc.2 x.table true):=by simp[gm,h5]
      rw[e];exact Hw (cj h5 @Qg) trivial
     ·have e:gm x acc=acc:=by simp[gm,h3,h4,h5]
      rw[e];exact Hw (cj h3 (cj h4 h5)) trivial
  ·generalize gm x acc=a0;refine OG ?_;refine lT [1,2,22,23] (fun i:Nat=>[(24,.i (iI i))]) (fun i=>[(5000,.map [.s] (Wx (dirMs (x.args.take i) a0).1)),(5001,.map [.s] (Wx (dirMs (x.args.take i) a0).2))]) (fun i=>i<=x.args.length) (fun i=>x.args.length-i) 0 ?_;intro i hi;by_cases ja:i<x.args.length
   ·have jh:=aAu x.args i ja a0;have i1:=ih (x.args.getD i default) (dirMs (x.args.take i) a0) (by have:=Hd x.args i ja;have:=Fr x.args (i+1);rw[AS ja];omega) (by have:=Fu (AA ja);omega);rw[HP]at i1
    (repeat' first|simp(disch:=omega)only[go_sem,simprocAttr,Cq ja,HP]|(first|refine HO (i1) ?_ (fun r sto' hR=>?_)|refine EW (i1) ?_ (fun r sto' hR=>?_);(focus(first|rfl|(simp only[go_sem,simprocAttr,Cq ja,HP];done)));first|(obtain⟨rfl,rfl⟩:=hR)|(obtain⟨_,(rfl|rfl),rfl,rfl⟩:=hR))|refine Ae ?_|fail)
    exact⟨i+1,by omega,by omega,rfl,by rw[jh],by rw[jh]⟩
   ·have e:i=x.args.length:=by omega
    subst e;refine Hw (Ih ja) ?_;rw[List.take_length];refine EX [(5000,5000),(5001,5001)] ?_;simp[YI]
end
section
def EK(ks:List AT):Type:={p:List AT//∃rest,(p++rest).Perm ks}
def GV(ks:List AT):EK ks:=⟨[],ks,by simp⟩
def Ow(ks:List AT)(i:EK ks)(x:List I)(j:EK ks):Prop:=∃s,x=[.str s]/\j.1=i.1++[s]
def I3(ks:List AT)(i:EK ks):Prop:=i.1.Perm ks
theorem EK.len{ks:List AT}(i:EK ks):i.1.length<=ks.length:=by obtain⟨p,rest,h⟩:=i;have:=h.length_eq;grind
theorem EK.ext{ks:List AT}{i j:EK ks}(h:i.1=j.1):i=j:=Subtype.ext h
theorem aAw(gf:Nat)(caps:List I)(ks:List AT)(k8:De Tryz.prog gf=true)(hs:Jx Tryz.prog (OE mx) gf caps (EK ks) (GV ks) (Ow ks) (I3 ks))(hl:ks.length<=1000000):
  MC Tryz.prog (OE mx) 282 [.ref (.sl 5500 1 0 0),.i (.fn gf [] caps)] [(5500,.rows 9 1 [])] [5500]
   (fun r s=>∃p:List AT,p.Perm ks/\r=.ref (.sl 5500 1 0 p.length)/\s=[(5500,.rows 9 1 (p.map fun s=>[.str s]))]):=by
 refine MX py ?_
 (repeat' first|simp(disch:=omega)only[go_sem,simprocAttr]|fail)
 refine m6 (gf:=gf) rfl k8 hs [(2,5002)] [.any,.any,.ref (.loc 5002 0),.any,.any,.any,.any,.any,.any,.any,.any,.any,.any] (fun i=>[(5002,.cells [.ref (.sl 5500 1 0 i.1.length)]),(5500,.rows 9 1 (i.1.map fun s=>[.str s]))]) [5500] (fun _=>.none)
  rfl rfl (fun i=>⟨rfl,rfl,rfl,rfl⟩) rfl (by simp[Iu,Aj,CW,J8,Qs,J6,sw]) rfl (by simp[J5,MR,J8,Qs,J6,sw,Br,Aa,GV]) (fun i x j hx _=>?_) (fun i hi=>?_)
 ·obtain⟨s,rfl,hj⟩:=hx;have xi:=i.len;have w6:=JV (f:=fun s:AT=>[I.str s]) (k:=1) (fun _=>rfl) (fun _=>rfl) s;rw[hj];refine⟨rfl,?_⟩;generalize i.1=acc at xi;have ke:List.take acc.length (acc.map fun s=>[I.str s])=acc.map fun s=>[.str s]:=List.take_of_length_le (by simp)
  have jj:(acc.map fun s:AT=>[I.str s]).length=acc.length:=by simp
  simp only[Fm,Eg,Nat.reduceAdd]
  (repeat' first|simp(disch:=omega)only[go_sem,simprocAttr,EA,lv,w6.1,w6.2,Nat.sub_zero,ke,jj]|(refine And.intro ?_ ?_;focus omega))
  all_goals(refine⟨rfl,[],?_⟩;simp(disch:=omega)only[go_sem,Nat.reduceEqDiff];try simp)
 ·have hp:i.1.Perm ks:=by
   rcases hi with hi|hi
   ·exact absurd rfl hi
   ·exact hi
  refine⟨by simp[J5,MR,J8,Qs,J6,sw,Bj,ren,Aa],by simp[J5,MR,J8,Qs,J6,sw,ren,Aa],rfl,?_⟩;show FV 0 _ .normal _
  (repeat' first|simp(disch:=omega)only[go_sem,simprocAttr,J5,MR,J8,Qs,J6,sw,Bj,ren]|fail)
  refine EX [(5500,5500)] ?_;exact⟨i.1,hp,by simp[YI]⟩
theorem aAx(nm:Nat)(hn:nm<5000)(gf:Nat)(caps:List I)(ks:List AT)(k8:De Tryz.prog gf=true)(hs:Jx Tryz.prog (OE mx) gf caps (EK ks) (GV ks) (Ow ks) (I3 ks))(hl:ks.length<=1000000):
  MC Tryz.prog (OE mx) 282 [.ref (.sl nm 1 0 0),.i (.fn gf [] caps)] [(nm,.rows 9 1 [])] [nm]
   (fun r s=>∃p:List AT,p.Perm ks/\r=.ref (.sl nm 1 0 p.length)/\s=[(nm,.rows 9 1 (p.map fun s=>[.str s]))]):=by
 have e1:MS [(5500,nm)] 5500=nm:=by rfl
 have h:=(MC.as [(5500,nm)] (aAw (mx:=mx) gf caps ks k8 hs hl)).mono (R':=fun r s=>∃p:List AT,p.Perm ks/\r=.ref (.sl nm 1 0 p.length)/\s=[(nm,.rows 9 1 (p.map fun s=>[.str s]))]) (by
  rintro r s ⟨p,hp,h1,h2⟩;have k:=Ex (f:=J6 [(5500,nm)]) (g:=MS [(5500,nm)]) (Cb _) r;have k2:=FQ (f:=J6 [(5500,nm)]) (g:=MS [(5500,nm)]) (Cb _) s;rw[h1]at k;rw[h2]at k2;refine⟨p,hp,?_,?_⟩
  ·rw[<-k];simp only[J8,Qs,e1]
  ·rw[<-k2];simp only[J5,MR,e1])
 simp only[List.map_cons,List.map_nil,J8,Qs,J5,MR,e1]at h;exact h
theorem aAy(gf:Nat)(caps:List I)(ks:List AT)(k8:De Tryz.prog gf=true)(hs:Jx Tryz.prog (OE mx) gf caps (EK ks) (GV ks) (Ow ks) (I3 ks))(hl:ks.length<=1000000):
  MC Tryz.prog (OE mx) 250 [.i (.fn gf [] caps)] [] [] (fun r s=>∃p:List AT,p.Perm ks/\r=.ref (.sl 6000 1 0 p.length)/\s=[(6000,.rows 9 1 (p.map fun s=>[.str s]))]):=by
 have m1:=(aAx (mx:=mx) 2004 (by decide) gf caps ks k8 hs hl).arrIn [];refine MX qL ?_;refine OG ?_;refine VB m1 rfl rfl (by simp[Br,Aa]) (by simp[Qo,OL,Blk.nms,D.nms,Ref.nm,Aa]) (fun r sto' hR=>?_);obtain⟨p,hp,rfl,rfl⟩:=hR;refine OG ?_;refine EX [(2004,6000)] ?_;exact⟨p,hp,by simp[YI]⟩
theorem dG(gf:Nat)(caps:List I)(ks:List AT)(k8:De Tryz.prog gf=true)(hs:Jx Tryz.prog (OE mx) gf caps (EK ks) (GV ks) (Ow ks) (I3 ks))(hl:ks.length<=1000000):
  Is mx 197 [.fn gf [] caps] (.sl ((CK ks).map Fx)):=by
 have m1:=aAy (mx:=mx) gf caps ks k8 hs hl;refine MX rQ ?_;refine OG ?_;refine EW m1 (by simp only[go_sem,reduceCtorEq]) (fun r sto' hR=>?_);obtain⟨p,hp,rfl,rfl⟩:=hR;have vp:=hp.length_eq;have m2:=Ut (mx:=mx) 5 9 p (by decide) (by omega);have vt:(p.mergeSort fun x y=>decide (x<=y)).length=p.length:=(List.mergeSort_perm _ _).length_eq;have hso:CK p=CK ks:=ZO hp;rw[<-hso];unfold CK
 (repeat' first|simp(disch:=omega)only[go_sem,simprocAttr]|(first|refine HO (m2) ?_ (fun r sto' hR=>?_)|refine EW (m2) ?_ (fun r sto' hR=>?_);(focus(first|rfl|(simp only[go_sem,simprocAttr];done)));first|(obtain⟨rfl,rfl⟩:=hR)|(obtain⟨_,(rfl|rfl),rfl,rfl⟩:=hR))|refine Sz.s ?_|fail)
 rw[if_pos (by rw[vt];exact Nat.le_refl _),List.take_of_length_le (by rw[List.length_map,vt];exact Nat.le_refl _)];exact⟨rfl,rfl⟩
structure KeyG{α:Type}(l:List (AT×α)) where
 acc:List AT
 rest:List (AT×α)
 cur:Option (I×I)
 ok:(acc++rest.map (·.1)).Perm (l.map (·.1))
def KeyG.idx{α:Type}{l:List (AT×α)}(g:KeyG l):EK (l.map (·.1)):=⟨g.acc,g.rest.map (·.1),g.ok⟩
theorem KeyG.next{α:Type}{l:List (AT×α)}(g:KeyG l){q:Nat}(h:q<g.rest.length):((g.acc++[(g.rest[q]).1])++(g.rest.eraseIdx q).map (·.1)).Perm (l.map (·.1)):=by refine List.Perm.trans ?_ g.ok;rw[List.append_assoc];refine List.Perm.append_left _ ?_;exact(Ry h).map (·.1)
theorem aAz(l:List (AT×Bool)):Jx Tryz.prog (OE mx) 284 [.elt [.map (l.map fun p=>(I.str p.1,I.bool p.2))] 0] (EK (l.map (·.1))) (GV _) (Ow _) (I3 _):=by
 intro y m mv stop hV h0 hm hy;have hk:∀i,SK mv (m i)=true:=fun i=>(hm i).1
 have g1:∀i q,q<5000->Aa (m i) q=none:=fun i q hq=>Oj (hk i) hq
 have g2:∀i q b,q<5000->SL q b (m i)=m i:=fun i q b hq=>Qa (hk i) hq b
 have g3:∀i q,q<5000->Cs (m i) q=m i:=fun i q hq=>Qb (hk i) hq
 have g8:∀i q b,q<5000->Ch (m i) q b=m i:=fun i q b hq=>R7 fun p hp=>by have:=P9 (hk i) p hp;omega
 have g5:∀i,Qo (m i) (m i)=true:=fun i=>Fo (hk i)
 refine MX qS ?_ (hpin:=Qc (hk _));refine Pm g1 ?_;refine BG [0,5] (by simp only[V0,MQ,reduceIte,Nat.reduceEqDiff];rfl) (fun _:KeyG l=>[]) (fun g=>(5,.iter g.cur (g.rest.map fun p=>(I.str p.1,I.bool p.2)))::m g.idx) (fun g=>stop g.idx=false) (fun g=>g.rest.length) ⟨[],l,none,by simp⟩ h0 ?_ ?_
 ·have g6:=J1 (hk (GV (l.map (·.1)))) (q:=5) (by decide) (.iter none (l.map fun p=>(I.str p.1,I.bool p.2)));have g7:=FX (k:=5) (b:=.iter none (l.map fun p=>(I.str p.1,I.bool p.2))) (g5 (GV (l.map (·.1))));have e:(KeyG.idx (⟨[],l,none,by simp⟩:KeyG l))=GV (l.map (·.1)):=EK.ext rfl;rw[e];simp[V0,I9,L9,Ref.nm]at g6 g7⊢;exact⟨g6,g7⟩
 ·rintro g hg
  (repeat' first|simp(disch:=omega)only[go_sem,simprocAttr,g8]|refine Ae ?_|refine Mb (fun hr=>?_) (fun q hq=>?_)|fail)
  ·have qr:I3 _ g.idx:=by have:=g.ok;grind[I3,KeyG.idx]
   exact Ld (own:=[(5,_)]) (hk _) rfl ⟨rfl,g.idx,.inr qr,rfl⟩
  ·let g':KeyG l:=⟨g.acc++[(g.rest[q]).1],g.rest.eraseIdx q,some (I.str (g.rest[q]).1,I.bool (g.rest[q]).2),g.next hq⟩
   have y1:=hy g.idx [.str (g.rest[q]).1] g'.idx ⟨_,rfl,rfl⟩ hg;have jj:g'.rest.length<g.rest.length:=by grind
   generalize ja:g'.idx=i' at y1;generalize hi:g.idx=i at y1;refine OG ?_;refine VA (mj:=m i) (mk:=m i') y1 (fun s e=>by cases e;decide) (by simp only[DZ,EQ,go_sem,reduceCtorEq,Nat.reduceEqDiff,List.map_cons,List.map_nil,List.append_nil,List.nil_append]) (hk _) (hk _) ((hm _).2.trans (hm _).2.symm) hV rfl [0,5] (by simp only[V0,MQ,reduceIte,Nat.reduceEqDiff];rfl) (by simp only[go_sem,List.all_cons,List.all_nil]) ?_;cases jh:stop i'
   ·refine OG ?_;refine⟨g',by rw[ja];exact jh,jj,?_⟩;rw[ja];exact⟨⟨rfl,J1 (hk _) (by decide) _⟩,FX (g5 _)⟩
   ·refine OG ?_;exact Ld (own:=[(5,_)]) (hk _) rfl ⟨rfl,i',.inl jh,rfl⟩
theorem aB0(l:List (AT×Bool)):Is mx 253 [.map (l.map fun p=>(I.str p.1,I.bool p.2))] (.fn 284 [] [.elt [.map (l.map fun p=>(I.str p.1,I.bool p.2))] 0]):=by generalize (l.map fun p=>(I.str p.1,I.bool p.2))=m;refine MX n0 ?_;exact Lbn trivial
theorem aB1(l:List (AT×Bool))(hl:l.length<=1000000):Is mx 197 [.fn 284 [] [.elt [.map (l.map fun p=>(I.str p.1,I.bool p.2))] 0]] (.sl ((CK (l.map (·.1))).map Fx)):=
 dG _ _ _ (by kernel_rfl) (aAz l) (by simpa using hl)
theorem aB2(l:List (AT×(List (AT×Bool)))):Jx Tryz.prog (OE mx) 252 [.elt [.map (l.map fun p=>(I.str p.1,I.map (p.2.map fun p=>(I.str p.1,I.bool p.2))))] 0] (EK (l.map (·.1))) (GV _) (Ow _) (I3 _):=by
 intro y m mv stop hV h0 hm hy;have hk:∀i,SK mv (m i)=true:=fun i=>(hm i).1
 have g1:∀i q,q<5000->Aa (m i) q=none:=fun i q hq=>Oj (hk i) hq
 have g2:∀i q b,q<5000->SL q b (m i)=m i:=fun i q b hq=>Qa (hk i) hq b
 have g3:∀i q,q<5000->Cs (m i) q=m i:=fun i q hq=>Qb (hk i) hq
 have g8:∀i q b,q<5000->Ch (m i) q b=m i:=fun i q b hq=>R7 fun p hp=>by have:=P9 (hk i) p hp;omega
 have g5:∀i,Qo (m i) (m i)=true:=fun i=>Fo (hk i)
 refine MX sf ?_ (hpin:=Qc (hk _));refine Pm g1 ?_;refine BG [0,5] (by simp only[V0,MQ,reduceIte,Nat.reduceEqDiff];rfl) (fun _:KeyG l=>[]) (fun g=>(5,.iter g.cur (g.rest.map fun p=>(I.str p.1,I.map (p.2.map fun p=>(I.str p.1,I.bool p.2)))))::m g.idx) (fun g=>stop g.idx=false) (fun g=>g.rest.length) ⟨[],l,none,by simp⟩ h0 ?_ ?_
 ·have g6:=J1 (hk (GV (l.map (·.1)))) (q:=5) (by decide) (.iter none (l.map fun p=>(I.str p.1,I.map (p.2.map fun p=>(I.str p.1,I.bool p.2)))));have g7:=FX (k:=5) (b:=.iter none (l.map fun p=>(I.str p.1,I.map (p.2.map fun p=>(I.str p.1,I.bool p.2))))) (g5 (GV (l.map (·.1))));have e:(KeyG.idx (⟨[],l,none,by simp⟩:KeyG l))=GV (l.map (·.1)):=EK.ext rfl;rw[e];simp[V0,I9,L9,Ref.nm]at g6 g7⊢;exact⟨g6,g7⟩
 ·rintro g hg
  (repeat' first|simp(disch:=omega)only[go_sem,simprocAttr,g8]|refine Ae ?_|refine Mb (fun hr=>?_) (fun q hq=>?_)|fail)
  ·have qr:I3 _ g.idx:=by have:=g.ok;grind[I3,KeyG.idx]
   exact Ld (own:=[(5,_)]) (hk _) rfl ⟨rfl,g.idx,.inr qr,rfl⟩
  ·let g':KeyG l:=⟨g.acc++[(g.rest[q]).1],g.rest.eraseIdx q,some (I.str (g.rest[q]).1,I.map ((g.rest[q]).2.map fun p=>(I.str p.1,I.bool p.2))),g.next hq⟩
   have y1:=hy g.idx [.str (g.rest[q]).1] g'.idx ⟨_,rfl,rfl⟩ hg;have jj:g'.rest.length<g.rest.length:=by grind
   generalize ja:g'.idx=i' at y1;generalize hi:g.idx=i at y1;refine OG ?_;refine VA (mj:=m i) (mk:=m i') y1 (fun s e=>by cases e;decide) (by simp only[DZ,EQ,go_sem,reduceCtorEq,Nat.reduceEqDiff,List.map_cons,List.map_nil,List.append_nil,List.nil_append]) (hk _) (hk _) ((hm _).2.trans (hm _).2.symm) hV rfl [0,5] (by simp only[V0,MQ,reduceIte,Nat.reduceEqDiff];rfl) (by simp only[go_sem,List.all_cons,List.all_nil]) ?_;cases jh:stop i'
   ·refine OG ?_;refine⟨g',by rw[ja];exact jh,jj,?_⟩;rw[ja];exact⟨⟨rfl,J1 (hk _) (by decide) _⟩,FX (g5 _)⟩
   ·refine OG ?_;exact Ld (own:=[(5,_)]) (hk _) rfl ⟨rfl,i',.inl jh,rfl⟩
theorem aB3(l:List (AT×(List (AT×Bool)))):Is mx 198 [.map (l.map fun p=>(I.str p.1,I.map (p.2.map fun p=>(I.str p.1,I.bool p.2))))] (.fn 252 [] [.elt [.map (l.map fun p=>(I.str p.1,I.map (p.2.map fun p=>(I.str p.1,I.bool p.2))))] 0]):=by generalize (l.map fun p=>(I.str p.1,I.map (p.2.map fun p=>(I.str p.1,I.bool p.2))))=m;refine MX nQ ?_;exact Lbn trivial
theorem aB4(l:List (AT×(List (AT×Bool))))(hl:l.length<=1000000):Is mx 197 [.fn 252 [] [.elt [.map (l.map fun p=>(I.str p.1,I.map (p.2.map fun p=>(I.str p.1,I.bool p.2))))] 0]] (.sl ((CK (l.map (·.1))).map Fx)):=
 dG _ _ _ (by kernel_rfl) (aB2 l) (by simpa using hl)
end
section
abbrev DM:=List (AT×SM)
def gi(all:DM):List (I×I):=all.map fun p=>(I.str p.1,I.map (p.2.map fun p=>(I.str p.1,I.bool p.2)))
def GW(all:DM)(f:Ftr):DM:=if(Al all f.name).isSome=true then all else all++[(f.name,(Dz f.body ([],[])).1)]
def Co(l:List Ftr):DM:=l.foldl GW []
theorem aB5{l:List Ftr}{i:Nat}(h:i<l.length):Co (l.take (i+1))=GW (Co (l.take i)) (l.getD i default):=by unfold Co;rw[Cg h,List.foldl_append];rfl
theorem aB6(all:DM)(s:AT):GZ (gi all) (.str s)=(Al all s).map fun m=>I.map (Wx m):=YK (eK:=I.str) (f:=fun m:SM=>I.map (Wx m)) JA all s
theorem dH(all:DM)(s:AT):C0 (gi all) (.str s) .nilmap false=((Al all s).map fun m=>I.map (Wx m)).getD .nilmap:=by unfold C0;rw[aB6];rfl
theorem dJ(all:DM):(∀e∈gi all,AB [.s] e.1=true)=True:=eq_true fun e he=>by obtain⟨p,_,rfl⟩:=List.mem_map.1 he;rfl
@[go_sem] theorem aMe(x:I)(key:D)(z:I)(ok:Bool)(ls:List LK)(d:Nat)(st:St)(K:St->Prop):Jk (.i x) key z ok ls d st K=Fj (.i x) key z ok ls d st K:=rfl
theorem aB7(all:DM)(s:AT)(b:Bool):MC Tryz.prog (OE mx) 249 [.i (.str s),.i (.bool b),.ref (.loc 5000 0)] [(5000,.cells [.i (.map (gi all))])] [] (fun r t=>r=.i (.bool (Al all s).isNone)/\t=[(5000,.cells [.i (.map (gi all))])]):=by
 have kp:=dH all s;have hf:=dJ all;refine MX pp ?_;cases ha:Al all s with
 |none=>rw[ha]at kp;simp only[Option.map_none,Option.getD_none]at kp;refine Man (cj kp hf) ?_;refine EX [(5000,5000)] ?_;exact⟨rfl,rfl⟩
 |some m=>rw[ha]at kp;simp only[Option.map_some,Option.getD_some]at kp;refine Man (cj kp hf) ?_;refine EX [(5000,5000)] ?_;exact⟨rfl,rfl⟩
theorem dK{P:Program}{GG:List (Nat×List I)}{get:St->Option (FuncId×List D)}{f:FuncId}{st:St}{d:Option Nat}{K:St->Prop}{ds:List D}{sto:List (Nat×Blk)}{mv:List Nat}{R:D->List (Nat×Blk)->Prop}(h:MC P GG f ds sto mv R)(ka:get (frzNs [] st)=some (f,ds))(h1:Br sto st.sto)
  (h2:(Qo sto sto&&(ds.all fun x=>OL sto x.nms)&&(mv.all fun m=>Nat.blt m 5000||Nat.ble 5500 m))=true)(hk:∀r sto',R r sto'->((Bj (d.getD 999) sto').map (·.1)).all (fun nm=>(Aa sto nm).isSome||((Aa st.sto nm).isNone&&Nat.blt nm 5000))=true/\
   (sto.map (·.1)).all (fun nm=>(Aa sto' nm).isNone||ren (d.getD 999) nm==nm)=true/\K (putO (DN st sto sto' mv (d.getD 999)) d (Df (d.getD 999) r))):Ah P GG get st d K:=by
 rw[Bool.and_eq_true,Bool.and_eq_true]at h2;unfold Ah;refine⟨[],?_⟩;rw[ka];refine .inl ⟨sto,mv,R,h,h1,h2.1.1,h2.1.2,h2.2,fun r s hr=>?_⟩;obtain⟨k1,k2,k3⟩:=hk r s hr;rw[List.all_eq_true]at k1 k2;refine⟨fun nm hm=>?_,fun nm hm hs=>?_,k3⟩
 ·have:=k1 nm hm;rw[Bool.or_eq_true,Bool.and_eq_true]at this;rcases this with e|⟨e1,e2⟩
  ·exact .inl e
  ·exact .inr ⟨by show Aa st.sto nm=none;simpa using e1,by simpa using e2⟩
 ·have:=k2 nm hm;rw[Bool.or_eq_true]at this;rcases this with e|e
  ·cases hg:Aa s nm<;>simp[hg]at e hs
  ·simpa using e
theorem aB8(all:DM)(m:SM)(hm:∀p∈m,(Al all p.1).isSome=true):MC Tryz.prog (OE mx) 248 [.i (.map (m.map fun p=>(I.str p.1,I.bool p.2))),.fn 249 [] [.ref (.loc 5000 0)]] [(5000,.cells [.i (.map (gi all))])] []
  (fun r t=>r=.i (.tup [])/\t=[(5000,.cells [.i (.map (gi all))])]):=by
 refine MX nZ ?_;refine OG ?_;refine lT [0,1,7] (fun _:SM×Option (I×I)=>[]) (fun g=>[(7,.iter g.2 (g.1.map fun p=>(I.str p.1,I.bool p.2))),(5000,.cells [.i (.map (gi all))])]) (fun g=>∀p∈g.1,(Al all p.1).isSome=true) (fun g=>g.1.length) (m,none) ?_;rintro⟨rest,cur⟩ jb;simp only at jb
 (repeat' first|simp(disch:=omega)only[go_sem,simprocAttr]|refine Ae ?_|refine Mb (fun hr=>?_) (fun q hq=>?_)|fail)
 ·refine EX [(5000,5000)] ?_;simp[YI]
 ·have h1:=aB7 (mx:=mx) all (rest[q]).1 (rest[q]).2;have h2:(Al all (rest[q]).1).isNone=false:=by have:=jb _ (List.getElem_mem hq);simp_all
  rw[h2]at h1;refine dK h1 (by simp only[frzNs,DZ,EQ,go_sem,reduceCtorEq,Nat.reduceEqDiff,List.map_cons,List.map_nil,List.nil_append,Cp.toD]) (by simp[Br,Aa]) (by simp[Qo,OL,Blk.nms,D.nms,Ref.nm,Aa]) (fun r sto' hR=>?_);obtain⟨rfl,rfl⟩:=hR;refine OG ?_;refine⟨(rest.eraseIdx q,some (I.str (rest[q]).1,I.bool (rest[q]).2)),fun p hp=>jb p (List.mem_of_mem_eraseIdx hp),?_,rfl⟩;show(rest.eraseIdx q).length<_;rw[List.length_eraseIdx];split<;>omega
theorem aB9(all:DM)(m:SM)(hm:∀p∈m,(Al all p.1).isSome=true):MC Tryz.prog (OE mx) 248 [.i (.map (m.map fun p=>(I.str p.1,I.bool p.2))),.fn 249 [] [.ref (.loc 3 0)]] [(3,.cells [.i (.map (gi all))])] []
  (fun r t=>r=.i (.tup [])/\t=[(3,.cells [.i (.map (gi all))])]):=by
 have e1:MS [(5000,3)] 5000=3:=by rfl
 have h:=(MC.as [(5000,3)] (aB8 (mx:=mx) all m hm)).mono (R':=fun r t=>r=.i (.tup [])/\t=[(3,.cells [.i (.map (gi all))])]) (by
  rintro r s ⟨h1,h2⟩;have k:=Ex (f:=J6 [(5000,3)]) (g:=MS [(5000,3)]) (Cb _) r;have k2:=FQ (f:=J6 [(5000,3)]) (g:=MS [(5000,3)]) (Cb _) s;rw[h1]at k;rw[h2]at k2;refine⟨?_,?_⟩
  ·rw[<-k];simp only[J8]
  ·rw[<-k2];simp only[J5,MR,J8,e1,List.map_cons,List.map_nil])
 simp only[List.map_cons,List.map_nil,J8,mpC,Qs,J5,MR,e1]at h;exact h
theorem aBa(x:Xpr)(acc:SM×SM)(hb:bX x<=1073741824):MC Tryz.prog (OE mx) 247 [.i (.agg (eE x)),.ref (.mp 22),.ref (.mp 26)] [(22,.map [.s] (Wx acc.1)),(26,.map [.s] (Wx acc.2))] []
  (fun r s=>r=.i (.tup [])/\s=[(22,.map [.s] (Wx (Dz x acc).1)),(26,.map [.s] (Wx (Dz x acc).2))]):=by
 have e1:MS [(5000,22),(5001,26)] 5000=22:=by rfl
 have e2:MS [(5000,22),(5001,26)] 5001=26:=by rfl
 have h:=(MC.as [(5000,22),(5001,26)] (aAv (mx:=mx) _ x acc (Nat.le_refl _) hb)).mono (R':=fun r s=>r=.i (.tup [])/\s=[(22,.map [.s] (Wx (Dz x acc).1)),(26,.map [.s] (Wx (Dz x acc).2))]) (by
  rintro r s ⟨h1,h2⟩;have k:=Ex (f:=J6 [(5000,22),(5001,26)]) (g:=MS [(5000,22),(5001,26)]) (Cb _) r;have k2:=FQ (f:=J6 [(5000,22),(5001,26)]) (g:=MS [(5000,22),(5001,26)]) (Cb _) s;rw[h1]at k;rw[h2]at k2;refine⟨?_,?_⟩
  ·rw[<-k];simp only[J8]
  ·rw[<-k2];simp only[J5,MR,e1,e2])
 simp only[List.map_cons,List.map_nil,J8,Qs,J5,MR,e1,e2]at h;exact h
def Wz:Nat->DM->List (I×Nat×D)
 |_,[]=>[]
 |k,p::r=>(.str p.1,k,.i (.map (Wx p.2)))::Wz (k+1) r
def gr(old:DM)(n:AT):List (I×Nat×D):=Wz 0 old++[(.str n,old.length,.ref (.mp 22))]
theorem dL:∀(a b:DM) (k:Nat),Wz k (a++b)=Wz k a++Wz (k+a.length) b
 |[],b,k=>by simp[Wz]
 |p::r,b,k=>by simp only[List.cons_append,Wz,dL r b (k+1)];rw[List.length_cons,show k+1+r.length=k+(r.length+1) by omega]
theorem dM(b:Blk):∀(l:DM) (k:Nat),(Wz k l).map (fun e=>(e.1,e.2.1,Qq 22 b e.2.2))=Wz k l
 |[],_=>rfl
 |p::r,k=>by simp only[Wz,List.map_cons,dM b r (k+1)];rfl
theorem dO(old:DM)(n:AT)(m:SM):(gr old n).map (fun e=>(e.1,e.2.1,Qq 22 (.map [.s] (Wx m)) e.2.2))=Wz 0 (old++[(n,m)]):=by unfold gr;rw[List.map_append,dM,dL,Nat.zero_add];rfl
theorem dP:∀(l:DM) (k:Nat),(Wz k l).flatMap (fun e=>e.2.2.nms)=[]
 |[],_=>rfl
 |p::r,k=>by simp only[Wz,List.flatMap_cons,dP r (k+1)];rfl
theorem Se(old:DM)(n:AT):(gr old n).flatMap (fun e=>e.2.2.nms)=[22]:=by unfold gr;rw[List.flatMap_append,dP];rfl
theorem dQ:∀(l:DM) (k:Nat),(Wz k l).map (fun e=>(e.1,Ii e.2.2))=gi l
 |[],_=>rfl
 |p::r,k=>by simp only[Wz,List.map_cons,dQ r (k+1)];rfl
theorem dR:∀(l:DM) (k:Nat),((Wz k l).all fun e=>Ja e.2.2)=true
 |[],_=>rfl
 |p::r,k=>by simp only[Wz,List.all_cons,dR r (k+1)];rfl
theorem VG(s:AT):∀(l:DM) (k:Nat),Es (Wz k l) (.str s)=l.findIdx? (fun p=>decide (p.1=s))
 |[],_=>rfl
 |p::r,k=>by have ih:=VG s r (k+1);unfold Es at ih⊢;simp only[Wz,List.findIdx?_cons,JA p.1 s,ih]
theorem dS:∀(l:DM) (k j:Nat),(Wz k l)[j]? =(l[j]?).map fun p=>(.str p.1,k+j,.i (.map (Wx p.2)))
 |[],_,_=>by simp[Wz]
 |p::r,k,0=>rfl
 |p::r,k,j+1=>by simp only[Wz,List.getElem?_cons_succ,dS r (k+1) j];grind
theorem Sf:∀(l:DM) (k:Nat),(Wz k l).length=l.length
 |[],_=>rfl
 |p::r,k=>by simp[Wz,Sf r (k+1)]
theorem dU{A:DM}{w:AT}:(A.findIdx? (fun p=>decide (p.1=w))=none/\Al A w=none)\/∃j,∃(hj:j<A.length),A.findIdx? (fun p=>decide (p.1=w))=some j/\Al A w=some A[j].2:=by
 induction A with
 |nil=>exact .inl ⟨rfl,rfl⟩
 |cons p r ih=>
  by_cases e:p.1=w
  ·refine .inr ⟨0,by simp,?_,?_⟩
   ·rw[List.findIdx?_cons];simp[e]
   ·simp[Al,e]
  ·rcases ih with⟨h1,h2⟩|⟨j,hj,h1,h2⟩
   ·refine .inl ⟨?_,?_⟩
    ·rw[List.findIdx?_cons];simp[e,h1]
    ·rw[Al,if_neg e,h2]
   ·refine .inr ⟨j+1,by simpa using hj,?_,?_⟩
    ·rw[List.findIdx?_cons];simp[e,h1]
    ·rw[Al,if_neg e,h2];simp
theorem aBb(old:DM)(n s:AT):(Al old s=none/\n≠s/\Es (gr old n) (.str s)=none/\FM (gr old n) (.str s)=none)\/((Al old s).isSome=true\/n=s)/\(∃y,FM (gr old n) (.str s)=some (.i (.map y))\/FM (gr old n) (.str s)=some (.ref (.mp 22))):=by
 have hi:Es (gr old n) (.str s)=match old.findIdx? (fun p=>decide (p.1=s))with|some j=>some j|none=>if n=s then some old.length else none:=by
  have h:=VG s old 0;unfold Es gr at*;rw[List.findIdx?_append,h,Sf];cases old.findIdx? (fun p=>decide (p.1=s))with
  |some j=>rfl
  |none=>simp only[Option.none_or,List.findIdx?_cons,List.findIdx?_nil,JA n s];simp
 rcases dU (A:=old) (w:=s)with⟨h1,h2⟩|⟨j,hj,h1,h2⟩
 ·rw[h1]at hi;simp only at hi;by_cases e:n=s
  ·rw[if_pos e]at hi;refine .inr ⟨.inr e,[],.inr ?_⟩;unfold FM;grind[gr,Sf]
  ·rw[if_neg e]at hi;exact .inl ⟨h2,e,hi,by unfold FM;rw[hi]⟩
 ·rw[h1]at hi;simp only at hi;refine .inr ⟨.inl (by rw[h2];rfl),Wx old[j].2,.inl ?_⟩;unfold FM;grind[gr,Sf,dS]
theorem Sg(a:DM)(n:AT)(m:SM)(s:AT):Al (a++[(n,m)]) s=match Al a s with|some v=>some v|none=>if n=s then some m else none:=by
 induction a with
 |nil=>simp[Al]
 |cons p r ih=>simp only[List.cons_append,Al,ih];grind
end
section
@[go_sem] theorem aMf(nm:Nat)(q:I)(v:D)(ls:List LK)(st:St)(K:St->Prop):LL (.ref (.mp nm)) (.i q) v ls st K=(AB ls q=true/\Jl (Aa st.sto nm) nm ls q v st K):=rfl
@[go_sem] theorem aMg(ls':List LK)(clk:Nat)(es:List (I×Nat×D))(nm:Nat)(ls:List LK)(q:I)(v:D)(st:St)(K:St->Prop):Jl (some (.gmap ls' clk es)) nm ls q v st K=(ls'=ls/\K (st.setB nm (OQ ls clk es q v))):=rfl
theorem Si{ls:List LK}{clk:Nat}{es:List (I×Nat×D)}{q:I}{v:D}(h:Es es q=none):OQ ls clk es q v=.gmap ls (clk+1) (es++[(q,clk,v)]):=by unfold OQ;rw[h]
abbrev DG:=Option (DM×AT×SM)
def dB:DG->List (Nat×Blk)
 |none=>[(9,.gmap [.s] 0 []),(3,.cells [.ref (.mp 9)])]
 |some (old,n,m)=>[(22,.map [.s] (Wx m)),(9,.gmap [.s] (old.length+1) (gr old n)),(3,.cells [.ref (.mp 9)])]
def VH:DG->DM
 |none=>[]
 |some (old,n,m)=>old++[(n,m)]
theorem dV{old:DM}{n s:AT}{m:SM}(h:(Al old s).isSome=true\/n=s):(Al (VH (some (old,n,m))) s).isSome=true:=by show(Al (old++[(n,m)]) s).isSome=true;grind[Sg]
theorem aBc(q:Nat)(hq:q≠22)(b:Blk)(old:DM)(n:AT):(gr old n).map (fun e=>(e.1,e.2.1,Qq q b e.2.2))=gr old n:=by
 have h:∀(l:DM) (k:Nat),(Wz k l).map (fun e=>(e.1,e.2.1,Qq q b e.2.2))=Wz k l:=fun l=>by
  induction l with
  |nil=>intro k;rfl
  |cons p r ih=>intro k;simp only[Wz,List.map_cons,ih (k+1)];rfl
 unfold gr;rw[List.map_append,h];have:¬(22=q):=fun e=>hq e.symm
 simp[Qq,WD,Ref.nm,this,Cp.toD]
theorem aBd(c:Cat)(hc:AP c<=1073741823)(j8:∀p∈Co c.features,∀q∈p.2,(Al (Co c.features) q.1).isSome=true):Is mx 196 [.agg (At c)] (.map (gi (Co c.features))):=by
 have w5:=Ce c;have hlf:=Dm c.features;refine MX qA ?_
 (repeat' first|simp(disch:=omega)only[go_sem,simprocAttr]|fail)
 refine BG [3,11,12] (by simp only[V0,MQ,reduceIte,Nat.reduceEqDiff];rfl) (fun g:Nat×DG=>[(13,.i (iI g.1))]) (fun g=>dB g.2) (fun g=>g.1<=c.features.length/\VH g.2=Co (c.features.take g.1)) (fun g=>c.features.length-g.1) (0,none) ⟨by simp,rfl⟩ (by simp[V0,I9,L9,Ref.nm,dB,OL,Blk.nms]) ?_;rintro⟨i,g⟩ ⟨hi,hg⟩;simp only at hi hg;by_cases ja:i<c.features.length
 ·have jh:=aB5 ja;rw[<-hg]at jh;have hbx:bX (c.features.getD i default).body<=1073741824:=by have:=Cd (b:=Bl) (AA ja);have:=Hj (c.features.getD i default);omega
  have d1:=aBa (mx:=mx) (c.features.getD i default).body ([],[]) hbx;rw[HP]at d1;have hsm:Wx []=[]:=rfl;simp only[hsm]at d1;have hn0:∀q:I,Es [] q=none:=fun _=>rfl
  have htf:(true !=false)=true:=rfl;have hff:(false !=false)=false:=rfl;cases g with
  |none=>
   have hg0:FM [] (.str (c.features.getD i default).name)=none:=rfl;simp only[dB]
   (repeat' first|simp(disch:=omega)only[go_sem,simprocAttr,Cq ja,Cx,hg0,Si (hn0 _),List.nil_append,htf]|(first|refine HO (d1) ?_ (fun r sto' hR=>?_)|refine EW (d1) ?_ (fun r sto' hR=>?_);(focus(first|rfl|(simp only[go_sem,simprocAttr,Cq ja,Cx,hg0,Si (hn0 _),List.nil_append,htf];done)));first|(obtain⟨rfl,rfl⟩:=hR)|(obtain⟨_,(rfl|rfl),rfl,rfl⟩:=hR))|refine Ae ?_|fail)
   refine⟨(i+1,some ([],(c.features.getD i default).name,(Dz (c.features.getD i default).body ([],[])).1)),⟨by simp only;omega,?_⟩,by simp only;omega,rfl,?_⟩
   ·simp only;rw[jh];rfl
   ·simp only;simp[Br,Aa,Qo,OL,Blk.nms,D.nms,Ref.nm,gr,Wz]
  |some g=>
   obtain⟨old,n,m⟩:=g;simp only[dB];have hz5:=fun b=>aBc 5 (by decide) b old n
   rcases aBb old n (c.features.getD i default).name with⟨h1,h2,h3,h4⟩|⟨h1,y,h2|h2⟩
   ·have hz:=dO old n m;have hgi:Es (Wz 0 (old++[(n,m)])) (.str (c.features.getD i default).name)=none:=by grind[VG,dU,Sg]
    have wq:Wz 0 (old++[(n,m)])++[(I.str (c.features.getD i default).name,old.length+1,D.ref (Ref.mp 22))]=gr (old++[(n,m)]) (c.features.getD i default).name:=by simp[gr]
    (repeat' first|simp(disch:=omega)only[go_sem,simprocAttr,Cq ja,Cx,h4,hz5,hz,Si hgi,wq,List.map_cons,List.map_nil,htf]|(first|refine HO (d1) ?_ (fun r sto' hR=>?_)|refine EW (d1) ?_ (fun r sto' hR=>?_);(focus(first|rfl|(simp only[go_sem,simprocAttr,Cq ja,Cx,h4,hz5,hz,Si hgi,wq,List.map_cons,List.map_nil,htf];done)));first|(obtain⟨rfl,rfl⟩:=hR)|(obtain⟨_,(rfl|rfl),rfl,rfl⟩:=hR))|refine Ae ?_|fail)
    refine⟨(i+1,some (old++[(n,m)],(c.features.getD i default).name,(Dz (c.features.getD i default).body ([],[])).1)),⟨by simp only;omega,?_⟩,by simp only;omega,?_,?_⟩
    ·simp only;rw[jh,GW,if_neg (by rw[VH,Sg,h1];simp only[if_neg h2];exact Bool.false_ne_true)];rfl
    ·rfl
    ·simp only[Br,Aa,Qo,OL,Blk.nms,Se,List.length_append,List.length_cons,List.length_nil];simp[D.nms,Ref.nm]
   ·(repeat' first|simp(disch:=omega)only[go_sem,simprocAttr,Cq ja,Cx,h2,hff,hz5]|refine Ae ?_|fail)
    refine⟨(i+1,some (old,n,m)),⟨by simp only;omega,?_⟩,by simp only;omega,rfl,?_⟩
    ·simp only;rw[jh,GW,if_pos (dV h1)]
    ·simp only[Br,Aa,Qo,OL,Blk.nms,Se];simp[D.nms,Ref.nm]
   ·(repeat' first|simp(disch:=omega)only[go_sem,simprocAttr,Cq ja,Cx,h2,hff,hz5]|refine Ae ?_|fail)
    refine⟨(i+1,some (old,n,m)),⟨by simp only;omega,?_⟩,by simp only;omega,rfl,?_⟩
    ·simp only;rw[jh,GW,if_pos (dV h1)]
    ·simp only[Br,Aa,Qo,OL,Blk.nms,Se];simp[D.nms,Ref.nm]
 ·have xi:i=c.features.length:=by omega
  subst xi;rw[List.take_length]at hg;cases g
  case' none=>
   have hd:([]:List (I×I))=gi (Co c.features):=by rw[<-hg];rfl
   simp only[dB]
   (repeat' first|simp(disch:=omega)only[go_sem,simprocAttr,Ih ja]|refine Ae ?_|fail)
   rw[hd]
  case' some g=>
   obtain⟨old,n,m⟩:=g;have hd:gi (old++[(n,m)])=gi (Co c.features):=by rw[<-hg];rfl
   simp only[dB]
   (repeat' first|simp(disch:=omega)only[go_sem,simprocAttr,Ih ja,Se,dO,dR,dQ,List.cons_append,List.nil_append]|refine Ae ?_|fail)
   rw[hd]
  all_goals
   refine lT [3,34] (fun _:DM×Option (I×I)=>[]) (fun g=>[(34,.iter g.2 (gi g.1)),(3,.cells [.i (.map (gi (Co c.features)))])]) (fun g=>∀p∈g.1,p∈Co c.features) (fun g=>g.1.length) (Co c.features,none) ?_ (fun _ h=>h);rintro⟨rest,cur⟩ jb;simp only[gi]at jb⊢
   (repeat' first|simp(disch:=omega)only[go_sem,simprocAttr]|refine Ae ?_|refine Sz.s ?_|refine Mb (fun hr=>?_) (fun q hq=>?_)|fail)
   have h1:=aB9 (mx:=mx) (Co c.features) (rest[q]).2 (j8 _ (jb _ (List.getElem_mem hq)));simp only[gi]at h1;refine dK h1 (by simp only[frzNs,Fi,go_sem,Nat.reduceEqDiff,List.map_cons,List.map_nil]) (by simp[Br,Aa]) (by simp[Qo,OL,Blk.nms,D.nms,Cp.nms,Ref.nm,Aa]) (fun r sto' hR=>?_);obtain⟨rfl,rfl⟩:=hR;refine OG ?_;refine⟨(rest.eraseIdx q,some (I.str (rest[q]).1,I.map ((rest[q]).2.map fun p=>(I.str p.1,I.bool p.2)))),fun p hp=>jb p (List.mem_of_mem_eraseIdx hp),?_,rfl⟩;show(rest.eraseIdx q).length<_;rw[List.length_eraseIdx];split<;>omega
end
section
theorem dW(l:List AT)(hl:l.length<=1073741824):MC Tryz.prog (OE mx) 254 [.i (.sl (l.map Fx))] [] []
  (fun r s=>r=.ref (.sl 6000 1 0 l.length)/\s=[(6000,.rows 9 1 (l.map Fx))]):=by
 refine MX pq ?_;have hr:=Bi (f:=Fx) (k:=1) l (fun _=>rfl) (fun _=>rfl)
 (repeat' first|simp(disch:=omega)only[go_sem,simprocAttr,Nat.zero_add]|refine Sx.s ?_ ?_<;>try(intro h;have h':=h;try simp only[HB]at h';try rewrite [h];try simp only[h])|refine Ae ?_|refine Rf (fun wm b=>?_) (fun wm=>?_)|fail)
 ·have e:l=[]:=by simpa using wm
  subst e;cases h';refine EX [(2,6000)] ?_;simp[YI]
 ·refine⟨hr.1,hr.2,by omega,by omega,?_⟩;refine EX [(5,6000)] ?_;simp[YI]
 ·simp at h
 ·refine⟨hr.1,hr.2,by omega,by omega,?_⟩;refine EX [(5,6000)] ?_;simp[YI]
end
section
theorem Qh{κ α:Type}[DecidableEq κ]:∀(m:List (κ×α)) (k:κ) (v:α),Al m k=none->AO m k v=m++[(k,v)]
 |[],_,_,_=>rfl
 |p::r,k,v,h=>by
  simp only[Al]at h;split at h
  ·cases h
  ·rename_i hn;simp only[AO,if_neg hn,Qh r k v h,List.cons_append]
theorem VI{κ α:Type}[DecidableEq κ]:∀(m:List (κ×α)) (k:κ) (v:α) (j:κ),Al (AO m k v) j=if k=j then some v else Al m j
 |[],k,v,j=>by rfl
 |p::r,k,v,j=>by
  simp only[AO];split
  ·rename_i e;subst e;simp only[Al];split<;>rfl
  ·rename_i hn;simp only[Al,VI r k v j];grind
theorem aget_mem{κ α:Type}[DecidableEq κ]:∀{m:List (κ×α)} {k:κ} {v:α},Al m k=some v->(k,v)∈m
 |p::r,k,v,h=>by
  simp only[Al]at h;split at h
  ·rename_i e;subst e;cases h;exact List.mem_cons_self
  ·exact List.mem_cons_of_mem _ (aget_mem h)
theorem VJ{κ α:Type}[DecidableEq κ]:∀{m:List (κ×α)} {k:κ},k∈m.map (·.1)->(Al m k).isSome=true
 |p::r,k,h=>by
  simp only[Al];split
  ·rfl
  ·rename_i hn;rcases List.mem_cons.1 h with e|e
   ·exact absurd e.symm hn
   ·exact VJ e
theorem VK{α:Type}[DecidableEq α]:∀{a b:List α},a.Nodup->(∀x∈a,x∈b)->a.length<=b.length
 |[],_,_,_=>Nat.zero_le _
 |x::r,b,h,k=>by have hx:=k x List.mem_cons_self;have h2:=List.nodup_cons.1 h;have:=VK (a:=r) (b:=b.erase x) h2.2 (fun y hy=>(List.mem_erase_of_ne (fun(e:y=x)=>h2.1 (e▸hy))).2 (k y (List.mem_cons_of_mem _ hy)));grind
def Eb(A:DM)(a b:AT):Prop:=∃m,Al A a=some m/\inM m b=true
def FJ(m:SM):Prop:=∀p∈m,p.2=true
theorem Sj{m:SM}(h:FJ m){s:AT}:inM m s=true↔s∈m.map (·.1):=by
 unfold inM;constructor
 ·intro q;cases e:Al m s with
  |none=>rw[e]at q;cases q
  |some v=>exact List.mem_map.2 ⟨_,aget_mem e,rfl⟩
 ·intro q;obtain⟨v,e⟩:=Option.isSome_iff_exists.1 (VJ q);rw[e];exact h _ (aget_mem e)
theorem Sk{m:SM}(h:FJ m){s:AT}(q:inM m s=false):Al m s=none:=by
 unfold inM at q;cases e:Al m s with
 |none=>rfl
 |some v=>rw[e]at q;have:=h _ (aget_mem e);simp only at this;rw[this]at q;cases q
theorem Sl(m:SM)(n s:AT):inM (AO m n true) s=(decide (n=s)||inM m s):=by grind[inM,VI]
theorem VL{E:AT->AT->Prop}:∀{n:Nat} {a b c:AT},EJ E n a b->E b c->EJ E (n+1) a c
 |0,_,b,_,h,k=>⟨b,h,k⟩
 |_+1,_,_,_,⟨m,h1,h2⟩,k=>⟨m,h1,VL h2 k⟩
structure BI(A:DM)(fr:AT)(seen:SM)(front:List AT):Prop where
 cl:∀s,(s=fr\/inM seen s=true)->s∈front\/(¬Eb A s fr/\∀t,Eb A s t->inM seen t=true)
 wk:∀s∈front,s=fr\/∃n,EJ (Eb A) n fr s
 dm:∀s∈front,(Al A s).isSome=true
 nd:(seen.map (·.1)).Nodup
 ks:∀s∈seen.map (·.1),(Al A s).isSome=true
 tr:FJ seen
theorem BI.len{A:DM}{fr:AT}{seen:SM}{front:List AT}(h:BI A fr seen front):seen.length<=A.length:=by
 have:=VK h.nd (b:=A.map (·.1)) (fun x hx=>by obtain⟨v,e⟩:=Option.isSome_iff_exists.1 (h.ks x hx);exact List.mem_map.2 ⟨_,aget_mem e,rfl⟩)
 grind
theorem BI.start{A:DM}{fr:AT}(h:(Al A fr).isSome=true):BI A fr [] [fr] where
 cl:=fun s hs=>by
  rcases hs with e|e
  ·subst e;exact .inl List.mem_cons_self
  ·cases e
 wk:=fun s hs=>.inl (by simpa using hs)
 dm:=fun s hs=>by
  have:s=fr:=by simpa using hs
  subst this;exact h
 nd:=List.nodup_nil
 ks:=fun s hs=>by simp at hs
 tr:=fun p hp=>by simp at hp
theorem BI.add{A:DM}{fr:AT}{seen:SM}{front front':List AT}{cur n:AT}(h:BI A fr seen front)(hc:cur∈front)(he:Eb A cur n)(hn:inM seen n=false)(hd:(Al A n).isSome=true)(hf:∀s,s∈front'↔s∈front\/s=n):BI A fr (AO seen n true) front' where
 cl:=fun s hs=>by
  rw[Sl]at hs;by_cases e:n=s
  ·subst e;exact .inl ((hf _).2 (.inr rfl))
  ·rw[decide_eq_false e,Bool.false_or]at hs;rcases h.cl s hs with q|⟨q1,q2⟩
   ·exact .inl ((hf s).2 (.inl q))
   ·exact .inr ⟨q1,fun t ht=>by rw[Sl,q2 t ht,Bool.or_true]⟩
 wk:=fun s hs=>by
  rcases(hf s).1 hs with q|q
  ·exact h.wk s q
  ·subst q;rcases h.wk cur hc with e|⟨k,hk⟩
   ·subst e;exact .inr ⟨0,he⟩
   ·exact .inr ⟨k+1,VL hk he⟩
 dm:=fun s hs=>by
  rcases(hf s).1 hs with q|q
  ·exact h.dm s q
  ·subst q;exact hd
 nd:=by
  rw[Qh _ _ _ (Sk h.tr hn),List.map_append,List.nodup_append];refine⟨h.nd,by simp,fun a ha b hb e=>?_⟩;have hb':b=n:=by simpa using hb
  subst hb' e;rw[(Sj h.tr).2 ha]at hn;cases hn
 ks:=fun s hs=>by
  rw[Qh _ _ _ (Sk h.tr hn),List.map_append]at hs;rcases List.mem_append.1 hs with q|q
  ·exact h.ks s q
  ·have:s=n:=by simpa using q
   subst this;exact hd
 tr:=fun p hp=>by
  rw[Qh _ _ _ (Sk h.tr hn)]at hp;rcases List.mem_append.1 hp with q|q
  ·exact h.tr p q
  ·have:p=(n,true):=by simpa using q
   rw[this]
theorem BI.more{A:DM}{fr:AT}{seen:SM}{front:List AT}{n:AT}(h:BI A fr seen front)(hn:inM seen n=false):(AO seen n true).length=seen.length+1:=by rw[Qh _ _ _ (Sk h.tr hn)];simp
theorem BI.done{A:DM}{fr:AT}{seen:SM}{front front':List AT}{cur:AT}(h:BI A fr seen front)(h1:¬Eb A cur fr)(h2:∀t,Eb A cur t->inM seen t=true)(hf:∀s,s∈front->s∈front'\/s=cur)(hg:∀s,s∈front'->s∈front):BI A fr seen front' where
 cl:=fun s hs=>by
  rcases h.cl s hs with q|q
  all_goals grind
 wk:=fun s hs=>h.wk s (hg s hs)
 dm:=fun s hs=>h.dm s (hg s hs)
 nd:=h.nd
 ks:=h.ks
 tr:=h.tr
theorem BI.found{A:DM}{fr cur:AT}{seen:SM}{front:List AT}(h:BI A fr seen front)(hc:cur∈front)(he:Eb A cur fr):∃n,EJ (Eb A) n fr fr:=by
 rcases h.wk cur hc with e|⟨n,hn⟩
 ·subst e;exact⟨0,he⟩
 ·exact⟨n+1,VL hn he⟩
theorem BI.none{A:DM}{fr:AT}{seen:SM}(h:BI A fr seen []):¬∃n,EJ (Eb A) n fr fr:=by
 have key:∀n s,(s=fr\/inM seen s=true)->¬EJ (Eb A) n s fr:=by
  intro n
  induction n with
  |zero=>
   intro s hs hw;rcases h.cl s hs with q|q
   ·simp at q
   ·exact q.1 hw
  |succ n ih=>
   rintro s hs ⟨m,h1,h2⟩;rcases h.cl s hs with q|q
   ·simp at q
   ·exact ih m (.inr (q.2 m h1)) h2
 rintro⟨n,hn⟩;exact key n fr (.inl rfl) hn
def Fg(p:List AT):AT:=p.getD (p.length-1) default
theorem aBe(p:List AT)(n:AT):Fg (p++[n])=n:=by simp[Fg]
end
section
def J2(p:List AT):List I:=[.sl (p.map Fx)]
theorem aBf(p:List AT):(J2 p).length=1:=rfl
theorem aBg(p:List AT):(J2 p).all I.one=true:=rfl
abbrev shD(b:Bool)(ps:List (List AT)):D:=if b=true then .i (.sl (ps.map J2))else .ref (.sl 7 1 0 ps.length)
abbrev shB(b:Bool)(ps:List (List AT)):List (Nat×Blk):=if b=true then[]else[(7,.rows 175 1 (ps.map J2))]
theorem aBh(A:DM)(fr:AT)(hA:A.length<=1000000)(j8:∀p∈A,(FJ p.2)/\p.2.length<=1000000/\∀q∈p.2,(Al A q.1).isSome=true)(hfr:(Al A fr).isSome=true):MC Tryz.prog (OE mx) 199 [.i (.map (gi A)),.i (.str fr)] [] [] (fun r s=>s=[]/\((r=.i .nilsl/\¬∃n,EJ (Eb A) n fr fr)\/∃(x:AT) (L:List AT),r=.i (.sl ((x::L).map Fx))/\∃n,EJ (Eb A) n fr fr)):=by
 refine MX pc ?_
 (repeat' first|simp(disch:=omega)only[go_sem,simprocAttr]|fail)
 refine BG [0,1,5] (by simp only[V0,MQ,reduceIte,Nat.reduceEqDiff];rfl) (fun g:Bool×SM×List (List AT)=>[(6,shD g.1 g.2.2)]) (fun g=>(13,.map [.s] (Wx g.2.1))::shB g.1 g.2.2)
  (fun g=>BI A fr g.2.1 (g.2.2.map Fg)/\∀p∈g.2.2,p≠[]/\p.length<=g.2.1.length+1/\g.2.2.length<=g.2.1.length+1) (fun g=>2*(A.length-g.2.1.length)+g.2.2.length) (true,[],[[fr]]) ⟨BI.start hfr,by simp⟩ (by simp[V0,I9,L9,Ref.nm,Wx,J2,shD,shB]) ?_
 rintro⟨fl,seen,paths⟩ ⟨hb,hp⟩;simp only at hb hp⊢;have qp:=hb.len;cases fl
 case' false=>simp only[shD,shB,Bool.false_eq_true,reduceIte]
 case' true=>simp only[shD,shB,reduceIte]
 all_goals
  (repeat' first|simp(disch:=omega)only[go_sem,simprocAttr]|refine Sx.s ?_ ?_<;>try(intro h;have h':=h;try simp only[HB]at h';try rewrite [h];try simp only[h])|refine Ae ?_|fail)
 case' false.refine_1=>have vp:0<paths.length:=by omega
 case' true.refine_1=>have vp:0<paths.length:=by omega
 case' false.refine_2=>have vp:paths=[]:=List.eq_nil_of_length_eq_zero (by omega)
 case' true.refine_2=>have vp:paths=[]:=List.eq_nil_of_length_eq_zero (by omega)
 case false.refine_2|true.refine_2=>
  subst vp;refine Gw ?_;simp only[go_sem];exact .inl hb.none
 all_goals
  refine lT [0,1,5,20,21] (fun g:Nat×SM×List (List AT)=>[(7,.ref (.sl 7 1 0 g.2.2.length)),(22,.i (iI g.1))]) (fun g=>[(13,.map [.s] (Wx g.2.1)),(7,.rows 175 1 (g.2.2.map J2))]) (fun g=>g.1<=paths.length/\BI A fr g.2.1 ((paths.drop g.1).map Fg++g.2.2.map Fg)/\(∀p∈g.2.2,p≠[]/\p.length<=g.2.1.length+1)/\g.2.1.length=seen.length+g.2.2.length) (fun g=>paths.length-g.1) (0,seen,[]) ?_ ⟨by simp,by simpa using hb,by simp,by simp⟩;rintro⟨i,seen1,longer⟩ ⟨xc,qe,hp1,hn1⟩;simp only at xc qe hp1 hn1⊢;have hbl1:=qe.len;by_cases ja:i<paths.length
  ·obtain⟨hp1n,hp1l,hpp⟩:=hp _ (AA ja);have jx:0<(paths.getD i default).length:=List.length_pos_iff.2 hp1n;have hcur:Fg (paths.getD i default)∈(paths.drop i).map Fg++longer.map Fg:=List.mem_append_left _ (List.mem_map.2 ⟨_,by rw[El ja];exact List.mem_cons_self,rfl⟩);obtain⟨m,hm⟩:=Option.isSome_iff_exists.1 (qe.dm _ hcur);obtain⟨hmt,vt,hmr⟩:=j8 _ (aget_mem hm);simp only at hmt vt hmr;have kp:C0 (gi A) (.str ((paths.getD i default).getD (((paths.getD i default).length:Int)-1).toNat default)) .nilmap false=.map (Wx m):=by
    rw[dH];unfold Fg at hm;have e:(((paths.getD i default).length:Int)-1).toNat=(paths.getD i default).length-1:=by omega
    rw[e,hm];rfl
   (repeat' first|simp(disch:=omega)only[go_sem,simprocAttr,Cq ja,J2,kp,dJ,dF,Sd]|refine Sx.s ?_ ?_<;>try(intro h;have h':=h;try simp only[HB]at h';try rewrite [h];try simp only[h])|refine Ab (aB0 m) ?_|refine Ab (aB1 m vt) ?_|refine Ae ?_|(refine And.intro ?_ ?_;focus omega))
   ·refine Gw ?_;simp only[go_sem];obtain⟨x,L,e⟩:=List.exists_cons_of_ne_nil hp1n;rw[e];exact .inr ⟨x,L,rfl,qe.found hcur ⟨m,hm,h'⟩⟩
   generalize hns:CK (m.map fun x=>x.1)=ns;have kl:∀t,t∈ns↔inM m t=true:=fun t=>by rw[Sj hmt,<-hns];exact(List.mergeSort_perm _ _).mem_iff
   have hnl:ns.length<=1000000:=by rw[<-hns];unfold CK;rw[(List.mergeSort_perm _ _).length_eq];simpa using vt
   have hNE:¬Eb A (Fg (paths.getD i default)) fr:=by rintro⟨m2,e1,e2⟩;rw[hm]at e1;cases e1;rw[h']at e2;cases e2
   refine lT [0,1,5,9,20,21,22,40,41] (fun g:Nat×SM×List (List AT)=>[(7,.ref (.sl 7 1 0 g.2.2.length)),(42,.i (iI g.1))]) (fun g=>[(13,.map [.s] (Wx g.2.1)),(7,.rows 175 1 (g.2.2.map J2))]) (fun g=>g.1<=ns.length/\BI A fr g.2.1 ((paths.drop i).map Fg++g.2.2.map Fg)/\(∀t∈ns.take g.1,inM g.2.1 t=true)/\(∀p∈g.2.2,p≠[]/\p.length<=g.2.1.length+1)/\g.2.1.length=seen.length+g.2.2.length) (fun g=>ns.length-g.1) (0,seen1,longer) ?_ ⟨by simp,qe,by simp,hp1,hn1⟩;rintro⟨j,seen2,longer2⟩ ⟨hj,ko,ht2,hp2,hn2⟩;simp only at hj ko ht2 hp2 hn2⊢;have hbl2:=ko.len;by_cases jq:j<ns.length
   ·have jl:=(kl _).1 (AA jq);by_cases vq:inM seen2 (ns.getD j default)=true
    ·(repeat' first|simp(disch:=omega)only[go_sem,simprocAttr,Cq jq,Sd,vq]|refine Ae ?_|fail)
     refine⟨(j+1,seen2,longer2),⟨by simp only;omega,ko,fun t ht=>?_,hp2,hn2⟩,by simp only;omega,⟨rfl,rfl⟩,rfl,rfl⟩;rw[Cg jq]at ht;rcases List.mem_append.1 ht with q|q
     ·exact ht2 t q
     ·rw[List.mem_singleton.1 q];exact vq
    ·replace vq:inM seen2 (ns.getD j default)=false:=by simpa using vq
     have ke:List.take ((paths.getD i default).length+1) (List.map Fx (paths.getD i default)++[[I.str (ns.getD j default)]])=(paths.getD i default++[ns.getD j default]).map Fx:=by rw[List.take_of_length_le (by simp),List.map_append];rfl
     (repeat' first|simp(disch:=omega)only[go_sem,simprocAttr,Cq jq,Sd,Qg,vq,Nat.zero_add,Nat.sub_zero,ke]|(first|refine HO (dW (paths.getD i default) (by omega)) ?_ (fun r sto' hR=>?_)|refine EW (dW (paths.getD i default) (by omega)) ?_ (fun r sto' hR=>?_);(focus(first|rfl|(simp only[go_sem,simprocAttr,Cq jq,dF,Sd,Qg,vq,aBf,aBg,Nat.zero_add,Nat.sub_zero,ke];done)));first|(obtain⟨rfl,rfl⟩:=hR)|(obtain⟨_,(rfl|rfl),rfl,rfl⟩:=hR))|refine Ae ?_|fail)
     refine⟨by simp,by simp[I.one],by omega,by omega,by simp,by simp[I.one],by omega,by omega,(j+1,AO seen2 (ns.getD j default) true,longer2++[paths.getD i default++[ns.getD j default]]),⟨by simp only;omega,?_,fun t ht=>?_,fun p hpp=>?_,?_⟩,by simp only;omega,⟨by simp,rfl⟩,rfl,by simp[J2]⟩
     ·have hcur2:Fg (paths.getD i default)∈(paths.drop i).map Fg++longer2.map Fg:=List.mem_append_left _ (List.mem_map.2 ⟨_,by rw[El ja];exact List.mem_cons_self,rfl⟩);obtain⟨q,hq1,hq2⟩:=List.mem_map.1 ((Sj hmt).1 jl);refine ko.add hcur2 ⟨m,hm,jl⟩ vq (by rw[<-hq2];exact hmr q hq1) fun s=>?_
      simp only[List.map_append,List.map_cons,List.map_nil,aBe,List.mem_append,List.mem_singleton,or_assoc]
     ·rw[Cg jq]at ht;simp only;rw[Sl];rcases List.mem_append.1 ht with q|q
      ·rw[ht2 t q,Bool.or_true]
      ·rw[List.mem_singleton.1 q,decide_eq_true rfl,Bool.true_or]
     ·simp only at hpp⊢;rw[ko.more vq];rcases List.mem_append.1 hpp with q|q
      ·have:=hp2 p q;exact⟨this.1,by omega⟩
      ·rw[List.mem_singleton.1 q];exact⟨by simp,by simp only[List.length_append,List.length_cons,List.length_nil];omega⟩
     ·simp only;rw[ko.more vq,List.length_append,List.length_cons,List.length_nil];omega
   ·refine Hw (Ih jq) ?_;have qy:j=ns.length:=by omega
    subst qy;rw[List.take_length]at ht2;refine⟨(i+1,seen2,longer2),⟨by simp only;omega,ko.done (cur:=Fg (paths.getD i default)) hNE (fun t ⟨m2,e1,e2⟩=>?_) (fun s q=>?_) (fun s q=>?_),hp2,hn2⟩,by simp only;omega,⟨rfl,rfl⟩,rfl,rfl⟩
    ·rw[hm]at e1;cases e1;exact ht2 t ((kl t).2 e2)
    ·rw[El ja,List.map_cons,List.cons_append,List.mem_cons]at q;exact q.symm
    ·rw[El ja,List.map_cons,List.cons_append];exact List.mem_cons_of_mem _ q
  ·refine Hw (Ih ja) ?_;have xi:i=paths.length:=by omega
   subst xi;rw[List.drop_length,List.map_nil,List.nil_append]at qe;refine⟨(false,seen1,longer),⟨qe,fun p q=>⟨(hp1 p q).1,(hp1 p q).2,by simp only;omega⟩⟩,?_,rfl,⟨rfl,?_⟩,?_,?_⟩
   ·simp only;omega
   ·simp[Br,Aa]
   ·simp[OL,Aa,D.nms,Ref.nm]
   ·simp[Qo,OL,Aa,Blk.nms]
end
section
theorem aBi{l:List Nat}{i:Nat}(h:i<l.length):l.getD i 0=l[i]:=by grind
theorem dX(to:List (List Nat))(j:Nat):∀(v i:Nat),i<to.length->(Bb to j).getD i 0=v->v<1000->∀k,1<=k->k<=v->k∈Bb to j
 |0,i,hi,h,_,k,h1,h2=>by omega
 |v+1,i,hi,h,h9,k,h1,h2=>by
  have xi:i<(Bb to j).length:=by rw[K3];exact hi
  by_cases hk:k=v+1
  ·subst hk;rw[<-h,aBi xi];exact List.getElem_mem _
  have hw:=(N5 to j i xi).2;rcases hw with hw|⟨t,ht,hv⟩
  ·omega
  ·have qc:=RO (to:=to) (target:=j) hi ht;unfold gk at hv qc;split at hv
   ·rename_i e;rw[if_pos e]at qc;omega
   ·rename_i e;rw[if_neg e]at qc;have ht9:t<to.length:=by
     apply Classical.byContradiction;intro hn;have h0:(Bb to j).getD t 0=0:=by rw[List.getD_eq_getElem?_getD,List.getElem?_eq_none (by rw[K3];omega)];rfl
     have h3:=(N5 to j i xi).1;omega
    exact dX to j v t ht9 (by omega) (by omega) k h1 (by omega)
theorem aBj(to:List (List Nat))(j i:Nat)(hi:i<to.length)(h9:(Bb to j).getD i 0<1000):(Bb to j).getD i 0<=to.length:=by
 have h:=VK (a:=(List.range ((Bb to j).getD i 0)).map (·+1)) (b:=Bb to j) (by
  rw[List.nodup_iff_pairwise_ne,List.pairwise_map];exact List.Pairwise.imp (fun{a b} (h:a≠b) (e:a+1=b+1)=>h (by omega)) (List.nodup_iff_pairwise_ne.1 List.nodup_range)) (fun x hx=>by
  obtain⟨y,hy,rfl⟩:=List.mem_map.1 hx;rw[List.mem_range]at hy;exact dX to j _ i hi rfl h9 _ (by omega) (by omega))
 rw[List.length_map,List.length_range,K3]at h;exact h
theorem dY{c:Cat}{j:Nat}(hj:j<(AY c).length)(hl:(AY c).length<=900):∀(n i:Nat),i<(AY c).length->EJ (Ov c) n ((AY c).getD i default) ((AY c).getD j default)->(Bb (Wv c (AY c)) j).getD i 0<1000
 |0,i,hi,h=>by have h1:=RO (to:=Wv c (AY c)) (target:=j) (i:=i) (t:=j) (by unfold Wv;simpa using hi) ((VF hi).2 ⟨hj,h⟩);unfold gk at h1;grind
 |n+1,i,hi,h=>by
  obtain⟨m,h1,h2⟩:=h;obtain⟨t,ht,rfl⟩:=Sc (aAr h1);have h3:=RO (to:=Wv c (AY c)) (target:=j) (i:=i) (t:=t) (by unfold Wv;simpa using hi) ((VF hi).2 ⟨ht,h1⟩);have h4:=dY hj hl n t ht h2;have h5:=aBj (Wv c (AY c)) j t (by unfold Wv;simpa using ht) h4;have h6:(Wv c (AY c)).length=(AY c).length:=by unfold Wv;simp
  unfold gk at h3;grind
theorem aBk{c:Cat}{a:AT}{n:Nat}(hl:(AY c).length<=900)(ha:a∈AY c)(h:EJ (Ov c) n a a):H4 c≠[]:=by obtain⟨i,hi,rfl⟩:=Sc ha;intro hc;unfold H4 at hc;rw[bc]at hc;have h1:=dE _ _ hc i hi;grind[dY]
theorem dZ{c:Cat}{name ent:AT}(h:(DR c.features name ent).2=0):(BX c.features name).isSome=true:=by unfold DR at h;unfold BX;grind
theorem aBl{x:Xpr}{acc:List AT×List AT}{b:AT}(h:b∈(GM x acc).1):b∈acc.1\/((x.kind=3\/x.kind=4)/\b=x.name):=by unfold GM at h;grind[Ou]
mutual
theorem eg(c:Cat):∀(x:Xpr) (ent:AT) (t:Tbl) (acc:List AT×List AT),(DT c ent t x).2=0->∀b∈(E7 x acc).1,b∈acc.1\/(BX c.features b).isSome=true
 |.mk k o n tb v u p w a,ent,t,acc,h,b,hb=>by
  have hd:E7 (.mk k o n tb v u p w a) acc=dirRs a (GM (.mk k o n tb v u p w a) acc):=rfl;rw[hd]at hb;rw[RL]at h;split at h
  ·rename_i q;exact absurd h q
  ·simp only[Xpr.args]at h;split at h
   ·rename_i e he;exact absurd h (by simpa using infers_err c a _ _ e he)
   ·rename_i l hl;rcases infers_res c a _ _ _ l hl b hb with q|q
    ·rcases aBl q with q|⟨q1,q2⟩
     ·exact .inl q
     ·refine .inr ?_;rw[q2];unfold opR at h;rcases q1 with e|e<;>simp only[Xpr.kind]at e<;>subst e
      ·simp only[Xpr.kind,Int.reduceEq,if_true,if_false]at h;exact dZ h
      ·simp only[Xpr.kind,Int.reduceEq,if_true,if_false]at h;split at h
       ·simp at h
       ·exact dZ h
    ·exact .inr q
theorem infers_res(c:Cat):∀(l:List Xpr) (ent:AT) (t:Tbl) (acc:List AT×List AT) (ts:List Typ),inferRs c ent t l=.ok ts->∀b∈(dirRs l acc).1,b∈acc.1\/(BX c.features b).isSome=true
 |[],ent,t,acc,ts,h,b,hb=>.inl hb
 |x::r,ent,t,acc,ts,h,b,hb=>by
  simp only[inferRs]at h;simp only[dirRs]at hb;split at h
  ·cases h
  ·rename_i q;split at h
   ·cases h
   ·rename_i l2 hl2;rcases infers_res c r ent t _ l2 hl2 b hb with q2|q2
    ·exact eg c x ent t acc (Classical.not_not.1 q) b q2
    ·exact .inr q2
theorem infers_err(c:Cat):∀(l:List Xpr) (ent:AT) (t:Tbl) (e:Int),inferRs c ent t l=.error e->e≠0
 |[],ent,t,e,h=>by simp[inferRs]at h
 |x::r,ent,t,e,h=>by
  simp only[inferRs]at h;split at h
  ·rename_i q;cases h;exact q
  ·split at h
   ·rename_i e2 he2;cases h;exact infers_err c r ent t _ he2
   ·cases h
end
theorem aBm{m:SM}{n:AT}(h:FJ m):FJ (AO m n true):=by
 induction m with
 |nil=>
  intro p hp;have:p=(n,true):=by simpa[AO]using hp
  rw[this]
 |cons q r ih=>intro p hp;simp only[AO]at hp;grind[FJ]
def MM(m:SM)(l:List AT):Prop:=∀b,inM m b=true↔b∈l
theorem aBn(x:Xpr)(m:SM×SM)(l:List AT×List AT)(h:MM m.1 l.1)(ht:FJ m.1):MM (gm x m).1 (GM x l).1/\FJ (gm x m).1:=by
 unfold gm GM;by_cases hk:x.kind=3\/x.kind=4
 ·rw[if_pos hk,if_pos hk];refine⟨fun b=>?_,aBm ht⟩;rw[Sl,Ou,Bool.or_eq_true,decide_eq_true_eq,h b,eq_comm]
 all_goals grind
mutual
theorem Sm:∀(x:Xpr) (m:SM×SM) (l:List AT×List AT),MM m.1 l.1->FJ m.1->MM (Dz x m).1 (E7 x l).1/\FJ (Dz x m).1
 |.mk k o n tb v u p w a,m,l,h,ht=>by have h1:Dz (.mk k o n tb v u p w a) m=dirMs a (gm (.mk k o n tb v u p w a) m):=rfl;have h2:E7 (.mk k o n tb v u p w a) l=dirRs a (GM (.mk k o n tb v u p w a) l):=rfl;rw[h1,h2];have hh:=aBn (.mk k o n tb v u p w a) m l h ht;exact dirs_same a _ _ hh.1 hh.2
theorem dirs_same:∀(a:List Xpr) (m:SM×SM) (l:List AT×List AT),MM m.1 l.1->FJ m.1->MM (dirMs a m).1 (dirRs a l).1/\FJ (dirMs a m).1
 |[],m,l,h,ht=>⟨h,ht⟩
 |x::r,m,l,h,ht=>by have:=Sm x m l h ht;exact dirs_same r _ _ this.1 this.2
end
theorem VM{c:Cat}:∀{l:List Ftr},D6 c l=0->∀f∈l,DU c f=0
 |g::r,h,f,hf=>by
  simp only[D6]at h;split at h
  ·rename_i q;exact absurd h q
  ·rename_i q;rcases List.mem_cons.1 hf with e|e
   ·rw[e];exact Classical.not_not.1 q
   ·exact VM h f e
theorem el{c:Cat}{f:Ftr}(h:DU c f=0):FB f.body=0/\(DT c f.entity BB f.body).2=0:=by
 unfold DU at h;split at h
 ·simp at h
 ·split at h
  ·rename_i q;exact absurd h q
  ·split at h
   ·rename_i q;exact absurd h q
   ·rename_i q;have q:=Classical.not_not.1 q;unfold E6 at q;split at q
    ·rename_i q2;exact absurd q q2
    ·rename_i q2;exact⟨Classical.not_not.1 q2,q⟩
theorem aBo(f:Ftr)(r:List Ftr)(s:AT):BX (f::r) s=if f.name=s then some f else BX r s:=by unfold BX;grind
theorem ep:∀(l:List Ftr) (acc:DM) (s:AT),Al (l.foldl GW acc) s=match Al acc s with
  |some m=>some m
  |none=>(BX l s).map fun f=>(Dz f.body ([],[])).1
 |[],acc,s=>by cases h:Al acc s<;>simp[h,BX]
 |f::r,acc,s=>by rw[List.foldl_cons,ep r (GW acc f) s,aBo];grind[GW,Sg]
theorem VN(l:List Ftr)(s:AT):Al (Co l) s=(BX l s).map fun f=>(Dz f.body ([],[])).1:=by unfold Co;rw[ep];rfl
theorem eq:∀(l:List Ftr) (acc:DM) (p:AT×SM),p∈l.foldl GW acc->p∈acc\/∃f∈l,p=(f.name,(Dz f.body ([],[])).1)
 |[],acc,p,h=>.inl h
 |f::r,acc,p,h=>by
  rw[List.foldl_cons]at h;rcases eq r _ p h with q|⟨g,hg,e⟩
  all_goals grind[GW]
theorem eu:∀(l:List Ftr) (acc:DM),(l.foldl GW acc).length<=acc.length+l.length
 |[],acc=>by simp
 |f::r,acc=>by rw[List.foldl_cons,List.length_cons];have:=eu r (GW acc f);grind[GW]
theorem aput_len{m:SM}{n:AT}:(AO m n true).length<=m.length+1:=by
 induction m with
 |nil=>simp[AO]
 |cons q r ih=>simp only[AO];split<;>simp<;>omega
mutual
theorem ew:∀(x:Xpr) (m:SM×SM),(Dz x m).1.length<=m.1.length+Bs x
 |.mk k o n tb v u p w a,m=>by
  have h1:Dz (.mk k o n tb v u p w a) m=dirMs a (gm (.mk k o n tb v u p w a) m):=rfl;have h2:=dirMs_len a (gm (.mk k o n tb v u p w a) m);have h3:(gm (.mk k o n tb v u p w a) m).1.length<=m.1.length+1:=by grind[gm,aput_len]
  rw[h1,Bs];omega
theorem dirMs_len:∀(a:List Xpr) (m:SM×SM),(dirMs a m).1.length<=m.1.length+sizeXs a
 |[],m=>by simp[dirMs]
 |x::r,m=>by have h1:=ew x m;have h2:=dirMs_len r (Dz x m);simp only[dirMs,sizeXs];omega
end
theorem VO:MM [] []:=fun b=>by simp[inM,Al]
theorem VP:FJ []:=fun p hp=>by simp at hp
theorem ey{c:Cat}(h:D6 c c.features=0){f:Ftr}(hf:f∈c.features){b:AT}(hb:inM (Dz f.body ([],[])).1 b=true):(BX c.features b).isSome=true:=by
 have h1:=(el (VM h f hf)).2;have h2:=((Sm f.body ([],[]) ([],[]) VO VP).1 b).1 hb;rcases eg c f.body f.entity BB ([],[]) h1 b h2 with q|q
 all_goals grind
theorem aBp{l:List Ftr}{s:AT}{f:Ftr}(h:BX l s=some f):f∈l:=List.mem_of_find?_eq_some h
theorem aBq{c:Cat}(h:D6 c c.features=0):∀p∈Co c.features,FJ p.2/\p.2.length<=1000000/\∀q∈p.2,(Al (Co c.features) q.1).isSome=true:=by
 intro p hp;rcases eq _ _ p hp with q|⟨f,hf,e⟩
 ·cases q
 ·rw[e];have ht:=(Sm f.body ([],[]) ([],[]) VO VP).2;refine⟨ht,?_,fun q hq=>?_⟩
  ·have h1:=(el (VM h f hf)).1;have h2:=ew f.body ([],[]);have h3:Bs f.body<=1000000:=by
    unfold FB at h1;split at h1
    ·simp at h1
    ·omega
   simp only[List.length_nil]at h2;simp only;omega
  ·have:=ey h hf ((Sj ht).2 (List.mem_map.2 ⟨q,hq,rfl⟩));rw[VN,Option.isSome_map];exact this
theorem aBr{c:Cat}(h:D6 c c.features=0):Eb (Co c.features)=Ov c:=by
 funext a b;refine propext ?_;unfold Eb Ov Gg IQ;rw[List.mem_filter,VN];cases e:BX c.features a with
 |none=>
  constructor
  ·rintro⟨m,h1,_⟩;cases h1
  ·rintro⟨h1,_⟩;have:(E7 noX ([],[])).1=[]:=rfl;simp only[Option.getD_none]at h1;rw[this]at h1;cases h1
 |some f=>
  have hs:=(Sm f.body ([],[]) ([],[]) VO VP).1 b;constructor
  ·rintro⟨m,h1,h2⟩;cases h1;exact⟨hs.1 h2,ey h (aBp e) h2⟩
  ·rintro⟨h1,_⟩;exact⟨_,rfl,hs.2 h1⟩
theorem aBs(c:Cat):(AY c).length<=c.features.length:=by have:=RN c.features [];unfold AY;simpa using this
theorem aBt{c:Cat}{s:AT}:(Al (Co c.features) s).isSome=true↔s∈AY c:=by simp[VN,dA,dC]
theorem aBu{c:Cat}(h:D6 c c.features=0)(hl:c.features.length<=32):H4 c=[]↔∀s,(Al (Co c.features) s).isSome=true->¬∃n,EJ (Eb (Co c.features)) n s s:=by grind[aBr,aBk,aBs,aBt,aAs]
end
section
def ez(c:Cat)(r:D)(s:List (Nat×Blk)):Prop:=s=[]/\((r=.i .nilsl/\H4 c=[])\/∃(x:AT) (L:List AT),r=.i (.sl ((x::L).map fun s=>[.str s]))/\H4 c≠[])
theorem aBv(c:Cat)(hc:AP c<=1073741823)(hv:Is mx 139 [.agg (At c)] (iI (EE c.features.length (c.features.length+c.drafts.length) [] (Cf c))))
  (hf:∀f∈c.features,Is mx 140 [.agg (At c),.agg (Ag f)] (iI (DU c f)))(hcy:c.features.length<=32->D6 c c.features=0->MC Tryz.prog (OE mx) 141 [.i (.agg (At c))] [] [] (ez c)):
  Is mx 103 [.agg (At c)] (iI (H7 c)):=by
 have hR:=H7.eq_1 c;have lt:=H2 c.tables;have lf:=Dm c.features;have ld:=Dm c.drafts;have lp:=Dm c.past;have hb:=Ce c;by_cases hlim:16<c.tables.length\/32<c.features.length\/32<c.drafts.length\/32<c.past.length
 ·rw[if_pos hlim]at hR;rw[hR];have l1:(decide ((16:Int)<(c.tables.length:Int))||decide ((32:Int)<(c.features.length:Int))||decide ((32:Int)<(c.drafts.length:Int))||decide ((32:Int)<(c.past.length:Int)))=true:=by simp only[Bool.or_eq_true,decide_eq_true_eq];omega
  refine MX Y7 ?_;exact Dp l1 trivial
 ·rw[if_neg hlim]at hR;have l1:(decide ((16:Int)<(c.tables.length:Int))||decide ((32:Int)<(c.features.length:Int))||decide ((32:Int)<(c.drafts.length:Int))||decide ((32:Int)<(c.past.length:Int)))=false:=by simp only[Bool.or_eq_false_iff,decide_eq_false_iff_not];omega
  refine MX Y7 ?_;refine Dp l1 ?_;refine lT [1,33,34] (fun i:Nat=>[(35,.i (iI i))]) (fun _=>[]) (fun i=>i<=c.tables.length/\Hn (Gh c.tables i) (c.tables.drop i)=Hn none c.tables) (fun i=>c.tables.length-i) 0 ?_ ⟨by omega,rfl⟩;rintro i ⟨hi,jb⟩;by_cases ja:i<c.tables.length
  ·have hm:=AA ja;have hbt:Dt (c.tables.getD i default)<=1073741824:=by have:=Cd (b:=Dt) hm;omega
   have h1:=uJ (mx:=mx) (c.tables.getD i default) (fun f hf=>by have h1:=H1 (c.tables.getD i default);have h2:=Cd (b:=F2) hf;have h3:=NT f;have h4:Ek f.typ=Af A5 f.typ.unit+f.typ.of.length+1:=rfl;have h5:=Ft f.typ.unit;show f.typ.unit.length<=_;omega) (by have h1:=H1 (c.tables.getD i default);have:=PF (c.tables.getD i default).fields;omega);rw[<-vH]at h1;rw[El ja,bf]at jb;have hnx:Gh c.tables (i+1)=some (c.tables.getD i default).name:=by simp[Gh]
   rw[<-hnx]at jb;by_cases h0:i=0
   ·subst h0;have hp0:gtP (Gh c.tables 0) (c.tables.getD 0 default).name=false:=rfl;simp only[hp0,Bool.false_eq_true,if_false]at jb;have hz:(0:Int)<(c.tables.length:Int):=by omega
    by_cases ht:GH (c.tables.getD 0 default)=0
    ·rw[if_neg (by omega)]at jb;rw[ht]at h1;refine A4 (cj h1 (cj hz (cj @Int.natCast_zero @Int.lt_irrefl))) ?_;exact⟨1,⟨ja,jb⟩,by omega,rfl⟩
    ·rw[if_pos ht]at jb;rw[<-jb,if_pos ht]at hR;rw[hR];exact A4 (cj h1 (cj hz (cj @Int.natCast_zero ht))) trivial
   ·have hpr:Gh c.tables i=some (c.tables.getD (i-1) default).name:=by simp[Gh,h0]
    have hg:gtP (Gh c.tables i) (c.tables.getD i default).name=(Op.bytesLess (c.tables.getD i default).name (c.tables.getD (i-1) default).name||decide ((c.tables.getD i default).name=(c.tables.getD (i-1) default).name)):=by rw[hpr];rfl
    rw[hg]at jb;have jx:(0:Int)<(i:Int):=by omega
    have j9:((i:Int)-1).toNat=i-1:=by omega
    have ky:(i:Int)-1=((i-1:Nat):Int):=by omega
    have hltp:i-1<c.tables.length:=by omega
    by_cases ht:GH (c.tables.getD i default)=0
    ·rw[if_neg (by omega)]at jb;rw[ht]at h1;cases hgv:(Op.bytesLess (c.tables.getD i default).name (c.tables.getD (i-1) default).name||decide ((c.tables.getD i default).name=(c.tables.getD (i-1) default).name))
     ·rw[hgv,if_neg (by simp)]at jb;refine A4 (cj h1 (cj (Cq ja) (cj jx (cj ky (cj (Cq hltp) hgv))))) ?_;exact⟨i+1,⟨by omega,jb⟩,by omega,rfl⟩
     ·rw[hgv,if_pos rfl]at jb;rw[<-jb,if_pos (by decide)]at hR;rw[hR];exact A4 (cj h1 (cj (Cq ja) (cj jx (cj ky (cj (Cq hltp) hgv))))) trivial
    ·rw[if_pos ht]at jb;rw[<-jb,if_pos ht]at hR;rw[hR];exact A4 (cj h1 (cj (Cq ja) ht)) trivial
  ·rw[List.drop_eq_nil_of_le (by omega),show∀p,Hn p []=0 from fun p=>by cases p<;>rfl]at jb;rw[<-jb,if_neg (by simp)]at hR;by_cases hvz:EE c.features.length (c.features.length+c.drafts.length) [] (Cf c)=0
   ·rw[if_neg (by omega)]at hR;rw[hvz]at hv;refine A4 (cj hv (Ih ja)) ?_;refine lT [1,66,67] (fun i:Nat=>[(68,.i (iI i))]) (fun _=>[]) (fun i=>i<=c.features.length/\D6 c (c.features.drop i)=D6 c c.features) (fun i=>c.features.length-i) 0 ?_;rintro j ⟨hj,hjv⟩;by_cases jq:j<c.features.length
    ·have hm:=AA jq;have h1:=hf _ hm;rw[Cx]at h1;rw[El jq]at hjv;simp only[D6]at hjv;by_cases ht:DU c (c.features.getD j default)=0
     ·rw[if_neg (by omega)]at hjv;rw[ht]at h1;refine A4 (cj h1 (cj (Cq jq) @Cx)) ?_;exact⟨j+1,⟨by omega,hjv⟩,by omega,rfl⟩
     ·rw[if_pos ht]at hjv;rw[<-hjv,if_pos ht]at hR;rw[hR];exact A4 (cj h1 (cj (Cq jq) (cj @Cx ht))) trivial
    ·rw[List.drop_eq_nil_of_le (by omega)]at hjv;rw[<-hjv,if_neg (by simp[D6])]at hR;have hcy':=hcy (by omega) (by rw[<-hjv];rfl);have hce:At c=[.sl (c.tables.map AR),.sl (c.features.map Ag),.sl (c.drafts.map Ag),.sl (c.past.map Ag)]:=rfl;rw[hce]at hcy';refine Hw (Ih jq) ?_;refine EW hcy' ?_ (fun r sto' hR'=>?_)
     ·simp only[go_sem,Nat.reduceEqDiff,List.map_cons,List.map_nil]
     obtain⟨rfl,⟨rfl,h0⟩|⟨x,L,rfl,h0⟩⟩:=hR'
     ·rw[if_neg (by simp[h0])]at hR;rw[hR];exact Lbn trivial
     ·rw[if_pos h0]at hR;rw[hR];refine WB ?_;intro _ _;exfalso;omega
   ·rw[if_pos hvz]at hR;rw[hR];exact A4 (cj hv (cj (Ih ja) hvz)) trivial
end
section
theorem eA{neg:Bool}{r:List I}{rs:List (List I)}{d:Nat}{st:St}{K:St->Prop}:CN .sl neg (.i (.sl (r::rs))) d st K=K (st.put d (.i (.bool (false !=neg)))):=rfl
abbrev CyI:=Option (AT×List AT)
def cyI:CyI->I
 |none=>.nilsl
 |some p=>.sl (Fx p.1::p.2.map Fx)
theorem aBw(c:Cat)(hc:AP c<=1073741823)(hl:c.features.length<=32)(h0:D6 c c.features=0):MC Tryz.prog (OE mx) 141 [.i (.agg (At c))] [] [] (ez c):=by
 have hr:=aBq h0;have hal:(Co c.features).length<=32:=by grind[eu,Co]
 have hcy:=aBu h0 hl;have d1:=aBd (mx:=mx) c hc (fun p hp=>(hr p hp).2.2);have d2:=aB3 (mx:=mx) (Co c.features);have d3:=aB4 (mx:=mx) (Co c.features) (by omega);refine MX oS ?_
 (repeat' first|simp(disch:=omega)only[go_sem,simprocAttr]|refine Sx.s ?_ ?_<;>try(intro h;have h':=h;try simp only[HB]at h';try rewrite [h];try simp only[h])|refine Ab (d1) ?_|refine Ab (d2) ?_|refine Ab (d3) ?_|fail)
 generalize hns:CK ((Co c.features).map fun x=>x.1)=ns;have kl:∀t,t∈ns->(Al (Co c.features) t).isSome=true:=fun t ht=>by rw[<-hns]at ht;exact VJ ((List.mergeSort_perm _ _).mem_iff.1 ht)
 have hmem2:∀t,(Al (Co c.features) t).isSome=true->t∈ns:=fun t ht=>by rw[<-hns];obtain⟨v,e⟩:=Option.isSome_iff_exists.1 ht;exact(List.mergeSort_perm _ _).mem_iff.2 (List.mem_map.2 ⟨_,aget_mem e,rfl⟩)
 have hnl:ns.length<=32:=by rw[<-hns];unfold CK;rw[(List.mergeSort_perm _ _).length_eq];simpa using hal
 generalize hA:Co c.features=A at*;refine BG [3,11,12] (by simp only[V0,MQ,reduceIte,Nat.reduceEqDiff];rfl) (fun g:Nat×CyI=>[(2,.i (cyI g.2)),(13,.i (iI g.1))]) (fun _=>[])
  (fun g=>g.1<=ns.length/\(g.2=none↔∀s∈ns.take g.1,¬∃n,EJ (Eb A) n s s)) (fun g=>ns.length-g.1) (0,none) ⟨by simp,by simp⟩ (by simp[V0,I9,L9,cyI]) ?_
 rintro⟨i,cur⟩ ⟨hi,jb⟩;simp only at hi jb⊢;by_cases ja:i<ns.length
 ·have hs:=kl _ (AA ja);refine Hw (Cq ja) ?_;refine EW (aBh A (ns.getD i default) (by omega) hr hs) ?_ (fun r sto' hR=>?_)
  ·simp only[go_sem,Nat.reduceEqDiff,List.map_cons,List.map_nil]
  have jr:∀cur':CyI,(cur'=none↔cur=none/\¬∃n,EJ (Eb A) n (ns.getD i default) (ns.getD i default))->(cur'=none↔∀s∈ns.take (i+1),¬∃n,EJ (Eb A) n s s):=fun cur' hc'=>by rw[hc',jb,Cg ja];grind
  have b1:(true !=true)=false:=rfl;have b2:(false !=true)=true:=rfl;have b3:(false !=false)=false:=rfl;have b4:(true !=false)=true:=rfl;obtain⟨rfl,⟨rfl,hn⟩|⟨x,L,rfl,hw⟩⟩:=hR
  ·refine Man b1 ?_;exact⟨(i+1,cur),⟨by simp only;omega,jr cur ⟨fun e=>⟨e,hn⟩,fun e=>e.1⟩⟩,by simp only;omega,rfl,rfl⟩
  ·cases cur with
   |none=>simp only[cyI];refine Pm (cj @eA (cj b2 b4)) ?_;exact⟨(i+1,some (x,L)),⟨by simp only;omega,jr _ ⟨fun e=>(Option.some_ne_none _ e).elim,fun e=>absurd hw e.2⟩⟩,by simp only;omega,rfl,rfl⟩
   |some p=>
    obtain⟨y,L2⟩:=p;simp only[cyI];refine A4 (cj @eA (cj b2 b3)) (cj ?_ ?_)
    ·intro _ _;exact⟨(i+1,some (x,L)),⟨by simp only;omega,jr _ ⟨fun e=>(Option.some_ne_none _ e).elim,fun e=>absurd hw e.2⟩⟩,by simp only;omega,rfl,rfl⟩
    ·intro _ _;exact⟨(i+1,some (y,L2)),⟨by simp only;omega,jr _ ⟨fun e=>(Option.some_ne_none _ e).elim,fun e=>absurd hw e.2⟩⟩,by simp only;omega,rfl,rfl⟩
 ·refine Hw (Ih ja) ?_;have xi:i=ns.length:=by omega
  subst xi;rw[List.take_length]at jb;have qr:cur=none↔H4 c=[]:=by grind
  refine Gw ?_;simp only[go_sem];refine⟨rfl,?_⟩;cases cur with
  |none=>exact .inl ⟨rfl,qr.1 rfl⟩
  |some p=>exact .inr ⟨p.1,p.2,rfl,fun e=>by have:=qr.2 e;cases this⟩
end
end Go.Proofs.YtkhlddbmhehbbaaGreatDoor
