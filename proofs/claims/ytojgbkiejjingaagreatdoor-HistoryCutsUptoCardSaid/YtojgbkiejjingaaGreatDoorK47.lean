/-
  Lemmas, no statement.
-/
import Derived.Test.YtojgbkiejjingaaGreatDoorK46
set_option linter.all false
set_option maxRecDepth 100000
set_option maxHeartbeats 8000000
namespace Go.Proofs.YtojgbkiejjingaaGreatDoor
open Go Go.Dl Go.As Go.Proofs
variable {mx:Int}
attribute[local irreducible] Ah Aj MC W W2 FA ev evD step Ae
section
theorem YA:Is mx 42 [.agg (Aw Br),.agg (AD e1.change)] (LJ (Cv Br e1.change)):=py [] e1.change rfl (by decide)
theorem pX:Is mx 11 [.sl (Nu.map Ad)] (iI 0):=by
 have h:=o5 (mx:=mx) Nu (by have:=pE;omega) (fun i hi _ hk=>by
  have hi:i<5:=hi;have:i=0\/i=1\/i=2\/i=3\/i=4:=by omega
  rcases this with rfl|rfl|rfl|rfl|rfl
  ·exact YA
  all_goals exact absurd hk (by decide))
 grind[pF]
theorem pY(tick:Int)(ht:0<=tick):Is mx 22 [.sl (Nu.map Ad),iI tick] (.agg (Aw (atR Nu tick))):=o9 Nu tick (by decide) (fun i hi hk _=>by
  have hi:i<5:=hi;have:i=0\/i=1\/i=2\/i=3\/i=4:=by omega
  rcases this with rfl|rfl|rfl|rfl|rfl
  ·exact YA
  all_goals exact absurd hk (by decide))
theorem YB(tick:Int)(ht:0<=tick)(hb:(atR Nu tick).tables.length<=1073741824):Is mx 33 [.sl (Nu.map Ad),iI tick] (.sl ((LC (atR Nu tick) (Cw Nu tick) tick).map KB)):=n0 Nu tick (atR Nu tick) (by decide) hb (pY tick ht)
theorem YC(r:Rw)(h:eqL (MT true) [r] [r]=true)(hb:r.fields.length<=1073741824):Is mx 18 [.sl ([r].map KB),.sl ([r].map KB),.bool true] (.bool true):=by grind[jP]
theorem pZ:DE [Bi 1,Bi 4]=[Bi 1,Bi 4]:=(RX (List.Perm.refl _) (by simp[Ct,Bi];decide)).symm
theorem p3:DE [Bi 1]=[Bi 1]:=List.mergeSort_singleton _
theorem p4:Is mx 21 [.sl (rO.map Ad)] (.sl ([Bi 1].map Ak)):=by have h:=R2 (mx:=mx) rO (by decide);grind[pU,p3]
theorem p5:Is mx 21 [.sl (wU.map Ad)] (.sl ([Bi 1,Bi 4].map Ak)):=by have h:=R2 (mx:=mx) wU (by decide);grind[pV,pZ]
theorem p6:Is mx 16 [.sl (rO.map Ad)] (.sl (rE.map Ad)):=by have h:=XT (mx:=mx) rO (by decide);grind[pW]
theorem p7:Is mx 20 [.sl ([Bi 1].map Ak),.sl ([Bi 1].map Ak)] (.bool true):=by have h:=Q9 (mx:=mx) [Bi 1] [Bi 1] (by simp) (by simp);grind[eqL,I5,Bi]
theorem p8:Is mx 20 [.sl ([Bi 1,Bi 4].map Ak),.sl ([Bi 1,Bi 4].map Ak)] (.bool true):=by have h:=Q9 (mx:=mx) [Bi 1,Bi 4] [Bi 1,Bi 4] (by simp) (by simp);grind[eqL,I5,Bi]
theorem p9:Is mx 15 [.sl (rE.map Ad),.sl (rE.map Ad)] (.bool true):=by have h:=OS (mx:=mx) rE rE (by decide) (by decide) (fun x hx=>by have:=B0 (b:=AF) hx;have h2:Ag AF rE<=1000:=(by decide);omega) (fun x hx=>by have:=B0 (b:=AF) hx;have h2:Ag AF rE<=1000:=(by decide);omega);rw[show eqL Jc rE rE=true by kernel_rfl]at h;exact h
theorem qA:([I.int .i64 1,I.int .i64 0,I.int .i64 3,I.str [],I.int .i64 0,I.int .i64 0,I.int .i64 0,I.str [],I.str [],I.int .i64 0,I.sl [],I.int .i64 0,I.str [],I.str [],I.str [],I.int .i64 0,I.int .i64 1,I.str [99,108,105,99,107,115],I.str [117,115,101,114],I.sl [[I.str [110],I.int .i64 2,I.sl [],I.str []]],I.int .i64 100,I.str [],I.str [],I.int .i64 0,I.sl [],I.str [],I.int .i64 0,I.str [],I.str [],I.str [],I.int .i64 0,I.int .i64 0,I.str [],I.sl [],I.int .i64 0,I.int .i64 0,I.int .i64 0,I.sl [],I.int .i64 0,I.str []]:List I)=Ad e1:=rfl
theorem qB:([I.str [115],I.int .i64 1,I.str [99,108,105,99,107,115],I.str [117],I.int .i64 10,I.sl [[I.int .i64 2,I.int .i64 7,I.str []]],I.int .i64 2,I.int .i64 12]:List I)=KB Pn:=rfl
theorem qC:([I.str [115],I.int .i64 4,I.str [99,108,105,99,107,115],I.str [117],I.int .i64 25,I.sl [[I.int .i64 2,I.int .i64 9,I.str []]],I.int .i64 5,I.int .i64 30]:List I)=KB Id:=rfl
abbrev qD:I:=.sl [Ad e1,Ad e2,Ad e3,Ad e4,Ad e5]
theorem Fy(x:Ent):(∀r∈[Ad x],r.length=40)=True/\(∀r∈[Ad x],r.all I.one=true)=True:=D9 Dj Fu x
theorem YD:(∀r∈[Ad e1,Ad e2,Ad e3,Ad e4,Ad e5],r.length=40)=True/\(∀r∈[Ad e1,Ad e2,Ad e3,Ad e4,Ad e5],r.all I.one=true)=True:=by have h:=BH Nu Dj Fu;exact⟨eq_true h.1,eq_true h.2⟩
theorem YE:Is mx 13 [] (.bool true):=by
 have i1:=Pl (mx:=mx) 1;have i2:=Pl (mx:=mx) 2;have i3:=Pl (mx:=mx) 3;have i4:=Pl (mx:=mx) 4;have n5:=Sc (mx:=mx) 5;have n7:=Sc (mx:=mx) 7;have n9:=Sc (mx:=mx) 9;have f2:Is mx 45 [iI 2,iI 12,.agg [.str [115],.int .i64 2,.int .i64 2,.int .i64 1,.str [99,108,105,99,107,115],.str [117],.int .i64 10,.sl [[.int .i64 2,.int .i64 7,.str []]]]] (.agg (Ad e2)):=Pm 2 12 e2.fact;have f3:Is mx 45 [iI 3,iI 15,.agg [.str [115],.int .i64 1,.int .i64 1,.int .i64 0,.str [99,108,105,99,107,115],.str [117],.int .i64 10,.sl [[.int .i64 2,.int .i64 5,.str []]]]] (.agg (Ad e3)):=Pm 3 15 e3.fact;have f4:Is mx 45 [iI 4,iI 20,.agg [.str [115],.int .i64 3,.int .i64 3,.int .i64 1,.str [],.str [],.int .i64 0,.sl []]] (.agg (Ad e4)):=Pm 4 20 e4.fact;have f5:Is mx 45 [iI 5,iI 30,.agg [.str [115],.int .i64 4,.int .i64 1,.int .i64 0,.str [99,108,105,99,107,115],.str [117],.int .i64 25,.sl [[.int .i64 2,.int .i64 9,.str []]]]] (.agg (Ad e5)):=Pm 5 30 e5.fact;have x6:Is mx 47 [iI 6,iI 40,.agg [.int .i64 2,.str [],.str [],.str [115],.int .i64 1]] (.agg (Ad (CY 6 40 YS))):=Ns 6 40 YS;have y6:Is mx 47 [iI 6,iI 40,.agg [.int .i64 1,.str [117,115,101,114],.str [117],.str [],.int .i64 0]] (.agg (Ad (CY 6 40 wT))):=Ns 6 40 wT;have x2:Is mx 47 [iI 2,iI 12,.agg [.int .i64 2,.str [],.str [],.str [115],.int .i64 1]] (.agg (Ad (CY 2 12 YS))):=Ns 2 12 YS;have x3:Is mx 47 [iI 3,iI 15,.agg [.int .i64 2,.str [],.str [],.str [115],.int .i64 1]] (.agg (Ad (CY 3 15 YS))):=Ns 3 15 YS;have x4:Is mx 47 [iI 4,iI 20,.agg [.int .i64 2,.str [],.str [],.str [115],.int .i64 1]] (.agg (Ad (CY 4 20 YS))):=Ns 4 20 YS;have ck:Is mx 11 [qD] (iI 0):=pX;have hb:Nu.length<=30000:=by decide
 have g12:=Pg (mx:=mx) Nu 12 hb;have g15:=Pg (mx:=mx) Nu 15 hb;have g20:=Pg (mx:=mx) Nu 20 hb;have g30:=Pg (mx:=mx) Nu 30 hb;have v125:=YB (mx:=mx) 125 (by decide) (by decide);have v126:=YB (mx:=mx) 126 (by decide) (by decide);rw[pM]at g12;rw[pN]at g15;rw[pO]at g20;rw[pP]at g30;rw[pS]at v125;rw[pT]at v126;have s1:=YC (mx:=mx) Pn (by kernel_rfl) (by decide);have s2:=YC (mx:=mx) Id (by kernel_rfl) (by decide);have YM:=p4 (mx:=mx);have er2:=p5 (mx:=mx);have pu:=p6 (mx:=mx);have sp:=p9 (mx:=mx);have si1:=p7 (mx:=mx);have si2:=p8 (mx:=mx);simp only[Nu,rO,wU,rE,List.map_cons,List.map_nil,List.cons_append,List.nil_append]at g12 g15 g20 g30 v125 v126 s1 s2 YM er2 pu sp;simp only[Bi,List.map_cons,List.map_nil,Ak]at YM er2 si1 si2;have j1:(CY 6 40 YS).erasure.kind=2:=rfl;have j2:(CY 6 40 YS).erasure.entity=[]:=rfl;have j3:(CY 6 40 YS).erasure.key=[]:=rfl;have j4:(CY 6 40 YS).erasure.id.source=[115]:=rfl;have j5:(CY 6 40 YS).erasure.id.seq=1:=rfl;refine MX x7 ?_
 (repeat' first|simp(disch:=omega)only[go_sem,simprocAttr,(Fy e2).1,(Fy e2).2,(Fy e3).1,(Fy e3).2,(Fy e4).1,(Fy e4).2,(Fy e5).1,(Fy e5).2,YD.1,YD.2,qA,qB,qC,ne_eq,not_true_eq_false,decide_false,decide_true,Bool.or_false,Int.natCast_zero,j1,j2,j3,j4,j5,(Fy (CY 6 40 YS)).1,(Fy (CY 6 40 YS)).2,(Fy (CY 6 40 wT)).1,(Fy (CY 6 40 wT)).2]|refine Sx.s ?_ ?_<;>try(intro h;have h':=h;try simp only[HB]at h';try rewrite [h];try simp only[h])|refine Ab (i1) ?_|refine Ab (i2) ?_|refine Ab (i3) ?_|refine Ab (i4) ?_|refine Ab (n5) ?_|refine Ab (n7) ?_|refine Ab (n9) ?_|refine Ab (f2) ?_|refine Ab (f3) ?_|refine Ab (f4) ?_|refine Ab (f5) ?_|refine Ab (ck) ?_|refine Ab (g12) ?_|refine Ab (g15) ?_|refine Ab (g20) ?_|refine Ab (g30) ?_|refine Ab (v125) ?_|refine Ab (v126) ?_|refine Ab (s1) ?_|refine Ab (s2) ?_|refine Ab (YM) ?_|refine Ab (er2) ?_|refine Ab (pu) ?_|refine Ab (sp) ?_|refine Ab (si1) ?_|refine Ab (si2) ?_|refine Ab (x6) ?_|refine Ab (y6) ?_|refine Ab (x2) ?_|refine Ab (x3) ?_|refine Ab (x4) ?_|refine Aa ?_|refine D2 ?_ ?_|refine Am ?_|refine Sz.s ?_|fail)
end
section
theorem YF(m:List (Fid×Bool))(x:Fid)(h:∀p∈m,p.2=true):∀p∈BG m x true,p.2=true:=by
 induction m with
 |nil=>intro p hp;simp[BG]at hp;rw[hp]
 |cons q r ih=>grind[BG]
theorem qE(L:List Fid):∀m:List (Fid×Bool),(∀p∈m,p.2=true)->∀p∈DU m L,p.2=true:=by
 induction L with
 |nil=>intro m h;exact h
 |cons x r ih=>intro m h;exact ih _ (YF m x h)
theorem YG(l:List Ent):∀i,i<=l.length->∀p∈(Jp l i).ids,p.2=true
 |0,_=>by simp[Jp]
 |i+1,hi=>by
  have ih:=YG l i (by omega);rw[Jg (by omega)];unfold YM
  repeat' split
  all_goals first|exact ih|exact YF _ _ ih|exact qE _ _ ih
theorem qF{m:List (Fid×Bool)}(h:∀p∈m,p.2=true)(id:Fid):rm m id=true↔id∈m.map (·.1):=by
 unfold rm;constructor
 ·intro h1;cases hg:AR m id with
  |none=>rw[hg]at h1;cases h1
  |some v=>exact List.mem_map.2 ⟨(id,v),U3 hg,rfl⟩
 ·intro h1;obtain⟨v,hv⟩:=Go.Dl.aget_some h1;rw[hv];exact h _ (U3 hv)
theorem qG{l:List Ent}(h:Valid l)(id:Fid):rm (Jp l l.length).ids id=G1 (Ez l) id:=by rw[Bool.eq_iff_iff,qF (YG l l.length (Nat.le_refl _)),ng,XN h]
theorem YH{l:List Ent}(h:Valid l):l.map (By (Jp l l.length).ids)=DT l:=by simp_all[DT,By,DS,qG]
theorem qH{l:List Ent}(h:Valid l)(no:Int):Np (Jp l l.length).ids l no=Ia l no:=by grind[Np,Ia,YH]
theorem qI(x:Val):DO x x=true:=by simp[DO]
theorem qJ(x:Fct):OR x x=true:=by simp[OR,Kz,DO,qI]
theorem qK(x:Ent):Jc x x=true:=by simp[Jc,qJ,Yp,Yr]
theorem YI(l:List Ent):eqL Jc l l=true:=Kz _ l fun x _=>qK x
theorem qM(x:Fid):I5 x x=true:=by simp[I5]
theorem qN(f:Fct):F6 (AW f)<=F6 f.id:=by grind[AW,F6]
theorem YJ(g:List Fid)(e:Ent):AF (DS g e)<=AF e+100:=by
 unfold DS;split
 ·have h:=qN e.fact;have h1:=Fl (DR e);have h2:=Fl e;have h3:=Jb e.fact;have h4:F8 Ks+Dx Gh<=50:=by decide
  have h5:GK (DR e).erasure=F6 (AW e.fact)+1:=by simp[DR,GK]
  have h6:F8 (DR e).fact=F8 Ks:=rfl;have h7:Dx (DR e).change=Dx Gh:=rfl;omega
 ·omega
end
section
theorem qO(l:List Ent)(hb:Ag AF l<=1048576):Is mx 4 [.sl (l.map Ad)] (.bool true):=by
 have v1:=Yx (mx:=mx) l (by omega);have ex:=YE (mx:=mx);cases hf:G3 l&&decide (EY l=0)
 ·rw[hf]at v1;refine MX F4 ?_
  (repeat' first|simp(disch:=omega)only[go_sem,simprocAttr]|refine Sx.s ?_ ?_<;>try(intro h;have h':=h;try simp only[HB]at h';try rewrite [h];try simp only[h])|refine Ab (v1) ?_|refine Sz.s ?_|fail)
 ·rw[hf]at v1;rw[Bool.and_eq_true,decide_eq_true_eq]at hf;have hV:=XG hf.2;have h60:l.length<=60:=by grind[G3]
  have p1:=XT (mx:=mx) l (by omega);have p2:=Xq (mx:=mx) l (by omega) (by omega);rw[YH hV]at p1;have xb:∀x∈DT l,AF x<=1073741824:=fun x hx=>by grind[DT,YJ,Ez,B0,AF]
  have s1:=OS (mx:=mx) (DT l) (DT l) (by unfold DT;simp;omega) (by unfold DT;simp;omega) xb xb;rw[YI]at s1;refine MX F4 ?_
  (repeat' first|simp(disch:=omega)only[go_sem,simprocAttr]|refine Sx.s ?_ ?_<;>try(intro h;have h':=h;try simp only[HB]at h';try rewrite [h];try simp only[h])|refine Ab (v1) ?_|refine Ab (p1) ?_|refine Ab (p2) ?_|refine Ab (s1) ?_|refine Ab (ex) ?_|refine Sz.s ?_|fail)
theorem qP(l:List Ent)(tick no:Int)(hb:Ag AF l<=1048576):Is mx 7 [.sl (l.map Ad),iI tick,iI no] (.bool true):=by
 have v1:=Yx (mx:=mx) l (by omega);have ex:=YE (mx:=mx);cases hf:G3 l&&decide (EY l=0)
 ·rw[hf]at v1;refine MX F7 ?_
  (repeat' first|simp(disch:=omega)only[go_sem,simprocAttr]|refine Sx.s ?_ ?_<;>try(intro h;have h':=h;try simp only[HB]at h';try rewrite [h];try simp only[h])|refine Ab (v1) ?_|refine Aa ?_|refine Sz.s ?_|fail)
 ·rw[hf]at v1;rw[Bool.and_eq_true,decide_eq_true_eq]at hf;have hV:=XG hf.2;have h60:l.length<=60:=by grind[G3]
  have u1:=pd (mx:=mx) l tick (by omega);have u2:=mP (mx:=mx) l tick (by omega);have p1:=nQ (mx:=mx) l no (by omega);have p2:=mU (mx:=mx) l no (by omega) (by omega);have q1:=R2 (mx:=mx) l (by omega);have q2:=Xo (mx:=mx) l (by omega) (by omega);rw[qH hV]at p1;rw[nv hV]at q1;have hbu:∀x∈AQ l tick,AF x<=1073741824:=fun x hx=>by have he:=(List.mem_filter.1 hx).1;grind[B0,AF]
  have hlu:(AQ l tick).length<=l.length:=List.length_filter_le _ _;have hlp:(Ia l no).length<=l.length:=by grind[Ia,DT]
  have ji:(Ez l).length<=1000000000:=Xp (by omega);have xb:∀x∈Ia l no,AF x<=1073741824:=fun x hx=>by have hx:=(List.mem_filter.1 hx).1;grind[DT,YJ,Ez,B0,AF]
  have s1:=OS (mx:=mx) (AQ l tick) (AQ l tick) (by omega) (by omega) hbu hbu;have s2:=OS (mx:=mx) (Ia l no) (Ia l no) (by omega) (by omega) xb xb;have s3:=Q9 (mx:=mx) (Ez l) (Ez l) (by omega) (by omega);rw[YI]at s1 s2;rw[Kz I5 _ fun x _=>qM x]at s3;refine MX F7 ?_
  (repeat' first|simp(disch:=omega)only[go_sem,simprocAttr]|refine Sx.s ?_ ?_<;>try(intro h;have h':=h;try simp only[HB]at h';try rewrite [h];try simp only[h])|refine Ab (v1) ?_|refine Ab (u1) ?_|refine Ab (u2) ?_|refine Ab (p1) ?_|refine Ab (p2) ?_|refine Ab (q1) ?_|refine Ab (q2) ?_|refine Ab (s1) ?_|refine Ab (s2) ?_|refine Ab (s3) ?_|refine Ab (ex) ?_|refine Aa ?_|refine Sz.s ?_|fail)
end
end Go.Proofs.YtojgbkiejjingaaGreatDoor
