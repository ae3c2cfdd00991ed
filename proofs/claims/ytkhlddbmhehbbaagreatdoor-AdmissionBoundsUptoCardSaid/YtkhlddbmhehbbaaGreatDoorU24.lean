/-Lemmas.-/
import Derived.Test.YtkhlddbmhehbbaaGreatDoorU23
set_option linter.all false
set_option maxRecDepth 100000
set_option maxHeartbeats 8000000
namespace Go.Proofs.YtkhlddbmhehbbaaGreatDoor
open Go Go.Dl Go.As Go.Proofs
variable {mx:Int}
attribute[local irreducible] Ah Ai MC W2 EM ev evD step Ad
section
theorem fp(m:List (Fid×Bool))(x:Fid)(h:∀p∈m,p.2=true):∀p∈AO m x true,p.2=true:=by
 induction m with
 |nil=>intro p hp;simp[AO]at hp;rw[hp]
 |cons q r ih=>grind[AO]
theorem aDl(L:List Fid):∀m:List (Fid×Bool),(∀p∈m,p.2=true)->∀p∈Fe m L,p.2=true:=by
 induction L with
 |nil=>intro m h;exact h
 |cons x r ih=>intro m h;exact ih _ (fp m x h)
theorem fq(l:List Ent):∀i,i<=l.length->∀p∈(OH l i).ids,p.2=true
 |0,_=>by simp[OH]
 |i+1,hi=>by
  have ih:=fq l i (by omega);rw[Lc (by omega)];unfold gq
  repeat' split
  all_goals first|exact ih|exact fp _ _ ih|exact aDl _ _ ih
theorem aDm{m:List (Fid×Bool)}(h:∀p∈m,p.2=true)(id:Fid):inG m id=true↔id∈m.map (·.1):=by
 unfold inG;constructor
 ·intro h1;cases hg:Al m id with
  |none=>rw[hg]at h1;cases h1
  |some v=>exact List.mem_map.2 ⟨(id,v),aget_mem hg,rfl⟩
 ·intro h1;obtain⟨v,hv⟩:=Go.Dl.aget_some h1;rw[hv];exact h _ (aget_mem hv)
theorem fu{l:List Ent}(h:Valid l)(id:Fid):inG (OH l l.length).ids id=Be (AF l) id:=by rw[Bool.eq_iff_iff,aDm (fq l l.length (Nat.le_refl _)),P6,fj h]
theorem aDn{l:List Ent}(h:Valid l):l.map (Ff (OH l l.length).ids)=BZ l:=by simp_all[BZ,Ff,BE,fu]
theorem fw(x:Val):CJ x x=true:=by simp[CJ]
theorem fx(x:Fct):Dn x x=true:=by simp[Dn,Lh,CJ,fw]
theorem aDo(x:Ent):Mv x x=true:=by simp[Mv,fx,R9,Sa]
theorem aDp(l:List Ent):eqL Mv l l=true:=Lh _ l fun x _=>aDo x
theorem aDq(f:Fct):Hf (Ay f)<=Hf f.id:=by grind[Ay,Hf]
theorem aDr(g:List Fid)(e:Ent):Am (BE g e)<=Am e+100:=by
 unfold BE;split
 ·have h:=aDq e.fact;have h1:=DS (DI e);have h2:=DS e;have h3:=IM e.fact;have h4:Bz CT+Cl CU<=50:=by decide
  have h5:DD (DI e).erasure=Hf (Ay e.fact)+1:=by simp[DI,DD]
  have h6:Bz (DI e).fact=Bz CT:=rfl;have h7:Cl (DI e).change=Cl CU:=rfl;omega
 ·omega
end
section
mutual
def szX:Xpr->Int->Int
 |.mk _ _ _ _ _ _ _ _ a,most=>szL a 1 most
def szL:List Xpr->Int->Int->Int
 |[],n,_=>n
 |x::r,n,most=>if n<=most then szL r (n+szX x (most-n)) most else n
end
theorem aDs(x:Xpr)(most:Int):szX x most=szL x.args 1 most:=by cases x;rfl
mutual
theorem fy:∀(x:Xpr) (most:Int),1<=szX x most/\szX x most<=Bs x
 |.mk _ _ _ _ _ _ _ _ a,most=>by have h:=szL_b a 1 most;grind[szX,Bs]
theorem szL_b:∀(l:List Xpr) (n most:Int),n<=szL l n most/\szL l n most<=n+sizeXs l
 |[],n,most=>by simp[szL,sizeXs]
 |x::r,n,most=>by have h1:=fy x (most-n);have h2:=szL_b r (n+szX x (most-n)) most;grind[szL,sizeXs]
end
theorem aDt{l:List Xpr}{n most:Int}(h:¬n<=most):szL l n most=n:=by
 cases l with
 |nil=>rfl
 |cons x r=>rw[szL,if_neg h]
theorem aDu:∀(m:Nat) (x:Xpr) (most:Int),Bs x<=m->m<=1000000000->0<=most->most<=2000->Is mx 25 [.agg (eE x),iI most] (iI (szX x most)):=by
 intro m
 induction m with
 |zero=>intro x most h;have:=Fs x;omega
 |succ m ih=>
  intro x most hm hM h0 h1;have j0:=Ej x;have hla:x.args.length<=1000000000:=by
   have:=IC (b:=Bs) (fun y=>Fs y) x.args;have h2:∀l:List Xpr,Af Bs l=sizeXs l:=fun l=>by
    induction l with
    |nil=>rfl
    |cons a r ih=>simp[Af,sizeXs,ih]
   grind
  rw[aDs];refine MX F25 ?_;refine OG ?_;refine lT [1,2] (fun g:Int×Nat=>[(5,.i (iI g.1)),(6,.i (iI g.2))]) (fun _=>[]) (fun g=>g.2<=x.args.length/\1<=g.1/\g.1<=1+sizeXs (x.args.take g.2)/\szL (x.args.drop g.2) g.1 most=szL x.args 1 most) (fun g=>x.args.length-g.2) (1,0) ?_ ⟨by omega,by omega,by simp[sizeXs],rfl⟩;rintro⟨n,i⟩ ⟨hi,hn1,hn2,jb⟩;simp only at hi hn1 hn2 jb;by_cases ja:i<x.args.length
  ·have ht1:=Hd x.args i ja;have ht2:=Fr x.args (i+1);by_cases hn:n<=most
   ·have a1:=ih (x.args.getD i default) (most-n) (by rw[AS ja];omega) (by omega) (by omega) (by omega);have hb:=fy (x.args.getD i default) (most-n);have hgd:=AS ja;rw[<-hgd]at ht1;have hnx:szL (x.args.drop (i+1)) (n+szX (x.args.getD i default) (most-n)) most=szL x.args 1 most:=by grind[El,szL]
    clear hgd;rw[HP]at a1;refine Dp (cj a1 (cj (Cq ja) (cj @HP hn))) ?_;exact⟨(n+szX (x.args.getD i default) (most-n),i+1),⟨by simp only;omega,by simp only;omega,by simp only;rw[ht1];omega,hnx⟩,by simp only;omega,rfl,rfl⟩
   ·rw[aDt hn]at jb;rw[<-jb];exact Hw (cj (Cq ja) hn) trivial
  ·rw[List.drop_eq_nil_of_le (by omega)]at jb;rw[<-jb,szL];exact Hw (Ih ja) trivial
theorem MN(l:List Ent)(hl:Af Am l<=1073739):Is mx 10 [.sl (l.map Ac)] (.bool (decide (l.length<=60)&&decide (AW l=0))):=by
 have c1:=yh (mx:=mx) l (by omega);have hd:decide ((l.length:Int)<=60)=decide (l.length<=60):=by rw[Bool.eq_iff_iff];simp;omega
 refine MX F10 ?_;exact Dp (cj c1 hd) trivial
theorem Sy{l:List Ent}(hl:AW l=0):Is mx 31 [.sl (l.map Ac)] (.sl ((AF l).map Ao)):=by have h:=y6 (mx:=mx) l (by have:=Valid.len hl;omega);rw[aDk (Ec hl)]at h;exact h
theorem Qk{l:List Ent}(hl:AW l=0)(h:0<l.length):(0<=(A6 l).no/\(A6 l).no<=4611686018427387904)/\0<=(A6 l).tick:=by have:=(Ec hl).order (i:=l.length-1) (by omega);simp only[Bool.or_eq_false_iff,EG,decide_eq_false_iff_not]at this;unfold A6;omega
theorem EL{l:List Ent}(hl:AW l=0)(p:Pol)(tick:Int)(f:Fct)(hb:Af Am l<=1073739)(hf:Bz f<=1073739):Is mx 16 [.sl (l.map Ac),.agg (Bf p),iI tick,.agg (Ap f)] (Ww (Bg l p tick f)):=
 aDg l p tick f hb (by have:=Valid.len hl;omega) hf (Qk hl) (Sy hl)
theorem Ql{l:List Ent}(hl:AW l=0)(tick:Int)(x:Ers)(hb:Af Am l<=1073739)(hx:DD x<=1073000):Is mx 26 [.sl (l.map Ac),iI tick,.agg (BL x)] (Ww (CC l tick x)):=
 aDc l tick x hb hx (Qk hl)
theorem SA{l:List Ent}(hl:AW l=0)(f:Fct)(hb:Af Am l<=1073739):Is mx 11 [.sl (l.map Ac),.agg (Ap f)] (.tup [iI (A7 l f).1,iI (A7 l f).2]):=
 eX l f hb (by have:=Valid.len hl;omega) (Sy hl)
theorem aDv{l:List Ent}(hl:AW l=0)(tick:Int)(x:Chg)(hb:Af Am l+Cl x<=1073700):Is mx 28 [.sl (l.map Ac),iI tick,.agg (AE x)] (Ww (IY l tick x)):=
 aD8 l tick x (by omega) (by have h1:=K5 l 1099511627776 l.length (Nat.le_refl _);have h2:=Hp Am l l.length;show AP (AZ l 1099511627776 l.length)+_<=_;omega) (Sp l 1099511627776 l.length) (Qk hl)
def exF(seq:Int)(key:AT)(event:Int)(fs:List Val):Fct:=⟨⟨[115],seq⟩,1,0,[99,108,105,99,107,115],key,event,fs⟩
theorem aDw(seq:Int)(key:AT)(event:Int):Is mx 47 [iI seq,.str key,iI event] (.agg (Ap (exF seq key event []))):=by refine MX F47 ?_;refine WB ?_;rfl
theorem SB(l m:List Ent)(hl:l.length<=30000)(hm:m.length<=30000):Is mx 19 [.sl (l.map Ac),.sl (m.map Ac)] (.sl ((l++m).map Ac)):=by have hr0:=Bi (f:=Ac) (k:=40) l JT JU;have hr:(∀r∈l.map Ac,r.length=40)=True/\(∀r∈l.map Ac,r.all I.one=true)=True:=⟨eq_true hr0.1,eq_true hr0.2⟩;have hs0:=Bi (f:=Ac) (k:=40) m JT JU;have hs:(∀r∈m.map Ac,r.length=40)=True/\(∀r∈m.map Ac,r.all I.one=true)=True:=⟨eq_true hs0.1,eq_true hs0.2⟩;have htk0:List.take l.length (l.map Ac)=l.map Ac:=List.take_of_length_le (by simp);have ke:l.map Ac++m.map Ac=(l++m).map Ac:=List.map_append.symm;have htk2:List.take (l.length+m.length) ((l++m).map Ac)=(l++m).map Ac:=List.take_of_length_le (by simp);refine MX F19 ?_;exact Kas (cj hr (cj hs (cj htk0 (cj ke htk2)))) trivial
end
section
def fs1:List Val:=[⟨2,1,[]⟩]
def exT:Tbl:=⟨[99,108,105,99,107,115],[117,115,101,114],[⟨[110],⟨2,[],[]⟩⟩],0⟩
def ex1:Ent:=⟨1,0,3,CT,JS,⟨1,exT,CL,[]⟩⟩
def gb(no tick:Int)(f:Fct):Ent:=⟨no,tick,1,f,JS,CU⟩
abbrev SJ(n ev:Int):Fct:=exF n [117] ev fs1
abbrev Qm:Fct:=exF 3 [118] 30 fs1
def gw:Pol:=⟨2,0,20,5⟩
def exX:Ers:=⟨2,[],[],⟨[115],1⟩⟩
def exY:Ent:=⟨3,40,2,CT,exX,CU⟩
def exZ:Fct:=⟨⟨[115],2⟩,2,1,[99,108,105,99,107,115],[117],30,fs1⟩
def exL:List Ent:=[ex1,gb 2 12 (SJ 1 10)]
def exM:List Ent:=[ex1,gb 2 12 (SJ 1 10),gb 3 40 (SJ 2 20)]
def exN:List Ent:=[ex1,gb 2 12 (SJ 1 10),exY]
theorem I6:AW exL=0/\AW exM=0/\AW exN=0:=by and_intros<;>kernel_rfl
theorem I7:Af Am exL<=1000/\Af Am exM<=1000/\Af Am exN<=1000:=by and_intros<;>decide
theorem I8:Bg exL gw 40 (SJ 1 10)=([],0)/\Bg exL gw 40 (SJ 1 11)=([],151)/\Bg exL gw 40 (SJ 2 19)=([],331)/\Bg exL gw 40 (SJ 2 20)=([gb 3 40 (SJ 2 20)],0)/\Bg exL gw 40 (SJ 2 46)=([],332)/\Bg exL gw 11 (SJ 2 10)=([],1)/\
  Bg exM gw 40 (SJ 3 30)=([],330)/\Bg exM gw 40 Qm=([gb 4 40 Qm],0)/\CC exL 40 exX=([exY],0)/\Bg exN gw 40 exZ=([],333):=by and_intros<;>kernel_rfl
theorem fA(f:Fct):Is mx 46 [.agg (Ap f)] (.agg (Ap ⟨f.id,f.kind,f.ref,f.table,f.key,f.event,fs1⟩)):=by refine MX F46 ?_;refine Dp @KM ?_;rfl
theorem aDx(n t:Int)(f:Fct):(.int .i64 n::.int .i64 t::.int .i64 1::(Ap f++[.int .i64 0,.str [],.str [],.str [],.int .i64 0,.int .i64 0,.str [],.str [],.sl [],.int .i64 0,.str [],.str [],.int .i64 0,.sl [],.str [],.int .i64 0,.str [],.str [],.str [],.int .i64 0,.int .i64 0,.str [],.sl [],.int .i64 0,.int .i64 0,.int .i64 0,.sl [],.int .i64 0,.str []]):List I)=Ac (gb n t f):=rfl
theorem aDy:([.int .i64 1,.int .i64 0,.int .i64 3,.str [],.int .i64 0,.int .i64 0,.int .i64 0,.str [],.str [],.int .i64 0,.sl [],.int .i64 0,.str [],.str [],.str [],.int .i64 0,.int .i64 1,.str [99,108,105,99,107,115],.str [117,115,101,114],.sl [[.str [110],.int .i64 2,.sl [],.str []]],.int .i64 0,.str [],.str [],.int .i64 0,.sl [],.str [],.int .i64 0,.str [],.str [],.str [],.int .i64 0,.int .i64 0,.str [],.sl [],.int .i64 0,.int .i64 0,.int .i64 0,.sl [],.int .i64 0,.str []]:List I)=Ac ex1:=rfl
theorem xf1:Is mx 16 [.sl [Ac ex1,Ac (gb 2 12 (SJ 1 10))],.agg [.int .i64 2,.int .i64 0,.int .i64 20,.int .i64 5],iI 40,.agg (Ap (SJ 1 10))] (.tup [.sl [],iI 0]):=by have h:=EL (mx:=mx) I6.1 gw 40 (SJ 1 10) (by have:=I7.1;omega) (by decide);rw[I8.1]at h;exact h
theorem xf2:Is mx 16 [.sl [Ac ex1,Ac (gb 2 12 (SJ 1 10))],.agg [.int .i64 2,.int .i64 0,.int .i64 20,.int .i64 5],iI 40,.agg (Ap (SJ 1 11))] (.tup [.sl [],iI 151]):=by have h:=EL (mx:=mx) I6.1 gw 40 (SJ 1 11) (by have:=I7.1;omega) (by decide);rw[I8.2.1]at h;exact h
theorem xf3:Is mx 16 [.sl [Ac ex1,Ac (gb 2 12 (SJ 1 10))],.agg [.int .i64 2,.int .i64 0,.int .i64 20,.int .i64 5],iI 40,.agg (Ap (SJ 2 19))] (.tup [.sl [],iI 331]):=by have h:=EL (mx:=mx) I6.1 gw 40 (SJ 2 19) (by have:=I7.1;omega) (by decide);rw[I8.2.2.1]at h;exact h
theorem xf4:Is mx 16 [.sl [Ac ex1,Ac (gb 2 12 (SJ 1 10))],.agg [.int .i64 2,.int .i64 0,.int .i64 20,.int .i64 5],iI 40,.agg (Ap (SJ 2 20))] (.tup [.sl [Ac (gb 3 40 (SJ 2 20))],iI 0]):=by have h:=EL (mx:=mx) I6.1 gw 40 (SJ 2 20) (by have:=I7.1;omega) (by decide);rw[I8.2.2.2.1]at h;exact h
theorem xf5:Is mx 16 [.sl [Ac ex1,Ac (gb 2 12 (SJ 1 10))],.agg [.int .i64 2,.int .i64 0,.int .i64 20,.int .i64 5],iI 40,.agg (Ap (SJ 2 46))] (.tup [.sl [],iI 332]):=by have h:=EL (mx:=mx) I6.1 gw 40 (SJ 2 46) (by have:=I7.1;omega) (by decide);rw[I8.2.2.2.2.1]at h;exact h
theorem xf6:Is mx 16 [.sl [Ac ex1,Ac (gb 2 12 (SJ 1 10))],.agg [.int .i64 2,.int .i64 0,.int .i64 20,.int .i64 5],iI 11,.agg (Ap (SJ 2 10))] (.tup [.sl [],iI 1]):=by have h:=EL (mx:=mx) I6.1 gw 11 (SJ 2 10) (by have:=I7.1;omega) (by decide);rw[I8.2.2.2.2.2.1]at h;exact h
theorem xf7:Is mx 16 [.sl [Ac ex1,Ac (gb 2 12 (SJ 1 10)),Ac (gb 3 40 (SJ 2 20))],.agg [.int .i64 2,.int .i64 0,.int .i64 20,.int .i64 5],iI 40,.agg (Ap (SJ 3 30))] (.tup [.sl [],iI 330]):=by have h:=EL (mx:=mx) I6.2.1 gw 40 (SJ 3 30) (by have:=I7.2.1;omega) (by decide);rw[I8.2.2.2.2.2.2.1]at h;exact h
theorem xf8:Is mx 16 [.sl [Ac ex1,Ac (gb 2 12 (SJ 1 10)),Ac (gb 3 40 (SJ 2 20))],.agg [.int .i64 2,.int .i64 0,.int .i64 20,.int .i64 5],iI 40,.agg (Ap Qm)] (.tup [.sl [Ac (gb 4 40 Qm)],iI 0]):=by have h:=EL (mx:=mx) I6.2.1 gw 40 Qm (by have:=I7.2.1;omega) (by decide);rw[I8.2.2.2.2.2.2.2.1]at h;exact h
theorem xf9:Is mx 16 [.sl [Ac ex1,Ac (gb 2 12 (SJ 1 10)),Ac exY],.agg [.int .i64 2,.int .i64 0,.int .i64 20,.int .i64 5],iI 40,.agg [.str [115],.int .i64 2,.int .i64 2,.int .i64 1,.str [99,108,105,99,107,115],.str [117],.int .i64 30,.sl [[.int .i64 2,.int .i64 1,.str []]]]] (.tup [.sl [],iI 333]):=by have h:=EL (mx:=mx) I6.2.2 gw 40 exZ (by have:=I7.2.2;omega) (by decide);rw[I8.2.2.2.2.2.2.2.2.2]at h;exact h
theorem xe1:Is mx 26 [.sl [Ac ex1,Ac (gb 2 12 (SJ 1 10))],iI 40,.agg [.int .i64 2,.str [],.str [],.str [115],.int .i64 1]] (.tup [.sl [Ac exY],iI 0]):=by have h:=Ql (mx:=mx) I6.1 40 exX (by have:=I7.1;omega) (by decide);rw[I8.2.2.2.2.2.2.2.2.1]at h;exact h
theorem aDz(n:Int)(k:AT)(ev:Int):Is mx 46 [.agg (Ap (exF n k ev []))] (.agg (Ap (exF n k ev fs1))):=fA _
theorem aE0:Is mx 46 [.agg (Ap (exF 2 [117] 30 []))] (.agg [.str [115],.int .i64 2,.int .i64 1,.int .i64 0,.str [99,108,105,99,107,115],.str [117],.int .i64 30,.sl [[.int .i64 2,.int .i64 1,.str []]]]):=fA _
theorem aE1:(∀r∈[Ac ex1,Ac (gb 2 12 (SJ 1 10))],r.length=40)=True/\(∀r∈[Ac ex1,Ac (gb 2 12 (SJ 1 10))],r.all I.one=true)=True:=by have h:=Bi exL JT JU;exact⟨eq_true h.1,eq_true h.2⟩
theorem aE2(x:Ent):(∀r∈[Ac x],r.length=40)=True/\(∀r∈[Ac x],r.all I.one=true)=True:=JV JT JU x
theorem aE3(n t:Int)(f:Fct):(gb n t f).no=n/\(gb n t f).tick=t:=⟨rfl,rfl⟩
theorem MO:Is mx 15 [] (.bool true):=by
 have cc:=cj @aDw (cj @aE0 (cj @aDz (cj @xf1 (cj @xf2 (cj @xf3 (cj @xf4 (cj @xf5 (cj @xf6 (cj @xf7 (cj @xf8 (cj @xf9 @xe1)))))))))));refine MX F15 ?_
 (repeat' first|simp(disch:=omega)only[go_sem,simprocAttr,aDx,aDy,aE1,aE2,aE3,ne_eq,not_true_eq_false,decide_false,decide_true,Bool.or_false,Int.natCast_zero]|refine Sx.s ?_ ?_<;>try(intro h;have h':=h;try simp only[HB]at h';try rewrite [h];try simp only[h])|refine Kx @cc ?_|refine Ae ?_|refine Ix ?_ ?_|refine AG ?_|refine Sz.s ?_|fail)
end
section
structure Arr where
 after:Int
 fact:Fct
deriving Inhabited
def If(a:Arr):List I:=[.int .i64 a.after]++Ap a.fact
def Gm(a:Arr):Nat:=Bz a.fact+1
theorem aE4:(∀a,pk false (If a) 0 1=.int .i64 a.after)/\(∀a,pk true (If a) 1 8=.agg (Ap a.fact))/\(∀a,(If a).length=9)/\∀a,(If a).all I.one=true:=by and_intros<;>intro a<;>rfl
attribute [go_sem] aE4
end
section
section
variable {H:Type}{n:Nat}{d:DataW H}
theorem OB(h:Rd Tryz.prog n 24 d):∃x:Pol,Aq d=Bf x/\0<=A9 d/\True:=by obtain⟨parts,m,hm,rfl,hp⟩:=h.struct Tryz.underlying24;obtain⟨d1,r1,rfl,h1,hp⟩:=J7.cons hp;obtain⟨d2,r2,rfl,h2,hp⟩:=J7.cons hp;obtain⟨d3,r3,rfl,h3,hp⟩:=J7.cons hp;obtain⟨d4,r4,rfl,h4,hp⟩:=J7.cons hp;obtain rfl:=J7.nil hp;obtain⟨a1,rfl,_⟩:=h1.int (k:=.i64) (by kernel_rfl);obtain⟨a2,rfl,_⟩:=h2.int (k:=.i64) (by kernel_rfl);obtain⟨a3,rfl,_⟩:=h3.int (k:=.i64) (by kernel_rfl);obtain⟨a4,rfl,_⟩:=h4.int (k:=.i64) (by kernel_rfl);exact⟨⟨a1,a2,a3,a4⟩,rfl,Nat.zero_le _,trivial⟩
theorem aE5(h:Rd Tryz.prog n 68 d):∃x:Arr,Aq d=If x/\Gm x<=A9 d/\True:=by obtain⟨parts,m,hm,rfl,hp⟩:=h.struct Tryz.underlying68;obtain⟨d1,r1,rfl,h1,hp⟩:=J7.cons hp;obtain⟨d2,r2,rfl,h2,hp⟩:=J7.cons hp;obtain rfl:=J7.nil hp;obtain⟨a1,rfl,_⟩:=h1.int (k:=.i64) (by kernel_rfl);obtain⟨a2,e2,b2,_⟩:=KS h2;exact⟨⟨a1,a2⟩,by simp only[Aq,flatA,e2,If,List.append_assoc,List.cons_append,List.nil_append,List.append_nil],by simp only[A9,bulkL,Gm]at b2⊢;omega,trivial⟩
theorem aE6(h:Rd Tryz.prog n 44 d):∃xs:List Arr,Aq d=[.sl (xs.map If)]/\Af Gm xs+1<=A9 d/\∀x∈xs,True:=
 h.list (f:=If) (b:=Gm) (bs:=Af Gm) rfl (fun _ _=>rfl) Tryz.underlying44 fun m y _ hy=>aE5 hy
end
end
end Go.Proofs.YtkhlddbmhehbbaaGreatDoor
