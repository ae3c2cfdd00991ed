/-Lemmas.-/
import Derived.Test.YtojgbkiejjingaaGreatDoorV17
set_option linter.all false
set_option maxRecDepth 100000
set_option maxHeartbeats 8000000
namespace Go.Proofs.YtojgbkiejjingaaGreatDoor
open Go Go.Dl Go.As Go.Proofs
variable {mx:Int}
attribute[local irreducible] Ah Ai MC W2 Fq ev evD step Ad
section
def G0(c:Cat)(ent:AQ)(x:Xpr):Typ×Int:=if Io x≠0 then(AI,Io x)else DL c ent none x
theorem tC{x:Xpr}(h:Io x=0):HG x false=true:=by grind[Io]
theorem Zv:Iu none:=fun _ h=>by cases h
theorem tD(c:Cat)(ent:AQ)(x:Xpr)(hc:GZ c)(hx:bX x<=1073741824):Is mx 165 [.agg (Ap c),.str ent,.agg (eE x)] (AC (G0 c ent x)):=by
 refine MX pL ?_;by_cases h0:Io x=0
 ·have hI:=tz (mx:=mx) c ent hc _ none x Zv (Zgu _) hx (tC h0);have hT:G0 c ent x=DL c ent none x:=by grind[G0]
  rw[hT];simp only[Kr]at hI;exact AU (cj (TS x hx) (cj hI (cj h0 @AC.eq_1))) trivial
 ·have hT:G0 c ent x=(AI,Io x):=by unfold G0;rw[Zaa h0]
  rw[hT];exact AU (cj (TS x hx) (cj @CX (cj h0 @AC.eq_1))) trivial
theorem Rg(a b:List Fac)(ha:a.length<=1073741824)(hb:b.length<=1073741824):Is mx 270 [.sl (a.map Ax),.sl (b.map Ax)] (.bool (decide (a=b))):=by
 refine MX mT ?_;refine eP (cj ?_ ?_)
 ·intro _ _;refine Zae I.bool ?_;have:a≠b:=fun e=>by grind
  simp[this]
 ·intro h h';refine lS [0,1] (fun i=>[(5,.i (iI i))]) (fun _=>[]) (fun i=>a.take i=b.take i) a.length ?_;intro i hi jb;by_cases ja:i<a.length
  ·have jx:i<b.length:=by omega
   refine Ka (BV ja) (cj ?_ ?_)
   ·intro _ _;refine Zae I.bool ?_;have:a≠b:=fun e=>by grind
    simp[this]
   ·intro h h';refine YC jb ja jx ?_;simp only[Zb6,Zbz,Zas]at h;simp only[AK ja,AK jx]at h;exact YD h.1 h.2
  ·refine FU (Hi ja) ?_;refine Zae I.bool ?_;have e:i=a.length:=by omega
   rw[e]at jb;rw[Zgd,Zgf (by omega)]at jb;simp[jb]
def Rh(c:Cat)(f:Ftr):Int:=
 if(!Cz f.name||!Cz f.entity||decide (f.version<0))=true then 3 else if Jh f.typ≠0 then Jh f.typ
 else if(G0 c f.entity f.body).2≠0 then(G0 c f.entity f.body).2 else(F4 (G0 c f.entity f.body).1 f.typ).2
theorem tE{c:Cat}(hc:GZ c){ent:AQ}{x:Xpr}(hx:bX x<=1073741824):uB (G0 c ent x).1:=by grind[G0,FH,Zu,Zv]
end
section
theorem tF(c:Cat)(ft:Ftr)(hc:GZ c)(hf:uB ft.typ)(hx:bX ft.body<=1073741824):Is mx 119 [.agg (Ap c),.agg (Af ft)] (iI (Rh c ft)):=by
 refine MX pF ?_;have hu:=tE hc (ent:=ft.entity) hx
 (repeat' first|exact Ao _|simp(disch:=omega)only[go_sem,simprocAttr,AC]|refine' Av (fun hq=>?_) (fun f=>?_)<;>try(have jd:=hq;try simp only[HB]at jd)|refine Sx.s ?_ ?_<;>try(intro h;have h':=h;try simp only[HB]at h';try rewrite [h];try simp only[h])|refine Ab (Fz _) ?_|refine Ab (QR ft.typ hf) ?_|refine Ab (tD c _ _ hc hx) ?_|refine Ab (TN _ _ hu) ?_|refine Ac ?_|refine Sz.s ?_|fail)
 all_goals(refine Zae (I.int .i64) ?_;simp only[Rh];grind)
def Ks:List Fld->List Fld->Int
 |_,[]=>0
 |seen,f::r=>if(!Cz f.name)=true then 3 else if(seen.any fun g=>decide (g.name=f.name))=true then 121 else if Jh f.typ≠0 then Jh f.typ else Ks (seen++[f]) r
def LJ(t:Tbl):Int:=
 if(!Cz t.name||!Cz t.entity||decide (t.keep<0)||decide (1099511627776<t.keep))=true then 3 else if 8<t.fields.length then 2 else Ks [] t.fields
theorem tG(g:Fld)(f0:List I)(name:AQ)(h0:f0.length=4)(hn:f0.getD 0 .undef=.str name):Is mx 162 [.agg (B2 g),.elt f0 0] (.bool (decide (g.name=name))):=by
 refine MX mw ?_;have e1:pk false f0 0 1=.str name:=by grind[pk]
 exact FU (cj h0 e1) trivial
theorem tH(p:Fld->Bool)(l:List Fld)(fn:Nat)(fs cs:List I)(hl:l.length<=1073741824)(hp:∀x∈l,Is mx fn (fs++[.agg (B2 x)]++cs) (.bool (p x))):
  Is mx 161 [.sl (l.map B2),.fn fn fs cs] (.bool (l.any p)):=by
 refine MX pK ?_;refine EV @Zp ?_;refine Zae I.bool ?_;have:=@TM _ p l;rw[Zb2];simpa using this
theorem tI(t:Tbl)(ht:∀x∈t.fields,uB x.typ)(hl:t.fields.length<=1073741824):Is mx 117 [.agg (AS t)] (iI (LJ t)):=by
 refine MX nq ?_
 (repeat' first|exact Ao _|simp(disch:=omega)only[go_sem,simprocAttr]|refine' Av (fun hq=>?_) (fun f=>?_)<;>try(have jd:=hq;try simp only[HB]at jd)|refine Sx.s ?_ ?_<;>try(intro h;have h':=h;try simp only[HB]at h';try rewrite [h];try simp only[h])|refine Ab (Fz _) ?_|refine Ac ?_|refine Sz.s ?_|fail)
 ·refine Zae (I.int .i64) ?_;simp only[LJ];grind
 ·refine Zae (I.int .i64) ?_;simp only[LJ];grind
 have hT:LJ t=Ks [] t.fields:=by grind[LJ]
 rw[hT];refine lS [1,31,32] (fun i=>[(33,.i (iI i))]) (fun _=>[]) (fun i=>Ks (t.fields.take i) (t.fields.drop i)=Ks [] t.fields) t.fields.length ?_ (by simp);intro i hi jb;by_cases ja:i<t.fields.length
 ·have kw:=At ja;rw[Zc8 ja,<-AK ja]at jb;simp only[Ks]at jb;have kc:t.fields.take (i+1)=t.fields.take i++[t.fields.getD i default]:=by simp_all
  generalize hg:t.fields.getD i default=g at jb kw kc;have hA:=tH (mx:=mx) (fun y=>decide (y.name=g.name)) (t.fields.take i) 162 [] [.elt (B2 g) 0] (by simp;omega) (fun y _=>tG y (B2 g) g.name rfl rfl);have hr:(∀r∈t.fields.map B2,r.length=4)=True:=Za8 (A1 (f:=B2) (k:=4) t.fields (fun _=>rfl) (fun _=>rfl)).1;have ji:((i:Int)<=(t.fields.length:Int))=True:=Za8 (by omega);have hmt:List.take i (List.map B2 t.fields)=List.map B2 (List.take i t.fields):=Ze7.symm
  (repeat' first|simp(disch:=omega)only[go_sem,simprocAttr,BV ja,hg,hr,ji,hmt]|refine Sx.s ?_ ?_<;>try(intro h;have h':=h;try simp only[HB]at h';try rewrite [h];try simp only[h])|refine Ab (Fz _) ?_|refine Ab (hA) ?_|refine Ab (QR g.typ (ht g kw)) ?_|refine Ac ?_|refine Sz.s ?_|(refine And.intro ?_ ?_;focus omega))
  ·refine Zae (I.int .i64) ?_;grind
  ·refine Zae (I.int .i64) ?_;grind
  ·refine Zae (I.int .i64) ?_;grind
  ·rw[kc];grind
 ·have e:i=t.fields.length:=by omega
  subst e;rw[Zdb]at jb;refine FU (Hi ja) ?_;rw[<-jb];rfl
end
section
def dg(b:UInt8):Bool:=decide (48<=b.toNat/\b.toNat<=57)
theorem Nm(b:UInt8):Is mx 227 [.int .u8 (b.toNat:Int)] (.bool (lc b)):=by refine MX oV ?_;refine eP ?_;refine Zae I.bool ?_;rw[Zb2];simp[lc];omega
theorem Uh(b:UInt8):Is mx 228 [.int .u8 (b.toNat:Int)] (.bool (dg b)):=by refine MX pX ?_;refine eP ?_;refine Zae I.bool ?_;rw[Zb2];simp[dg];omega
def wcb(b:UInt8):Bool:=lc b||dg b||decide (b.toNat=95)
def Iv:AQ->Nat
 |[]=>0
 |c::r=>if lc c=true then 1+(r.takeWhile wcb).length else 0
theorem tJ(s:AQ)(at0:Nat)(hs:s.length<=1073741824)(ha:at0<s.length):Is mx 173 [.sl (rowsB s),iI at0] (iI (Iv (s.drop at0))):=by
 refine MX pM ?_;have hd:s.drop at0=s.getD at0 default::s.drop (at0+1):=by simp_all
 have jn:=BV ha
 (repeat' first|simp(disch:=omega)only[go_sem,simprocAttr,rowsB,jn]|refine Sx.s ?_ ?_<;>try(intro h;have h':=h;try simp only[HB]at h';try rewrite [h];try simp only[h])|refine Ab (Nm (s.getD at0 default)) ?_|refine Ac ?_|refine Sz.s ?_|fail)
 ·refine Zae (I.int .i64) ?_;rw[hd];simp only[Iv,h'];rfl
 have h'0:lc (s.getD at0 default)=true:=h';refine lT [0,1] (fun n:Nat=>[(5,.i (iI n))]) (fun _=>[]) (fun n=>1<=n/\at0+n<=s.length/\1+((s.drop (at0+1)).takeWhile wcb).length=n+((s.drop (at0+n)).takeWhile wcb).length) (fun n=>s.length-n) 1 ?_ ⟨by omega,by omega,rfl⟩;rintro n ⟨h1,h2,h3⟩;have e1:((at0:Int)+(n:Int)).toNat=at0+n:=by omega
 by_cases hn:at0+n<s.length
 ·have hl:((at0:Int)+(n:Int)<(s.length:Int))=True:=Za8 (by omega);have hd2:s.drop (at0+n)=s.getD (at0+n) default::s.drop (at0+n+1):=by simp_all
  rw[hd2,Zf7]at h3;generalize hb:s.getD (at0+n) default=b at h3;have jq:wcb b=true->∃i',(1<=i'/\at0+i'<=s.length/\1+((s.drop (at0+1)).takeWhile wcb).length=i'+((s.drop (at0+i')).takeWhile wcb).length)/\s.length-i'<s.length-n/\D.i (I.int .i64 ((n:Int)+1))=D.i (iI i'):=fun hw=>by rw[Zaa hw]at h3;refine⟨n+1,⟨by omega,by omega,?_⟩,by omega,rfl⟩;grind
  have qh:wcb b=false->(n:Int)=(Iv (s.drop at0):Nat):=fun hw=>by grind[Iv]
  have h95:((b.toNat:Int)=95)=(b.toNat=95):=by grind
  cases hc1:lc b<;>cases hc2:dg b
  ·by_cases hc3:b.toNat=95
   ·(repeat' first|simp(disch:=omega)only[go_sem,simprocAttr,e1,hl,hb,hc1,hc2,h95,Za8 hc3]|refine Sx.s ?_ ?_<;>try(intro h;have h':=h;try simp only[HB]at h';try rewrite [h];try simp only[h])|refine Ab (Nm b) ?_|refine Ab (Uh b) ?_|refine Ac ?_|(refine And.intro ?_ ?_;focus omega))
    exact jq (by simp[wcb,hc1,hc2,hc3])
   ·refine Ka (cj (Nm b) (cj (Uh b) (cj e1 (cj hl (cj hb (cj hc1 (cj hc2 (cj h95 hc3)))))))) ?_;exact Zae (I.int .i64) (qh (by simp[wcb,hc1,hc2,hc3]))
  ·refine Ka (cj (Nm b) (cj (Uh b) (cj e1 (cj hl (cj hb (cj hc1 hc2)))))) ?_;exact jq (by simp[wcb,hc1,hc2])
  ·refine Ka (cj (Nm b) (cj e1 (cj hl (cj hb hc1)))) ?_;exact jq (by simp[wcb,hc1,hc2])
  ·refine Ka (cj (Nm b) (cj e1 (cj hl (cj hb hc1)))) ?_;exact jq (by simp[wcb,hc1,hc2])
 ·have hl:((at0:Int)+(n:Int)<(s.length:Int))=False:=Za9 (by omega);refine FU hl ?_;refine Zae (I.int .i64) ?_;have:s.drop (at0+n)=[]:=Zda (by omega);rw[this]at h3;rw[hd];simp only[Iv];rw[Zaa h'0];simp at h3;omega
end
section
def Ri:List AQ:=[[116,97,98,108,101],[102,101,97,116,117,114,101],[111,102],[107,101,101,112],[98,111,111,108],[116,101,120,116],[107,101,121],[105,110,116],[100,101,99],[105,102],[116,104,101,110],[101,108,115,101],[100,101,102,97,117,108,116],[111,114],[97,110,100],[110,111,116],[116,114,117,101],[102,97,108,115,101],[110,117,108,108],[99,111,117,110,116],[115,117,109],[109,101,97,110],[109,105,110],[109,97,120],[102,105,114,115,116],[108,97,115,116],[100,105,115,116,105,110,99,116],[113,117,97,110,116,105,108,101],[100,101,99,97,121],[97,108,108],[115,108,105,100,105,110,103],[116,117,109,98,108,105,110,103],[115,101,115,115,105,111,110],[119,104,101,114,101]]
def Rj(s:AQ):Bool:=Ri.any fun k=>decide (s=k)
theorem tK(s:AQ):Is mx 174 [.str s] (.bool (Rj s)):=by
 refine MX mA ?_
 (repeat' first|simp(disch:=omega)only[go_sem,simprocAttr]|refine Sx.s ?_ ?_<;>try(intro h;have h':=h;try simp only[HB]at h';try rewrite [h];try simp only[h])|refine Ac ?_|refine Sz.s ?_|fail)
 all_goals(refine Zae I.bool ?_;simp[Rj,Ri, *])
end
section
def C6(s:AQ):Bool:=decide (s≠[])&&decide (s.length<=24)&&decide (Iv s=s.length)&&!Rj s
theorem Iw(s:AQ):Is mx 125 [.str s] (.bool (C6 s)):=by
 refine MX nt ?_;by_cases h0:s=[]
 ·subst h0
  (repeat' first|simp(maxSteps:=9999999) (decide:=true) (disch:=omega)only[go_sem,simprocAttr]|refine Sz.s ?_|fail)
  rfl
 ·have ju:0<s.length:=by cases s;exact(h0 rfl).elim;simp
  by_cases h1:s.length<=24
  ·have hw:=tJ (mx:=mx) s 0 (by omega) ju;simp only[Zdd]at hw;have ji:((s.length:Int)<=24)=True:=Za8 (by omega);have hz:decide (((Iv s:Nat):Int)=(s.length:Int))=decide (Iv s=s.length):=by grind
   refine AU (cj @tK (cj hw (cj h0 (cj ji hz)))) ?_
   all_goals intros
   all_goals(refine Zae I.bool ?_;simp[C6,h0,h1])
  ·have ji:((s.length:Int)<=24)=False:=Za9 (by omega);refine A8 (cj h0 ji) ?_
   all_goals intros
   all_goals(refine Zae I.bool ?_;simp[C6,h0,h1])
end
section
theorem Zw(n:Int):Is mx 300 [iI n] (.bool (FE n)):=by refine MX nX ?_;refine eP ?_;refine Zae I.bool ?_;rw[Zb2];simp[FE]
theorem Zx(s:AQ)(hs:s.length<=1073741824):Is mx 299 [.str s] (.bool (BX s)):=by
 refine MX mW ?_;refine Kb (cj ?_ ?_)
 ·intro _ _;refine Zae I.bool ?_;have e:(decide (s≠[])&&decide (s.length<=24)&&lc (s.getD 0 0))=false:=by grind[lc]
  simp only[BX,e,Zb3]
 ·intro h h';have w0:BX s=s.all wc:=by
   have e1:lc (s.getD 0 0)=true:=by grind[lc]
   have e2:s≠[]:=fun e=>by grind
   have e3:s.length<=24:=by omega
   simp_all[BX,e1,e2,e3]
  refine lS [0] (fun i=>[(3,.i (iI i))]) (fun _=>[]) (fun i=>(s.take i).all wc=true) s.length ?_;intro i hi jb;by_cases ja:i<s.length
  ·refine Ka (BV ja) (cj ?_ ?_)
   ·intro _ _;refine Zae I.bool ?_;rw[w0];exact(Tz (d:=0) (i:=i) (by omega) (by simp only[wc,Za4];grind)).symm
   ·intro _ _;exact BW (d:=0) jb (by omega) (by simp only[wc,Za0];grind)
  ·refine FU (Hi ja) ?_;refine Zae I.bool ?_;rw[w0];have e:i=s.length:=by omega
   rw[e,Zgd]at jb;exact jb.symm
end
section
theorem Pm(u:List Fac)(hu:u.length<=1073741824)(hn:∀x∈u,x.name.length<=1073741824):Is mx 265 [.sl (u.map Ax)] (iI (Bx u)):=by
 refine MX p8 ?_;refine eP (cj ?_ ?_)
 ·intro _ _;simp only[Bx];rw[Zaa (by omega)]
 ·intro h h';have e:Bx u=uc none u:=by simp only[Bx];rw[Zac (by omega)]
  rw[e];refine lS [0] (fun i=>[(3,.i (iI i))]) (fun _=>[]) (fun i=>uc none u=uc (E6 u i) (u.drop i)) u.length ?_ (by simp[E6]);intro i hi jb;by_cases ja:i<u.length
  ·have hm:(match E6 u i with|some q=>Op.bytesLess (u.getD i default).name q||decide ((u.getD i default).name=q)|none=>false)=(decide (0<(i:Int))&&(Op.bytesLess (u.getD i default).name (u.getD (↑i-1:Int).toNat default).name||decide ((u.getD i default).name=(u.getD (↑i-1:Int).toNat default).name))):=by
    have e1:(↑i-1:Int).toNat=i-1:=by omega
    by_cases h0:i=0
    ·simp[E6,h0]
    ·have:0<(i:Int):=by omega
     simp only[E6,h0,Zag,e1,Za5 this,Zce]
   have hs:E6 u (i+1)=some (u.getD i default).name:=by simp[E6]
   have jb:uc none u=if(!BX (u.getD i default).name)=true then 1 else if(decide ((u.getD i default).exp=0)||decide ((u.getD i default).exp>8\/(u.getD i default).exp< -8))=true then 70 else
     if(decide (0<(i:Int))&&(Op.bytesLess (u.getD i default).name (u.getD (↑i-1:Int).toNat default).name||decide ((u.getD i default).name=(u.getD (↑i-1:Int).toNat default).name)))=true then 3 else uc (E6 u (i+1)) (u.drop (i+1)):=by
    rw[jb,YH ja,hs];exact Zae (fun b:Bool=>if(!BX (u.getD i default).name)=true then 1 else if(decide ((u.getD i default).exp=0)||decide ((u.getD i default).exp>8\/(u.getD i default).exp< -8))=true then 70 else if b=true then 3 else uc (some (u.getD i default).name) (u.drop (i+1))) hm
   have jl:=hn _ (At ja)
   (repeat' first|exact Ao _|simp(disch:=omega)only[go_sem,simprocAttr,BV ja]|refine' Av (fun hq=>?_) (fun f=>?_)<;>try(have jd:=hq;try simp only[HB]at jd)|refine' CI (fun hq=>?_) (fun f=>?_)<;>try(have jd:=hq;try simp only[HB]at jd)|refine Sx.s ?_ ?_<;>try(intro h;have h':=h;try simp only[HB]at h';try rewrite [h];try simp only[h])|refine Ab (Zx _ jl) ?_|refine Ab (Zw _) ?_|refine Ac ?_|refine Au ?_|refine Sz.s ?_|(refine And.intro ?_ ?_;focus omega))
   all_goals(try simp only[FE]at*)
   ·rw[Zaa h]at jb;rw[jb]
   ·rw[Zac (by simp only[‹(!BX (u.getD i default).name)=false›];simp),Zaa h]at jb;rw[jb]
   ·rw[Zac (by simp only[‹(!BX (u.getD i default).name)=false›];simp),Zac (by simp only[‹(decide ((u.getD i default).exp=0)||decide ((u.getD i default).exp>8\/(u.getD i default).exp< -8))=false›];simp),Zaa h]at jb;rw[jb]
   ·rw[Zac (by simp only[‹(!BX (u.getD i default).name)=false›];simp),Zac (by simp only[‹(decide ((u.getD i default).exp=0)||decide ((u.getD i default).exp>8\/(u.getD i default).exp< -8))=false›];simp),Zac (by rw[h];simp)]at jb;exact jb
  ·refine FU (Hi ja) ?_;have e':i=u.length:=by omega
   rw[jb,e',Zdb];rfl
end
section
def tL(n m:Int):Bool:=decide (mkP (VO 0 (List.zipWith (·+·) (Bf (P0 n).1 (P0 n).2) (Bf (P0 m).1 (P0 m).2)))=P0 (n+m))
theorem tM:(List.range 145).all (fun k=>(List.range 17).all fun j=>tL ((k:Int)-72) ((j:Int)-8))=true:=by rfl
theorem tN{n m:Int}(h:-72<=n/\n<=72)(k:-8<=m/\m<=8):mkP (VO 0 (List.zipWith (·+·) (Bf (P0 n).1 (P0 n).2) (Bf (P0 m).1 (P0 m).2)))=P0 (n+m):=by have h1:=Zcu.1 tM (n+72).toNat (by simp;omega);have h2:=Zcu.1 h1 (m+8).toNat (by simp;omega);rw[show(((n+72).toNat:Nat):Int)-72=n by omega,show(((m+8).toNat:Nat):Int)-8=m by omega]at h2;exact Za6 h2
theorem Zy{n:Int}(h:-1000<=n/\n<=1000):wOk (P0 n).1 (P0 n).2:=by unfold P0;split<;>exact⟨by constructor<;>omega,by constructor<;>omega⟩
theorem tP(n m:Int)(h:-72<=n/\n<=72)(k:-8<=m/\m<=8):Is mx 350 [.agg [iI (P0 n).1,iW (P0 n).2],.agg [iI (P0 m).1,iW (P0 m).2]] (.agg [iI (P0 (n+m)).1,iW (P0 (n+m)).2]):=by have:=sA (mx:=mx) _ _ _ _ (Zy (n:=n) (by omega)) (Zy (n:=m) (by omega));simp_all[mkW,tN]
theorem Zz(n:Int)(h:-9223372036854775808<=n/\n<=9223372036854775807):Is mx 349 [iI n] (.agg [iI (P0 n).1,iW (P0 n).2]):=by have:=TZ (mx:=mx) n h;grind[Ng]
theorem tQ(n:Int)(h:-128<=n/\n<=128):Is mx 351 [.agg [iI (P0 n).1,iW (P0 n).2],iI 1] (.tup [iI n,.bool true]):=by have:=sS (mx:=mx) n h;grind[Ng]
def CZ:List Fac->AQ->Int
 |[],_=>0
 |f::r,s=>(if f.name=s then f.exp else 0)+CZ r s
theorem ZA:∀(l:List Fac) (s:AQ),(∀f∈l,-8<=f.exp/\f.exp<=8)→-(8*(l.length:Int))<=CZ l s/\CZ l s<=8*(l.length:Int)
 |[],_,_=>by simp[CZ]
 |f::r,s,h=>by
  have h1:=ZA r s fun g hg=>h g (Zfc _ hg)
  grind[CZ]
theorem tU(l r:List Fac)(s:AQ):CZ (l++r) s=CZ l s+CZ r s:=by
 induction l with
 |nil=>simp[CZ]
 |cons f l ih=>simp only[Zc3,CZ,ih];omega
def Jq(l:List Fac)(s:AQ):Int×Bool:=if FE (CZ l s)=true then(0,false)else(CZ l s,true)
theorem tV(l:List Fac)(s:AQ)(hl:l.length<=9)(he:∀f∈l,-8<=f.exp/\f.exp<=8):Is mx 345 [.sl (l.map Ax),.str s] (.tup [iI (Jq l s).1,.bool (Jq l s).2]):=by
 have hz:=Zz (mx:=mx) 0 (by omega);refine MX ne ?_;refine EV hz ?_;refine lT [0,1,6] (fun i:Nat=>[(7,.i (iI i))]) (fun i=>[(6,.cells [.i (iI (P0 (CZ (l.take i) s)).1),.i (iW (P0 (CZ (l.take i) s)).2)])]) (fun i=>i<=l.length) (fun i=>l.length-i) 0 ?_;intro i hi;have hb:=ZA (l.take i) s (fun f hf=>he f (Zfl hf));have qy:(l.take i).length=i:=by simp;omega
 rw[qy]at hb;by_cases ja:i<l.length
 ·have h8:=he _ (At ja);have ht:l.take (i+1)=l.take i++[l.getD i default]:=by simp_all
  have hs:CZ (l.take (i+1)) s=CZ (l.take i) s+(if(l.getD i default).name=s then(l.getD i default).exp else 0):=by rw[ht,tU];simp[CZ]
  have c1:=Zz (mx:=mx) (l.getD i default).exp (by omega);have c2:=tP (mx:=mx) (CZ (l.take i) s) (l.getD i default).exp (by omega) h8;refine EV (cj c1 (cj c2 (BV ja))) (cj ?_ ?_)
  ·intro h h';rw[Zaa h']at hs;exact⟨i+1,by omega,by omega,rfl,by rw[hs]⟩
  ·intro h h';rw[Zac h',Int.add_zero]at hs;exact⟨i+1,by omega,by omega,rfl,by rw[hs]⟩
 ·have e:l.take i=l:=Zgf (by omega);have je:(i:Int)=l.length:=by omega
  rw[e]at hb⊢;have c3:=tQ (mx:=mx) (CZ l s) (by omega);refine EV (cj c3 (cj @Zw (Hi ja))) (cj ?_ ?_)
  ·intro h h';simp[Jq,h']
  ·intro h h';simp[Jq,h']
def FI(l:List Fac):List AQ->List Fac->List Fac×Int
 |[],acc=>if 4<(acc.length:Int)then([],2)else(acc,0)
 |s::r,acc=>if(Jq l s).2=false then([],70)else if(Jq l s).1≠0 then FI l r (acc++[⟨s,(Jq l s).1⟩])else FI l r acc
def Ix(l:List Fac):List Fac×Int:=if HH l=true then FI l (D6 [] l) []else([],1)
theorem ZB:∀(l:List Fac) (out:List AQ),(D6 out l).length<=out.length+l.length
 |[],out=>by simp[D6]
 |f::r,out=>by have h1:=ZB r (BY out f.name);grind[T9,D6]
theorem tW(l:List Fac)(hl:l.length<=9)(he:∀f∈l,-8<=f.exp/\f.exp<=8)(hn:∀f∈l,f.name.length<=1073741824):Is mx 338 [.sl (l.map Ax)] (fe (Ix l)):=by
 have hns:=sZ (mx:=mx) l (by omega);have hnl:(D6 [] l).length<=9:=by grind[ZB]
 generalize hng:D6 [] l=ns at hns hnl;refine MX oh ?_;refine Od ?_;refine lT [0] (fun i:Nat=>[(4,.i (iI i))]) (fun _=>[(2,.rows 239 2 [])]) (fun i=>i<=l.length/\HH (l.take i)=true) (fun i=>l.length-i) 0 ?_ (by simp[HH]);rintro i ⟨hi,hw⟩;by_cases ja:i<l.length
 ·have jl:=hn _ (At ja);refine EV (cj @Zx (BV ja)) (cj ?_ ?_)
  ·intro _ _;have:HH l=false:=by grind[HH]
   simp[Ix,this,fe]
  ·intro h h';exact⟨i+1,⟨by omega,BW (d:=default) hw ja h'⟩,by omega,rfl⟩
 ·have e:l.take i=l:=Zgf (by omega);rw[e]at hw;have hN:Ix l=FI l ns []:=by grind[Ix]
  rw[hN];refine EV (cj hns (Hi ja)) ?_;refine lT [0,6] (fun g:Nat×List Fac=>[(7,.ref (.sl 7 2 0 g.2.length)),(8,.i (iI g.1))]) (fun g=>[(7,.rows 239 2 (g.2.map Ax)),(2,.rows 239 2 [])]) (fun g=>g.1<=ns.length/\FI l (ns.drop g.1) g.2=FI l ns []/\g.2.length<=g.1) (fun g=>ns.length-g.1) (0,[]) ?_;rintro⟨k,acc⟩ ⟨hk,hN1,hal⟩;simp only at hk hN1 hal;by_cases jk:k<ns.length
  ·have c1:=tV (mx:=mx) l (ns.getD k default) hl he;rw[Dj jk,FI]at hN1;generalize Jq l (ns.getD k default)=p at c1 hN1;refine AU (cj c1 (BV jk)) (cj ?_ (cj ?_ ?_))
   ·intro h h';rw[Zaa h']at hN1;rw[<-hN1];rfl
   ·intro _ _ h h';rw[Zac (by rw[‹p.2=true›];simp),Zaa h']at hN1;exact⟨by simp,by simp[I.one],by omega,by omega,(k+1,acc++[⟨ns.getD k default,p.1⟩]),⟨by show k+1<=_;omega,hN1,by simp;omega⟩,by show ns.length-(k+1)<_;omega,⟨by simp,rfl⟩,by simp[Ax]⟩
   ·intro _ _ h h';rw[Zac (by rw[‹p.2=true›];simp),Zac (by simpa using h')]at hN1;exact⟨(k+1,acc),⟨by show k+1<=_;omega,hN1,by show acc.length<=k+1;omega⟩,by show ns.length-(k+1)<_;omega,⟨rfl,rfl⟩,rfl⟩
  ·rw[Zda (by omega),FI]at hN1;refine AU (Hi jk) (cj ?_ ?_)
   ·intro h h';rw[Zaa h']at hN1;rw[<-hN1];rfl
   ·intro _ _;rw[Zac (by omega)]at hN1;rw[<-hN1];rfl
def C0(u:List Fac):List Fac:=u.map fun f=>⟨f.name,-f.exp⟩
theorem tX(u:List Fac)(hu:u.length<=1000)(he:∀f∈u,-8<=f.exp/\f.exp<=8):Is mx 339 [.sl (u.map Ax)] (.sl ((C0 u).map Ax)):=by
 refine MX pr ?_
 (repeat' first|simp(disch:=omega)only[go_sem,simprocAttr]|fail)
 refine A4 [0] (by simp only[V0,JK,reduceIte,Nat.reduceEqDiff];rfl) (fun i:Nat=>[(3,.ref (.sl 3 2 0 i)),(4,.i (iI i))]) (fun i=>[(3,.rows 239 2 ((C0 (u.take i)).map Ax)),(2,.rows 239 2 [])])
  (fun i=>i<=u.length) (fun i=>u.length-i) 0 (by omega) (by simp[V0,H0,JJ,Ref.nm,C0]) ?_
 intro i hi;have wl:(C0 (u.take i)).length=i:=by grind[C0]
 by_cases ja:i<u.length
 ·have h8:=he _ (At ja);have e0:IntKind.i64.wrap (0-(u.getD i default).exp)=-(u.getD i default).exp:=by grind[B3]
  have e1:IntKind.i64.wrap (-(u.getD i default).exp)=-(u.getD i default).exp:=B3 (by omega) (by omega);have et:(C0 (u.take (i+1))).map Ax=(C0 (u.take i)).map Ax++[[.str (u.getD i default).name,iI (-(u.getD i default).exp)]]:=by simp only[C0];rw[Zgh ja,Zez,Zez,AK ja];rfl
  have kc:((C0 (u.take i)).map Ax).take i=(C0 (u.take i)).map Ax:=Zgf (by simp[wl]);refine lY (cj (BV ja) (cj e0 kc)) ?_;exact⟨by simp,by simp[I.one],by omega,by omega,i+1,by omega,by omega,⟨rfl,rfl⟩,by rw[et]⟩
 ·have e:u.take i=u:=Zgf (by omega);rw[e]at wl⊢;have ji:(i<=(C0 u).length)=True:=Za8 (by omega);have kc:((C0 u).map Ax).take i=(C0 u).map Ax:=Zgf (by simp[wl]);exact FU (cj (Hi ja) (cj ji kc)) trivial
def Fe(a b:List Fac):List Fac×Int:=if Bx a≠0 then([],Bx a)else if Bx b≠0 then([],Bx b)else Ix (a++b)
def G1(a b:List Fac):List Fac×Int:=if Bx a≠0 then([],Bx a)else if Bx b≠0 then([],Bx b)else Fe a (C0 b)
theorem ZC(a b:List Fac)(ha:Ag AY a<=1073741824)(hb:Ag AY b<=1073741824):Is mx 334 [.sl (a.map Ax),.sl (b.map Ax)] (fe (Fe a b)):=by
 have la:=E9 a;have lb:=E9 b;have na:∀f∈a,f.name.length<=1073741824:=fun f hf=>by grind[B4,AY]
 have nb:∀f∈b,f.name.length<=1073741824:=fun f hf=>by grind[B4,AY]
 have c1:=Pm (mx:=mx) a (by omega) na;have c2:=Pm (mx:=mx) b (by omega) nb;by_cases h1:Bx a=0
 ·by_cases h2:Bx b=0
  ·obtain⟨a4,ae⟩:=Pj h1;obtain⟨b4,be⟩:=Pj h2;have c3:=tW (mx:=mx) (a++b) (by simp;omega) (fun f hf=>by rcases Ze9.1 hf with h|h;exact(ae f h).1.2;exact(be f h).1.2) (fun f hf=>by rcases Ze9.1 hf with h|h;exact na f h;exact nb f h);have hT:Fe a b=Ix (a++b):=by grind[Fe]
   rw[hT];rw[Zez]at c3;have hra:=A1 (f:=Ax) (k:=2) a (fun _=>rfl) (fun _=>rfl);have hrb:=A1 (f:=Ax) (k:=2) b (fun _=>rfl) (fun _=>rfl);refine MX TH ?_;have kc:(a.map Ax++b.map Ax).take (a.length+b.length)=a.map Ax++b.map Ax:=Zgf (by simp)
   (repeat' first|simp only[go_sem,simprocAttr,h1,h2,Za8 hra.1,Za8 hra.2,Za8 hrb.1,Za8 hrb.2,Zg8,Zg6,kc,fe,Zaj,Za3,Za2]|refine Sx.s ?_ ?_<;>try(intro h;have h':=h;try simp only[HB]at h';try rewrite [h];try simp only[h])|refine Ab (c1) ?_|refine Ab (c2) ?_|refine Ab (c3) ?_|refine Ac ?_|refine Sz.s ?_|(refine And.intro ?_ ?_;focus omega))
  ·have hT:Fe a b=([],Bx b):=by simp[Fe,h1,h2]
   rw[hT];refine MX TH ?_;refine AU (cj c1 (cj c2 (cj h1 h2))) ?_;rfl
 ·have hT:Fe a b=([],Bx a):=by simp[Fe,h1]
  rw[hT];refine MX TH ?_;refine AU (cj c1 h1) ?_;rfl
theorem tY(u:List Fac):Ag AY (C0 u)=Ag AY u:=by
 induction u with
 |nil=>rfl
 |cons f r ih=>simp only[C0,Ze1,Ag]at ih⊢;rw[ih];rfl
theorem tZ(a b:List Fac)(ha:Ag AY a<=1073741824)(hb:Ag AY b<=1073741824):Is mx 335 [.sl (a.map Ax),.sl (b.map Ax)] (fe (G1 a b)):=by
 have la:=E9 a;have lb:=E9 b;have na:∀f∈a,f.name.length<=1073741824:=fun f hf=>by grind[B4,AY]
 have nb:∀f∈b,f.name.length<=1073741824:=fun f hf=>by grind[B4,AY]
 have c1:=Pm (mx:=mx) a (by omega) na;have c2:=Pm (mx:=mx) b (by omega) nb;by_cases h1:Bx a=0
 ·by_cases h2:Bx b=0
  ·obtain⟨b4,be⟩:=Pj h2;have c3:=tX (mx:=mx) b (by omega) fun f hf=>(be f hf).1.2
   have c4:=ZC (mx:=mx) a (C0 b) ha (by rw[tY];exact hb);have hT:G1 a b=Fe a (C0 b):=by grind[G1]
   rw[hT];refine MX TI ?_;exact AU (cj c1 (cj c2 (cj c3 (cj c4 (cj h1 (cj h2 @fe.eq_1)))))) trivial
  ·have hT:G1 a b=([],Bx b):=by simp[G1,h1,h2]
   rw[hT];refine MX TI ?_;refine AU (cj c1 (cj c2 (cj h1 h2))) ?_;rfl
 ·have hT:G1 a b=([],Bx a):=by simp[G1,h1]
  rw[hT];refine MX TI ?_;refine AU (cj c1 h1) ?_;rfl
end
section
def more(c:Cat)(ts:List Tbl)(fs:List Ftr):Cat:=⟨c.tables++ts,c.features++fs,c.drafts,c.past⟩
end
section
theorem G2(f:Ftr):Bd f=f.name.length+f.entity.length+D4 f.typ+bX f.body+1:=rfl
theorem HO(t:Tbl):Dh t=t.name.length+t.entity.length+Ag FC t.fields+1:=rfl
theorem Nn(f:Fld):FC f=f.name.length+D4 f.typ+1:=rfl
theorem BR(c:Cat):AR c=Ag Dh c.tables+Ag Bd c.features+Ag Bd c.drafts+Ag Bd c.past+1:=rfl
theorem G3(l:List Tbl):l.length<=Ag Dh l:=Il (fun x=>by have:=HO x;omega) l
theorem C1(l:List Ftr):l.length<=Ag Bd l:=Il (fun x=>by have:=G2 x;omega) l
theorem Pn(l:List Fld):l.length<=Ag FC l:=Il (fun x=>by have:=Nn x;omega) l
theorem t6{c:Cat}(h:AR c<=1073741824):GZ c:=by
 have h0:=BR c;have h1:=G3 c.tables;have h2:=C1 c.features;refine⟨by omega,by omega,fun f hf=>?_,fun t ht=>?_⟩
 ·grind[B4,Bd,LG,G2,uB]
 all_goals grind[B4,Dh,Pn,HO,FC,LG,Nn,uB]
theorem Rk(l:List Val):l.length<=Ag EI l:=Il (fun x=>by unfold EI;omega) l
theorem LL(x:Fct):GY x=LH x.id+x.table.length+x.key.length+Ag EI x.fields+1:=rfl
theorem Gd(x:Chg):D5 x=Dh x.table+Bd x.feature+x.name.length+1:=rfl
theorem El(x:Ent):AB x=GY x.fact+Iq x.erasure+D5 x.change+1:=rfl
theorem LM(l:List Ent):l.length<=Ag AB l:=Il (fun x=>by have:=El x;omega) l
theorem t7{t:Tbl}{f:Fld}(h:f∈t.fields):FC f<=Dh t:=by grind[B4,FC,HO]
theorem ZD{t:Tbl}{f:Fld}(h:f∈t.fields):D4 f.typ<=Dh t:=by have:=t7 h;have:=Nn f;omega
end
section
def LN(x y:Fld):Bool:= !(!LI x.typ y.typ||decide (x.name≠y.name))
def FJ(a b:Tbl):Bool:= !(decide (a.name≠b.name)||decide (a.entity≠b.entity)||decide (a.keep≠b.keep)||decide ((a.fields.length:Int)≠b.fields.length))&&eqL LN a.fields b.fields
def Ge(a b:Ftr):Bool:=LI a.typ b.typ&&eU a.body b.body&&decide (a.name=b.name)&&decide (a.entity=b.entity)&&decide (a.version=b.version)
def ZE(a b:Fct):Bool:=(a.id.source==b.id.source&&a.id.seq==b.id.seq)&&decide (a.kind=b.kind)&&decide (a.ref=b.ref)&&decide (a.table=b.table)&&decide (a.key=b.key)&&decide (a.event=b.event)&&eqL Dw a.fields b.fields
def DN(said:Bool)(a b:Rw):Bool:=eqL Dw a.fields b.fields&&(a.id.source==b.id.source&&a.id.seq==b.id.seq)&&decide (a.table=b.table)&&decide (a.key=b.key)&&decide (a.event=b.event)&&(!said||decide (a.no=b.no)&&decide (a.tick=b.tick))
theorem Ui(a b:Tbl)(hA:Dh a<=1073741824)(hB:Dh b<=1073741824):Is mx 86 [.agg (AS a),.agg (AS b)] (.bool (FJ a b)):=by
 have hla:a.fields.length<=1073741824:=by grind[HO,Pn]
 refine MX F86 ?_;refine eP (cj ?_ ?_)
 ·intro h h';exact Zae I.bool (Q7 rfl h)
 ·intro h h';have je:a.fields.length=b.fields.length:=by omega
  rw[Q8 (q:=FJ a b) rfl h];refine lS [2,3] (fun i=>[(5,.i (iI i))]) (fun _=>[]) (fun i=>eqL LN a.fields b.fields=eqL LN (a.fields.drop i) (b.fields.drop i)) a.fields.length ?_;intro i hi jb;by_cases ja:i<a.fields.length
  ·have jx:i<b.fields.length:=by omega
   have jf:=HJ jb ja jx;have h1:=Zk (mx:=mx) (a.fields.getD i default).typ (b.fields.getD i default).typ (by have:=LG (a.fields.getD i default).typ;have:=ZD (At ja);omega) (by have:=LG (b.fields.getD i default).typ;have:=ZD (At jx);omega);refine Ka (cj h1 (cj (BV ja) (BV jx))) (cj ?_ ?_)
   ·intro h h';exact Zae I.bool (Q7 jf h)
   ·intro h h';exact Q8 jf h
  ·refine FU (Hi ja) ?_;exact Zae I.bool (HK jb (by omega) (by omega)).symm
end
section
theorem Uj(a b:Ftr)(hA:Bd a<=1073741824)(hB:Bd b<=1073741824):Is mx 87 [.agg (Af a),.agg (Af b)] (.bool (Ge a b)):=by
 have ha:=G2 a;have hb:=G2 b;have h1:=Zk (mx:=mx) a.typ b.typ (by have:=LG a.typ;omega) (by have:=LG b.typ;omega);have h2:=sX (mx:=mx) _ a.body b.body (Zgu _) (by omega) (by omega);refine MX F87 ?_
 (repeat' first|exact Ao _|simp only[go_sem,simprocAttr]|refine' Av (fun hq=>?_) (fun f=>?_)<;>try(have jd:=hq;try simp only[HB]at jd)|refine Sx.s ?_ ?_<;>try(intro h;have h':=h;try simp only[HB]at h';try simp only[h])|refine Ab (h1) ?_|refine Ab (h2) ?_|refine Sz.s ?_|fail)
 all_goals rfl
theorem t8(a b:Fct)(ha:a.fields.length<=1073741824)(hb:b.fields.length<=1073741824):Is mx 85 [.agg (BJ a),.agg (BJ b)] (.bool (ZE a b)):=by
 refine MX F85 ?_
 (repeat' first|exact Ao _|simp only[go_sem,simprocAttr]|refine' Av (fun hq=>?_) (fun f=>?_)<;>try(have jd:=hq;try simp only[HB]at jd)|refine Ab (sW _ _ ha hb) ?_|refine Sz.s ?_|fail)
 all_goals rfl
theorem LO(a b:Rw)(said:Bool)(ha:a.fields.length<=1073741824)(hb:b.fields.length<=1073741824):Is mx 24 [.agg (JI a),.agg (JI b),.bool said] (.bool (DN said a b)):=by
 refine MX F24 ?_
 (repeat' first|exact Ao _|simp only[go_sem,simprocAttr]|refine' Av (fun hq=>?_) (fun f=>?_)<;>try(have jd:=hq;try simp only[HB]at jd)|refine' CI (fun hq=>?_) (fun f=>?_)<;>try(have jd:=hq;try simp only[HB]at jd)|refine Sx.s ?_ ?_<;>try(intro h;have h':=h;try simp only[HB]at h';try simp only[h])|refine Ab (sV _ _ ha hb) ?_|refine Sz.s ?_|fail)
 all_goals rfl
theorem Rl(said:Bool)(a b:List Rw)(ha:a.length<=1073741824)(hb:b.length<=1073741824)(hA:∀x∈a,x.fields.length<=1073741824)(hB:∀x∈b,x.fields.length<=1073741824):Is mx 18 [.sl (a.map JI),.sl (b.map JI),.bool said] (.bool (eqL (DN said) a b)):=by
 refine MX F18 ?_;refine eP (cj ?_ ?_)
 ·intro _ _;exact Zae I.bool (eqL_len (by omega)).symm
 ·intro h h';refine lS [0,1,2] (fun i=>[(7,.i (iI i))]) (fun _=>[]) (fun i=>eqL (DN said) a b=eqL (DN said) (a.drop i) (b.drop i)) a.length ?_ rfl;intro i hi jb;by_cases ja:i<a.length
  ·have jx:i<b.length:=by omega
   have jf:=HJ jb ja jx;have hma:=At ja;have hmb:=At jx
   (repeat' first|simp(disch:=omega)only[go_sem,simprocAttr,BV ja,BV jx]|refine Sx.s ?_ ?_<;>try(intro h;have h':=h;try simp only[HB]at h';try simp only[h])|refine Ab (LO _ _ said (hA _ hma) (hB _ hmb)) ?_|refine Ac ?_|refine Au ?_|refine Sz.s ?_|(refine And.intro ?_ ?_;focus omega))
   ·exact Zae I.bool (Jn jf h)
   ·exact It jf h
  ·refine FU (Hi ja) ?_;exact Zae I.bool (HK jb (by omega) (by omega)).symm
def Po(a b:Ent):Bool:=ZE a.fact b.fact&&FJ a.change.table b.change.table&&Ge a.change.feature b.change.feature&&decide (a.no=b.no)&&decide (a.tick=b.tick)&&decide (a.kind=b.kind)&&(a.erasure.kind==b.erasure.kind&&(a.erasure.entity==b.erasure.entity&&(a.erasure.key==b.erasure.key&&(a.erasure.id.source==b.erasure.id.source&&a.erasure.id.seq==b.erasure.id.seq))))&&decide (a.change.kind=b.change.kind)&&decide (a.change.name=b.change.name)
theorem ua(a b:Ent)(hA:AB a<=1073741824)(hB:AB b<=1073741824):Is mx 48 [.agg (Ae a),.agg (Ae b)] (.bool (Po a b)):=by
 have a1:=El a;have a2:=LL a.fact;have a3:=Gd a.change;have a4:=Rk a.fact.fields;have b1:=El b;have b2:=LL b.fact;have b3:=Gd b.change;have b4:=Rk b.fact.fields;have h1:=t8 (mx:=mx) a.fact b.fact (by omega) (by omega);have h2:=Ui (mx:=mx) a.change.table b.change.table (by omega) (by omega);have h3:=Uj (mx:=mx) a.change.feature b.change.feature (by omega) (by omega);refine MX F48 ?_
 (repeat' first|exact Ao _|simp only[go_sem,simprocAttr]|refine' Av (fun hq=>?_) (fun f=>?_)<;>try(have jd:=hq;try simp only[HB]at jd)|refine Sx.s ?_ ?_<;>try(intro h;have h':=h;try simp only[HB]at h';try simp only[h])|refine Ab (h1) ?_|refine Ab (h2) ?_|refine Ab (h3) ?_|refine Sz.s ?_|fail)
 all_goals rfl
theorem ub(a b:List Ent)(ha:a.length<=1073741824)(hb:b.length<=1073741824)(hA:∀x∈a,AB x<=1073741824)(hB:∀x∈b,AB x<=1073741824):Is mx 15 [.sl (a.map Ae),.sl (b.map Ae)] (.bool (eqL Po a b)):=by
 refine MX F15 ?_;refine eP (cj ?_ ?_)
 ·intro _ _;exact Zae I.bool (eqL_len (by omega)).symm
 ·intro h h';refine lS [0,1] (fun i=>[(5,.i (iI i))]) (fun _=>[]) (fun i=>eqL Po a b=eqL Po (a.drop i) (b.drop i)) a.length ?_ rfl;intro i hi jb;by_cases ja:i<a.length
  ·have jx:i<b.length:=by omega
   have jf:=HJ jb ja jx;have hma:=At ja;have hmb:=At jx
   (repeat' first|simp(disch:=omega)only[go_sem,simprocAttr,BV ja,BV jx]|refine Sx.s ?_ ?_<;>try(intro h;have h':=h;try simp only[HB]at h';try simp only[h])|refine Ab (ua _ _ (hA _ hma) (hB _ hmb)) ?_|refine Ac ?_|refine Au ?_|refine Sz.s ?_|(refine And.intro ?_ ?_;focus omega))
   ·exact Zae I.bool (Jn jf h)
   ·exact It jf h
  ·refine FU (Hi ja) ?_;exact Zae I.bool (HK jb (by omega) (by omega)).symm
end
section
theorem Uk(b:UInt8)(l sub:AQ):Lib.contains (b::l) sub=(sub.isPrefixOf (b::l)||Lib.contains l sub):=by simp only[Lib.contains,Lib.index];grind
theorem Ul(p:AQ):∀(k rest:AQ),(∀b∈k,b≠32)->Lib.contains (k++rest) (32::p)=Lib.contains rest (32::p)
 |[],rest,_=>rfl
 |b::k,rest,h=>by have h1:=h b (by simp);rw[Zc3,Uk,Ul p k rest fun c hc=>h c (by simp[hc])];grind
theorem ZF:∀(s k rest:AQ),(∀b∈s,b≠32)->(∀b∈k,b≠32)->(s++[32]).isPrefixOf (k++32::rest)=decide (s=k)
 |[],[],rest,_,_=>by rfl
 |[],c::k,rest,_,h=>by grind
 |b::s,[],rest,h,_=>by grind
 |b::s,c::k,rest,h,h'=>by simp only[Zc3,List.isPrefixOf];rw[ZF s k rest (fun x hx=>h x (by simp[hx])) fun x hx=>h' x (by simp[hx])];grind
def No:List AQ->AQ
 |[]=>[32]
 |k::r=>32::(k++No r)
theorem ud:∀l,∃r,No l=32::r
 |[]=>⟨[],rfl⟩
 |k::r=>⟨_,rfl⟩
theorem ZG(s:AQ)(hs:∀b∈s,b≠32):∀l:List AQ,(∀k∈l,∀b∈k,b≠32)->Lib.contains (No l) (32::(s++[32]))=l.any fun k=>decide (s=k)
 |[],_=>by simp only[No,List.any_nil,Uk];have:Lib.contains [] (32::(s++[32]))=false:=rfl;simp_all
 |k::l,h=>by have hk:=h k (by simp);simp only[No,Zcy,Uk];rw[Ul _ k _ hk,ZG s hs l fun k hk=>h k (by simp[hk])];obtain⟨r,hr⟩:=ud l;grind[ZF]
theorem ue:TL=No Ri:=by decide
theorem uf(c:UInt8)(h:wc c=true):c≠32:=by rintro rfl;revert h;decide
theorem ug{s:AQ}(h:BX s=true):∀b∈s,b≠32:=by grind[BX,uf]
theorem uh(c:UInt8):wcb c=wc c:=by grind[wcb,wc,lc,dg]
theorem ZH(p:UInt8->Bool):∀r:AQ,((r.takeWhile p).length=r.length)↔r.all p=true
 |[]=>by simp
 |c::r=>by
  rw[Zf7,Zct];by_cases h:p c=true
  ·rw[Zaa h];simp[ZH p r,h]
  all_goals grind
theorem ui(s:AQ):(decide (s≠[])&&decide (s.length<=24)&&decide (Iv s=s.length))=BX s:=by
 cases s with
 |nil=>rfl
 |cons c r=>grind[lc,wc,wcb,uh,BX,Iv,ZH]
theorem G4(s:AQ):C6 s=Cz s:=by
 unfold C6 Cz;rw[ui];cases h:BX s with
 |false=>rfl
 |true=>
  have hs:=ug h;have h0:s≠[]:=by rintro rfl;cases h
  have h1:Lib.contains s [32]=false:=by have:=Ul [] s [] hs;rw[Zc1]at this;rw[this];rfl
  simp_all[QQ,Rj,ue,ZG,Ri]
def EM(t:Typ):Int:=
 if(decide (t.kind<1)||decide (5<t.kind))=true then 3
 else if((decide (t.kind=5)&&!C6 t.of)||(decide (t.kind≠5)&&decide (t.of≠[]))||(!CS t&&decide (0<t.unit.length)))=true then 3
 else if Bx t.unit≠0 then 70 else if t.unit.any (fun f=>!C6 f.name)=true then 70 else 0
theorem Rm(t:Typ):EM t=Jh t:=by have hn:Cz []=false:=rfl;grind[EM,Jh,ty1,ty2,ty3,G4,Cz]
def Iy:List Fld->List Fld->Int
 |_,[]=>0
 |seen,f::r=>if(!C6 f.name)=true then 3 else if(seen.any fun g=>decide (g.name=f.name))=true then 121 else if EM f.typ≠0 then EM f.typ else Iy (seen++[f]) r
def Gf(t:Tbl):Int:=
 if(!C6 t.name||!C6 t.entity||decide (t.keep<0)||decide (1099511627776<t.keep))=true then 3 else if 8<t.fields.length then 2 else Iy [] t.fields
theorem ZI:∀(l seen:List Fld),Iy seen l=Ks seen l
 |[],_=>rfl
 |f::r,seen=>by simp only[Iy,Ks,G4,Rm,ZI r]
theorem uj(t:Tbl):Gf t=LJ t:=by simp[Gf,LJ,G4,ZI]
end
section
theorem Rn(t:Typ):Is mx 264 [.agg (Aq t)] (.bool (CS t)):=by
 refine MX pd ?_;refine eP ?_
 all_goals intros
 all_goals(refine Zae I.bool ?_;(try simp only[CS]);(first|rfl|(simp_all;done)|(rw[Zb2];simp_all;done)|(rw[Zb2];simp_all;omega)))
theorem Ro(t:Typ)(ht:t.unit.length<=1073741824)(hn:∀x∈t.unit,x.name.length<=1073741824):Is mx 235 [.agg (Aq t)] (iI (EM t)):=by
 refine MX oX ?_
 (repeat' first|exact Ao _|simp(disch:=omega)only[go_sem,simprocAttr]|refine' Av (fun hq=>?_) (fun f=>?_)<;>try(have jd:=hq;try simp only[HB]at jd)|refine' CI (fun hq=>?_) (fun f=>?_)<;>try(have jd:=hq;try simp only[HB]at jd)|refine Sx.s ?_ ?_<;>try(intro h;have h':=h;try simp only[HB]at h';try rewrite [h];try simp only[h])|refine Ab (Rn t) ?_|refine Ab (Iw _) ?_|refine Ab (Pm _ ht hn) ?_|refine Ac ?_|refine Sz.s ?_|fail)
 all_goals try(refine Zae (I.int .i64) ?_;simp only[EM];grind)
 have hR:EM t=if t.unit.any (fun f=>!C6 f.name)=true then 70 else 0:=by grind[EM]
 rw[hR];refine lS [1] (fun i=>[(3,.i (iI i))]) (fun _=>[]) (fun i=>(t.unit.take i).all (fun f=>C6 f.name)=true) t.unit.length ?_;intro i hi jb;by_cases ja:i<t.unit.length
 ·refine Ka (cj @Iw (BV ja)) (cj ?_ ?_)
  ·intro _ _;refine Zae (I.int .i64) ?_;have:t.unit.any (fun f=>!C6 f.name)=true:=by grind
   rw[Zaa this]
  ·intro _ _;exact BW jb ja (by simpa using ‹_›)
 ·have e:i=t.unit.length:=by omega
  subst e;rw[Zgd]at jb;refine FU (Hi ja) ?_;refine Zae (I.int .i64) ?_;rw[Zac];rw[Zcu]at jb;simp only[Zcz,not_exists,not_and];intro x hx;simp[jb x hx]
theorem uk{α:Type}[Inhabited α](p:α->Bool)(l:List α)(i:Nat)(hi:i<l.length):(l.take (i+1)).any p=((l.take i).any p||p (l.getD i default)):=by rw[Zgh hi,Zcx,AK hi];simp
theorem ul(t:Tbl)(ht:∀x∈t.fields,D4 x.typ<=1073741824)(hl:t.fields.length<=1073741824):Is mx 234 [.agg (AS t)] (iI (Gf t)):=by
 refine MX nO ?_
 (repeat' first|exact Ao _|simp(disch:=omega)only[go_sem,simprocAttr]|refine' Av (fun hq=>?_) (fun f=>?_)<;>try(have jd:=hq;try simp only[HB]at jd)|refine Sx.s ?_ ?_<;>try(intro h;have h':=h;try simp only[HB]at h';try rewrite [h];try simp only[h])|refine Ab (Iw _) ?_|refine Ac ?_|refine Sz.s ?_|fail)
 ·refine Zae (I.int .i64) ?_;simp only[Gf];grind
 ·refine Zae (I.int .i64) ?_;simp only[Gf];grind
 have hT:Gf t=Iy [] t.fields:=by grind[Gf]
 rw[hT];refine lS [1] (fun i=>[(3,.i (iI i))]) (fun _=>[]) (fun i=>Iy (t.fields.take i) (t.fields.drop i)=Iy [] t.fields) t.fields.length ?_;intro i hi jb;by_cases ja:i<t.fields.length
 ·have kw:=At ja;rw[Zc8 ja,<-AK ja]at jb;simp only[Iy]at jb;have kc:t.fields.take (i+1)=t.fields.take i++[t.fields.getD i default]:=by simp_all
  (repeat' first|simp(disch:=omega)only[go_sem,simprocAttr,BV ja]|refine Sx.s ?_ ?_<;>try(intro h;have h':=h;try simp only[HB]at h';try rewrite [h];try simp only[h])|refine Ab (Iw _) ?_|refine Ac ?_|refine Sz.s ?_|fail)
  ·refine Zae (I.int .i64) ?_;grind
  have ve:(if((t.fields.take i).any fun g=>decide (g.name=(t.fields.getD i default).name))=true then 121 else if EM (t.fields.getD i default).typ≠0 then EM (t.fields.getD i default).typ else Iy (t.fields.take i++[t.fields.getD i default]) (t.fields.drop (i+1)))=Iy [] t.fields:=by grind
  refine lS [1,3] (fun k=>[(4,.i (iI k))]) (fun _=>[]) (fun k=>((t.fields.take k).any fun g=>decide (g.name=(t.fields.getD i default).name))=false) i ?_;intro k hk hinv3;by_cases jk:k<i
  ·have wj:k<t.fields.length:=by omega
   have kh:((t.fields.getD k default).name=(t.fields.getD i default).name)->((t.fields.take i).any fun g=>decide (g.name=(t.fields.getD i default).name))=true:=fun e=>by rw[Zcz];refine⟨t.fields.getD k default,?_,by simpa using e⟩;rw[AK wj];exact List.mem_take_iff_getElem.2 ⟨k,by omega,rfl⟩
   refine Ka (cj (BV jk) (cj (BV wj) (BV ja))) (cj ?_ ?_)
   ·intro h h';rw[Zaa (kh h')]at ve;rw[ve]
   ·intro h h';rw[uk _ _ _ wj,hinv3];exact h
  ·have e:k=i:=by omega
   subst e;rw[Zac (by rw[hinv3];simp)]at ve;have hty:=Ro (mx:=mx) (t.fields.getD k default).typ (by have:=LG (t.fields.getD k default).typ;have:=ht _ kw;omega) (fun x hx=>by have h1:=ht _ kw;have h2:=B4 (b:=AY) hx;have h3:AY x=x.name.length+1:=rfl;have h4:D4 (t.fields.getD k default).typ=Ag AY (t.fields.getD k default).typ.unit+(t.fields.getD k default).typ.of.length+1:=rfl;omega);refine Ka (cj hty (cj (Hi jk) (BV ja))) (cj ?_ ?_)
   ·intro h h';rw[Zaa h']at ve;rw[ve]
   ·intro h h';rw[kc];rw[Zac (not_not_intro h')]at ve;exact ve
 ·have e:i=t.fields.length:=by omega
  subst e;rw[Zdb]at jb;refine FU (Hi ja) ?_;rw[<-jb];rfl
end
section
def Rp(v:Val)(t:Typ):Bool:=decide (FA v=0)&&(decide (v.kind=0)||decide (v.kind=t.kind))
theorem um(v:Val)(t:Typ):Is mx 75 [.agg (Bi v),.agg (Aq t)] (.bool (Rp v t)):=by
 refine MX F75 ?_;refine EV @TO ?_
 all_goals intros
 all_goals(refine Zae I.bool ?_;simp only[Rp];try grind)
end
section
theorem ZJ(s:AQ)(low:Int)(hs:s.length<=1073741824):Is mx 225 [.str s,.int .u8 low] (.bool (!s.any (Cq low))):=by
 refine MX mJ ?_;refine Od ?_;refine lS [0,1] (fun i=>[(5,.i (iI i))]) (fun _=>[]) (fun i=>(s.take i).all (fun c=>!Cq low c)=true) s.length ?_;intro i hi jb;by_cases ja:i<s.length
 ·refine Ka (BV ja) (cj ?_ ?_)
  ·intro h h';have:s.any (Cq low)=true:=by rw[Zcz];exact⟨_,At ja,h⟩
   rw[this];rfl
  ·intro h h';exact BW (d:=default) jb ja (by rw[show Cq low (s.getD i default)=false from h];rfl)
 ·refine FU (Hi ja) ?_;have e:i=s.length:=by omega
  rw[e,Zgd]at jb;have:s.any (Cq low)=false:=by grind
  rw[this];rfl
def Um(s:AQ):Bool:=decide ((s.length:Int)<=64)&&!s.any (Cq 32)
def LP(s:AQ):Bool:=decide (s≠[])&&decide ((s.length:Int)<=32)&&!s.any (Cq 33)
theorem uo(s:AQ)(hs:s.length<=1073741824):Is mx 263 [.str s] (.bool (Um s)):=by
 refine MX nS ?_
 (repeat' first|exact Ao _|simp(disch:=omega)only[go_sem,simprocAttr]|refine' Av (fun hq=>?_) (fun f=>?_)<;>try(have jd:=hq;try simp only[HB]at jd)|refine Ab (ZJ s 32 hs) ?_|refine Sz.s ?_|fail)
 all_goals rfl
theorem ZK(s:AQ)(hs:s.length<=1073741824):Is mx 171 [.str s] (.bool (LP s)):=by
 refine MX nz ?_
 (repeat' first|exact Ao _|simp(disch:=omega)only[go_sem,simprocAttr]|refine' Av (fun hq=>?_) (fun f=>?_)<;>try(have jd:=hq;try simp only[HB]at jd)|refine Ab (ZJ s 33 hs) ?_|refine Sz.s ?_|fail)
 all_goals rfl
def Pp(v:Val):Bool:=
 if v.kind=0 then decide (v.n=0)&&decide (v.s=[])
 else if v.kind=1 then(decide (v.n=0)||decide (v.n=1))&&decide (v.s=[])
 else if v.kind=2\/v.kind=3 then decide (v.s=[])
 else if v.kind=4\/v.kind=5 then decide (v.n=0)
 else false
theorem uq(v:Val):Is mx 261 [.agg (Bi v)] (.bool (Pp v)):=by
 refine MX p7 ?_
 (repeat' first|exact Ao _|simp(disch:=omega)only[go_sem,simprocAttr]|refine' Av (fun hq=>?_) (fun f=>?_)<;>try(have jd:=hq;try simp only[HB]at jd)|refine Sx.s ?_ ?_<;>try(intro h;have h':=h;try simp only[HB]at h';try rewrite [h];try simp only[h])|refine Ac ?_|refine Sz.s ?_|fail)
 all_goals(refine Zae I.bool ?_;simp only[Pp];grind)
def inR(n:Int):Bool:=decide (-1152921504606846976<=n)&&decide (n<=1152921504606846976)
theorem ur(n:Int):Is mx 262 [iI n] (.bool (inR n)):=by
 refine MX mR ?_
 (repeat' first|exact Ao _|simp(disch:=omega)only[go_sem,simprocAttr]|refine' Av (fun hq=>?_) (fun f=>?_)<;>try(have jd:=hq;try simp only[HB]at jd)|refine Sz.s ?_|fail)
 all_goals rfl
def ck5(v:Val):Int:=
 if(!Pp v)=true then 1
 else if(!inR v.n||decide (v.kind=4)&&decide (64<(v.s.length:Int))||decide (v.kind=5)&&decide (32<(v.s.length:Int)))=true then 2
 else if(decide (v.kind=4)&&!Um v.s||decide (v.kind=5)&&!LP v.s)=true then 3
 else 0
theorem ut(v:Val)(hs:v.s.length<=1073741824):Is mx 226 [.agg (Bi v)] (iI (ck5 v)):=by
 refine MX nM ?_
 (repeat' first|exact Ao _|simp(disch:=omega)only[go_sem,simprocAttr]|refine' Av (fun hq=>?_) (fun f=>?_)<;>try(have jd:=hq;try simp only[HB]at jd)|refine' CI (fun hq=>?_) (fun f=>?_)<;>try(have jd:=hq;try simp only[HB]at jd)|refine Sx.s ?_ ?_<;>try(intro h;have h':=h;try simp only[HB]at h';try rewrite [h];try simp only[h])|refine Ab (uq v) ?_|refine Ab (ur _) ?_|refine Ab (uo _ hs) ?_|refine Ab (ZK _ hs) ?_|refine Ac ?_|refine Sz.s ?_|fail)
 all_goals(refine Zae (I.int .i64) ?_;simp only[ck5];grind)
theorem ZL(v:Val):ck5 v=FA v:=by
 simp only[ck5,FA,Pp,inR,Um,LP,M6,O1,neS,eqS];by_cases h0:v.kind=0
 ·simp[h0];try grind
 by_cases h1:v.kind=1
 ·simp[h1];try grind
 by_cases h2:v.kind=2
 ·simp[h2];try grind
 by_cases h3:v.kind=3
 ·simp[h3];try grind
 by_cases h4:v.kind=4
 ·simp[h4];try grind
 by_cases h5:v.kind=5
 ·simp[h5];try grind
 have:v.kind<0\/5<v.kind:=by omega
 simp[h0,h1,h2,h3,h4,h5,this]
theorem ZM(v:Val)(hs:v.s.length<=1073741824):Is mx 226 [.agg (Bi v)] (iI (FA v)):=by rw[<-ZL];exact ut v hs
theorem uu(v:Val)(hs:v.s.length<=1073741824):Is mx 172 [.agg (Bi v)] (.bool (decide (FA v=0))):=by refine MX oK ?_;exact EV @ZM trivial
theorem uv(v:Val)(t:Typ)(hs:v.s.length<=1073741824):Is mx 124 [.agg (Bi v),.agg (Aq t)] (.bool (Rp v t)):=by
 refine MX mo ?_
 (repeat' first|exact Ao _|simp(disch:=omega)only[go_sem,simprocAttr]|refine' Av (fun hq=>?_) (fun f=>?_)<;>try(have jd:=hq;try simp only[HB]at jd)|refine' CI (fun hq=>?_) (fun f=>?_)<;>try(have jd:=hq;try simp only[HB]at jd)|refine Sx.s ?_ ?_<;>try(intro h;have h':=h;try simp only[HB]at h';try rewrite [h];try simp only[h])|refine Ab (uu _ hs) ?_|refine Sz.s ?_|fail)
 all_goals rfl
end
section
theorem Pq(l:List AQ)(x:AQ)(hl:l.length<=1073741824):Is mx 321 [.str x,.sl (l.map fun s=>[.str s])] (.bool (Bm l x)):=by
 refine MX n8 ?_;refine Od ?_;refine lS [0,1] (fun i=>[(5,.i (iI i))]) (fun _=>[]) (fun i=>(l.take i).all (fun y=>!decide (x=y))=true) l.length ?_;intro i hi jb;by_cases ja:i<l.length
 ·refine Ka (BV ja) (cj ?_ ?_)
  ·intro _ _;have:Bm l x=true:=by grind[Bm]
   rw[this]
  ·intro h h';exact BW (d:=default) jb ja (by simp only[Za4]at h;simpa using fun e=>h e.symm)
 ·refine FU (Hi ja) ?_;have e:i=l.length:=by omega
  rw[e,Zgd]at jb;have:Bm l x=false:=by grind[Bm]
  rw[this]
theorem uw:∀(m:Nat) (x:Xpr),Bj x<=m->Bj x<=1073741824->Is mx 266 [.agg (eE x)] (iI (Bj x)):=by
 intro m
 induction m with
 |zero=>intro x h;have:=D3 x;omega
 |succ m ih=>
  intro x hm hb;have j0:=D3 x;have je:=M5 x.args;refine MX mS ?_;refine Od ?_;refine Df [1] (by simp only[V0,JK,reduceIte,Nat.reduceEqDiff];rfl) (fun i=>[(4,.i (iI i)),(3,.i (iI ((sizeXs (x.args.take i)+1:Nat):Int)))]) (fun _=>[]) (fun _=>True) x.args.length 0 (by omega) trivial ?_ ?_
  ·simp[V0,H0,JJ,sizeXs]
  ·intro i hi _;have ji:=E7 x.args (i+1);have hle0:=E7 x.args i;by_cases ja:i<x.args.length
   ·have hsi:=GW x.args i ja;have jn:=E8 x.args[i];rw[<-AK ja]at hsi jn;have i1:=ih (x.args.getD i default) (by omega) (by omega);refine Ka (cj i1 (BV ja)) ?_;refine Zae (fun n=>D.i (I.int .i64 n)) ?_;omega
   ·refine FU (Hi ja) ?_;refine Zae (I.int .i64) ?_;have e:i=x.args.length:=by omega
    rw[e,Zgd];omega
theorem ux:∀(m:Nat) (x:Xpr),Bj x<=m->Bj x<=1073741824->Is mx 267 [.agg (eE x)] (iI (Ji x)):=by
 intro m
 induction m with
 |zero=>intro x h;have:=D3 x;omega
 |succ m ih=>
  intro x hm hb;have j0:=D3 x;have je:=M5 x.args;have wy:=depths_sizes x.args;have hda:=YL x;refine MX nT ?_;refine Od ?_;refine Df [1] (by simp only[V0,JK,reduceIte,Nat.reduceEqDiff];rfl) (fun i=>[(4,.i (iI i)),(3,.i (iI ((depthXs (x.args.take i):Nat):Int)))]) (fun _=>[]) (fun _=>True) x.args.length 0 (by omega) trivial ?_ ?_
  ·simp[V0,H0,JJ,depthXs]
  ·intro i hi _;have ji:=E7 x.args (i+1);by_cases ja:i<x.args.length
   ·have hsi:=GW x.args i ja;have hdi:=YK x.args i ja;have jn:=E8 x.args[i];rw[<-AK ja]at hsi hdi jn;have i1:=ih (x.args.getD i default) (by omega) (by omega);refine Ka (cj i1 (BV ja)) ?_;refine Zae (fun n=>D.i (I.int .i64 n)) ?_;split<;>omega
   ·refine FU (Hi ja) ?_;have e:i=x.args.length:=by omega
    subst e;rw[Zgd];refine Zae (I.int .i64) ?_;rw[B3 (by omega) (by omega)];omega
def Ff(a b:Xpr):Bool:=decide (a.kind=b.kind)&&decide (a.op=b.op)&&decide (a.name=b.name)&&decide (a.table=b.table)&&Dw a.val b.val&&decide (a.unit=b.unit)&&decide (a.param=b.param)&&(a.win.kind==b.win.kind&&a.win.size==b.win.size)
theorem Pr(a b:Xpr)(ha:a.unit.length<=1073741824)(hb:b.unit.length<=1073741824):Is mx 318 [.agg (eE a),.agg (eE b)] (.bool (Ff a b)):=by
 refine MX pn ?_
 (repeat' first|exact Ao _|simp only[go_sem,simprocAttr]|refine' Av (fun hq=>?_) (fun f=>?_)<;>try(have jd:=hq;try simp only[HB]at jd)|refine Ab (Rg _ _ ha hb) ?_|refine Sz.s ?_|fail)
 all_goals rfl
theorem uy:∀(m:Nat) (a b:Xpr),Bj a<=m->bX a<=1073741824->bX b<=1073741824->Is mx 302 [.agg (eE a),.agg (eE b)] (.bool (eU a b)):=by
 intro m
 induction m with
 |zero=>intro a b h;have:=E8 a;omega
 |succ m ih=>
  intro a b hm hA hB;have hua:a.unit.length<=1073741824:=by grind[Im]
  have hub:b.unit.length<=1073741824:=by grind[Im]
  have hla:a.args.length<=1073741824:=by grind[LC]
  have j0:=D3 a;have hE:eU a b=(!(!Ff a b||decide ((a.args.length:Int)≠b.args.length))&&eqL eU a.args b.args):=by grind[Pf,Ff,T7,Zi]
  refine MX qE ?_;refine EV @Pr (cj ?_ ?_)
  ·intro h h';exact Zae I.bool (Q7 hE h)
  ·intro h h';have je:a.args.length=b.args.length:=by omega
   rw[Q8 hE h];refine lS [2,3] (fun i=>[(5,.i (iI i))]) (fun _=>[]) (fun i=>eqL eU a.args b.args=eqL eU (a.args.drop i) (b.args.drop i)) a.args.length ?_;intro i hi jb;by_cases ja:i<a.args.length
   ·have jx:i<b.args.length:=by omega
    have jf:=HJ jb ja jx;have h1:=ih (a.args.getD i default) (b.args.getD i default) (by have:=GW a.args i ja;have:=E7 a.args (i+1);rw[AK ja];omega) (by have:=Fa (At ja);omega) (by have:=Fa (At jx);omega);refine Ka (cj h1 (cj (BV ja) (BV jx))) (cj ?_ ?_)
    ·intro h h';exact Zae I.bool (Jn jf h)
    ·intro h h';exact It jf h
   ·refine FU (Hi ja) ?_;exact Zae I.bool (HK jb (by omega) (by omega)).symm
theorem ZN:Is mx 303 [] (.agg (eE Fc)):=by
 refine MX mX ?_
 (repeat' first|simp only[go_sem,simprocAttr]|refine Sz.s ?_|fail)
 all_goals rfl
theorem uz:Is mx 331 [] (.sl (Ij.map fun s=>[.str s])):=by
 refine MX pq ?_
 (repeat' first|simp only[go_sem]|refine Sz.s ?_|fail)
 all_goals rfl
theorem uA:Is mx 322 [] (.sl (Ik.map fun s=>[.str s])):=by
 refine MX po ?_
 (repeat' first|simp only[go_sem]|refine Sz.s ?_|fail)
 all_goals rfl
def Ps(x:Xpr):Bool:=decide (FA x.val=0)&&!decide (x.val.n<0)&&decide (EM ⟨x.val.kind,x.unit,x.name⟩=0)&&Ff x (.mk 1 [] x.name [] x.val x.unit 0 Fb [])
theorem uC(x:Xpr)(hx:bX x<=1073741824):Is mx 319 [.agg (eE x)] (.bool (Ps x)):=by
 have e1:=HE x;have e2:=Im x;have h1:=ZM (mx:=mx) x.val (by unfold EI at e1;omega);have h2:=Ro (mx:=mx) ⟨x.val.kind,x.unit,x.name⟩ (by show x.unit.length<=_;omega) (fun y hy=>by have h1:=B4 (b:=AY) (l:=x.unit) hy;have h2:AY y=y.name.length+1:=rfl;omega);have h3:=Pr (mx:=mx) x (.mk 1 [] x.name [] x.val x.unit 0 Fb []) (by omega) (by show x.unit.length<=_;omega);refine MX qH ?_;refine EV (cj h1 (cj h2 h3)) (cj ?_ ?_)
 ·intro _ _;refine Zae I.bool ?_;simp only[Ps];grind
 ·intro _ _;refine Zae I.bool ?_;simp only[Ps];grind
def Pt(w:Win):Bool:=if w.kind=1 then decide (w.size=0)else decide (1<w.kind)&&decide (w.kind<=4)&&decide (1<=w.size)&&decide (w.size<=1099511627776)
theorem uD(w:Win):Is mx 332 [.agg (F2 w)] (.bool (Pt w)):=by
 refine MX qK ?_
 (repeat' first|exact Ao _|simp only[go_sem,simprocAttr]|refine' Av (fun hq=>?_) (fun f=>?_)<;>try(have jd:=hq;try simp only[HB]at jd)|refine Sx.s ?_ ?_<;>try(intro h;have h':=h;try simp only[HB]at h';try simp only[h])|refine Ac ?_|refine Sz.s ?_|fail)
 all_goals(refine Zae I.bool ?_;simp only[Pt];grind)
def Jr(op:AQ):Int:=if op=GX then 1073741824 else if op=Jk then 1000 else 0
def Pu(x:Xpr):Bool:=Bm Ij x.op&&C6 x.table&&Pt x.win&&!decide (Jr x.op<x.param)&&!decide (x.param<(if Jr x.op<=1 then Jr x.op else 1))&&Ff x (.mk 5 x.op [] x.table FB [] x.param x.win [])
theorem uE(x:Xpr)(hx:bX x<=1073741824):Is mx 320 [.agg (eE x)] (.bool (Pu x)):=by
 have e2:=Im x;have h1:=Pq (mx:=mx) Ij x.op (by decide);have h2:=Iw (mx:=mx) x.table;have h3:=Pr (mx:=mx) x (.mk 5 x.op [] x.table FB [] x.param x.win []) (by omega) (by show 0<=_;omega);refine MX m5 ?_
 (repeat' first|exact Ao _|simp only[go_sem,simprocAttr]|refine' CI (fun hq=>?_) (fun f=>?_)<;>try(have jd:=hq;try simp only[HB]at jd)|refine Sx.s ?_ ?_<;>try(intro h;have h':=h;try simp only[HB]at h';try simp only[h])|refine Ab (uz) ?_|refine Ab (h1) ?_|refine Ab (h2) ?_|refine Ab (uD _) ?_|refine Ab (h3) ?_|refine Ac ?_|refine Au ?_|refine Sz.s ?_|fail)
 all_goals(refine Zae I.bool ?_;simp only[Pu,Jr,GX,Jk];first|done|(grind(splits:=20)))
theorem uF{a c:Int}{b d:Bool}(h:a=c)(k:b=d):I.tup [iI a,.bool b]=I.tup [iI c,.bool d]:=by rw[h,k]
def Gg(k:Int):Int:=if k=4\/k=6 then 1 else if k=5\/k=7\/k=9 then 2 else if k=8 then 3 else 0
def Np(x:Xpr):Bool:=C6 x.name&&Ff x (.mk x.kind [] x.name [] FB [] 0 Fb [])
def Kt(x:Xpr):Bool:=Ff x (.mk x.kind x.op [] [] FB [] 0 Fb [])
def Gh(x:Xpr)(inside:Bool):Bool:=
 if x.kind=1 then Ps x
 else if x.kind=2 then inside&&Np x
 else if x.kind=3\/x.kind=4 then !inside&&Np x
 else if x.kind=5 then !inside&&Pu x
 else if x.kind=6 then Kt x&&Bm Jg x.op
 else if x.kind=7 then Kt x&&Bm Ik x.op
 else if x.kind=8\/x.kind=9 then Kt x&&decide (x.op=[])
 else false
theorem uG(x:Xpr)(inside:Bool)(hx:bX x<=1073741824):Is mx 301 [.agg (eE x),.bool inside] (.tup [iI (Gg x.kind),.bool (Gh x inside)]):=by
 have e2:=Im x;have h1:=Pr (mx:=mx) x (.mk x.kind [] x.name [] FB [] 0 Fb []) (by omega) (by show 0<=_;omega);have h2:=Pr (mx:=mx) x (.mk x.kind x.op [] [] FB [] 0 Fb []) (by omega) (by show 0<=_;omega);have h3:=Pq (mx:=mx) Jg x.op (by decide);have h4:=Pq (mx:=mx) Ik x.op (by decide);refine MX pj ?_
 (repeat' first|exact Ao _|simp only[go_sem,simprocAttr]|refine' Av (fun hq=>?_) (fun f=>?_)<;>try(have jd:=hq;try simp only[HB]at jd)|refine' CI (fun hq=>?_) (fun f=>?_)<;>try(have jd:=hq;try simp only[HB]at jd)|refine Sx.s ?_ ?_<;>try(intro h;have h':=h;try simp only[HB]at h';try simp only[h])|refine Ab (Iw _) ?_|refine Ab (h1) ?_|refine Ab (h2) ?_|refine Ab (h3) ?_|refine Ab (h4) ?_|refine Ab (uC x hx) ?_|refine Ab (uE x hx) ?_|refine Ab (uA) ?_|refine Ac ?_|refine Au ?_|refine Sz.s ?_|fail)
 all_goals(refine uF ?_ ?_<;>(simp only[Gg,Gh,Np,Kt];first|done|(grind(splits:=20))))
def EN(x:Xpr)(inside:Bool):Bool:=inside||decide (x.kind=5)
def Nq(x:Xpr):Bool:=decide (x.kind≠5)||decide (x.op≠HF)||eU (x.args.getD 0 default) Fc
mutual
def Fg:Xpr->Bool->Bool
 |.mk k o n t v u p w a,inside=>(Gh (.mk k o n t v u p w a) inside&&decide ((a.length:Int)=Gg k))&&(formRs a (inside||decide (k=5))&&Nq (.mk k o n t v u p w a))
def formRs:List Xpr->Bool->Bool
 |[],_=>true
 |x::r,inside=>Fg x inside&&formRs r inside
end
theorem Pv(x:Xpr)(inside:Bool):Fg x inside=((Gh x inside&&decide ((x.args.length:Int)=Gg x.kind))&&(formRs x.args (EN x inside)&&Nq x)):=by cases x;simp only[Fg,EN,Xpr.kind,Xpr.args];rfl
theorem uH:∀(m:Nat) (x:Xpr) (inside:Bool),Bj x<=m->bX x<=1073741824->Is mx 268 [.agg (eE x),.bool inside] (.bool (Fg x inside)):=by
 intro m
 induction m with
 |zero=>intro x _ h;have:=E8 x;omega
 |succ m ih=>
  intro x inside hm hx;have hla:x.args.length<=1073741824:=by grind[LC]
  have j0:=D3 x;have hF:=Pv x inside;refine MX pe ?_;refine EV (uG x inside hx) (cj ?_ ?_)
  ·intro h h';refine Zae I.bool ?_;rw[hF];rcases h' with e|e<;>simp[e]
  ·intro h h';obtain⟨hn,hl⟩:=h';have hF2:Fg x inside=(formRs x.args (EN x inside)&&Nq x):=by grind
   have hi5:∀b:Bool,b=decide (x.kind=5)->(inside||b)=EN x inside:=fun b e=>by rw[e];rfl
   refine lS [1,2,5] (fun i=>[(7,.i (iI i))]) (fun _=>[]) (fun i=>formRs x.args (EN x inside)=formRs (x.args.drop i) (EN x inside)) x.args.length ?_;intro i hi jb;by_cases ja:i<x.args.length
   ·have hsi:=GW x.args i ja;have qq:=E7 x.args (i+1);have h1:=ih (x.args.getD i default) (EN x inside) (by rw[AK ja];omega) (by have:=Fa (At ja);omega);have hiT:((i:Int)<Gg x.kind)=True:=Za8 (by omega);rw[Dj ja,formRs]at jb
    (repeat' first|exact Ao _|simp(disch:=omega)only[go_sem,simprocAttr,BV ja,hiT]|refine' CI (fun hq=>?_) (fun f=>?_)<;>try(have jd:=hq;try simp only[HB]at jd)|refine Sx.s ?_ ?_<;>try(intro h;have h':=h;try simp only[HB]at h';try simp only[h])|refine Ab (h1) ?_|refine Ac ?_|refine Au ?_|refine Sz.s ?_|(refine And.intro ?_ ?_;focus omega))
    ·refine Zae I.bool ?_;rw[hF2,jb];simp only[Zb7]at h;rw[h];rfl
    ·rw[jb];simp only[Zb6]at h;rw[h];rfl
   ·have hiF:((i:Int)<Gg x.kind)=False:=Za9 (by omega);have e:i=x.args.length:=by omega
    rw[e,Zdb,formRs]at jb;rw[hF2,jb];by_cases hk:x.kind=5
    ·have h0:(0:Int)<(x.args.length:Int):=by rw[hl,hk];decide
     have h1:=uy (mx:=mx) _ (x.args.getD 0 default) Fc (Zgu _) (by have:=Fa (At (n:=0) (l:=x.args) (by omega));omega) (by decide);have hiF5:((i:Int)<Gg 5)=False:=by grind
     refine EV (cj ZN (cj h1 (cj hiF5 (cj h0 hk)))) ?_
     all_goals intros
     all_goals(refine Zae I.bool ?_;simp[Nq,hk];try rfl)
    ·(repeat' first|exact Ao _|simp(disch:=omega)only[go_sem,simprocAttr,hiF]|refine' CI (fun hq=>?_) (fun f=>?_)<;>try(have jd:=hq;try simp only[HB]at jd)|refine Ab (ZN) ?_|refine Ac ?_|refine Au ?_|refine Sz.s ?_|(refine And.intro ?_ ?_;focus omega))
     ·exact true
     ·exact absurd jd.1 hk
     all_goals(refine Zae I.bool ?_;simp[Nq,hk])
def Fh(x:Xpr):Int:=if 64<(Bj x:Int)\/12<(Ji x:Int)then 2 else if Fg x false=true then 0 else 3
theorem ZO(x:Xpr)(hx:bX x<=1073741824):Is mx 236 [.agg (eE x)] (iI (Fh x)):=by
 have hs:=M7 x;refine MX pZ ?_
 (repeat' first|exact Ao _|simp only[go_sem,simprocAttr]|refine' Av (fun hq=>?_) (fun f=>?_)<;>try(have jd:=hq;try simp only[HB]at jd)|refine Sx.s ?_ ?_<;>try(intro h;have h':=h;try simp only[HB]at h';try simp only[h])|refine Ab (uw _ x (Zgu _) (by omega)) ?_|refine Ab (ux _ x (Zgu _) (by omega)) ?_|refine Ab (uH _ x false (Zgu _) hx) ?_|refine Ac ?_|refine Sz.s ?_|fail)
 all_goals(refine Zae (I.int .i64) ?_;simp only[Fh];first|done|(grind(splits:=20)))
end
section
theorem LR{α:Type}[Inhabited α]{p:α->Bool}{l:List α}{i:Nat}(h:(l.take i).all (fun x=>!p x)=true)(hi:i<l.length)(hp:p (l.getD i default)=true):l.find? p=some (l.getD i default):=by
 rw[Zdm];refine⟨hp,i,hi,(AK hi).symm,fun j hj=>?_⟩;rw[Zcu]at h;have qx:j<l.length:=by omega
 have hm:l[j]∈l.take i:=Zfg.2 ⟨j,by simp;omega,by simp⟩;grind
theorem LS{α:Type}{p:α->Bool}{l:List α}{i:Nat}(h:(l.take i).all (fun x=>!p x)=true)(hi:¬i<l.length):l.find? p=none:=by rw[Zgf (by omega),Zcu]at h;grind
abbrev HP(c:Cat)(ent:AQ)(t:Tbl):List I:=[.sl (c.tables.map AS),.sl (c.features.map Af),.sl (c.drafts.map Af),.sl (c.past.map Af),.str ent,.str t.name,.str t.entity,.sl (t.fields.map B2),.int .i64 t.keep]
attribute [go_sem] HP
theorem ZP(c:Cat)(e0:AQ)(t:Tbl)(name ent:AQ)(hc:c.features.length<=1073741824):Is mx 324 [.agg (HP c e0 t),.str name,.str ent] (AC (Dx c.features name ent)):=by
 refine MX m6 ?_
 (repeat' first|simp(disch:=omega)only[go_sem,simprocAttr]|fail)
 refine Df [1,2,3,6] (by simp only[V0,JK,reduceIte,Nat.reduceEqDiff];rfl) (fun i=>[(8,.i (iI i))]) (fun _=>[(6,.cells ((Aq AI).map .i))]) (fun i=>(c.features.take i).all (fun f=>!decide (f.name=name))=true) c.features.length 0 (by omega) (by simp) (by simp[V0,H0,Ref.nm,Aq,D.nms,Oe]) ?_;intro i hi jb;by_cases ja:i<c.features.length
 ·by_cases hn:(c.features.getD i default).name=name
  ·have hf:=LR (p:=fun f=>decide (f.name=name)) jb ja (by simpa using hn);have hR:Dx c.features name ent=if(c.features.getD i default).entity≠ent then(AI,5)else((c.features.getD i default).typ,0):=by grind[Dx]
   rw[hR];by_cases he:(c.features.getD i default).entity=ent
   ·refine A8 (cj (BV ja) (cj hn he)) ?_;rfl
   ·refine A8 (cj (BV ja) (cj hn (cj he @AI.eq_1))) ?_;rfl
  ·refine lY (cj (BV ja) hn) ?_;exact BW (d:=default) jb ja (by simpa using hn)
 ·have hR:Dx c.features name ent=(AI,4):=by unfold Dx;rw[LS jb ja]
  rw[hR];refine A8 (cj (Hi ja) @AI.eq_1) ?_;rfl
theorem uI(c:Cat)(e0:AQ)(t:Tbl)(name:AQ)(hc:t.fields.length<=1073741824):Is mx 323 [.agg (HP c e0 t),.str name] (AC (Gc t name)):=by
 refine MX qI ?_
 (repeat' first|simp(disch:=omega)only[go_sem,simprocAttr]|fail)
 refine Df [1,2,4] (by simp only[V0,JK,reduceIte,Nat.reduceEqDiff];rfl) (fun i=>[(6,.i (iI i))]) (fun _=>[(4,.cells ((Aq AI).map .i))]) (fun i=>(t.fields.take i).all (fun f=>!decide (f.name=name))=true) t.fields.length 0 (by omega) (by simp) (by simp[V0,H0,Ref.nm,Aq,D.nms,Oe]) ?_;intro i hi jb;by_cases ja:i<t.fields.length
 ·by_cases hn:(t.fields.getD i default).name=name
  ·have hf:=LR (p:=fun f=>decide (f.name=name)) jb ja (by simpa using hn);have hR:Gc t name=((t.fields.getD i default).typ,0):=by grind[Gc]
   rw[hR];refine A8 (cj (BV ja) hn) ?_;rfl
  ·refine lY (cj (BV ja) hn) ?_;exact BW (d:=default) jb ja (by simpa using hn)
 ·have hR:Gc t name=(AI,4):=by unfold Gc;rw[LS jb ja]
  rw[hR];refine A8 (cj (Hi ja) @AI.eq_1) ?_;rfl
abbrev Bk:Tbl:=⟨[],[],[],0⟩
abbrev BD:Cat:=⟨[],[],[],[]⟩
def DO(c:Cat)(ent:AQ)(name:AQ):(Cat×Tbl)×Int:=match c.tables.find? (fun t=>decide (t.name=name))with
 |none=>((BD,Bk),4)
 |some t=>if t.entity≠ent then((BD,Bk),5)else((c,t),0)
theorem uJ(c:Cat)(e0:AQ)(t0:Tbl)(name:AQ)(hc:c.tables.length<=1073741824):Is mx 304 [.agg (HP c e0 t0),.str name] (.tup [.agg (HP (DO c e0 name).1.1 [] (DO c e0 name).1.2),iI (DO c e0 name).2]):=by
 refine MX nY ?_;refine Od ?_;refine lS [1,2,4] (fun i=>[(6,.i (iI i))]) (fun _=>[(4,.cells ((HP BD [] Bk).map .i))]) (fun i=>(c.tables.take i).all (fun f=>!decide (f.name=name))=true) c.tables.length ?_;intro i hi jb;by_cases ja:i<c.tables.length
 ·by_cases hn:(c.tables.getD i default).name=name
  ·have hf:=LR (p:=fun f=>decide (f.name=name)) jb ja (by simpa using hn);have hR:DO c e0 name=if(c.tables.getD i default).entity≠e0 then((BD,Bk),5)else((c,c.tables.getD i default),0):=by grind[DO]
   rw[hR];by_cases he:(c.tables.getD i default).entity=e0
   ·(repeat' first|simp(disch:=omega)only[go_sem,simprocAttr,BV ja,Za8 hn,Za8 he,Ze1,Ze5,Zaj,Za3]|refine Ac ?_|refine Sz.s ?_|fail)
    try rfl
   ·(repeat' first|simp(disch:=omega)only[go_sem,simprocAttr,BV ja,Za8 hn,Za9 he,Ze1,Ze5,Zaj,Za3,Zat]|refine Ac ?_|refine Sz.s ?_|fail)
    try rfl
  ·refine lY (cj (BV ja) hn) ?_;exact BW (d:=default) jb ja (by simpa using hn)
 ·have hR:DO c e0 name=((BD,Bk),4):=by unfold DO;rw[LS jb ja]
  rw[hR]
  (repeat' first|simp(disch:=omega)only[go_sem,simprocAttr,Hi ja,Ze1,Ze5]|refine Ac ?_|refine Sz.s ?_|fail)
  try rfl
def Ku(a b:Typ):Int:=if a.kind≠b.kind\/a.of≠b.of then 5 else if a.unit=b.unit then 0 else 70
theorem Un(a b:Typ)(ha:a.unit.length<=1073741824)(hb:b.unit.length<=1073741824):Is mx 238 [.agg (Aq a),.agg (Aq b)] (iI (Ku a b)):=by
 refine MX nP ?_
 (repeat' first|exact Ao _|simp(disch:=omega)only[go_sem,simprocAttr]|refine' Av (fun hq=>?_) (fun f=>?_)<;>try(have jd:=hq;try simp only[HB]at jd)|refine Sx.s ?_ ?_<;>try(intro h;have h':=h;try simp only[HB]at h';try rewrite [h];try simp only[h])|refine Ab (Rg _ _ ha hb) ?_|refine Ac ?_|refine Sz.s ?_|fail)
 all_goals(refine Zae (I.int .i64) ?_;simp only[Ku];first|done|(grind(splits:=20)))
def Rq(a b:Typ):Bool:=decide (a.kind=b.kind)&&decide (a.unit=b.unit)&&decide (a.of=b.of)
theorem uK(a b:Typ)(ha:a.unit.length<=1073741824)(hb:b.unit.length<=1073741824):Is mx 333 [.agg (Aq a),.agg (Aq b)] (.bool (Rq a b)):=by
 refine MX m8 ?_;refine EV @Rg ?_
 all_goals intros
 all_goals(refine Zae I.bool ?_;simp only[Rq];first|done|(grind(splits:=20)))
def ZQ:AQ:=[115,117,109]
def Uo:List AQ:=[ZQ,Ni,Jk,GX]
def Up:List AQ:=[Rc,Re]
def Nr(op:AQ)(a b:Typ):Typ×Int:=
 if b.kind≠1 then(AI,5)else if(Bm Uo op&&!CS a||Bm Up op&&!CS a&&decide (a.kind≠4))=true then(AI,5)
 else if op=HF\/op=Pk then(⟨2,[],[]⟩,0)else if op=Ni\/op=GX then(⟨3,a.unit,[]⟩,0)else(a,0)
theorem uL(x:Xpr)(a b:Typ):Is mx 325 [.agg (eE x),.agg (Aq a),.agg (Aq b)] (AC (Nr x.op a b)):=by
 have h1:=Pq (mx:=mx) Uo x.op (by decide);have h2:=Pq (mx:=mx) Up x.op (by decide);refine MX oa ?_
 (repeat' first|exact Ao _|simp(disch:=omega)only[go_sem,simprocAttr]|refine' Av (fun hq=>?_) (fun f=>?_)<;>try(have jd:=hq;try simp only[HB]at jd)|refine' CI (fun hq=>?_) (fun f=>?_)<;>try(have jd:=hq;try simp only[HB]at jd)|refine Sx.s ?_ ?_<;>try(intro h;have h':=h;try simp only[HB]at h';try rewrite [h];try simp only[h])|refine Ab (h1) ?_|refine Ab (h2) ?_|refine Ab (Rn _) ?_|refine Ac ?_|refine Sz.s ?_|fail)
 all_goals(simp only[Nr,HF,Pk,Ni,GX];grind[AC,Aq])
end
section
def Uq:AQ:=[97,110,100]
def sOr:AQ:=[111,114]
def Pw(a b:Typ):Bool:=CS a&&CS b
def Ns(op:AQ)(a b:Typ):List Fac×Int:=if op=[42]then Fe a.unit b.unit else if op=[47]then G1 a.unit b.unit else(a.unit,if a.unit=b.unit then 0 else 70)
def Ur(op:AQ)(a b:Typ):Int:=if op=[47]then 3 else if a.kind=2/\b.kind=2 then 2 else 3
def Us(op:AQ)(a b:Typ):Bool:=if op=[60]\/op=[60,61]then decide (a.kind=4)&&decide (b.kind=4)else Rq a b
def Nt(op:AQ)(a b:Typ):Typ×Int:=
 if op=Uq\/op=sOr then(if a.kind≠1\/b.kind≠1 then(AI,5)else(Kp,0))
 else if op=[61,61]\/op=[33,61]\/op=[60]\/op=[60,61]then
  (if(Pw a b&&!decide (a.unit=b.unit))=true then(AI,70)else if(!Pw a b&&!Us op a b)=true then(AI,5)else(Kp,0))
 else if Pw a b=false then(AI,5)else if(Ns op a b).2≠0 then(AI,70)else(⟨Ur op a b,(Ns op a b).1,[]⟩,0)
theorem uM(op:AQ)(a b:Typ)(ha:Ag AY a.unit<=1073741824)(hb:Ag AY b.unit<=1073741824):Is mx 326 [.str op,.agg (Aq a),.agg (Aq b)] (AC (Nt op a b)):=by
 have la:=E9 a.unit;have lb:=E9 b.unit;have h1:=uK (mx:=mx) a b (by omega) (by omega);have h2:=ZC (mx:=mx) a.unit b.unit ha hb;have h3:=tZ (mx:=mx) a.unit b.unit ha hb;have h4:=Rg (mx:=mx) a.unit b.unit (by omega) (by omega);refine MX pp ?_
 (repeat' first|exact Ao _|simp(disch:=omega)only[go_sem,simprocAttr,fe]|refine' Av (fun hq=>?_) (fun f=>?_)<;>try(have jd:=hq;try simp only[HB]at jd)|refine Sx.s ?_ ?_<;>try(intro h;have h':=h;try simp only[HB]at h';try rewrite [h];try simp only[h])|refine Ab (h1) ?_|refine Ab (h2) ?_|refine Ab (h3) ?_|refine Ab (h4) ?_|refine Ab (Rn _) ?_|refine Ac ?_|refine Sz.s ?_|fail)
 all_goals(simp only[Nt,Uq,sOr,Ns,Ur,Us,Pw];grind[AC,Aq])
end
section
def unR(op:AQ)(a:Typ):Typ×Int:=
 if(decide (op=Nj)&&!CS a||decide (op=Pl)&&decide (a.kind≠1))=true then(AI,5)else if op=Nj then(a,0)else(Kp,0)
def Kv(a b:Typ):Typ×Int:=if Ku a b≠0 then(AI,Ku a b)else(b,0)
def opR(c:Cat)(ent:AQ)(t:Tbl)(x:Xpr)(l:List Typ):Typ×Int:=
 if x.kind=1 then(⟨x.val.kind,x.unit,x.name⟩,0)
 else if x.kind=2 then Gc t x.name
 else if x.kind=3 then Dx c.features x.name ent
 else if x.kind=4 then(if(l.getD 0 default).kind≠5 then(AI,5)else Dx c.features x.name (l.getD 0 default).of)
 else if x.kind=5 then Nr x.op (l.getD 0 default) (l.getD 1 default)
 else if x.kind=6 then unR x.op (l.getD 0 default)
 else if x.kind=7 then Nt x.op (l.getD 0 default) (l.getD 1 default)
 else if x.kind=8 then(if(l.getD 0 default).kind≠1 then(AI,5)else Kv (l.getD 1 default) (l.getD 2 default))
 else Kv (l.getD 0 default) (l.getD 1 default)
def uT(t:Typ):Prop:=Ag AY t.unit<=1073741824
theorem uN(c:Cat)(ent:AQ)(t:Tbl)(x:Xpr)(l:List Typ)(hk:1<=x.kind/\x.kind<=9)(hl:(l.length:Int)=Gg x.kind)(hc:c.features.length<=1073741824)(ht:t.fields.length<=1073741824)(hu:∀y∈l,uT y):
  Is mx 305 [.agg (HP c ent t),.agg (eE x),.sl (l.map Aq)] (AC (opR c ent t x l)):=by
 have hg:∀i,i<l.length->Ag AY (l.getD i default).unit<=1073741824:=fun i h=>hu _ (At h)
 have hg2:∀i,i<l.length->(l.getD i default).unit.length<=1073741824:=fun i h=>by have:=hg i h;have:=E9 (l.getD i default).unit;omega
 have jk:x.kind=1\/x.kind=2\/x.kind=3\/x.kind=4\/x.kind=5\/x.kind=6\/x.kind=7\/x.kind=8\/x.kind=9:=by omega
 refine MX pm ?_;rcases jk with h|h|h|h|h|h|h|h|h<;>simp[h,Gg]at hl<;>simp only[opR,h,Int.reduceEq,Zad,Zag]
 ·(repeat' first|simp(disch:=omega)only[go_sem,simprocAttr,AC,h]|refine Ac ?_|refine Sz.s ?_|fail)
 ·(repeat' first|simp(disch:=omega)only[go_sem,simprocAttr,AC,h]|refine Sx.s ?_ ?_<;>try(intro h;have h':=h;try simp only[HB]at h';try rewrite [h];try simp only[h])|refine Ab (uI c ent t x.name ht) ?_|refine Ac ?_|refine Sz.s ?_|fail)
 ·(repeat' first|simp(disch:=omega)only[go_sem,simprocAttr,AC,h]|refine Sx.s ?_ ?_<;>try(intro h;have h':=h;try simp only[HB]at h';try rewrite [h];try simp only[h])|refine Ab (ZP c ent t x.name ent hc) ?_|refine Ac ?_|refine Sz.s ?_|fail)
 ·have h0:((0:Int)<(l.length:Int))=True:=Za8 (by omega);have h0n:(0<l.length)=True:=Za8 (by omega)
  (repeat' first|simp(disch:=omega)only[go_sem,simprocAttr,AC,h,hl]|refine Sx.s ?_ ?_<;>try(intro h;have h':=h;try simp only[HB]at h';try rewrite [h];try simp only[h])|refine Ab (ZP c ent t x.name _ hc) ?_|refine Ac ?_|refine Au ?_|refine Sz.s ?_|fail)
  all_goals grind[AC,Aq]
 ·have h0n:(0<l.length)=True:=Za8 (by omega);have h1n:(1<l.length)=True:=Za8 (by omega)
  (repeat' first|simp(disch:=omega)only[go_sem,simprocAttr,AC,h,hl]|refine Ab (uL x _ _) ?_|refine Ac ?_|refine Au ?_|refine Sz.s ?_|fail)
 ·have h0n:(0<l.length)=True:=Za8 (by omega)
  (repeat' first|exact Ao _|simp(disch:=omega)only[go_sem,simprocAttr,AC,h,hl]|refine' Av (fun hq=>?_) (fun f=>?_)<;>try(have jd:=hq;try simp only[HB]at jd)|refine' CI (fun hq=>?_) (fun f=>?_)<;>try(have jd:=hq;try simp only[HB]at jd)|refine Sx.s ?_ ?_<;>try(intro h;have h':=h;try simp only[HB]at h';try rewrite [h];try simp only[h])|refine Ab (Rn _) ?_|refine Ac ?_|refine Sz.s ?_|fail)
  all_goals(simp only[unR,Nj,Pl];grind[AC,Aq])
 ·have h0n:(0<l.length)=True:=Za8 (by omega);have h1n:(1<l.length)=True:=Za8 (by omega)
  (repeat' first|simp(disch:=omega)only[go_sem,simprocAttr,AC,h,hl]|refine Ab (uM x.op (l.getD 0 default) (l.getD 1 default) (hg 0 (by omega)) (hg 1 (by omega))) ?_|refine Ac ?_|refine Au ?_|refine Sz.s ?_|fail)
 ·have h0n:(0<l.length)=True:=Za8 (by omega);have h1n:(1<l.length)=True:=Za8 (by omega);have h2n:(2<l.length)=True:=Za8 (by omega);have hb:=Un (mx:=mx) (l.getD 1 default) (l.getD 2 default) (hg2 1 (by omega)) (hg2 2 (by omega))
  (repeat' first|simp(disch:=omega)only[go_sem,simprocAttr,AC,h,hl]|refine Sx.s ?_ ?_<;>try(intro h;have h':=h;try simp only[HB]at h';try rewrite [h];try simp only[h])|refine Ab (hb) ?_|refine Ac ?_|refine Au ?_|refine Sz.s ?_|fail)
  all_goals(simp only[Kv];grind[AC,Aq])
 ·have h0n:(0<l.length)=True:=Za8 (by omega);have h1n:(1<l.length)=True:=Za8 (by omega);have hb:=Un (mx:=mx) (l.getD 0 default) (l.getD 1 default) (hg2 0 (by omega)) (hg2 1 (by omega))
  (repeat' first|simp(disch:=omega)only[go_sem,simprocAttr,AC,h,hl]|refine Sx.s ?_ ?_<;>try(intro h;have h':=h;try simp only[HB]at h';try rewrite [h];try simp only[h])|refine Ab (hb) ?_|refine Ac ?_|refine Au ?_|refine Sz.s ?_|fail)
  all_goals(simp only[Kv];grind[AC,Aq])
end
section
mutual
def Dy(c:Cat):AQ->Tbl->Xpr->Typ×Int
 |ent,t,.mk k o n tb v u p w a=>
  if k=5 then
   if(DO c ent tb).2≠0 then(AI,(DO c ent tb).2)
   else match inferRs c [] (DO c ent tb).1.2 a with
    |.error e=>(AI,e)
    |.ok l=>opR c ent t (.mk k o n tb v u p w a) l
  else match inferRs c ent t a with
    |.error e=>(AI,e)
    |.ok l=>opR c ent t (.mk k o n tb v u p w a) l
def inferRs(c:Cat):AQ->Tbl->List Xpr->Except Int (List Typ)
 |_,_,[]=>.ok []
 |ent,t,x::r=>if(Dy c ent t x).2≠0 then .error (Dy c ent t x).2 else match inferRs c ent t r with
   |.error e=>.error e
   |.ok l=>.ok ((Dy c ent t x).1::l)
end
def Kw(ent:AQ)(x:Xpr):AQ:=if x.kind=5 then[]else ent
def Iz(c:Cat)(ent:AQ)(t:Tbl)(x:Xpr):Tbl:=if x.kind=5 then(DO c ent x.table).1.2 else t
def Js(c:Cat)(ent:AQ)(x:Xpr):Int:=if x.kind=5 then(DO c ent x.table).2 else 0
theorem Rr(c:Cat)(ent:AQ)(t:Tbl)(x:Xpr):Dy c ent t x=if Js c ent x≠0 then(AI,Js c ent x)else match inferRs c (Kw ent x) (Iz c ent t x) x.args with
  |.error e=>(AI,e)
  |.ok l=>opR c ent t x l:=by
 cases x with
 |mk k o n tb v u p w a=>
  simp only[Dy,Kw,Iz,Js,Xpr.kind,Xpr.args,Xpr.table];by_cases h:k=5
  ·simp only[h,Zad]
  ·simp only[h,Zag,Zaj,Za3]
theorem ZR(c:Cat)(ent:AQ)(t:Tbl):∀(a:List Xpr) (i:Nat) (l:List Typ) (h:i<a.length),inferRs c ent t (a.take i)=.ok l->inferRs c ent t (a.take (i+1))=if(Dy c ent t a[i]).2≠0 then .error (Dy c ent t a[i]).2 else .ok (l++[(Dy c ent t a[i]).1])
 |[],i,l,h,_=>by simp at h
 |x::r,0,l,h,hl=>by simp only[Zgj,inferRs]at hl;cases hl;simp only[Zg8,Zgg,Zgj,inferRs,Zed,Zft]
 |x::r,i+1,l,h,hl=>by
  simp only[Zgg,inferRs,Zec]at hl⊢;by_cases he:(Dy c ent t x).2≠0
  ·rw[Zaa he]at hl;cases hl
  ·rw[Zac he]at hl⊢;cases h2:inferRs c ent t (r.take i)with
   |error e=>rw[h2]at hl;cases hl
   |ok l'=>
    rw[h2]at hl;cases hl;rw[ZR c ent t r i l' (by simpa using h) h2];have hir:i<r.length:=by simpa using h
    by_cases h3:(Dy c ent t r[i]).2≠0
    ·rw[Zaa h3,Zaa h3]
    ·rw[Zac h3,Zac h3];rfl
theorem ZS(c:Cat)(ent:AQ)(t:Tbl):∀(a:List Xpr) (i:Nat) (e:Int),inferRs c ent t (a.take i)=.error e->inferRs c ent t a=.error e
 |[],i,e,h=>by rw[Zge]at h;exact h
 |x::r,0,e,h=>by simp only[Zgj,inferRs]at h;cases h
 |x::r,i+1,e,h=>by
  simp only[Zgg,inferRs]at h⊢;by_cases he:(Dy c ent t x).2≠0
  ·rw[Zaa he]at h⊢;exact h
  ·rw[Zac he]at h⊢;cases h2:inferRs c ent t (r.take i)with
   |error e'=>rw[h2]at h;cases h;rw[ZS c ent t r i _ h2]
   |ok l'=>rw[h2]at h;cases h
theorem G5:uT AI:=by simp[uT,Ag]
theorem ZT:uT Kp:=by simp[uT,Ag]
theorem uO{c:Cat}(hc:AR c<=1073741824){f:Ftr}(h:f∈c.features):uT f.typ:=by grind[BR,B4,Bd,G2,D4,Ag,AY,uT]
def tT(t:Tbl):Prop:=Dh t<=1073741824
theorem uP{t:Tbl}(ht:tT t){f:Fld}(h:f∈t.fields):uT f.typ:=by have h1:=HO t;have h2:=B4 (b:=FC) h;have h3:=Nn f;grind[D4,Ag,AY,tT,uT]
theorem uQ{t:Tbl}(ht:tT t):t.fields.length<=1073741824:=by grind[HO,Pn,tT]
theorem Ut:tT Bk:=by simp[tT,HO,Ag]
theorem uR{c:Cat}(hc:AR c<=1073741824)(ent name:AQ):tT (DO c ent name).1.2:=by grind[DO,Ut,BR,B4,Dh,tT]
theorem uS{c:Cat}{ent name:AQ}(h:(DO c ent name).2=0):(DO c ent name).1.1=c:=by grind[DO]
theorem Uu(l:List Fac):∀(ns:List AQ) (acc:List Fac),(∀s∈ns,s.length<=24)->(∀f∈acc,f.name.length<=24)->Ag AY (FI l ns acc).1<=100
 |[],acc,_,h=>by
  simp only[FI];split
  ·simp[Ag]
  ·rename_i h4;have:∀(l:List Fac),(∀f∈l,f.name.length<=24)->Ag AY l<=25*l.length:=by
    intro l;induction l with
    |nil=>intro _;simp[Ag]
    |cons f r ih=>intro hh;have h1:=ih fun g hg=>hh g (Zfc _ hg);have h2:=hh f Zfd;simp only[Ag,AY,Zem];omega
   have:=this acc h;show Ag AY acc<=100;omega
 |s::r,acc,hs,h=>by
  have hr:∀s∈r,s.length<=24:=fun s hs'=>hs s (Zfc _ hs')
  simp only[FI];split
  ·simp[Ag]
  ·split
   ·exact Uu l r _ hr fun f hf=>by
     rcases Ze9.1 hf with h1|h1
     ·exact h f h1
     ·simp at h1;subst h1;exact hs s Zfd
   ·exact Uu l r _ hr h
theorem uU{l:List AQ}{s x:AQ}(h:x∈BY l s):x=s\/x∈l:=by grind[BY]
theorem ZU:∀(l:List Fac) (out:List AQ) {x:AQ},x∈D6 out l->x∈out\/∃f∈l,f.name=x
 |[],out,x,h=>.inl h
 |f::r,out,x,h=>by
  rcases ZU r _ h with h|⟨g,h1,h2⟩
  all_goals grind[uU]
theorem uV{s:AQ}(h:BX s=true):s.length<=24:=by grind[BX]
theorem uW(l:List Fac):Ag AY (Ix l).1<=100:=by
 unfold Ix;split
 ·rename_i hw;refine Uu l _ _ (fun s hs=>?_) (by simp);rcases ZU l [] hs with h|⟨f,h1,rfl⟩
  all_goals grind[HH,uV]
 ·simp[Ag]
theorem ZV(a b:List Fac):Ag AY (Fe a b).1<=100:=by
 unfold Fe;repeat' split
 ·simp[Ag]
 ·simp[Ag]
 ·exact uW _
theorem uX(a b:List Fac):Ag AY (G1 a b).1<=100:=by
 unfold G1;repeat' split
 ·simp[Ag]
 ·simp[Ag]
 ·exact ZV _ _
theorem uY{c:Cat}(hc:AR c<=1073741824){ent:AQ}{t:Tbl}(ht:tT t){x:Xpr}{l:List Typ}(hx:bX x<=1073741824)(hl:∀y∈l,uT y):uT (opR c ent t x l).1:=by
 have hn:∀n e,uT (Dx c.features n e).1:=fun n e=>by
  unfold Dx;split
  ·exact G5
  ·rename_i f hf;split
   ·exact G5
   ·exact uO hc (Zfi hf)
 have hg:∀i,uT (l.getD i default):=fun i=>by
  by_cases h:i<l.length
  ·exact hl _ (At h)
  ·have:l.getD i default=default:=by simp[List.getD,Zd3 (Zgt h)]
   rw[this];show Ag AY (default:Typ).unit<=_;decide
 have hs:∀a b,uT b->uT (Kv a b).1:=fun a b h=>by
  unfold Kv;split
  ·exact G5
  ·exact h
 have hi:uT ⟨2,[],[]⟩:=by simp[uT,Ag]
 have hd:∀i,uT ⟨3,(l.getD i default).unit,[]⟩:=fun i=>hg i
 have hur:∀k o,uT ⟨k,(Ns o (l.getD 0 default) (l.getD 1 default)).1,[]⟩:=fun k o=>by
  unfold uT Ns;simp only;split
  ·have:=ZV (l.getD 0 default).unit (l.getD 1 default).unit;omega
  ·split
   ·have:=uX (l.getD 0 default).unit (l.getD 1 default).unit;omega
   ·exact hg 0
 unfold opR;split
 ·have h1:=HE x;unfold uT;show Ag AY x.unit<=_;omega
 split
 ·unfold Gc;split
  ·exact G5
  ·rename_i f hf;exact uP ht (Zfi hf)
 split
 ·exact hn _ _
 split
 ·split
  ·exact G5
  ·exact hn _ _
 split
 ·unfold Nr;repeat' split
  all_goals first|exact G5|exact hg 0|exact hi|exact hd 0
 split
 ·unfold unR;repeat' split
  all_goals first|exact G5|exact hg 0|exact ZT
 split
 ·unfold Nt;repeat' split
  all_goals first|exact G5|exact ZT|exact hur _ _
 split
 ·split
  ·exact G5
  ·exact hs _ _ (hg 2)
 ·exact hs _ _ (hg 1)
theorem Uv{c:Cat}(n:Nat)(ih:∀(ent:AQ) (t:Tbl) (x:Xpr),tT t->bX x<=n->bX x<=1073741824->uT (Dy c ent t x).1):∀(ent:AQ) (t:Tbl) (a:List Xpr) (l:List Typ),tT t->(∀x∈a,bX x<=n/\bX x<=1073741824)->inferRs c ent t a=.ok l->∀y∈l,uT y
 |ent,t,[],l,ht,h,he,y,hy=>by simp only[inferRs]at he;cases he;simp at hy
 |ent,t,x::r,l,ht,h,he,y,hy=>by
  simp only[inferRs]at he;split at he
  ·cases he
  ·split at he
   ·cases he
   ·rename_i l' hl';cases he;rcases Zfb.1 hy with e|e
    ·subst e;exact ih ent t x ht (h x (by simp)).1 (h x (by simp)).2
    ·exact Uv n ih ent t r l' ht (fun z hz=>h z (by simp[hz])) hl' y e
theorem ZW{c:Cat}(hc:AR c<=1073741824){ent:AQ}{t:Tbl}(ht:tT t)(x:Xpr):tT (Iz c ent t x):=by grind[Iz,uR]
theorem ZX{c:Cat}(hc:AR c<=1073741824):∀(n:Nat) (ent:AQ) (t:Tbl) (x:Xpr),tT t->bX x<=n->bX x<=1073741824->uT (Dy c ent t x).1:=by
 intro n
 induction n with
 |zero=>intro ent t x _ h;have:=HE x;omega
 |succ n ih=>
  intro ent t x ht hb hx;rw[Rr];split
  ·exact G5
  ·split
   ·exact G5
   ·rename_i l e2;exact uY hc ht hx (Uv n ih _ _ x.args l (ZW hc ht x) (fun y hy=>by have:=Fa hy;omega) e2)
theorem ZY{x:Xpr}{i:Bool}(h:Gh x i=true):1<=x.kind/\x.kind<=9:=by grind[Gh]
theorem uZ{l:List Xpr}{i:Bool}(h:formRs l i=true):∀x∈l,Fg x i=true:=by
 induction l with
 |nil=>intro x hx;simp at hx
 |cons a r ih=>grind[formRs]
theorem u0(c:Cat)(hc:AR c<=1073741824):∀(n:Nat) (ent:AQ) (t:Tbl) (x:Xpr) (i:Bool),tT t->bX x<=n->bX x<=1073741824->Fg x i=true->
  Is mx 269 [.agg (HP c ent t),.agg (eE x)] (AC (Dy c ent t x)):=by
 intro n
 induction n with
 |zero=>intro ent t x i _ h;have:=HE x;omega
 |succ n ih=>
  intro ent t x i ht hb hx hf;rw[Pv]at hf;simp only[Zbz,Za0]at hf;obtain⟨⟨hnode,je⟩,jz,_⟩:=hf;have hk:=ZY hnode;have vm:=LC x;have hcf:c.features.length<=1073741824:=by grind[BR,C1]
  have hct:c.tables.length<=1073741824:=by grind[BR,G3]
  have hR:=Rr c ent t x;have hwi:=uJ (mx:=mx) c ent t x.table hct;refine MX p9 ?_;refine Od ?_;by_cases he:Js c ent x=0
  ·rw[Zac (by omega)]at hR;refine Dl.cutS [2,3,4,6] (by simp only[V0,JK,reduceIte,Nat.reduceEqDiff];rfl) [] [(6,.cells ((HP c (Kw ent x) (Iz c ent t x)).map .i)),(4,.cells ((Aq AI).map .i))] True ?_ (fun _=>?_)
   ·by_cases h5:x.kind=5
    ·simp only[Js,h5,Zad]at he;have hw1:=uS he;rw[hw1,he]at hwi;exact AU (cj hwi (cj h5 (cj @Kw.eq_1 @Iz.eq_1))) trivial
    ·exact Jf (cj h5 (cj @Kw.eq_1 @Iz.eq_1)) trivial
   ·have ht':=ZW hc (ent:=ent) ht x;generalize hE:Kw ent x=ent' at hR;generalize hT:Iz c ent t x=t' at hR ht'
    (repeat' first|simp(disch:=omega)only[go_sem,simprocAttr,Ze1,Ze5]|fail)
    refine A4 [2,3,4,6] (by simp only[V0,JK,reduceIte,Nat.reduceEqDiff];rfl) (fun g:Nat×List Typ=>[(9,.ref (.sl 9 3 0 g.2.length)),(10,.i (iI g.1))]) (fun g=>[(9,.rows 41 3 (g.2.map Aq)),(6,.cells ((HP c ent' t').map .i)),(4,.cells ((Aq AI).map .i))])
     (fun g=>g.1<=x.args.length/\inferRs c ent' t' (x.args.take g.1)=.ok g.2/\g.2.length=g.1) (fun g=>x.args.length-g.1) (0,[]) (by simp[inferRs]) (by simp[V0,H0,Ref.nm,Aq,HP,D.nms,Oe]) ?_
    rintro⟨k,l⟩ ⟨hi,hl,qv⟩;simp only at hi hl qv;by_cases ja:k<x.args.length
    ·have kw:=At ja;have hba:=Fa kw;have i1:=ih ent' t' (x.args.getD k default) _ ht' (by omega) (by omega) (uZ jz _ kw);have kc:=ZR c ent' t' x.args k l ja hl;rw[<-AK ja]at kc;generalize hy:Dy c ent' t' (x.args.getD k default)=y at i1 kc;refine AU (cj i1 (cj (BV ja) @AC.eq_1)) (cj ?_ ?_)
     ·intro h h';rw[Zaa h']at kc;have:=ZS c ent' t' x.args (k+1) _ kc;rw[this]at hR;rw[hR];rfl
     ·intro _ _;rw[Zac (by omega)]at kc;refine⟨by simp[],by simp[I.one],by omega,by omega,⟨k+1,l++[y.1]⟩,⟨by omega,kc,by simp[qv]⟩,by show x.args.length-(k+1)<_;omega,⟨by simp,rfl⟩,?_⟩;simp[Aq]
    ·have e:k=x.args.length:=by omega
     subst e;rw[Zgd]at hl;have qg:=Uv n (fun ent t x h1 h2 h3=>ZX hc n ent t x h1 h2 h3) ent' t' x.args l ht' (fun z hz=>by have:=Fa hz;omega) hl;have hrc:=uN (mx:=mx) c ent t x l hk (by rw[qv];exact je) hcf (uQ ht) qg;rw[hl]at hR;simp only at hR;refine AU (cj hrc (cj (Hi ja) @AC.eq_1)) ?_;rw[hR]
  ·rw[Zaa he]at hR;have h5:x.kind=5:=by grind[Js]
   simp only[Js,h5,Zad]at he hR;rw[hR];refine Ac ?_;generalize hq:DO c ent x.table=q at he hwi;exact AU (cj hwi (cj h5 (cj @AC.eq_1 he))) trivial
def EO(c:Cat)(ent:AQ)(x:Xpr):Typ×Int:=if Fh x≠0 then(AI,Fh x)else Dy c ent Bk x
theorem ZZ{x:Xpr}(h:Fh x=0):Fg x false=true:=by grind[Fh]
end
section
theorem u7(c:Cat)(ent:AQ)(x:Xpr)(hc:AR c<=1073741824)(hx:bX x<=1073741824):Is mx 237 [.agg (Ap c),.str ent,.agg (eE x)] (AC (EO c ent x)):=by
 have h1:=ZO (mx:=mx) x hx;refine MX mM ?_;by_cases h0:Fh x=0
 ·have h2:=u0 (mx:=mx) c hc _ ent Bk x _ Ut (Zgu _) hx (ZZ h0);have hT:EO c ent x=Dy c ent Bk x:=by grind[EO]
  rw[hT];exact AU (cj h1 (cj h2 (cj h0 @AC.eq_1))) trivial
 ·have hT:EO c ent x=(AI,Fh x):=by unfold EO;rw[Zaa h0]
  rw[hT]
  (repeat' first|simp(disch:=omega)only[go_sem,simprocAttr,h0,AC,Zaj,Zat,Za1]|refine Sx.s ?_ ?_<;>try(intro h;have h':=h;try simp only[HB]at h';try rewrite [h];try simp only[h])|refine Ab (h1) ?_|refine Ac ?_|refine Sz.s ?_|fail)
  try rfl
def Dz(c:Cat)(f:Ftr):Int:=
 if(!C6 f.name||!C6 f.entity||decide (f.version<0))=true then 3 else if EM f.typ≠0 then EM f.typ
 else if(EO c f.entity f.body).2≠0 then(EO c f.entity f.body).2 else Ku (EO c f.entity f.body).1 f.typ
theorem u9{c:Cat}(hc:AR c<=1073741824){ent:AQ}{x:Xpr}(hx:bX x<=1073741824):uT (EO c ent x).1:=by
 unfold EO;split
 ·exact G5
 ·exact ZX hc _ ent Bk x Ut (Zgu _) hx
theorem Z0(c:Cat)(f:Ftr)(hc:AR c<=1073741824)(hf:Bd f<=1073741824):Is mx 184 [.agg (Ap c),.agg (Af f)] (iI (Dz c f)):=by
 have h0:=G2 f;have h4:D4 f.typ=Ag AY f.typ.unit+f.typ.of.length+1:=rfl;have hl:=E9 f.typ.unit;have h1:=u7 (mx:=mx) c f.entity f.body hc (by omega);have h2:=Ro (mx:=mx) f.typ (by omega) (fun y hy=>by have h1:=B4 (b:=AY) (l:=f.typ.unit) hy;have h2:AY y=y.name.length+1:=rfl;omega);have hu:=u9 hc (ent:=f.entity) (x:=f.body) (by omega);have qg:=E9 (EO c f.entity f.body).1.unit;unfold uT at hu;have h3:=Un (mx:=mx) (EO c f.entity f.body).1 f.typ (by omega) (by omega);have hR:=Dz.eq_1 c f;generalize EO c f.entity f.body=q at h1 h3 hR;refine MX oO ?_
 (repeat' first|exact Ao _|simp(disch:=omega)only[go_sem,simprocAttr,AC]|refine' Av (fun hq=>?_) (fun f=>?_)<;>try(have jd:=hq;try simp only[HB]at jd)|refine Sx.s ?_ ?_<;>try(intro h;have h':=h;try simp only[HB]at h';try rewrite [h];try simp only[h])|refine Ab (Iw _) ?_|refine Ab (h1) ?_|refine Ab (h2) ?_|refine Ab (h3) ?_|refine Ac ?_|refine Sz.s ?_|fail)
 all_goals(refine Zae (I.int .i64) ?_;rw[hR];first|done|(grind(splits:=20)))
abbrev noX:Xpr:=.mk 0 [] [] [] FB [] 0 Fb []
abbrev Cs:Ftr:=⟨[],[],AI,noX,0⟩
def AV(l:List Tbl)(name:AQ):Option Tbl:=l.find? fun t=>decide (t.name=name)
def BL(l:List Ftr)(name:AQ):Option Ftr:=l.find? fun f=>decide (f.name=name)
def Gi(o:Option Tbl):I:=.tup [.agg (AS (o.getD Bk)),.bool o.isSome]
def Nu(o:Option Ftr):I:=.tup [.agg (Af (o.getD Cs)),.bool o.isSome]
abbrev Z1:List D:=[.i (.str []),.i (.str []),.i (.sl []),.i (iI 0)]
abbrev vA:List D:=[.i (.str []),.i (.str []),.i (iI 0),.i (.sl []),.i (.str []),.i (iI 0),.i (.str []),.i (.str []),.i (.str []),.i (iI 0),.i (iI 0),.i (.str []),.i (.sl []),.i (iI 0),.i (iI 0),.i (iI 0),.i (.sl []),.i (iI 0)]
theorem Rs(c:Cat)(name:AQ)(hc:c.tables.length<=1073741824):Is mx 97 [.agg (Ap c),.str name] (Gi (AV c.tables name)):=by
 refine MX F97 ?_
 (repeat' first|simp(disch:=omega)only[go_sem,simprocAttr]|fail)
 refine Df [1,2,4] (by simp only[V0,JK,reduceIte,Nat.reduceEqDiff];rfl) (fun i=>[(6,.i (iI i))]) (fun _=>[(4,.cells Z1)]) (fun i=>(c.tables.take i).all (fun f=>!decide (f.name=name))=true) c.tables.length 0 (by omega) (by simp) (by simp[V0,H0,Ref.nm,D.nms,Oe]) ?_;intro i hi jb;by_cases ja:i<c.tables.length
 ·by_cases hn:(c.tables.getD i default).name=name
  ·have hf:=LR (p:=fun f=>decide (f.name=name)) jb ja (by simpa using hn);rw[AV,hf]
   (repeat' first|simp(disch:=omega)only[go_sem,simprocAttr,BV ja,Za8 hn]|refine Ac ?_|refine Sz.s ?_|fail)
   try rfl
  ·refine La (cj (BV ja) hn) ?_;exact BW (d:=default) jb ja (by simpa using hn)
 ·rw[AV,LS jb ja];refine FU (Hi ja) ?_
  try rfl
theorem vB(l:List Ftr)(name:AQ)(hc:l.length<=1073741824):Is mx 327 [.sl (l.map Af),.str name] (Nu (BL l name)):=by
 refine MX qJ ?_;refine Od ?_;refine lS [0,1,4] (fun i=>[(6,.i (iI i))]) (fun _=>[(4,.cells vA)]) (fun i=>(l.take i).all (fun f=>!decide (f.name=name))=true) l.length ?_;intro i hi jb;by_cases ja:i<l.length
 ·by_cases hn:(l.getD i default).name=name
  ·have hf:=LR (p:=fun f=>decide (f.name=name)) jb ja (by simpa using hn);rw[BL,hf];refine FU (cj (BV ja) hn) ?_
   try rfl
  ·refine La (cj (BV ja) hn) ?_;exact BW (d:=default) jb ja (by simpa using hn)
 ·rw[BL,LS jb ja];refine FU (Hi ja) ?_
  try rfl
theorem Z2(c:Cat)(name:AQ)(hc:c.features.length<=1073741824):Is mx 307 [.agg (Ap c),.str name] (Nu (BL c.features name)):=by have h1:=vB (mx:=mx) c.features name hc;refine MX mY ?_;exact EV (cj h1 @Nu.eq_1) trivial
theorem vC(l:List AQ)(s:AQ)(hl:l.length<=1073741824):Is mx 273 [.sl (l.map BC),.str s] (.bool (Bm l s)):=by
 refine MX qA ?_;refine Od ?_;refine lS [0,1] (fun i=>[(5,.i (iI i))]) (fun _=>[]) (fun i=>(l.take i).all (fun y=>!decide (s=y))=true) l.length ?_;intro i hi jb;by_cases ja:i<l.length
 ·by_cases hn:l.getD i default=s
  ·have:Bm l s=true:=by grind[Bm]
   rw[this];exact FU (cj (BV ja) hn) trivial
  ·refine La (cj (BV ja) hn) ?_;exact BW (d:=default) jb ja (by simpa using fun e=>hn e.symm)
 ·have:Bm l s=false:=by grind[Bm]
  rw[this];exact FU (Hi ja) trivial
end
end Go.Proofs.YtojgbkiejjingaaGreatDoor
