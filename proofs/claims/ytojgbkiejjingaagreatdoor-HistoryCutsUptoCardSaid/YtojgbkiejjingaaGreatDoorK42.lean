/-
  Lemmas, no statement.
-/
import Derived.Test.YtojgbkiejjingaaGreatDoorK41
set_option linter.all false
set_option maxRecDepth 100000
set_option maxHeartbeats 8000000
namespace Go.Proofs.YtojgbkiejjingaaGreatDoor
open Go Go.Dl Go.As Go.Proofs
variable {mx:Int}
attribute[local irreducible] Ah Aj MC W W2 FA ev evD step Ae
section
def jB(n m:Int):Bool:=decide (rr (Si 0 (List.zipWith (·+·) (A8 (Nw n).1 (Nw n).2) (A8 (Nw m).1 (Nw m).2)))=Nw (n+m))
theorem jC:(List.range 145).all (fun k=>(List.range 17).all fun j=>jB ((k:Int)-72) ((j:Int)-8))=true:=by rfl
theorem jD{n m:Int}(h:-72<=n/\n<=72)(k:-8<=m/\m<=8):rr (Si 0 (List.zipWith (·+·) (A8 (Nw n).1 (Nw n).2) (A8 (Nw m).1 (Nw m).2)))=Nw (n+m):=by have h1:=List.all_eq_true.1 jC (n+72).toNat (by simp;omega);have h2:=List.all_eq_true.1 h1 (m+8).toNat (by simp;omega);rw[show(((n+72).toNat:Nat):Int)-72=n by omega,show(((m+8).toNat:Nat):Int)-8=m by omega]at h2;exact of_decide_eq_true h2
theorem Wm{n:Int}(h:-1000<=n/\n<=1000):rB (Nw n).1 (Nw n).2:=by unfold Nw;split<;>exact⟨by constructor<;>omega,by constructor<;>omega⟩
theorem jE(n m:Int)(h:-72<=n/\n<=72)(k:-8<=m/\m<=8):Is mx 350 [.agg [iI (Nw n).1,iW (Nw n).2],.agg [iI (Nw m).1,iW (Nw m).2]] (.agg [iI (Nw (n+m)).1,iW (Nw (n+m)).2]):=by have:=ii (mx:=mx) _ _ _ _ (Wm (n:=n) (by omega)) (Wm (n:=m) (by omega));simp_all[wQ,jD]
theorem Wn(n:Int)(h:-9223372036854775808<=n/\n<=9223372036854775807):Is mx 349 [iI n] (.agg [iI (Nw n).1,iW (Nw n).2]):=by have:=Q1 (mx:=mx) n h;grind[Lc]
theorem jF(n:Int)(h:-128<=n/\n<=128):Is mx 351 [.agg [iI (Nw n).1,iW (Nw n).2],iI 1] (.tup [iI n,.bool true]):=by have:=iG (mx:=mx) n h;grind[Lc]
def CX:List Fac->Bs->Int
 |[],_=>0
 |f::r,s=>(if f.name=s then f.exp else 0)+CX r s
theorem Wo:∀(l:List Fac) (s:Bs),(∀f∈l,-8<=f.exp/\f.exp<=8)→-(8*(l.length:Int))<=CX l s/\CX l s<=8*(l.length:Int)
 |[],_,_=>by simp[CX]
 |f::r,s,h=>by
  have h1:=Wo r s fun g hg=>h g (List.mem_cons_of_mem _ hg)
  grind[CX]
theorem jG(l r:List Fac)(s:Bs):CX (l++r) s=CX l s+CX r s:=by
 induction l with
 |nil=>simp[CX]
 |cons f l ih=>simp only[List.cons_append,CX,ih];omega
def I8(l:List Fac)(s:Bs):Int×Bool:=if MK (CX l s)=true then(0,false)else(CX l s,true)
theorem jH(l:List Fac)(s:Bs)(hl:l.length<=9)(he:∀f∈l,-8<=f.exp/\f.exp<=8):Is mx 345 [.sl (l.map AC),.str s] (.tup [iI (I8 l s).1,.bool (I8 l s).2]):=by
 have hz:=Wn (mx:=mx) 0 (by omega);refine MX fI ?_
 (repeat' first|simp(disch:=omega)only[go_sem,simprocAttr]|refine Sx.s ?_ ?_<;>try(intro h;have h':=h;try simp only[HB]at h';try rewrite [h];try simp only[h])|refine Ab (hz) ?_|fail)
 refine AA [0,1,6] (by simp only[V0,G4,reduceIte,Nat.reduceEqDiff];rfl) (fun i:Nat=>[(7,.i (iI i))]) (fun i=>[(6,.cells [.i (iI (Nw (CX (l.take i) s)).1),.i (iW (Nw (CX (l.take i) s)).2)])])
  (fun i=>i<=l.length) (fun i=>l.length-i) 0 (by omega) (by simp[V0,Fz,GF,Ref.nm,CX,Nw]) ?_
 intro i hi;have hb:=Wo (l.take i) s (fun f hf=>he f (List.mem_of_mem_take hf));have wn:(l.take i).length=i:=by simp;omega
 rw[wn]at hb;by_cases ja:i<l.length
 ·have h8:=he _ (AE ja);have ht:l.take (i+1)=l.take i++[l.getD i default]:=by simp_all
  have hs:CX (l.take (i+1)) s=CX (l.take i) s+(if(l.getD i default).name=s then(l.getD i default).exp else 0):=by rw[ht,jG];simp[CX]
  have c1:=Wn (mx:=mx) (l.getD i default).exp (by omega);have c2:=jE (mx:=mx) (CX (l.take i) s) (l.getD i default).exp (by omega) h8
  (repeat' first|simp(disch:=omega)only[go_sem,simprocAttr,Ck ja]|refine Sx.s ?_ ?_<;>try(intro h;have h':=h;try simp only[HB]at h';try rewrite [h];try simp only[h])|refine Ab (c1) ?_|refine Ab (c2) ?_|refine Aa ?_|refine Am ?_|fail)
  ·rw[if_pos h']at hs;exact⟨i+1,by omega,by omega,rfl,by rw[hs]⟩
  ·rw[if_neg h',Int.add_zero]at hs;exact⟨i+1,by omega,by omega,rfl,by rw[hs]⟩
 ·have e:l.take i=l:=List.take_of_length_le (by omega);have je:(i:Int)=l.length:=by omega
  rw[e]at hb⊢;have c3:=jF (mx:=mx) (CX l s) (by omega)
  (repeat' first|simp(disch:=omega)only[go_sem,simprocAttr,Ie ja]|refine Sx.s ?_ ?_<;>try(intro h;have h':=h;try simp only[HB]at h';try rewrite [h];try simp only[h])|refine Ab (c3) ?_|refine Ab (Wk _) ?_|refine Aa ?_|refine Sz.s ?_|fail)
  ·simp[I8,h']
  ·simp[I8,h']
def Gc(l:List Fac):List Bs->List Fac->List Fac×Int
 |[],acc=>if 4<(acc.length:Int)then([],2)else(acc,0)
 |s::r,acc=>if(I8 l s).2=false then([],70)else if(I8 l s).1≠0 then Gc l r (acc++[⟨s,(I8 l s).1⟩])else Gc l r acc
def I9(l:List Fac):List Fac×Int:=if J8 l=true then Gc l (EQ [] l) []else([],1)
theorem Wp:∀(l:List Fac) (out:List Bs),(EQ out l).length<=out.length+l.length
 |[],out=>by simp[EQ]
 |f::r,out=>by have h1:=Wp r (Cr out f.name);grind[Ra,EQ]
theorem jI(l:List Fac)(hl:l.length<=9)(he:∀f∈l,-8<=f.exp/\f.exp<=8)(hn:∀f∈l,f.name.length<=1073741824):Is mx 338 [.sl (l.map AC)] (vV (I9 l)):=by
 have hns:=iN (mx:=mx) l (by omega);have hnl:(EQ [] l).length<=9:=by grind[Wp]
 generalize hng:EQ [] l=ns at hns hnl;refine MX fF ?_
 (repeat' first|simp(disch:=omega)only[go_sem,simprocAttr]|fail)
 refine AA [0] (by simp only[V0,G4,reduceIte,Nat.reduceEqDiff];rfl) (fun i:Nat=>[(4,.i (iI i))]) (fun _=>[(2,.rows 239 2 [])])
  (fun i=>i<=l.length/\J8 (l.take i)=true) (fun i=>l.length-i) 0 (by simp[J8]) (by simp[V0,Fz,GF]) ?_
 rintro i ⟨hi,hw⟩;by_cases ja:i<l.length
 ·have jo:=hn _ (AE ja)
  (repeat' first|simp(disch:=omega)only[go_sem,simprocAttr,Ck ja]|refine Sx.s ?_ ?_<;>try(intro h;have h':=h;try simp only[HB]at h';try rewrite [h];try simp only[h])|refine Ab (Wl _ jo) ?_|refine Aa ?_|refine Sz.s ?_|fail)
  ·have:J8 l=false:=by grind[J8]
   simp[I9,this,vV]
  ·exact⟨i+1,⟨by omega,BO (d:=default) hw ja h'⟩,by omega,rfl⟩
 ·have e:l.take i=l:=List.take_of_length_le (by omega);rw[e]at hw;have hN:I9 l=Gc l ns []:=by grind[I9]
  rw[hN]
  (repeat' first|simp(disch:=omega)only[go_sem,simprocAttr,Ie ja]|refine Sx.s ?_ ?_<;>try(intro h;have h':=h;try simp only[HB]at h';try rewrite [h];try simp only[h])|refine Ab (hns) ?_|refine Aa ?_|fail)
  refine AA [0,6] (by simp only[V0,G4,reduceIte,Nat.reduceEqDiff];rfl) (fun g:Nat×List Fac=>[(7,.ref (.sl 7 2 0 g.2.length)),(8,.i (iI g.1))]) (fun g=>[(7,.rows 239 2 (g.2.map AC)),(2,.rows 239 2 [])])
   (fun g=>g.1<=ns.length/\Gc l (ns.drop g.1) g.2=Gc l ns []/\g.2.length<=g.1) (fun g=>ns.length-g.1) (0,[]) (by simp) (by simp[V0,Fz,GF,Ref.nm]) ?_
  rintro⟨k,acc⟩ ⟨hk,hN1,hal⟩;simp only at hk hN1 hal;by_cases jn:k<ns.length
  ·have c1:=jH (mx:=mx) l (ns.getD k default) hl he;rw[EP jn,Gc]at hN1;generalize I8 l (ns.getD k default)=p at c1 hN1
   (repeat' first|simp(disch:=omega)only[go_sem,simprocAttr,Ck jn,Nat.sub_zero]|refine Sx.s ?_ ?_<;>try(intro h;have h':=h;try simp only[HB]at h';try rewrite [h];try simp only[h])|refine Ab (c1) ?_|refine Aa ?_|refine Sz.s ?_|fail)
   ·rw[if_pos h']at hN1;rw[<-hN1];rfl
   ·rw[if_neg (by rw[‹p.2=true›];simp),if_pos h']at hN1;exact⟨by simp,by simp[I.one],by omega,by omega,(k+1,acc++[⟨ns.getD k default,p.1⟩]),⟨by show k+1<=_;omega,hN1,by simp;omega⟩,by show ns.length-(k+1)<_;omega,⟨by simp,rfl⟩,by simp[AC]⟩
   ·rw[if_neg (by rw[‹p.2=true›];simp),if_neg (by simpa using h')]at hN1;exact⟨(k+1,acc),⟨by show k+1<=_;omega,hN1,by show acc.length<=k+1;omega⟩,by show ns.length-(k+1)<_;omega,⟨rfl,rfl⟩,rfl⟩
  ·rw[List.drop_eq_nil_of_le (by omega),Gc]at hN1
   (repeat' first|simp(disch:=omega)only[go_sem,simprocAttr,Ie jn,Nat.sub_zero]|refine Sx.s ?_ ?_<;>try(intro h;have h':=h;try simp only[HB]at h';try rewrite [h];try simp only[h])|refine Aa ?_|refine Sz.s ?_|fail)
   ·rw[if_pos h']at hN1;rw[<-hN1];rfl
   ·rw[if_neg (by omega)]at hN1;rw[<-hN1];rfl
def Dh(u:List Fac):List Fac:=u.map fun f=>⟨f.name,-f.exp⟩
theorem jJ(u:List Fac)(hu:u.length<=1000)(he:∀f∈u,-8<=f.exp/\f.exp<=8):Is mx 339 [.sl (u.map AC)] (.sl ((Dh u).map AC)):=by
 refine MX fG ?_
 (repeat' first|simp(disch:=omega)only[go_sem,simprocAttr]|fail)
 refine AA [0] (by simp only[V0,G4,reduceIte,Nat.reduceEqDiff];rfl) (fun i:Nat=>[(3,.ref (.sl 3 2 0 i)),(4,.i (iI i))]) (fun i=>[(3,.rows 239 2 ((Dh (u.take i)).map AC)),(2,.rows 239 2 [])])
  (fun i=>i<=u.length) (fun i=>u.length-i) 0 (by omega) (by simp[V0,Fz,GF,Ref.nm,Dh]) ?_
 intro i hi;have hil:(Dh (u.take i)).length=i:=by grind[Dh]
 by_cases ja:i<u.length
 ·have h8:=he _ (AE ja);have e0:IntKind.i64.wrap (0-(u.getD i default).exp)=-(u.getD i default).exp:=by grind[CE]
  have e1:IntKind.i64.wrap (-(u.getD i default).exp)=-(u.getD i default).exp:=CE (by omega) (by omega);have et:(Dh (u.take (i+1))).map AC=(Dh (u.take i)).map AC++[[.str (u.getD i default).name,iI (-(u.getD i default).exp)]]:=by simp only[Dh];rw[List.take_succ_eq_append_getElem ja,List.map_append,List.map_append,A7 ja];rfl
  have kj:((Dh (u.take i)).map AC).take i=(Dh (u.take i)).map AC:=List.take_of_length_le (by simp[hil])
  (repeat' first|simp(disch:=omega)only[go_sem,simprocAttr,Ck ja,e0,kj,Nat.sub_zero]|refine Aa ?_|refine Am ?_|(refine And.intro ?_ ?_;focus omega))
  exact⟨by simp,by simp[I.one],by omega,by omega,i+1,by omega,by omega,⟨rfl,rfl⟩,by rw[et]⟩
 ·have e:u.take i=u:=List.take_of_length_le (by omega);rw[e]at hil⊢;have ji:(i<=(Dh u).length)=True:=eq_true (by omega);have kj:((Dh u).map AC).take i=(Dh u).map AC:=List.take_of_length_le (by simp[hil])
  (repeat' first|simp(disch:=omega)only[go_sem,simprocAttr,Ie ja,ji,kj]|refine Aa ?_|refine Sz.s ?_|fail)
def Fi(a b:List Fac):List Fac×Int:=if Bv a≠0 then([],Bv a)else if Bv b≠0 then([],Bv b)else I9 (a++b)
def GQ(a b:List Fac):List Fac×Int:=if Bv a≠0 then([],Bv a)else if Bv b≠0 then([],Bv b)else Fi a (Dh b)
theorem Wq(a b:List Fac)(ha:Ag AX a<=1073741824)(hb:Ag AX b<=1073741824):Is mx 334 [.sl (a.map AC),.sl (b.map AC)] (vV (Fi a b)):=by
 have la:=EL a;have lb:=EL b;have na:∀f∈a,f.name.length<=1073741824:=fun f hf=>by grind[B0,AX]
 have nb:∀f∈b,f.name.length<=1073741824:=fun f hf=>by grind[B0,AX]
 have c1:=MR (mx:=mx) a (by omega) na;have c2:=MR (mx:=mx) b (by omega) nb;by_cases h1:Bv a=0
 ·by_cases h2:Bv b=0
  ·obtain⟨a4,ae⟩:=Rb h1;obtain⟨b4,be⟩:=Rb h2;have c3:=jI (mx:=mx) (a++b) (by simp;omega) (fun f hf=>by rcases List.mem_append.1 hf with h|h;exact(ae f h).1.2;exact(be f h).1.2) (fun f hf=>by rcases List.mem_append.1 hf with h|h;exact na f h;exact nb f h);have hT:Fi a b=I9 (a++b):=by grind[Fi]
   rw[hT];rw[List.map_append]at c3;have hra:=BH (f:=AC) (k:=2) a (fun _=>rfl) (fun _=>rfl);have hrb:=BH (f:=AC) (k:=2) b (fun _=>rfl) (fun _=>rfl);refine MX QO ?_;have kj:(a.map AC++b.map AC).take (a.length+b.length)=a.map AC++b.map AC:=List.take_of_length_le (by simp)
   (repeat' first|simp only[go_sem,simprocAttr,h1,h2,eq_true hra.1,eq_true hra.2,eq_true hrb.1,eq_true hrb.2,Nat.zero_add,Nat.sub_zero,kj,vV,ne_eq,not_true_eq_false,decide_false]|refine Sx.s ?_ ?_<;>try(intro h;have h':=h;try simp only[HB]at h';try rewrite [h];try simp only[h])|refine Ab (c1) ?_|refine Ab (c2) ?_|refine Ab (c3) ?_|refine Aa ?_|refine Sz.s ?_|(refine And.intro ?_ ?_;focus omega))
  ·have hT:Fi a b=([],Bv b):=by simp[Fi,h1,h2]
   rw[hT];refine MX QO ?_
   (repeat' first|simp only[go_sem,simprocAttr,h1,h2,ne_eq,not_true_eq_false,not_false_eq_true,decide_false,decide_true]|refine Sx.s ?_ ?_<;>try(intro h;have h':=h;try simp only[HB]at h';try rewrite [h];try simp only[h])|refine Ab (c1) ?_|refine Ab (c2) ?_|refine Aa ?_|refine Sz.s ?_|fail)
   rfl
 ·have hT:Fi a b=([],Bv a):=by simp[Fi,h1]
  rw[hT];refine MX QO ?_
  (repeat' first|simp only[go_sem,simprocAttr,h1,ne_eq,not_false_eq_true,decide_true]|refine Sx.s ?_ ?_<;>try(intro h;have h':=h;try simp only[HB]at h';try rewrite [h];try simp only[h])|refine Ab (c1) ?_|refine Aa ?_|refine Sz.s ?_|fail)
  rfl
theorem jK(u:List Fac):Ag AX (Dh u)=Ag AX u:=by
 induction u with
 |nil=>rfl
 |cons f r ih=>simp only[Dh,List.map_cons,Ag]at ih⊢;rw[ih];rfl
theorem jL(a b:List Fac)(ha:Ag AX a<=1073741824)(hb:Ag AX b<=1073741824):Is mx 335 [.sl (a.map AC),.sl (b.map AC)] (vV (GQ a b)):=by
 have la:=EL a;have lb:=EL b;have na:∀f∈a,f.name.length<=1073741824:=fun f hf=>by grind[B0,AX]
 have nb:∀f∈b,f.name.length<=1073741824:=fun f hf=>by grind[B0,AX]
 have c1:=MR (mx:=mx) a (by omega) na;have c2:=MR (mx:=mx) b (by omega) nb;by_cases h1:Bv a=0
 ·by_cases h2:Bv b=0
  ·obtain⟨b4,be⟩:=Rb h2;have c3:=jJ (mx:=mx) b (by omega) fun f hf=>(be f hf).1.2
   have c4:=Wq (mx:=mx) a (Dh b) ha (by rw[jK];exact hb);have hT:GQ a b=Fi a (Dh b):=by grind[GQ]
   rw[hT];refine MX QP ?_
   (repeat' first|simp only[go_sem,simprocAttr,h1,h2,vV,ne_eq,not_true_eq_false,decide_false]|refine Sx.s ?_ ?_<;>try(intro h;have h':=h;try simp only[HB]at h';try rewrite [h];try simp only[h])|refine Ab (c1) ?_|refine Ab (c2) ?_|refine Ab (c3) ?_|refine Ab (c4) ?_|refine Aa ?_|refine Sz.s ?_|fail)
  ·have hT:GQ a b=([],Bv b):=by simp[GQ,h1,h2]
   rw[hT];refine MX QP ?_
   (repeat' first|simp only[go_sem,simprocAttr,h1,h2,ne_eq,not_true_eq_false,not_false_eq_true,decide_false,decide_true]|refine Sx.s ?_ ?_<;>try(intro h;have h':=h;try simp only[HB]at h';try rewrite [h];try simp only[h])|refine Ab (c1) ?_|refine Ab (c2) ?_|refine Aa ?_|refine Sz.s ?_|fail)
   rfl
 ·have hT:GQ a b=([],Bv a):=by simp[GQ,h1]
  rw[hT];refine MX QP ?_
  (repeat' first|simp only[go_sem,simprocAttr,h1,ne_eq,not_false_eq_true,decide_true]|refine Sx.s ?_ ?_<;>try(intro h;have h':=h;try simp only[HB]at h';try rewrite [h];try simp only[h])|refine Ab (c1) ?_|refine Aa ?_|refine Sz.s ?_|fail)
  rfl
end
section

end
section
theorem Ja(f:Ftr):Bc f=f.name.length+f.entity.length+DM f.typ+bX f.body+1:=rfl
theorem GR(t:Tbl):CW t=t.name.length+t.entity.length+Ag EN t.fields+1:=rfl
theorem MS(f:Fld):EN f=f.name.length+DM f.typ+1:=rfl
theorem Ch(c:Cat):AV c=Ag CW c.tables+Ag Bc c.features+Ag Bc c.drafts+Ag Bc c.past+1:=rfl
theorem HM(l:List Tbl):l.length<=Ag CW l:=HI (fun x=>by have:=GR x;omega) l
theorem Fj(l:List Ftr):l.length<=Ag Bc l:=HI (fun x=>by have:=Ja x;omega) l
theorem OP(l:List Fld):l.length<=Ag EN l:=HI (fun x=>by have:=MS x;omega) l
theorem OQ(l:List Val):l.length<=Ag Es l:=HI (fun x=>by unfold Es;omega) l
theorem Jb(x:Fct):F8 x=F6 x.id+x.table.length+x.key.length+Ag Es x.fields+1:=rfl
theorem Fk(x:Chg):Dx x=CW x.table+Bc x.feature+x.name.length+1:=rfl
theorem Fl(x:Ent):AF x=F8 x.fact+GK x.erasure+Dx x.change+1:=rfl
theorem Lf(l:List Ent):l.length<=Ag AF l:=HI (fun x=>by have:=Fl x;omega) l
theorem jM{t:Tbl}{f:Fld}(h:f∈t.fields):EN f<=CW t:=by grind[B0,EN,GR]
theorem Wr{t:Tbl}{f:Fld}(h:f∈t.fields):DM f.typ<=CW t:=by have:=jM h;have:=MS f;omega
end
section
def Kc(x y:Fld):Bool:= !(!J9 x.typ y.typ||decide (x.name≠y.name))
def Ew(a b:Tbl):Bool:= !(decide (a.name≠b.name)||decide (a.entity≠b.entity)||decide (a.keep≠b.keep)||decide ((a.fields.length:Int)≠b.fields.length))&&eqL Kc a.fields b.fields
def ER(a b:Ftr):Bool:=J9 a.typ b.typ&&YT a.body b.body&&decide (a.name=b.name)&&decide (a.entity=b.entity)&&decide (a.version=b.version)
def OR(a b:Fct):Bool:=(a.id.source==b.id.source&&a.id.seq==b.id.seq)&&decide (a.kind=b.kind)&&decide (a.ref=b.ref)&&decide (a.table=b.table)&&decide (a.key=b.key)&&decide (a.event=b.event)&&eqL DO a.fields b.fields
def MT(said:Bool)(a b:Rw):Bool:=eqL DO a.fields b.fields&&(a.id.source==b.id.source&&a.id.seq==b.id.seq)&&decide (a.table=b.table)&&decide (a.key=b.key)&&decide (a.event=b.event)&&(!said||decide (a.no=b.no)&&decide (a.tick=b.tick))
theorem Rg(a b:Tbl)(hA:CW a<=1073741824)(hB:CW b<=1073741824):Is mx 86 [.agg (AP a),.agg (AP b)] (.bool (Ew a b)):=by
 have hla:a.fields.length<=1073741824:=by grind[GR,OP]
 refine MX zb ?_
 (repeat' first|exact Al _|simp(disch:=omega)only[go_sem,simprocAttr]|refine' Ao (fun hq=>?_) (fun f=>?_)<;>try(have jc:=hq;try simp only[HB]at jc)|refine Sx.s ?_ ?_<;>try(intro h;have h':=h;try simp only[HB]at h';try rewrite [h];try simp only[h])|refine Aa ?_|refine Sz.s ?_|fail)
 ·exact congrArg I.bool (OE rfl h)
 ·have je:a.fields.length=b.fields.length:=by omega
  rw[OF (q:=Ew a b) rfl h];refine BP [2,3] (fun i=>[(5,.i (iI i))]) (fun _=>[]) (fun i=>eqL Kc a.fields b.fields=eqL Kc (a.fields.drop i) (b.fields.drop i)) a.fields.length 0 (by omega) rfl ?_;intro i hi jb;by_cases ja:i<a.fields.length
  ·have jz:i<b.fields.length:=by omega
   have jk:=F9 jb ja jz;have h1:=We (mx:=mx) (a.fields.getD i default).typ (b.fields.getD i default).typ (by have:=MI (a.fields.getD i default).typ;have:=Wr (AE ja);omega) (by have:=MI (b.fields.getD i default).typ;have:=Wr (AE jz);omega)
   (repeat' first|exact Al _|simp(disch:=omega)only[go_sem,simprocAttr,Ck ja,Ck jz]|refine' Cf (fun hq=>?_) (fun f=>?_)<;>try(have jc:=hq;try simp only[HB]at jc)|refine Sx.s ?_ ?_<;>try(intro h;have h':=h;try simp only[HB]at h';try rewrite [h];try simp only[h])|refine Ab (h1) ?_|refine Aa ?_|refine Am ?_|refine Sz.s ?_|(refine And.intro ?_ ?_;focus omega))
   ·exact congrArg I.bool (OE jk h)
   ·exact OF jk h
  ·(repeat' first|simp(disch:=omega)only[go_sem,simprocAttr,Ie ja]|refine Aa ?_|refine Sz.s ?_|fail)
   exact congrArg I.bool (Ga jb (by omega) (by omega)).symm
end
section
theorem Rh(a b:Ftr)(hA:Bc a<=1073741824)(hB:Bc b<=1073741824):Is mx 87 [.agg (At a),.agg (At b)] (.bool (ER a b)):=by
 have ha:=Ja a;have hb:=Ja b;have h1:=We (mx:=mx) a.typ b.typ (by have:=MI a.typ;omega) (by have:=MI b.typ;omega);have h2:=iL (mx:=mx) _ a.body b.body (Nat.le_refl _) (by omega) (by omega);refine MX zc ?_
 (repeat' first|exact Al _|simp only[go_sem,simprocAttr]|refine' Ao (fun hq=>?_) (fun f=>?_)<;>try(have jc:=hq;try simp only[HB]at jc)|refine Sx.s ?_ ?_<;>try(intro h;have h':=h;try simp only[HB]at h';try simp only[h])|refine Ab (h1) ?_|refine Ab (h2) ?_|refine Sz.s ?_|fail)
 all_goals rfl
theorem jN(a b:Fct)(ha:a.fields.length<=1073741824)(hb:b.fields.length<=1073741824):Is mx 85 [.agg (Bu a),.agg (Bu b)] (.bool (OR a b)):=by
 refine MX za ?_
 (repeat' first|exact Al _|simp only[go_sem,simprocAttr]|refine' Ao (fun hq=>?_) (fun f=>?_)<;>try(have jc:=hq;try simp only[HB]at jc)|refine Ab (iK _ _ ha hb) ?_|refine Sz.s ?_|fail)
 all_goals rfl
theorem jO(a b:Rw)(said:Bool)(ha:a.fields.length<=1073741824)(hb:b.fields.length<=1073741824):Is mx 24 [.agg (KB a),.agg (KB b),.bool said] (.bool (MT said a b)):=by
 refine MX yh ?_
 (repeat' first|exact Al _|simp only[go_sem,simprocAttr]|refine' Ao (fun hq=>?_) (fun f=>?_)<;>try(have jc:=hq;try simp only[HB]at jc)|refine' Cf (fun hq=>?_) (fun f=>?_)<;>try(have jc:=hq;try simp only[HB]at jc)|refine Sx.s ?_ ?_<;>try(intro h;have h':=h;try simp only[HB]at h';try simp only[h])|refine Ab (iJ _ _ ha hb) ?_|refine Sz.s ?_|fail)
 all_goals rfl
theorem jP(said:Bool)(a b:List Rw)(ha:a.length<=1073741824)(hb:b.length<=1073741824)(hA:∀x∈a,x.fields.length<=1073741824)(hB:∀x∈b,x.fields.length<=1073741824):Is mx 18 [.sl (a.map KB),.sl (b.map KB),.bool said] (.bool (eqL (MT said) a b)):=by
 refine MX yb ?_
 (repeat' first|simp(disch:=omega)only[go_sem,simprocAttr]|refine Sx.s ?_ ?_<;>try(intro h;have h':=h;try simp only[HB]at h';try simp only[h])|refine Aa ?_|refine Sz.s ?_|fail)
 ·exact congrArg I.bool (eqL_len (by omega)).symm
 ·refine BP [0,1,2] (fun i=>[(7,.i (iI i))]) (fun _=>[]) (fun i=>eqL (MT said) a b=eqL (MT said) (a.drop i) (b.drop i)) a.length 0 (by omega) rfl ?_;intro i hi jb;by_cases ja:i<a.length
  ·have jz:i<b.length:=by omega
   have jk:=F9 jb ja jz;have hma:=AE ja;have z6:=AE jz
   (repeat' first|simp(disch:=omega)only[go_sem,simprocAttr,Ck ja,Ck jz]|refine Sx.s ?_ ?_<;>try(intro h;have h':=h;try simp only[HB]at h';try simp only[h])|refine Ab (jO _ _ said (hA _ hma) (hB _ z6)) ?_|refine Aa ?_|refine Am ?_|refine Sz.s ?_|(refine And.intro ?_ ?_;focus omega))
   ·exact congrArg I.bool (HK jk h)
   ·exact GN jk h
  ·(repeat' first|simp(disch:=omega)only[go_sem,simprocAttr,Ie ja]|refine Aa ?_|refine Sz.s ?_|fail)
   exact congrArg I.bool (Ga jb (by omega) (by omega)).symm
def Jc(a b:Ent):Bool:=OR a.fact b.fact&&Ew a.change.table b.change.table&&ER a.change.feature b.change.feature&&decide (a.no=b.no)&&decide (a.tick=b.tick)&&decide (a.kind=b.kind)&&(a.erasure.kind==b.erasure.kind&&(a.erasure.entity==b.erasure.entity&&(a.erasure.key==b.erasure.key&&(a.erasure.id.source==b.erasure.id.source&&a.erasure.id.seq==b.erasure.id.seq))))&&decide (a.change.kind=b.change.kind)&&decide (a.change.name=b.change.name)
theorem jQ(a b:Ent)(hA:AF a<=1073741824)(hB:AF b<=1073741824):Is mx 48 [.agg (Ad a),.agg (Ad b)] (.bool (Jc a b)):=by
 have a1:=Fl a;have a2:=Jb a.fact;have a3:=Fk a.change;have a4:=OQ a.fact.fields;have b1:=Fl b;have b2:=Jb b.fact;have b3:=Fk b.change;have b4:=OQ b.fact.fields;have h1:=jN (mx:=mx) a.fact b.fact (by omega) (by omega);have h2:=Rg (mx:=mx) a.change.table b.change.table (by omega) (by omega);have h3:=Rh (mx:=mx) a.change.feature b.change.feature (by omega) (by omega);refine MX yB ?_
 (repeat' first|exact Al _|simp only[go_sem,simprocAttr]|refine' Ao (fun hq=>?_) (fun f=>?_)<;>try(have jc:=hq;try simp only[HB]at jc)|refine Sx.s ?_ ?_<;>try(intro h;have h':=h;try simp only[HB]at h';try simp only[h])|refine Ab (h1) ?_|refine Ab (h2) ?_|refine Ab (h3) ?_|refine Sz.s ?_|fail)
 all_goals rfl
theorem OS(a b:List Ent)(ha:a.length<=1073741824)(hb:b.length<=1073741824)(hA:∀x∈a,AF x<=1073741824)(hB:∀x∈b,AF x<=1073741824):Is mx 15 [.sl (a.map Ad),.sl (b.map Ad)] (.bool (eqL Jc a b)):=by
 refine MX x9 ?_
 (repeat' first|simp(disch:=omega)only[go_sem,simprocAttr]|refine Sx.s ?_ ?_<;>try(intro h;have h':=h;try simp only[HB]at h';try simp only[h])|refine Aa ?_|refine Sz.s ?_|fail)
 ·exact congrArg I.bool (eqL_len (by omega)).symm
 ·refine BP [0,1] (fun i=>[(5,.i (iI i))]) (fun _=>[]) (fun i=>eqL Jc a b=eqL Jc (a.drop i) (b.drop i)) a.length 0 (by omega) rfl ?_;intro i hi jb;by_cases ja:i<a.length
  ·have jz:i<b.length:=by omega
   have jk:=F9 jb ja jz;have hma:=AE ja;have z6:=AE jz
   (repeat' first|simp(disch:=omega)only[go_sem,simprocAttr,Ck ja,Ck jz]|refine Sx.s ?_ ?_<;>try(intro h;have h':=h;try simp only[HB]at h';try simp only[h])|refine Ab (jQ _ _ (hA _ hma) (hB _ z6)) ?_|refine Aa ?_|refine Am ?_|refine Sz.s ?_|(refine And.intro ?_ ?_;focus omega))
   ·exact congrArg I.bool (HK jk h)
   ·exact GN jk h
  ·(repeat' first|simp(disch:=omega)only[go_sem,simprocAttr,Ie ja]|refine Aa ?_|refine Sz.s ?_|fail)
   exact congrArg I.bool (Ga jb (by omega) (by omega)).symm
end
section
theorem Ri(b:UInt8)(l sub:Bs):Lib.contains (b::l) sub=(sub.isPrefixOf (b::l)||Lib.contains l sub):=by simp only[Lib.contains,Lib.index];grind
theorem Rj(p:Bs):∀(k rest:Bs),(∀b∈k,b≠32)->Lib.contains (k++rest) (32::p)=Lib.contains rest (32::p)
 |[],rest,_=>rfl
 |b::k,rest,h=>by have h1:=h b (by simp);rw[List.cons_append,Ri,Rj p k rest fun c hc=>h c (by simp[hc])];grind
theorem Ws:∀(s k rest:Bs),(∀b∈s,b≠32)->(∀b∈k,b≠32)->(s++[32]).isPrefixOf (k++32::rest)=decide (s=k)
 |[],[],rest,_,_=>by rfl
 |[],c::k,rest,_,h=>by grind
 |b::s,[],rest,h,_=>by grind
 |b::s,c::k,rest,h,h'=>by simp only[List.cons_append,List.isPrefixOf];rw[Ws s k rest (fun x hx=>h x (by simp[hx])) fun x hx=>h' x (by simp[hx])];grind
def Lg:List Bs->Bs
 |[]=>[32]
 |k::r=>32::(k++Lg r)
theorem jR:∀l,∃r,Lg l=32::r
 |[]=>⟨[],rfl⟩
 |k::r=>⟨_,rfl⟩
theorem Wt(s:Bs)(hs:∀b∈s,b≠32):∀l:List Bs,(∀k∈l,∀b∈k,b≠32)->Lib.contains (Lg l) (32::(s++[32]))=l.any fun k=>decide (s=k)
 |[],_=>by simp only[Lg,List.any_nil,Ri];have:Lib.contains [] (32::(s++[32]))=false:=rfl;simp_all
 |k::l,h=>by have hk:=h k (by simp);simp only[Lg,List.any_cons,Ri];rw[Rj _ k _ hk,Wt s hs l fun k hk=>h k (by simp[hk])];obtain⟨r,hr⟩:=jR l;grind[Ws]
theorem jS:QR=Lg ON:=by decide
theorem jT(c:UInt8)(h:wc c=true):c≠32:=by rintro rfl;revert h;decide
theorem jU{s:Bs}(h:BA s=true):∀b∈s,b≠32:=by grind[BA,jT]
theorem jV(c:UInt8):rk c=wc c:=by grind[rk,wc,lc,dg]
theorem Wu(p:UInt8->Bool):∀r:Bs,((r.takeWhile p).length=r.length)↔r.all p=true
 |[]=>by simp
 |c::r=>by
  rw[List.takeWhile_cons,List.all_cons];by_cases h:p c=true
  ·rw[if_pos h];simp[Wu p r,h]
  all_goals grind
theorem jW(s:Bs):(decide (s≠[])&&decide (s.length<=24)&&decide (GO s=s.length))=BA s:=by
 cases s with
 |nil=>rfl
 |cons c r=>grind[lc,wc,rk,jV,BA,GO,Wu]
theorem MU(s:Bs):CH s=Dg s:=by
 unfold CH Dg;rw[jW];cases h:BA s with
 |false=>rfl
 |true=>
  have hs:=jU h;have h0:s≠[]:=by rintro rfl;cases h
  have h1:Lib.contains s [32]=false:=by have:=Rj [] s [] hs;rw[List.append_nil]at this;rw[this];rfl
  simp_all[Om,OO,jS,Wt,ON]
def D6(t:Typ):Int:=
 if(decide (t.kind<1)||decide (5<t.kind))=true then 3
 else if((decide (t.kind=5)&&!CH t.of)||(decide (t.kind≠5)&&decide (t.of≠[]))||(!C7 t&&decide (0<t.unit.length)))=true then 3
 else if Bv t.unit≠0 then 70 else if t.unit.any (fun f=>!CH f.name)=true then 70 else 0
theorem jX(t:Typ):D6 t=J3 t:=by have hn:Dg []=false:=rfl;grind[D6,J3,wZ,xi,xk,MU,Dg]
def GS:List Fld->List Fld->Int
 |_,[]=>0
 |seen,f::r=>if(!CH f.name)=true then 3 else if(seen.any fun g=>decide (g.name=f.name))=true then 121 else if D6 f.typ≠0 then D6 f.typ else GS (seen++[f]) r
def ES(t:Tbl):Int:=
 if(!CH t.name||!CH t.entity||decide (t.keep<0)||decide (1099511627776<t.keep))=true then 3 else if 8<t.fields.length then 2 else GS [] t.fields
theorem Wv:∀(l seen:List Fld),GS seen l=I7 seen l
 |[],_=>rfl
 |f::r,seen=>by simp only[GS,I7,MU,jX,Wv r]
theorem jY(t:Tbl):ES t=Kb t:=by simp[ES,Kb,MU,Wv]
end
section
theorem OT(t:Typ):Is mx 264 [.agg (AM t)] (.bool (C7 t)):=by
 refine MX eQ ?_
 (repeat' first|exact Al _|simp only[go_sem,simprocAttr]|refine' Ao (fun hq=>?_) (fun f=>?_)<;>try(have jc:=hq;try simp only[HB]at jc)|refine Sz.s ?_|fail)
 all_goals(refine congrArg I.bool ?_;(try simp only[C7]);(first|rfl|(simp_all;done)|(rw[Bool.eq_iff_iff];simp_all;done)|(rw[Bool.eq_iff_iff];simp_all;omega)))
theorem OU(t:Typ)(ht:t.unit.length<=1073741824)(hn:∀x∈t.unit,x.name.length<=1073741824):Is mx 235 [.agg (AM t)] (iI (D6 t)):=by
 refine MX eA ?_
 (repeat' first|exact Al _|simp(disch:=omega)only[go_sem,simprocAttr]|refine' Ao (fun hq=>?_) (fun f=>?_)<;>try(have jc:=hq;try simp only[HB]at jc)|refine' Cf (fun hq=>?_) (fun f=>?_)<;>try(have jc:=hq;try simp only[HB]at jc)|refine Sx.s ?_ ?_<;>try(intro h;have h':=h;try simp only[HB]at h';try rewrite [h];try simp only[h])|refine Ab (OT t) ?_|refine Ab (GP _) ?_|refine Ab (MR _ ht hn) ?_|refine Aa ?_|refine Sz.s ?_|fail)
 all_goals try(refine congrArg (I.int .i64) ?_;simp only[D6];grind)
 have hR:D6 t=if t.unit.any (fun f=>!CH f.name)=true then 70 else 0:=by grind[D6]
 rw[hR];refine BP [1] (fun i=>[(3,.i (iI i))]) (fun _=>[]) (fun i=>(t.unit.take i).all (fun f=>CH f.name)=true) t.unit.length 0 (by omega) (by simp) ?_;intro i hi jb;by_cases ja:i<t.unit.length
 ·(repeat' first|simp(disch:=omega)only[go_sem,simprocAttr,Ck ja]|refine Sx.s ?_ ?_<;>try(intro h;have h':=h;try simp only[HB]at h';try rewrite [h];try simp only[h])|refine Ab (GP _) ?_|refine Aa ?_|refine Sz.s ?_|(refine And.intro ?_ ?_;focus omega))
  ·refine congrArg (I.int .i64) ?_;have:t.unit.any (fun f=>!CH f.name)=true:=by grind
   rw[if_pos this]
  ·exact BO jb ja (by simpa using ‹_›)
 ·have e:i=t.unit.length:=by omega
  subst e;rw[List.take_length]at jb
  (repeat' first|simp(disch:=omega)only[go_sem,simprocAttr,Ie ja]|refine Aa ?_|refine Sz.s ?_|fail)
  refine congrArg (I.int .i64) ?_;rw[if_neg];rw[List.all_eq_true]at jb;simp only[List.any_eq_true,not_exists,not_and];intro x hx;simp[jb x hx]
theorem jZ{α:Type}[Inhabited α](p:α->Bool)(l:List α)(i:Nat)(hi:i<l.length):(l.take (i+1)).any p=((l.take i).any p||p (l.getD i default)):=by rw[List.take_succ_eq_append_getElem hi,List.any_append,A7 hi];simp
theorem kC(t:Tbl)(ht:∀x∈t.fields,DM x.typ<=1073741824)(hl:t.fields.length<=1073741824):Is mx 234 [.agg (AP t)] (iI (ES t)):=by
 refine MX ez ?_
 (repeat' first|exact Al _|simp(disch:=omega)only[go_sem,simprocAttr]|refine' Ao (fun hq=>?_) (fun f=>?_)<;>try(have jc:=hq;try simp only[HB]at jc)|refine Sx.s ?_ ?_<;>try(intro h;have h':=h;try simp only[HB]at h';try rewrite [h];try simp only[h])|refine Ab (GP _) ?_|refine Aa ?_|refine Sz.s ?_|fail)
 ·refine congrArg (I.int .i64) ?_;simp only[ES];grind
 ·refine congrArg (I.int .i64) ?_;simp only[ES];grind
 have hT:ES t=GS [] t.fields:=by grind[ES]
 rw[hT];refine BP [1] (fun i=>[(3,.i (iI i))]) (fun _=>[]) (fun i=>GS (t.fields.take i) (t.fields.drop i)=GS [] t.fields) t.fields.length 0 (by omega) (by simp) ?_;intro i hi jb;by_cases ja:i<t.fields.length
 ·have kh:=AE ja;rw[List.drop_eq_getElem_cons ja,<-A7 ja]at jb;simp only[GS]at jb;have kj:t.fields.take (i+1)=t.fields.take i++[t.fields.getD i default]:=by simp_all
  (repeat' first|simp(disch:=omega)only[go_sem,simprocAttr,Ck ja]|refine Sx.s ?_ ?_<;>try(intro h;have h':=h;try simp only[HB]at h';try rewrite [h];try simp only[h])|refine Ab (GP _) ?_|refine Aa ?_|refine Sz.s ?_|fail)
  ·refine congrArg (I.int .i64) ?_;grind
  have vi:(if((t.fields.take i).any fun g=>decide (g.name=(t.fields.getD i default).name))=true then 121 else if D6 (t.fields.getD i default).typ≠0 then D6 (t.fields.getD i default).typ else GS (t.fields.take i++[t.fields.getD i default]) (t.fields.drop (i+1)))=GS [] t.fields:=by grind
  refine BP [1,3] (fun k=>[(4,.i (iI k))]) (fun _=>[]) (fun k=>((t.fields.take k).any fun g=>decide (g.name=(t.fields.getD i default).name))=false) i 0 (by omega) (by simp) ?_;intro k hk hinv3;by_cases jn:k<i
  ·have zW:k<t.fields.length:=by omega
   have ky:((t.fields.getD k default).name=(t.fields.getD i default).name)->((t.fields.take i).any fun g=>decide (g.name=(t.fields.getD i default).name))=true:=fun e=>by rw[List.any_eq_true];refine⟨t.fields.getD k default,?_,by simpa using e⟩;rw[A7 zW];exact List.mem_take_iff_getElem.2 ⟨k,by omega,rfl⟩
   (repeat' first|simp(disch:=omega)only[go_sem,simprocAttr,Ck jn,Ck zW,Ck ja]|refine Sx.s ?_ ?_<;>try(intro h;have h':=h;try simp only[HB]at h';try rewrite [h];try simp only[h])|refine Aa ?_|refine Am ?_|refine Sz.s ?_|(refine And.intro ?_ ?_;focus omega))
   ·rw[if_pos (ky h')]at vi;rw[vi]
   ·rw[jZ _ _ _ zW,hinv3];exact h
  ·have e:k=i:=by omega
   subst e;rw[if_neg (by rw[hinv3];simp)]at vi;have hty:=OU (mx:=mx) (t.fields.getD k default).typ (by have:=MI (t.fields.getD k default).typ;have:=ht _ kh;omega) (fun x hx=>by have h1:=ht _ kh;have h2:=B0 (b:=AX) hx;have h3:AX x=x.name.length+1:=rfl;have h4:DM (t.fields.getD k default).typ=Ag AX (t.fields.getD k default).typ.unit+(t.fields.getD k default).typ.of.length+1:=rfl;omega)
   (repeat' first|simp(disch:=omega)only[go_sem,simprocAttr,Ie jn,Ck ja]|refine Sx.s ?_ ?_<;>try(intro h;have h':=h;try simp only[HB]at h';try rewrite [h];try simp only[h])|refine Ab (hty) ?_|refine Aa ?_|refine Sz.s ?_|(refine And.intro ?_ ?_;focus omega))
   ·rw[if_pos h']at vi;rw[vi]
   ·rw[kj];rw[if_neg (not_not_intro h')]at vi;exact vi
 ·have e:i=t.fields.length:=by omega
  subst e;rw[List.drop_length]at jb
  (repeat' first|simp(disch:=omega)only[go_sem,simprocAttr,Ie ja]|refine Aa ?_|refine Sz.s ?_|fail)
  rw[<-jb];rfl
end
section
def OV(v:Val)(t:Typ):Bool:=decide (Er v=0)&&(decide (v.kind=0)||decide (v.kind=t.kind))
theorem kD(v:Val)(t:Typ):Is mx 75 [.agg (A9 v),.agg (AM t)] (.bool (OV v t)):=by
 refine MX yX ?_
 (repeat' first|exact Al _|simp(disch:=omega)only[go_sem,simprocAttr]|refine' Ao (fun hq=>?_) (fun f=>?_)<;>try(have jc:=hq;try simp only[HB]at jc)|refine' Cf (fun hq=>?_) (fun f=>?_)<;>try(have jc:=hq;try simp only[HB]at jc)|refine Sx.s ?_ ?_<;>try(intro h;have h':=h;try simp only[HB]at h';try rewrite [h];try simp only[h])|refine Ab (Vz _) ?_|refine Sz.s ?_|fail)
 all_goals(refine congrArg I.bool ?_;simp only[OV];try grind)
end
section
theorem Ww(s:Bs)(low:Int)(hs:s.length<=1073741824):Is mx 225 [.str s,.int .u8 low] (.bool (!s.any (BZ low))):=by
 refine MX ec ?_
 (repeat' first|simp(disch:=omega)only[go_sem,simprocAttr]|fail)
 refine BP [0,1] (fun i=>[(5,.i (iI i))]) (fun _=>[]) (fun i=>(s.take i).all (fun c=>!BZ low c)=true) s.length 0 (by omega) (by simp) ?_;intro i hi jb;by_cases ja:i<s.length
 ·(repeat' first|exact Al _|simp(disch:=omega)only[go_sem,simprocAttr,Ck ja]|refine' Ao (fun hq=>?_) (fun f=>?_)<;>try(have jc:=hq;try simp only[HB]at jc)|refine Sx.s ?_ ?_<;>try(intro h;have h':=h;try simp only[HB]at h';try rewrite [h];try simp only[h])|refine Aa ?_|refine Sz.s ?_|(refine And.intro ?_ ?_;focus omega))
  ·have:s.any (BZ low)=true:=by rw[List.any_eq_true];exact⟨_,AE ja,h⟩
   rw[this];rfl
  ·exact BO (d:=default) jb ja (by rw[show BZ low (s.getD i default)=false from h];rfl)
 ·(repeat' first|simp(disch:=omega)only[go_sem,simprocAttr,Ie ja]|refine Aa ?_|refine Sz.s ?_|fail)
  have e:i=s.length:=by omega
  rw[e,List.take_length]at jb;have:s.any (BZ low)=false:=by grind
  rw[this];rfl
def Rk(s:Bs):Bool:=decide ((s.length:Int)<=64)&&!s.any (BZ 32)
def Kd(s:Bs):Bool:=decide (s≠[])&&decide ((s.length:Int)<=32)&&!s.any (BZ 33)
theorem kE(s:Bs)(hs:s.length<=1073741824):Is mx 263 [.str s] (.bool (Rk s)):=by
 refine MX eP ?_
 (repeat' first|exact Al _|simp(disch:=omega)only[go_sem,simprocAttr]|refine' Ao (fun hq=>?_) (fun f=>?_)<;>try(have jc:=hq;try simp only[HB]at jc)|refine Ab (Ww s 32 hs) ?_|refine Sz.s ?_|fail)
 all_goals rfl
theorem Wx(s:Bs)(hs:s.length<=1073741824):Is mx 171 [.str s] (.bool (Kd s)):=by
 refine MX dz ?_
 (repeat' first|exact Al _|simp(disch:=omega)only[go_sem,simprocAttr]|refine' Ao (fun hq=>?_) (fun f=>?_)<;>try(have jc:=hq;try simp only[HB]at jc)|refine Ab (Ww s 33 hs) ?_|refine Sz.s ?_|fail)
 all_goals rfl
def MV(v:Val):Bool:=
 if v.kind=0 then decide (v.n=0)&&decide (v.s=[])
 else if v.kind=1 then(decide (v.n=0)||decide (v.n=1))&&decide (v.s=[])
 else if v.kind=2\/v.kind=3 then decide (v.s=[])
 else if v.kind=4\/v.kind=5 then decide (v.n=0)
 else false
theorem kF(v:Val):Is mx 261 [.agg (A9 v)] (.bool (MV v)):=by
 refine MX eN ?_
 (repeat' first|exact Al _|simp(disch:=omega)only[go_sem,simprocAttr]|refine' Ao (fun hq=>?_) (fun f=>?_)<;>try(have jc:=hq;try simp only[HB]at jc)|refine Sx.s ?_ ?_<;>try(intro h;have h':=h;try simp only[HB]at h';try rewrite [h];try simp only[h])|refine Aa ?_|refine Sz.s ?_|fail)
 all_goals(refine congrArg I.bool ?_;simp only[MV];grind)
def wX(n:Int):Bool:=decide (-1152921504606846976<=n)&&decide (n<=1152921504606846976)
theorem kG(n:Int):Is mx 262 [iI n] (.bool (wX n)):=by
 refine MX eO ?_
 (repeat' first|exact Al _|simp(disch:=omega)only[go_sem,simprocAttr]|refine' Ao (fun hq=>?_) (fun f=>?_)<;>try(have jc:=hq;try simp only[HB]at jc)|refine Sz.s ?_|fail)
 all_goals rfl
def wR(v:Val):Int:=
 if(!MV v)=true then 1
 else if(!wX v.n||decide (v.kind=4)&&decide (64<(v.s.length:Int))||decide (v.kind=5)&&decide (32<(v.s.length:Int)))=true then 2
 else if(decide (v.kind=4)&&!Rk v.s||decide (v.kind=5)&&!Kd v.s)=true then 3
 else 0
theorem kH(v:Val)(hs:v.s.length<=1073741824):Is mx 226 [.agg (A9 v)] (iI (wR v)):=by
 refine MX eg ?_
 (repeat' first|exact Al _|simp(disch:=omega)only[go_sem,simprocAttr]|refine' Ao (fun hq=>?_) (fun f=>?_)<;>try(have jc:=hq;try simp only[HB]at jc)|refine' Cf (fun hq=>?_) (fun f=>?_)<;>try(have jc:=hq;try simp only[HB]at jc)|refine Sx.s ?_ ?_<;>try(intro h;have h':=h;try simp only[HB]at h';try rewrite [h];try simp only[h])|refine Ab (kF v) ?_|refine Ab (kG _) ?_|refine Ab (kE _ hs) ?_|refine Ab (Wx _ hs) ?_|refine Aa ?_|refine Sz.s ?_|fail)
 all_goals(refine congrArg (I.int .i64) ?_;simp only[wR];grind)
theorem Wy(v:Val):wR v=Er v:=by
 simp only[wR,Er,MV,wX,Rk,Kd,K6,ME,wP,wO];by_cases h0:v.kind=0
 ·simp[h0];try grind
 by_cases h1:v.kind=1
 ·simp[h1];try grind
 by_cases h2:v.kind=2
 ·simp[h2];try grind
 by_cases h3:v.kind=3
 ·simp[h3];try grind
 by_cases h4:v.kind=4
 ·simp[h4];try grind
 by_cases h5:v.kind=5
 ·simp[h5];try grind
 have:v.kind<0\/5<v.kind:=by omega
 simp[h0,h1,h2,h3,h4,h5,this]
theorem Wz(v:Val)(hs:v.s.length<=1073741824):Is mx 226 [.agg (A9 v)] (iI (Er v)):=by rw[<-Wy];exact kH v hs
theorem kI(v:Val)(hs:v.s.length<=1073741824):Is mx 172 [.agg (A9 v)] (.bool (decide (Er v=0))):=by
 refine MX dA ?_
 (repeat' first|simp(disch:=omega)only[go_sem,simprocAttr]|refine Sx.s ?_ ?_<;>try(intro h;have h':=h;try simp only[HB]at h';try rewrite [h];try simp only[h])|refine Ab (Wz _ hs) ?_|refine Sz.s ?_|fail)
theorem kJ(v:Val)(t:Typ)(hs:v.s.length<=1073741824):Is mx 124 [.agg (A9 v),.agg (AM t)] (.bool (OV v t)):=by
 refine MX da ?_
 (repeat' first|exact Al _|simp(disch:=omega)only[go_sem,simprocAttr]|refine' Ao (fun hq=>?_) (fun f=>?_)<;>try(have jc:=hq;try simp only[HB]at jc)|refine' Cf (fun hq=>?_) (fun f=>?_)<;>try(have jc:=hq;try simp only[HB]at jc)|refine Sx.s ?_ ?_<;>try(intro h;have h':=h;try simp only[HB]at h';try rewrite [h];try simp only[h])|refine Ab (kI _ hs) ?_|refine Sz.s ?_|fail)
 all_goals rfl
end
section
theorem MW(l:List Bs)(x:Bs)(hl:l.length<=1073741824):Is mx 321 [.str x,.sl (l.map fun s=>[.str s])] (.bool (BQ l x)):=by
 refine MX ft ?_
 (repeat' first|simp(disch:=omega)only[go_sem,simprocAttr]|fail)
 refine BP [0,1] (fun i=>[(5,.i (iI i))]) (fun _=>[]) (fun i=>(l.take i).all (fun y=>!decide (x=y))=true) l.length 0 (by omega) (by simp) ?_;intro i hi jb;by_cases ja:i<l.length
 ·(repeat' first|simp(disch:=omega)only[go_sem,simprocAttr,Ck ja]|refine Sx.s ?_ ?_<;>try(intro h;have h':=h;try simp only[HB]at h';try simp only[h])|refine Aa ?_|refine Sz.s ?_|(refine And.intro ?_ ?_;focus omega))
  ·have:BQ l x=true:=by grind[BQ]
   rw[this]
  ·exact BO (d:=default) jb ja (by simp only[decide_eq_false_iff_not]at h;simpa using fun e=>h e.symm)
 ·(repeat' first|simp(disch:=omega)only[go_sem,simprocAttr,Ie ja]|refine Aa ?_|refine Sz.s ?_|fail)
  have e:i=l.length:=by omega
  rw[e,List.take_length]at jb;have:BQ l x=false:=by grind[BQ]
  rw[this]
theorem kK:∀(m:Nat) (x:Xpr),BT x<=m->BT x<=1073741824->Is mx 266 [.agg (eE x)] (iI (BT x)):=by
 intro m
 induction m with
 |zero=>intro x h;have:=F5 x;omega
 |succ m ih=>
  intro x hm hb;have js:=F5 x;have je:=On x.args;refine MX eS ?_
  (repeat' first|simp(disch:=omega)only[go_sem,simprocAttr]|fail)
  refine CP [1] (by simp only[V0,G4,reduceIte,Nat.reduceEqDiff];rfl) (fun i=>[(4,.i (iI i)),(3,.i (iI ((sizeXs (x.args.take i)+1:Nat):Int)))]) (fun _=>[]) (fun _=>True) x.args.length 0 (by omega) trivial ?_ ?_
  ·simp[V0,Fz,GF,sizeXs]
  ·intro i hi _;have ji:=HH x.args (i+1);have hle0:=HH x.args i;by_cases ja:i<x.args.length
   ·have hsi:=J5 x.args i ja;have jl:=GJ x.args[i];rw[<-A7 ja]at hsi jl;have i1:=ih (x.args.getD i default) (by omega) (by omega)
    (repeat' first|simp(disch:=omega)only[go_sem,simprocAttr,Ck ja]|refine Sx.s ?_ ?_<;>try(intro h;have h':=h;try simp only[HB]at h';try simp only[h])|refine Ab (i1) ?_|refine Aa ?_|(refine And.intro ?_ ?_;focus omega))
    refine congrArg (fun n=>D.i (I.int .i64 n)) ?_;omega
   ·(repeat' first|simp(disch:=omega)only[go_sem,simprocAttr,Ie ja]|refine Aa ?_|refine Sz.s ?_|fail)
    refine congrArg (I.int .i64) ?_;have e:i=x.args.length:=by omega
    rw[e,List.take_length];omega
theorem kL:∀(m:Nat) (x:Xpr),BT x<=m->BT x<=1073741824->Is mx 267 [.agg (eE x)] (iI (J4 x)):=by
 intro m
 induction m with
 |zero=>intro x h;have:=F5 x;omega
 |succ m ih=>
  intro x hm hb;have js:=F5 x;have je:=On x.args;have zz:=depths_sizes x.args;have hda:=gi x;refine MX eT ?_
  (repeat' first|simp(disch:=omega)only[go_sem,simprocAttr]|fail)
  refine CP [1] (by simp only[V0,G4,reduceIte,Nat.reduceEqDiff];rfl) (fun i=>[(4,.i (iI i)),(3,.i (iI ((depthXs (x.args.take i):Nat):Int)))]) (fun _=>[]) (fun _=>True) x.args.length 0 (by omega) trivial ?_ ?_
  ·simp[V0,Fz,GF,depthXs]
  ·intro i hi _;have ji:=HH x.args (i+1);by_cases ja:i<x.args.length
   ·have hsi:=J5 x.args i ja;have hdi:=gh x.args i ja;have jl:=GJ x.args[i];rw[<-A7 ja]at hsi hdi jl;have i1:=ih (x.args.getD i default) (by omega) (by omega)
    (repeat' first|simp(disch:=omega)only[go_sem,simprocAttr,Ck ja]|refine Sx.s ?_ ?_<;>try(intro h;have h':=h;try simp only[HB]at h';try simp only[h])|refine Ab (i1) ?_|refine Aa ?_|(refine And.intro ?_ ?_;focus omega))
    refine congrArg (fun n=>D.i (I.int .i64 n)) ?_;split<;>omega
   ·(repeat' first|simp(disch:=omega)only[go_sem,simprocAttr,Ie ja]|refine Aa ?_|refine Sz.s ?_|fail)
    have e:i=x.args.length:=by omega
    subst e;rw[List.take_length];refine congrArg (I.int .i64) ?_;rw[CE (by omega) (by omega)];omega
def Ke(a b:Xpr):Bool:=decide (a.kind=b.kind)&&decide (a.op=b.op)&&decide (a.name=b.name)&&decide (a.table=b.table)&&DO a.val b.val&&decide (a.unit=b.unit)&&decide (a.param=b.param)&&(a.win.kind==b.win.kind&&a.win.size==b.win.size)
theorem MY(a b:Xpr)(ha:a.unit.length<=1073741824)(hb:b.unit.length<=1073741824):Is mx 318 [.agg (eE a),.agg (eE b)] (.bool (Ke a b)):=by
 refine MX fm ?_
 (repeat' first|exact Al _|simp only[go_sem,simprocAttr]|refine' Ao (fun hq=>?_) (fun f=>?_)<;>try(have jc:=hq;try simp only[HB]at jc)|refine Ab (OM _ _ ha hb) ?_|refine Sz.s ?_|fail)
 all_goals rfl
theorem kM:∀(m:Nat) (a b:Xpr),BT a<=m->bX a<=1073741824->bX b<=1073741824->Is mx 302 [.agg (eE a),.agg (eE b)] (.bool (YT a b)):=by
 intro m
 induction m with
 |zero=>intro a b h;have:=GJ a;omega
 |succ m ih=>
  intro a b hm hA hB;have hua:a.unit.length<=1073741824:=by grind[J6]
  have hub:b.unit.length<=1073741824:=by grind[J6]
  have hla:a.args.length<=1073741824:=by grind[Oq]
  have js:=F5 a;have hE:YT a b=(!(!Ke a b||decide ((a.args.length:Int)≠b.args.length))&&eqL YT a.args b.args):=by grind[OG,Ke,Wc,iH]
  refine MX fe ?_
  (repeat' first|exact Al _|simp(disch:=omega)only[go_sem,simprocAttr]|refine' Ao (fun hq=>?_) (fun f=>?_)<;>try(have jc:=hq;try simp only[HB]at jc)|refine Sx.s ?_ ?_<;>try(intro h;have h':=h;try simp only[HB]at h';try simp only[h])|refine Ab (MY _ _ hua hub) ?_|refine Aa ?_|refine Sz.s ?_|fail)
  ·exact congrArg I.bool (OE hE h)
  ·have je:a.args.length=b.args.length:=by omega
   rw[OF hE h];refine BP [2,3] (fun i=>[(5,.i (iI i))]) (fun _=>[]) (fun i=>eqL YT a.args b.args=eqL YT (a.args.drop i) (b.args.drop i)) a.args.length 0 (by omega) rfl ?_;intro i hi jb;by_cases ja:i<a.args.length
   ·have jz:i<b.args.length:=by omega
    have jk:=F9 jb ja jz;have h1:=ih (a.args.getD i default) (b.args.getD i default) (by have:=J5 a.args i ja;have:=HH a.args (i+1);rw[A7 ja];omega) (by have:=HJ (AE ja);omega) (by have:=HJ (AE jz);omega)
    (repeat' first|simp(disch:=omega)only[go_sem,simprocAttr,Ck ja,Ck jz]|refine Sx.s ?_ ?_<;>try(intro h;have h':=h;try simp only[HB]at h';try simp only[h])|refine Ab (h1) ?_|refine Aa ?_|refine Am ?_|refine Sz.s ?_|(refine And.intro ?_ ?_;focus omega))
    ·exact congrArg I.bool (HK jk h)
    ·exact GN jk h
   ·(repeat' first|simp(disch:=omega)only[go_sem,simprocAttr,Ie ja]|refine Aa ?_|refine Sz.s ?_|fail)
    exact congrArg I.bool (Ga jb (by omega) (by omega)).symm
theorem WA:Is mx 303 [] (.agg (eE Or)):=by
 refine MX ff ?_
 (repeat' first|simp only[go_sem,simprocAttr]|refine Sz.s ?_|fail)
 all_goals rfl
theorem kN:Is mx 331 [] (.sl (J1.map fun s=>[.str s])):=by
 refine MX fC ?_
 (repeat' first|simp only[go_sem]|refine Sz.s ?_|fail)
 all_goals rfl
theorem kO:Is mx 322 [] (.sl (J2.map fun s=>[.str s])):=by
 refine MX fu ?_
 (repeat' first|simp only[go_sem]|refine Sz.s ?_|fail)
 all_goals rfl
def OW(x:Xpr):Bool:=decide (Er x.val=0)&&!decide (x.val.n<0)&&decide (D6 ⟨x.val.kind,x.unit,x.name⟩=0)&&Ke x (.mk 1 [] x.name [] x.val x.unit 0 Et [])
theorem kP(x:Xpr)(hx:bX x<=1073741824):Is mx 319 [.agg (eE x)] (.bool (OW x)):=by
 have e1:=I2 x;have e2:=J6 x;have h1:=Wz (mx:=mx) x.val (by unfold Es at e1;omega);have h2:=OU (mx:=mx) ⟨x.val.kind,x.unit,x.name⟩ (by show x.unit.length<=_;omega) (fun y hy=>by have h1:=B0 (b:=AX) (l:=x.unit) hy;have h2:AX y=y.name.length+1:=rfl;omega);have h3:=MY (mx:=mx) x (.mk 1 [] x.name [] x.val x.unit 0 Et []) (by omega) (by show x.unit.length<=_;omega);refine MX fp ?_
 (repeat' first|exact Al _|simp only[go_sem,simprocAttr]|refine' Ao (fun hq=>?_) (fun f=>?_)<;>try(have jc:=hq;try simp only[HB]at jc)|refine Sx.s ?_ ?_<;>try(intro h;have h':=h;try simp only[HB]at h';try simp only[h])|refine Ab (h1) ?_|refine Ab (h2) ?_|refine Ab (h3) ?_|refine Aa ?_|refine Sz.s ?_|fail)
 ·refine congrArg I.bool ?_;simp only[OW];grind
 ·refine congrArg I.bool ?_;simp only[OW];grind
def Rl(w:Win):Bool:=if w.kind=1 then decide (w.size=0)else decide (1<w.kind)&&decide (w.kind<=4)&&decide (1<=w.size)&&decide (w.size<=1099511627776)
theorem kQ(w:Win):Is mx 332 [.agg (EK w)] (.bool (Rl w)):=by
 refine MX fD ?_
 (repeat' first|exact Al _|simp only[go_sem,simprocAttr]|refine' Ao (fun hq=>?_) (fun f=>?_)<;>try(have jc:=hq;try simp only[HB]at jc)|refine Sx.s ?_ ?_<;>try(intro h;have h':=h;try simp only[HB]at h';try simp only[h])|refine Aa ?_|refine Sz.s ?_|fail)
 all_goals(refine congrArg I.bool ?_;simp only[Rl];grind)
def OX(op:Bs):Int:=if op=I3 then 1073741824 else if op=MG then 1000 else 0
def Rm(x:Xpr):Bool:=BQ J1 x.op&&CH x.table&&Rl x.win&&!decide (OX x.op<x.param)&&!decide (x.param<(if OX x.op<=1 then OX x.op else 1))&&Ke x (.mk 5 x.op [] x.table EM [] x.param x.win [])
theorem kR(x:Xpr)(hx:bX x<=1073741824):Is mx 320 [.agg (eE x)] (.bool (Rm x)):=by
 have e2:=J6 x;have h1:=MW (mx:=mx) J1 x.op (by decide);have h2:=GP (mx:=mx) x.table;have h3:=MY (mx:=mx) x (.mk 5 x.op [] x.table EM [] x.param x.win []) (by omega) (by show 0<=_;omega);refine MX fq ?_
 (repeat' first|exact Al _|simp only[go_sem,simprocAttr]|refine' Cf (fun hq=>?_) (fun f=>?_)<;>try(have jc:=hq;try simp only[HB]at jc)|refine Sx.s ?_ ?_<;>try(intro h;have h':=h;try simp only[HB]at h';try simp only[h])|refine Ab (kN) ?_|refine Ab (h1) ?_|refine Ab (h2) ?_|refine Ab (kQ _) ?_|refine Ab (h3) ?_|refine Aa ?_|refine Am ?_|refine Sz.s ?_|fail)
 all_goals(refine congrArg I.bool ?_;simp only[Rm,OX,I3,MG];first|done|(grind(splits:=20)))
theorem kS{a c:Int}{b d:Bool}(h:a=c)(k:b=d):I.tup [iI a,.bool b]=I.tup [iI c,.bool d]:=by rw[h,k]
def HN(k:Int):Int:=if k=4\/k=6 then 1 else if k=5\/k=7\/k=9 then 2 else if k=8 then 3 else 0
def Rn(x:Xpr):Bool:=CH x.name&&Ke x (.mk x.kind [] x.name [] EM [] 0 Et [])
def OY(x:Xpr):Bool:=Ke x (.mk x.kind x.op [] [] EM [] 0 Et [])
def Lh(x:Xpr)(inside:Bool):Bool:=
 if x.kind=1 then OW x
 else if x.kind=2 then inside&&Rn x
 else if x.kind=3\/x.kind=4 then !inside&&Rn x
 else if x.kind=5 then !inside&&Rm x
 else if x.kind=6 then OY x&&BQ K4 x.op
 else if x.kind=7 then OY x&&BQ J2 x.op
 else if x.kind=8\/x.kind=9 then OY x&&decide (x.op=[])
 else false
theorem kT(x:Xpr)(inside:Bool)(hx:bX x<=1073741824):Is mx 301 [.agg (eE x),.bool inside] (.tup [iI (HN x.kind),.bool (Lh x inside)]):=by
 have e2:=J6 x;have h1:=MY (mx:=mx) x (.mk x.kind [] x.name [] EM [] 0 Et []) (by omega) (by show 0<=_;omega);have h2:=MY (mx:=mx) x (.mk x.kind x.op [] [] EM [] 0 Et []) (by omega) (by show 0<=_;omega);have h3:=MW (mx:=mx) K4 x.op (by decide);have h4:=MW (mx:=mx) J2 x.op (by decide);refine MX fd ?_
 (repeat' first|exact Al _|simp only[go_sem,simprocAttr]|refine' Ao (fun hq=>?_) (fun f=>?_)<;>try(have jc:=hq;try simp only[HB]at jc)|refine' Cf (fun hq=>?_) (fun f=>?_)<;>try(have jc:=hq;try simp only[HB]at jc)|refine Sx.s ?_ ?_<;>try(intro h;have h':=h;try simp only[HB]at h';try simp only[h])|refine Ab (GP _) ?_|refine Ab (h1) ?_|refine Ab (h2) ?_|refine Ab (h3) ?_|refine Ab (h4) ?_|refine Ab (kP x hx) ?_|refine Ab (kR x hx) ?_|refine Ab (kO) ?_|refine Aa ?_|refine Am ?_|refine Sz.s ?_|fail)
 all_goals(refine kS ?_ ?_<;>(simp only[HN,Lh,Rn,OY];first|done|(grind(splits:=20))))
def Kf(x:Xpr)(inside:Bool):Bool:=inside||decide (x.kind=5)
def MZ(x:Xpr):Bool:=decide (x.kind≠5)||decide (x.op≠MH)||YT (x.args.getD 0 default) Or
mutual
def HO:Xpr->Bool->Bool
 |.mk k o n t v u p w a,inside=>(Lh (.mk k o n t v u p w a) inside&&decide ((a.length:Int)=HN k))&&(formRs a (inside||decide (k=5))&&MZ (.mk k o n t v u p w a))
def formRs:List Xpr->Bool->Bool
 |[],_=>true
 |x::r,inside=>HO x inside&&formRs r inside
end
theorem WB(x:Xpr)(inside:Bool):HO x inside=((Lh x inside&&decide ((x.args.length:Int)=HN x.kind))&&(formRs x.args (Kf x inside)&&MZ x)):=by cases x;simp only[HO,Kf,Xpr.kind,Xpr.args];rfl
theorem kU:∀(m:Nat) (x:Xpr) (inside:Bool),BT x<=m->bX x<=1073741824->Is mx 268 [.agg (eE x),.bool inside] (.bool (HO x inside)):=by
 intro m
 induction m with
 |zero=>intro x _ h;have:=GJ x;omega
 |succ m ih=>
  intro x inside hm hx;have hla:x.args.length<=1073741824:=by grind[Oq]
  have js:=F5 x;have hF:=WB x inside;refine MX eU ?_
  (repeat' first|exact Al _|simp(disch:=omega)only[go_sem,simprocAttr]|refine' Ao (fun hq=>?_) (fun f=>?_)<;>try(have jc:=hq;try simp only[HB]at jc)|refine Sx.s ?_ ?_<;>try(intro h;have h':=h;try simp only[HB]at h';try simp only[h])|refine Ab (kT x inside hx) ?_|refine Aa ?_|refine Sz.s ?_|fail)
  ·refine congrArg I.bool ?_;rw[hF];rcases h' with e|e<;>simp[e]
  ·obtain⟨hn,hl⟩:=h';have hF2:HO x inside=(formRs x.args (Kf x inside)&&MZ x):=by grind
   have hi5:∀b:Bool,b=decide (x.kind=5)->(inside||b)=Kf x inside:=fun b e=>by rw[e];rfl
   refine BP [1,2,5] (fun i=>[(7,.i (iI i))]) (fun _=>[]) (fun i=>formRs x.args (Kf x inside)=formRs (x.args.drop i) (Kf x inside)) x.args.length 0 (by omega) rfl ?_;intro i hi jb;by_cases ja:i<x.args.length
   ·have hsi:=J5 x.args i ja;have vj:=HH x.args (i+1);have h1:=ih (x.args.getD i default) (Kf x inside) (by rw[A7 ja];omega) (by have:=HJ (AE ja);omega);have hiT:((i:Int)<HN x.kind)=True:=eq_true (by omega);rw[EP ja,formRs]at jb
    (repeat' first|exact Al _|simp(disch:=omega)only[go_sem,simprocAttr,Ck ja,hiT]|refine' Cf (fun hq=>?_) (fun f=>?_)<;>try(have jc:=hq;try simp only[HB]at jc)|refine Sx.s ?_ ?_<;>try(intro h;have h':=h;try simp only[HB]at h';try simp only[h])|refine Ab (h1) ?_|refine Aa ?_|refine Am ?_|refine Sz.s ?_|(refine And.intro ?_ ?_;focus omega))
    ·refine congrArg I.bool ?_;rw[hF2,jb];simp only[Bool.not_eq_true']at h;rw[h];rfl
    ·rw[jb];simp only[Bool.not_eq_false']at h;rw[h];rfl
   ·have hiF:((i:Int)<HN x.kind)=False:=eq_false (by omega);have e:i=x.args.length:=by omega
    rw[e,List.drop_length,formRs]at jb;rw[hF2,jb];by_cases hk:x.kind=5
    ·have h0:(0:Int)<(x.args.length:Int):=by rw[hl,hk];decide
     have h1:=kM (mx:=mx) _ (x.args.getD 0 default) Or (Nat.le_refl _) (by have:=HJ (AE (n:=0) (l:=x.args) (by omega));omega) (by decide);have hiF5:((i:Int)<HN 5)=False:=by grind
     (repeat' first|exact Al _|simp(disch:=omega)only[go_sem,simprocAttr,hiF5,eq_true h0,hk]|refine' Cf (fun hq=>?_) (fun f=>?_)<;>try(have jc:=hq;try simp only[HB]at jc)|refine Ab (WA) ?_|refine Ab (h1) ?_|refine Aa ?_|refine Am ?_|refine Sz.s ?_|fail)
     all_goals(refine congrArg I.bool ?_;simp[MZ,hk];try rfl)
    ·(repeat' first|exact Al _|simp(disch:=omega)only[go_sem,simprocAttr,hiF]|refine' Cf (fun hq=>?_) (fun f=>?_)<;>try(have jc:=hq;try simp only[HB]at jc)|refine Ab (WA) ?_|refine Aa ?_|refine Am ?_|refine Sz.s ?_|(refine And.intro ?_ ?_;focus omega))
     ·exact true
     ·exact absurd jc.1 hk
     all_goals(refine congrArg I.bool ?_;simp[MZ,hk])
def HP(x:Xpr):Int:=if 64<(BT x:Int)\/12<(J4 x:Int)then 2 else if HO x false=true then 0 else 3
theorem WC(x:Xpr)(hx:bX x<=1073741824):Is mx 236 [.agg (eE x)] (iI (HP x)):=by
 have hs:=MF x;refine MX eB ?_
 (repeat' first|exact Al _|simp only[go_sem,simprocAttr]|refine' Ao (fun hq=>?_) (fun f=>?_)<;>try(have jc:=hq;try simp only[HB]at jc)|refine Sx.s ?_ ?_<;>try(intro h;have h':=h;try simp only[HB]at h';try simp only[h])|refine Ab (kK _ x (Nat.le_refl _) (by omega)) ?_|refine Ab (kL _ x (Nat.le_refl _) (by omega)) ?_|refine Ab (kU _ x false (Nat.le_refl _) hx) ?_|refine Aa ?_|refine Sz.s ?_|fail)
 all_goals(refine congrArg (I.int .i64) ?_;simp only[HP];first|done|(grind(splits:=20)))
end
section
theorem Kg{α:Type}[Inhabited α]{p:α->Bool}{l:List α}{i:Nat}(h:(l.take i).all (fun x=>!p x)=true)(hi:i<l.length)(hp:p (l.getD i default)=true):l.find? p=some (l.getD i default):=by
 rw[List.find?_eq_some_iff_getElem];refine⟨hp,i,hi,(A7 hi).symm,fun j hj=>?_⟩;rw[List.all_eq_true]at h;have vw:j<l.length:=by omega
 have hm:l[j]∈l.take i:=List.mem_iff_getElem.2 ⟨j,by simp;omega,by simp⟩;grind
theorem Kh{α:Type}{p:α->Bool}{l:List α}{i:Nat}(h:(l.take i).all (fun x=>!p x)=true)(hi:¬i<l.length):l.find? p=none:=by rw[List.take_of_length_le (by omega),List.all_eq_true]at h;grind
abbrev Fm(c:Cat)(ent:Bs)(t:Tbl):List I:=[.sl (c.tables.map AP),.sl (c.features.map At),.sl (c.drafts.map At),.sl (c.past.map At),.str ent,.str t.name,.str t.entity,.sl (t.fields.map BN),.int .i64 t.keep]
attribute [go_sem] Fm
theorem WD(c:Cat)(e0:Bs)(t:Tbl)(name ent:Bs)(hc:c.features.length<=1073741824):Is mx 324 [.agg (Fm c e0 t),.str name,.str ent] (BU (Gb c.features name ent)):=by
 refine MX fx ?_
 (repeat' first|simp(disch:=omega)only[go_sem,simprocAttr]|fail)
 refine CP [1,2,3,6] (by simp only[V0,G4,reduceIte,Nat.reduceEqDiff];rfl) (fun i=>[(8,.i (iI i))]) (fun _=>[(6,.cells ((AM AO).map .i))]) (fun i=>(c.features.take i).all (fun f=>!decide (f.name=name))=true) c.features.length 0 (by omega) (by simp) (by simp[V0,Fz,Ref.nm,AM,D.nms,Pq]) ?_;intro i hi jb;by_cases ja:i<c.features.length
 ·by_cases hn:(c.features.getD i default).name=name
  ·have hf:=Kg (p:=fun f=>decide (f.name=name)) jb ja (by simpa using hn);have hR:Gb c.features name ent=if(c.features.getD i default).entity≠ent then(AO,5)else((c.features.getD i default).typ,0):=by grind[Gb]
   rw[hR];by_cases he:(c.features.getD i default).entity=ent
   ·(repeat' first|simp(disch:=omega)only[go_sem,simprocAttr,Ck ja,eq_true hn,eq_true he,List.map_cons,List.map_nil,ne_eq,not_true_eq_false]|refine Aa ?_|refine Sz.s ?_|fail)
    rfl
   ·(repeat' first|simp(disch:=omega)only[go_sem,simprocAttr,Ck ja,eq_true hn,eq_false he,AO,List.map_cons,List.map_nil,ne_eq,not_true_eq_false,not_false_eq_true]|refine Aa ?_|refine Sz.s ?_|fail)
    rfl
  ·(repeat' first|simp(disch:=omega)only[go_sem,simprocAttr,Ck ja,eq_false hn,List.map_cons,List.map_nil,ne_eq,not_false_eq_true]|refine Aa ?_|(refine And.intro ?_ ?_;focus omega))
   exact BO (d:=default) jb ja (by simpa using hn)
 ·have hR:Gb c.features name ent=(AO,4):=by unfold Gb;rw[Kh jb ja]
  rw[hR]
  (repeat' first|simp(disch:=omega)only[go_sem,simprocAttr,Ie ja,AO,List.map_cons,List.map_nil]|refine Aa ?_|refine Sz.s ?_|fail)
  rfl
theorem kV(c:Cat)(e0:Bs)(t:Tbl)(name:Bs)(hc:t.fields.length<=1073741824):Is mx 323 [.agg (Fm c e0 t),.str name] (BU (I6 t name)):=by
 refine MX fw ?_
 (repeat' first|simp(disch:=omega)only[go_sem,simprocAttr]|fail)
 refine CP [1,2,4] (by simp only[V0,G4,reduceIte,Nat.reduceEqDiff];rfl) (fun i=>[(6,.i (iI i))]) (fun _=>[(4,.cells ((AM AO).map .i))]) (fun i=>(t.fields.take i).all (fun f=>!decide (f.name=name))=true) t.fields.length 0 (by omega) (by simp) (by simp[V0,Fz,Ref.nm,AM,D.nms,Pq]) ?_;intro i hi jb;by_cases ja:i<t.fields.length
 ·by_cases hn:(t.fields.getD i default).name=name
  ·have hf:=Kg (p:=fun f=>decide (f.name=name)) jb ja (by simpa using hn);have hR:I6 t name=((t.fields.getD i default).typ,0):=by grind[I6]
   rw[hR]
   (repeat' first|simp(disch:=omega)only[go_sem,simprocAttr,Ck ja,eq_true hn,List.map_cons,List.map_nil]|refine Aa ?_|refine Sz.s ?_|fail)
   rfl
  ·(repeat' first|simp(disch:=omega)only[go_sem,simprocAttr,Ck ja,eq_false hn,List.map_cons,List.map_nil]|refine Aa ?_|(refine And.intro ?_ ?_;focus omega))
   exact BO (d:=default) jb ja (by simpa using hn)
 ·have hR:I6 t name=(AO,4):=by unfold I6;rw[Kh jb ja]
  rw[hR]
  (repeat' first|simp(disch:=omega)only[go_sem,simprocAttr,Ie ja,AO,List.map_cons,List.map_nil]|refine Aa ?_|refine Sz.s ?_|fail)
  rfl
abbrev Bh:Tbl:=⟨[],[],[],0⟩
abbrev Br:Cat:=⟨[],[],[],[]⟩
def Di(c:Cat)(ent:Bs)(name:Bs):(Cat×Tbl)×Int:=match c.tables.find? (fun t=>decide (t.name=name))with
 |none=>((Br,Bh),4)
 |some t=>if t.entity≠ent then((Br,Bh),5)else((c,t),0)
theorem kW(c:Cat)(e0:Bs)(t0:Tbl)(name:Bs)(hc:c.tables.length<=1073741824):Is mx 304 [.agg (Fm c e0 t0),.str name] (.tup [.agg (Fm (Di c e0 name).1.1 [] (Di c e0 name).1.2),iI (Di c e0 name).2]):=by
 refine MX fg ?_
 (repeat' first|simp(disch:=omega)only[go_sem,simprocAttr]|fail)
 refine CP [1,2,4] (by simp only[V0,G4,reduceIte,Nat.reduceEqDiff];rfl) (fun i=>[(6,.i (iI i))]) (fun _=>[(4,.cells ((Fm Br [] Bh).map .i))]) (fun i=>(c.tables.take i).all (fun f=>!decide (f.name=name))=true) c.tables.length 0 (by omega) (by simp) (by simp[V0,Fz,Ref.nm,Fm,D.nms,Pq]) ?_;intro i hi jb;by_cases ja:i<c.tables.length
 ·by_cases hn:(c.tables.getD i default).name=name
  ·have hf:=Kg (p:=fun f=>decide (f.name=name)) jb ja (by simpa using hn);have hR:Di c e0 name=if(c.tables.getD i default).entity≠e0 then((Br,Bh),5)else((c,c.tables.getD i default),0):=by grind[Di]
   rw[hR];by_cases he:(c.tables.getD i default).entity=e0
   ·(repeat' first|simp(disch:=omega)only[go_sem,simprocAttr,Ck ja,eq_true hn,eq_true he,List.map_cons,List.map_nil,ne_eq,not_true_eq_false]|refine Aa ?_|refine Sz.s ?_|fail)
    try rfl
   ·(repeat' first|simp(disch:=omega)only[go_sem,simprocAttr,Ck ja,eq_true hn,eq_false he,List.map_cons,List.map_nil,ne_eq,not_true_eq_false,not_false_eq_true]|refine Aa ?_|refine Sz.s ?_|fail)
    try rfl
  ·(repeat' first|simp(disch:=omega)only[go_sem,simprocAttr,Ck ja,eq_false hn,List.map_cons,List.map_nil,ne_eq,not_false_eq_true]|refine Aa ?_|(refine And.intro ?_ ?_;focus omega))
   exact BO (d:=default) jb ja (by simpa using hn)
 ·have hR:Di c e0 name=((Br,Bh),4):=by unfold Di;rw[Kh jb ja]
  rw[hR]
  (repeat' first|simp(disch:=omega)only[go_sem,simprocAttr,Ie ja,List.map_cons,List.map_nil]|refine Aa ?_|refine Sz.s ?_|fail)
  try rfl
def M0(a b:Typ):Int:=if a.kind≠b.kind\/a.of≠b.of then 5 else if a.unit=b.unit then 0 else 70
theorem Ro(a b:Typ)(ha:a.unit.length<=1073741824)(hb:b.unit.length<=1073741824):Is mx 238 [.agg (AM a),.agg (AM b)] (iI (M0 a b)):=by
 refine MX eD ?_
 (repeat' first|exact Al _|simp(disch:=omega)only[go_sem,simprocAttr]|refine' Ao (fun hq=>?_) (fun f=>?_)<;>try(have jc:=hq;try simp only[HB]at jc)|refine Sx.s ?_ ?_<;>try(intro h;have h':=h;try simp only[HB]at h';try rewrite [h];try simp only[h])|refine Ab (OM _ _ ha hb) ?_|refine Aa ?_|refine Sz.s ?_|fail)
 all_goals(refine congrArg (I.int .i64) ?_;simp only[M0];first|done|(grind(splits:=20)))
def Rp(a b:Typ):Bool:=decide (a.kind=b.kind)&&decide (a.unit=b.unit)&&decide (a.of=b.of)
theorem kX(a b:Typ)(ha:a.unit.length<=1073741824)(hb:b.unit.length<=1073741824):Is mx 333 [.agg (AM a),.agg (AM b)] (.bool (Rp a b)):=by
 refine MX fE ?_
 (repeat' first|exact Al _|simp(disch:=omega)only[go_sem,simprocAttr]|refine' Ao (fun hq=>?_) (fun f=>?_)<;>try(have jc:=hq;try simp only[HB]at jc)|refine Ab (OM _ _ ha hb) ?_|refine Sz.s ?_|fail)
 all_goals(refine congrArg I.bool ?_;simp only[Rp];first|done|(grind(splits:=20)))
def kY:Bs:=[115,117,109]
def WE:List Bs:=[kY,OK,MG,I3]
def WF:List Bs:=[Wh,Wi]
def OZ(op:Bs)(a b:Typ):Typ×Int:=
 if b.kind≠1 then(AO,5)else if(BQ WE op&&!C7 a||BQ WF op&&!C7 a&&decide (a.kind≠4))=true then(AO,5)
 else if op=MH\/op=Rc then(⟨2,[],[]⟩,0)else if op=OK\/op=I3 then(⟨3,a.unit,[]⟩,0)else(a,0)
theorem kZ(x:Xpr)(a b:Typ):Is mx 325 [.agg (eE x),.agg (AM a),.agg (AM b)] (BU (OZ x.op a b)):=by
 have h1:=MW (mx:=mx) WE x.op (by decide);have h2:=MW (mx:=mx) WF x.op (by decide);refine MX fy ?_
 (repeat' first|exact Al _|simp(disch:=omega)only[go_sem,simprocAttr]|refine' Ao (fun hq=>?_) (fun f=>?_)<;>try(have jc:=hq;try simp only[HB]at jc)|refine' Cf (fun hq=>?_) (fun f=>?_)<;>try(have jc:=hq;try simp only[HB]at jc)|refine Sx.s ?_ ?_<;>try(intro h;have h':=h;try simp only[HB]at h';try rewrite [h];try simp only[h])|refine Ab (h1) ?_|refine Ab (h2) ?_|refine Ab (OT _) ?_|refine Aa ?_|refine Sz.s ?_|fail)
 all_goals(simp only[OZ,MH,Rc,OK,I3];grind[BU,AM])
end
section
def WG:Bs:=[97,110,100]
def xw:Bs:=[111,114]
def O0(a b:Typ):Bool:=C7 a&&C7 b
def M5(op:Bs)(a b:Typ):List Fac×Int:=if op=[42]then Fi a.unit b.unit else if op=[47]then GQ a.unit b.unit else(a.unit,if a.unit=b.unit then 0 else 70)
def WH(op:Bs)(a b:Typ):Int:=if op=[47]then 3 else if a.kind=2/\b.kind=2 then 2 else 3
def WI(op:Bs)(a b:Typ):Bool:=if op=[60]\/op=[60,61]then decide (a.kind=4)&&decide (b.kind=4)else Rp a b
def O1(op:Bs)(a b:Typ):Typ×Int:=
 if op=WG\/op=xw then(if a.kind≠1\/b.kind≠1 then(AO,5)else(Ka,0))
 else if op=[61,61]\/op=[33,61]\/op=[60]\/op=[60,61]then
  (if(O0 a b&&!decide (a.unit=b.unit))=true then(AO,70)else if(!O0 a b&&!WI op a b)=true then(AO,5)else(Ka,0))
 else if O0 a b=false then(AO,5)else if(M5 op a b).2≠0 then(AO,70)else(⟨WH op a b,(M5 op a b).1,[]⟩,0)
theorem lg(op:Bs)(a b:Typ)(ha:Ag AX a.unit<=1073741824)(hb:Ag AX b.unit<=1073741824):Is mx 326 [.str op,.agg (AM a),.agg (AM b)] (BU (O1 op a b)):=by
 have la:=EL a.unit;have lb:=EL b.unit;have h1:=kX (mx:=mx) a b (by omega) (by omega);have h2:=Wq (mx:=mx) a.unit b.unit ha hb;have h3:=jL (mx:=mx) a.unit b.unit ha hb;have h4:=OM (mx:=mx) a.unit b.unit (by omega) (by omega);refine MX fA ?_
 (repeat' first|exact Al _|simp(disch:=omega)only[go_sem,simprocAttr,vV]|refine' Ao (fun hq=>?_) (fun f=>?_)<;>try(have jc:=hq;try simp only[HB]at jc)|refine Sx.s ?_ ?_<;>try(intro h;have h':=h;try simp only[HB]at h';try rewrite [h];try simp only[h])|refine Ab (h1) ?_|refine Ab (h2) ?_|refine Ab (h3) ?_|refine Ab (h4) ?_|refine Ab (OT _) ?_|refine Aa ?_|refine Sz.s ?_|fail)
 all_goals(simp only[O1,WG,xw,M5,WH,WI,O0];grind[BU,AM])
end
section
def xm(op:Bs)(a:Typ):Typ×Int:=
 if(decide (op=OL)&&!C7 a||decide (op=Re)&&decide (a.kind≠1))=true then(AO,5)else if op=OL then(a,0)else(Ka,0)
def Li(a b:Typ):Typ×Int:=if M0 a b≠0 then(AO,M0 a b)else(b,0)
def vX(c:Cat)(ent:Bs)(t:Tbl)(x:Xpr)(l:List Typ):Typ×Int:=
 if x.kind=1 then(⟨x.val.kind,x.unit,x.name⟩,0)
 else if x.kind=2 then I6 t x.name
 else if x.kind=3 then Gb c.features x.name ent
 else if x.kind=4 then(if(l.getD 0 default).kind≠5 then(AO,5)else Gb c.features x.name (l.getD 0 default).of)
 else if x.kind=5 then OZ x.op (l.getD 0 default) (l.getD 1 default)
 else if x.kind=6 then xm x.op (l.getD 0 default)
 else if x.kind=7 then O1 x.op (l.getD 0 default) (l.getD 1 default)
 else if x.kind=8 then(if(l.getD 0 default).kind≠1 then(AO,5)else Li (l.getD 1 default) (l.getD 2 default))
 else Li (l.getD 0 default) (l.getD 1 default)
def uT(t:Typ):Prop:=Ag AX t.unit<=1073741824
theorem lh(c:Cat)(ent:Bs)(t:Tbl)(x:Xpr)(l:List Typ)(hk:1<=x.kind/\x.kind<=9)(hl:(l.length:Int)=HN x.kind)(hc:c.features.length<=1073741824)(ht:t.fields.length<=1073741824)(hu:∀y∈l,uT y):
  Is mx 305 [.agg (Fm c ent t),.agg (eE x),.sl (l.map AM)] (BU (vX c ent t x l)):=by
 have hg:∀i,i<l.length->Ag AX (l.getD i default).unit<=1073741824:=fun i h=>hu _ (AE h)
 have hg2:∀i,i<l.length->(l.getD i default).unit.length<=1073741824:=fun i h=>by have:=hg i h;have:=EL (l.getD i default).unit;omega
 have jn:x.kind=1\/x.kind=2\/x.kind=3\/x.kind=4\/x.kind=5\/x.kind=6\/x.kind=7\/x.kind=8\/x.kind=9:=by omega
 refine MX fh ?_;rcases jn with h|h|h|h|h|h|h|h|h<;>simp[h,HN]at hl<;>simp only[vX,h,Int.reduceEq,if_true,if_false]
 ·(repeat' first|simp(disch:=omega)only[go_sem,simprocAttr,BU,h]|refine Aa ?_|refine Sz.s ?_|fail)
 ·(repeat' first|simp(disch:=omega)only[go_sem,simprocAttr,BU,h]|refine Sx.s ?_ ?_<;>try(intro h;have h':=h;try simp only[HB]at h';try rewrite [h];try simp only[h])|refine Ab (kV c ent t x.name ht) ?_|refine Aa ?_|refine Sz.s ?_|fail)
 ·(repeat' first|simp(disch:=omega)only[go_sem,simprocAttr,BU,h]|refine Sx.s ?_ ?_<;>try(intro h;have h':=h;try simp only[HB]at h';try rewrite [h];try simp only[h])|refine Ab (WD c ent t x.name ent hc) ?_|refine Aa ?_|refine Sz.s ?_|fail)
 ·have h0:((0:Int)<(l.length:Int))=True:=eq_true (by omega);have h0n:(0<l.length)=True:=eq_true (by omega)
  (repeat' first|simp(disch:=omega)only[go_sem,simprocAttr,BU,h,hl]|refine Sx.s ?_ ?_<;>try(intro h;have h':=h;try simp only[HB]at h';try rewrite [h];try simp only[h])|refine Ab (WD c ent t x.name _ hc) ?_|refine Aa ?_|refine Am ?_|refine Sz.s ?_|fail)
  all_goals grind[BU,AM]
 ·have h0n:(0<l.length)=True:=eq_true (by omega);have h1n:(1<l.length)=True:=eq_true (by omega)
  (repeat' first|simp(disch:=omega)only[go_sem,simprocAttr,BU,h,hl]|refine Ab (kZ x _ _) ?_|refine Aa ?_|refine Am ?_|refine Sz.s ?_|fail)
 ·have h0n:(0<l.length)=True:=eq_true (by omega)
  (repeat' first|exact Al _|simp(disch:=omega)only[go_sem,simprocAttr,BU,h,hl]|refine' Ao (fun hq=>?_) (fun f=>?_)<;>try(have jc:=hq;try simp only[HB]at jc)|refine' Cf (fun hq=>?_) (fun f=>?_)<;>try(have jc:=hq;try simp only[HB]at jc)|refine Sx.s ?_ ?_<;>try(intro h;have h':=h;try simp only[HB]at h';try rewrite [h];try simp only[h])|refine Ab (OT _) ?_|refine Aa ?_|refine Sz.s ?_|fail)
  all_goals(simp only[xm,OL,Re];grind[BU,AM])
 ·have h0n:(0<l.length)=True:=eq_true (by omega);have h1n:(1<l.length)=True:=eq_true (by omega)
  (repeat' first|simp(disch:=omega)only[go_sem,simprocAttr,BU,h,hl]|refine Ab (lg x.op (l.getD 0 default) (l.getD 1 default) (hg 0 (by omega)) (hg 1 (by omega))) ?_|refine Aa ?_|refine Am ?_|refine Sz.s ?_|fail)
 ·have h0n:(0<l.length)=True:=eq_true (by omega);have h1n:(1<l.length)=True:=eq_true (by omega);have h2n:(2<l.length)=True:=eq_true (by omega);have hb:=Ro (mx:=mx) (l.getD 1 default) (l.getD 2 default) (hg2 1 (by omega)) (hg2 2 (by omega))
  (repeat' first|simp(disch:=omega)only[go_sem,simprocAttr,BU,h,hl]|refine Sx.s ?_ ?_<;>try(intro h;have h':=h;try simp only[HB]at h';try rewrite [h];try simp only[h])|refine Ab (hb) ?_|refine Aa ?_|refine Am ?_|refine Sz.s ?_|fail)
  all_goals(simp only[Li];grind[BU,AM])
 ·have h0n:(0<l.length)=True:=eq_true (by omega);have h1n:(1<l.length)=True:=eq_true (by omega);have hb:=Ro (mx:=mx) (l.getD 0 default) (l.getD 1 default) (hg2 0 (by omega)) (hg2 1 (by omega))
  (repeat' first|simp(disch:=omega)only[go_sem,simprocAttr,BU,h,hl]|refine Sx.s ?_ ?_<;>try(intro h;have h':=h;try simp only[HB]at h';try rewrite [h];try simp only[h])|refine Ab (hb) ?_|refine Aa ?_|refine Am ?_|refine Sz.s ?_|fail)
  all_goals(simp only[Li];grind[BU,AM])
end
section
mutual
def Dy(c:Cat):Bs->Tbl->Xpr->Typ×Int
 |ent,t,.mk k o n tb v u p w a=>
  if k=5 then
   if(Di c ent tb).2≠0 then(AO,(Di c ent tb).2)
   else match inferRs c [] (Di c ent tb).1.2 a with
    |.error e=>(AO,e)
    |.ok l=>vX c ent t (.mk k o n tb v u p w a) l
  else match inferRs c ent t a with
    |.error e=>(AO,e)
    |.ok l=>vX c ent t (.mk k o n tb v u p w a) l
def inferRs(c:Cat):Bs->Tbl->List Xpr->Except Int (List Typ)
 |_,_,[]=>.ok []
 |ent,t,x::r=>if(Dy c ent t x).2≠0 then .error (Dy c ent t x).2 else match inferRs c ent t r with
   |.error e=>.error e
   |.ok l=>.ok ((Dy c ent t x).1::l)
end
def Lj(ent:Bs)(x:Xpr):Bs:=if x.kind=5 then[]else ent
def Jd(c:Cat)(ent:Bs)(t:Tbl)(x:Xpr):Tbl:=if x.kind=5 then(Di c ent x.table).1.2 else t
def Ki(c:Cat)(ent:Bs)(x:Xpr):Int:=if x.kind=5 then(Di c ent x.table).2 else 0
theorem WJ(c:Cat)(ent:Bs)(t:Tbl)(x:Xpr):Dy c ent t x=if Ki c ent x≠0 then(AO,Ki c ent x)else match inferRs c (Lj ent x) (Jd c ent t x) x.args with
  |.error e=>(AO,e)
  |.ok l=>vX c ent t x l:=by
 cases x with
 |mk k o n tb v u p w a=>
  simp only[Dy,Lj,Jd,Ki,Xpr.kind,Xpr.args,Xpr.table];by_cases h:k=5
  ·simp only[h,if_true]
  ·simp only[h,if_false,ne_eq,not_true_eq_false]
theorem WK(c:Cat)(ent:Bs)(t:Tbl):∀(a:List Xpr) (i:Nat) (l:List Typ) (h:i<a.length),inferRs c ent t (a.take i)=.ok l->inferRs c ent t (a.take (i+1))=if(Dy c ent t a[i]).2≠0 then .error (Dy c ent t a[i]).2 else .ok (l++[(Dy c ent t a[i]).1])
 |[],i,l,h,_=>by simp at h
 |x::r,0,l,h,hl=>by simp only[List.take_zero,inferRs]at hl;cases hl;simp only[Nat.zero_add,List.take_succ_cons,List.take_zero,inferRs,List.getElem_cons_zero,List.nil_append]
 |x::r,i+1,l,h,hl=>by
  simp only[List.take_succ_cons,inferRs,List.getElem_cons_succ]at hl⊢;by_cases he:(Dy c ent t x).2≠0
  ·rw[if_pos he]at hl;cases hl
  ·rw[if_neg he]at hl⊢;cases h2:inferRs c ent t (r.take i)with
   |error e=>rw[h2]at hl;cases hl
   |ok l'=>
    rw[h2]at hl;cases hl;rw[WK c ent t r i l' (by simpa using h) h2];have hir:i<r.length:=by simpa using h
    by_cases h3:(Dy c ent t r[i]).2≠0
    ·rw[if_pos h3,if_pos h3]
    ·rw[if_neg h3,if_neg h3];rfl
theorem WL(c:Cat)(ent:Bs)(t:Tbl):∀(a:List Xpr) (i:Nat) (e:Int),inferRs c ent t (a.take i)=.error e->inferRs c ent t a=.error e
 |[],i,e,h=>by rw[List.take_nil]at h;exact h
 |x::r,0,e,h=>by simp only[List.take_zero,inferRs]at h;cases h
 |x::r,i+1,e,h=>by
  simp only[List.take_succ_cons,inferRs]at h⊢;by_cases he:(Dy c ent t x).2≠0
  ·rw[if_pos he]at h⊢;exact h
  ·rw[if_neg he]at h⊢;cases h2:inferRs c ent t (r.take i)with
   |error e'=>rw[h2]at h;cases h;rw[WL c ent t r i _ h2]
   |ok l'=>rw[h2]at h;cases h
theorem Fo:uT AO:=by simp[uT,Ag]
theorem WM:uT Ka:=by simp[uT,Ag]
theorem li{c:Cat}(hc:AV c<=1073741824){f:Ftr}(h:f∈c.features):uT f.typ:=by grind[Ch,B0,Bc,Ja,DM,Ag,AX,uT]
def tT(t:Tbl):Prop:=CW t<=1073741824
theorem lj{t:Tbl}(ht:tT t){f:Fld}(h:f∈t.fields):uT f.typ:=by have h1:=GR t;have h2:=B0 (b:=EN) h;have h3:=MS f;grind[DM,Ag,AX,tT,uT]
theorem lk{t:Tbl}(ht:tT t):t.fields.length<=1073741824:=by grind[GR,OP,tT]
theorem Rq:tT Bh:=by simp[tT,GR,Ag]
theorem ll{c:Cat}(hc:AV c<=1073741824)(ent name:Bs):tT (Di c ent name).1.2:=by grind[Di,Rq,Ch,B0,CW,tT]
theorem lm{c:Cat}{ent name:Bs}(h:(Di c ent name).2=0):(Di c ent name).1.1=c:=by grind[Di]
theorem Rr(l:List Fac):∀(ns:List Bs) (acc:List Fac),(∀s∈ns,s.length<=24)->(∀f∈acc,f.name.length<=24)->Ag AX (Gc l ns acc).1<=100
 |[],acc,_,h=>by
  simp only[Gc];split
  ·simp[Ag]
  ·rename_i h4;have:∀(l:List Fac),(∀f∈l,f.name.length<=24)->Ag AX l<=25*l.length:=by
    intro l;induction l with
    |nil=>intro _;simp[Ag]
    |cons f r ih=>intro hh;have h1:=ih fun g hg=>hh g (List.mem_cons_of_mem _ hg);have h2:=hh f List.mem_cons_self;simp only[Ag,AX,List.length_cons];omega
   have:=this acc h;show Ag AX acc<=100;omega
 |s::r,acc,hs,h=>by
  have hr:∀s∈r,s.length<=24:=fun s wu=>hs s (List.mem_cons_of_mem _ wu)
  simp only[Gc];split
  ·simp[Ag]
  ·split
   ·exact Rr l r _ hr fun f hf=>by
     rcases List.mem_append.1 hf with h1|h1
     ·exact h f h1
     ·simp at h1;subst h1;exact hs s List.mem_cons_self
   ·exact Rr l r _ hr h
theorem lr{l:List Bs}{s x:Bs}(h:x∈Cr l s):x=s\/x∈l:=by grind[Cr]
theorem WN:∀(l:List Fac) (out:List Bs) {x:Bs},x∈EQ out l->x∈out\/∃f∈l,f.name=x
 |[],out,x,h=>.inl h
 |f::r,out,x,h=>by
  rcases WN r _ h with h|⟨g,h1,h2⟩
  all_goals grind[lr]
theorem lu{s:Bs}(h:BA s=true):s.length<=24:=by grind[BA]
theorem lv(l:List Fac):Ag AX (I9 l).1<=100:=by
 unfold I9;split
 ·rename_i hw;refine Rr l _ _ (fun s hs=>?_) (by simp);rcases WN l [] hs with h|⟨f,h1,rfl⟩
  all_goals grind[J8,lu]
 ·simp[Ag]
theorem WO(a b:List Fac):Ag AX (Fi a b).1<=100:=by
 unfold Fi;repeat' split
 ·simp[Ag]
 ·simp[Ag]
 ·exact lv _
theorem lw(a b:List Fac):Ag AX (GQ a b).1<=100:=by
 unfold GQ;repeat' split
 ·simp[Ag]
 ·simp[Ag]
 ·exact WO _ _
theorem lx{c:Cat}(hc:AV c<=1073741824){ent:Bs}{t:Tbl}(ht:tT t){x:Xpr}{l:List Typ}(hx:bX x<=1073741824)(hl:∀y∈l,uT y):uT (vX c ent t x l).1:=by
 have hn:∀n e,uT (Gb c.features n e).1:=fun n e=>by
  unfold Gb;split
  ·exact Fo
  ·rename_i f hf;split
   ·exact Fo
   ·exact li hc (List.mem_of_find?_eq_some hf)
 have hg:∀i,uT (l.getD i default):=fun i=>by
  by_cases h:i<l.length
  ·exact hl _ (AE h)
  ·have:l.getD i default=default:=by simp[List.getD,List.getElem?_eq_none (Nat.le_of_not_lt h)]
   rw[this];show Ag AX (default:Typ).unit<=_;decide
 have hs:∀a b,uT b->uT (Li a b).1:=fun a b h=>by
  unfold Li;split
  ·exact Fo
  ·exact h
 have hi:uT ⟨2,[],[]⟩:=by simp[uT,Ag]
 have hd:∀i,uT ⟨3,(l.getD i default).unit,[]⟩:=fun i=>hg i
 have hur:∀k o,uT ⟨k,(M5 o (l.getD 0 default) (l.getD 1 default)).1,[]⟩:=fun k o=>by
  unfold uT M5;simp only;split
  ·have:=WO (l.getD 0 default).unit (l.getD 1 default).unit;omega
  ·split
   ·have:=lw (l.getD 0 default).unit (l.getD 1 default).unit;omega
   ·exact hg 0
 unfold vX;split
 ·have h1:=I2 x;unfold uT;show Ag AX x.unit<=_;omega
 split
 ·unfold I6;split
  ·exact Fo
  ·rename_i f hf;exact lj ht (List.mem_of_find?_eq_some hf)
 split
 ·exact hn _ _
 split
 ·split
  ·exact Fo
  ·exact hn _ _
 split
 ·unfold OZ;repeat' split
  all_goals first|exact Fo|exact hg 0|exact hi|exact hd 0
 split
 ·unfold xm;repeat' split
  all_goals first|exact Fo|exact hg 0|exact WM
 split
 ·unfold O1;repeat' split
  all_goals first|exact Fo|exact WM|exact hur _ _
 split
 ·split
  ·exact Fo
  ·exact hs _ _ (hg 2)
 ·exact hs _ _ (hg 1)
theorem Rs{c:Cat}(n:Nat)(ih:∀(ent:Bs) (t:Tbl) (x:Xpr),tT t->bX x<=n->bX x<=1073741824->uT (Dy c ent t x).1):∀(ent:Bs) (t:Tbl) (a:List Xpr) (l:List Typ),tT t->(∀x∈a,bX x<=n/\bX x<=1073741824)->inferRs c ent t a=.ok l->∀y∈l,uT y
 |ent,t,[],l,ht,h,he,y,hy=>by simp only[inferRs]at he;cases he;simp at hy
 |ent,t,x::r,l,ht,h,he,y,hy=>by
  simp only[inferRs]at he;split at he
  ·cases he
  ·split at he
   ·cases he
   ·rename_i l' hl';cases he;rcases List.mem_cons.1 hy with e|e
    ·subst e;exact ih ent t x ht (h x (by simp)).1 (h x (by simp)).2
    ·exact Rs n ih ent t r l' ht (fun z hz=>h z (by simp[hz])) hl' y e
theorem WP{c:Cat}(hc:AV c<=1073741824){ent:Bs}{t:Tbl}(ht:tT t)(x:Xpr):tT (Jd c ent t x):=by grind[Jd,ll]
theorem WQ{c:Cat}(hc:AV c<=1073741824):∀(n:Nat) (ent:Bs) (t:Tbl) (x:Xpr),tT t->bX x<=n->bX x<=1073741824->uT (Dy c ent t x).1:=by
 intro n
 induction n with
 |zero=>intro ent t x _ h;have:=I2 x;omega
 |succ n ih=>
  intro ent t x ht hb hx;rw[WJ];split
  ·exact Fo
  ·split
   ·exact Fo
   ·rename_i l e2;exact lx hc ht hx (Rs n ih _ _ x.args l (WP hc ht x) (fun y hy=>by have:=HJ hy;omega) e2)
theorem ly{x:Xpr}{i:Bool}(h:Lh x i=true):1<=x.kind/\x.kind<=9:=by grind[Lh]
theorem lz{l:List Xpr}{i:Bool}(h:formRs l i=true):∀x∈l,HO x i=true:=by
 induction l with
 |nil=>intro x hx;simp at hx
 |cons a r ih=>grind[formRs]
theorem lA(c:Cat)(hc:AV c<=1073741824):∀(n:Nat) (ent:Bs) (t:Tbl) (x:Xpr) (i:Bool),tT t->bX x<=n->bX x<=1073741824->HO x i=true->
  Is mx 269 [.agg (Fm c ent t),.agg (eE x)] (BU (Dy c ent t x)):=by
 intro n
 induction n with
 |zero=>intro ent t x i _ h;have:=I2 x;omega
 |succ n ih=>
  intro ent t x i ht hb hx hf;rw[WB]at hf;simp only[Bool.and_eq_true,decide_eq_true_eq]at hf;obtain⟨⟨hnode,je⟩,ke,_⟩:=hf;have hk:=ly hnode;have vk:=Oq x;have hcf:c.features.length<=1073741824:=by grind[Ch,Fj]
  have hct:c.tables.length<=1073741824:=by grind[Ch,HM]
  have hR:=WJ c ent t x;have hwi:=kW (mx:=mx) c ent t x.table hct;refine MX eV ?_
  (repeat' first|simp(disch:=omega)only[go_sem,simprocAttr]|fail)
  by_cases he:Ki c ent x=0
  ·rw[if_neg (by omega)]at hR;refine Dl.cutS [2,3,4,6] (by simp only[V0,G4,reduceIte,Nat.reduceEqDiff];rfl) [] [(6,.cells ((Fm c (Lj ent x) (Jd c ent t x)).map .i)),(4,.cells ((AM AO).map .i))] True ?_ (fun _=>?_)
   ·by_cases h5:x.kind=5
    ·simp only[Ki,h5,if_true]at he;have hw1:=lm he;rw[hw1,he]at hwi
     (repeat' first|simp(disch:=omega)only[go_sem,simprocAttr,h5,List.map_cons,List.map_nil,Lj,Jd,ne_eq,not_true_eq_false]|refine Sx.s ?_ ?_<;>try(intro h;have h':=h;try simp only[HB]at h';try rewrite [h];try simp only[h])|refine Ab (hwi) ?_|refine Aa ?_|fail)
    ·(repeat' first|simp(disch:=omega)only[go_sem,simprocAttr,eq_false h5,List.map_cons,List.map_nil,Lj,Jd]|fail)
   ·have ht':=WP hc (ent:=ent) ht x;generalize hE:Lj ent x=ent' at hR;generalize hT:Jd c ent t x=t' at hR ht'
    (repeat' first|simp(disch:=omega)only[go_sem,simprocAttr,List.map_cons,List.map_nil]|fail)
    refine AA [2,3,4,6] (by simp only[V0,G4,reduceIte,Nat.reduceEqDiff];rfl) (fun g:Nat×List Typ=>[(9,.ref (.sl 9 3 0 g.2.length)),(10,.i (iI g.1))]) (fun g=>[(9,.rows 41 3 (g.2.map AM)),(6,.cells ((Fm c ent' t').map .i)),(4,.cells ((AM AO).map .i))])
     (fun g=>g.1<=x.args.length/\inferRs c ent' t' (x.args.take g.1)=.ok g.2/\g.2.length=g.1) (fun g=>x.args.length-g.1) (0,[]) (by simp[inferRs]) (by simp[V0,Fz,Ref.nm,AM,Fm,D.nms,Pq]) ?_
    rintro⟨k,l⟩ ⟨hi,hl,vt⟩;simp only at hi hl vt;by_cases ja:k<x.args.length
    ·have kh:=AE ja;have hba:=HJ kh;have i1:=ih ent' t' (x.args.getD k default) _ ht' (by omega) (by omega) (lz ke _ kh);have kj:=WK c ent' t' x.args k l ja hl;rw[<-A7 ja]at kj;generalize hy:Dy c ent' t' (x.args.getD k default)=y at i1 kj
     (repeat' first|simp(disch:=omega)only[go_sem,simprocAttr,Ck ja,List.map_cons,List.map_nil,BU]|refine Sx.s ?_ ?_<;>try(intro h;have h':=h;try simp only[HB]at h';try rewrite [h];try simp only[h])|refine Ab (i1) ?_|refine Aa ?_|refine Am ?_|refine Sz.s ?_|fail)
     ·rw[if_pos h']at kj;have:=WL c ent' t' x.args (k+1) _ kj;rw[this]at hR;rw[hR];rfl
     ·rw[if_neg (by omega)]at kj;refine⟨by simp[],by simp[I.one],by omega,by omega,⟨k+1,l++[y.1]⟩,⟨by omega,kj,by simp[vt]⟩,by show x.args.length-(k+1)<_;omega,⟨by simp,rfl⟩,?_⟩;simp[AM]
    ·have e:k=x.args.length:=by omega
     subst e;rw[List.take_length]at hl;have qo:=Rs n (fun ent t x h1 h2 h3=>WQ hc n ent t x h1 h2 h3) ent' t' x.args l ht' (fun z hz=>by have:=HJ hz;omega) hl;have hrc:=lh (mx:=mx) c ent t x l hk (by rw[vt];exact je) hcf (lk ht) qo;rw[hl]at hR;simp only at hR
     (repeat' first|simp(disch:=omega)only[go_sem,simprocAttr,Ie ja,List.map_cons,List.map_nil,BU]|refine Sx.s ?_ ?_<;>try(intro h;have h':=h;try simp only[HB]at h';try rewrite [h];try simp only[h])|refine Ab (hrc) ?_|refine Aa ?_|refine Sz.s ?_|fail)
     rw[hR]
  ·rw[if_pos he]at hR;have h5:x.kind=5:=by grind[Ki]
   simp only[Ki,h5,if_true]at he hR;rw[hR];refine Aa ?_;generalize hq:Di c ent x.table=q at he hwi
   (repeat' first|simp(disch:=omega)only[go_sem,simprocAttr,h5,List.map_cons,List.map_nil,BU,he,ne_eq,not_false_eq_true,decide_true]|refine Sx.s ?_ ?_<;>try(intro h;have h':=h;try simp only[HB]at h';try rewrite [h];try simp only[h])|refine Ab (hwi) ?_|refine Aa ?_|refine Sz.s ?_|fail)
def EU(c:Cat)(ent:Bs)(x:Xpr):Typ×Int:=if HP x≠0 then(AO,HP x)else Dy c ent Bh x
theorem lB{x:Xpr}(h:HP x=0):HO x false=true:=by grind[HP]
end
section
theorem lC(c:Cat)(ent:Bs)(x:Xpr)(hc:AV c<=1073741824)(hx:bX x<=1073741824):Is mx 237 [.agg (Aw c),.str ent,.agg (eE x)] (BU (EU c ent x)):=by
 have h1:=WC (mx:=mx) x hx;refine MX eC ?_;by_cases h0:HP x=0
 ·have h2:=lA (mx:=mx) c hc _ ent Bh x _ Rq (Nat.le_refl _) hx (lB h0);have hT:EU c ent x=Dy c ent Bh x:=by grind[EU]
  rw[hT]
  (repeat' first|simp(disch:=omega)only[go_sem,simprocAttr,h0,BU,ne_eq,not_true_eq_false,decide_false]|refine Sx.s ?_ ?_<;>try(intro h;have h':=h;try simp only[HB]at h';try rewrite [h];try simp only[h])|refine Ab (h1) ?_|refine Ab (h2) ?_|refine Aa ?_|refine Sz.s ?_|fail)
 ·have hT:EU c ent x=(AO,HP x):=by unfold EU;rw[if_pos h0]
  rw[hT]
  (repeat' first|simp(disch:=omega)only[go_sem,simprocAttr,h0,BU,ne_eq,not_false_eq_true,decide_true]|refine Sx.s ?_ ?_<;>try(intro h;have h':=h;try simp only[HB]at h';try rewrite [h];try simp only[h])|refine Ab (h1) ?_|refine Aa ?_|refine Sz.s ?_|fail)
  try rfl
def GT(c:Cat)(f:Ftr):Int:=
 if(!CH f.name||!CH f.entity||decide (f.version<0))=true then 3 else if D6 f.typ≠0 then D6 f.typ
 else if(EU c f.entity f.body).2≠0 then(EU c f.entity f.body).2 else M0 (EU c f.entity f.body).1 f.typ
theorem lD{c:Cat}(hc:AV c<=1073741824){ent:Bs}{x:Xpr}(hx:bX x<=1073741824):uT (EU c ent x).1:=by
 unfold EU;split
 ·exact Fo
 ·exact WQ hc _ ent Bh x Rq (Nat.le_refl _) hx
theorem WR(c:Cat)(f:Ftr)(hc:AV c<=1073741824)(hf:Bc f<=1073741824):Is mx 184 [.agg (Aw c),.agg (At f)] (iI (GT c f)):=by
 have h0:=Ja f;have h4:DM f.typ=Ag AX f.typ.unit+f.typ.of.length+1:=rfl;have hl:=EL f.typ.unit;have h1:=lC (mx:=mx) c f.entity f.body hc (by omega);have h2:=OU (mx:=mx) f.typ (by omega) (fun y hy=>by have h1:=B0 (b:=AX) (l:=f.typ.unit) hy;have h2:AX y=y.name.length+1:=rfl;omega);have hu:=lD hc (ent:=f.entity) (x:=f.body) (by omega);have qo:=EL (EU c f.entity f.body).1.unit;unfold uT at hu;have h3:=Ro (mx:=mx) (EU c f.entity f.body).1 f.typ (by omega) (by omega);have hR:=GT.eq_1 c f;generalize EU c f.entity f.body=q at h1 h3 hR;refine MX dO ?_
 (repeat' first|exact Al _|simp(disch:=omega)only[go_sem,simprocAttr,BU]|refine' Ao (fun hq=>?_) (fun f=>?_)<;>try(have jc:=hq;try simp only[HB]at jc)|refine Sx.s ?_ ?_<;>try(intro h;have h':=h;try simp only[HB]at h';try rewrite [h];try simp only[h])|refine Ab (GP _) ?_|refine Ab (h1) ?_|refine Ab (h2) ?_|refine Ab (h3) ?_|refine Aa ?_|refine Sz.s ?_|fail)
 all_goals(refine congrArg (I.int .i64) ?_;rw[hR];first|done|(grind(splits:=20)))
abbrev ru:Xpr:=.mk 0 [] [] [] EM [] 0 Et []
abbrev CI:Ftr:=⟨[],[],AO,ru,0⟩
def A5(l:List Tbl)(name:Bs):Option Tbl:=l.find? fun t=>decide (t.name=name)
def Dz(l:List Ftr)(name:Bs):Option Ftr:=l.find? fun f=>decide (f.name=name)
def GU(o:Option Tbl):I:=.tup [.agg (AP (o.getD Bh)),.bool o.isSome]
def Lk(o:Option Ftr):I:=.tup [.agg (At (o.getD CI)),.bool o.isSome]
abbrev WS:List D:=[.i (.str []),.i (.str []),.i (.sl []),.i (iI 0)]
abbrev lE:List D:=[.i (.str []),.i (.str []),.i (iI 0),.i (.sl []),.i (.str []),.i (iI 0),.i (.str []),.i (.str []),.i (.str []),.i (iI 0),.i (iI 0),.i (.str []),.i (.sl []),.i (iI 0),.i (iI 0),.i (iI 0),.i (.sl []),.i (iI 0)]
theorem Rt(c:Cat)(name:Bs)(hc:c.tables.length<=1073741824):Is mx 97 [.agg (Aw c),.str name] (GU (A5 c.tables name)):=by
 refine MX zk ?_
 (repeat' first|simp(disch:=omega)only[go_sem,simprocAttr]|fail)
 refine CP [1,2,4] (by simp only[V0,G4,reduceIte,Nat.reduceEqDiff];rfl) (fun i=>[(6,.i (iI i))]) (fun _=>[(4,.cells WS)]) (fun i=>(c.tables.take i).all (fun f=>!decide (f.name=name))=true) c.tables.length 0 (by omega) (by simp) (by simp[V0,Fz,Ref.nm,D.nms,Pq]) ?_;intro i hi jb;by_cases ja:i<c.tables.length
 ·by_cases hn:(c.tables.getD i default).name=name
  ·have hf:=Kg (p:=fun f=>decide (f.name=name)) jb ja (by simpa using hn);rw[A5,hf]
   (repeat' first|simp(disch:=omega)only[go_sem,simprocAttr,Ck ja,eq_true hn]|refine Aa ?_|refine Sz.s ?_|fail)
   try rfl
  ·(repeat' first|simp(disch:=omega)only[go_sem,simprocAttr,Ck ja,eq_false hn]|refine Aa ?_|(refine And.intro ?_ ?_;focus omega))
   exact BO (d:=default) jb ja (by simpa using hn)
 ·rw[A5,Kh jb ja]
  (repeat' first|simp(disch:=omega)only[go_sem,simprocAttr,Ie ja]|refine Aa ?_|refine Sz.s ?_|fail)
  try rfl
theorem lF(l:List Ftr)(name:Bs)(hc:l.length<=1073741824):Is mx 327 [.sl (l.map At),.str name] (Lk (Dz l name)):=by
 refine MX fB ?_
 (repeat' first|simp(disch:=omega)only[go_sem,simprocAttr]|fail)
 refine CP [0,1,4] (by simp only[V0,G4,reduceIte,Nat.reduceEqDiff];rfl) (fun i=>[(6,.i (iI i))]) (fun _=>[(4,.cells lE)]) (fun i=>(l.take i).all (fun f=>!decide (f.name=name))=true) l.length 0 (by omega) (by simp) (by simp[V0,Fz,Ref.nm,D.nms,Pq]) ?_;intro i hi jb;by_cases ja:i<l.length
 ·by_cases hn:(l.getD i default).name=name
  ·have hf:=Kg (p:=fun f=>decide (f.name=name)) jb ja (by simpa using hn);rw[Dz,hf]
   (repeat' first|simp(disch:=omega)only[go_sem,simprocAttr,Ck ja,eq_true hn]|refine Aa ?_|refine Sz.s ?_|fail)
   try rfl
  ·(repeat' first|simp(disch:=omega)only[go_sem,simprocAttr,Ck ja,eq_false hn]|refine Aa ?_|(refine And.intro ?_ ?_;focus omega))
   exact BO (d:=default) jb ja (by simpa using hn)
 ·rw[Dz,Kh jb ja]
  (repeat' first|simp(disch:=omega)only[go_sem,simprocAttr,Ie ja]|refine Aa ?_|refine Sz.s ?_|fail)
  try rfl
theorem WT(c:Cat)(name:Bs)(hc:c.features.length<=1073741824):Is mx 307 [.agg (Aw c),.str name] (Lk (Dz c.features name)):=by
 have h1:=lF (mx:=mx) c.features name hc;refine MX fj ?_
 (repeat' first|simp(disch:=omega)only[go_sem,simprocAttr,Lk]|refine Sx.s ?_ ?_<;>try(intro h;have h':=h;try simp only[HB]at h';try rewrite [h];try simp only[h])|refine Ab (h1) ?_|refine Sz.s ?_|fail)
theorem lG(l:List Bs)(s:Bs)(hl:l.length<=1073741824):Is mx 273 [.sl (l.map Bn),.str s] (.bool (BQ l s)):=by
 refine MX eZ ?_
 (repeat' first|simp(disch:=omega)only[go_sem,simprocAttr]|fail)
 refine BP [0,1] (fun i=>[(5,.i (iI i))]) (fun _=>[]) (fun i=>(l.take i).all (fun y=>!decide (s=y))=true) l.length 0 (by omega) (by simp) ?_;intro i hi jb;by_cases ja:i<l.length
 ·by_cases hn:l.getD i default=s
  ·have:BQ l s=true:=by grind[BQ]
   rw[this]
   (repeat' first|simp(disch:=omega)only[go_sem,simprocAttr,Ck ja,eq_true hn]|refine Aa ?_|refine Sz.s ?_|fail)
  ·(repeat' first|simp(disch:=omega)only[go_sem,simprocAttr,Ck ja,eq_false hn]|refine Aa ?_|(refine And.intro ?_ ?_;focus omega))
   exact BO (d:=default) jb ja (by simpa using fun e=>hn e.symm)
 ·have:BQ l s=false:=by grind[BQ]
  rw[this]
  (repeat' first|simp(disch:=omega)only[go_sem,simprocAttr,Ie ja]|refine Aa ?_|refine Sz.s ?_|fail)
end
end Go.Proofs.YtojgbkiejjingaaGreatDoor
