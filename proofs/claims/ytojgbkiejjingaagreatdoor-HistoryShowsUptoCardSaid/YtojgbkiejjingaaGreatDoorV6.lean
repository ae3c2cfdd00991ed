/-Lemmas.-/
import Derived.Test.YtojgbkiejjingaaGreatDoorV5
set_option linter.all false
namespace Go.Dl
open Go Go.RowKit
variable{st:St}{ins:Ins}{x:Option I}
section
variable {P:Program}{GL:List (Nat×List I)}{sn:List Nat}
def Eg(GL:List (Nat×List I))(ins:Ins)(x:Option I)(st:St):Option (Nat×D):=
 match ins with
 |.call d _ _=>match d,x with
  |some s,some y=>some (s,.i y)
  |_,_=>none
 |.callv d _ _=>match d,x with
  |some s,some y=>some (s,.i y)
  |_,_=>none
 |.alloc d _=>some (d,.ref (.loc d 0))
 |.store _ _ _=>none
 |.mupd _ _ _ _=>none
 |ins=>match BH ins with
  |some d=>some (d,(pv (AZ GL st) (Aa st.sto) ins).1)
  |none=>none
def wrI(GL:List (Nat×List I))(ins:Ins)(st:St):Option (Nat×Blk):=
 match ins with
 |.alloc d zs=>some (d,.cells (zs.map .i))
 |.store ox ov _=>match AZ GL st ox with
  |.ref (.loc nm off)=>match Aa st.sto nm with
   |some (.cells cs)=>some (nm,.cells (setL cs off (A9 (AZ GL st ov))))
   |_=>none
  |_=>none
 |.mupd ox oq ov ls=>match AZ GL st ox,AZ GL st oq,AZ GL st ov with
  |.ref (.mp nm),.i q,.i u=>match Aa st.sto nm with
   |some (.map _ es)=>some (nm,.map ls (DV es q u))
   |_=>none
  |_,_,_=>none
 |_=>none
def Cx(GL:List (Nat×List I))(g:X)(st:St):Option (Nat×D):=match Bp g.1.gd st with
 |some true=>Eg GL g.1.ins g.2 st
 |_=>match g.1.ins.dst with|some d=>some (d,.i .undef)|none=>none
def fh(GL:List (Nat×List I))(g:X)(st:St):Option (Nat×Blk):=match Bp g.1.gd st with
 |some true=>wrI GL g.1.ins st
 |_=>none
def B1(p:Option (Nat×D))(e:Nat->D)(i:Nat):D:=match p with|some (d,v)=>if d=i then v else e i|none=>e i
def Dt(p:Option (Nat×Blk))(e:Nat->Option Blk)(m:Nat):Option Blk:=match p with|some (d,v)=>if d=m then some v else e m|none=>e m
theorem iP(hp:BP P GL sn ins x st):
  (∀i,Aj (Ef GL ins x st).env i=B1 (Eg GL ins x st) (Aj st.env) i)/\∀m,Aa (Ef GL ins x st).sto m=Dt (wrI GL ins st) (Aa st.sto) m:=by
 cases ins
 case call d f args=>simp only[Ef,Eg,wrI,B1,Dt];split<;>simp[St.put,Aj]
 case callv d f args=>simp only[Ef,Eg,wrI,B1,Dt];split<;>simp[St.put,Aj]
 case alloc d zs=>exact⟨fun i=>rfl,fun m=>rfl⟩
 case mupd ox oq ov ls=>
  simp only[BP]at hp;split at hp
  ·rename_i nm q u e1 e2 e3;obtain⟨_,hp⟩:=hp;split at hp
   ·rename_i ls' es hg;simp only[Ef,Eg,wrI,e1,e2,e3,hg,B1,Dt];refine⟨fun i=>rfl,fun m=>?_⟩;simp only[St.setB,CO,hg,Zhn];by_cases h:m=nm
    ·simp[h]
    ·simp[h,Ne.symm h]
   ·exact hp.elim
  ·exact hp.elim
 case store ox ov k=>
  simp only[BP]at hp;split at hp
  ·rename_i nm off e;obtain⟨_,hp⟩:=hp;split at hp
   ·rename_i cs hg;simp only[Ef,Eg,wrI,e,hg,B1,Dt];refine⟨fun i=>rfl,fun m=>?_⟩;simp only[St.setB,CO,hg,Zhn];by_cases h:m=nm
    ·simp[h]
    ·simp[h,Ne.symm h]
   ·exact hp.elim
  ·exact hp.elim
 all_goals
  simp only[Ef,Eg,wrI,BH,B1,Dt];exact⟨fun i=>by first|rfl|trivial,fun m=>by first|rfl|trivial⟩
theorem F1{g:X}(hp:Ca P GL sn g st):(∀i,Aj (Bq GL g st).env i=B1 (Cx GL g st) (Aj st.env) i)/\∀m,Aa (Bq GL g st).sto m=Dt (fh GL g st) (Aa st.sto) m:=by
 unfold Ca at hp;unfold Bq Cx fh;split at hp
 ·exact hp.elim
 ·rename_i h;simp only[h];exact iP hp
 ·rename_i h;simp only[h];unfold Bv;cases g.1.ins.dst<;>exact⟨fun i=>rfl,fun m=>rfl⟩
theorem iQ(hp:BP P GL sn ins x st){d:Nat}{v:D}(h:Eg GL ins x st=some (d,v)):ins.dst=some d:=by
 cases ins<;>simp only[Eg,BH,reduceCtorEq]at h<;>first
  |(cases h;rfl)
  |(split at h<;>cases h;rfl)
  |skip
theorem Kc{g:X}(hp:Ca P GL sn g st){d:Nat}{v:D}(h:Cx GL g st=some (d,v)):g.1.ins.dst=some d:=by grind[Cx,Ca,iQ]
theorem WX{s t:St}{l:List Nat}(h:∀i∈l,Aj s.env i=Aj t.env i){o:O}(ho:∀i∈F0 o,i∈l):AZ GL s o=AZ GL t o:=by cases o<;>simp only[AZ];grind[F0]
theorem iR(hl:looks ins=false)(hm:Hr ins=false)(ρ:O->D)(σ σ':Nat->Option Blk):pv ρ σ ins=pv ρ σ' ins:=by cases ins<;>simp only[pv]<;>first|(simp[looks]at hl;done)|(simp[Hr]at hm;done)
def Hs:Ins->List O
 |.store ox _ _=>[ox]
 |.mupd ox _ _ _=>[ox]
 |ins=>BB ins
theorem S6{o:O}(h:o∈Hs ins):o∈BB ins:=by cases ins<;>first|exact h|(simp only[Hs,Zfq]at h;subst h;simp[BB])
theorem iS(h:(BH ins).isSome):Hs ins=BB ins:=by cases ins<;>first|rfl|simp[BH]at h
theorem iT{s t:St}(ho:∀o∈BB ins,AZ GL s o=AZ GL t o)(hs:∀o∈Hs ins,∀nm∈(AZ GL s o).nms,looks ins=true\/Hr ins=true\/H8 ins=true\/GN ins=true->Aa s.sto nm=Aa t.sto nm)
  (ha:∀d zs,ins=.alloc d zs->Aa s.sto d=none->Aa t.sto d=none)(hp:BP P GL sn ins x s):BP P GL sn ins x t/\Eg GL ins x t=Eg GL ins x s/\wrI GL ins t=wrI GL ins s:=by
 have hpv:(BH ins).isSome->pv (AZ GL s) (Aa s.sto) ins=pv (AZ GL t) (Aa t.sto) ins:=fun hd=>by
  have hk:=iS hd;rw[hk]at hs;by_cases hl:looks ins=true
  ·exact S4 ho (fun o xk nm hn=>hs o xk nm hn (.inl hl))
  ·by_cases hm:Hr ins=true
   ·exact S4 ho (fun o xk nm hn=>hs o xk nm hn (.inr (.inl hm)))
   ·rw[iR (by simpa using hl) (by simpa using hm) _ _ (Aa t.sto)];exact S4 ho (fun _ _ _ _=>rfl)
 cases ins
 case call d f args=>
  obtain⟨h1,y,h2,h3⟩:=hp;simp only[BB]at ho;have e1:args.map (AZ GL s)=args.map (AZ GL t):=Ze0 (fun o h=>ho o h);have e2:(args.all fun o=>JH (AZ GL s o))=(args.all fun o=>JH (AZ GL t o)):=by rw[Zb2,Zcu,Zcu];exact⟨fun hh p hp=>by rw[<-ho p hp];exact hh p hp,fun hh p hp=>by rw[ho p hp];exact hh p hp⟩
  exact⟨⟨by rw[<-e2];exact h1,y,h2,by rw[<-e1];exact h3⟩,rfl,rfl⟩
 case callv d f args=>
  obtain⟨h0,h1,p,y,h2,h3,h4⟩:=hp;simp only[BB]at ho;have e1:args.map (AZ GL s)=args.map (AZ GL t):=Ze0 (fun o h=>ho o (by simp[h]));have e0:=ho f (by simp);have e2:(args.all fun o=>JH (AZ GL s o))=(args.all fun o=>JH (AZ GL t o)):=by rw[Zb2,Zcu,Zcu];exact⟨fun hh p hp=>by rw[<-ho p (by simp[hp])];exact hh p hp,fun hh p hp=>by rw[ho p (by simp[hp])];exact hh p hp⟩
  exact⟨⟨by rw[<-e0];exact h0,by rw[<-e2];exact h1,p,y,by rw[<-e0,<-e1];exact h2,h3,h4⟩,rfl,rfl⟩
 case mupd ox oq ov ls=>
  have e1:=ho ox (by simp[BB]);have e2:=ho oq (by simp[BB]);have e4:=ho ov (by simp[BB]);simp only[BP,Eg,wrI]at hp⊢;rw[<-e1,<-e2,<-e4];split at hp
  ·rename_i nm q u e _ _;have e3:=hs ox (by simp[Hs]) nm (by rw[e];simp[D.nms,Ref.nm]) (.inr (.inr (.inr rfl)));refine⟨by rw[<-e3];exact hp,trivial,by rw[e,‹AZ GL s oq=_›,‹AZ GL s ov=_›];simp only[e3]⟩
  ·exact hp.elim
 case alloc d zs=>exact⟨⟨ha d zs rfl hp.1,hp.2⟩,rfl,rfl⟩
 case store ox ov k=>
  have e1:=ho ox (by simp[BB]);have e2:=ho ov (by simp[BB]);simp only[BP,Eg,wrI]at hp⊢;rw[<-e1,<-e2];split at hp
  ·rename_i nm off e;have e3:=hs ox (by simp[Hs]) nm (by rw[e];simp[D.nms,Ref.nm]) (.inr (.inr (.inl rfl)));simp only[e];exact⟨by rw[<-e3];exact hp,trivial,by rw[e3]⟩
  ·exact hp.elim
 all_goals
  obtain⟨h1,h2,h3⟩:=hp;have e:=hpv h1;refine⟨⟨h1,by rw[<-e];exact h2,fun hl o xk nm hn=>h3 hl o xk nm (by rw[ho o xk];exact hn)⟩,?_,rfl⟩;simp only[Eg];rw[<-e]
theorem iV{a b:GI}(h:OE a b=true):(∀d,a.ins.dst=some d->d∉CQ b/\b.ins.dst≠some d)/\(∀d,b.ins.dst=some d->d∉CQ a)/\¬(H8 a.ins=true/\H8 b.ins=true)/\
  ¬(GN a.ins=true/\(GN b.ins=true\/Hr b.ins=true))/\¬(GN b.ins=true/\Hr a.ins=true):=by
 unfold OE at h;simp only[Zbz,Zb7,Bool.and_eq_false_imp,Zca]at h;obtain⟨⟨⟨⟨h1,h2⟩,h3⟩,h4⟩,h5⟩:=h;refine⟨fun d hd=>?_,fun d hd=>?_,fun hh=>by simp[hh.1,hh.2]at h3,fun hh=>by have:=h4 hh.1;rcases hh.2 with q|q<;>simp[q]at this,fun hh=>by have:=h5 hh.1;simp[hh.2]at this⟩
 ·rw[hd]at h1;simp only[Zbz,Zb7]at h1;refine⟨fun hm=>?_,fun e=>?_⟩
  ·have:=h1.1;rw[Zc4.2 hm]at this;cases this
  ·have:=h1.2;rw[e]at this;simp at this
 ·rw[hd]at h2;intro hm;simp only at h2;rw[Zc4.2 hm]at h2;cases h2
theorem Qk{g:X}{s t:St}(he:∀i∈CQ g.1,Aj s.env i=Aj t.env i)
  (hs:∀o∈Hs g.1.ins,∀nm∈(AZ GL s o).nms,BP P GL sn g.1.ins g.2 s->looks g.1.ins=true\/Hr g.1.ins=true\/H8 g.1.ins=true\/GN g.1.ins=true->Aa s.sto nm=Aa t.sto nm)
  (ha:∀d zs,g.1.ins=.alloc d zs->BP P GL sn g.1.ins g.2 s->Aa s.sto d=none->Aa t.sto d=none)(hp:Ca P GL sn g s):Ca P GL sn g t/\Cx GL g t=Cx GL g s/\fh GL g t=fh GL g s:=by
 have hgd:Bp g.1.gd s=Bp g.1.gd t:=by grind[Bp,CQ]
 have ho:∀o∈BB g.1.ins,AZ GL s o=AZ GL t o:=fun o xk=>WX he (fun i hi=>by unfold CQ;exact Ze9.2 (.inr (Zff.2 ⟨o,xk,hi⟩)))
 unfold Ca at hp;unfold Ca Cx fh;rw[<-hgd];split at hp
 ·exact hp.elim
 ·rename_i h;simp only[h];exact iT ho (fun o xk nm hn hl=>hs o xk nm hn hp hl) (fun d zs e=>ha d zs e hp) hp
 ·rename_i h;simp only[h];exact⟨trivial,trivial,trivial⟩
def CG(b:Option Blk):Bool:=match b with|some (.map _ _)=>true|_=>false
theorem iX(hp:BP P GL sn ins x st){nm:Nat}{b:Blk}(h:wrI GL ins st=some (nm,b)):
  (∃zs,ins=.alloc nm zs/\Aa st.sto nm=none)\/(H8 ins=true/\nm∈sn/\(Aa st.sto nm).isSome/\CG (Aa st.sto nm)=false/\CG (some b)=false)\/(GN ins=true/\(Aa st.sto nm).isSome/\CG (Aa st.sto nm)=true/\CG (some b)=true):=by
 cases ins<;>simp only[wrI,reduceCtorEq]at h
 case alloc d zs=>cases h;exact .inl ⟨zs,rfl,hp.1⟩
 case mupd ox oq ov ls=>
  simp only[BP]at hp;split at hp
  ·rename_i nm' q u e1 e2 e3;simp only[e1,e2,e3]at h;obtain⟨_,hp⟩:=hp;split at hp
   ·rename_i ls' es hg;simp only[hg]at h;cases h;exact .inr (.inr ⟨rfl,by simp[hg],by simp[hg,CG],rfl⟩)
   ·exact hp.elim
  ·exact hp.elim
 case store ox ov k=>
  simp only[BP]at hp;split at hp
  ·rename_i nm' off e;simp only[e]at h;obtain⟨h1,hp⟩:=hp;split at hp
   ·rename_i cs hg;simp only[hg]at h;cases h;exact .inr (.inl ⟨rfl,h1,by simp[hg],by simp[hg,CG],rfl⟩)
   ·exact hp.elim
  ·exact hp.elim
theorem Ln{g:X}(hp:Ca P GL sn g st){nm:Nat}{b:Blk}(h:fh GL g st=some (nm,b)):
  (∃zs,g.1.ins=.alloc nm zs/\Aa st.sto nm=none)\/(H8 g.1.ins=true/\nm∈sn/\(Aa st.sto nm).isSome/\CG (Aa st.sto nm)=false/\CG (some b)=false)\/(GN g.1.ins=true/\(Aa st.sto nm).isSome/\CG (Aa st.sto nm)=true/\CG (some b)=true):=by
 unfold fh at h;unfold Ca at hp;split at hp
 ·exact hp.elim
 ·rename_i e;simp only[e]at h;exact iX hp h
 ·rename_i e;simp only[e]at h;cases h
theorem Ql(hc:I7 st){o:O}{nm:Nat}(h:nm∈(AZ GL st o).nms):names st.sto nm:=by cases o<;>simp only[AZ]at h<;>first|exact hc.1 _ _ h|simp[D.nms]at h
theorem WY(hp:BP P GL sn ins x st)(hl:looks ins=true){o:O}(ho:o∈BB ins){nm:Nat}(hn:nm∈(AZ GL st o).nms):nm∉sn:=by cases ins<;>simp[looks]at hl<;>exact hp.2.2 rfl o ho nm hn
theorem WZ(hp:BP P GL sn ins x st)(hl:looks ins=true){o:O}(ho:o∈BB ins){nm:Nat}(hn:nm∈(AZ GL st o).nms):CG (Aa st.sto nm)=false:=by
 cases ins<;>simp[looks]at hl<;>simp only[BP,BH,pv]at hp<;>obtain⟨-,hp,-⟩:=hp<;>simp only[BB,Zfb,Zfw,Zay]at ho
 case load=>
  subst ho;split at hp
  ·rename_i e;simp[e,D.nms]at hn
  ·rename_i e;split at hp;·rename_i hg;simp[e,D.nms,Ref.nm]at hn;subst hn;simp[hg,CG]
   ·exact hp.elim
  ·rename_i e;split at hp;·rename_i hg;simp[e,D.nms,Ref.nm]at hn;subst hn;simp[hg,CG]
   ·exact hp.elim
  ·exact hp.elim
 case ia=>
  split at hp
  ·rename_i e1 e2;rcases ho with rfl|rfl
   ·simp[e1,D.nms]at hn
   ·simp[e2,D.nms]at hn
  ·rename_i e1 e2;split at hp
   ·rename_i hg;rcases ho with rfl|rfl
    ·simp[e1,D.nms,Ref.nm]at hn;subst hn;simp[hg,CG]
    ·simp[e2,D.nms]at hn
   ·exact hp.elim
  ·exact hp.elim
 case slc d x lo hi k=>
  have int:∀{V:D} {z:Int},(Wd (some V)=some z\/∃l,eY l (some V)=some z)->V.nms=[]:=fun{V z} h=>by rcases h with h|⟨l,h⟩<;>cases V<;>simp_all[Wd,eY,D.nms]
  have hlh:∀{l:Int} {z z':Int},Wd (lo.map (AZ GL st))=some z->eY l (hi.map (AZ GL st))=some z'->o∈lo.toList++hi.toList->False:=fun{l z z'} h1 h2 hm=>by
   rcases Ze9.1 hm with hm|hm
   ·cases lo with
    |none=>simp at hm
    |some y=>simp at hm;subst hm;rw[int (.inl h1)]at hn;simp at hn
   ·cases hi with
    |none=>simp at hm
    |some y=>simp at hm;subst hm;rw[int (.inr ⟨_,h2⟩)]at hn;simp at hn
  split at hp
  ·rename_i e;split at hp
   ·rename_i h1 h2;rcases ho with rfl|ho
    ·simp[e,D.nms]at hn
    ·exact(hlh h1 h2 (Ze9.2 (by simpa using ho))).elim
   ·exact hp.elim
  ·rename_i e;split at hp
   ·rename_i hg;split at hp
    ·rename_i h1 h2;rcases ho with rfl|ho
     ·simp[e,D.nms,Ref.nm]at hn;subst hn;simp[hg,CG]
     ·exact(hlh h1 h2 (Ze9.2 (by simpa using ho))).elim
    ·exact hp.elim
   ·rename_i hg;split at hp
    ·rename_i h1 h2;rcases ho with rfl|ho
     ·simp[e,D.nms,Ref.nm]at hn;subst hn;simp[hg,CG]
     ·exact(hlh h1 h2 (Ze9.2 (by simpa using ho))).elim
    ·exact hp.elim
   ·exact hp.elim
  ·exact hp.elim
theorem W0(hp:BP P GL sn ins x st)(hl:Hr ins=true){o:O}(ho:o∈BB ins){nm:Nat}(hn:nm∈(AZ GL st o).nms):CG (Aa st.sto nm)=true:=by
 cases ins<;>simp[Hr]at hl<;>simp only[BP,BH,pv]at hp<;>obtain⟨-,hp,-⟩:=hp<;>simp only[BB,Zfb,Zfw,Zay]at ho
 case lookup=>
  split at hp
  ·rename_i e0;rcases ho with rfl|rfl
   ·split at hp
    ·rename_i e;simp[e,D.nms]at hn
    ·rename_i e;simp[e,D.nms]at hn
    ·rename_i e;split at hp
     ·rename_i hg;simp[e,D.nms,Ref.nm]at hn;subst hn;simp[hg,CG]
     ·exact hp.elim
    ·exact hp.elim
   ·simp[e0,D.nms]at hn
  ·exact hp.elim
 grind[D.nms,Ref.nm,CG]
theorem W1(hp:BP P GL sn ins x st)(hl:H8 ins=true){nm:Nat}{o:O}(ho:o∈Hs ins)(hn:nm∈(AZ GL st o).nms):CG (Aa st.sto nm)=false:=by cases ins<;>simp[H8]at hl;grind[Hs,BP,D.nms,Ref.nm,CG]
theorem W3(hp:BP P GL sn ins x st)(hl:GN ins=true){nm:Nat}{o:O}(ho:o∈Hs ins)(hn:nm∈(AZ GL st o).nms):CG (Aa st.sto nm)=true:=by cases ins<;>simp[GN]at hl;grind[Hs,BP,D.nms,Ref.nm,CG]
theorem swap{a b:X}(hc:I7 st)(hi:OE a.1 b.1=true)(ha:Ca P GL sn a st)(hb:Ca P GL sn b (Bq GL a st)):
  Ca P GL sn b st/\Ca P GL sn a (Bq GL b st)/\Oc (Bq GL a (Bq GL b st)) (Bq GL b (Bq GL a st)):=by
 obtain⟨i1,i2,i3,i4,i5⟩:=iV hi;obtain⟨ea,sa⟩:=F1 ha;have hEa:∀i,a.1.ins.dst≠some i->Aj (Bq GL a st).env i=Aj st.env i:=fun i jg=>by rw[ea];unfold B1;grind[Kc]
 have hSa:∀m,(∀bl,fh GL a st≠some (m,bl))->Aa (Bq GL a st).sto m=Aa st.sto m:=fun m jg=>by rw[sa];unfold Dt;grind
 have hmono:∀m,(Aa st.sto m).isSome->(Aa (Bq GL a st).sto m).isSome:=fun m hm=>by grind[Dt]
 have he1:∀i∈CQ b.1,Aj (Bq GL a st).env i=Aj st.env i:=fun i hi=>hEa i (fun e=>(i1 i e).1 hi)
 have ho1:∀o∈BB b.1.ins,AZ GL (Bq GL a st) o=AZ GL st o:=fun o xk=>WX he1 (fun i hi=>by unfold CQ;exact Ze9.2 (.inr (Zff.2 ⟨o,xk,hi⟩)))
 obtain⟨b1,b2,b3⟩:=Qk (t:=st) he1 (fun o xk nm hn wx hl=>by
  refine hSa nm (fun bl hw=>?_);have vt:=S6 xk;rw[ho1 o vt]at hn;have vd:CG (Aa (Bq GL a st).sto nm)=CG (some bl):=by grind[Dt]
  rcases Ln ha hw with⟨zs,_,hz⟩|⟨jf,hsn,_,_,hk⟩|⟨jf,_,_,hk⟩
  ·have:=Ql (GL:=GL) hc hn;simp[names,hz]at this
  ·rw[hk]at vd;rcases hl with hl|hl|hl|hl
   ·exact WY wx hl vt (by rw[ho1 o vt];exact hn) hsn
   ·rw[W0 wx hl vt (by rw[ho1 o vt];exact hn)]at vd;cases vd
   ·exact i3 ⟨jf,hl⟩
   ·rw[W3 wx hl xk (by rw[ho1 o vt];exact hn)]at vd;cases vd
  ·rw[hk]at vd;rcases hl with hl|hl|hl|hl
   ·rw[WZ wx hl vt (by rw[ho1 o vt];exact hn)]at vd;cases vd
   ·exact i4 ⟨jf,.inr hl⟩
   ·rw[W1 wx hl xk (by rw[ho1 o vt];exact hn)]at vd;cases vd
   ·exact i4 ⟨jf,.inl hl⟩) (fun d zs e wx hn=>by
  cases hx:Aa st.sto d with
  |none=>rfl
  |some y=>have:=hmono d (by simp[hx]);rw[hn]at this;cases this) hb
 obtain⟨eb,sb⟩:=F1 b1;have hEb:∀i,b.1.ins.dst≠some i->Aj (Bq GL b st).env i=Aj st.env i:=fun i jg=>by rw[eb];unfold B1;grind[Kc]
 have hSb:∀m,(∀bl,fh GL b st≠some (m,bl))->Aa (Bq GL b st).sto m=Aa st.sto m:=fun m jg=>by rw[sb];unfold Dt;grind
 have he2:∀i∈CQ a.1,Aj st.env i=Aj (Bq GL b st).env i:=fun i hi=>(hEb i (fun e=>i2 i e hi)).symm
 obtain⟨a1,a2,a3⟩:=Qk (t:=Bq GL b st) he2 (fun o xk nm hn hpa hl=>by
  refine(hSb nm (fun bl hw=>?_)).symm;have vt:=S6 xk;rcases Ln b1 hw with⟨zs,_,hz⟩|⟨jf,hsn,_,hk,_⟩|⟨jf,_,hk,_⟩
  ·have:=Ql (GL:=GL) hc hn;simp[names,hz]at this
  ·rcases hl with hl|hl|hl|hl
   ·exact WY hpa hl vt hn hsn
   ·rw[W0 hpa hl vt hn]at hk;cases hk
   ·exact i3 ⟨hl,jf⟩
   ·rw[W3 hpa hl xk hn]at hk;cases hk
  ·rcases hl with hl|hl|hl|hl
   ·rw[WZ hpa hl vt hn]at hk;cases hk
   ·exact i5 ⟨jf,hl⟩
   ·rw[W1 hpa hl xk hn]at hk;cases hk
   ·exact i4 ⟨hl,.inl jf⟩) (fun d zs e hpa hn=>by
  rw[hSb d (fun bl hw=>?_)]
  ·exact hn
  ·rcases Ln b1 hw with⟨zs',e',_⟩|⟨_,_,wo,_⟩|⟨_,wo,_⟩
   ·exact(i1 d (by rw[e];rfl)).2 (by rw[e'];rfl)
   ·rw[hn]at wo;cases wo
   ·rw[hn]at wo;cases wo) ha
 refine⟨b1,a1,?_⟩;obtain⟨ea',sa'⟩:=F1 a1;obtain⟨eb',sb'⟩:=F1 hb;constructor
 ·intro i;rw[ea',eb',a2,<-b2];unfold B1;cases hpa:Cx GL a st with
  |none=>
   simp only;cases wx:Cx GL b st with
   |none=>simp only;rw[eb,ea];simp[B1,hpa,wx]
   |some q=>simp only;rw[eb];simp only[B1,wx];split;rfl;rw[ea];simp[B1,hpa]
  |some p=>
   obtain⟨d,v⟩:=p;have hd:=Kc ha hpa;cases wx:Cx GL b st with
   |none=>simp only;rw[eb,ea];simp[B1,hpa,wx]
   |some q=>
    obtain⟨d',v'⟩:=q;have hd':=Kc b1 wx;have jg:d'≠d:=fun e=>(i1 d hd).2 (by rw[hd',e])
    simp only;rw[eb,ea];simp only[B1,hpa,wx];by_cases h1:d=i
    ·by_cases h2:d'=i
     ·exact absurd (h2.trans h1.symm) jg
     ·rw[Zaa h1,Zac h2,Zaa h1]
    ·rw[Zac h1];by_cases h2:d'=i
     ·rw[Zaa h2,Zaa h2]
     ·rw[Zac h2,Zac h2,Zac h1]
 ·intro m;rw[sa',sb',a3,<-b3];unfold Dt;cases hpa:fh GL a st with
  |none=>
   simp only;cases wx:fh GL b st with
   |none=>simp only;rw[sb,sa];simp[Dt,hpa,wx]
   |some q=>simp only;rw[sb];simp only[Dt,wx];split;rfl;rw[sa];simp[Dt,hpa]
  |some p=>
   obtain⟨d,v⟩:=p;cases wx:fh GL b st with
   |none=>simp only;rw[sb,sa];simp[Dt,hpa,wx]
   |some q=>
    obtain⟨d',v'⟩:=q;have jg:d'≠d:=fun e=>by
     subst e;rcases Ln ha hpa with⟨zs,e1,hz⟩|⟨jf,_,hsm,hk,_⟩|⟨jf,hsm,hk,_⟩
     ·rcases Ln b1 wx with⟨zs',e2,_⟩|⟨_,_,hsm,_⟩|⟨_,hsm,_⟩
      ·exact(i1 d' (by rw[e1];rfl)).2 (by rw[e2];rfl)
      all_goals grind
     ·rcases Ln b1 wx with⟨zs',e2,hz⟩|⟨hst',_,_,_⟩|⟨_,_,jk,_⟩
      all_goals grind
     ·rcases Ln b1 wx with⟨zs',e2,hz⟩|⟨_,_,_,jk,_⟩|⟨hst',_,_,_⟩
      all_goals grind
    simp only;rw[sb,sa];simp only[Dt,hpa,wx];by_cases h1:d=m
    ·by_cases h2:d'=m
     ·exact absurd (h2.trans h1.symm) jg
     ·rw[Zaa h1,Zac h2,Zaa h1]
    ·rw[Zac h1];by_cases h2:d'=m
     ·rw[Zaa h2,Zaa h2]
     ·rw[Zac h2,Zac h2,Zac h1]
end
end Go.Dl
