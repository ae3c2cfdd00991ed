/-Lemmas.-/
import Derived.Test.YtkhlddbmhehbbaaGreatDoorU5
set_option linter.all false
namespace Go.Dl
open Go Go.RowKit
variable{st:St}{ins:Ins}{x:Option I}
section
variable {P:Program}{GL:List (Nat×List I)}{sn:List Nat}
def Ew(GL:List (Nat×List I))(ins:Ins)(x:Option I)(st:St):Option (Nat×D):=
 match ins with
 |.call d _ _=>match d,x with
  |some s,some y=>some (s,.i y)
  |_,_=>none
 |.callv d _ _=>match d,x with
  |some s,some y=>some (s,.i y)
  |_,_=>none
 |.alloc d _=>some (d,.ref (.loc d 0))
 |.store _ _ _=>none
 |.mupd _ _ _ _=>none
 |ins=>match BW ins with
  |some d=>some (d,(pv (A8 GL st) (Aa st.sto) ins).1)
  |none=>none
def wrI(GL:List (Nat×List I))(ins:Ins)(st:St):Option (Nat×Blk):=
 match ins with
 |.alloc d zs=>some (d,.cells (zs.map .i))
 |.store ox ov _=>match A8 GL st ox with
  |.ref (.loc nm off)=>match Aa st.sto nm with
   |some (.cells cs)=>some (nm,.cells (setL cs off (Bh (A8 GL st ov))))
   |_=>none
  |_=>none
 |.mupd ox oq ov ls=>match A8 GL st ox,A8 GL st oq,A8 GL st ov with
  |.ref (.mp nm),.i q,.i u=>match Aa st.sto nm with
   |some (.map _ es)=>some (nm,.map ls (Ee es q u))
   |_=>none
  |_,_,_=>none
 |_=>none
def CO(GL:List (Nat×List I))(g:X)(st:St):Option (Nat×D):=match BC g.1.gd st with
 |some true=>Ew GL g.1.ins g.2 st
 |_=>match g.1.ins.dst with|some d=>some (d,.i .undef)|none=>none
def gt(GL:List (Nat×List I))(g:X)(st:St):Option (Nat×Blk):=match BC g.1.gd st with
 |some true=>wrI GL g.1.ins st
 |_=>none
def Ca(p:Option (Nat×D))(e:Nat->D)(i:Nat):D:=match p with|some (d,v)=>if d=i then v else e i|none=>e i
def DO(p:Option (Nat×Blk))(e:Nat->Option Blk)(m:Nat):Option Blk:=match p with|some (d,v)=>if d=m then some v else e m|none=>e m
theorem kQ(hp:B2 P GL sn ins x st):
  (∀i,Aj (Ev GL ins x st).env i=Ca (Ew GL ins x st) (Aj st.env) i)/\∀m,Aa (Ev GL ins x st).sto m=DO (wrI GL ins st) (Aa st.sto) m:=by
 cases ins
 case call d f args=>simp only[Ev,Ew,wrI,Ca,DO];split<;>simp[St.put,Aj]
 case callv d f args=>simp only[Ev,Ew,wrI,Ca,DO];split<;>simp[St.put,Aj]
 case alloc d zs=>exact⟨fun i=>rfl,fun m=>rfl⟩
 case mupd ox oq ov ls=>
  simp only[B2]at hp;split at hp
  ·rename_i nm q u e1 e2 e3;obtain⟨_,hp⟩:=hp;split at hp
   ·rename_i ls' es hg;simp only[Ev,Ew,wrI,e1,e2,e3,hg,Ca,DO];refine⟨fun i=>rfl,fun m=>?_⟩;simp only[St.setB,C3,hg,Option.map_some];by_cases h:m=nm
    ·simp[h]
    ·simp[h,Ne.symm h]
   ·exact hp.elim
  ·exact hp.elim
 case store ox ov k=>
  simp only[B2]at hp;split at hp
  ·rename_i nm off e;obtain⟨_,hp⟩:=hp;split at hp
   ·rename_i cs hg;simp only[Ev,Ew,wrI,e,hg,Ca,DO];refine⟨fun i=>rfl,fun m=>?_⟩;simp only[St.setB,C3,hg,Option.map_some];by_cases h:m=nm
    ·simp[h]
    ·simp[h,Ne.symm h]
   ·exact hp.elim
  ·exact hp.elim
 all_goals
  simp only[Ev,Ew,wrI,BW,Ca,DO];exact⟨fun i=>by first|rfl|trivial,fun m=>by first|rfl|trivial⟩
theorem Gu{g:X}(hp:Ck P GL sn g st):(∀i,Aj (BD GL g st).env i=Ca (CO GL g st) (Aj st.env) i)/\∀m,Aa (BD GL g st).sto m=DO (gt GL g st) (Aa st.sto) m:=by
 unfold Ck at hp;unfold BD CO gt;split at hp
 ·exact hp.elim
 ·rename_i h;simp only[h];exact kQ hp
 ·rename_i h;simp only[h];unfold BF;cases g.1.ins.dst<;>exact⟨fun i=>rfl,fun m=>rfl⟩
theorem kR(hp:B2 P GL sn ins x st){d:Nat}{v:D}(h:Ew GL ins x st=some (d,v)):ins.dst=some d:=by
 cases ins<;>simp only[Ew,BW,reduceCtorEq]at h<;>first
  |(cases h;rfl)
  |(split at h<;>cases h;rfl)
  |skip
theorem KC{g:X}(hp:Ck P GL sn g st){d:Nat}{v:D}(h:CO GL g st=some (d,v)):g.1.ins.dst=some d:=by grind[CO,Ck,kR]
theorem XC{s t:St}{l:List Nat}(h:∀i∈l,Aj s.env i=Aj t.env i){o:O}(ho:∀i∈Gt o,i∈l):A8 GL s o=A8 GL t o:=by cases o<;>simp only[A8];grind[Gt]
theorem kS(hl:looks ins=false)(hm:HH ins=false)(ρ:O->D)(σ σ':Nat->Option Blk):pv ρ σ ins=pv ρ σ' ins:=by cases ins<;>simp only[pv]<;>first|(simp[looks]at hl;done)|(simp[HH]at hm;done)
def HI:Ins->List O
 |.store ox _ _=>[ox]
 |.mupd ox _ _ _=>[ox]
 |ins=>BQ ins
theorem Tw{o:O}(h:o∈HI ins):o∈BQ ins:=by cases ins<;>first|exact h|(simp only[HI,List.mem_singleton]at h;subst h;simp[BQ])
theorem kT(h:(BW ins).isSome):HI ins=BQ ins:=by cases ins<;>first|rfl|simp[BW]at h
theorem kU{s t:St}(ho:∀o∈BQ ins,A8 GL s o=A8 GL t o)(hs:∀o∈HI ins,∀nm∈(A8 GL s o).nms,looks ins=true\/HH ins=true\/Ip ins=true\/G6 ins=true->Aa s.sto nm=Aa t.sto nm)
  (ha:∀d zs,ins=.alloc d zs->Aa s.sto d=none->Aa t.sto d=none)(hp:B2 P GL sn ins x s):B2 P GL sn ins x t/\Ew GL ins x t=Ew GL ins x s/\wrI GL ins t=wrI GL ins s:=by
 have hpv:(BW ins).isSome->pv (A8 GL s) (Aa s.sto) ins=pv (A8 GL t) (Aa t.sto) ins:=fun hd=>by
  have hk:=kT hd;rw[hk]at hs;by_cases hl:looks ins=true
  ·exact Tu ho (fun o xd nm hn=>hs o xd nm hn (.inl hl))
  ·by_cases hm:HH ins=true
   ·exact Tu ho (fun o xd nm hn=>hs o xd nm hn (.inr (.inl hm)))
   ·rw[kS (by simpa using hl) (by simpa using hm) _ _ (Aa t.sto)];exact Tu ho (fun _ _ _ _=>rfl)
 cases ins
 case call d f args=>
  obtain⟨h1,y,h2,h3⟩:=hp;simp only[BQ]at ho;have e1:args.map (A8 GL s)=args.map (A8 GL t):=List.map_congr_left (fun o h=>ho o h);have e2:(args.all fun o=>Ja (A8 GL s o))=(args.all fun o=>Ja (A8 GL t o)):=by rw[Bool.eq_iff_iff,List.all_eq_true,List.all_eq_true];exact⟨fun hh p hp=>by rw[<-ho p hp];exact hh p hp,fun hh p hp=>by rw[ho p hp];exact hh p hp⟩
  exact⟨⟨by rw[<-e2];exact h1,y,h2,by rw[<-e1];exact h3⟩,rfl,rfl⟩
 case callv d f args=>
  obtain⟨h0,h1,p,y,h2,h3,h4⟩:=hp;simp only[BQ]at ho;have e1:args.map (A8 GL s)=args.map (A8 GL t):=List.map_congr_left (fun o h=>ho o (by simp[h]));have e0:=ho f (by simp);have e2:(args.all fun o=>Ja (A8 GL s o))=(args.all fun o=>Ja (A8 GL t o)):=by rw[Bool.eq_iff_iff,List.all_eq_true,List.all_eq_true];exact⟨fun hh p hp=>by rw[<-ho p (by simp[hp])];exact hh p hp,fun hh p hp=>by rw[ho p (by simp[hp])];exact hh p hp⟩
  exact⟨⟨by rw[<-e0];exact h0,by rw[<-e2];exact h1,p,y,by rw[<-e0,<-e1];exact h2,h3,h4⟩,rfl,rfl⟩
 case mupd ox oq ov ls=>
  have e1:=ho ox (by simp[BQ]);have e2:=ho oq (by simp[BQ]);have e4:=ho ov (by simp[BQ]);simp only[B2,Ew,wrI]at hp⊢;rw[<-e1,<-e2,<-e4];split at hp
  ·rename_i nm q u e _ _;have e3:=hs ox (by simp[HI]) nm (by rw[e];simp[D.nms,Ref.nm]) (.inr (.inr (.inr rfl)));refine⟨by rw[<-e3];exact hp,trivial,by rw[e,‹A8 GL s oq=_›,‹A8 GL s ov=_›];simp only[e3]⟩
  ·exact hp.elim
 case alloc d zs=>exact⟨⟨ha d zs rfl hp.1,hp.2⟩,rfl,rfl⟩
 case store ox ov k=>
  have e1:=ho ox (by simp[BQ]);have e2:=ho ov (by simp[BQ]);simp only[B2,Ew,wrI]at hp⊢;rw[<-e1,<-e2];split at hp
  ·rename_i nm off e;have e3:=hs ox (by simp[HI]) nm (by rw[e];simp[D.nms,Ref.nm]) (.inr (.inr (.inl rfl)));simp only[e];exact⟨by rw[<-e3];exact hp,trivial,by rw[e3]⟩
  ·exact hp.elim
 all_goals
  obtain⟨h1,h2,h3⟩:=hp;have e:=hpv h1;refine⟨⟨h1,by rw[<-e];exact h2,fun hl o xd nm hn=>h3 hl o xd nm (by rw[ho o xd];exact hn)⟩,?_,rfl⟩;simp only[Ew];rw[<-e]
theorem kV{a b:GI}(h:O5 a b=true):(∀d,a.ins.dst=some d->d∉C5 b/\b.ins.dst≠some d)/\(∀d,b.ins.dst=some d->d∉C5 a)/\¬(Ip a.ins=true/\Ip b.ins=true)/\
  ¬(G6 a.ins=true/\(G6 b.ins=true\/HH b.ins=true))/\¬(G6 b.ins=true/\HH a.ins=true):=by
 unfold O5 at h;simp only[Bool.and_eq_true,Bool.not_eq_true',Bool.and_eq_false_imp,Bool.or_eq_false_iff]at h;obtain⟨⟨⟨⟨h1,h2⟩,h3⟩,h4⟩,h5⟩:=h;refine⟨fun d hd=>?_,fun d hd=>?_,fun hh=>by simp[hh.1,hh.2]at h3,fun hh=>by have:=h4 hh.1;rcases hh.2 with q|q<;>simp[q]at this,fun hh=>by have:=h5 hh.1;simp[hh.2]at this⟩
 ·rw[hd]at h1;simp only[Bool.and_eq_true,Bool.not_eq_true']at h1;refine⟨fun hm=>?_,fun e=>?_⟩
  ·have:=h1.1;rw[List.contains_iff_mem.2 hm]at this;cases this
  ·have:=h1.2;rw[e]at this;simp at this
 ·rw[hd]at h2;intro hm;simp only at h2;rw[List.contains_iff_mem.2 hm]at h2;cases h2
theorem QM{g:X}{s t:St}(he:∀i∈C5 g.1,Aj s.env i=Aj t.env i)
  (hs:∀o∈HI g.1.ins,∀nm∈(A8 GL s o).nms,B2 P GL sn g.1.ins g.2 s->looks g.1.ins=true\/HH g.1.ins=true\/Ip g.1.ins=true\/G6 g.1.ins=true->Aa s.sto nm=Aa t.sto nm)
  (ha:∀d zs,g.1.ins=.alloc d zs->B2 P GL sn g.1.ins g.2 s->Aa s.sto d=none->Aa t.sto d=none)(hp:Ck P GL sn g s):Ck P GL sn g t/\CO GL g t=CO GL g s/\gt GL g t=gt GL g s:=by
 have hgd:BC g.1.gd s=BC g.1.gd t:=by grind[BC,C5]
 have ho:∀o∈BQ g.1.ins,A8 GL s o=A8 GL t o:=fun o xd=>XC he (fun i hi=>by unfold C5;exact List.mem_append.2 (.inr (List.mem_flatMap.2 ⟨o,xd,hi⟩)))
 unfold Ck at hp;unfold Ck CO gt;rw[<-hgd];split at hp
 ·exact hp.elim
 ·rename_i h;simp only[h];exact kU ho (fun o xd nm hn hl=>hs o xd nm hn hp hl) (fun d zs e=>ha d zs e hp) hp
 ·rename_i h;simp only[h];exact⟨trivial,trivial,trivial⟩
def C1(b:Option Blk):Bool:=match b with|some (.map _ _)=>true|_=>false
theorem kW(hp:B2 P GL sn ins x st){nm:Nat}{b:Blk}(h:wrI GL ins st=some (nm,b)):
  (∃zs,ins=.alloc nm zs/\Aa st.sto nm=none)\/(Ip ins=true/\nm∈sn/\(Aa st.sto nm).isSome/\C1 (Aa st.sto nm)=false/\C1 (some b)=false)\/(G6 ins=true/\(Aa st.sto nm).isSome/\C1 (Aa st.sto nm)=true/\C1 (some b)=true):=by
 cases ins<;>simp only[wrI,reduceCtorEq]at h
 case alloc d zs=>cases h;exact .inl ⟨zs,rfl,hp.1⟩
 case mupd ox oq ov ls=>
  simp only[B2]at hp;split at hp
  ·rename_i nm' q u e1 e2 e3;simp only[e1,e2,e3]at h;obtain⟨_,hp⟩:=hp;split at hp
   ·rename_i ls' es hg;simp only[hg]at h;cases h;exact .inr (.inr ⟨rfl,by simp[hg],by simp[hg,C1],rfl⟩)
   ·exact hp.elim
  ·exact hp.elim
 case store ox ov k=>
  simp only[B2]at hp;split at hp
  ·rename_i nm' off e;simp only[e]at h;obtain⟨h1,hp⟩:=hp;split at hp
   ·rename_i cs hg;simp only[hg]at h;cases h;exact .inr (.inl ⟨rfl,h1,by simp[hg],by simp[hg,C1],rfl⟩)
   ·exact hp.elim
  ·exact hp.elim
theorem LZ{g:X}(hp:Ck P GL sn g st){nm:Nat}{b:Blk}(h:gt GL g st=some (nm,b)):
  (∃zs,g.1.ins=.alloc nm zs/\Aa st.sto nm=none)\/(Ip g.1.ins=true/\nm∈sn/\(Aa st.sto nm).isSome/\C1 (Aa st.sto nm)=false/\C1 (some b)=false)\/(G6 g.1.ins=true/\(Aa st.sto nm).isSome/\C1 (Aa st.sto nm)=true/\C1 (some b)=true):=by
 unfold gt at h;unfold Ck at hp;split at hp
 ·exact hp.elim
 ·rename_i e;simp only[e]at h;exact kW hp h
 ·rename_i e;simp only[e]at h;cases h
theorem QN(hc:Jv st){o:O}{nm:Nat}(h:nm∈(A8 GL st o).nms):names st.sto nm:=by cases o<;>simp only[A8]at h<;>first|exact hc.1 _ _ h|simp[D.nms]at h
theorem XD(hp:B2 P GL sn ins x st)(hl:looks ins=true){o:O}(ho:o∈BQ ins){nm:Nat}(hn:nm∈(A8 GL st o).nms):nm∉sn:=by cases ins<;>simp[looks]at hl<;>exact hp.2.2 rfl o ho nm hn
theorem XE(hp:B2 P GL sn ins x st)(hl:looks ins=true){o:O}(ho:o∈BQ ins){nm:Nat}(hn:nm∈(A8 GL st o).nms):C1 (Aa st.sto nm)=false:=by
 cases ins<;>simp[looks]at hl<;>simp only[B2,BW,pv]at hp<;>obtain⟨-,hp,-⟩:=hp<;>simp only[BQ,List.mem_cons,List.not_mem_nil,or_false]at ho
 case load=>
  subst ho;split at hp
  ·rename_i e;simp[e,D.nms]at hn
  ·rename_i e;split at hp;·rename_i hg;simp[e,D.nms,Ref.nm]at hn;subst hn;simp[hg,C1]
   ·exact hp.elim
  ·rename_i e;split at hp;·rename_i hg;simp[e,D.nms,Ref.nm]at hn;subst hn;simp[hg,C1]
   ·exact hp.elim
  ·exact hp.elim
 case ia=>
  split at hp
  ·rename_i e1 e2;rcases ho with rfl|rfl
   ·simp[e1,D.nms]at hn
   ·simp[e2,D.nms]at hn
  ·rename_i e1 e2;split at hp
   ·rename_i hg;rcases ho with rfl|rfl
    ·simp[e1,D.nms,Ref.nm]at hn;subst hn;simp[hg,C1]
    ·simp[e2,D.nms]at hn
   ·exact hp.elim
  ·exact hp.elim
 case slc d x lo hi k=>
  have int:∀{V:D} {z:Int},(WP (some V)=some z\/∃l,gl l (some V)=some z)->V.nms=[]:=fun{V z} h=>by rcases h with h|⟨l,h⟩<;>cases V<;>simp_all[WP,gl,D.nms]
  have hlh:∀{l:Int} {z z':Int},WP (lo.map (A8 GL st))=some z->gl l (hi.map (A8 GL st))=some z'->o∈lo.toList++hi.toList->False:=fun{l z z'} h1 h2 hm=>by
   rcases List.mem_append.1 hm with hm|hm
   ·cases lo with
    |none=>simp at hm
    |some y=>simp at hm;subst hm;rw[int (.inl h1)]at hn;simp at hn
   ·cases hi with
    |none=>simp at hm
    |some y=>simp at hm;subst hm;rw[int (.inr ⟨_,h2⟩)]at hn;simp at hn
  split at hp
  ·rename_i e;split at hp
   ·rename_i h1 h2;rcases ho with rfl|ho
    ·simp[e,D.nms]at hn
    ·exact(hlh h1 h2 (List.mem_append.2 (by simpa using ho))).elim
   ·exact hp.elim
  ·rename_i e;split at hp
   ·rename_i hg;split at hp
    ·rename_i h1 h2;rcases ho with rfl|ho
     ·simp[e,D.nms,Ref.nm]at hn;subst hn;simp[hg,C1]
     ·exact(hlh h1 h2 (List.mem_append.2 (by simpa using ho))).elim
    ·exact hp.elim
   ·rename_i hg;split at hp
    ·rename_i h1 h2;rcases ho with rfl|ho
     ·simp[e,D.nms,Ref.nm]at hn;subst hn;simp[hg,C1]
     ·exact(hlh h1 h2 (List.mem_append.2 (by simpa using ho))).elim
    ·exact hp.elim
   ·exact hp.elim
  ·exact hp.elim
theorem XF(hp:B2 P GL sn ins x st)(hl:HH ins=true){o:O}(ho:o∈BQ ins){nm:Nat}(hn:nm∈(A8 GL st o).nms):C1 (Aa st.sto nm)=true:=by
 cases ins<;>simp[HH]at hl<;>simp only[B2,BW,pv]at hp<;>obtain⟨-,hp,-⟩:=hp<;>simp only[BQ,List.mem_cons,List.not_mem_nil,or_false]at ho
 case lookup=>
  split at hp
  ·rename_i e0;rcases ho with rfl|rfl
   ·split at hp
    ·rename_i e;simp[e,D.nms]at hn
    ·rename_i e;simp[e,D.nms]at hn
    ·rename_i e;split at hp
     ·rename_i hg;simp[e,D.nms,Ref.nm]at hn;subst hn;simp[hg,C1]
     ·exact hp.elim
    ·exact hp.elim
   ·simp[e0,D.nms]at hn
  ·exact hp.elim
 grind[D.nms,Ref.nm,C1]
theorem XG(hp:B2 P GL sn ins x st)(hl:Ip ins=true){nm:Nat}{o:O}(ho:o∈HI ins)(hn:nm∈(A8 GL st o).nms):C1 (Aa st.sto nm)=false:=by cases ins<;>simp[Ip]at hl;grind[HI,B2,D.nms,Ref.nm,C1]
theorem XH(hp:B2 P GL sn ins x st)(hl:G6 ins=true){nm:Nat}{o:O}(ho:o∈HI ins)(hn:nm∈(A8 GL st o).nms):C1 (Aa st.sto nm)=true:=by cases ins<;>simp[G6]at hl;grind[HI,B2,D.nms,Ref.nm,C1]
theorem swap{a b:X}(hc:Jv st)(hi:O5 a.1 b.1=true)(ha:Ck P GL sn a st)(hb:Ck P GL sn b (BD GL a st)):
  Ck P GL sn b st/\Ck P GL sn a (BD GL b st)/\OF (BD GL a (BD GL b st)) (BD GL b (BD GL a st)):=by
 obtain⟨i1,i2,i3,i4,i5⟩:=kV hi;obtain⟨ea,sa⟩:=Gu ha;have hEa:∀i,a.1.ins.dst≠some i->Aj (BD GL a st).env i=Aj st.env i:=fun i ji=>by rw[ea];unfold Ca;grind[KC]
 have hSa:∀m,(∀bl,gt GL a st≠some (m,bl))->Aa (BD GL a st).sto m=Aa st.sto m:=fun m ji=>by rw[sa];unfold DO;grind
 have hmono:∀m,(Aa st.sto m).isSome->(Aa (BD GL a st).sto m).isSome:=fun m hm=>by grind[DO]
 have he1:∀i∈C5 b.1,Aj (BD GL a st).env i=Aj st.env i:=fun i hi=>hEa i (fun e=>(i1 i e).1 hi)
 have ho1:∀o∈BQ b.1.ins,A8 GL (BD GL a st) o=A8 GL st o:=fun o xd=>XC he1 (fun i hi=>by unfold C5;exact List.mem_append.2 (.inr (List.mem_flatMap.2 ⟨o,xd,hi⟩)))
 obtain⟨b1,b2,b3⟩:=QM (t:=st) he1 (fun o xd nm hn ws hl=>by
  refine hSa nm (fun bl hw=>?_);have vn:=Tw xd;rw[ho1 o vn]at hn;have qv:C1 (Aa (BD GL a st).sto nm)=C1 (some bl):=by grind[DO]
  rcases LZ ha hw with⟨zs,_,hz⟩|⟨jh,hsn,_,_,hk⟩|⟨jh,_,_,hk⟩
  ·have:=QN (GL:=GL) hc hn;simp[names,hz]at this
  ·rw[hk]at qv;rcases hl with hl|hl|hl|hl
   ·exact XD ws hl vn (by rw[ho1 o vn];exact hn) hsn
   ·rw[XF ws hl vn (by rw[ho1 o vn];exact hn)]at qv;cases qv
   ·exact i3 ⟨jh,hl⟩
   ·rw[XH ws hl xd (by rw[ho1 o vn];exact hn)]at qv;cases qv
  ·rw[hk]at qv;rcases hl with hl|hl|hl|hl
   ·rw[XE ws hl vn (by rw[ho1 o vn];exact hn)]at qv;cases qv
   ·exact i4 ⟨jh,.inr hl⟩
   ·rw[XG ws hl xd (by rw[ho1 o vn];exact hn)]at qv;cases qv
   ·exact i4 ⟨jh,.inl hl⟩) (fun d zs e ws hn=>by
  cases hx:Aa st.sto d with
  |none=>rfl
  |some y=>have:=hmono d (by simp[hx]);rw[hn]at this;cases this) hb
 obtain⟨eb,sb⟩:=Gu b1;have hEb:∀i,b.1.ins.dst≠some i->Aj (BD GL b st).env i=Aj st.env i:=fun i ji=>by rw[eb];unfold Ca;grind[KC]
 have hSb:∀m,(∀bl,gt GL b st≠some (m,bl))->Aa (BD GL b st).sto m=Aa st.sto m:=fun m ji=>by rw[sb];unfold DO;grind
 have he2:∀i∈C5 a.1,Aj st.env i=Aj (BD GL b st).env i:=fun i hi=>(hEb i (fun e=>i2 i e hi)).symm
 obtain⟨a1,a2,a3⟩:=QM (t:=BD GL b st) he2 (fun o xd nm hn hpa hl=>by
  refine(hSb nm (fun bl hw=>?_)).symm;have vn:=Tw xd;rcases LZ b1 hw with⟨zs,_,hz⟩|⟨jh,hsn,_,hk,_⟩|⟨jh,_,hk,_⟩
  ·have:=QN (GL:=GL) hc hn;simp[names,hz]at this
  ·rcases hl with hl|hl|hl|hl
   ·exact XD hpa hl vn hn hsn
   ·rw[XF hpa hl vn hn]at hk;cases hk
   ·exact i3 ⟨hl,jh⟩
   ·rw[XH hpa hl xd hn]at hk;cases hk
  ·rcases hl with hl|hl|hl|hl
   ·rw[XE hpa hl vn hn]at hk;cases hk
   ·exact i5 ⟨jh,hl⟩
   ·rw[XG hpa hl xd hn]at hk;cases hk
   ·exact i4 ⟨hl,.inl jh⟩) (fun d zs e hpa hn=>by
  rw[hSb d (fun bl hw=>?_)]
  ·exact hn
  ·rcases LZ b1 hw with⟨zs',e',_⟩|⟨_,_,wj,_⟩|⟨_,wj,_⟩
   ·exact(i1 d (by rw[e];rfl)).2 (by rw[e'];rfl)
   ·rw[hn]at wj;cases wj
   ·rw[hn]at wj;cases wj) ha
 refine⟨b1,a1,?_⟩;obtain⟨ea',sa'⟩:=Gu a1;obtain⟨eb',sb'⟩:=Gu hb;constructor
 ·intro i;rw[ea',eb',a2,<-b2];unfold Ca;cases hpa:CO GL a st with
  |none=>
   simp only;cases ws:CO GL b st with
   |none=>simp only;rw[eb,ea];simp[Ca,hpa,ws]
   |some q=>simp only;rw[eb];simp only[Ca,ws];split;rfl;rw[ea];simp[Ca,hpa]
  |some p=>
   obtain⟨d,v⟩:=p;have hd:=KC ha hpa;cases ws:CO GL b st with
   |none=>simp only;rw[eb,ea];simp[Ca,hpa,ws]
   |some q=>
    obtain⟨d',v'⟩:=q;have hd':=KC b1 ws;have ji:d'≠d:=fun e=>(i1 d hd).2 (by rw[hd',e])
    simp only;rw[eb,ea];simp only[Ca,hpa,ws];by_cases h1:d=i
    ·by_cases h2:d'=i
     ·exact absurd (h2.trans h1.symm) ji
     ·rw[if_pos h1,if_neg h2,if_pos h1]
    ·rw[if_neg h1];by_cases h2:d'=i
     ·rw[if_pos h2,if_pos h2]
     ·rw[if_neg h2,if_neg h2,if_neg h1]
 ·intro m;rw[sa',sb',a3,<-b3];unfold DO;cases hpa:gt GL a st with
  |none=>
   simp only;cases ws:gt GL b st with
   |none=>simp only;rw[sb,sa];simp[DO,hpa,ws]
   |some q=>simp only;rw[sb];simp only[DO,ws];split;rfl;rw[sa];simp[DO,hpa]
  |some p=>
   obtain⟨d,v⟩:=p;cases ws:gt GL b st with
   |none=>simp only;rw[sb,sa];simp[DO,hpa,ws]
   |some q=>
    obtain⟨d',v'⟩:=q;have ji:d'≠d:=fun e=>by
     subst e;rcases LZ ha hpa with⟨zs,e1,hz⟩|⟨jh,_,hsm,hk,_⟩|⟨jh,hsm,hk,_⟩
     ·rcases LZ b1 ws with⟨zs',e2,_⟩|⟨_,_,hsm,_⟩|⟨_,hsm,_⟩
      ·exact(i1 d' (by rw[e1];rfl)).2 (by rw[e2];rfl)
      all_goals grind
     ·rcases LZ b1 ws with⟨zs',e2,hz⟩|⟨hst',_,_,_⟩|⟨_,_,jk,_⟩
      all_goals grind
     ·rcases LZ b1 ws with⟨zs',e2,hz⟩|⟨_,_,_,jk,_⟩|⟨hst',_,_,_⟩
      all_goals grind
    simp only;rw[sb,sa];simp only[DO,hpa,ws];by_cases h1:d=m
    ·by_cases h2:d'=m
     ·exact absurd (h2.trans h1.symm) ji
     ·rw[if_pos h1,if_neg h2,if_pos h1]
    ·rw[if_neg h1];by_cases h2:d'=m
     ·rw[if_pos h2,if_pos h2]
     ·rw[if_neg h2,if_neg h2,if_neg h1]
end
end Go.Dl
