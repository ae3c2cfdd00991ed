/-
  Lemmas, no statement.
-/
import Derived.Test.YtojgbkiejjingaaGreatDoorK20
set_option linter.all false
namespace Go.Dl
open Go Go.RowKit
variable{st:St}{ins:Ins}{x:Option I}
section
variable {P:Program}{GL:List (Nat×List I)}{sn:List Nat}
def Du(GL:List (Nat×List I))(ins:Ins)(x:Option I)(st:St):Option (Nat×D):=
 match ins with
 |.call d _ _=>match d,x with
  |some s,some y=>some (s,.i y)
  |_,_=>none
 |.callv d _ _=>match d,x with
  |some s,some y=>some (s,.i y)
  |_,_=>none
 |.alloc d _=>some (d,.ref (.loc d 0))
 |.store _ _ _=>none
 |.mupd _ _ _ _=>none
 |ins=>match Bp ins with
  |some d=>some (d,(pv (AL GL st) (Ac st.sto) ins).1)
  |none=>none
def rh(GL:List (Nat×List I))(ins:Ins)(st:St):Option (Nat×Blk):=
 match ins with
 |.alloc d zs=>some (d,.cells (zs.map .i))
 |.store ox ov _=>match AL GL st ox with
  |.ref (.loc nm off)=>match Ac st.sto nm with
   |some (.cells cs)=>some (nm,.cells (setL cs off (AT (AL GL st ov))))
   |_=>none
  |_=>none
 |.mupd ox oq ov ls=>match AL GL st ox,AL GL st oq,AL GL st ov with
  |.ref (.mp nm),.i q,.i u=>match Ac st.sto nm with
   |some (.map _ es)=>some (nm,.map ls (Dp es q u))
   |_=>none
  |_,_,_=>none
 |_=>none
def B5(GL:List (Nat×List I))(g:X)(st:St):Option (Nat×D):=match AS g.1.gd st with
 |some true=>Du GL g.1.ins g.2 st
 |_=>match g.1.ins.dst with|some d=>some (d,.i .undef)|none=>none
def YV(GL:List (Nat×List I))(g:X)(st:St):Option (Nat×Blk):=match AS g.1.gd st with
 |some true=>rh GL g.1.ins st
 |_=>none
def BF(p:Option (Nat×D))(e:Nat->D)(i:Nat):D:=match p with|some (d,v)=>if d=i then v else e i|none=>e i
def CT(p:Option (Nat×Blk))(e:Nat->Option Blk)(m:Nat):Option Blk:=match p with|some (d,v)=>if d=m then some v else e m|none=>e m
theorem aD(hp:Bt P GL sn ins x st):
  (∀i,Af (Cx GL ins x st).env i=BF (Du GL ins x st) (Af st.env) i)/\∀m,Ac (Cx GL ins x st).sto m=CT (rh GL ins st) (Ac st.sto) m:=by
 cases ins
 case call d f args=>simp only[Cx,Du,rh,BF,CT];split<;>simp[St.put,Af]
 case callv d f args=>simp only[Cx,Du,rh,BF,CT];split<;>simp[St.put,Af]
 case alloc d zs=>exact⟨fun i=>rfl,fun m=>rfl⟩
 case mupd ox oq ov ls=>
  simp only[Bt]at hp;split at hp
  ·rename_i nm q u e1 e2 e3;obtain⟨_,hp⟩:=hp;split at hp
   ·rename_i ls' es hg;simp only[Cx,Du,rh,e1,e2,e3,hg,BF,CT];refine⟨fun i=>rfl,fun m=>?_⟩;simp only[St.setB,Cl,hg,Option.map_some];by_cases h:m=nm
    ·simp[h]
    ·simp[h,Ne.symm h]
   ·exact hp.elim
  ·exact hp.elim
 case store ox ov k=>
  simp only[Bt]at hp;split at hp
  ·rename_i nm off e;obtain⟨_,hp⟩:=hp;split at hp
   ·rename_i cs hg;simp only[Cx,Du,rh,e,hg,BF,CT];refine⟨fun i=>rfl,fun m=>?_⟩;simp only[St.setB,Cl,hg,Option.map_some];by_cases h:m=nm
    ·simp[h]
    ·simp[h,Ne.symm h]
   ·exact hp.elim
  ·exact hp.elim
 all_goals
  simp only[Cx,Du,rh,Bp,BF,CT];exact⟨fun i=>by first|rfl|trivial,fun m=>by first|rfl|trivial⟩
theorem EI{g:X}(hp:Bz P GL sn g st):(∀i,Af (A3 GL g st).env i=BF (B5 GL g st) (Af st.env) i)/\∀m,Ac (A3 GL g st).sto m=CT (YV GL g st) (Ac st.sto) m:=by
 unfold Bz at hp;unfold A3 B5 YV;split at hp
 ·exact hp.elim
 ·rename_i h;simp only[h];exact aD hp
 ·rename_i h;simp only[h];unfold Bg;cases g.1.ins.dst<;>exact⟨fun i=>rfl,fun m=>rfl⟩
theorem aF(hp:Bt P GL sn ins x st){d:Nat}{v:D}(h:Du GL ins x st=some (d,v)):ins.dst=some d:=by
 cases ins<;>simp only[Du,Bp,reduceCtorEq]at h<;>first
  |(cases h;rfl)
  |(split at h<;>cases h;rfl)
  |skip
theorem IQ{g:X}(hp:Bz P GL sn g st){d:Nat}{v:D}(h:B5 GL g st=some (d,v)):g.1.ins.dst=some d:=by grind[B5,Bz,aF]
theorem T2{s t:St}{l:List Nat}(h:∀i∈l,Af s.env i=Af t.env i){o:O}(ho:∀i∈EH o,i∈l):AL GL s o=AL GL t o:=by cases o<;>simp only[AL];grind[EH]
theorem aG(hl:looks ins=false)(hm:FK ins=false)(ρ:O->D)(σ σ':Nat->Option Blk):pv ρ σ ins=pv ρ σ' ins:=by cases ins<;>simp only[pv]<;>first|(simp[looks]at hl;done)|(simp[FK]at hm;done)
def FM:Ins->List O
 |.store ox _ _=>[ox]
 |.mupd ox _ _ _=>[ox]
 |ins=>Bm ins
theorem P5{o:O}(h:o∈FM ins):o∈Bm ins:=by cases ins<;>first|exact h|(simp only[FM,List.mem_singleton]at h;subst h;simp[Bm])
theorem aH(h:(Bp ins).isSome):FM ins=Bm ins:=by cases ins<;>first|rfl|simp[Bp]at h
theorem aI{s t:St}(ho:∀o∈Bm ins,AL GL s o=AL GL t o)(hs:∀o∈FM ins,∀nm∈(AL GL s o).nms,looks ins=true\/FK ins=true\/Gx ins=true\/E8 ins=true->Ac s.sto nm=Ac t.sto nm)
  (ha:∀d zs,ins=.alloc d zs->Ac s.sto d=none->Ac t.sto d=none)(hp:Bt P GL sn ins x s):Bt P GL sn ins x t/\Du GL ins x t=Du GL ins x s/\rh GL ins t=rh GL ins s:=by
 have hpv:(Bp ins).isSome->pv (AL GL s) (Ac s.sto) ins=pv (AL GL t) (Ac t.sto) ins:=fun hd=>by
  have hk:=aH hd;rw[hk]at hs;by_cases hl:looks ins=true
  ·exact P3 ho (fun o zF nm hn=>hs o zF nm hn (.inl hl))
  ·by_cases hm:FK ins=true
   ·exact P3 ho (fun o zF nm hn=>hs o zF nm hn (.inr (.inl hm)))
   ·rw[aG (by simpa using hl) (by simpa using hm) _ _ (Ac t.sto)];exact P3 ho (fun _ _ _ _=>rfl)
 cases ins
 case call d f args=>
  obtain⟨h1,y,h2,h3⟩:=hp;simp only[Bm]at ho;have e1:args.map (AL GL s)=args.map (AL GL t):=List.map_congr_left (fun o h=>ho o h);have e2:(args.all fun o=>G5 (AL GL s o))=(args.all fun o=>G5 (AL GL t o)):=by rw[Bool.eq_iff_iff,List.all_eq_true,List.all_eq_true];exact⟨fun hh p hp=>by rw[<-ho p hp];exact hh p hp,fun hh p hp=>by rw[ho p hp];exact hh p hp⟩
  exact⟨⟨by rw[<-e2];exact h1,y,h2,by rw[<-e1];exact h3⟩,rfl,rfl⟩
 case callv d f args=>
  obtain⟨h0,h1,p,y,h2,h3,h4⟩:=hp;simp only[Bm]at ho;have e1:args.map (AL GL s)=args.map (AL GL t):=List.map_congr_left (fun o h=>ho o (by simp[h]));have e0:=ho f (by simp);have e2:(args.all fun o=>G5 (AL GL s o))=(args.all fun o=>G5 (AL GL t o)):=by rw[Bool.eq_iff_iff,List.all_eq_true,List.all_eq_true];exact⟨fun hh p hp=>by rw[<-ho p (by simp[hp])];exact hh p hp,fun hh p hp=>by rw[ho p (by simp[hp])];exact hh p hp⟩
  exact⟨⟨by rw[<-e0];exact h0,by rw[<-e2];exact h1,p,y,by rw[<-e0,<-e1];exact h2,h3,h4⟩,rfl,rfl⟩
 case mupd ox oq ov ls=>
  have e1:=ho ox (by simp[Bm]);have e2:=ho oq (by simp[Bm]);have e4:=ho ov (by simp[Bm]);simp only[Bt,Du,rh]at hp⊢;rw[<-e1,<-e2,<-e4];split at hp
  ·rename_i nm q u e _ _;have e3:=hs ox (by simp[FM]) nm (by rw[e];simp[D.nms,Ref.nm]) (.inr (.inr (.inr rfl)));refine⟨by rw[<-e3];exact hp,trivial,by rw[e,‹AL GL s oq=_›,‹AL GL s ov=_›];simp only[e3]⟩
  ·exact hp.elim
 case alloc d zs=>exact⟨⟨ha d zs rfl hp.1,hp.2⟩,rfl,rfl⟩
 case store ox ov k=>
  have e1:=ho ox (by simp[Bm]);have e2:=ho ov (by simp[Bm]);simp only[Bt,Du,rh]at hp⊢;rw[<-e1,<-e2];split at hp
  ·rename_i nm off e;have e3:=hs ox (by simp[FM]) nm (by rw[e];simp[D.nms,Ref.nm]) (.inr (.inr (.inl rfl)));simp only[e];exact⟨by rw[<-e3];exact hp,trivial,by rw[e3]⟩
  ·exact hp.elim
 all_goals
  obtain⟨h1,h2,h3⟩:=hp;have e:=hpv h1;refine⟨⟨h1,by rw[<-e];exact h2,fun hl o zF nm hn=>h3 hl o zF nm (by rw[ho o zF];exact hn)⟩,?_,rfl⟩;simp only[Du];rw[<-e]
theorem aJ{a b:GI}(h:FL a b=true):(∀d,a.ins.dst=some d->d∉Co b/\b.ins.dst≠some d)/\(∀d,b.ins.dst=some d->d∉Co a)/\¬(Gx a.ins=true/\Gx b.ins=true)/\
  ¬(E8 a.ins=true/\(E8 b.ins=true\/FK b.ins=true))/\¬(E8 b.ins=true/\FK a.ins=true):=by
 unfold FL at h;simp only[Bool.and_eq_true,Bool.not_eq_true',Bool.and_eq_false_imp,Bool.or_eq_false_iff]at h;obtain⟨⟨⟨⟨h1,h2⟩,h3⟩,h4⟩,h5⟩:=h;refine⟨fun d hd=>?_,fun d hd=>?_,fun hh=>by simp[hh.1,hh.2]at h3,fun hh=>by have:=h4 hh.1;rcases hh.2 with q|q<;>simp[q]at this,fun hh=>by have:=h5 hh.1;simp[hh.2]at this⟩
 ·rw[hd]at h1;simp only[Bool.and_eq_true,Bool.not_eq_true']at h1;refine⟨fun hm=>?_,fun e=>?_⟩
  ·have:=h1.1;rw[List.contains_iff_mem.2 hm]at this;cases this
  ·have:=h1.2;rw[e]at this;simp at this
 ·rw[hd]at h2;intro hm;simp only at h2;rw[List.contains_iff_mem.2 hm]at h2;cases h2
theorem NT{g:X}{s t:St}(he:∀i∈Co g.1,Af s.env i=Af t.env i)
  (hs:∀o∈FM g.1.ins,∀nm∈(AL GL s o).nms,Bt P GL sn g.1.ins g.2 s->looks g.1.ins=true\/FK g.1.ins=true\/Gx g.1.ins=true\/E8 g.1.ins=true->Ac s.sto nm=Ac t.sto nm)
  (ha:∀d zs,g.1.ins=.alloc d zs->Bt P GL sn g.1.ins g.2 s->Ac s.sto d=none->Ac t.sto d=none)(hp:Bz P GL sn g s):Bz P GL sn g t/\B5 GL g t=B5 GL g s/\YV GL g t=YV GL g s:=by
 have ki:AS g.1.gd s=AS g.1.gd t:=by grind[AS,Co]
 have ho:∀o∈Bm g.1.ins,AL GL s o=AL GL t o:=fun o zF=>T2 he (fun i hi=>by unfold Co;exact List.mem_append.2 (.inr (List.mem_flatMap.2 ⟨o,zF,hi⟩)))
 unfold Bz at hp;unfold Bz B5 YV;rw[<-ki];split at hp
 ·exact hp.elim
 ·rename_i h;simp only[h];exact aI ho (fun o zF nm hn hl=>hs o zF nm hn hp hl) (fun d zs e=>ha d zs e hp) hp
 ·rename_i h;simp only[h];exact⟨trivial,trivial,trivial⟩
def Cc(b:Option Blk):Bool:=match b with|some (.map _ _)=>true|_=>false
theorem aK(hp:Bt P GL sn ins x st){nm:Nat}{b:Blk}(h:rh GL ins st=some (nm,b)):
  (∃zs,ins=.alloc nm zs/\Ac st.sto nm=none)\/(Gx ins=true/\nm∈sn/\(Ac st.sto nm).isSome/\Cc (Ac st.sto nm)=false/\Cc (some b)=false)\/(E8 ins=true/\(Ac st.sto nm).isSome/\Cc (Ac st.sto nm)=true/\Cc (some b)=true):=by
 cases ins<;>simp only[rh,reduceCtorEq]at h
 case alloc d zs=>cases h;exact .inl ⟨zs,rfl,hp.1⟩
 case mupd ox oq ov ls=>
  simp only[Bt]at hp;split at hp
  ·rename_i nm' q u e1 e2 e3;simp only[e1,e2,e3]at h;obtain⟨_,hp⟩:=hp;split at hp
   ·rename_i ls' es hg;simp only[hg]at h;cases h;exact .inr (.inr ⟨rfl,by simp[hg],by simp[hg,Cc],rfl⟩)
   ·exact hp.elim
  ·exact hp.elim
 case store ox ov k=>
  simp only[Bt]at hp;split at hp
  ·rename_i nm' off e;simp only[e]at h;obtain⟨h1,hp⟩:=hp;split at hp
   ·rename_i cs hg;simp only[hg]at h;cases h;exact .inr (.inl ⟨rfl,h1,by simp[hg],by simp[hg,Cc],rfl⟩)
   ·exact hp.elim
  ·exact hp.elim
theorem JL{g:X}(hp:Bz P GL sn g st){nm:Nat}{b:Blk}(h:YV GL g st=some (nm,b)):
  (∃zs,g.1.ins=.alloc nm zs/\Ac st.sto nm=none)\/(Gx g.1.ins=true/\nm∈sn/\(Ac st.sto nm).isSome/\Cc (Ac st.sto nm)=false/\Cc (some b)=false)\/(E8 g.1.ins=true/\(Ac st.sto nm).isSome/\Cc (Ac st.sto nm)=true/\Cc (some b)=true):=by
 unfold YV at h;unfold Bz at hp;split at hp
 ·exact hp.elim
 ·rename_i e;simp only[e]at h;exact aK hp h
 ·rename_i e;simp only[e]at h;cases h
theorem NU(hc:Hx st){o:O}{nm:Nat}(h:nm∈(AL GL st o).nms):names st.sto nm:=by cases o<;>simp only[AL]at h<;>first|exact hc.1 _ _ h|simp[D.nms]at h
theorem T3(hp:Bt P GL sn ins x st)(hl:looks ins=true){o:O}(ho:o∈Bm ins){nm:Nat}(hn:nm∈(AL GL st o).nms):nm∉sn:=by cases ins<;>simp[looks]at hl<;>exact hp.2.2 rfl o ho nm hn
theorem T4(hp:Bt P GL sn ins x st)(hl:looks ins=true){o:O}(ho:o∈Bm ins){nm:Nat}(hn:nm∈(AL GL st o).nms):Cc (Ac st.sto nm)=false:=by
 cases ins<;>simp[looks]at hl<;>simp only[Bt,Bp,pv]at hp<;>obtain⟨-,hp,-⟩:=hp<;>simp only[Bm,List.mem_cons,List.not_mem_nil,or_false]at ho
 case load=>
  subst ho;split at hp
  ·rename_i e;simp[e,D.nms]at hn
  ·rename_i e;split at hp;·rename_i hg;simp[e,D.nms,Ref.nm]at hn;subst hn;simp[hg,Cc]
   ·exact hp.elim
  ·rename_i e;split at hp;·rename_i hg;simp[e,D.nms,Ref.nm]at hn;subst hn;simp[hg,Cc]
   ·exact hp.elim
  ·exact hp.elim
 case ia=>
  split at hp
  ·rename_i e1 e2;rcases ho with rfl|rfl
   ·simp[e1,D.nms]at hn
   ·simp[e2,D.nms]at hn
  ·rename_i e1 e2;split at hp
   ·rename_i hg;rcases ho with rfl|rfl
    ·simp[e1,D.nms,Ref.nm]at hn;subst hn;simp[hg,Cc]
    ·simp[e2,D.nms]at hn
   ·exact hp.elim
  ·exact hp.elim
 case slc d x lo hi k=>
  have int:∀{V:D} {z:Int},(YK (some V)=some z\/∃l,YQ l (some V)=some z)->V.nms=[]:=fun{V z} h=>by rcases h with h|⟨l,h⟩<;>cases V<;>simp_all[YK,YQ,D.nms]
  have hlh:∀{l:Int} {z z':Int},YK (lo.map (AL GL st))=some z->YQ l (hi.map (AL GL st))=some z'->o∈lo.toList++hi.toList->False:=fun{l z z'} h1 h2 hm=>by
   rcases List.mem_append.1 hm with hm|hm
   ·cases lo with
    |none=>simp at hm
    |some y=>simp at hm;subst hm;rw[int (.inl h1)]at hn;simp at hn
   ·cases hi with
    |none=>simp at hm
    |some y=>simp at hm;subst hm;rw[int (.inr ⟨_,h2⟩)]at hn;simp at hn
  split at hp
  ·rename_i e;split at hp
   ·rename_i h1 h2;rcases ho with rfl|ho
    ·simp[e,D.nms]at hn
    ·exact(hlh h1 h2 (List.mem_append.2 (by simpa using ho))).elim
   ·exact hp.elim
  ·rename_i e;split at hp
   ·rename_i hg;split at hp
    ·rename_i h1 h2;rcases ho with rfl|ho
     ·simp[e,D.nms,Ref.nm]at hn;subst hn;simp[hg,Cc]
     ·exact(hlh h1 h2 (List.mem_append.2 (by simpa using ho))).elim
    ·exact hp.elim
   ·rename_i hg;split at hp
    ·rename_i h1 h2;rcases ho with rfl|ho
     ·simp[e,D.nms,Ref.nm]at hn;subst hn;simp[hg,Cc]
     ·exact(hlh h1 h2 (List.mem_append.2 (by simpa using ho))).elim
    ·exact hp.elim
   ·exact hp.elim
  ·exact hp.elim
theorem T5(hp:Bt P GL sn ins x st)(hl:FK ins=true){o:O}(ho:o∈Bm ins){nm:Nat}(hn:nm∈(AL GL st o).nms):Cc (Ac st.sto nm)=true:=by
 cases ins<;>simp[FK]at hl<;>simp only[Bt,Bp,pv]at hp<;>obtain⟨-,hp,-⟩:=hp<;>simp only[Bm,List.mem_cons,List.not_mem_nil,or_false]at ho
 case lookup=>
  split at hp
  ·rename_i e0;rcases ho with rfl|rfl
   ·split at hp
    ·rename_i e;simp[e,D.nms]at hn
    ·rename_i e;simp[e,D.nms]at hn
    ·rename_i e;split at hp
     ·rename_i hg;simp[e,D.nms,Ref.nm]at hn;subst hn;simp[hg,Cc]
     ·exact hp.elim
    ·exact hp.elim
   ·simp[e0,D.nms]at hn
  ·exact hp.elim
 grind[D.nms,Ref.nm,Cc]
theorem T6(hp:Bt P GL sn ins x st)(hl:Gx ins=true){nm:Nat}{o:O}(ho:o∈FM ins)(hn:nm∈(AL GL st o).nms):Cc (Ac st.sto nm)=false:=by cases ins<;>simp[Gx]at hl;grind[FM,Bt,D.nms,Ref.nm,Cc]
theorem T7(hp:Bt P GL sn ins x st)(hl:E8 ins=true){nm:Nat}{o:O}(ho:o∈FM ins)(hn:nm∈(AL GL st o).nms):Cc (Ac st.sto nm)=true:=by cases ins<;>simp[E8]at hl;grind[FM,Bt,D.nms,Ref.nm,Cc]
theorem swap{a b:X}(hc:Hx st)(hi:FL a.1 b.1=true)(ha:Bz P GL sn a st)(hb:Bz P GL sn b (A3 GL a st)):
  Bz P GL sn b st/\Bz P GL sn a (A3 GL b st)/\LI (A3 GL a (A3 GL b st)) (A3 GL b (A3 GL a st)):=by
 obtain⟨i1,i2,i3,i4,i5⟩:=aJ hi;obtain⟨ea,sa⟩:=EI ha;have hEa:∀i,a.1.ins.dst≠some i->Af (A3 GL a st).env i=Af st.env i:=fun i jh=>by rw[ea];unfold BF;grind[IQ]
 have hSa:∀m,(∀bl,YV GL a st≠some (m,bl))->Ac (A3 GL a st).sto m=Ac st.sto m:=fun m jh=>by rw[sa];unfold CT;grind
 have hmono:∀m,(Ac st.sto m).isSome->(Ac (A3 GL a st).sto m).isSome:=fun m hm=>by grind[CT]
 have he1:∀i∈Co b.1,Af (A3 GL a st).env i=Af st.env i:=fun i hi=>hEa i (fun e=>(i1 i e).1 hi)
 have ho1:∀o∈Bm b.1.ins,AL GL (A3 GL a st) o=AL GL st o:=fun o zF=>T2 he1 (fun i hi=>by unfold Co;exact List.mem_append.2 (.inr (List.mem_flatMap.2 ⟨o,zF,hi⟩)))
 obtain⟨b1,b2,b3⟩:=NT (t:=st) he1 (fun o zF nm hn xa hl=>by
  refine hSa nm (fun bl hw=>?_);have wi:=P5 zF;rw[ho1 o wi]at hn;have vg:Cc (Ac (A3 GL a st).sto nm)=Cc (some bl):=by grind[CT]
  rcases JL ha hw with⟨zs,_,hz⟩|⟨jk,hsn,_,_,hk⟩|⟨jk,_,_,hk⟩
  ·have:=NU (GL:=GL) hc hn;simp[names,hz]at this
  ·rw[hk]at vg;rcases hl with hl|hl|hl|hl
   ·exact T3 xa hl wi (by rw[ho1 o wi];exact hn) hsn
   ·rw[T5 xa hl wi (by rw[ho1 o wi];exact hn)]at vg;cases vg
   ·exact i3 ⟨jk,hl⟩
   ·rw[T7 xa hl zF (by rw[ho1 o wi];exact hn)]at vg;cases vg
  ·rw[hk]at vg;rcases hl with hl|hl|hl|hl
   ·rw[T4 xa hl wi (by rw[ho1 o wi];exact hn)]at vg;cases vg
   ·exact i4 ⟨jk,.inr hl⟩
   ·rw[T6 xa hl zF (by rw[ho1 o wi];exact hn)]at vg;cases vg
   ·exact i4 ⟨jk,.inl hl⟩) (fun d zs e xa hn=>by
  cases hx:Ac st.sto d with
  |none=>rfl
  |some y=>have:=hmono d (by simp[hx]);rw[hn]at this;cases this) hb
 obtain⟨eb,sb⟩:=EI b1;have hEb:∀i,b.1.ins.dst≠some i->Af (A3 GL b st).env i=Af st.env i:=fun i jh=>by rw[eb];unfold BF;grind[IQ]
 have hSb:∀m,(∀bl,YV GL b st≠some (m,bl))->Ac (A3 GL b st).sto m=Ac st.sto m:=fun m jh=>by rw[sb];unfold CT;grind
 have he2:∀i∈Co a.1,Af st.env i=Af (A3 GL b st).env i:=fun i hi=>(hEb i (fun e=>i2 i e hi)).symm
 obtain⟨a1,a2,a3⟩:=NT (t:=A3 GL b st) he2 (fun o zF nm hn zU hl=>by
  refine(hSb nm (fun bl hw=>?_)).symm;have wi:=P5 zF;rcases JL b1 hw with⟨zs,_,hz⟩|⟨jk,hsn,_,hk,_⟩|⟨jk,_,hk,_⟩
  ·have:=NU (GL:=GL) hc hn;simp[names,hz]at this
  ·rcases hl with hl|hl|hl|hl
   ·exact T3 zU hl wi hn hsn
   ·rw[T5 zU hl wi hn]at hk;cases hk
   ·exact i3 ⟨hl,jk⟩
   ·rw[T7 zU hl zF hn]at hk;cases hk
  ·rcases hl with hl|hl|hl|hl
   ·rw[T4 zU hl wi hn]at hk;cases hk
   ·exact i5 ⟨jk,hl⟩
   ·rw[T6 zU hl zF hn]at hk;cases hk
   ·exact i4 ⟨hl,.inl jk⟩) (fun d zs e zU hn=>by
  rw[hSb d (fun bl hw=>?_)]
  ·exact hn
  ·rcases JL b1 hw with⟨zs',e',_⟩|⟨_,_,z8,_⟩|⟨_,z8,_⟩
   ·exact(i1 d (by rw[e];rfl)).2 (by rw[e'];rfl)
   ·rw[hn]at z8;cases z8
   ·rw[hn]at z8;cases z8) ha
 refine⟨b1,a1,?_⟩;obtain⟨ea',sa'⟩:=EI a1;obtain⟨eb',sb'⟩:=EI hb;constructor
 ·intro i;rw[ea',eb',a2,<-b2];unfold BF;cases zU:B5 GL a st with
  |none=>
   simp only;cases xa:B5 GL b st with
   |none=>simp only;rw[eb,ea];simp[BF,zU,xa]
   |some q=>simp only;rw[eb];simp only[BF,xa];split;rfl;rw[ea];simp[BF,zU]
  |some p=>
   obtain⟨d,v⟩:=p;have hd:=IQ ha zU;cases xa:B5 GL b st with
   |none=>simp only;rw[eb,ea];simp[BF,zU,xa]
   |some q=>
    obtain⟨d',v'⟩:=q;have hd':=IQ b1 xa;have jh:d'≠d:=fun e=>(i1 d hd).2 (by rw[hd',e])
    simp only;rw[eb,ea];simp only[BF,zU,xa];by_cases h1:d=i
    ·by_cases h2:d'=i
     ·exact absurd (h2.trans h1.symm) jh
     ·rw[if_pos h1,if_neg h2,if_pos h1]
    ·rw[if_neg h1];by_cases h2:d'=i
     ·rw[if_pos h2,if_pos h2]
     ·rw[if_neg h2,if_neg h2,if_neg h1]
 ·intro m;rw[sa',sb',a3,<-b3];unfold CT;cases zU:YV GL a st with
  |none=>
   simp only;cases xa:YV GL b st with
   |none=>simp only;rw[sb,sa];simp[CT,zU,xa]
   |some q=>simp only;rw[sb];simp only[CT,xa];split;rfl;rw[sa];simp[CT,zU]
  |some p=>
   obtain⟨d,v⟩:=p;cases xa:YV GL b st with
   |none=>simp only;rw[sb,sa];simp[CT,zU,xa]
   |some q=>
    obtain⟨d',v'⟩:=q;have jh:d'≠d:=fun e=>by
     subst e;rcases JL ha zU with⟨zs,e1,hz⟩|⟨jk,_,hsm,hk,_⟩|⟨jk,hsm,hk,_⟩
     ·rcases JL b1 xa with⟨zs',e2,_⟩|⟨_,_,hsm,_⟩|⟨_,hsm,_⟩
      ·exact(i1 d' (by rw[e1];rfl)).2 (by rw[e2];rfl)
      all_goals grind
     ·rcases JL b1 xa with⟨zs',e2,hz⟩|⟨hst',_,_,_⟩|⟨_,_,jn,_⟩
      all_goals grind
     ·rcases JL b1 xa with⟨zs',e2,hz⟩|⟨_,_,_,jn,_⟩|⟨hst',_,_,_⟩
      all_goals grind
    simp only;rw[sb,sa];simp only[CT,zU,xa];by_cases h1:d=m
    ·by_cases h2:d'=m
     ·exact absurd (h2.trans h1.symm) jh
     ·rw[if_pos h1,if_neg h2,if_pos h1]
    ·rw[if_neg h1];by_cases h2:d'=m
     ·rw[if_pos h2,if_pos h2]
     ·rw[if_neg h2,if_neg h2,if_neg h1]
end
end Go.Dl
