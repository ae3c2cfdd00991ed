/-
  Lemmas, no statement.
-/
import Derived.Test.YtojgbkiejjingaaGreatDoorK26
set_option linter.all false
namespace Go.Dl
open Go Go.RowKit
variable{ops:Array Oper}{K:Exit->St->Prop}{gs:List GI}{ro:Option Nat}{listed:Array Bool}{sn mg:List Nat}{w:World}{i p:Nat}{α:Type}{anc:List (List Nat)}{T:St->Prop}
theorem bo{F:Fence}{j:Nat}{P:Program}{Q:Exit->Act->World->Prop}{a:Act}{c:Code}(I:α->Act->World->Prop)(m:α->Nat)(x₀:α)(h₀:I x₀ a w)
  (round:∀x a w,I x a w->c.wpIn F j P (Exit.then (fun a' w'=>∃x',I x' a' w'/\m x'<m x) Q) a w):(Code.loop c).wpIn F j P Q a w:=by
 intro b k cs hro hb hr;have key:∀n x a w,m x=n->I x a w->∃e a' w',Q e a' w'/\ArrivesIn (Machine.fenced P F) P (lone (b.atR a (.code c::.inLoop c::k)) cs w) b k cs e a' w':=by
  intro n
  induction n using Nat.strongRecOn with
  |_ n ih=>
   intro x a w hn hI;obtain⟨e,a₁,w₁,hq,harr⟩:=round x a w hI b (.inLoop c::k) cs hro hb hr;cases e with
   |normal=>obtain⟨x',hI₁,jl⟩:=hq;obtain⟨e₂,a₂,w₂,hq₂,harr₂⟩:=ih (m x') (hn▸jl) x' a₁ w₁ rfl hI₁;exact⟨e₂,a₂,w₂,hq₂,.of_steps (StepsIn.trans harr (.one (fenced_calm hb hr rfl) stepR_inLoop)) harr₂⟩
   |exit id=>exact⟨_,a₁,w₁,hq,.pass (x:=.inLoop c) rfl (fun _ _=>.inl (by simp)) harr⟩
   |goto l=>exact⟨_,a₁,w₁,hq,.pass (x:=.inLoop c) rfl (fun _ _=>.inl (by simp)) harr⟩
   |ret=>exact⟨_,a₁,w₁,hq,.pass (x:=.inLoop c) rfl (fun _ _=>.inl (by simp)) harr⟩
   |panic ch=>exact⟨_,a₁,w₁,hq,.pass (x:=.inLoop c) rfl (fun _ _=>.inl (by simp)) harr⟩
   |outgrown=>exact⟨_,a₁,w₁,hq,.pass (x:=.inLoop c) rfl (fun _ _=>.inl (by simp)) harr⟩
 obtain⟨e,a',w',hq,harr⟩:=key _ x₀ a w rfl h₀;exact⟨e,a',w',hq,.of_steps (.one (fenced_calm hb hr rfl) stepR_loop) harr⟩
section
variable {P:Program}{GL:List (Nat×List I)}{n:Nat}{S:Sh}{mu:List Nat}{rt:List (Nat×Nat)}
theorem D1{P:Program}{r:Option Nat}{ops:Array Oper}{Q Q':Exit->Act->World->Prop}:∀{fuel:Nat} {listed:Array Bool} {a:Act} {w:World},wpAnyIn (FR r) 0 P .any ops Q fuel listed a w->(∀e a w,Q e a w->Q' e a w)->wpAnyIn (FR r) 0 P .any ops Q' fuel listed a w
 |0,listed,a,w,h,hq=>⟨h.1,hq _ _ _ h.2⟩
 |fuel+1,listed,a,w,h,hq=>⟨fun hn=>hq _ _ _ (h.1 hn),fun i hi=>by
   have:=h.2 i hi;unfold wpOpIn at this⊢;split
   ·rename_i ho;simp only[ho]at this;exact D1 this hq
   ·rename_i o ho;simp only[ho]at this;split
    ·rename_i hw;rw[if_pos hw]at this;exact KO this (fun a w hh=>D1 hh hq) hq
    ·rename_i hw;rw[if_neg hw]at this;exact⟨this.1,D1 this.2 hq⟩⟩
theorem N8{S':Sh}{M M':Mem}{w':World}(hg:Grow S S' w')(hm:MExt S.p M M')(hb:Keeps S.p w w')(e:Exit)(a'':Act)(w'':World)
  (k:AZ GL n S' M' w' K e a'' w''):AZ GL n S M w K e a'' w'':=by
 obtain⟨st'',hk,hr⟩:=k;exact⟨st'',hk,hr.trans hg hm hb⟩
theorem Fd{M M':Mem}{μ':Place}{w':World}{st':St}{a':Act}(_h:Rel GL n S M' μ' st' a' w')(hm:MExt S.p M M')(hb:Keeps S.p w w')(e:Exit)(a'':Act)(w'':World)
  (k:AZ GL n S M' w' K e a'' w''):AZ GL n S M w K e a'' w'':=N8 (Grow.refl S _) hm hb e a'' w'' k
theorem bp:∀(l:List Oper) (gs:List GI),l.mapM (Dv P GL n mu ops)=some gs->gs.length=l.length:=by
 intro l
 induction l with
 |nil=>intro gs h;simp at h;subst h;rfl
 |cons o l ih=>
  intro gs h;rw[List.mapM_cons]at h;cases h1:Dv P GL n mu ops o with
  |none=>simp[h1]at h
  |some g=>
   cases h2:l.mapM (Dv P GL n mu ops)with
   |none=>simp[h1,h2]at h
   |some gs'=>simp[h1,h2]at h;subst h;simp[ih gs' h2]
theorem GB(vh:C4 P GL n mu ops=some gs):gs.length=ops.size:=by rw[bp _ _ vh];simp
theorem JS(vh:C4 P GL n mu ops=some gs):∀i (hi:i<ops.size),∃g,gs[i]? =some g/\Dv P GL n mu ops ops[i]=some g:=by
 have:∀(l:List Oper) (gs:List GI),l.mapM (Dv P GL n mu ops)=some gs->∀i (hi:i<l.length),∃g,gs[i]? =some g/\Dv P GL n mu ops l[i]=some g:=by
  intro l
  induction l with
  |nil=>intro gs h i hi;simp at hi
  |cons o l ih=>
   intro gs h i hi;rw[List.mapM_cons]at h;cases h1:Dv P GL n mu ops o with
   |none=>simp[h1]at h
   |some g=>
    cases h2:l.mapM (Dv P GL n mu ops)with
    |none=>simp[h1,h2]at h
    |some gs'=>
     simp[h1,h2]at h;subst h;cases i with
     |zero=>exact⟨g,rfl,h1⟩
     |succ i=>obtain⟨g',e1,e2⟩:=ih gs' h2 i (by simpa using hi);exact⟨g',by simpa using e1,by simpa using e2⟩
 intro i hi;obtain⟨g,e1,e2⟩:=this _ _ vh i (by simpa using hi);exact⟨g,e1,by simpa using e2⟩
def GC(ops:Array Oper)(listed:Array Bool):Prop:=∀k (hk:k<ops.size),listed.getD k false=true->∀e∈ops[k].after,Region.binds .any e=true->listed.getD e.on false=true
theorem getD_set(listed:Array Bool)(i q:Nat)(hi:i<listed.size):(listed.setIfInBounds i true).getD q false=(q==i||listed.getD q false):=by
 simp only[Array.getD_eq_getD_getElem?,Array.getElem?_setIfInBounds];by_cases e:i=q
 ·subst e;simp[hi]
 ·simp[e,Ne.symm e]
theorem GC.set(h:GC ops listed)(hi:i<listed.size)(hd:∀hi:i<ops.size,∀e∈ops[i].after,Region.binds .any e=true->listed.getD e.on false=true):GC ops (listed.setIfInBounds i true):=by
 intro k hk hl e he hb;rw[getD_set _ _ _ hi]at hl⊢;rw[Bool.or_eq_true]at hl⊢;rcases hl with hl|hl
 ·have:=beq_iff_eq.1 hl;subst this;exact .inr (hd hk e he hb)
 ·exact .inr (h k hk hl e he hb)
theorem KR(h:Fa ops.toList anc=true):∀i (hi:i<ops.size),∀e∈ops[i].after,Region.binds .any e=true->e.on<i:=fun i hi e he hb=>by unfold Fa at h;rw[List.all_eq_true]at h;have:=h i (by simpa using hi);simp only[Array.getElem?_toList,Array.getElem?_eq_getElem hi,Bool.and_eq_true,Array.all_eq_true_iff_forall_mem]at this;have:=this.1 e he;simpa[hb]using this
theorem JT(h:Fa ops.toList anc=true)(kq:GC ops listed):∀i (hi:i<ops.size),(∀e∈ops[i].after,Region.binds .any e=true->listed.getD e.on false=true)->
  ∀j∈anc.getD i [],listed.getD j false=true:=by
 intro i
 induction i using Nat.strongRecOn with
 |_ i ih=>
  intro hi hd j hj;have h0:=h;unfold Fa at h;rw[List.all_eq_true]at h;have:=h i (by simpa using hi);simp only[Array.getElem?_toList,Array.getElem?_eq_getElem hi,Bool.and_eq_true,List.all_eq_true]at this;have:=this.2 j hj;rw[<-Array.any_toList,List.any_eq_true]at this;obtain⟨e,he,hb⟩:=this;have he:=Array.mem_toList_iff.1 he;simp only[Bool.and_eq_true,Bool.or_eq_true,beq_iff_eq]at hb;have hl:=hd e he hb.1;rcases hb.2 with e1|e1
  ·rw[<-e1];exact hl
  ·have jl:=KR h0 i hi e he hb.1;exact ih e.on jl (by omega) (kq e.on (by omega) hl) j (List.contains_iff_mem.1 e1)
theorem GD(h:i∈Region.ready .any ops listed):i<ops.size/\listed.getD i true=false/\∃o,ops[i]? =some o/\∀e∈o.after,Region.binds .any e=true->listed.getD e.on false=true:=by
 simp only[Region.ready,List.mem_filter,List.mem_range,Bool.and_eq_true,Bool.not_eq_true']at h;obtain⟨h1,h2,h3⟩:=h;refine⟨h1,h2,?_⟩;cases ho:ops[i]? with
 |none=>simp[ho]at h3
 |some o=>simp only[ho,Option.map_some,Option.getD_some]at h3;refine⟨o,rfl,fun e he hb=>?_⟩;rw[Array.all_eq_true_iff_forall_mem]at h3;have:=h3 e he;simpa[hb]using this
theorem bq(vh:C4 P GL n mg ops=some gs)(kc:FO ops.toList gs=true)(xs:List X)(wk:xs.map (·.1)=gs):
  ∀(fuel:Nat) (listed:Array Bool) (M:Mem) (μ:Place) (st:St) (a:Act) (w:World),listed.size=ops.size->GC ops listed->((List.range ops.size).filter fun i=>!listed.getD i true).length=fuel->Rel GL n S M μ st a w->
   C2 P GL sn (((List.range ops.size).filter fun i=>!listed.getD i true).map fun i=>xs.getD i (⟨none,.mov 0 (.t 0)⟩,none)) st (fun u=>∃v,K .normal v/\LI v u)->wpAnyIn (FR ro) 0 P .any ops (AZ GL n S M w K) fuel listed a w:=by
 have je:=GB vh;have jv:=JS vh;have vk:xs.length=ops.size:=by have:=congrArg List.length wk;simpa[je]using this
 have hx:∀i (hi:i<ops.size) g,gs[i]? =some g->(xs.getD i (⟨none,.mov 0 (.t 0)⟩,none)).1=g:=fun i hi g hg=>by
  have h1:(xs.map (·.1))[i]? =(gs)[i]? :=by rw[wk]
  rw[List.getElem?_map,hg,List.getElem?_eq_getElem (by omega)]at h1;simp only[Option.map_some,Option.some.injEq]at h1;rw[List.getD_eq_getElem?_getD,List.getElem?_eq_getElem (by omega)];exact h1
 obtain⟨qw,ww⟩:Fa ops.toList (AU ops.toList)=true/\_:=by unfold FO at kc;exact Bool.and_eq_true_iff.1 kc
 generalize AU ops.toList=anc at qw ww;have k9:=KR qw;have wx:∀i (hi:i<ops.size) g,gs[i]? =some g->∀j,j<i->j∈anc.getD i []\/∃h,gs[j]? =some h/\FL h g=true:=fun i hi g hg j hj=>by
  rw[List.all_eq_true]at ww;have:=ww i (by simpa using hi);simp only[hg,List.all_eq_true,List.mem_range]at this;have:=this j hj;rw[Bool.or_eq_true]at this;rcases this with h|h
  ·exact .inl (List.contains_iff_mem.1 h)
  ·cases jt:gs[j]? with
   |none=>simp[jt]at h
   |some h'=>simp only[jt]at h;exact .inr ⟨h',rfl,h⟩
 intro fuel
 induction fuel with
 |zero=>
  intro listed M μ st a w js kq hf h hr;have k8:=List.eq_nil_of_length_eq_zero hf;rw[k8]at hr;obtain⟨v,hk,hs⟩:=hr;refine⟨?_,v,hk,CU.of (h.sim hs.symm)⟩;rw[List.eq_nil_iff_forall_not_mem];intro i hi;obtain⟨h1,h2,_⟩:=GD hi;have:i∈(List.range ops.size).filter fun i=>!listed.getD i true:=by simp[h1];simpa using h2
  rw[k8]at this;cases this
 |succ fuel ih=>
  intro listed M μ st a w js kq hf h hr;generalize hT:((List.range ops.size).filter fun i=>!listed.getD i true)=T at hf hr;have jq:T.Pairwise (·<·):=by rw[<-hT];exact List.Pairwise.filter _ (List.pairwise_lt_range)
  have kh:∀i,i∈T↔i<ops.size/\listed.getD i true=false:=fun i=>by rw[<-hT];simp
  refine⟨fun k8=>?_,fun i hi=>?_⟩
  ·exfalso;cases T with
   |nil=>simp at hf
   |cons i0 T'=>
    have h0:=(kh i0).1 (by simp);obtain⟨g,hg,_⟩:=jv i0 h0.1;have:i0∈Region.ready .any ops listed:=by
     simp only[Region.ready,List.mem_filter,List.mem_range,Bool.and_eq_true,Bool.not_eq_true'];refine⟨h0.1,h0.2,?_⟩;simp only[Array.getElem?_eq_getElem h0.1,Option.map_some,Option.getD_some,Array.all_eq_true_iff_forall_mem];intro e he;cases hb:Region.binds .any e with
     |false=>rfl
     |true=>
      have jl:=k9 i0 h0.1 e he hb;simp only[Bool.not_true,Bool.false_or];cases hl:listed.getD e.on false with
      |true=>rfl
      |false=>
       exfalso;have ji:e.on<listed.size:=by omega
       have jr:e.on∈i0::T':=(kh e.on).2 ⟨by omega,by simpa[ji]using hl⟩;rcases List.mem_cons.1 jr with e1|e1
       ·omega
       ·have:=(List.pairwise_cons.1 jq).1 _ e1;omega
    rw[k8]at this;cases this
  ·obtain⟨vu,jz,o,ho,v7⟩:=GD hi;obtain⟨g,hg,xc⟩:=jv i vu;have zK:ops[i]=o:=by rw[Array.getElem?_eq_getElem vu]at ho;exact Option.some.inj ho
   obtain⟨l,r,zV⟩:=List.append_of_mem ((kh i).2 ⟨vu,jz⟩);rw[zV]at hr jq;have qi:∀x∈l,x<i:=fun x hx=>(List.pairwise_append.1 jq).2.2 x hx i (by simp)
   rw[List.map_append,List.map_cons]at hr;have hind:∀x∈l.map (fun i=>xs.getD i (⟨none,.mov 0 (.t 0)⟩,none)),FL x.1 (xs.getD i (⟨none,.mov 0 (.t 0)⟩,none)).1=true:=by
    intro x hx';obtain⟨j,hj,rfl⟩:=List.mem_map.1 hx';have hji:=qi j hj;have hjT:=(kh j).1 (by rw[zV];simp[hj]);rcases wx i vu g hg j hji with vl|⟨hh,h1,h2⟩
    ·exfalso;have:=JT qw kq i vu (by rw[zK];exact v7) j vl;have hjs:j<listed.size:=by omega
     have h3:=hjT.2;simp only[Array.getD_eq_getD_getElem?,Array.getElem?_eq_getElem hjs,Option.getD_some]at this h3;rw[this]at h3;cases h3
    ·rw[hx i vu g hg,hx j (by omega) hh h1];exact h2
   obtain⟨hp,jg⟩:=NV _ _ _ st _ h.closed hind hr;have zL:((List.range ops.size).filter fun q=>!(listed.setIfInBounds i true).getD q true)=l++r:=by
    have:((List.range ops.size).filter fun q=>!(listed.setIfInBounds i true).getD q true)=T.filter (fun q=>q !=i):=by
     rw[<-hT,List.filter_filter];apply List.filter_congr;intro q hq;simp only[List.mem_range]at hq;have hqs:q<listed.size:=by omega
     simp only[Array.getD_eq_getD_getElem?,Array.getElem?_setIfInBounds];by_cases e:i=q
     ·subst e;simp[hqs]
     ·simp[e,Ne.symm e]
    rw[this,zV,List.filter_append,List.filter_cons];have n1:l.filter (fun q=>q !=i)=l:=List.filter_eq_self.2 (fun q hq=>by have:=qi q hq;simp;omega);have n2:r.filter (fun q=>q !=i)=r:=List.filter_eq_self.2 (fun q hq=>by have:=(List.pairwise_cons.1 (List.pairwise_append.1 jq).2.1).1 q hq;simp;omega)
    rw[n1,n2];simp
   have wg:((List.range ops.size).filter fun q=>!(listed.setIfInBounds i true).getD q true).length=fuel:=by rw[zL];have:T.length=fuel+1:=hf;rw[zV]at this;simp at this⊢;omega
   have next:∀(st':St) (M':Mem) (μ':Place) (a':Act) (w':World),Rel GL n S M' μ' st' a' w'->MExt S M M'->Keeps S w w'->st'=A3 GL (xs.getD i (⟨none,.mov 0 (.t 0)⟩,none)) st->
     wpAnyIn (FR ro) 0 P .any ops (AZ GL n S M w K) fuel (listed.setIfInBounds i true) a' w':=fun st' M' μ' a' w' h' hm hb e=>by
    subst e;have:=ih (listed.setIfInBounds i true) M' μ' _ a' w' (by simpa using js) (kq.set (by omega) (fun _=>by rw[zK];exact v7)) wg h' (by
     rw[zL,List.map_append];refine Ek _ ?_ jg;rintro u ⟨v,⟨v',hk,hs⟩,wu⟩;exact⟨v',hk,hs.trans wu⟩)
    refine D1 this (fun e a'' w'' k=>Fd h' hm hb e a'' w'' k)
   unfold wpOpIn;rw[ho];simp only;have hxg:=hx i vu g hg;generalize xs.getD i (⟨none,.mov 0 (.t 0)⟩,none)=X0 at hp next hxg
   rw[zK]at xc;unfold Bz at hp;have v8:AS X0.1.gd st=AS g.gd st:=by rw[hxg]
   have jr:X0.1.ins=g.ins:=by rw[hxg]
   cases ki:AS g.gd st with
   |none=>rw[v8,ki]at hp;exact hp.elim
   |some b=>
    have hw:=IW h xc ki;obtain⟨kt,qg⟩:=Mf xc;cases b with
    |true=>
     rw[if_pos hw];rw[v8,ki,jr]at hp;refine Me ro (Mg kt (JQ (K:=fun s=>s=Cx GL g.ins X0.2 st) hp rfl)) (Md (Mh (Q:=AZ GL n S M w K) h kt (JQ (K:=fun s=>s=Cx GL g.ins X0.2 st) hp rfl)) ?_ (fun _ _ _ h=>h));rintro a' w' ⟨st',rfl,M',μ',h',hm,hb⟩;refine next _ M' μ' a' w' h' hm hb ?_
     unfold A3;rw[v8,ki,jr]
    |false=>rw[if_neg (by rw[hw];simp)];obtain⟨zy,hdn⟩:=qg (fun e=>by rw[e]at ki;simp[AS]at ki);refine⟨fun _ _=>trivial,next _ M μ _ w (Mc h zy hdn) (MExt.refl _ _) (Keeps.refl _ _) ?_⟩;unfold A3;rw[v8,ki,jr]
theorem UB(hp:p<=ops.size)(vh:C4 P GL n mg ops=some gs)(kc:FO ops.toList gs=true)
  (wj:∀i,p<=i->i<ops.size->∀j,j<p->j∈(AU ops.toList).getD i [])(xs:List X)(wk:xs.map (·.1)=gs.take p)
  (qc:∀(listed:Array Bool) (M':Mem) (μ':Place) (st':St) (a':Act) (w':World),listed.size=ops.size->(∀j,j<ops.size->listed.getD j false=decide (j<p))->Rel GL n S M' μ' st' a' w'->T st'->wpAnyIn (FR ro) 0 P .any ops (AZ GL n S M' w' K) (ops.size-p) listed a' w'):
  ∀(fuel:Nat) (listed:Array Bool) (M:Mem) (μ:Place) (st:St) (a:Act) (w:World),listed.size=ops.size->GC ops listed->(∀j,p<=j->j<ops.size->listed.getD j true=false)->((List.range p).filter fun i=>!listed.getD i true).length=fuel->Rel GL n S M μ st a w->
   C2 P GL sn (((List.range p).filter fun i=>!listed.getD i true).map fun i=>xs.getD i (⟨none,.mov 0 (.t 0)⟩,none)) st (fun u=>∃v,T v/\LI v u)->wpAnyIn (FR ro) 0 P .any ops (AZ GL n S M w K) (fuel+(ops.size-p)) listed a w:=by
 have je:=GB vh;have jv:=JS vh;have vk:xs.length=p:=by have:=congrArg List.length wk;simp[je]at this;omega
 have hx:∀i (hi:i<p) g,gs[i]? =some g->(xs.getD i (⟨none,.mov 0 (.t 0)⟩,none)).1=g:=fun i hi g hg=>by
  have h1:(xs.map (·.1))[i]? =(gs)[i]? :=by rw[wk,List.getElem?_take,if_pos hi]
  rw[List.getElem?_map,hg,List.getElem?_eq_getElem (by omega)]at h1;simp only[Option.map_some,Option.some.injEq]at h1;rw[List.getD_eq_getElem?_getD,List.getElem?_eq_getElem (by omega)];exact h1
 obtain⟨qw,ww⟩:Fa ops.toList (AU ops.toList)=true/\_:=by unfold FO at kc;exact Bool.and_eq_true_iff.1 kc
 generalize AU ops.toList=anc at qw ww wj;have k9:=KR qw;have wx:∀i (hi:i<ops.size) g,gs[i]? =some g->∀j,j<i->j∈anc.getD i []\/∃h,gs[j]? =some h/\FL h g=true:=fun i hi g hg j hj=>by
  rw[List.all_eq_true]at ww;have:=ww i (by simpa using hi);simp only[hg,List.all_eq_true,List.mem_range]at this;have:=this j hj;rw[Bool.or_eq_true]at this;rcases this with h|h
  ·exact .inl (List.contains_iff_mem.1 h)
  ·cases jt:gs[j]? with
   |none=>simp[jt]at h
   |some h'=>simp only[jt]at h;exact .inr ⟨h',rfl,h⟩
 intro fuel
 induction fuel with
 |zero=>
  intro listed M μ st a w js kq hun hf h hr;have k8:=List.eq_nil_of_length_eq_zero hf;rw[k8]at hr;obtain⟨v,hk,hs⟩:=hr;rw[Nat.zero_add];refine qc listed M μ v a w js (fun j hj=>?_) (h.sim hs.symm) hk;have vw:j<listed.size:=by omega
  by_cases hjp:j<p
  ·rw[decide_eq_true hjp];cases hl:listed.getD j false with
   |true=>rfl
   |false=>
    exfalso;have:j∈(List.range p).filter fun i=>!listed.getD i true:=by simp only[Array.getD_eq_getD_getElem?,Array.getElem?_eq_getElem vw,Option.getD_some]at hl;simp[hjp,vw,hl]
    rw[k8]at this;cases this
  ·rw[decide_eq_false hjp];have:=hun j (by omega) hj;simp only[Array.getD_eq_getD_getElem?,Array.getElem?_eq_getElem vw,Option.getD_some]at this⊢;exact this
 |succ fuel ih=>
  intro listed M μ st a w js kq hun hf h hr;rw[Nat.succ_add];generalize hT:((List.range p).filter fun i=>!listed.getD i true)=T at hf hr;have jq:T.Pairwise (·<·):=by rw[<-hT];exact List.Pairwise.filter _ (List.pairwise_lt_range)
  have kh:∀i,i∈T↔i<p/\listed.getD i true=false:=fun i=>by rw[<-hT];simp
  refine⟨fun k8=>?_,fun i hi=>?_⟩
  ·exfalso;cases T with
   |nil=>simp at hf
   |cons i0 T'=>
    have h0p:=(kh i0).1 (by simp);have h0:i0<ops.size/\listed.getD i0 true=false:=⟨by omega,h0p.2⟩;obtain⟨g,hg,_⟩:=jv i0 h0.1;have:i0∈Region.ready .any ops listed:=by
     simp only[Region.ready,List.mem_filter,List.mem_range,Bool.and_eq_true,Bool.not_eq_true'];refine⟨h0.1,h0.2,?_⟩;simp only[Array.getElem?_eq_getElem h0.1,Option.map_some,Option.getD_some,Array.all_eq_true_iff_forall_mem];intro e he;cases hb:Region.binds .any e with
     |false=>rfl
     |true=>
      have jl:=k9 i0 h0.1 e he hb;simp only[Bool.not_true,Bool.false_or];cases hl:listed.getD e.on false with
      |true=>rfl
      |false=>
       exfalso;have ji:e.on<listed.size:=by omega
       have jr:e.on∈i0::T':=(kh e.on).2 ⟨by omega,by simpa[ji]using hl⟩;rcases List.mem_cons.1 jr with e1|e1
       ·omega
       ·have:=(List.pairwise_cons.1 jq).1 _ e1;omega
    rw[k8]at this;cases this
  ·obtain⟨vu,jz,o,ho,v7⟩:=GD hi;obtain⟨g,hg,xc⟩:=jv i vu;have zK:ops[i]=o:=by rw[Array.getElem?_eq_getElem vu]at ho;exact Option.some.inj ho
   have hip:i<p:=by
    rcases Nat.lt_or_ge i p with q|q
    ·exact q
    ·exfalso;cases T with
     |nil=>simp at hf
     |cons i0 T'=>
      have h0:=(kh i0).1 (by simp);have:=JT qw kq i vu (by rw[zK];exact v7) i0 (wj i q vu i0 (by omega));have hjs:i0<listed.size:=by omega
      have h3:=h0.2;simp only[Array.getD_eq_getD_getElem?,Array.getElem?_eq_getElem hjs,Option.getD_some]at this h3;rw[this]at h3;cases h3
   obtain⟨l,r,zV⟩:=List.append_of_mem ((kh i).2 ⟨hip,jz⟩);rw[zV]at hr jq;have qi:∀x∈l,x<i:=fun x hx=>(List.pairwise_append.1 jq).2.2 x hx i (by simp)
   rw[List.map_append,List.map_cons]at hr;have hind:∀x∈l.map (fun i=>xs.getD i (⟨none,.mov 0 (.t 0)⟩,none)),FL x.1 (xs.getD i (⟨none,.mov 0 (.t 0)⟩,none)).1=true:=by
    intro x hx';obtain⟨j,hj,rfl⟩:=List.mem_map.1 hx';have hji:=qi j hj;have hjT:=(kh j).1 (by rw[zV];simp[hj]);rcases wx i vu g hg j hji with vl|⟨hh,h1,h2⟩
    ·exfalso;have:=JT qw kq i vu (by rw[zK];exact v7) j vl;have hjs:j<listed.size:=by omega
     have h3:=hjT.2;simp only[Array.getD_eq_getD_getElem?,Array.getElem?_eq_getElem hjs,Option.getD_some]at this h3;rw[this]at h3;cases h3
    ·rw[hx i hip g hg,hx j (by omega) hh h1];exact h2
   obtain⟨hp,jg⟩:=NV _ _ _ st _ h.closed hind hr;have zL:((List.range p).filter fun q=>!(listed.setIfInBounds i true).getD q true)=l++r:=by
    have:((List.range p).filter fun q=>!(listed.setIfInBounds i true).getD q true)=T.filter (fun q=>q !=i):=by
     rw[<-hT,List.filter_filter];apply List.filter_congr;intro q hq;simp only[List.mem_range]at hq;have hqs:q<listed.size:=by omega
     simp only[Array.getD_eq_getD_getElem?,Array.getElem?_setIfInBounds];by_cases e:i=q
     ·subst e;simp[hqs]
     ·simp[e,Ne.symm e]
    rw[this,zV,List.filter_append,List.filter_cons];have n1:l.filter (fun q=>q !=i)=l:=List.filter_eq_self.2 (fun q hq=>by have:=qi q hq;simp;omega);have n2:r.filter (fun q=>q !=i)=r:=List.filter_eq_self.2 (fun q hq=>by have:=(List.pairwise_cons.1 (List.pairwise_append.1 jq).2.1).1 q hq;simp;omega)
    rw[n1,n2];simp
   have wg:((List.range p).filter fun q=>!(listed.setIfInBounds i true).getD q true).length=fuel:=by rw[zL];have:T.length=fuel+1:=hf;rw[zV]at this;simp at this⊢;omega
   have next:∀(st':St) (M':Mem) (μ':Place) (a':Act) (w':World),Rel GL n S M' μ' st' a' w'->MExt S M M'->Keeps S w w'->st'=A3 GL (xs.getD i (⟨none,.mov 0 (.t 0)⟩,none)) st->
     wpAnyIn (FR ro) 0 P .any ops (AZ GL n S M w K) (fuel+(ops.size-p)) (listed.setIfInBounds i true) a' w':=fun st' M' μ' a' w' h' hm hb e=>by
    subst e;have:=ih (listed.setIfInBounds i true) M' μ' _ a' w' (by simpa using js) (kq.set (by omega) (fun _=>by rw[zK];exact v7)) (fun j hj1 hj2=>by
     have:=hun j hj1 hj2;have hjs:j<listed.size:=by omega
     simp only[Array.getD_eq_getD_getElem?,Array.getElem?_setIfInBounds]at this⊢;rw[if_neg (by omega)];exact this) wg h' (by
     rw[zL,List.map_append];refine Ek _ ?_ jg;rintro u ⟨v,⟨v',hk,hs⟩,wu⟩;exact⟨v',hk,hs.trans wu⟩)
    refine D1 this (fun e a'' w'' k=>Fd h' hm hb e a'' w'' k)
   unfold wpOpIn;rw[ho];simp only;have hxg:=hx i hip g hg;generalize xs.getD i (⟨none,.mov 0 (.t 0)⟩,none)=X0 at hp next hxg
   rw[zK]at xc;unfold Bz at hp;have v8:AS X0.1.gd st=AS g.gd st:=by rw[hxg]
   have jr:X0.1.ins=g.ins:=by rw[hxg]
   cases ki:AS g.gd st with
   |none=>rw[v8,ki]at hp;exact hp.elim
   |some b=>
    have hw:=IW h xc ki;obtain⟨kt,qg⟩:=Mf xc;cases b with
    |true=>
     rw[if_pos hw];rw[v8,ki,jr]at hp;refine Me ro (Mg kt (JQ (K:=fun s=>s=Cx GL g.ins X0.2 st) hp rfl)) (Md (Mh (Q:=AZ GL n S M w K) h kt (JQ (K:=fun s=>s=Cx GL g.ins X0.2 st) hp rfl)) ?_ (fun _ _ _ h=>h));rintro a' w' ⟨st',rfl,M',μ',h',hm,hb⟩;refine next _ M' μ' a' w' h' hm hb ?_
     unfold A3;rw[v8,ki,jr]
    |false=>rw[if_neg (by rw[hw];simp)];obtain⟨zy,hdn⟩:=qg (fun e=>by rw[e]at ki;simp[AS]at ki);refine⟨fun _ _=>trivial,next _ M μ _ w (Mc h zy hdn) (MExt.refl _ _) (Keeps.refl _ _) ?_⟩;unfold A3;rw[v8,ki,jr]
theorem UC(vh:C4 P GL n mu ops=some gs)(qw:Fa ops.toList (AU ops.toList)=true)(wj:∀i,p<=i->i<ops.size->∀j,j<i->j∈(AU ops.toList).getD i []):
  ∀(fuel k:Nat) (listed:Array Bool) (M:Mem) (μ:Place) (st:St) (a:Act) (w:World),p<=k->listed.size=ops.size->k+fuel=ops.size->(∀j,j<ops.size->listed.getD j false=decide (j<k))->Rel GL n S M μ st a w->
   ev P GL (gs.drop k) st (K .normal)->wpAnyIn (FR ro) 0 P .any ops (AZ GL n S M w K) fuel listed a w:=by
 have je:=GB vh;have jv:=JS vh;have k9:=KR qw;intro fuel
 induction fuel with
 |zero=>
  intro k listed M μ st a w hpk js hf hl h hs;rw[List.drop_eq_nil_of_le (by omega)]at hs;refine⟨?_,st,hs,CU.of h⟩;rw[List.eq_nil_iff_forall_not_mem];intro i hi;obtain⟨h1,h2,_⟩:=GD hi;have h3:=hl i h1;have:i<listed.size:=by omega
  simp only[Array.getD_eq_getD_getElem?,Array.getElem?_eq_getElem this,Option.getD_some]at h2 h3;rw[h2]at h3;have:=of_decide_eq_false h3.symm;omega
 |succ fuel ih=>
  intro k listed M μ st a w hpk js hf hl h hs;have hk:k<ops.size:=by omega
  have kq:GC ops listed:=fun q hq hlq e he hb=>by have h1:=hl q hq;rw[hlq]at h1;have h1:=of_decide_eq_true h1.symm;have h2:=k9 q hq e he hb;rw[hl e.on (by omega)];exact decide_eq_true (by omega)
  have wy:∀i,i∈Region.ready .any ops listed->i=k:=fun i hi=>by
   obtain⟨h1,h2,o,ho,hd⟩:=GD hi;have h3:=hl i h1;have:i<listed.size:=by omega
   simp only[Array.getD_eq_getD_getElem?,Array.getElem?_eq_getElem this,Option.getD_some]at h2 h3;rw[h2]at h3;have zR:=of_decide_eq_false h3.symm;rcases Nat.lt_or_ge k i with q|q
   ·exfalso;have zK:ops[i]=o:=by rw[Array.getElem?_eq_getElem h1]at ho;exact Option.some.inj ho
    have:=JT qw kq i h1 (by rw[zK];exact hd) k (wj i (by omega) h1 k q);rw[hl k hk]at this;have:=of_decide_eq_true this;omega
   ·omega
  have hkin:k∈Region.ready .any ops listed:=by
   simp only[Region.ready,List.mem_filter,List.mem_range,Bool.and_eq_true,Bool.not_eq_true'];have hks:k<listed.size:=by omega
   refine⟨hk,?_,?_⟩
   ·have:=hl k hk;simp only[Array.getD_eq_getD_getElem?,Array.getElem?_eq_getElem hks,Option.getD_some]at this⊢;rw[this];simp
   ·simp only[Array.getElem?_eq_getElem hk,Option.map_some,Option.getD_some,Array.all_eq_true_iff_forall_mem];intro e he;cases hb:Region.binds .any e with
    |false=>rfl
    |true=>have jl:=k9 k hk e he hb;simp only[Bool.not_true,Bool.false_or];rw[hl e.on (by omega)];simpa using jl
  refine⟨fun k8=>(by rw[k8]at hkin;cases hkin),fun i hi=>?_⟩;obtain rfl:=wy i hi;obtain⟨g,hg,xc⟩:=jv i hk;have hdrop:gs.drop i=g::gs.drop (i+1):=by
   have:i<gs.length:=by omega
   rw[List.drop_eq_getElem_cons this];congr 1;rw[List.getElem?_eq_getElem this]at hg;exact Option.some.inj hg
  rw[hdrop]at hs;have next:∀a' w',Ar GL n S M w (fun s=>ev P GL (gs.drop (i+1)) s (K .normal)) a' w'->wpAnyIn (FR ro) 0 P .any ops (AZ GL n S M w K) fuel (listed.setIfInBounds i true) a' w':=by rintro a' w' ⟨st',wu,M',μ',h',hm,hb⟩;refine D1 (ih (i+1) _ M' μ' st' a' w' (by omega) (by simpa using js) (by omega) (fun j hj=>?_) h' wu) (fun e a'' w'' k=>Fd h' hm hb e a'' w'' k);rw[getD_set _ _ _ (by omega),hl j hj];rw[Bool.eq_iff_iff];simp;omega
  unfold wpOpIn;rw[Array.getElem?_eq_getElem hk];simp only;rcases NZ (Q:=AZ GL n S M w K) xc h (IX.1 hs)with⟨hw,h2⟩|⟨hw,h2⟩
  ·rw[if_pos hw];exact KO (h2 ro) next (fun _ _ _ h=>h)
  ·rw[if_neg (by rw[hw];simp)];exact⟨fun _ _=>trivial,next _ _ h2⟩
theorem Qm(anc:List (List Nat)):∀p,CM anc p<=p
 |0=>Nat.le_refl _
 |p+1=>by
  simp only[CM];split
  ·exact Nat.le_succ_of_le (Qm anc p)
  ·exact Nat.le_refl _
theorem Qn(anc:List (List Nat)):∀p i,CM anc p<=i->i<p->∀j,j<i->j∈anc.getD i []
 |0,i,_,h=>by omega
 |p+1,i,h1,h2=>by
  simp only[CM]at h1;split at h1
  ·rename_i jj;rcases Nat.lt_or_ge i p with q|q
   ·exact Qn anc p i h1 q
   ·obtain rfl:i=p:=by omega
    intro j hj;rw[List.all_eq_true]at jj;exact List.contains_iff_mem.1 (jj j (List.mem_range.2 hj))
  ·omega
def vT(P:Program)(GL:List (Nat×List I))(us:List Nat):List GI->(St->Prop)->St->Prop
 |[],T,s=>∃v,LI v s/\T v
 |g::r,T,s=>∃v,LI v s/\Mm P GL us g v (vT P GL us r T)
theorem UD{us:List Nat}{l:List GI}{s t:St}(h:vT P GL us l T s)(hs:LI s t):vT P GL us l T t:=by
 cases l with
 |nil=>obtain⟨v,h1,h2⟩:=h;exact⟨v,h1.trans hs,h2⟩
 |cons g r=>obtain⟨v,h1,h2⟩:=h;exact⟨v,h1.trans hs,h2⟩
theorem UE{ins:Ins}(h:Hz ins=true)(st:St)(K:St->Prop):Ae P GL sn ins st K=FU P GL sn ins st K:=by cases ins<;>simp only[Hz,Bool.false_eq_true]at h<;>rfl
theorem Qo{sn:List Nat}:∀(l:List GI) {T:St->Prop} {s:St},(∀g∈l,Hz g.ins=true)->evD P GL sn l s T->vT P GL (DI sn) l T s
 |[],T,s,_,h=>⟨s,LI.refl s,h⟩
 |g::r,T,s,hl,h=>by
  have h1:=hl g List.mem_cons_self;have q:∀s',evD P GL sn r s' T->vT P GL (DI sn) r T s':=fun s' wu=>Qo r (fun g hg=>hl g (List.mem_cons_of_mem _ hg)) wu
  refine⟨s,LI.refl s,?_⟩;simp only[evD]at h;unfold Mm AS;split at h
  ·rename_i e;rw[e];rw[UE h1]at h;exact⟨h.1,En h.2 q⟩
  ·rename_i sl want e;rw[e];simp only;unfold YU at h;split at h
   ·rename_i b ev;rw[ev];simp only;cases hb:(b==want)with
    |true=>have h2:=h.1 hb;rw[UE h1]at h2;exact⟨h2.1,En h2.2 q⟩
    |false=>exact q _ (h.2 hb)
   ·rename_i ev;rw[ev];exact q _ h
   ·exact h.elim
theorem bt(ins:Ins):(wE ins).dst=ins.dst:=by
 cases ins<;>try rfl
 rename_i ps;cases ps<;>rfl
theorem UF{get:St->Option (FuncId×List D)}{os:List O}{d:Option Nat}{st:St}{K:St->Prop}(hg:∀s f ds,get s=some (f,ds)->(os.all fun o=>G5 (AL GL s o))=true->ds.all G5=true)(h:Dt P GL get os d st K):Ah P GL get st d K:=by
 unfold Dt IK at h;refine⟨oN GL st os,?_⟩;split at h
 ·rename_i p e;obtain⟨h1,y,h2,h3⟩:=h;rw[e];refine .inl ⟨[],[],_,h2,trivial,rfl,?_,rfl,?_⟩
  ·have:=hg _ p.1 p.2 e h1;rw[List.all_eq_true]at this⊢;intro x hx;have:=this x hx;cases x<;>simp[G5]at this;rfl
  ·rintro r s ⟨rfl,rfl⟩;exact⟨fun nm hm=>by simp[AY]at hm,fun nm hm=>by simp at hm,h3⟩
 ·exact h.elim
theorem bu{ins:Ins}{st:St}{K:St->Prop}(h:step P GL (wE ins) st K):step P GL ins st K:=by
 cases ins<;>try exact h
 case call d f args=>
  refine UF (fun s f' ds e h1=>?_) h;simp only[DX,Option.some.injEq,Prod.mk.injEq]at e;obtain⟨rfl,rfl⟩:=e;rw[List.all_eq_true]at h1⊢;intro x hx;obtain⟨o,ho,rfl⟩:=List.mem_map.1 hx;exact h1 o ho
 case callv d fo args=>
  refine UF (fun s f' ds e h1=>?_) h;rw[List.all_eq_true]at h1⊢;have h0:=h1 fo (by simp);unfold Dr EE at e;split at e
  ·cases e;intro x hx;simp only[List.mem_append,List.mem_map]at hx;rcases hx with(⟨z,_,rfl⟩|⟨o,ho,rfl⟩)|⟨z,_,rfl⟩
   ·rfl
   ·exact h1 o (by simp[ho])
   ·rfl
  ·rename_i ef;rw[ef]at h0;simp[G5]at h0
  ·cases e
 case bsn d e k ps=>
  cases ps with
  |nil=>exact h
  |cons a l=>simp only[wE,step]at h⊢;refine⟨?_,h.2⟩;rw[h.1];rfl
theorem Qp{α β:Type}[DecidableEq α]:∀(l:List α) (hn:l.Nodup) (xs:List β) (hl:xs.length=l.length) (d:β),∃f:α->β,l.map f=xs
 |[],_,[],hl,d=>⟨fun _=>d,rfl⟩
 |[],_,x::xs,hl,d=>by simp at hl
 |a::l,hn,[],hl,d=>by simp at hl
 |a::l,hn,x::xs,hl,d=>by obtain⟨h1,h2⟩:=List.nodup_cons.1 hn;obtain⟨f,hf⟩:=Qp l h2 xs (by simpa using hl) d;refine⟨fun b=>if b=a then x else f b,?_⟩;simp only[List.map_cons,if_pos];congr 1;rw[<-hf];exact List.map_congr_left fun b hb=>if_neg fun e:b=a=>h1 (e▸hb)
theorem UG(b:Nat):∀us:List Nat,((us.map fun q=>q+b).filter fun q=>decide (b<=q)).map (fun q=>q-b)=us
 |[]=>rfl
 |u::us=>by have h1:decide (b<=u+b)=true:=decide_eq_true (Nat.le_add_left _ _);rw[List.map_cons,List.filter_cons,if_pos h1,List.map_cons,UG b us,Nat.add_sub_cancel]
theorem UH(us:List Nat):DI (us.map (·+FS))=us:=UG FS us
theorem UI(hi:i<listed.size)(L:List Nat)(hL:∀q∈L,q<listed.size):L.filter (fun q=>!(listed.setIfInBounds i true).getD q true)=(L.filter fun q=>!listed.getD q true).filter fun q=>q !=i:=by
 rw[List.filter_filter];apply List.filter_congr;intro q hq;have hqs:=hL q hq;simp only[Array.getD_eq_getD_getElem?,Array.getElem?_setIfInBounds];by_cases e:i=q
 ·subst e;simp[hqs]
 ·simp[e,Ne.symm e]
theorem UJ{l r:List Nat}(h:(l++i::r).Pairwise (·<·)):(l++i::r).filter (fun q=>q !=i)=l++r:=by
 have h1:∀x∈l,x<i:=fun x hx=>(List.pairwise_append.1 h).2.2 x hx i (by simp)
 have h2:=(List.pairwise_cons.1 (List.pairwise_append.1 h).2.1).1;rw[List.filter_append,List.filter_cons,List.filter_eq_self.2 (fun q hq=>by have:=h1 q hq;simp;omega),List.filter_eq_self.2 (fun q hq=>by have:=h2 q hq;simp;omega)];simp
theorem Mn{j:Nat}(h:j<listed.size):listed.getD j true=listed.getD j false:=by simp[Array.getD_eq_getD_getElem?,Array.getElem?_eq_getElem h]
theorem UK{gs':List GI}{us:List Nat}{p0:Nat}{ql:List Nat}(hp:p<=ops.size)(vh:C4 P GL n mg ops=some gs)(v6:C4 P GL n mu ops=some gs')(kc:FO ops.toList gs=true)
  (hch:IU (AU ops.toList) gs gs' ql p0 p=true)(hus:us=vR (AU ops.toList) gs ql p0 p)(wj:∀i,p<=i->i<ops.size->∀j,j<p->j∈(AU ops.toList).getD i [])(xf:Nat->X)(hxf:∀i∈Sg ql p0 p,(xf i).1=Sd gs i)
  (qc:∀(listed:Array Bool) (M':Mem) (μ':Place) (st':St) (a':Act) (w':World),listed.size=ops.size->(∀j,j<ops.size->listed.getD j false=decide (j<p))->Rel GL n S M' μ' st' a' w'->T st'->wpAnyIn (FR ro) 0 P .any ops (AZ GL n S M' w' K) (ops.size-p) listed a' w'):
  ∀(fuel:Nat) (Qd Qr:List Nat) (listed:Array Bool) (M:Mem) (μ:Place) (st:St) (a:Act) (w:World),listed.size=ops.size->GC ops listed->(∀j,p<=j->j<ops.size->listed.getD j true=false)->(∀j,j<p0->listed.getD j true=true)->YP ql p0 p=Qd++Qr->(∀q∈Qd,listed.getD q false=true)->(∀q∈Qr,listed.getD q true=false)->
   ((List.range p).filter fun i=>!listed.getD i true).length=fuel->Rel GL n S M μ st a w->
   C2 P GL sn (((Sg ql p0 p).filter fun i=>!listed.getD i true).map xf) st (fun s=>vT P GL us (Qr.map (gF gs')) T s)->wpAnyIn (FR ro) 0 P .any ops (AZ GL n S M w K) (fuel+(ops.size-p)) listed a w:=by
 have je:=GB vh;have hlen':=GB v6;have jv:=JS vh;have hget':=JS v6;obtain⟨qw,ww⟩:Fa ops.toList (AU ops.toList)=true/\_:=by unfold FO at kc;exact Bool.and_eq_true_iff.1 kc
 generalize AU ops.toList=anc at qw ww wj hch hus;have k9:=KR qw;have wp:∀i g,gs[i]? =some g->Sd gs i=g:=fun i g hg=>by simp[Sd,List.getD,hg]
 have hat':∀i g,gs'[i]? =some g->Sd gs' i=g:=fun i g hg=>by simp[Sd,List.getD,hg]
 have wx:∀i (hi:i<ops.size) g,gs[i]? =some g->∀j,j<i->j∈anc.getD i []\/∃h,gs[j]? =some h/\FL h g=true:=fun i hi g hg j hj=>by
  rw[List.all_eq_true]at ww;have:=ww i (by simpa using hi);simp only[hg,List.all_eq_true,List.mem_range]at this;have:=this j hj;rw[Bool.or_eq_true]at this;rcases this with h|h
  ·exact .inl (List.contains_iff_mem.1 h)
  ·cases jt:gs[j]? with
   |none=>simp[jt]at h
   |some h'=>simp only[jt]at h;exact .inr ⟨h',rfl,h⟩
 unfold IU at hch;simp only[Bool.and_eq_true,List.all_eq_true]at hch;rw[<-hus]at hch;obtain⟨⟨⟨⟨-,hdrX⟩,hQ⟩,hXQ⟩,hXX⟩:=hch;have memX:∀i,i∈Sg ql p0 p↔i<p/\p0<=i/\ql.contains i=false:=fun i=>by simp[Sg]
 have memQ:∀i,i∈YP ql p0 p↔i<p/\p0<=i/\ql.contains i=true:=fun i=>by simp[YP]
 have sX:(Sg ql p0 p).Pairwise (·<·):=List.Pairwise.filter _ List.pairwise_lt_range;have sQ:(YP ql p0 p).Pairwise (·<·):=List.Pairwise.filter _ List.pairwise_lt_range;have qg:∀{g:GI} {d:Nat},g.ins.dst=some d->d∈Gy g:=fun{g d} h=>by simp[Gy,h]
 intro fuel
 induction fuel with
 |zero=>
  intro Qd Qr listed M μ st a w js kq hun hl0 hQQ hQd hQr hf h hr;have k8:=List.eq_nil_of_length_eq_zero hf;have jj:∀j,j<p->listed.getD j true=true:=fun j hj=>by
   cases hl:listed.getD j true with
   |true=>rfl
   |false=>
    exfalso;have:j∈(List.range p).filter fun i=>!listed.getD i true:=by simp[hj];simpa using hl
    rw[k8]at this;cases this
  have e1:((Sg ql p0 p).filter fun i=>!listed.getD i true)=[]:=List.filter_eq_nil_iff.2 fun i hi=>by rw[jj i ((memX i).1 hi).1];simp
  have e2:Qr=[]:=by
   cases Qr with
   |nil=>rfl
   |cons q r=>have h1:=hQr q List.mem_cons_self;rw[jj q ((memQ q).1 (by rw[hQQ];simp)).1]at h1;cases h1
  rw[e1,e2]at hr;obtain⟨v,hs,hk⟩:=hr;rw[Nat.zero_add];refine qc listed M μ v a w js (fun j hj=>?_) (h.sim hs.symm) hk;have vw:j<listed.size:=by omega
  by_cases hjp:j<p
  ·rw[decide_eq_true hjp,<-Mn vw];exact jj j hjp
  ·rw[decide_eq_false hjp,<-Mn vw];exact hun j (by omega) hj
 |succ fuel ih=>
  intro Qd Qr listed M μ st a w js kq hun hl0 hQQ hQd hQr hf h hr;rw[Nat.succ_add];generalize hT:((List.range p).filter fun i=>!listed.getD i true)=T0 at hf;have jq:T0.Pairwise (·<·):=by rw[<-hT];exact List.Pairwise.filter _ (List.pairwise_lt_range)
  have kh:∀i,i∈T0↔i<p/\listed.getD i true=false:=fun i=>by rw[<-hT];simp
  have unl:∀j,j<ops.size->listed.getD j true=false->listed.getD j false≠true:=fun j hj h1 h2=>by rw[Mn (by omega),h2]at h1;cases h1
  refine⟨fun k8=>?_,fun i hi=>?_⟩
  ·exfalso;cases T0 with
   |nil=>simp at hf
   |cons i0 T'=>
    have h0p:=(kh i0).1 (by simp);have h0:i0<ops.size/\listed.getD i0 true=false:=⟨by omega,h0p.2⟩;have:i0∈Region.ready .any ops listed:=by
     simp only[Region.ready,List.mem_filter,List.mem_range,Bool.and_eq_true,Bool.not_eq_true'];refine⟨h0.1,h0.2,?_⟩;simp only[Array.getElem?_eq_getElem h0.1,Option.map_some,Option.getD_some,Array.all_eq_true_iff_forall_mem];intro e he;cases hb:Region.binds .any e with
     |false=>rfl
     |true=>
      have jl:=k9 i0 h0.1 e he hb;simp only[Bool.not_true,Bool.false_or];cases hl:listed.getD e.on false with
      |true=>rfl
      |false=>
       exfalso;have jr:e.on∈i0::T':=(kh e.on).2 ⟨by omega,by rw[Mn (by omega)];exact hl⟩;rcases List.mem_cons.1 jr with e1|e1
       ·omega
       ·have:=(List.pairwise_cons.1 jq).1 _ e1;omega
    rw[k8]at this;cases this
  ·obtain⟨vu,jz,o,ho,v7⟩:=GD hi;have zK:ops[i]=o:=by rw[Array.getElem?_eq_getElem vu]at ho;exact Option.some.inj ho
   have vl:∀j∈anc.getD i [],listed.getD j false=true:=JT qw kq i vu (by rw[zK];exact v7);have hip:i<p:=by
    rcases Nat.lt_or_ge i p with q|q
    ·exact q
    ·exfalso;cases T0 with
     |nil=>simp at hf
     |cons i0 T'=>have h0:=(kh i0).1 (by simp);exact unl i0 (by omega) h0.2 (vl i0 (wj i q vu i0 (by omega)))
   have hip0:p0<=i:=by
    rcases Nat.lt_or_ge i p0 with q|q
    ·rw[hl0 i q]at jz;cases jz
    ·exact q
   have hszl:∀q,q<p->q<listed.size:=fun q hq=>by omega
   obtain⟨l0,r0,hlr0⟩:=List.append_of_mem ((kh i).2 ⟨hip,jz⟩);have wg:((List.range p).filter fun q=>!(listed.setIfInBounds i true).getD q true).length=fuel:=by rw[UI (by omega) _ (fun q hq=>hszl q (List.mem_range.1 hq)),hT,hlr0,UJ (hlr0▸jq)];rw[hlr0]at hf;simp at hf⊢;omega
   have hcl':GC ops (listed.setIfInBounds i true):=kq.set (by omega) (fun _=>by rw[zK];exact v7);have hun':∀j,p<=j->j<ops.size->(listed.setIfInBounds i true).getD j true=false:=fun j hj1 hj2=>by have:=hun j hj1 hj2;simp only[Array.getD_eq_getD_getElem?,Array.getElem?_setIfInBounds]at this⊢;rw[if_neg (by omega)];exact this
   have jx:∀q,q≠i->∀b,(listed.setIfInBounds i true).getD q b=listed.getD q b:=fun q hq b=>by simp only[Array.getD_eq_getD_getElem?,Array.getElem?_setIfInBounds];rw[if_neg (Ne.symm hq)]
   have hself:(listed.setIfInBounds i true).getD i false=true:=by rw[getD_set _ _ _ (by omega)];simp
   generalize hTX:((Sg ql p0 p).filter fun i=>!listed.getD i true)=TX at hr;have sTX:TX.Pairwise (·<·):=by rw[<-hTX];exact List.Pairwise.filter _ sX
   have mTX:∀j,j∈TX↔j∈Sg ql p0 p/\listed.getD j true=false:=fun j=>by rw[<-hTX];simp
   unfold wpOpIn;rw[ho];simp only;by_cases hdr:ql.contains i=false
   ·
    have hiX:=(memX i).2 ⟨hip,hip0,hdr⟩;obtain⟨g,hg,xc⟩:=jv i vu;obtain⟨l,r,zV⟩:=List.append_of_mem ((mTX i).2 ⟨hiX,jz⟩);have qi:∀x∈l,x<i:=fun x hx=>(List.pairwise_append.1 (zV▸sTX)).2.2 x hx i (by simp)
    rw[zV,List.map_append,List.map_cons]at hr;have hxi:(xf i).1=g:=by rw[hxf i hiX,wp i g hg]
    have hind:∀x∈l.map xf,FL x.1 (xf i).1=true:=by
     intro x hx';obtain⟨j,hj,rfl⟩:=List.mem_map.1 hx';have hji:=qi j hj;have hjT:=(mTX j).1 (by rw[zV];simp[hj]);rcases wx i vu g hg j hji with hh|⟨hh,h1,h2⟩
     ·exact(unl j (by omega) hjT.2 (vl j hh)).elim
     ·rw[hxi,hxf j hjT.1,wp j hh h1];exact h2
    obtain⟨hp',jg⟩:=NV _ _ _ st _ h.closed hind hr;have zL:((Sg ql p0 p).filter fun q=>!(listed.setIfInBounds i true).getD q true)=l++r:=by rw[UI (by omega) _ (fun q hq=>hszl q ((memX q).1 hq).1),hTX,zV,UJ (zV▸sTX)]
    have next:∀(st':St) (M':Mem) (μ':Place) (a':Act) (w':World),Rel GL n S M' μ' st' a' w'->MExt S M M'->Keeps S w w'->st'=A3 GL (xf i) st->
      wpAnyIn (FR ro) 0 P .any ops (AZ GL n S M w K) (fuel+(ops.size-p)) (listed.setIfInBounds i true) a' w':=fun st' M' μ' a' w' h' hm hb e=>by
     subst e;have hQi:∀q∈YP ql p0 p,q≠i:=fun q hq e=>by have:=((memQ q).1 hq).2.2;rw[e,hdr]at this;cases this
     have:=ih Qd Qr (listed.setIfInBounds i true) M' μ' _ a' w' (by simpa using js) hcl' hun' (fun j hj=>by rw[jx j (by omega)];exact hl0 j hj) hQQ (fun q hq=>by rw[jx q (hQi q (by rw[hQQ];simp[hq]))];exact hQd q hq) (fun q hq=>by rw[jx q (hQi q (by rw[hQQ];simp[hq]))];exact hQr q hq) wg h' (by
      rw[zL,List.map_append];refine Ek _ ?_ jg;rintro u ⟨v,hk,hs⟩;exact UD hk hs)
     refine D1 this (fun e a'' w'' k=>Fd h' hm hb e a'' w'' k)
    generalize xf i=X0 at hp' next hxi
    rw[zK]at xc;unfold Bz at hp';have v8:AS X0.1.gd st=AS g.gd st:=by rw[hxi]
    have jr:X0.1.ins=g.ins:=by rw[hxi]
    cases ki:AS g.gd st with
    |none=>rw[v8,ki]at hp';exact hp'.elim
    |some b=>
     have hw:=IW h xc ki;obtain⟨kt,qg⟩:=Mf xc;cases b with
     |true=>
      rw[if_pos hw];rw[v8,ki,jr]at hp';refine Me ro (Mg kt (JQ (K:=fun s=>s=Cx GL g.ins X0.2 st) hp' rfl)) (Md (Mh (Q:=AZ GL n S M w K) h kt (JQ (K:=fun s=>s=Cx GL g.ins X0.2 st) hp' rfl)) ?_ (fun _ _ _ h=>h));rintro a' w' ⟨st',rfl,M',μ',h',hm,hb⟩;refine next _ M' μ' a' w' h' hm hb ?_
      unfold A3;rw[v8,ki,jr]
     |false=>rw[if_neg (by rw[hw];simp)];obtain⟨zy,hdn⟩:=qg (fun e=>by rw[e]at ki;simp[AS]at ki);refine⟨fun _ _=>trivial,next _ M μ _ w (Mc h zy hdn) (MExt.refl _ _) (Keeps.refl _ _) ?_⟩;unfold A3;rw[v8,ki,jr]
   ·
    have hiQ:=(memQ i).2 ⟨hip,hip0,by simpa using hdr⟩;have hiR:i∈Qr:=by
     rw[hQQ]at hiQ;rcases List.mem_append.1 hiQ with q|q
     ·exact(unl i vu jz (hQd i q)).elim
     ·exact q
    cases Qr with
    |nil=>cases hiR
    |cons q0 Qr=>
     have hq0Q:q0∈YP ql p0 p:=by rw[hQQ];simp
     have e0:q0=i:=by
      rcases List.mem_cons.1 hiR with e|e
      ·exact e.symm
      ·exfalso;have jl:q0<i:=(List.pairwise_cons.1 (List.pairwise_append.1 (hQQ▸sQ)).2.1).1 i e;have h1:=(hQ q0 hq0Q).2 i hiQ;simp only[jl,decide_true,Bool.not_true,Bool.false_or]at h1;exact unl q0 (by have:=((memQ q0).1 hq0Q).1;omega) (hQr q0 List.mem_cons_self) (vl q0 (List.contains_iff_mem.1 h1))
     subst e0;obtain⟨g,hg,xc⟩:=hget' q0 vu;have hgq:=hat' q0 g hg;have hgf:gF gs' q0=⟨g.gd,wE g.ins⟩:=by unfold gF;rw[hgq]
     obtain⟨⟨⟨c1,c3⟩,c4⟩,c5⟩:=hQ q0 hiQ;obtain⟨d0,hd0⟩:=Option.isSome_iff_exists.1 c3;have notAnc:∀x∈TX,x∉anc.getD q0 []:=fun x hx hh=>by have:=(mTX x).1 hx;exact unl x (by have:=((memX x).1 this.1).1;omega) this.2 (vl x hh)
     have inUs:∀x∈TX,∀u,u∈Fb (Sd gs x)++Gy (Sd gs x)->u∈us:=fun x hx u hu=>by
      rw[hus];unfold vR;rw[hQQ];have key:∀q1,q1∈YP ql p0 p->(q1=q0\/listed.getD q1 false=true)->u∈((Sg ql p0 p).filter fun i=>!(anc.getD q1 []).contains i).flatMap fun i=>Fb (Sd gs i)++Gy (Sd gs i):=fun q1 hq1 hor=>by
       refine List.mem_flatMap.2 ⟨x,List.mem_filter.2 ⟨((mTX x).1 hx).1,?_⟩,hu⟩;rw[Bool.not_eq_true'];cases hcc:(anc.getD q1 []).contains x with
       |false=>rfl
       |true=>
        exfalso;have hxa:=List.contains_iff_mem.1 hcc;rcases hor with e|e
        ·exact notAnc x hx (e▸hxa)
        ·have hq1s:q1<ops.size:=by have:=((memQ q1).1 hq1).1;omega
         have:=JT qw kq q1 hq1s (fun e' he' hb'=>kq q1 hq1s e e' he' hb') x hxa;exact unl x (by have:=((memX x).1 ((mTX x).1 hx).1).1;omega) ((mTX x).1 hx).2 this
      cases Qd with
      |nil=>exact key q0 hiQ (.inl rfl)
      |cons q1 r=>exact key q1 (by rw[hQQ];simp) (.inr (hQd q1 List.mem_cons_self))
     have hlate:Late us (gF gs' q0) (TX.map xf):=by
      refine⟨fun b hb=>?_,fun b hb u hu=>?_,fun b hb d hd=>?_,fun d hd hdu=>?_,fun b hb d hd hu=>?_,?_⟩
      ·obtain⟨x,hx,rfl⟩:=List.mem_map.1 hb;have hxX:=((mTX x).1 hx).1;have h1:=(hXQ x hxX q0 hiQ).2;rw[Bool.or_eq_true]at h1;rcases h1 with h1|h1
       ·exact(notAnc x hx (List.contains_iff_mem.1 h1)).elim
       ·rw[hxf x hxX];exact(Bool.and_eq_true_iff.1 (Bool.and_eq_true_iff.1 h1).1).1
      ·obtain⟨x,hx,rfl⟩:=List.mem_map.1 hb;rw[hxf x ((mTX x).1 hx).1]at hu;exact inUs x hx u (List.mem_append.2 (.inl hu))
      ·obtain⟨x,hx,rfl⟩:=List.mem_map.1 hb;have hxX:=((mTX x).1 hx).1;rw[hxf x hxX]at hd⊢;refine⟨inUs x hx d (List.mem_append.2 (.inr (qg hd))),fun hu=>?_,fun o ho hu=>?_,fun hu=>?_⟩
       ·have h1:=(hXX x hxX d (qg hd)).1;rw[List.contains_iff_mem.2 hu]at h1;cases h1
       ·have h1:=(hXQ x hxX q0 hiQ).2;rw[Bool.or_eq_true]at h1;rcases h1 with h1|h1
        ·exact notAnc x hx (List.contains_iff_mem.1 h1)
        ·have h2:=List.all_eq_true.1 (Bool.and_eq_true_iff.1 h1).2 d (qg hd);rw[List.contains_iff_mem.2 (List.mem_append.2 (.inl (List.mem_flatMap.2 ⟨o,ho,hu⟩)))]at h2;cases h2
       ·have h1:=(hXQ x hxX q0 hiQ).2;rw[Bool.or_eq_true]at h1;rcases h1 with h1|h1
        ·exact notAnc x hx (List.contains_iff_mem.1 h1)
        ·have h2:=List.all_eq_true.1 (Bool.and_eq_true_iff.1 h1).2 d (qg hd);rw[List.contains_iff_mem.2 (List.mem_append.2 (.inr hu))]at h2;cases h2
      ·have h1:=c4 d (qg hd);rw[List.contains_iff_mem.2 hdu]at h1;cases h1
      ·obtain⟨x,hx,rfl⟩:=List.mem_map.1 hb;have hxX:=((mTX x).1 hx).1;rw[hxf x hxX]at hu;have h1:=(hXQ x hxX q0 hiQ).2;rw[Bool.or_eq_true]at h1;rcases h1 with h1|h1
       ·exact notAnc x hx (List.contains_iff_mem.1 h1)
       ·have h2:=List.all_eq_true.1 (Bool.and_eq_true_iff.1 (Bool.and_eq_true_iff.1 h1).1).2 d (qg hd);rw[List.contains_iff_mem.2 hu]at h2;cases h2
      ·rw[List.pairwise_map];refine List.Pairwise.imp_of_mem ?_ sTX;intro x y hx hy hxy d hd;have hyX:=((mTX y).1 hy).1;have hxX:=((mTX x).1 hx).1;rw[hxf y hyX]at hd;rw[hxf x hxX];have h1:=(hXX y hyX d (qg hd)).2 x hxX;simp only[hxy,decide_true,Bool.not_true,Bool.false_or,Bool.and_eq_true,Bool.not_eq_true']at h1;refine⟨fun hu=>?_,fun hu=>?_⟩
       ·rw[List.contains_iff_mem.2 hu]at h1;cases h1.1
       ·rw[List.contains_iff_mem.2 (qg hu)]at h1;cases h1.2
     rw[List.map_cons]at hr;obtain⟨v,hv,hs⟩:=past c1 hd0 _ st hlate hr;have h':=h.sim hv.symm;rw[zK]at xc;have hXi:∀x∈Sg ql p0 p,x≠q0:=fun x hx e=>by rw[e]at hx;exact hdr ((memX q0).1 hx).2.2
     have jh:∀q∈Qd++Qr,q≠q0:=fun q hq e=>by
      subst e;have hpw:=List.pairwise_append.1 (hQQ▸sQ);rcases List.mem_append.1 hq with q'|q'
      ·have:=hpw.2.2 q q' q (by simp);omega
      ·have:=(List.pairwise_cons.1 hpw.2.1).1 q q';omega
     have zL:((Sg ql p0 p).filter fun q=>!(listed.setIfInBounds q0 true).getD q true)=TX:=by rw[<-hTX];exact List.filter_congr fun x hx=>by rw[jx x (hXi x hx)]
     have next:∀(st':St) (M':Mem) (μ':Place) (a':Act) (w':World),Rel GL n S M' μ' st' a' w'->MExt S M M'->Keeps S w w'->C2 P GL sn (TX.map xf) st' (fun s=>∃q,LI q s/\vT P GL us (Qr.map (gF gs')) T q)->
       wpAnyIn (FR ro) 0 P .any ops (AZ GL n S M w K) (fuel+(ops.size-p)) (listed.setIfInBounds q0 true) a' w':=fun st' M' μ' a' w' h'' hm hb hst'=>by
      have:=ih (Qd++[q0]) Qr (listed.setIfInBounds q0 true) M' μ' st' a' w' (by simpa using js) hcl' hun' (fun j hj=>by rw[jx j (by omega)];exact hl0 j hj) (by rw[hQQ];simp) (fun q hq=>by
       rcases List.mem_append.1 hq with q'|q'
       ·rw[jx q (jh q (by simp[q']))];exact hQd q q'
       ·simp only[List.mem_singleton]at q';rw[q'];exact hself) (fun q hq=>by rw[jx q (jh q (by simp[hq]))];exact hQr q (List.mem_cons_of_mem _ hq)) wg h'' (by
       rw[zL];refine Ek _ ?_ hst';rintro u ⟨q,hq,hk⟩;exact UD hk hq)
      exact D1 this (fun e a'' w'' k=>Fd h'' hm hb e a'' w'' k)
     obtain⟨kt,hdstq⟩:=Mf xc;unfold IY at hs;rw[hgf]at hs;simp only at hs;split at hs
     ·rename_i ki;have hw:=IW h' xc ki;rw[if_pos hw];have hs:=bu hs;refine Me ro (Mg kt hs) (Md (Mh (Q:=AZ GL n S M w K) h' kt hs) ?_ (fun _ _ _ h=>h));rintro a' w' ⟨st',hst',M',μ',h'',hm,hb⟩;exact next st' M' μ' a' w' h'' hm hb hst'
     ·rename_i ki;have hw:=IW h' xc ki;rw[if_neg (by rw[hw];simp)];obtain⟨zy,hdn⟩:=hdstq (fun e=>by rw[e]at ki;simp[AS]at ki);have e1:Bg (wE g.ins) v=Bg g.ins v:=by unfold Bg;rw[bt]
      rw[e1]at hs;exact⟨fun _ _=>trivial,next _ M μ _ w (Mc h' zy hdn) (MExt.refl _ _) (Keeps.refl _ _) hs⟩
     ·exact hs.elim
theorem bv(h:NW ops.toList=true):∀i (hi:i<ops.size),(∀e∈ops[i].after,Region.binds .any e=true->e.on<i)/\(i=0\/∃e∈ops[i].after,Region.binds .any e=true/\e.on+1=i):=fun i hi=>by
 unfold NW at h;rw[List.all_eq_true]at h;have:=h i (by simpa using hi);simp only[Array.getElem?_toList,Array.getElem?_eq_getElem hi,Bool.and_eq_true,Array.all_eq_true_iff_forall_mem,Bool.or_eq_true,beq_iff_eq]at this;refine⟨fun e he hb=>by have:=this.1 e he;simpa[hb]using this,?_⟩;rcases this.2 with e|e
 ·exact .inl e
 ·rw[<-Array.any_toList,List.any_eq_true]at e;obtain⟨e,he,hb⟩:=e;simp only[Bool.and_eq_true,beq_iff_eq]at hb;exact .inr ⟨e,Array.mem_toList_iff.1 he,hb.1,hb.2⟩
theorem bw(vh:C4 P GL n mu ops=some gs)(kc:NW ops.toList=true):
  ∀(fuel k:Nat) (listed:Array Bool) (M:Mem) (μ:Place) (st:St) (a:Act) (w:World),listed.size=ops.size->k+fuel=ops.size->(∀j,j<ops.size->listed.getD j false=decide (j<k))->Rel GL n S M μ st a w->
   ev P GL (gs.drop k) st (K .normal)->wpAnyIn (FR ro) 0 P .any ops (AZ GL n S M w K) fuel listed a w:=by
 have je:=GB vh;have jv:=JS vh;have k9:=bv kc;intro fuel
 induction fuel with
 |zero=>
  intro k listed M μ st a w js hf hl h hs;rw[List.drop_eq_nil_of_le (by omega)]at hs;refine⟨?_,st,hs,CU.of h⟩;rw[List.eq_nil_iff_forall_not_mem];intro i hi;obtain⟨h1,h2,_⟩:=GD hi;have h3:=hl i h1;have:i<listed.size:=by omega
  simp only[Array.getD_eq_getD_getElem?,Array.getElem?_eq_getElem this,Option.getD_some]at h2 h3;rw[h2]at h3;have:=of_decide_eq_false h3.symm;omega
 |succ fuel ih=>
  intro k listed M μ st a w js hf hl h hs;have hk:k<ops.size:=by omega
  have wy:∀i,i∈Region.ready .any ops listed->i=k:=fun i hi=>by
   obtain⟨h1,h2,o,ho,hd⟩:=GD hi;have h3:=hl i h1;have:i<listed.size:=by omega
   simp only[Array.getD_eq_getD_getElem?,Array.getElem?_eq_getElem this,Option.getD_some]at h2 h3;rw[h2]at h3;have zR:=of_decide_eq_false h3.symm;rcases(k9 i h1).2 with e|⟨e,he,hb,e1⟩
   ·omega
   ·have zK:ops[i]=o:=by rw[Array.getElem?_eq_getElem h1]at ho;exact Option.some.inj ho
    have:=hd e (zK▸he) hb;rw[hl e.on (by omega)]at this;have:=of_decide_eq_true this;omega
  have hkin:k∈Region.ready .any ops listed:=by
   simp only[Region.ready,List.mem_filter,List.mem_range,Bool.and_eq_true,Bool.not_eq_true'];have hks:k<listed.size:=by omega
   refine⟨hk,?_,?_⟩
   ·have:=hl k hk;simp only[Array.getD_eq_getD_getElem?,Array.getElem?_eq_getElem hks,Option.getD_some]at this⊢;rw[this];simp
   ·simp only[Array.getElem?_eq_getElem hk,Option.map_some,Option.getD_some,Array.all_eq_true_iff_forall_mem];intro e he;cases hb:Region.binds .any e with
    |false=>rfl
    |true=>have jl:=(k9 k hk).1 e he hb;simp only[Bool.not_true,Bool.false_or];rw[hl e.on (by omega)];simpa using jl
  refine⟨fun k8=>(by rw[k8]at hkin;cases hkin),fun i hi=>?_⟩;obtain rfl:=wy i hi;obtain⟨g,hg,xc⟩:=jv i hk;have hdrop:gs.drop i=g::gs.drop (i+1):=by
   have:i<gs.length:=by omega
   rw[List.drop_eq_getElem_cons this];congr 1;rw[List.getElem?_eq_getElem this]at hg;exact Option.some.inj hg
  rw[hdrop]at hs;have next:∀a' w',Ar GL n S M w (fun s=>ev P GL (gs.drop (i+1)) s (K .normal)) a' w'->wpAnyIn (FR ro) 0 P .any ops (AZ GL n S M w K) fuel (listed.setIfInBounds i true) a' w':=by rintro a' w' ⟨st',wu,M',μ',h',hm,hb⟩;refine D1 (ih (i+1) _ M' μ' st' a' w' (by simpa using js) (by omega) (fun j hj=>?_) h' wu) (fun e a'' w'' k=>Fd h' hm hb e a'' w'' k);rw[getD_set _ _ _ (by omega),hl j hj];rw[Bool.eq_iff_iff];simp;omega
  unfold wpOpIn;rw[Array.getElem?_eq_getElem hk];simp only;rcases NZ (Q:=AZ GL n S M w K) xc h (IX.1 hs)with⟨hw,h2⟩|⟨hw,h2⟩
  ·rw[if_pos hw];exact KO (h2 ro) next (fun _ _ _ h=>h)
  ·rw[if_neg (by rw[hw];simp)];exact⟨fun _ _=>trivial,next _ _ h2⟩
theorem Rel.drew{M:Mem}{μ:Place}{st:St}{a:Act}(h:Rel GL n S M μ st a w):Rel GL n S M μ st a w.drew:=
 h.of h.toStoOk.drew (Mem.le_refl _) fun _ _ hv=>hv
theorem bx{β:Type}(f:α->Option β)(xs:Array α):((List.range xs.size).mapM fun i=>(xs[i]?).bind f)=xs.toList.mapM f:=by
 have key:∀(l:List α) (pre:List α),((List.range' pre.length l.length).mapM fun i=>((pre++l)[i]?).bind f)=l.mapM f:=by
  intro l
  induction l with
  |nil=>intro pre;rfl
  |cons x l ih=>intro pre;have:=ih (pre++[x]);simp only[List.append_assoc,List.singleton_append,List.length_append,List.length_singleton]at this;rw[List.length_cons,List.range'_succ,List.mapM_cons,List.mapM_cons,this];simp
 have:=key xs.toList [];simpa[List.range_eq_range']using this
theorem bz{n:Nat}(h:NX anc n p=true):∀i,p<=i->i<n->∀j,j<p->j∈anc.getD i []:=fun i h1 h2 j h3=>by
 unfold NX at h;rw[List.all_eq_true]at h;have:=h i (List.mem_range.2 h2);rw[Bool.or_eq_true]at this;rcases this with e|e
 ·rw[Nat.blt_eq]at e;omega
 ·rw[List.all_eq_true]at e;exact List.contains_iff_mem.1 (e j (List.mem_range.2 h3))
theorem bA{gs':List GI}(vh:C4 P GL n mg ops=some gs)(v6:C4 P GL n mu ops=some gs')(kc:FO ops.toList gs=true):
  ∀(f p0:Nat) (ir:IR),Mb mu rt (AU ops.toList) gs gs' f p0=some ir->(∀i,p0<=i->i<ops.size->∀j,j<p0->j∈(AU ops.toList).getD i [])->p0<=ops.size->
   ∀(listed:Array Bool) (M:Mem) (μ:Place) (st:St) (a:Act) (w:World),listed.size=ops.size->(∀j,j<ops.size->listed.getD j false=decide (j<p0))->Rel GL n S M μ st a w->W P GL ir K st->
    wpAnyIn (FR ro) 0 P .any ops (AZ GL n S M w K) (ops.size-p0) listed a w:=by
 have je:=GB vh;have hlen':=GB v6;have hget':=JS v6;have vl:Fa ops.toList (AU ops.toList)=true:=by unfold FO at kc;exact(Bool.and_eq_true_iff.1 kc).1
 have k9:=KR vl;intro f
 induction f with
 |zero=>intro p0 ir hc;simp[Mb]at hc
 |succ f ih=>
  intro p0 ir hc hb hp0 listed M μ st a w js hl h hs;have jl:∀j,j<ops.size->listed.getD j true=decide (j<p0):=fun j hj=>by rw[Mn (by omega)];exact hl j hj
  have kq:GC ops listed:=fun k hk zW e he xb=>by rw[hl k hk]at zW;have:=of_decide_eq_true zW;have h2:=k9 k hk e he xb;rw[hl e.on (by omega)];exact decide_eq_true (by omega)
  unfold Mb at hc;split at hc
  ·rename_i zR;cases hc;rw[Nat.ble_eq,je]at zR;have e0:ops.size-p0=0:=by omega
   rw[e0];refine⟨?_,st,hs,CU.of h⟩;rw[List.eq_nil_iff_forall_not_mem];intro i hi;obtain⟨h1,h2,_⟩:=GD hi;rw[jl i h1]at h2;have:=of_decide_eq_false h2;omega
  ·rename_i zR;rw[Nat.ble_eq,je]at zR;split at hc
   ·rename_i jf;generalize JN (AU ops.toList) gs.length gs.length (p0+1)=p1 at hc jf;simp only[Bool.and_eq_true,Nat.blt_eq,Nat.ble_eq]at jf;obtain⟨⟨h1,h2⟩,h3⟩:=jf;rw[je]at h2 h3;have qr:=bz h3;split at hc
    ·rename_i x y hx hy;cases hc;have ihy:=ih p1 y hy qr h2;have cont:∀(listed':Array Bool) (M':Mem) (μ':Place) (T:St) (a':Act) (w':World),listed'.size=ops.size->(∀j,j<ops.size->listed'.getD j false=decide (j<p1))->Rel GL n S M' μ' T a' w'->FV (W P GL y) K .normal T->
       wpAnyIn (FR ro) 0 P .any ops (AZ GL n S M' w' K) (ops.size-p1) listed' a' w':=fun listed' M' μ' T a' w' q1 q2 q3 q4=>by
      rcases q4 with hk|⟨T',hT',hk⟩|⟨ks,hk⟩
      ·exact ihy listed' M' μ' T a' w' q1 q2 q3 hk
      ·exact ihy listed' M' μ' T' a' w' q1 q2 (q3.sub' hT') hk
      ·exact ihy listed' M' μ' _ a' w' q1 q2 (q3.prn ks) hk
     have dre:∀(post:List Nat) (listed':Array Bool) (M':Mem) (μ':Place) (st':St) (a':Act) (w':World),listed'.size=ops.size->(∀j,j<ops.size->listed'.getD j false=decide (j<p1))->Rel GL n S M' μ' st' a' w'->FV (W P GL y) K .normal (frzNs (Df post st') st')->
       wpAnyIn (FR ro) 0 P .any ops (AZ GL n S M' w' K) (ops.size-p1) listed' a' w':=fun post listed' M' μ' st' a' w' q1 q2 q3 q4=>by
      obtain⟨M2,r1,r2⟩:=q3.frzNs (Df post st');exact D1 (cont listed' M2 μ' _ a' w' q1 q2 r1 q4) (fun e a'' w'' k=>Fd r1 r2 (Keeps.refl _ _) e a'' w'' k)
     have zM:ops.size-p0=(p1-p0)+(ops.size-p1):=by omega
     have hfilt:((List.range p1).filter fun i=>!listed.getD i true).length=p1-p0:=by
      have e:((List.range p1).filter fun i=>!listed.getD i true)=(List.range p1).filter fun i=>decide (p0<=i):=List.filter_congr fun i hi=>by rw[jl i (by have:=List.mem_range.1 hi;omega),Bool.eq_iff_iff];simp
      have e2:List.range p1=List.range p0++(List.range (p1-p0)).map (p0+·):=by
       have:p1=p0+(p1-p0):=by omega
       conv=>lhs;rw[this,List.range_add]
      rw[e,e2,List.filter_append,List.filter_eq_nil_iff.2 (fun i hi=>by simpa using List.mem_range.1 hi),List.filter_eq_self.2 (fun i hi=>by obtain⟨q,_,rfl⟩:=List.mem_map.1 hi;simp)];simp
     have hun:∀j,p1<=j->j<ops.size->listed.getD j true=false:=fun j q1 q2=>by rw[jl j q2];exact decide_eq_false (by omega)
     unfold T9 at hx;split at hx
     ·rename_i e1;cases hx;subst e1;have hk:p0<ops.size:=by omega
      have wy:∀i,i∈Region.ready .any ops listed->i=p0:=fun i hi=>by
       obtain⟨q1,q2,o,ho,hd⟩:=GD hi;have zK:ops[i]=o:=by rw[Array.getElem?_eq_getElem q1]at ho;exact Option.some.inj ho
       rw[jl i q1]at q2;have q3:=of_decide_eq_false q2;rcases Nat.lt_or_ge p0 i with q4|q4
       ·exfalso;have:=JT vl kq i q1 (by rw[zK];exact hd) p0 (qr i (by omega) q1 p0 (by omega));rw[hl p0 hk]at this;have:=of_decide_eq_true this;omega
       ·omega
      have hkin:p0∈Region.ready .any ops listed:=by
       simp only[Region.ready,List.mem_filter,List.mem_range,Bool.and_eq_true,Bool.not_eq_true'];refine⟨hk,by rw[jl p0 hk];simp,?_⟩;simp only[Array.getElem?_eq_getElem hk,Option.map_some,Option.getD_some,Array.all_eq_true_iff_forall_mem];intro e he;cases xb:Region.binds .any e with
       |false=>rfl
       |true=>have q1:=k9 p0 hk e he xb;simp only[Bool.not_true,Bool.false_or];rw[hl e.on (by omega)];simpa using q1
      have hs1:ops.size-p0=(ops.size-(p0+1))+1:=by omega
      rw[hs1];refine⟨fun k8=>(by rw[k8]at hkin;cases hkin),fun i hi=>?_⟩;obtain rfl:=wy i hi;obtain⟨g,hg,xc⟩:=hget' i hk;have hgq:Sd gs' i=g:=by simp[Sd,List.getD,hg]
      rw[hgq]at hs;have next:∀a' w',Ar GL n S M w (fun s=>FV (W P GL y) K .normal s) a' w'->wpAnyIn (FR ro) 0 P .any ops (AZ GL n S M w K) (ops.size-(i+1)) (listed.setIfInBounds i true) a' w':=by rintro a' w' ⟨st',wu,M',μ',h',hm,hbb⟩;refine D1 (cont _ M' μ' st' a' w' (by simpa using js) (fun j hj=>?_) h' wu) (fun e a'' w'' k=>Fd h' hm hbb e a'' w'' k);rw[getD_set _ _ _ (by omega),hl j hj];rw[Bool.eq_iff_iff];simp;omega
      unfold wpOpIn;rw[Array.getElem?_eq_getElem hk];simp only;rcases NZ (Q:=AZ GL n S M w K) xc h (IX.1 (show ev P GL (g::[]) st (FV (W P GL y) K .normal)from hs))with⟨hw,q2⟩|⟨hw,q2⟩
      ·rw[if_pos hw];exact KO (q2 ro) next (fun _ _ _ h=>h)
      ·rw[if_neg (by rw[hw];simp)];exact⟨fun _ _=>trivial,next _ _ q2⟩
     ·split at hx
      ·rename_i hdraw;cases hx;obtain⟨l,hs⟩:=hs;obtain⟨M1,r1,m1⟩:=h.frzNs l;generalize IT mu rt _=post at hs;generalize IS rt _=sn at hs;obtain⟨xs,wk,jg⟩:=JR _ _ _ hdraw hs;have vk:xs.length=p1-p0:=by have q:=congrArg List.length wk;simp only[List.length_map,List.length_drop,List.length_take,je]at q;omega
       have hpre:((gs.take p0).map fun g=>((g,none):X)).length=p0:=by simp[je];omega
       have hxs2:(((gs.take p0).map fun g=>((g,none):X))++xs).map (·.1)=gs.take p1:=by
        rw[List.map_append,wk,List.map_map];have e1:(gs.take p0).map ((fun x:X=>x.1) ∘ fun g=>((g,none):X))=(gs.take p1).take p0:=by rw[List.take_take,Nat.min_eq_left (by omega)];exact List.map_id _
        rw[e1,List.take_append_drop]
       have hel:((List.range p1).filter fun i=>!listed.getD i true).map (fun i=>(((gs.take p0).map fun g=>((g,none):X))++xs).getD i (⟨none,.mov 0 (.t 0)⟩,none))=xs:=by
        have e:((List.range p1).filter fun i=>!listed.getD i true)=(List.range (p1-p0)).map (p0+·):=by
         have e:((List.range p1).filter fun i=>!listed.getD i true)=(List.range p1).filter fun i=>decide (p0<=i):=List.filter_congr fun i hi=>by rw[jl i (by have:=List.mem_range.1 hi;omega),Bool.eq_iff_iff];simp
         have e2:List.range p1=List.range p0++(List.range (p1-p0)).map (p0+·):=by
          have:p1=p0+(p1-p0):=by omega
          conv=>lhs;rw[this,List.range_add]
         rw[e,e2,List.filter_append,List.filter_eq_nil_iff.2 (fun i hi=>by simpa using List.mem_range.1 hi),List.filter_eq_self.2 (fun i hi=>by obtain⟨q,_,rfl⟩:=List.mem_map.1 hi;simp)];rfl
        rw[e,List.map_map];apply List.ext_getElem
        ·simp[vk]
        ·intro i q1 q2;simp only[List.getElem_map,List.getElem_range,Function.comp];rw[List.getD_eq_getElem?_getD,List.getElem?_append_right (by omega),hpre,Nat.add_sub_cancel_left,List.getElem?_eq_getElem q2];rfl
       have:=UB (S:=S) (ro:=ro) (K:=K) (T:=fun s=>FV (W P GL y) K .normal (frzNs (Df post s) s)) h2 vh kc qr _ hxs2 (fun listed' M' μ' st' a' w' q1 q2 q3 q4=>dre post listed' M' μ' st' a' w' q1 q2 q3 q4) (p1-p0) listed M1 μ _ a w js kq hun hfilt r1 (by
        rw[hel];exact Ek xs (fun u hu=>⟨u,hu,LI.refl u⟩) jg)
       rw[zM];exact D1 this (fun e a'' w'' k=>Fd r1 m1 (Keeps.refl _ _) e a'' w'' k)
      ·split at hx
       ·rename_i qd;cases hx;generalize qL (AU ops.toList) gs p0 p1=ql at hs qd;generalize hus:vR (AU ops.toList) gs ql p0 p1=us at hs;have husn:=UH us;obtain⟨l,hs⟩:=hs;obtain⟨M1,r1,m1⟩:=h.frzNs l;rw[N2]at hs;have hdX:((Sg ql p0 p1).map (Sd gs)).all (fun g=>FQ g.ins)=true:=by rw[List.all_eq_true];intro g hg;obtain⟨x,hx,rfl⟩:=List.mem_map.1 hg;have qx:=qd;unfold IU at qx;simp only[Bool.and_eq_true,List.all_eq_true]at qx;exact qx.1.1.1.2 x hx
        obtain⟨xs,wk,jg⟩:=JR _ _ _ hdX hs;obtain⟨xf,hxf⟩:=Qp (Sg ql p0 p1) (List.Pairwise.filter _ List.nodup_range) xs (by have:=congrArg List.length wk;simpa using this) (⟨none,.mov 0 (.t 0)⟩,none);have hxf1:∀i∈Sg ql p0 p1,(xf i).1=Sd gs i:=by rw[<-hxf,List.map_map]at wk;exact fun i hi=>List.map_inj_left.1 wk i hi
        have hQc:∀g∈(YP ql p0 p1).map (gF gs'),Hz g.ins=true:=fun g hg=>by obtain⟨q,hq,rfl⟩:=List.mem_map.1 hg;have qx:=qd;unfold IU at qx;simp only[Bool.and_eq_true,List.all_eq_true]at qx;exact(qx.1.1.2 q hq).1.1.1
        have inX:∀i∈Sg ql p0 p1,p0<=i/\i<p1:=fun i hi=>by simp only[Sg,List.mem_filter,List.mem_range,Bool.and_eq_true,Nat.ble_eq]at hi;exact⟨hi.2.1,hi.1⟩
        have inQ:∀i∈YP ql p0 p1,p0<=i/\i<p1:=fun i hi=>by simp only[YP,List.mem_filter,List.mem_range,Bool.and_eq_true,Nat.ble_eq]at hi;exact⟨hi.2.1,hi.1⟩
        have:=UK (S:=S) (ro:=ro) (K:=K) (sn:=us.map (·+FS)) (T:=fun s=>FV (W P GL y) K .normal (frzNs (Df [] s) s)) h2 vh v6 kc qd hus.symm qr xf hxf1 (fun listed' M' μ' st' a' w' q1 q2 q3 q4=>dre [] listed' M' μ' st' a' w' q1 q2 q3 q4) (p1-p0) [] (YP ql p0 p1) listed M1 μ _ a w js kq hun (fun j hj=>by rw[jl j (by omega)];exact decide_eq_true hj) rfl (fun q hq=>by cases hq) (fun q hq=>by
          have:=inQ q hq;rw[jl q (by omega)];exact decide_eq_false (by omega)) hfilt r1 (by
          rw[List.filter_eq_self.2 (fun i hi=>by have:=inX i hi;rw[jl i (by omega),decide_eq_false (by omega)];rfl),hxf];refine Ek xs (fun u hu=>?_) jg;have q2:=Qo _ hQc hu;rw[husn]at q2;exact q2)
        rw[zM];exact D1 this (fun e a'' w'' k=>Fd r1 m1 (Keeps.refl _ _) e a'' w'' k)
       ·cases hx
    ·cases hc
   ·cases hc
theorem bB:∀(c:Code) (r:Option Nat) (ir:IR),comp P GL n mu rt c=some ir->(r=none\/CN ir=true)->∀(S:Sh) (K:Exit->St->Prop) (M:Mem) (μ:Place) (st:St) (a:Act) (w:World),Rel GL n S M μ st a w->W P GL ir K st->c.wpIn (FR r) 0 P (AZ GL n S M w K) a w:=by
 intro c
 induction c with
 |skip=>intro r ir hc hsf S K M μ st a w h hs;simp[comp]at hc;subst hc;exact wpIn_skip ⟨st,hs,CU.of h⟩
 |region id ops draw=>
  intro r ir hc hsf S K M μ st a w h hs;simp only[comp]at hc;split at hc
  ·rename_i hd;subst hd;unfold Ua at hc;split at hc
   ·rename_i hmix;split at hc
    ·rename_i hso;cases hg:C4 P GL n mu ops with
     |none=>simp[hg]at hc
     |some gs=>
      simp[hg]at hc;subst hc;refine wpIn_mono (wpIn_region_any (Q:=AZ GL n S M w.drew K) hmix ?_) ?_
      ·exact bw hg hso ops.size 0 (Array.replicate ops.size false) M μ st a w.drew (by simp) (by omega) (fun j hj=>by simp[hj]) h.drew hs
      ·rintro e a' w' ⟨st',hk,S',qq,M',μ',h',hm,hb⟩;exact⟨st',hk,S',qq,M',μ',h',hm,((Keeps.refl S.p w).drew).trans hb⟩
    ·split at hc
     ·rename_i gs vh;split at hc
      ·rename_i jf;split at hc
       rotate_left
       ·split at hc
        ·rename_i gs' v6;split at hc
         ·rename_i hdraw;cases hc;generalize hp:CM (AU ops.toList) ops.size=p at hs;have hple:p<=ops.size:=by rw[<-hp];exact Qm _ _
          have wj:∀i,p<=i->i<ops.size->∀j,j<i->j∈(AU ops.toList).getD i []:=by rw[<-hp];exact Qn _ _
          have vl:Fa ops.toList (AU ops.toList)=true:=by unfold FO at jf;exact(Bool.and_eq_true_iff.1 jf).1
          generalize IT mu rt _=post at hs;generalize IS rt _=sn at hs;obtain⟨l,hs⟩:=hs;obtain⟨M1,h1,m1⟩:=h.frzNs l;obtain⟨xs,wk,jg⟩:=JR _ _ _ (by rw[<-hp];exact hdraw) hs;refine wpIn_mono (wpIn_region_any (Q:=AZ GL n S M1 w.drew K) hmix ?_) ?_
          ·have zM:ops.size=p+(ops.size-p):=by omega
           have:=UB (S:=S) (ro:=r) (K:=K) (T:=fun s=>FV (W P GL (.reg (gs'.drop p))) K .normal (frzNs (Df post s) s)) hple vh jf (fun i q1 q2 j q3=>wj i q1 q2 j (by omega)) xs wk (fun listed M' μ' st' a' w' js hl h' hT=>?_) p (Array.replicate ops.size false) M1 μ _ a w.drew (by simp) (fun k hk hl=>by simp[hk]at hl) (fun j _ hj=>by simp[hj]) (by
             rw[List.filter_eq_self.2]
             ·simp
             ·intro i hi;simp only[List.mem_range]at hi;simp[show i<ops.size by omega]) h1.drew (by
             rw[List.filter_eq_self.2 (fun i hi=>by simp only[List.mem_range]at hi;simp[show i<ops.size by omega])];have e:(List.range p).map (fun i=>xs.getD i (⟨none,.mov 0 (.t 0)⟩,none))=xs:=by
              have hl:xs.length=p:=by have h1:=congrArg List.length wk;have h2:=GB vh;simp[h2]at h1;omega
              rw[<-hl];apply List.ext_getElem
              ·simp
              ·intro i h1 h2;simp[h2]
             rw[e];exact Ek xs (fun u hu=>⟨u,hu,LI.refl u⟩) jg)
           ·rw[<-zM]at this;exact this
           ·obtain⟨M2,h2,m2⟩:=h'.frzNs (Df post st');have so:∀T:St,Rel GL n S M2 μ' T a' w'->ev P GL (gs'.drop p) T (K .normal)->wpAnyIn (FR r) 0 P .any ops (AZ GL n S M' w' K) (ops.size-p) listed a' w':=fun T hT hev=>
             D1 (UC v6 vl wj (ops.size-p) p listed M2 μ' T a' w' (Nat.le_refl _) js (by omega) hl hT hev) (fun e a'' w'' k=>Fd hT m2 (Keeps.refl _ _) e a'' w'' k)
            rcases hT with hk|⟨T',hT',hk⟩|⟨ks,hk⟩
            ·exact so _ h2 hk
            ·exact so _ (h2.sub' hT') hk
            ·exact so _ (h2.prn ks) hk
          ·rintro e a' w' ⟨st',hk,S',qq,M',μ',h',hm,hb⟩;exact⟨st',hk,S',qq,M',μ',h',m1.trans hm,((Keeps.refl S.p w).drew).trans hb⟩
         ·
          rename_i hndraw;split at hc
          ·rename_i qd;cases hc;generalize hp:CM (AU ops.toList) ops.size=p at hs qd;have hple:p<=ops.size:=by rw[<-hp];exact Qm _ _
           have wj:∀i,p<=i->i<ops.size->∀j,j<i->j∈(AU ops.toList).getD i []:=by rw[<-hp];exact Qn _ _
           have vl:Fa ops.toList (AU ops.toList)=true:=by unfold FO at jf;exact(Bool.and_eq_true_iff.1 jf).1
           generalize qL (AU ops.toList) gs 0 p=ql at hs qd;generalize hus:vR (AU ops.toList) gs ql 0 p=us at hs;have husn:=UH us;obtain⟨l,hs⟩:=hs;obtain⟨M1,h1,m1⟩:=h.frzNs l;rw[N2]at hs;have hdX:((Sg ql 0 p).map (Sd gs)).all (fun g=>FQ g.ins)=true:=by rw[List.all_eq_true];intro g hg;obtain⟨x,hx,rfl⟩:=List.mem_map.1 hg;have qx:=qd;unfold IU at qx;simp only[Bool.and_eq_true,List.all_eq_true]at qx;exact qx.1.1.1.2 x hx
           obtain⟨xs,wk,jg⟩:=JR _ _ _ hdX hs;obtain⟨xf,hxf⟩:=Qp (Sg ql 0 p) (List.Pairwise.filter _ List.nodup_range) xs (by have:=congrArg List.length wk;simpa using this) (⟨none,.mov 0 (.t 0)⟩,none);have hxf1:∀i∈Sg ql 0 p,(xf i).1=Sd gs i:=by rw[<-hxf,List.map_map]at wk;exact fun i hi=>List.map_inj_left.1 wk i hi
           have hQc:∀g∈(YP ql 0 p).map (gF gs'),Hz g.ins=true:=fun g hg=>by obtain⟨q,hq,rfl⟩:=List.mem_map.1 hg;have qx:=qd;unfold IU at qx;simp only[Bool.and_eq_true,List.all_eq_true]at qx;exact(qx.1.1.2 q hq).1.1.1
           refine wpIn_mono (wpIn_region_any (Q:=AZ GL n S M1 w.drew K) hmix ?_) ?_
           ·have zM:ops.size=p+(ops.size-p):=by omega
            have:=UK (S:=S) (ro:=r) (K:=K) (sn:=us.map (·+FS)) (T:=fun s=>FV (W P GL (.reg (gs'.drop p))) K .normal (frzNs (Df [] s) s)) hple vh v6 jf qd hus.symm (fun i q1 q2 j q3=>wj i q1 q2 j (by omega)) xf hxf1 (fun listed M' μ' st' a' w' js hl h' hT=>?_) p [] (YP ql 0 p) (Array.replicate ops.size false) M1 μ _ a w.drew (by simp) (fun k hk hl=>by simp[hk]at hl) (fun j _ hj=>by simp[hj]) (fun j hj=>by omega) rfl (fun q hq=>by cases hq) (fun q hq=>by
              simp only[YP,List.mem_filter,List.mem_range]at hq;simp[show q<ops.size by omega]) (by
              rw[List.filter_eq_self.2]
              ·simp
              ·intro i hi;simp only[List.mem_range]at hi;simp[show i<ops.size by omega]) h1.drew (by
              rw[List.filter_eq_self.2 (fun i hi=>by simp only[Sg,List.mem_filter,List.mem_range]at hi;simp[show i<ops.size by omega]),hxf];refine Ek xs (fun u hu=>?_) jg;have h2:=Qo _ hQc hu;rw[husn]at h2;exact h2)
            ·rw[<-zM]at this;exact this
            ·obtain⟨M2,h2,m2⟩:=h'.frzNs (Df [] st');have so:∀T:St,Rel GL n S M2 μ' T a' w'->ev P GL (gs'.drop p) T (K .normal)->wpAnyIn (FR r) 0 P .any ops (AZ GL n S M' w' K) (ops.size-p) listed a' w':=fun T hT hev=>
              D1 (UC v6 vl wj (ops.size-p) p listed M2 μ' T a' w' (Nat.le_refl _) js (by omega) hl hT hev) (fun e a'' w'' k=>Fd hT m2 (Keeps.refl _ _) e a'' w'' k)
             rcases hT with hk|⟨T',hT',hk⟩|⟨ks,hk⟩
             ·exact so _ h2 hk
             ·exact so _ (h2.sub' hT') hk
             ·exact so _ (h2.prn ks) hk
           ·rintro e a' w' ⟨st',hk,S',qq,M',μ',h',hm,hb⟩;exact⟨st',hk,S',qq,M',μ',h',m1.trans hm,((Keeps.refl S.p w).drew).trans hb⟩
          ·split at hc
           ·rename_i c0 hch0;cases hc;refine wpIn_mono (wpIn_region_any (Q:=AZ GL n S M w.drew K) hmix ?_) ?_
            ·have:=bA (S:=S) (ro:=r) (K:=K) vh v6 jf (ops.size+1) 0 _ hch0 (fun _ _ _ j hj=>by omega) (Nat.zero_le _) (Array.replicate ops.size false) M μ st a w.drew (by simp) (fun j hj=>by simp[hj]) h.drew hs;simpa using this
            ·rintro e a' w' ⟨st',hk,S',qq,M',μ',h',hm,hb⟩;exact⟨st',hk,S',qq,M',μ',h',hm,((Keeps.refl S.p w).drew).trans hb⟩
           ·cases hc;exact(show False from hs).elim
        ·cases hc
       cases hc;rename_i hdraw;generalize IT mu rt gs=post at hs;obtain⟨l,hs⟩:=hs;obtain⟨M1,h1,m1⟩:=h.frzNs l;obtain⟨xs,wk,jg⟩:=JR _ _ _ (Bool.and_eq_true_iff.1 hdraw).1 hs;refine wpIn_mono (wpIn_region_any (Q:=AZ GL n S M1 w.drew (fun e s=>e=Exit.normal/\K .normal (frzNs (Df post s) s))) hmix ?_) ?_
       ·refine bq (S:=S) (K:=fun e s=>e=Exit.normal/\K .normal (frzNs (Df post s) s)) vh jf xs wk ops.size (Array.replicate ops.size false) M1 μ _ a w.drew (by simp) (fun k hk hl=>by simp[hk]at hl) (by
         rw[List.filter_eq_self.2]
         ·simp
         ·intro i hi;simp only[List.mem_range]at hi;simp[hi]) h1.drew (by
         rw[List.filter_eq_self.2 (fun i hi=>by simp only[List.mem_range]at hi;simp[hi])];have e:(List.range ops.size).map (fun i=>xs.getD i (⟨none,.mov 0 (.t 0)⟩,none))=xs:=by
          have hl:xs.length=ops.size:=by have h1:=congrArg List.length wk;have h2:=GB vh;simpa[h2]using h1
          rw[<-hl];apply List.ext_getElem
          ·simp
          ·intro i h1 h2;simp[h2]
         rw[e];exact Ek xs (fun u hu=>⟨u,⟨rfl,hu⟩,LI.refl u⟩) jg)
       ·rintro e a' w' ⟨st',⟨rfl,hk⟩,S',qq,M',μ',h',hm,hb⟩;obtain⟨M2,h2,m2⟩:=h'.frzNs (Df post st');exact⟨_,hk,S',qq,M2,μ',h2,(m1.trans hm).trans (m2.less qq.p),((Keeps.refl S.p w).drew).trans hb⟩
      ·cases hc
     ·cases hc
   ·cases hc
  ·rename_i hd;obtain rfl:draw=false:=by simpa using hd
   cases hg:C4 P GL n mu ops with
   |none=>simp[hg]at hc
   |some gs=>simp[hg]at hc;subst hc;refine wpIn_region (Ug (mu:=mu) (List.range ops.size) gs M μ st a w ?_ h hs);rw[bx];exact hg
 |seq x y ihx ihy=>
  intro r ir hc hsf S K M μ st a w h hs;simp only[comp]at hc;split at hc<;>cases hc;rename_i i1 i2 h1 h2;have s1:r=none\/CN i1=true:=hsf.imp id fun q=>by simp only[CN,Bool.and_eq_true]at q;exact q.1
  have s2:r=none\/CN i2=true:=hsf.imp id fun q=>by simp only[CN,Bool.and_eq_true]at q;exact q.2
  refine wpIn_seq (wpIn_mono (ihx r _ h1 s1 S _ M μ st a w h hs) ?_);rintro e a' w' ⟨st',hk,j9⟩;cases e with
  |normal=>
   obtain⟨S',qq,M',μ',h',hm,hb⟩:=j9;rcases hk with hk|⟨T',hT,hk⟩|⟨ks,hk⟩
   ·exact wpIn_mono (ihy r _ h2 s2 S' _ M' μ' st' a' w' h' hk) (fun e a'' w'' k=>N8 qq hm hb e a'' w'' k)
   ·have h'':=h'.sub' hT;exact wpIn_mono (ihy r _ h2 s2 S' _ M' μ' T' a' w' h'' hk) (fun e a'' w'' k=>N8 qq hm hb e a'' w'' k)
   ·have h'':=h'.prn ks;exact wpIn_mono (ihy r _ h2 s2 S' _ M' μ' _ a' w' h'' hk) (fun e a'' w'' k=>N8 qq hm hb e a'' w'' k)
  |_=>exact⟨st',hk,j9⟩
 |cond c x y ihx ihy=>
  intro r ir hc hsf S K M μ st a w h hs;simp only[comp]at hc;split at hc<;>cases hc;rename_i oc i1 i2 h0 h1 h2;have s1:r=none\/CN i1=true:=hsf.imp id fun q=>by simp only[CN,Bool.and_eq_true]at q;exact q.1
  have s2:r=none\/CN i2=true:=hsf.imp id fun q=>by simp only[CN,Bool.and_eq_true]at q;exact q.2
  have hr:=AB h h0;simp only[W]at hs;split at hs
  ·rename_i t e;rw[e]at hr;have hb:=E6 (AK hr);cases t with
   |true=>exact wpIn_cond_true hb (ihx r _ h1 s1 S _ M μ st a w h (hs.1 rfl))
   |false=>exact wpIn_cond_false hb (ihy r _ h2 s2 S _ M μ st a w h (hs.2 rfl))
  ·exact hs.elim
 |block id c ih=>
  intro r ir hc hsf S K M μ st a w h hs;simp only[comp,Option.map_eq_some_iff]at hc;obtain⟨i1,h1,rfl⟩:=hc;refine wpIn_block (wpIn_mono (ih r _ h1 hsf S _ M μ st a w h hs) ?_);rintro e a' w' ⟨st',hk,j9⟩;cases e with
  |exit id'=>
   simp only[C5]at hk;simp only[Exit.inBlock];split
   ·rename_i e;rw[if_pos e]at hk;exact⟨st',hk,j9⟩
   ·rename_i e;rw[if_neg e]at hk;exact⟨st',hk,j9⟩
  |_=>exact⟨st',hk,j9⟩
 |loop c ih=>
  intro r ir hc hsf S K M μ st a w h hs;simp only[comp,Option.map_eq_some_iff]at hc;obtain⟨i1,h1,rfl⟩:=hc;obtain⟨ι,F,m,i0,ky,hround⟩:=hs;refine bo (α:=ι) (fun i a' w'=>CU GL n S M w (F i) a' w') m i0 (CU.of (h.sub' ky)) ?_;rintro i a' w' ⟨S',qq,M',μ',h',hm,hb⟩;refine wpIn_mono (ih r _ h1 hsf S' _ M' μ' _ a' w' h' (hround i)) ?_;rintro e a'' w'' ⟨st'',hk,j9⟩;cases e with
  |normal=>obtain⟨i',jl,zC⟩:=hk;obtain⟨S2,g2,M2,μ2,h2,m2,b2⟩:=j9;exact⟨i',CU.trans qq hm hb ⟨S2,g2,M2,μ2,h2.sub' zC,m2,b2⟩,jl⟩
  |_=>exact⟨st'',hk,j9.trans qq hm hb⟩
 |exit id=>intro r ir hc hsf S K M μ st a w h hs;simp[comp]at hc;subst hc;exact wpIn_exit ⟨st,hs,CU.of h⟩
 |ret=>intro r ir hc hsf S K M μ st a w h hs;simp[comp]at hc;subst hc;exact wpIn_ret ⟨st,hs,CU.of h⟩
 |rangeFunc g ps x y ihx ihy=>
  intro r ir hc hsf S K M μ st a w h hs;simp only[comp]at hc;split at hc
  ·rename_i og ix iy h0 h1 h2;split at hc
   ·rename_i hfree;cases hc;rcases hsf with rfl|hsf
    ·simp only[Bool.and_eq_true,List.all_eq_true,Nat.blt_eq]at hfree;exact bk h h0 hfree.2 (fun l=>ihx (some l) ix h1 (.inr hfree.1.1)) (fun l=>ihy (some l) iy h2 (.inr hfree.1.2)) hs
    ·simp[CN]at hsf
   ·cases hc
  ·cases hc
 |_=>intro r ir hc;simp[comp]at hc
theorem bC(r:Option Nat)(c:Code)(ir:IR)(hc:comp P GL n mu rt c=some ir)(hf:r=none\/CN ir=true)(S:Sh)(K:Exit->St->Prop)(M:Mem)(μ:Place)(st:St)(a:Act)(w:World)(h:Rel GL n S M μ st a w)(hs:W P GL ir K st):c.wpIn (FR r) 0 P (AZ GL n S M w K) a w:=
 bB c r ir hc hf S K M μ st a w h hs
end
end Go.Dl
