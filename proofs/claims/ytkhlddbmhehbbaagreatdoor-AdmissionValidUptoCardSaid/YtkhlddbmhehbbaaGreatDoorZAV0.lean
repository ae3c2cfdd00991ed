/-Lemmas.-/
import Derived.Test.YtkhlddbmhehbbaaGreatDoorU24
set_option linter.all false
set_option maxRecDepth 100000
set_option maxHeartbeats 8000000
namespace Go.Proofs.YtkhlddbmhehbbaaGreatDoor
open Go Go.Dl Go.As Go.Proofs
variable {mx:Int}
attribute[local irreducible] Ah Ai MC W2 EM ev evD step Ad
section
theorem Wj(l:List Ent)(e:Ent):Af Am (Db l e).1<=Am e/\(Db l e).1.length<=1:=by
 unfold Db;split
 ·simp[Af]
 ·simp[Af,DS,Ba]
theorem fB(tick:Int)(f:Fct):Am (BN tick f)<=Bz f+200:=by
 have h1:=DS (BN tick f);have h4:DD JS<=40:=by decide
 have h5:Cl CU<=40:=by decide
 unfold BN at*;simp only at h1;omega
theorem aE8(tick:Int)(x:Ers):Am (EI tick x)<=DD x+200:=by
 have h1:=DS (EI tick x);have h4:Bz CT<=40:=by decide
 have h5:Cl CU<=40:=by decide
 unfold EI at*;simp only at h1;omega
theorem SC(l:List Ent)(p:Pol)(tick:Int)(f:Fct):Af Am (Bg l p tick f).1<=Bz f+200/\(Bg l p tick f).1.length<=1:=by
 have h1:=Wj l (BN tick f);have h2:=fB tick f;unfold Bg
 repeat' split
 all_goals first|(simp[Af];done)|(exact⟨by omega,by omega⟩)
theorem Wk(l:List Ent)(tick:Int)(x:Ers):Af Am (CC l tick x).1<=DD x+200/\(CC l tick x).1.length<=1:=by
 have h1:=Wj l (EI tick x);have h2:=aE8 tick x;unfold CC
 repeat' split
 all_goals first|(simp[Af];done)|(exact⟨by omega,by omega⟩)
end
section
theorem Wl(tick:Int)(id:Fid):∀(l:List Ent) (m:List (Fid×Dy)) (a:Ent×Bool),(Al m id).getD no0=(a.2,a.1)->(Al ((BM l tick).foldl gv m) id).getD no0=((l.foldl (ge id tick) a).2,(l.foldl (ge id tick) a).1)
 |[],m,a,h=>h
 |e::l,m,a,h=>by
  unfold BM;rw[List.filter_cons];by_cases ht:e.tick<=tick
  ·rw[if_pos (by simpa using ht),List.foldl_cons,List.foldl_cons];refine Wl tick id l _ _ ?_;unfold gv ge JX;by_cases hk:e.kind=1
   ·rw[if_neg (by simpa using hk),VI];by_cases hb:Ay e.fact=id
    ·have hc:(!(decide (e.kind≠1)||decide (tick<e.tick)||!decide (Ay e.fact=id)))=true:=by grind
     rw[if_pos hb,if_pos hc,hb,h];rfl
    all_goals grind
   all_goals grind
  ·rw[if_neg (by simpa using ht),List.foldl_cons];have hc:ge id tick a e=a:=by unfold ge JX;grind
   rw[hc];exact Wl tick id l m a h
theorem aEv(l:List Ent)(tick:Int)(id:Fid):(Al (I1 l tick) id).getD no0=((Ea l id tick).2,(Ea l id tick).1):=Wl tick id l [] (PX,false) rfl
theorem fC{κ α:Type}[DecidableEq κ]:∀{m:List (κ×α)} {p:κ×α},(m.map (·.1)).Nodup->p∈m->Al m p.1=some p.2
 |q::r,p,hn,h=>by
  rw[List.map_cons,List.nodup_cons]at hn;simp only[Al];rcases List.mem_cons.1 h with e|e
  ·rw[e,if_pos rfl]
  ·have:¬q.1=p.1:=fun k=>hn.1 (k▸List.mem_map.2 ⟨p,e,rfl⟩)
   rw[if_neg this];exact fC hn.2 e
theorem fD{l:List Ent}(h:Valid l)(tick:Int)(id:Fid):Ie (OH l l.length).ids (id,(Al (I1 l tick) id).getD no0)=GS l id tick:=by unfold Ie GS Fc;rw[aEv,fu h]
theorem aEw{l:List Ent}(h:Valid l)(tick:Int)(r:Rw):r∈Lg l tick↔∃id,GS l id tick=some r:=by
 unfold Lg;rw[(Qe _).mem_iff];unfold rowsB;rw[List.mem_filterMap];have hk:=Vs l tick;constructor
 ·rintro⟨p,hp,e⟩;refine⟨p.1,?_⟩;rw[<-fD h,fC hk hp];exact e
 ·rintro⟨id,e⟩;rw[<-fD h]at e;cases hg:Al (I1 l tick) id with
  |none=>rw[hg]at e;simp[Ie]at e
  |some b=>rw[hg]at e;exact⟨(id,b),aget_mem hg,e⟩
theorem SD{l:List Ent}{gone:List Fid}{id:Fid}{tick:Int}{r:Rw}(h:Fc l gone id tick=some r):r.id=id:=by
 unfold Fc at h;split at h
 ·cases h
 ·cases h;rfl
theorem fE:∀(l:List Ent) (acc:List Fid) (x:Fid),x∈l.foldl K7 acc↔x∈acc\/∃e∈l,e.kind=1/\Ay e.fact=x
 |[],acc,x=>by simp
 |e::l,acc,x=>by
  rw[List.foldl_cons,fE l];unfold K7;by_cases hk:e.kind=1
  ·rw[if_pos hk,P5];grind
  all_goals grind
theorem fF:∀(l:List Ent) (acc:List Fid),acc.Pairwise DY->(l.foldl K7 acc).Pairwise DY
 |[],acc,h=>h
 |e::l,acc,h=>by
  rw[List.foldl_cons];refine fF l _ ?_;unfold K7;split
  ·exact Vi h
  ·exact h
theorem fG(id:Fid)(tick:Int):∀(l:List Ent) (a:Ent×Bool),(l.foldl (ge id tick) a).2=true->a.2=true\/∃e∈l,JX id tick e=true/\e.fact.kind=1
 |[],a,h=>.inl h
 |e::l,a,h=>by
  rw[List.foldl_cons]at h;rcases fG id tick l _ h with q|⟨e2,h1,h2⟩
  ·unfold ge at q;grind
  all_goals grind
theorem SE{id:Fid}{tick:Int}{e:Ent}:JX id tick e=true↔e.kind=1/\e.tick<=tick/\Ay e.fact=id:=by unfold JX;grind
theorem aEx{l:List Ent}{gone:List Fid}{id:Fid}{tick:Int}{r:Rw}(h:Fc l gone id tick=some r):id∈Of l:=by
 unfold Fc at h;split at h
 ·cases h
 ·rename_i q;have hs:(Ea l id tick).2=true:=by
   cases e:(Ea l id tick).2
   ·rw[e]at q;simp at q
   ·rfl
  rcases fG id tick l _ hs with q2|⟨e,h1,h2,_⟩
  ·cases q2
  ·have:=SE.1 h2;unfold Of;rw[fE];exact .inr ⟨e,h1,this.1,this.2.2⟩
theorem aEy{a b:Fid}(h:DY a b):0<CS b a:=by
 rcases(R1 a b).1 h with q|⟨q1,q2⟩
 ·have h1:¬Op.bytesLess b.source a.source=true:=fun k=>P3 _ (R0 _ _ _ q k)
  have h2:¬b.source=a.source:=fun e=>P3 a.source (by rw[e]at q;exact q)
  unfold CS;rw[if_neg h1,if_neg h2];decide
 ·have h1:¬Op.bytesLess b.source a.source=true:=by rw[q1];exact P3 _
  have h2:¬b.seq<a.seq:=by omega
  unfold CS D7;rw[if_neg h1,if_pos q1.symm,if_neg h2,if_pos q2];decide
theorem aEz{a b:Rw}(h:B7 a b):0<FC b a:=by
 rcases(P8 a b).1 h with q|⟨q1,q2⟩
 ·have h1:D7 b.event a.event=1:=by unfold D7;rw[if_neg (by omega),if_pos q]
  unfold FC;rw[h1,if_pos (by decide)];decide
 ·have h1:D7 b.event a.event=0:=by unfold D7;rw[q1,if_neg (by omega),if_neg (by omega)]
  unfold FC;rw[if_neg (by omega)];exact aEy q2
theorem fH{l:List Rw}{r x:Rw}:x∈putRow l r↔x=r\/x∈l:=bU
theorem fI{r:Rw}{l:List Rw}(hl:l.Pairwise B7)(v8:∀y∈l,y.id≠r.id):∀k,k<=l.length->(∀y∈l.take (K6 l r k),B7 y r)/\∀y∈(l.take k).drop (K6 l r k),B7 r y
 |0,_=>by simp[K6]
 |k+1,hk=>by
  have jk:k<l.length:=hk;have ih:=fI hl v8 k (by omega);have hkm:=AA jk;unfold K6;split
  ·rename_i hc;refine⟨ih.1,fun y hy=>?_⟩;rw[Cg jk]at hy;have wh:=bA l r k;rw[List.drop_append_of_le_length (by rw[List.length_take];omega)]at hy;rcases List.mem_append.1 hy with q|q
   ·exact ih.2 y q
   ·rw[List.mem_singleton.1 q];rcases R3 (l.getD k default) r with q|q|q
    ·unfold B7 at q;omega
    ·exact absurd q.2 (v8 _ hkm)
    ·exact q
  ·rename_i hc;have jn:B7 (l.getD k default) r:=by
    rcases R3 (l.getD k default) r with q|q|q
    ·exact q
    ·exact absurd q.2 (v8 _ hkm)
    ·exact absurd (aEz q) hc
   refine⟨fun y hy=>?_,fun y hy=>?_⟩
   ·rw[Cg jk]at hy;rcases List.mem_append.1 hy with q|q
    ·have hp:(l.take k++l.drop k).Pairwise B7:=by rw[List.take_append_drop];exact hl
     rw[List.pairwise_append]at hp;exact I0.tr _ _ _ (hp.2.2 y q (l.getD k default) (by rw[El jk];exact List.mem_cons_self)) jn
    ·rw[List.mem_singleton.1 q];exact jn
   ·rw[List.drop_eq_nil_of_le (by rw[List.length_take];omega)]at hy;cases hy
theorem aF0{l:List Rw}{r:Rw}(hl:l.Pairwise B7)(v8:∀y∈l,y.id≠r.id):(putRow l r).Pairwise B7:=by have h:=fI hl v8 l.length (Nat.le_refl _);rw[List.take_length]at h;exact bT hl h.1 h.2
theorem Wm(l:List Ent)(gone:List Fid)(tick:Int):∀(ids:List Fid) (acc:List Rw),ids.Nodup->acc.Pairwise B7->(∀y∈acc,y.id∉ids)->(ids.foldl (Ia l gone tick) acc).Pairwise B7/\∀r,r∈ids.foldl (Ia l gone tick) acc↔r∈acc\/∃id∈ids,Fc l gone id tick=some r
 |[],acc,_,h,_=>⟨h,fun r=>by simp⟩
 |id::ids,acc,hn,h,hd=>by
  rw[List.nodup_cons]at hn;rw[List.foldl_cons];unfold Ia;cases hf:Fc l gone id tick with
  |none=>have ih:=Wm l gone tick ids acc hn.2 h (fun y hy q=>hd y hy (List.mem_cons_of_mem _ q));refine⟨ih.1,fun r=>?_⟩;have:=ih.2 r;unfold Ia at this;grind
  |some r0=>
   have hr0:=SD hf;have ih:=Wm l gone tick ids (putRow acc r0) hn.2 (aF0 h (fun y hy e=>hd y hy (by rw[e,hr0];exact List.mem_cons_self))) (fun y hy q=>by
    rcases fH.1 hy with e|e
    ·rw[e,hr0]at q;exact hn.1 q
    ·exact hd y e (List.mem_cons_of_mem _ q))
   refine⟨ih.1,fun r=>?_⟩;have:=ih.2 r;unfold Ia at this;grind[fH]
theorem Hu(l:List Ent)(tick:Int):(DW l tick).Pairwise B7/\∀r,r∈DW l tick↔∃id,GS l id tick=some r:=by
 have h:=Wm l (AF l) tick (Of l) [] (yO Ic (fF l [] List.Pairwise.nil)) List.Pairwise.nil (fun y hy=>by cases hy);refine⟨h.1,fun r=>?_⟩;rw[show DW l tick=(Of l).foldl (Ia l (AF l) tick) []from rfl,h.2];constructor
 ·rintro(q|⟨id,_,q⟩)
  ·cases q
  ·exact⟨id,q⟩
 ·rintro⟨id,q⟩;exact .inr ⟨id,aEx q,q⟩
theorem aF1(l:List Ent)(tick:Int):(Lg l tick).Pairwise B7:=cB (Vt _ _ (Vs l tick))
theorem Wn{l:List Ent}(h:Valid l)(tick:Int):Lg l tick=DW l tick:=
 Lb I0 (aF1 l tick) (Hu l tick).1 fun r=>by grind[aEw,Hu]
theorem fJ{l:List Ent}{gone:List Fid}{id:Fid}{tick:Int}{r:Rw}(h:Fc l gone id tick=some r):r=JY (Ea l id tick).1 id:=by unfold Fc at h;grind
end
section
theorem Valid.seq{l:List Ent}(h:Valid l){i:Nat}(hi:i<l.length)(hk:(l.getD i default).kind=1):1<=(l.getD i default).fact.id.seq:=by
 have:=(h.fact hi hk).2;unfold C2 at this;split at this
 ·simp at this
 ·rename_i q;unfold H8 at q;simp only[Bool.not_eq_false,Bool.and_eq_true,decide_eq_true_eq]at q;exact q.1.1.1.2
end
section
theorem MP{α:Type}{l:List α}{e d:α}{i:Nat}(h:i<l.length):(l++[e]).getD i d=l.getD i d:=by grind
theorem J3{α:Type}{l:List α}{e d:α}:(l++[e]).getD l.length d=e:=by simp
theorem Wp(l:List Ent)(e:Ent):∀i,i<=l.length->Bm (l++[e]) i=Bm l i
 |0,_=>rfl
 |i+1,h=>by rw[Bm,Bm,MP (by omega),Wp l e i (by omega),List.take_append_of_le_length (by omega)]
theorem aF2(l:List Ent)(e:Ent)(hk:e.kind=2):AF (l++[e])=if e.erasure.kind=2 then EH (AF l) e.erasure.id else D9 l (atR l 1099511627776) e.erasure (AF l):=by unfold AF;rw[List.length_append,List.length_cons,List.length_nil,Bm,J3,Wp l e _ (Nat.le_refl _),if_neg (by simp[hk]),List.take_append_of_le_length (Nat.le_refl _),List.take_length]
theorem aF3(l:List Ent)(e:Ent)(hk:e.kind≠1)(id:Fid)(tick:Int):Ea (l++[e]) id tick=Ea l id tick:=by unfold Ea;rw[List.foldl_append,List.foldl_cons,List.foldl_nil];unfold ge;grind[SE]
theorem aF4(l:List Ent)(e:Ent)(hk:e.kind=2){x:Fid}(h:x∈AF l):x∈AF (l++[e]):=by
 rw[aF2 l e hk];split
 ·exact P5.2 (.inr h)
 ·exact(R2 _ _ _ _ _).2 (.inl h)
theorem fK(l:List Ent)(e:Ent)(hk:e.kind=2)(id:Fid)(tick:Int)(r:Rw):GS (l++[e]) id tick=some r↔GS l id tick=some r/\Be (AF (l++[e])) id=false:=by
 have kh:Be (AF l) id=true->Be (AF (l++[e])) id=true:=fun h=>(P6 _ _).2 (aF4 l e hk ((P6 _ _).1 h))
 unfold GS Fc;grind[aF3]
theorem aF5{l:List Ent}{e:Ent}(hk:e.kind=2)(tick:Int):DW (l++[e]) tick=(DW l tick).filter fun r=>!Be (AF (l++[e])) r.id:=by
 refine Lb I0 (Hu _ tick).1 ((Hu l tick).1.filter _) fun r=>?_
 rw[(Hu _ tick).2,List.mem_filter,(Hu l tick).2];constructor
 ·rintro⟨id,h⟩;obtain⟨h1,h2⟩:=(fK l e hk id tick r).1 h;exact⟨⟨id,h1⟩,by rw[SD h1,h2];rfl⟩
 ·rintro⟨⟨id,h1⟩,h2⟩;refine⟨id,(fK l e hk id tick r).2 ⟨h1,?_⟩⟩;rw[SD h1]at h2;simpa using h2
end
section
theorem aF6(l:List Ent)(e:Ent){i:Nat}(hi:i<l.length):DV (l++[e]) i=DV l i:=by unfold DV;rw[List.take_append_of_le_length (by omega)];congr 1;funext x;unfold IW;rw[MP hi]
theorem aF7(l:List Ent)(e:Ent){i:Nat}(hi:i<l.length)(c:Cat):CA (l++[e]) i c=CA l i c:=by
 have h:Dw (l++[e]) i (l.getD i default)=Dw l i (l.getD i default):=by
  unfold Dw;by_cases h0:0<i
  ·rw[MP (by omega)]
  ·simp[h0]
 unfold CA;rw[MP hi,h,aF6 l e hi]
theorem SF(l:List Ent)(e:Ent):∀i,i<=l.length->A1 (l++[e]) i=A1 l i
 |0,_=>rfl
 |i+1,h=>by rw[A1,A1,SF l e i (by omega),aF7 l e (by omega)]
theorem Wq{l:List Ent}(h:AW l=0)(e:Ent)(hn:l.length<4096)(h1:(CA (l++[e]) l.length (Bu l l.length)).2=0):AW (l++[e])=0:=by have hV:=Ec h;unfold AW;rw[if_neg (by simp;omega),List.length_append,List.length_cons,List.length_nil,A1,SF l e _ (Nat.le_refl _),if_neg (by simp[hV.err _ (Nat.le_refl _)])];exact h1
end
section
theorem Wr{l:List Ent}(h:Valid l):A2 l=Bu l l.length:=by have:=h.atR (Nat.le_refl l.length);rw[List.take_length]at this;exact this
theorem SG{l:List Ent}(h:Valid l){tick:Int}(he:BT l tick=false):0<=tick/\tick<=1099511627776/\(0<l.length->(l.getD (l.length-1) default).tick<=tick):=by
 unfold BT at he;rw[Bool.or_eq_false_iff,decide_eq_false_iff_not,decide_eq_false_iff_not]at he;by_cases h0:l.length=0
 ·rw[if_pos h0]at he;omega
 ·rw[if_neg h0]at he;have:=h.tick (i:=l.length-1) (by omega);unfold A6 at he;omega
theorem aF8{l:List Ent}(h:Valid l):1<=MU l/\(0<l.length->(l.getD (l.length-1) default).no<MU l):=by
 unfold MU;by_cases h0:l.length=0
 ·rw[if_pos h0];omega
 ·rw[if_neg h0];have:=h.order (i:=l.length-1) (by omega);simp only[EG,Bool.or_eq_false_iff,decide_eq_false_iff_not]at this;unfold A6;omega
theorem fL{l:List Ent}(h:Valid l){e:Ent}(he:BT l e.tick=false)(hn:MU l<=1099511627776):
  (EG (Ba e (MU l))||Dw (l++[Ba e (MU l)]) l.length (Ba e (MU l)))=false:=by
 obtain⟨h1,h2,h3⟩:=SG h he;obtain⟨h4,h5⟩:=aF8 h;have ha:EG (Ba e (MU l))=false:=by have e1:(Ba e (MU l)).no=MU l:=rfl;have e2:(Ba e (MU l)).tick=e.tick:=rfl;unfold EG;rw[e1,e2,Bool.or_eq_false_iff,Bool.or_eq_false_iff,Bool.or_eq_false_iff];exact⟨⟨⟨decide_eq_false (by omega),decide_eq_false (by omega)⟩,decide_eq_false (by omega)⟩,decide_eq_false (by omega)⟩
 have hb:Dw (l++[Ba e (MU l)]) l.length (Ba e (MU l))=false:=by
  generalize hx:Ba e (MU l)=x;have e1:x.no=MU l:=by rw[<-hx];rfl
  have e2:x.tick=e.tick:=by rw[<-hx];rfl
  unfold Dw;by_cases h0:0<l.length
  ·rw[MP (by omega),Bool.and_eq_false_iff,Bool.or_eq_false_iff];have:=h3 h0;have:=h5 h0;exact .inr ⟨decide_eq_false (by omega),decide_eq_false (by omega)⟩
  ·rw[decide_eq_false h0];rfl
 rw[ha,hb];rfl
theorem aF9{l:List Ent}{f:Fct}{e:Ent}(h:Fd l f=none)(hf:e.fact=f):DV (l++[e]) l.length=false:=by unfold DV;rw[List.take_append_of_le_length (Nat.le_refl _),List.take_length,List.any_eq_false];intro x hx;have:=List.find?_eq_none.1 h x hx;unfold IW;rw[J3,hf];exact this
theorem aFa{l:List Ent}{f:Fct}(h1:DX l f≠1)(h2:DX l f≠2):Fd l f=none:=by
 unfold DX at h1 h2;cases e:Fd l f with
 |none=>rfl
 |some x=>rw[e]at h1 h2;simp only at h1 h2;split at h1<;>simp_all
theorem Ll{l:List Ent}{p:Pol}{tick:Int}{f:Fct}{m:List Ent}{e:Int}(h:Bg l p tick f=(m,e)):m=[]\/
  (e=0/\m=[Ba (BN tick f) (MU l)]/\l.length<4096/\MU l<=1099511627776/\CM p=0/\BT l tick=false/\C2 (A2 l) f=0/\Be (AF l) (Ay f)=false/\Fd l f=none/\GU p tick f=0/\Ib p f (A7 l f)=false):=by
 unfold Bg at h;split at h
 ·cases h;exact .inl rfl
 rename_i a1;split at h
 ·cases h;exact .inl rfl
 rename_i a2;split at h
 ·cases h;exact .inl rfl
 rename_i a3;split at h
 ·cases h;exact .inl rfl
 rename_i a4;split at h
 ·cases h;exact .inl rfl
 rename_i a5;split at h
 ·cases h;exact .inl rfl
 rename_i a6;split at h
 ·cases h;exact .inl rfl
 rename_i a7;unfold Db at h;split at h
 ·cases h;exact .inl rfl
 rename_i a8;cases h;refine .inr ⟨rfl,rfl,by omega,by omega,?_,?_,?_,by simpa using a3,aFa a4 a5,?_,by simpa using a7⟩
 ·exact Classical.byContradiction fun q=>a1 (.inl q)
 ·cases q:BT l tick
  ·rfl
  ·exact absurd (.inr q) a1
 ·exact Classical.byContradiction a2
 ·exact Classical.byContradiction a6
theorem OC{l:List Ent}(hl:AW l=0){p:Pol}{tick:Int}{f:Fct}{m:List Ent}{e:Int}(h:Bg l p tick f=(m,e)):AW (l++m)=0:=by
 have hV:=Ec hl;rcases Ll h with rfl|⟨_,rfl,h1,h2,_,h3,h4,_,h5,_,_⟩
 ·rw[List.append_nil];exact hl
 ·refine Wq hl _ h1 ?_;have ho:=fL hV (e:=BN tick f) h3 h2;have ht:DV (l++[Ba (BN tick f) (MU l)]) l.length=false:=aF9 h5 rfl;rw[Wr hV]at h4;unfold CA;rw[J3,if_neg (by rw[ho];simp),if_neg (by simp[Fb,Ba,BN,IV,R9,Sa]),if_pos (show(Ba (BN tick f) (MU l)).kind=1 from rfl),if_neg (by rw[ht];simp)];exact h4
theorem fM{l:List Ent}(hl:AW l=0){tick:Int}{x:Ers}{m:List Ent}{e:Int}(h:CC l tick x=(m,e)):AW (l++m)=0/\(e=0↔m.length=1)/\(m=[]\/m=[Ba (EI tick x) (MU l)]/\BT l tick=false):=by
 have hV:=Ec hl;unfold CC at h;split at h
 ·cases h;exact⟨by rw[List.append_nil];exact hl,by simp,.inl rfl⟩
 rename_i a1;rw[Bool.not_eq_true,Bool.or_eq_false_iff,Bool.not_eq_false']at a1;unfold Db at h;split at h
 ·cases h;exact⟨by rw[List.append_nil];exact hl,by simp,.inl rfl⟩
 rename_i a2;cases h;refine⟨Wq hl _ (by omega) ?_,by simp,.inr ⟨rfl,a1.1⟩⟩;have ho:=fL hV (e:=EI tick x) a1.1 (by omega);unfold CA;rw[J3,if_neg (by rw[ho];simp),if_neg (by simp[Fb,Ba,EI,JR,IV,R9,Sa]),if_neg (by simp[Ba,EI]),if_pos (show(Ba (EI tick x) (MU l)).kind=2 from rfl),if_neg (by show¬D8 x=false;rw[a1.2];simp)]
end
section
theorem Ws(l:List Ent)(e:Ent)(hk:e.kind≠2):AF (l++[e])=AF l:=by unfold AF;rw[List.length_append,List.length_cons,List.length_nil,Bm,J3,Wp l e _ (Nat.le_refl _),if_pos (by simpa using hk)]
theorem aFb(l:List Ent)(e:Ent)(id:Fid){tick:Int}(ht:tick<e.tick):Ea (l++[e]) id tick=Ea l id tick:=by unfold Ea;rw[List.foldl_append,List.foldl_cons,List.foldl_nil];unfold ge;rw[if_neg (fun h=>by have:=(SE.1 h).2.1;omega)]
theorem aFc{l:List Ent}{e:Ent}(hk:e.kind≠2){tick:Int}(ht:tick<e.tick):DW (l++[e]) tick=DW l tick:=by
 refine Lb I0 (Hu _ tick).1 (Hu l tick).1 fun r=>?_
 rw[(Hu _ tick).2,(Hu l tick).2];have hf:∀id,GS (l++[e]) id tick=GS l id tick:=fun id=>by unfold GS Fc;rw[Ws l e hk,aFb l e id ht]
 constructor
 ·rintro⟨id,h⟩;exact⟨id,by rw[<-hf];exact h⟩
 ·rintro⟨id,h⟩;exact⟨id,by rw[hf];exact h⟩
theorem aFd{l:List Ent}{p:Pol}{tick:Int}{f:Fct}{m:List Ent}{e:Int}(h:Bg l p tick f=(m,e)):DW (l++m) (tick-1)=DW l (tick-1):=by
 rcases Ll h with rfl|⟨_,rfl,_⟩
 ·rw[List.append_nil]
 ·exact aFc (by show(1:Int)≠2;decide) (by show tick-1<tick;omega)
end
section
theorem aFq(l:List Ent)(t:Int):(DW l t).filter (fun r=>!Be (AF l) r.id)=DW l t:=by
 refine List.filter_eq_self.2 fun r hr=>?_
 obtain⟨id,v8⟩:=((Hu l t).2 r).1 hr;have:=SD v8;cases q:Be (AF l) r.id
 ·rfl
 ·rw[this]at q;unfold GS Fc at v8;rw[q]at v8;simp at v8
theorem aFr{l:List Ent}(hl:AW l=0){p:Pol}{tick:Int}{f:Fct}{m:List Ent}{e:Int}(h:Bg l p tick f=(m,e)):DW (l++m) (IntKind.i64.wrap (tick-1))=DW l (IntKind.i64.wrap (tick-1)):=by
 rcases Ll h with rfl|⟨_,_,_,_,_,he,_⟩
 ·rw[List.append_nil]
 ·have:=SG (Ec hl) he;rw[BH (by omega) (by omega)];exact aFd h
theorem aFs{l:List Ent}(hl:AW l=0){tick:Int}{x:Ers}{m:List Ent}{e:Int}(h:CC l tick x=(m,e))(t:Int):
  DW (l++m) t=(DW l t).filter fun r=>!Be (AF (l++m)) r.id:=by
 obtain⟨_,_,rfl|⟨rfl,_⟩⟩:=fM hl h
 ·rw[List.append_nil];exact(aFq l t).symm
 ·exact aF5 rfl t
end
section
theorem fX(id:Fid)(tick:Int):∀(l:List Ent) (a:Ent×Bool),(l.foldl (ge id tick) a).1=a.1\/(l.foldl (ge id tick) a).1∈l
 |[],a=>.inl rfl
 |e::l,a=>by
  rw[List.foldl_cons];rcases fX id tick l (ge id tick a e)with q|q
  ·rw[q];unfold ge;grind
  all_goals grind
theorem aGc(e:Ent):e.fact.fields.length<=Am e:=by have h1:=DS e;have h2:=IC (b:=EZ) (fun x=>by unfold EZ;omega) e.fact.fields;have h3:Bz e.fact=Bz e.fact:=rfl;unfold Bz at h3 h1;omega
theorem aGd{l:List Ent}{gone:List Fid}{id:Fid}{tick:Int}{r:Rw}(h:Fc l gone id tick=some r):r.fields.length<=Af Am l:=by
 rw[fJ h];show(Ea l id tick).1.fact.fields.length<=_;rcases fX id tick l (PX,false)with q|q
 ·unfold Ea;rw[q];exact Nat.zero_le _
 ·have:=Cd (b:=Am) q;exact Nat.le_trans (aGc _) this
theorem aGe(said:Bool)(r:Rw):Mu said r r=true:=by simp[Mu,Lh CJ r.fields fun y _=>fw y]
theorem aGf(l:List Ent)(p:Pol)(tick:Int)(f:Fct)(x:Ers)(hb:Af Am l+Bz f+DD x<=1048576):Is mx 9 [.sl (l.map Ac),.agg (Bf p),iI tick,.agg (Ap f),.agg (BL x)] (.bool true):=by
 have v1:=MN (mx:=mx) l (by omega);have ex:=MO (mx:=mx);cases hf:decide (l.length<=60)&&decide (AW l=0)
 ·rw[hf]at v1;refine MX F9 ?_;exact Dp v1 trivial
 rw[hf]at v1;rw[Bool.and_eq_true,decide_eq_true_eq,decide_eq_true_eq]at hf;have hV:=Ec hf.2;have c1:=EL (mx:=mx) hf.2 p tick f (by omega) (by omega);have c2:=Ql (mx:=mx) hf.2 tick x (by omega) (by omega);have mb:=SC l p tick f;have nb:=Wk l tick x;rcases hr:Bg l p tick f with⟨m,e⟩;rcases hq:CC l tick x with⟨n,g⟩;rw[hr]at c1 mb;rw[hq]at c2 nb;simp only at mb nb;have a1:=OC hf.2 hr;obtain⟨a2,a3,_⟩:=fM hf.2 hq;have d1:decide (1<(m.length:Int))=false:=decide_eq_false (by omega);have d2:decide (e≠0)=true->decide ((m.length:Int)≠0)=false:=by rcases Ll hr with rfl|⟨rfl,_⟩<;>simp
 have d3:decide (g=0)=decide ((n.length:Int)=1):=by rw[Bool.eq_iff_iff,decide_eq_true_eq,decide_eq_true_eq,a3];omega
 generalize hbn:decide ((n.length:Int)=1)=bn at d3;have d4:(bn==bn)=true:=by cases bn<;>rfl
 have w1:=SB (mx:=mx) l m (by omega) (by omega);have w2:=SB (mx:=mx) l n (by omega) (by omega);have k1:=Sq (mx:=mx) (l++m) (by rw[Gi];omega);have k2:=Sq (mx:=mx) (l++n) (by rw[Gi];omega);rw[a1]at k1;rw[a2]at k2;have e0:=Vu (mx:=mx) l (IntKind.i64.wrap (tick-1)) (by omega);have e1:=Vu (mx:=mx) (l++m) (IntKind.i64.wrap (tick-1)) (by simp;omega);have e2:=Vu (mx:=mx) (l++n) (IntKind.i64.wrap (tick-1)) (by simp;omega);rw[Wn hV]at e0;rw[Wn (Ec a1),aFr hf.2 hr]at e1;rw[Wn (Ec a2),aFs hf.2 hq]at e2;have g1:=Sy (mx:=mx) a2;have hgl:(AF (l++n)).length<=1073741824:=by have:=Oe (l:=l++n) (by simp;omega);omega
 have hfl:∀r∈DW l (IntKind.i64.wrap (tick-1)),r.fields.length<=1073741824:=fun r hr=>by obtain⟨i,hi⟩:=((Hu l (IntKind.i64.wrap (tick-1))).2 r).1 hr;have:=aGd hi;omega
 have wy:=ym l (IntKind.i64.wrap (tick-1));generalize DW l (IntKind.i64.wrap (tick-1))=rows at*;generalize AF (l++n)=gone at*;generalize hP:(fun r:Rw=>!Be gone r.id)=P at*;have hkl:(rows.filter P).length<=rows.length:=List.length_filter_le _ _;have s1:=ab (mx:=mx) true rows rows (by omega) (by omega) hfl hfl;have hfp:∀r∈rows.filter P,r.fields.length<=1073741824:=fun r hr=>hfl r (List.mem_filter.1 hr).1
 have s2:=ab (mx:=mx) true (rows.filter P) (rows.filter P) (by omega) (by omega) hfp hfp;rw[Lh (Mu true) _ fun x _=>aGe true x]at s1 s2;generalize l++m=lm at*;generalize l++n=ln at*;cases hE:decide (e≠0)
 all_goals
  first|replace d2:=d2 hE|replace d2:=trivial
  refine MX F9 ?_;refine Dp (cj v1 (cj c1 (cj c2 (cj d1 (cj hE (cj d2 (cj d3 (cj d4 (cj hbn (cj w1 (cj w2 (cj k1 (cj k2 (cj e0 (cj e1 (cj s1 (cj g1 (cj @DK @Ww.eq_1)))))))))))))))))) ?_;refine lT [0,2,13,15,17] (fun i:Nat=>[(16,.ref (.sl 16 8 0 ((rows.take i).filter P).length)),(18,.i (iI i))]) (fun i=>[(16,.rows 90 8 (((rows.take i).filter P).map SN))]) (fun i=>i<=rows.length) (fun i=>rows.length-i) 0 ?_;intro i hi;have hfl2:((rows.take i).filter P).length<=i:=Nat.le_trans (List.length_filter_le _ _) (by simp;omega);by_cases ja:i<rows.length
  ·have b2:=RY (mx:=mx) gone (rows.getD i default).id hgl;have wb:(rows.take (i+1)).filter P=if P (rows.getD i default)=true then(rows.take i).filter P++[rows.getD i default]else(rows.take i).filter P:=PQ P rows i ja
   have w6:=JV bB bC (rows.getD i default);have hPr:P (rows.getD i default)= !Be gone (rows.getD i default).id:=by rw[<-hP]
   rw[hPr]at wb;generalize (rows.take i).filter P=acc at wb hfl2;generalize Be gone (rows.getD i default).id=bg at wb b2;cases bg
   ·rw[if_pos (show(!false)=true from rfl)]at wb;refine Kas (cj (Cq ja) (cj b2 (cj w6.1 w6.2))) ?_;exact⟨i+1,by omega,by omega,by rw[wb];exact⟨by simp,rfl⟩,by rw[wb];simp⟩
   ·rw[if_neg (show¬(!true)=true by decide)]at wb;refine Dp (cj (Cq ja) b2) ?_;exact⟨i+1,by omega,by omega,by rw[wb];exact⟨rfl,rfl⟩,by rw[wb]⟩
  ·have et:rows.take i=rows:=List.take_of_length_le (by omega);rw[et];exact Dp (cj (Ih ja) (cj w2 (cj e2 (cj s2 ex)))) trivial
end
end Go.Proofs.YtkhlddbmhehbbaaGreatDoor
