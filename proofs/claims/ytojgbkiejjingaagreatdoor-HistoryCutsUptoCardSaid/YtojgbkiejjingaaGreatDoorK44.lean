/-
  Lemmas, no statement.
-/
import Derived.Test.YtojgbkiejjingaaGreatDoorK43
set_option linter.all false
set_option maxRecDepth 100000
set_option maxHeartbeats 8000000
namespace Go.Proofs.YtojgbkiejjingaaGreatDoor
open Go Go.Dl Go.As Go.Proofs
variable {mx:Int}
attribute[local irreducible] Ah Aj MC W W2 FA ev evD step Ae
section
def O4(a b:Chg):Bool:=decide (a.kind=b.kind)&&decide (a.name=b.name)&&Ew a.table b.table&&ER a.feature b.feature
theorem RK(a b:Chg)(ha:Dx a<=1073741824)(hb:Dx b<=1073741824):Is mx 175 [.agg (AD a),.agg (AD b)] (.bool (O4 a b)):=by
 have a3:=Fk a;have b3:=Fk b;have h2:=Rg (mx:=mx) a.table b.table (by omega) (by omega);have h3:=Rh (mx:=mx) a.feature b.feature (by omega) (by omega);refine MX dD ?_
 (repeat' first|exact Al _|simp only[go_sem,simprocAttr]|refine' Ao (fun hq=>?_) (fun f=>?_)<;>try(have jc:=hq;try simp only[HB]at jc)|refine Ab (h2) ?_|refine Ab (h3) ?_|refine Sz.s ?_|fail)
 all_goals rfl
def H2(x:Chg):Chg:=if x.kind=1 then⟨x.kind,x.table,CI,[]⟩else if x.kind=2 then⟨x.kind,Bh,x.feature,[]⟩else⟨x.kind,Bh,CI,x.name⟩
def EX(x:Chg):Bool:=if 1<=x.kind/\x.kind<=5 then O4 x (H2 x)else false
theorem mA(x:Chg)(hx:Dx x<=1073741000):Is mx 127 [.agg (AD x)] (.bool (EX x)):=by
 have hb:=Fk x;have n1:Bc CI=4:=by decide
 have n2:CW Bh=1:=by decide
 have c1:=RK (mx:=mx) x ⟨x.kind,x.table,CI,[]⟩ (by omega) (by rw[Fk];simp only[n1];simp;omega);have c2:=RK (mx:=mx) x ⟨x.kind,Bh,x.feature,[]⟩ (by omega) (by rw[Fk];simp only[n2];simp;omega);have c3:=RK (mx:=mx) x ⟨x.kind,Bh,CI,x.name⟩ (by omega) (by rw[Fk];simp only[n1,n2];omega);have e1:=H0 x.feature;by_cases hk:1<=x.kind/\x.kind<=5
 ·have jn:x.kind=1\/x.kind=2\/x.kind=3\/x.kind=4\/x.kind=5:=by omega
  have hR:EX x=O4 x (H2 x):=by grind[EX]
  rw[hR];have q1:x.kind≠1->x.kind≠2->H2 x=⟨x.kind,Bh,CI,x.name⟩:=fun h1 h2=>by grind[H2]
  rw[Cg ⟨x.kind,x.table,CI,[]⟩]at c1;rw[Cg ⟨x.kind,Bh,x.feature,[]⟩]at c2;rw[Cg ⟨x.kind,Bh,CI,x.name⟩]at c3;refine MX Vp ?_;rcases jn with h|h|h|h|h
  ·rw[show H2 x=⟨x.kind,x.table,CI,[]⟩ by rw[H2,if_pos h]];rw[h]at c1⊢
   (repeat' first|simp only[go_sem,simprocAttr,h]|refine Sx.s ?_ ?_<;>try(intro h;have h':=h;try simp only[HB]at h';try simp only[h])|refine Ab (c1) ?_|refine Aa ?_|refine Sz.s ?_)
  ·rw[show H2 x=⟨x.kind,Bh,x.feature,[]⟩ by rw[H2,if_neg (by omega),if_pos h]]
   rw[h]at c2⊢
   (repeat' first|simp only[go_sem,simprocAttr,h,H0]|refine Sx.s ?_ ?_<;>try(intro h;have h':=h;try simp only[HB]at h';try simp only[h])|refine Ab (c2) ?_|refine Aa ?_|refine Sz.s ?_)
  ·rw[q1 (by omega) (by omega)]
   rw[h]at c3⊢
   (repeat' first|simp only[go_sem,simprocAttr,h]|refine Sx.s ?_ ?_<;>try(intro h;have h':=h;try simp only[HB]at h';try simp only[h])|refine Ab (c3) ?_|refine Aa ?_|refine Sz.s ?_)
  ·rw[q1 (by omega) (by omega)]
   rw[h]at c3⊢
   (repeat' first|simp only[go_sem,simprocAttr,h]|refine Sx.s ?_ ?_<;>try(intro h;have h':=h;try simp only[HB]at h';try simp only[h])|refine Ab (c3) ?_|refine Aa ?_|refine Sz.s ?_)
  ·rw[q1 (by omega) (by omega)]
   rw[h]at c3⊢
   (repeat' first|simp only[go_sem,simprocAttr,h]|refine Sx.s ?_ ?_<;>try(intro h;have h':=h;try simp only[HB]at h';try simp only[h])|refine Ab (c3) ?_|refine Aa ?_|refine Sz.s ?_)
 ·rw[EX,if_neg hk]
  have f1:(x.kind=1)=False:=eq_false (by omega)
  have f2:(x.kind=2)=False:=eq_false (by omega)
  have f3:(x.kind=3)=False:=eq_false (by omega)
  have f4:(x.kind=4)=False:=eq_false (by omega)
  have f5:(x.kind=5)=False:=eq_false (by omega)
  refine MX Vp ?_
  (repeat' first|simp only[go_sem,simprocAttr,f1,f2,f3,f4,f5]|refine Aa ?_|refine Sz.s ?_)
def CS(c:Cat)(x:Chg):Cat×Int:=
 if x.kind=1 then GY c x.table else if x.kind=2 then Ng c x.feature else if x.kind=3 then H1 c x.name else if x.kind=4 then Gf c x.name else Ko c x.name
theorem mB(c:Cat)(x:Chg)(hc:AV c<=1073741)(hx:Dx x<=1073741):Is mx 128 [.agg (Aw c),.agg (AD x)] (LJ (CS c x)):=by
 have hb:=Fk x;have hcb:=Ch c;have l0:=HM c.tables;have l1:=Fj c.features;have l2:=Fj c.drafts;have l3:=Fj c.past;have c1:=mq (mx:=mx) c x.table (by omega);have c2:=mz (mx:=mx) c x.feature (by omega) (by omega) (by omega) (by omega) (by omega);have c3:=mt (mx:=mx) c x.name (by omega) (by omega) (by omega);have c4:=mw (mx:=mx) c x.name (by omega) (by omega) (by omega);have c5:=ms (mx:=mx) c x.name (by omega);unfold CS;refine MX dd ?_;by_cases h1:x.kind=1
 ·rw[if_pos h1]
  (repeat' first|simp only[go_sem,simprocAttr,LJ,eq_true h1]|refine Sx.s ?_ ?_<;>try(intro h;have h':=h;try simp only[HB]at h';try simp only[h])|refine Ab (c1) ?_|refine Aa ?_|refine Sz.s ?_)
 rw[if_neg h1]
 by_cases h2:x.kind=2
 ·rw[if_pos h2]
  (repeat' first|simp only[go_sem,simprocAttr,LJ,eq_false h1,eq_true h2]|refine Sx.s ?_ ?_<;>try(intro h;have h':=h;try simp only[HB]at h';try simp only[h])|refine Ab (c2) ?_|refine Aa ?_|refine Sz.s ?_)
 rw[if_neg h2]
 by_cases h3:x.kind=3
 ·rw[if_pos h3]
  (repeat' first|simp only[go_sem,simprocAttr,LJ,eq_false h1,eq_false h2,eq_true h3]|refine Sx.s ?_ ?_<;>try(intro h;have h':=h;try simp only[HB]at h';try simp only[h])|refine Ab (c3) ?_|refine Aa ?_|refine Sz.s ?_)
 rw[if_neg h3]
 by_cases h4:x.kind=4
 ·rw[if_pos h4]
  (repeat' first|simp only[go_sem,simprocAttr,LJ,eq_false h1,eq_false h2,eq_false h3,eq_true h4]|refine Sx.s ?_ ?_<;>try(intro h;have h':=h;try simp only[HB]at h';try simp only[h])|refine Ab (c4) ?_|refine Aa ?_|refine Sz.s ?_)
 ·rw[if_neg h4]
  (repeat' first|simp only[go_sem,simprocAttr,LJ,eq_false h1,eq_false h2,eq_false h3,eq_false h4]|refine Sx.s ?_ ?_<;>try(intro h;have h':=h;try simp only[HB]at h';try simp only[h])|refine Ab (c5) ?_|refine Aa ?_|refine Sz.s ?_)
theorem H3{α:Type}(b:α->Nat)(l r:List α):Ag b (l++r)=Ag b l+Ag b r:=by
 induction l with
 |nil=>simp[Ag]
 |cons a l ih=>simp only[List.cons_append,Ag,ih];omega
theorem RL{α:Type}(b:α->Nat)(l:List α)(k:Nat):Ag b (l.take k)+Ag b (l.drop k)=Ag b l:=by rw[<-H3,List.take_append_drop]
theorem Kp{α:Type}(b:α->Nat)(l:List α)(k:Nat)(x:α):Ag b (BV l k x)=Ag b l+b x:=by grind[RL,BV,H3,Ag]
theorem mC(l:List Ftr)(f:Ftr):Ag Bc (CK l f)=Ag Bc l+Bc f:=Kp Bc l _ f
theorem Nh{α:Type}[Inhabited α](b:α->Nat)(l:List α)(k:Nat)(h:k<l.length):Ag b (Cu l k)+b (l.getD k default)=Ag b l:=by grind[RL,EP,Cu,H3,Ag]
theorem mD(f:Ftr)(v:Int):Bc (Nf f v)=Bc f:=rfl
theorem RM(c:Cat)(x:Chg):AV (CS c x).1<=AV c+Dx x:=by
 have hx:=Fk x;have hc:=Ch c;have hn:AV Br=1:=rfl;unfold CS;split
 ·unfold GY;split
  ·show AV Br<=_;omega
  ·show AV {c with tables:=DA c.tables x.table}<=_;have:=Kp CW c.tables (DQ c.tables x.table.name) x.table;rw[Ch];simp only[DA];omega
 split
 ·unfold Ng;repeat' split
  all_goals first|(show AV Br<=_;omega)|skip
  have h2:=mD x.feature (HZ c x.feature.name+1);generalize Nf x.feature (HZ c x.feature.name+1)=g at h2⊢;have h1:=mC c.drafts g;have h3:=Ch ⟨c.tables,c.features,CK c.drafts g,c.past⟩;simp only at h3;rw[h1,h2]at h3;exact(show AV ⟨c.tables,c.features,CK c.drafts g,c.past⟩<=_ by rw[h3];omega)
 split
 ·unfold H1;rcases GZ c.drafts x.name with⟨e,_⟩|⟨i,e,hi,_⟩
  ·rw[e,if_pos (by omega)];show AV Br<=_;omega
  ·rw[e,if_neg (by omega)];have d1:=Nh Bc c.drafts i hi;rcases GZ c.features x.name with⟨e',_⟩|⟨j,e',hj,_⟩
   ·rw[e',if_pos (by omega)];simp only[Int.toNat_natCast];have:=Kp Bc c.features (Jf c.features (c.drafts.getD i default).name) (c.drafts.getD i default);rw[Ch];simp only[CK];omega
   ·rw[e',if_neg (by omega)];simp only[Int.toNat_natCast];have d2:=Nh Bc c.features j hj;have s1:=Kp Bc (Cu c.features j) (Jf (Cu c.features j) (c.drafts.getD i default).name) (c.drafts.getD i default);have s2:=Kp Bc c.past (Jf c.past (c.features.getD j default).name) (c.features.getD j default);rw[Ch];simp only[CK];omega
 split
 ·unfold Gf;rcases GZ c.features x.name with⟨e,_⟩|⟨j,e,hj,_⟩
  ·rw[e,if_pos (by omega)];show AV Br<=_;omega
  ·rw[e,if_neg (by omega)];split
   ·show AV Br<=_;omega
   ·rename_i hq;rcases RJ c.past x.name c.past.length with e3|⟨o,e3,ho,_⟩
    ·have e3':HY c.past x.name=-1:=e3;omega
    ·have e3':HY c.past x.name=(o:Int):=e3;rw[e3'];simp only[Int.toNat_natCast];have d2:=Nh Bc c.features j hj;have d3:=Nh Bc c.past o ho;have s1:=Kp Bc (Cu c.features j) (Jf (Cu c.features j) (c.past.getD o default).name) (c.past.getD o default);have s2:=Kp Bc c.drafts (Jf c.drafts (c.features.getD j default).name) (c.features.getD j default);rw[Ch];simp only[CK];omega
 ·unfold Ko;rcases GZ c.drafts x.name with⟨e,_⟩|⟨i,e,hi,_⟩
  ·rw[e,if_pos (by omega)];show AV Br<=_;omega
  ·rw[e,if_neg (by omega)];simp only[Int.toNat_natCast];have d1:=Nh Bc c.drafts i hi;rw[Ch];simp only;omega
def Lu(c:Cat)(x:Chg):Int:=if(CS c x).2=0 then HW (CS c x).1 else(CS c x).2
def Cv(c:Cat)(x:Chg):Cat×Int:=if EX x=false then(Br,1)else if Lu c x≠0 then(Br,Lu c x)else((CS c x).1,0)
theorem Xj(c:Cat)(x:Chg)(hb:AV c+Dx x<=1073741):Is mx 84 [.agg (Aw c),.agg (AD x)] (LJ (Cv c x)):=by
 have hch:=RM c x;have c1:=mA (mx:=mx) x (by omega);have c2:=mB (mx:=mx) c x (by omega) (by omega);have c3:=mc (mx:=mx) (CS c x).1 (by omega);have hR:=Cv.eq_1 c x;have hE:=Lu.eq_1 c x;generalize CS c x=r at c2 c3 hR hE;refine MX y9 ?_;cases hp:EX x
 ·rw[hp]at c1;rw[if_pos hp]at hR;rw[hR]
  (repeat' first|simp only[go_sem,simprocAttr,LJ]|refine Sx.s ?_ ?_<;>try(intro h;have h':=h;try simp only[HB]at h';try simp only[h])|refine Ab (c1) ?_|refine Aa ?_|refine Sz.s ?_)
  all_goals(try rfl)
 ·rw[hp]at c1
  rw[if_neg (by rw[hp];simp)]at hR
  by_cases h0:r.2=0
  ·rw[if_pos h0]at hE
   by_cases hk:HW r.1=0
   ·rw[if_neg (by omega)]at hR
    rw[hR]
    (repeat' first|simp only[go_sem,simprocAttr,LJ,eq_true h0,eq_true hk,ne_eq,not_true_eq_false,decide_false,decide_true]|refine Sx.s ?_ ?_<;>try(intro h;have h':=h;try simp only[HB]at h';try simp only[h])|refine Ab (c1) ?_|refine Ab (c2) ?_|refine Ab (c3) ?_|refine Aa ?_|refine Sz.s ?_)
   ·rw[if_pos (by omega),hE]at hR
    rw[hR]
    (repeat' first|simp only[go_sem,simprocAttr,LJ,eq_true h0,eq_false hk,ne_eq,not_false_eq_true,decide_true]|refine Sx.s ?_ ?_<;>try(intro h;have h':=h;try simp only[HB]at h';try simp only[h])|refine Ab (c1) ?_|refine Ab (c2) ?_|refine Ab (c3) ?_|refine Aa ?_|refine Sz.s ?_)
    all_goals(try rfl)
  ·rw[if_neg h0]at hE
   rw[if_pos (by omega),hE]at hR
   rw[hR]
   (repeat' first|simp only[go_sem,simprocAttr,LJ,eq_false h0,ne_eq,not_false_eq_true,decide_false,decide_true]|refine Sx.s ?_ ?_<;>try(intro h;have h':=h;try simp only[HB]at h';try simp only[h])|refine Ab (c1) ?_|refine Ab (c2) ?_|refine Aa ?_|refine Sz.s ?_)
   all_goals(try rfl)
def Bw(l:List Ent)(tick:Int):Nat->Cat
 |0=>Br
 |i+1=>if(l.getD i default).kind≠3\/tick<(l.getD i default).tick then Bw l tick i else if(Cv (Bw l tick i) (l.getD i default).change).2=0 then(Cv (Bw l tick i) (l.getD i default).change).1 else Bw l tick i
def atR(l:List Ent)(tick:Int):Cat:=Bw l tick l.length
theorem Xk(c:Cat)(x:Chg):AV (Cv c x).1<=AV c+Dx x:=by
 have:=RM c x;have hn:AV Br=1:=rfl;have hc:=Ch c;unfold Cv;repeat' split
 ·grind
 ·grind
 ·exact this
theorem RN(l:List Ent)(tick:Int):∀i,i<=l.length->AV (Bw l tick i)<=Ag AF (l.take i)+1
 |0,_=>by simp[Bw,Ag];decide
 |i+1,h=>by
  have h0:=RN l tick i (by omega);have h1:Ag AF (l.take (i+1))=Ag AF (l.take i)+AF (l.getD i default):=by grind[CR,H3,Ag]
  have h2:=Fl (l.getD i default);have h3:=Xk (Bw l tick i) (l.getD i default).change;rw[h1];simp only[Bw];repeat' split
  all_goals omega
theorem Ni{α:Type}(b:α->Nat)(l:List α)(k:Nat):Ag b (l.take k)<=Ag b l:=by have:=RL b l k;omega
theorem mE(l:List Ent)(tick:Int)(hl:Ag AF l<=1073740):Is mx 64 [.sl (l.map Ad),iI tick] (.agg (Aw (atR l tick))):=by
 have je:=Lf l;refine MX yP ?_
 (repeat' first|simp(disch:=omega)only[go_sem,simprocAttr]|fail)
 refine CP [0,1,4,5] (by simp only[V0,G4,reduceIte,Nat.reduceEqDiff];rfl) (fun i=>[(6,.i (iI i))]) (fun i=>[(5,.cells ((Aw (Bw l tick i)).map .i)),(4,.cells Nd)]) (fun _=>True) l.length 0 (by omega) trivial (by simp[V0,Fz,Ref.nm,Bw,Aw,D.nms,Pq]) ?_;intro i hi _;have hb:=RN l tick i hi;have wn:=Ni AF l (i+1);by_cases ja:i<l.length
 ·have hts:Ag AF (l.take (i+1))=Ag AF (l.take i)+AF (l.getD i default):=by rw[CR ja,H3];simp[Ag]
  have hbe:=Fl (l.getD i default);have hS:Bw l tick (i+1)=if(l.getD i default).kind≠3\/tick<(l.getD i default).tick then Bw l tick i else if(Cv (Bw l tick i) (l.getD i default).change).2=0 then(Cv (Bw l tick i) (l.getD i default).change).1 else Bw l tick i:=rfl
  have c1:=Xj (mx:=mx) (Bw l tick i) (l.getD i default).change (by omega);generalize Bw l tick i=c at hS c1;by_cases hk:(l.getD i default).kind=3
  ·by_cases ht:tick<(l.getD i default).tick
   ·rw[if_pos (.inr ht)]at hS
    (repeat' first|simp(disch:=omega)only[go_sem,simprocAttr,Ck ja,eq_true hk,eq_true ht,ne_eq,not_true_eq_false,decide_false,decide_true,List.map_cons,List.map_nil]|refine Aa ?_|(refine And.intro ?_ ?_;focus omega))
    rw[hS]
   ·rw[if_neg (by omega)]at hS;generalize Cv c (l.getD i default).change=r at hS c1;by_cases h0:r.2=0
    ·rw[if_pos h0]at hS
     (repeat' first|simp(disch:=omega)only[go_sem,simprocAttr,LJ,Ck ja,eq_true hk,eq_false ht,eq_true h0,ne_eq,not_true_eq_false,decide_false,decide_true,List.map_cons,List.map_nil]|refine Ab (c1) ?_|refine Aa ?_|refine Am ?_|(refine And.intro ?_ ?_;focus omega))
     rw[hS]
    ·rw[if_neg h0]at hS
     (repeat' first|simp(disch:=omega)only[go_sem,simprocAttr,LJ,Ck ja,eq_true hk,eq_false ht,eq_false h0,ne_eq,not_true_eq_false,decide_false,decide_true,List.map_cons,List.map_nil]|refine Ab (c1) ?_|refine Aa ?_|refine Am ?_|(refine And.intro ?_ ?_;focus omega))
     rw[hS]
  ·rw[if_pos (.inl hk)]at hS
   (repeat' first|simp(disch:=omega)only[go_sem,simprocAttr,Ck ja,eq_false hk,ne_eq,not_false_eq_true,decide_true,List.map_cons,List.map_nil]|refine Aa ?_|(refine And.intro ?_ ?_;focus omega))
   rw[hS]
 ·have e:i=l.length:=by omega
  rw[atR,<-e]
  (repeat' first|simp(disch:=omega)only[go_sem,simprocAttr,Ie ja,List.map_cons,List.map_nil]|refine Aa ?_|refine Sz.s ?_)
end
section
def H4(s:Bs):Bool:= !s.any (BZ 33)&&decide (1<=(s.length:Int))&&decide ((s.length:Int)<=32)
theorem mF(s:Bs)(hs:s.length<=1073741824):Is mx 126 [.str s] (.bool (H4 s)):=by
 refine MX dc ?_
 (repeat' first|simp(disch:=omega)only[go_sem,simprocAttr]|fail)
 refine BP [0] (fun i=>[(3,.i (iI i))]) (fun _=>[]) (fun i=>(s.take i).all (fun c=>!BZ 33 c)=true) s.length 0 (by omega) (by simp) ?_;intro i hi jb;by_cases ja:i<s.length
 ·(repeat' first|exact Al _|simp(disch:=omega)only[go_sem,simprocAttr,Ck ja]|refine' Ao (fun hq=>?_) (fun f=>?_)<;>try(have jc:=hq;try simp only[HB]at jc)|refine Sx.s ?_ ?_<;>try(intro h;have h':=h;try simp only[HB]at h';try rewrite [h];try simp only[h])|refine Aa ?_|refine Sz.s ?_|(refine And.intro ?_ ?_;focus omega))
  ·have hb:BZ 33 (s.getD i default)=true:=h;have:s.any (BZ 33)=true:=by grind
   rw[H4,this];rfl
  ·have hb:BZ 33 (s.getD i default)=false:=h;exact BO (d:=default) jb ja (by rw[hb];rfl)
 ·rw[List.take_of_length_le (by omega),List.all_eq_true]at jb;have:s.any (BZ 33)=false:=by grind
  rw[H4,this]
  (repeat' first|exact Al _|simp(disch:=omega)only[go_sem,simprocAttr,Ie ja]|refine' Ao (fun hq=>?_) (fun f=>?_)<;>try(have jc:=hq;try simp only[HB]at jc)|refine Aa ?_|refine Sz.s ?_|fail)
abbrev Lv:Fid:=⟨[],0⟩
def Kq(x:Ers):Bool:=
 if x.kind=1 then CH x.entity&&H4 x.key&&decide (x.id=Lv)
 else decide (x.kind=2)&&CH x.id.source&&decide (1<=x.id.seq)&&decide (x.id.seq<=1099511627776)&&decide (x.entity=[])&&decide (x.key=[])
theorem Gg(a b:Fid):decide (a=b)=(decide (a.source=b.source)&&decide (a.seq=b.seq)):=by cases a;cases b;simp
theorem DB(a b:Bs):(a==b)=decide (a=b):=by grind
theorem DC(a b:Int):(a==b)=decide (a=b):=by rfl
theorem mG(x:Ers)(hx:GK x<=1073741824):Is mx 83 [.agg (Cy x)] (.bool (Kq x)):=by
 have h0:x.key.length<=1073741824:=by grind[GK,F6]
 have h1:=mF (mx:=mx) x.key h0;refine MX y8 ?_
 (repeat' first|exact Al _|simp(disch:=omega)only[go_sem,simprocAttr]|refine' Ao (fun hq=>?_) (fun f=>?_)<;>try(have jc:=hq;try simp only[HB]at jc)|refine Sx.s ?_ ?_<;>try(intro h;have h':=h;try simp only[HB]at h';try rewrite [h];try simp only[h])|refine Ab (GP _) ?_|refine Ab (h1) ?_|refine Aa ?_|refine Sz.s ?_|fail)
 all_goals(refine congrArg I.bool ?_;simp only[Kq,Gg,DB,DC];first|done|(grind(splits:=20)))
def Lw(f:Fct):Bool:=decide (f.id=Lv)&&decide (f.kind=0)&&decide (f.ref=0)&&decide (f.table=[])&&decide (f.key=[])&&decide (f.event=0)&&decide ((f.fields.length:Int)=0)
theorem mH(f:Fct):Is mx 121 [.agg (Bu f)] (.bool (Lw f)):=by
 refine MX c7 ?_
 (repeat' first|exact Al _|simp(disch:=omega)only[go_sem,simprocAttr]|refine' Ao (fun hq=>?_) (fun f=>?_)<;>try(have jc:=hq;try simp only[HB]at jc)|refine Sz.s ?_|fail)
 all_goals(refine congrArg I.bool ?_;simp only[Lw,Gg,DB,DC];first|done|(grind(splits:=20)))
def Lx(x:Chg):Bool:=Ew x.table Bh&&ER x.feature CI&&decide (x.kind=0)&&decide (x.name=[])
theorem mI(x:Chg)(hx:Dx x<=1073741824):Is mx 122 [.agg (AD x)] (.bool (Lx x)):=by
 have a3:=Fk x;have h2:=Rg (mx:=mx) x.table Bh (by omega) (by decide);have h3:=Rh (mx:=mx) x.feature CI (by omega) (by decide);refine MX c8 ?_
 (repeat' first|exact Al _|simp(disch:=omega)only[go_sem,simprocAttr]|refine' Ao (fun hq=>?_) (fun f=>?_)<;>try(have jc:=hq;try simp only[HB]at jc)|refine Sx.s ?_ ?_<;>try(intro h;have h':=h;try simp only[HB]at h';try rewrite [h];try simp only[h])|refine Ab (h2) ?_|refine Ab (h3) ?_|refine Sz.s ?_|fail)
 all_goals(refine congrArg I.bool ?_;simp only[Lx];first|done|(grind(splits:=20)))
abbrev H5:Ers:=⟨0,[],[],Lv⟩
def G0(x:Ent):Bool:=
 decide (x.kind=1)&&decide (x.erasure=H5)&&Lx x.change||decide (x.kind=2)&&Lw x.fact&&Lx x.change||decide (x.kind=3)&&Lw x.fact&&decide (x.erasure=H5)
theorem Xl(a b:Ers):decide (a=b)=(decide (a.kind=b.kind)&&(decide (a.entity=b.entity)&&(decide (a.key=b.key)&&decide (a.id=b.id)))):=by cases a;cases b;simp
theorem mJ(x:Ent)(hx:AF x<=1073741824):Is mx 80 [.agg (Ad x)] (.bool (G0 x)):=by
 have a1:=Fl x;have h1:=mH (mx:=mx) x.fact;have h2:=mI (mx:=mx) x.change (by omega);refine MX y4 ?_
 (repeat' first|exact Al _|simp(disch:=omega)only[go_sem,simprocAttr]|refine' Ao (fun hq=>?_) (fun f=>?_)<;>try(have jc:=hq;try simp only[HB]at jc)|refine' Cf (fun hq=>?_) (fun f=>?_)<;>try(have jc:=hq;try simp only[HB]at jc)|refine Sx.s ?_ ?_<;>try(intro h;have h':=h;try simp only[HB]at h';try rewrite [h];try simp only[h])|refine Ab (h1) ?_|refine Ab (h2) ?_|refine Sz.s ?_|fail)
 all_goals(refine congrArg I.bool ?_;simp only[G0,Xl,Gg,DB,DC];first|done|(grind(splits:=20)))
def Kr(l:List Ent)(at_:Nat)(x:Ent):Bool:=decide (x.kind=1)&&decide (x.fact.id=(l.getD at_ default).fact.id)
def H6(l:List Ent)(at_:Nat):Bool:=(l.take at_).any (Kr l at_)
theorem mK(l:List Ent)(at_:Nat)(hl:l.length<=1073741824)(ha:at_<l.length):Is mx 82 [.sl (l.map Ad),iI at_] (.bool (H6 l at_)):=by
 refine MX y7 ?_
 (repeat' first|simp(disch:=omega)only[go_sem,simprocAttr]|fail)
 refine BP [0,1] (fun i=>[(5,.i (iI i))]) (fun _=>[]) (fun i=>(l.take i).all (fun x=>!Kr l at_ x)=true) at_ 0 (by omega) (by simp) ?_;intro i hi jb;by_cases ja:i<at_
 ·have hil:i<l.length:=by omega
  have hs:∀b1 b2,decide ((l.getD i default).kind=1)=b1->decide ((l.getD i default).fact.id=(l.getD at_ default).fact.id)=b2->Kr l at_ (l.getD i default)=(b1&&b2):=fun b1 b2 h1 h2=>by grind[Kr]
  have hyes:Kr l at_ (l.getD i default)=true->H6 l at_=true:=fun e=>by rw[H6,List.any_eq_true];refine⟨l.getD i default,?_,e⟩;have:=AE (n:=i) (l:=l.take at_) (by simp;omega);grind
  have hno:Kr l at_ (l.getD i default)=false->(l.take (i+1)).all (fun x=>!Kr l at_ x)=true:=fun e=>BO (d:=default) jb hil (by rw[e];rfl)
  cases h1:decide ((l.getD i default).kind=1)
  ·(repeat' first|simp(disch:=omega)only[go_sem,simprocAttr,Ck ja,Ck hil,h1]|refine Aa ?_|refine Am ?_|(refine And.intro ?_ ?_;focus omega))
   exact hno (hs _ _ h1 rfl)
  ·cases h2:decide ((l.getD i default).fact.id=(l.getD at_ default).fact.id)
   ·have h3:=h2;rw[Gg]at h3
    (repeat' first|simp(disch:=omega)only[go_sem,simprocAttr,Ck ja,Ck hil,Ck ha,h1,DB,DC,h3]|refine Aa ?_|refine Am ?_|(refine And.intro ?_ ?_;focus omega))
    exact hno (hs _ _ h1 h2)
   ·have h3:=h2;rw[Gg]at h3
    (repeat' first|simp(disch:=omega)only[go_sem,simprocAttr,Ck ja,Ck hil,Ck ha,h1,DB,DC,h3]|refine Aa ?_|refine Am ?_|refine Sz.s ?_|fail)
    rw[hyes (hs _ _ h1 h2)]
 ·(repeat' first|simp(disch:=omega)only[go_sem,simprocAttr,Ie ja]|refine Aa ?_|refine Sz.s ?_|fail)
  have e:i=at_:=by omega
  rw[e]at jb;have:H6 l at_=false:=by grind[H6]
  rw[this]
end
section
def H7(x:Ent):Bool:=decide (x.no<1)||decide (1099511627776<x.no)||decide (x.tick<0)||decide (1099511627776<x.tick)
def H8(l:List Ent)(i:Nat)(x:Ent):Bool:=decide (0<i)&&(decide (x.no<=(l.getD (i-1) default).no)||decide (x.tick<(l.getD (i-1) default).tick))
def D8(l:List Ent)(i:Nat)(c:Cat):Cat×Int:=
 if(H7 (l.getD i default)||H8 l i (l.getD i default))=true then(c,150)
 else if G0 (l.getD i default)=false then(c,1)
 else if(l.getD i default).kind=1 then(if Ge c (l.getD i default).fact=0/\H6 l i=true then(c,151)else(c,Ge c (l.getD i default).fact))
 else if(l.getD i default).kind=2 then(if Kq (l.getD i default).erasure=false then(c,1)else(c,0))
 else Cv c (l.getD i default).change
theorem mL(l:List Ent)(i:Nat)(c:Cat)(hl:Ag AF l<=1073740)(hi:i<l.length)(hc:AV c+AF (l.getD i default)<=1073741):Is mx 43 [.sl (l.map Ad),iI i,.agg (Aw c)] (LJ (D8 l i c)):=by
 have je:=Lf l;have hbe:=Fl (l.getD i default);have hbf:=Jb (l.getD i default).fact;have c1:=mJ (mx:=mx) (l.getD i default) (by omega);have c2:=mf (mx:=mx) c (l.getD i default).fact (by omega) (by omega);have c3:=mK (mx:=mx) l i (by omega) hi;have c4:=mG (mx:=mx) (l.getD i default).erasure (by omega);have c5:=Xj (mx:=mx) c (l.getD i default).change (by omega);have hR:=D8.eq_1 l i c;have hoB:i≠0->H8 l i (l.getD i default)=(decide ((l.getD i default).no<=(l.getD (i-1) default).no)||decide ((l.getD i default).tick<(l.getD (i-1) default).tick)):=fun h=>by grind[H8]
 have hoA:(decide ((l.getD i default).no<1)||decide (1099511627776<(l.getD i default).no)||decide ((l.getD i default).tick<0)||decide (1099511627776<(l.getD i default).tick))=H7 (l.getD i default):=rfl;have jl:=Ck hi;refine MX yw ?_
 (repeat' first|simp(disch:=omega)only[go_sem,simprocAttr,jl]|fail)
 refine Dl.cutS [0,1,5,6,8] (by simp only[V0,G4,reduceIte,Nat.reduceEqDiff];rfl) [] [(6,.cells Nd)] ((H7 (l.getD i default)||H8 l i (l.getD i default))=false) ?_ (fun qv=>?_)
 ·cases hA:H7 (l.getD i default)
  ·rw[hA]at hoA hR;by_cases h0:i=0
   ·subst h0;have hB:H8 l 0 (l.getD 0 default)=false:=rfl;rw[hB]
    (repeat' first|exact Al _|simp(disch:=omega)only[go_sem,simprocAttr,hoA,Int.natCast_zero,Int.lt_irrefl]|refine' Cf (fun hq=>?_) (fun f=>?_)<;>try(have jc:=hq;try simp only[HB]at jc)|refine Am ?_)
   ·have jy:((0:Int)<(i:Int))=True:=eq_true (by omega)
    have ky:((i:Int)-1).toNat=i-1:=by omega
    have kz:(i:Int)-1=((i-1:Nat):Int):=by omega
    have hlp:i-1<l.length:=by omega
    rw[hoB h0]at hR⊢
    cases qr:decide ((l.getD i default).no<=(l.getD (i-1) default).no)
    ·cases qm:decide ((l.getD i default).tick<(l.getD (i-1) default).tick)
     ·(repeat' first|exact Al _|simp(disch:=omega)only[go_sem,simprocAttr,hoA,jy,kz,Ck hlp,qr,qm]|refine' Cf (fun hq=>?_) (fun f=>?_)<;>try(have jc:=hq;try simp only[HB]at jc)|refine Am ?_)
     ·rw[if_pos (by rw[qr,qm];rfl)]at hR
      rw[hR]
      (repeat' first|exact Al _|simp(disch:=omega)only[go_sem,simprocAttr,LJ,hoA,jy,kz,Ck hlp,qr,qm]|refine' Cf (fun hq=>?_) (fun f=>?_)<;>try(have jc:=hq;try simp only[HB]at jc)|refine Am ?_|refine Sz.s ?_)
      all_goals(try rfl)
    ·rw[if_pos (by rw[qr];rfl)]at hR
     rw[hR]
     (repeat' first|exact Al _|simp(disch:=omega)only[go_sem,simprocAttr,LJ,hoA,jy,kz,Ck hlp,qr]|refine' Cf (fun hq=>?_) (fun f=>?_)<;>try(have jc:=hq;try simp only[HB]at jc)|refine Am ?_|refine Sz.s ?_)
     all_goals(try rfl)
  ·rw[hA]at hoA
   rw[if_pos (by rw[hA];rfl)]at hR
   rw[hR]
   (repeat' first|exact Al _|simp(disch:=omega)only[go_sem,simprocAttr,LJ,hoA]|refine' Cf (fun hq=>?_) (fun f=>?_)<;>try(have jc:=hq;try simp only[HB]at jc)|refine Am ?_|refine Sz.s ?_)
   all_goals(try rfl)
 ·rw[if_neg (by rw[qv];simp)]at hR
  cases wl:G0 (l.getD i default)
  ·rw[if_pos wl]at hR
   rw[wl]at c1
   rw[hR]
   (repeat' first|simp(disch:=omega)only[go_sem,simprocAttr,LJ]|refine Sx.s ?_ ?_<;>try(intro h;have h':=h;try simp only[HB]at h';try simp only[h])|refine Ab (c1) ?_|refine Aa ?_|refine Sz.s ?_)
   all_goals(try rfl)
  ·rw[if_neg (by rw[wl];simp)]at hR
   rw[wl]at c1
   by_cases k6:(l.getD i default).kind=1
   ·rw[if_pos k6]at hR
    by_cases he:Ge c (l.getD i default).fact=0
    ·cases ht:H6 l i
     ·rw[ht]at c3
      rw[if_neg (by rw[ht];simp)]at hR
      rw[hR]
      (repeat' first|simp(disch:=omega)only[go_sem,simprocAttr,LJ,eq_true k6,eq_true he]|refine Sx.s ?_ ?_<;>try(intro h;have h':=h;try simp only[HB]at h';try simp only[h])|refine Ab (c1) ?_|refine Ab (c2) ?_|refine Ab (c3) ?_|refine Aa ?_|refine Sz.s ?_)
      all_goals(try rfl)
     ·rw[ht]at c3
      rw[if_pos ⟨he,ht⟩]at hR
      rw[hR]
      (repeat' first|simp(disch:=omega)only[go_sem,simprocAttr,LJ,eq_true k6,eq_true he]|refine Sx.s ?_ ?_<;>try(intro h;have h':=h;try simp only[HB]at h';try simp only[h])|refine Ab (c1) ?_|refine Ab (c2) ?_|refine Ab (c3) ?_|refine Aa ?_|refine Sz.s ?_)
      all_goals(try rfl)
    ·rw[if_neg (fun h=>he h.1)]at hR
     rw[hR]
     (repeat' first|simp(disch:=omega)only[go_sem,simprocAttr,LJ,eq_true k6,eq_false he]|refine Sx.s ?_ ?_<;>try(intro h;have h':=h;try simp only[HB]at h';try simp only[h])|refine Ab (c1) ?_|refine Ab (c2) ?_|refine Aa ?_|refine Sz.s ?_)
     all_goals(try rfl)
   ·rw[if_neg k6]at hR
    by_cases qy:(l.getD i default).kind=2
    ·rw[if_pos qy]at hR
     cases her:Kq (l.getD i default).erasure
     ·rw[her]at c4
      rw[if_pos her]at hR
      rw[hR]
      (repeat' first|simp(disch:=omega)only[go_sem,simprocAttr,LJ,eq_false k6,eq_true qy]|refine Sx.s ?_ ?_<;>try(intro h;have h':=h;try simp only[HB]at h';try simp only[h])|refine Ab (c1) ?_|refine Ab (c4) ?_|refine Aa ?_|refine Sz.s ?_)
      all_goals(try rfl)
     ·rw[her]at c4
      rw[if_neg (by rw[her];simp)]at hR
      rw[hR]
      (repeat' first|simp(disch:=omega)only[go_sem,simprocAttr,LJ,eq_false k6,eq_true qy]|refine Sx.s ?_ ?_<;>try(intro h;have h':=h;try simp only[HB]at h';try simp only[h])|refine Ab (c1) ?_|refine Ab (c4) ?_|refine Aa ?_|refine Sz.s ?_)
      all_goals(try rfl)
    ·rw[if_neg qy]at hR
     rw[hR]
     (repeat' first|simp(disch:=omega)only[go_sem,simprocAttr,LJ,eq_false k6,eq_false qy]|refine Sx.s ?_ ?_<;>try(intro h;have h':=h;try simp only[HB]at h';try simp only[h])|refine Ab (c1) ?_|refine Ab (c5) ?_|refine Aa ?_|refine Sz.s ?_)
     all_goals(try rfl)
def Ba(l:List Ent):Nat->Cat×Int
 |0=>(Br,0)
 |i+1=>if(Ba l i).2≠0 then Ba l i else D8 l i (Ba l i).1
def EY(l:List Ent):Int:=if 4096<l.length then 2 else(Ba l l.length).2
theorem RO{l:List Ent}{i:Nat}(h:(Ba l i).2≠0):∀j,i<=j->Ba l j=Ba l i:=by
 intro j hj
 induction j with
 |zero=>rw[show i=0 by omega]
 |succ j ih=>grind[Ba]
theorem mM(l:List Ent)(i:Nat)(c:Cat):AV (D8 l i c).1<=AV c+AF (l.getD i default):=by
 have h1:=Xk c (l.getD i default).change;have h2:=Fl (l.getD i default);unfold D8;repeat' split
 all_goals first|(show AV c<=_;omega)|omega
theorem RP(l:List Ent):∀i,i<=l.length->AV (Ba l i).1<=Ag AF (l.take i)+1
 |0,_=>by simp[Ba,Ag];decide
 |i+1,h=>by have h0:=RP l i (by omega);grind[Ag,AF,CR,H3,mM,Ba]
theorem mO(l:List Ent)(hl:Ag AF l<=1073740):Is mx 12 [.sl (l.map Ad)] (iI (EY l)):=by
 have je:=Lf l;have hR:=EY.eq_1 l;refine MX x5 ?_;by_cases h4:4096<l.length
 ·rw[if_pos h4]at hR;rw[hR];have h4T:((4096:Int)<(l.length:Int))=True:=eq_true (by omega)
  (repeat' first|simp(disch:=omega)only[go_sem,simprocAttr,h4T]|refine Aa ?_|refine Sz.s ?_)
 ·rw[if_neg h4]at hR
  have h4F:((4096:Int)<(l.length:Int))=False:=eq_false (by omega)
  (repeat' first|simp(disch:=omega)only[go_sem,simprocAttr,h4F]|refine Aa ?_)
  refine CP [0,3] (by simp only[V0,G4,reduceIte,Nat.reduceEqDiff];rfl) (fun i=>[(4,.i (iI i))]) (fun i=>[(3,.cells ((Aw (Ba l i).1).map .i))]) (fun i=>(Ba l i).2=0) l.length 0 (by omega) rfl (by simp[V0,Fz,Ref.nm,Ba,Aw,D.nms,Pq]) ?_
  intro i hi jb
  have hb:=RP l i hi
  by_cases ja:i<l.length
  ·have hts:Ag AF (l.take (i+1))=Ag AF (l.take i)+AF (l.getD i default):=by rw[CR ja,H3];simp[Ag]
   have wn:=Ni AF l (i+1)
   have hS:Ba l (i+1)=D8 l i (Ba l i).1:=by grind[Ba]
   have herr:=RO (l:=l) (i:=i+1)
   have c1:=mL (mx:=mx) l i (Ba l i).1 hl ja (by omega)
   generalize (Ba l i).1=c at hS c1
   rw[<-hS]at c1
   by_cases he:(Ba l (i+1)).2=0
   ·(repeat' first|simp(disch:=omega)only[go_sem,simprocAttr,LJ,Ck ja,eq_true he,ne_eq,not_true_eq_false,decide_false,decide_true,List.map_cons,List.map_nil]|refine Sx.s ?_ ?_<;>try(intro h;have h':=h;try simp only[HB]at h';try simp only[h])|refine Ab (c1) ?_|refine Aa ?_)
    first|done|exact ja|exact⟨ja,he⟩
   ·have:=herr he l.length (by omega)
    rw[this]at hR
    rw[hR]
    (repeat' first|simp(disch:=omega)only[go_sem,simprocAttr,LJ,Ck ja,eq_false he,ne_eq,not_false_eq_true,decide_true,List.map_cons,List.map_nil]|refine Sx.s ?_ ?_<;>try(intro h;have h':=h;try simp only[HB]at h';try simp only[h])|refine Ab (c1) ?_|refine Aa ?_|refine Sz.s ?_)
  ·have e:i=l.length:=by omega
   rw[<-e,jb]at hR
   rw[hR]
   (repeat' first|simp(disch:=omega)only[go_sem,simprocAttr,Ie ja,List.map_cons,List.map_nil]|refine Aa ?_|refine Sz.s ?_)
end
section
theorem Dj(x:Ent):(Ad x).length=40:=Ve.2.2.2.2.1 x
theorem Fu(x:Ent):(Ad x).all I.one=true:=Vf.2.2.2.2.1 x
theorem Ly(x:Fid):(Ak x).length=2:=rfl
theorem Lz(x:Fid):(Ak x).all I.one=true:=rfl
theorem D9{α:Type}{f:α->List I}{k:Nat}(h1:∀x,(f x).length=k)(h2:∀x,(f x).all I.one=true)(a:α):(∀r∈[f a],r.length=k)=True/\(∀r∈[f a],r.all I.one=true)=True:=by grind
def AQ(l:List Ent)(tick:Int):List Ent:=l.filter fun x=>decide (x.tick<=tick)
theorem mP(l:List Ent)(tick:Int)(hl:l.length<=1073741824):Is mx 26 [.sl (l.map Ad),iI tick] (.sl ((AQ l tick).map Ad)):=by
 refine MX yj ?_
 (repeat' first|simp(disch:=omega)only[go_sem,simprocAttr]|fail)
 refine AA [0,1] (by simp only[V0,G4,reduceIte,Nat.reduceEqDiff];rfl) (fun i:Nat=>[(5,.ref (.sl 5 40 0 (AQ (l.take i) tick).length)),(6,.i (iI i))]) (fun i=>[(5,.rows 54 40 ((AQ (l.take i) tick).map Ad))])
  (fun i=>i<=l.length) (fun i=>l.length-i) 0 (by simp) (by simp[V0,Fz,GF,Ref.nm,AQ]) ?_
 intro i hi;have wg:(AQ (l.take i) tick).length<=i:=Nat.le_trans (List.length_filter_le _ _) (by simp;omega);by_cases ja:i<l.length
 ·have w5:AQ (l.take (i+1)) tick=if decide ((l.getD i default).tick<=tick)=true then AQ (l.take i) tick++[l.getD i default]else AQ (l.take i) tick:=M6 (fun x:Ent=>decide (x.tick<=tick)) l i ja
  have qe:=D9 Dj Fu (l.getD i default);generalize AQ (l.take i) tick=acc at w5 wg;cases ht:decide ((l.getD i default).tick<=tick)
  ·rw[ht,if_neg (by simp)]at w5
   (repeat' first|simp(disch:=omega)only[go_sem,simprocAttr,Ck ja,ht]|refine Aa ?_|fail)
   exact⟨i+1,by omega,by omega,by rw[w5];exact⟨rfl,rfl⟩,by rw[w5]⟩
  ·rw[ht,if_pos rfl]at w5
   (repeat' first|simp(disch:=omega)only[go_sem,simprocAttr,Ck ja,ht,qe.1,qe.2,Nat.sub_zero]|refine Aa ?_|(refine And.intro ?_ ?_;focus omega))
   exact⟨i+1,by omega,by omega,by rw[w5];exact⟨by simp,rfl⟩,by rw[w5];simp⟩
 ·have e:l.take i=l:=List.take_of_length_le (by omega);rw[e]
  (repeat' first|simp(disch:=omega)only[go_sem,simprocAttr,Ie ja]|refine Aa ?_|refine Sz.s ?_|fail)
def Ea(l:List Fid)(id:Fid):Nat:=(l.takeWhile fun y=>decide (Ct y id<0)).length
def Eb(l:List Fid)(id:Fid):List Fid:=if Ea l id<l.length/\l.getD (Ea l id) default=id then l else BV l (Ea l id) id
theorem Xm(l:List Fid)(id:Fid):(Eb l id).length<=l.length+1:=by grind[Eb,BV]
theorem RQ{l:List Fid}{id:Fid}{k:Nat}(h:Ea l id=k):Eb l id=if k<l.length/\l.getD k default=id then l else l.take k++[id]++l.drop k:=by rw[<-h];rfl
theorem Xn(l:List Fid)(id:Fid)(hl:l.length<=1073741823):Is mx 62 [.sl (l.map Ak),.agg (Ak id)] (.sl ((Eb l id).map Ak)):=by
 refine MX yN ?_
 (repeat' first|simp(disch:=omega)only[go_sem,simprocAttr]|fail)
 refine AA [0,3] (by simp only[V0,G4,reduceIte,Nat.reduceEqDiff];rfl) (fun k:Nat=>[(5,.i (iI k))]) (fun _=>[])
  (fun k=>k<=l.length/\(l.take k).all (fun y=>decide (Ct y id<0))=true) (fun k=>l.length-k) 0 (by simp) (by simp[V0,Fz,GF]) ?_
 rintro k ⟨hk,jj⟩;have h1:=BH (l.take k) Ly Lz;have h2:=BH (l.drop k) Ly Lz;have h0:=BH l Ly Lz;have c5:((k:Int)<=(l.length:Int))=True:=eq_true (by omega);have h3:=D9 Ly Lz id;rw[List.map_take]at h1;rw[List.map_drop]at h2;simp only[Ak]at h3;have c1:(k<=l.length)=True:=eq_true (by omega);have c3:min k l.length=k:=by omega
 by_cases jn:k<l.length
 ·have q1:=mi (mx:=mx) (l.getD k default) id;cases km:decide (Ct (l.getD k default) id<0)
  ·have kw:Ea l id=k:=O3 jj jn km;have zQ:(decide ((l.getD k default).source=id.source)&&decide ((l.getD k default).seq=id.seq))=decide (l.getD k default=id):=(Gg _ _).symm;by_cases wm:l.getD k default=id
   ·have jp:Eb l id=l:=by rw[RQ kw,if_pos ⟨jn,wm⟩]
    rw[jp];rw[decide_eq_true wm]at zQ
    (repeat' first|simp(disch:=omega)only[go_sem,simprocAttr,Ck jn,km,DB,DC,zQ]|refine Ab (q1) ?_|refine Aa ?_|refine Am ?_|refine Sz.s ?_|fail)
   ·have jp:Eb l id=l.take k++[id]++l.drop k:=by rw[RQ kw,if_neg];rintro⟨_,h⟩;exact wm h
    rw[jp];rw[decide_eq_false wm]at zQ
    (repeat' first|simp(disch:=omega)only[go_sem,simprocAttr,Ck jn,km,DB,DC,zQ,eq_true h0.1,eq_true h1.1,eq_true h1.2,Int.le_refl,eq_true h2.1,eq_true h2.2,h3.1,h3.2,Nat.zero_add,Nat.sub_zero,List.length_map,List.length_take,List.length_drop,List.length_nil,c3,c5,List.take_take,Nat.min_self]|refine Ab (q1) ?_|refine Aa ?_|refine Am ?_|refine Sz.s ?_|(refine And.intro ?_ ?_;focus omega))
    rw[<-Lq (f:=Ak) hk];rfl
  ·(repeat' first|simp(disch:=omega)only[go_sem,simprocAttr,Ck jn,km]|refine Ab (q1) ?_|refine Aa ?_|refine Am ?_|fail)
   exact⟨k+1,⟨by omega,BO (d:=default) jj jn km⟩,by omega,rfl⟩
 ·have kw:Ea l id=k:=HL jj hk (.inl (by omega));have jp:Eb l id=l.take k++[id]++l.drop k:=by rw[RQ kw,if_neg];omega
  rw[jp]
  (repeat' first|simp(disch:=omega)only[go_sem,simprocAttr,Ie jn,eq_true h0.1,eq_true h1.1,eq_true h1.2,Int.le_refl,eq_true h2.1,eq_true h2.2,h3.1,h3.2,Nat.zero_add,Nat.sub_zero,List.length_map,List.length_take,List.length_drop,List.length_nil,c3,c5,List.take_take,Nat.min_self]|refine Aa ?_|refine Am ?_|refine Sz.s ?_|(refine And.intro ?_ ?_;focus omega))
  rw[<-Lq (f:=Ak) hk];rfl
def G1(l:List Fid)(id:Fid):Bool:=l.any fun y=>decide (y=id)
theorem mQ(l:List Fid)(id:Fid)(hl:l.length<=1073741824):Is mx 51 [.sl (l.map Ak),.agg (Ak id)] (.bool (G1 l id)):=by
 refine MX yE ?_
 (repeat' first|simp(disch:=omega)only[go_sem,simprocAttr]|fail)
 refine BP [0,3] (fun i=>[(5,.i (iI i))]) (fun _=>[]) (fun i=>(l.take i).all (fun y=>!decide (y=id))=true) l.length 0 (by omega) (by simp) ?_;intro i hi jb;by_cases ja:i<l.length
 ·have zQ:(decide ((l.getD i default).source=id.source)&&decide ((l.getD i default).seq=id.seq))=decide (l.getD i default=id):=(Gg _ _).symm;by_cases hn:l.getD i default=id
  ·have:G1 l id=true:=by grind[G1]
   rw[this];rw[decide_eq_true hn]at zQ
   (repeat' first|simp(disch:=omega)only[go_sem,simprocAttr,Ck ja,DB,DC,zQ]|refine Aa ?_|refine Am ?_|refine Sz.s ?_|fail)
  ·rw[decide_eq_false hn]at zQ
   (repeat' first|simp(disch:=omega)only[go_sem,simprocAttr,Ck ja,DB,DC,zQ]|refine Aa ?_|refine Am ?_|(refine And.intro ?_ ?_;focus omega))
   exact BO (d:=default) jb ja (by rw[decide_eq_false hn];rfl)
 ·have:G1 l id=false:=by grind[G1]
  rw[this]
  (repeat' first|simp(disch:=omega)only[go_sem,simprocAttr,Ie ja]|refine Aa ?_|refine Sz.s ?_|fail)
end
section
def H9(c:Cat)(x:Ers)(ids:List Fid)(e:Ent):List Fid:=
 if e.kind≠1\/e.fact.kind=3\/e.fact.key≠x.key then ids
 else match A5 c.tables e.fact.table with
  |none=>ids
  |some t=>if t.entity=x.entity then Eb ids (AW e.fact)else ids
def Dk(l:List Ent)(c:Cat)(x:Ers)(ids:List Fid):List Fid:=l.foldl (H9 c x) ids
theorem mR(c:Cat)(x:Ers)(ids:List Fid)(e:Ent):(H9 c x ids e).length<=ids.length+1:=by
 have:=Xm ids (AW e.fact);unfold H9;repeat' split
 all_goals omega
theorem RR(c:Cat)(x:Ers):∀(l:List Ent) (ids:List Fid),(Dk l c x ids).length<=ids.length+l.length
 |[],ids=>by simp[Dk]
 |e::l,ids=>by have h1:=mR c x ids e;have h2:=RR c x l (H9 c x ids e);grind[Dk]
theorem mS(l:List Ent)(c:Cat)(x:Ers)(ids:List Fid)(hl:l.length<=1000000)(hi:ids.length<=1072000000)(hc:c.tables.length<=1073741824):Is mx 63 [.sl (l.map Ad),.agg (Aw c),.agg (Cy x),.sl (ids.map Ak)] (.sl ((Dk l c x ids).map Ak)):=by
 refine MX yO ?_
 (repeat' first|simp(disch:=omega)only[go_sem,simprocAttr]|fail)
 refine AA [0,5,6] (by simp only[V0,G4,reduceIte,Nat.reduceEqDiff];rfl) (fun i:Nat=>[(3,.i (.sl ((Dk (l.take i) c x ids).map Ak))),(9,.i (iI i))]) (fun _=>[])
  (fun i=>i<=l.length) (fun i=>l.length-i) 0 (by simp) (by simp[V0,Fz,GF,Dk]) ?_
 intro i wz;by_cases ja:i<l.length
 ·have je:=RR c x (l.take i) ids;have jk:Dk (l.take (i+1)) c x ids=H9 c x (Dk (l.take i) c x ids) (l.getD i default):=by grind[CR,Dk]
  have jl:(l.take i).length<=l.length:=by simp;omega
  have b1:=Xg (mx:=mx) (l.getD i default).fact;have t1:=Rt (mx:=mx) c (l.getD i default).fact.table hc;generalize Dk (l.take i) c x ids=acc at je jk;have p1:=Xn (mx:=mx) acc (AW (l.getD i default).fact) (by omega);have hg:(decide ((l.getD i default).kind≠1)||decide ((l.getD i default).fact.kind=3)||decide ((l.getD i default).fact.key≠x.key))=decide ((l.getD i default).kind≠1\/(l.getD i default).fact.kind=3\/(l.getD i default).fact.key≠x.key):=by grind
  unfold H9 at jk;by_cases hq:(l.getD i default).kind≠1\/(l.getD i default).fact.kind=3\/(l.getD i default).fact.key≠x.key
  ·rw[decide_eq_true hq]at hg;rw[if_pos hq]at jk
   (repeat' first|exact Al _|simp(disch:=omega)only[go_sem,simprocAttr,Ck ja,hg]|refine' Ao (fun hq=>?_) (fun f=>?_)<;>try(have jc:=hq;try simp only[HB]at jc)|refine Aa ?_|fail)
   exact⟨i+1,by omega,by omega,by rw[jk],rfl⟩
  ·rw[decide_eq_false hq]at hg;rw[if_neg hq]at jk;cases ht:A5 c.tables (l.getD i default).fact.table with
   |none=>
    rw[ht]at t1 jk;simp only[GU,Option.getD_none,Option.isSome_none]at t1 jk
    (repeat' first|exact Al _|simp(disch:=omega)only[go_sem,simprocAttr,Ck ja,hg]|refine' Ao (fun hq=>?_) (fun f=>?_)<;>try(have jc:=hq;try simp only[HB]at jc)|refine Sx.s ?_ ?_<;>try(intro h;have h':=h;try simp only[HB]at h';try rewrite [h];try simp only[h])|refine Ab (t1) ?_|refine Aa ?_|fail)
    exact⟨i+1,by omega,by omega,by rw[jk],rfl⟩
   |some t=>
    rw[ht]at t1 jk;simp only[GU,Option.getD_some,Option.isSome_some]at t1 jk;by_cases he:t.entity=x.entity
    ·rw[if_pos he]at jk
     (repeat' first|exact Al _|simp(disch:=omega)only[go_sem,simprocAttr,Ck ja,hg,eq_true he]|refine' Ao (fun hq=>?_) (fun f=>?_)<;>try(have jc:=hq;try simp only[HB]at jc)|refine Sx.s ?_ ?_<;>try(intro h;have h':=h;try simp only[HB]at h';try rewrite [h];try simp only[h])|refine Ab (t1) ?_|refine Ab (b1) ?_|refine Ab (p1) ?_|refine Aa ?_|fail)
     exact⟨i+1,by omega,by omega,by rw[jk],rfl⟩
    ·rw[if_neg he]at jk
     (repeat' first|exact Al _|simp(disch:=omega)only[go_sem,simprocAttr,Ck ja,hg,eq_false he]|refine' Ao (fun hq=>?_) (fun f=>?_)<;>try(have jc:=hq;try simp only[HB]at jc)|refine Sx.s ?_ ?_<;>try(intro h;have h':=h;try simp only[HB]at h';try rewrite [h];try simp only[h])|refine Ab (t1) ?_|refine Aa ?_|fail)
     exact⟨i+1,by omega,by omega,by rw[jk],rfl⟩
 ·have e:l.take i=l:=List.take_of_length_le (by omega);rw[e]
  (repeat' first|simp(disch:=omega)only[go_sem,simprocAttr,Ie ja]|refine Aa ?_|refine Sz.s ?_|fail)
def Bx(l:List Ent):Nat->List Fid
 |0=>[]
 |i+1=>if(l.getD i default).kind≠2 then Bx l i else if(l.getD i default).erasure.kind=2 then Eb (Bx l i) (l.getD i default).erasure.id
  else Dk (l.take i) (atR (l.take i) 1099511627776) (l.getD i default).erasure (Bx l i)
def Ez(l:List Ent):List Fid:=Bx l l.length
theorem RS(l:List Ent):∀i,i<=l.length->(Bx l i).length<=i*(l.length+1)
 |0,_=>by simp[Bx]
 |i+1,h=>by
  have h0:=RS l i (by omega);have h1:=Xm (Bx l i) (l.getD i default).erasure.id;have h2:=RR (atR (l.take i) 1099511627776) (l.getD i default).erasure (l.take i) (Bx l i);rw[List.length_take]at h2;rw[Nat.succ_mul];simp only[Bx];repeat' split
  all_goals omega
abbrev rM(b:Bool)(l:List Fid):D:=if b=true then .i (.sl (l.map Ak))else .ref (.sl 3 2 0 0)
abbrev rN(b:Bool):List (Nat×Blk):=if b=true then[]else[(3,.rows 30 2 [])]
theorem Xo(l:List Ent)(hl:Ag AF l<=1073740)(h30:l.length<=30000):Is mx 29 [.sl (l.map Ad)] (.sl ((Ez l).map Ak)):=by
 refine MX ym ?_
 (repeat' first|simp(disch:=omega)only[go_sem,simprocAttr]|fail)
 refine AA [0] (by simp only[V0,G4,reduceIte,Nat.reduceEqDiff];rfl) (fun g:Bool×Nat=>[(3,rM g.1 (Bx l g.2)),(4,.i (iI g.2))]) (fun g=>rN g.1)
  (fun g=>g.2<=l.length/\(g.1=false->Bx l g.2=[])) (fun g=>l.length-g.2) (false,0) ⟨by simp,fun _=>rfl⟩ (by simp[rM,rN,V0,Fz,GF,Ref.nm]) ?_
 rintro⟨b,i⟩ ⟨hi,hb⟩;simp only at hi hb;by_cases ja:i<l.length
 ·have je:(Bx l i).length<=1000000000:=by have h0:=RS l i hi;have h1:i*(l.length+1)<=30000*30001:=Nat.mul_le_mul (by omega) (by omega);omega
  have jk:Bx l (i+1)=if(l.getD i default).kind≠2 then Bx l i else if(l.getD i default).erasure.kind=2 then Eb (Bx l i) (l.getD i default).erasure.id
   else Dk (l.take i) (atR (l.take i) 1099511627776) (l.getD i default).erasure (Bx l i):=rfl
  generalize Bx l i=acc at je jk hb;have c1:((i:Int)<=(l.length:Int))=True:=eq_true (by omega);have c2:(i<=l.length)=True:=eq_true (by omega);by_cases h2:(l.getD i default).kind=2
  ·rw[if_neg (by omega)]at jk;by_cases h3:(l.getD i default).erasure.kind=2
   ·rw[if_pos h3]at jk;have p1:=Xn (mx:=mx) acc (l.getD i default).erasure.id (by omega);cases b
    ·obtain rfl:=hb rfl;simp only[List.map_nil]at p1;simp only[rM,rN]
     (repeat' first|simp(disch:=omega)only[go_sem,simprocAttr,Ck ja,eq_true h2,eq_true h3,ne_eq,not_true_eq_false,decide_false,Bool.false_eq_true]|refine Sx.s ?_ ?_<;>try(intro h;have h':=h;try simp only[HB]at h';try rewrite [h];try simp only[h])|refine Ab (p1) ?_|refine Aa ?_|fail)
     exact⟨(true,i+1),⟨ja,by simp⟩,by show l.length-(i+1)<_;omega,by rw[jk];exact⟨rfl,rfl⟩,trivial,rfl,rfl⟩
    ·simp only[rM,rN]
     (repeat' first|simp(disch:=omega)only[go_sem,simprocAttr,Ck ja,eq_true h2,eq_true h3,ne_eq,not_true_eq_false,decide_false]|refine Sx.s ?_ ?_<;>try(intro h;have h':=h;try simp only[HB]at h';try rewrite [h];try simp only[h])|refine Ab (p1) ?_|refine Aa ?_|fail)
     exact⟨(true,i+1),⟨ja,by simp⟩,by show l.length-(i+1)<_;omega,by rw[jk];exact⟨rfl,rfl⟩,trivial,rfl,rfl⟩
   ·rw[if_neg h3]at jk;have hbt:=Ni AF l i;have vt:(l.take i).length<=l.length:=by simp;omega
    have hlb:=Lf l;have rowsE:=eq_true (BH l Dj Fu).1;have a0:=mE (mx:=mx) (l.take i) 1099511627776 (by omega);have hcb:=RN (l.take i) 1099511627776 (l.take i).length (Nat.le_refl _);rw[List.take_length]at hcb;have hct:(atR (l.take i) 1099511627776).tables.length<=1073741824:=by grind[Ch,atR,HM,AV,Ag,AF]
    have p1:=mS (mx:=mx) (l.take i) (atR (l.take i) 1099511627776) (l.getD i default).erasure acc (by omega) (by omega) hct;generalize atR (l.take i) 1099511627776=cc at a0 p1 jk;rw[List.map_take]at a0 p1;cases b
    ·obtain rfl:=hb rfl;simp only[List.map_nil]at p1;simp only[rM,rN]
     (repeat' first|simp(disch:=omega)only[go_sem,simprocAttr,Ck ja,eq_true h2,eq_false h3,c1,ne_eq,not_true_eq_false,decide_false,Bool.false_eq_true,List.drop_zero,rowsE]|refine Ab (a0) ?_|refine Ab (p1) ?_|refine Aa ?_|refine Am ?_|fail)
     exact⟨(true,i+1),⟨ja,by simp⟩,by show l.length-(i+1)<_;omega,by rw[jk];exact⟨rfl,rfl⟩,trivial,rfl,rfl⟩
    ·simp only[rM,rN]
     (repeat' first|simp(disch:=omega)only[go_sem,simprocAttr,Ck ja,eq_true h2,eq_false h3,c1,ne_eq,not_true_eq_false,decide_false,List.drop_zero,rowsE]|refine Ab (a0) ?_|refine Ab (p1) ?_|refine Aa ?_|refine Am ?_|fail)
     exact⟨(true,i+1),⟨ja,by simp⟩,by show l.length-(i+1)<_;omega,by rw[jk];exact⟨rfl,rfl⟩,trivial,rfl,rfl⟩
  ·rw[if_pos h2]at jk;cases b
   ·obtain rfl:=hb rfl;simp only[rM,rN]
    (repeat' first|simp(disch:=omega)only[go_sem,simprocAttr,Ck ja,eq_false h2,ne_eq,not_false_eq_true,decide_true,Bool.false_eq_true]|refine Aa ?_|fail)
    exact⟨(false,i+1),⟨ja,fun _=>jk⟩,by show l.length-(i+1)<_;omega,⟨rfl,rfl⟩,⟨rfl,trivial⟩,rfl,rfl⟩
   ·simp only[rM,rN]
    (repeat' first|simp(disch:=omega)only[go_sem,simprocAttr,Ck ja,eq_false h2,ne_eq,not_false_eq_true,decide_true]|refine Aa ?_|fail)
    exact⟨(true,i+1),⟨ja,by simp⟩,by show l.length-(i+1)<_;omega,by rw[jk];exact⟨rfl,rfl⟩,trivial,rfl,rfl⟩
 ·have e:i=l.length:=by omega
  rw[Ez,<-e];cases b
  ·have h0:=hb rfl;simp only[rM,rN,h0]
   (repeat' first|simp(disch:=omega)only[go_sem,simprocAttr,Ie ja,Bool.false_eq_true]|refine Aa ?_|refine Sz.s ?_|fail)
   all_goals(try rfl)
  ·simp only[rM,rN]
   (repeat' first|simp(disch:=omega)only[go_sem,simprocAttr,Ie ja]|refine Aa ?_|refine Sz.s ?_|fail)
end
section
abbrev Ks:Fct:=⟨Lv,0,0,[],[],0,[]⟩
abbrev Gh:Chg:=⟨0,Bh,CI,[]⟩
abbrev Kt:Ent:=⟨0,0,0,Ks,H5,Gh⟩
def DR(e:Ent):Ent:=⟨e.no,e.tick,2,Ks,⟨2,[],[],AW e.fact⟩,Gh⟩
def DS(gone:List Fid)(e:Ent):Ent:=if e.kind=1/\G1 gone (AW e.fact)=true then DR e else e
def DT(l:List Ent):List Ent:=l.map (DS (Ez l))
theorem Xp{l:List Ent}(h30:l.length<=30000):(Ez l).length<=1000000000:=by have h0:=RS l l.length (Nat.le_refl _);have h1:l.length*(l.length+1)<=30000*30001:=Nat.mul_le_mul (by omega) (by omega);grind[Ez]
theorem Xq(l:List Ent)(hl:Ag AF l<=1073740)(h30:l.length<=30000):Is mx 17 [.sl (l.map Ad)] (.sl ((DT l).map Ad)):=by
 have je:=Xp h30;have e0:=Xo (mx:=mx) l hl h30;unfold DT;generalize Ez l=gone at je e0;refine MX ya ?_
 (repeat' first|simp(disch:=omega)only[go_sem,simprocAttr]|refine Sx.s ?_ ?_<;>try(intro h;have h':=h;try simp only[HB]at h';try rewrite [h];try simp only[h])|refine Ab (e0) ?_|fail)
 refine AA [0,3] (by simp only[V0,G4,reduceIte,Nat.reduceEqDiff];rfl) (fun i:Nat=>[(4,.ref (.sl 4 40 0 i)),(5,.i (iI i))]) (fun i=>[(4,.rows 54 40 (((l.take i).map (DS gone)).map Ad))])
  (fun i=>i<=l.length) (fun i=>l.length-i) 0 (by simp) (by simp[V0,Fz,GF,Ref.nm]) ?_
 intro i hi;have k7:((l.take i).map (DS gone)).length=i:=by simp;omega
 by_cases ja:i<l.length
 ·have b1:=Xg (mx:=mx) (l.getD i default).fact;have p1:=mQ (mx:=mx) gone (AW (l.getD i default).fact) (by omega);have hT:(l.take (i+1)).map (DS gone)=(l.take i).map (DS gone)++[DS gone (l.getD i default)]:=by grind[CR]
  have qe:=D9 Dj Fu (l.getD i default);have hr2:=D9 Dj Fu (DR (l.getD i default));rw[Ax]at qe hr2;simp only[DR]at hr2;generalize (l.take i).map (DS gone)=acc at k7 hT;have kj:List.take i (acc.map Ad)=acc.map Ad:=List.take_of_length_le (by simp[k7]);by_cases hk:(l.getD i default).kind=1
  ·cases jr:G1 gone (AW (l.getD i default).fact)
   ·have hp:DS gone (l.getD i default)=l.getD i default:=by rw[DS,if_neg];rw[jr];simp
    rw[hp]at hT;rw[jr]at p1
    (repeat' first|simp(disch:=omega)only[go_sem,simprocAttr,Ck ja,Ax,eq_true hk,qe.1,qe.2,k7,Nat.sub_zero]|refine Sx.s ?_ ?_<;>try(intro h;have h':=h;try simp only[HB]at h';try rewrite [h];try simp only[h])|refine Ab (b1) ?_|refine Ab (p1) ?_|refine Aa ?_|(refine And.intro ?_ ?_;focus omega))
    exact⟨i+1,by omega,by omega,⟨rfl,rfl⟩,by rw[hT,List.map_append,List.map_cons,List.map_nil,Ax (l.getD i default),kj]⟩
   ·have hp:DS gone (l.getD i default)=DR (l.getD i default):=by rw[DS,if_pos ⟨hk,jr⟩]
    rw[hp]at hT;rw[jr]at p1
    (repeat' first|simp(disch:=omega)only[go_sem,simprocAttr,Ck ja,Ax,eq_true hk,k7,Nat.sub_zero]|refine Sx.s ?_ ?_<;>try(intro h;have h':=h;try simp only[HB]at h';try rewrite [h];try simp only[h])|refine Ab (b1) ?_|refine Ab (p1) ?_|refine Aa ?_|fail)
    exact⟨fun r hr=>by simp only[List.mem_singleton]at hr;subst hr;rfl,fun r hr=>by simp only[List.mem_singleton]at hr;subst hr;rfl,by omega,by omega,i+1,by omega,by omega,⟨rfl,rfl⟩,by rw[hT,List.map_append,kj];rfl⟩
  ·have hp:DS gone (l.getD i default)=l.getD i default:=by rw[DS,if_neg];exact fun h=>hk h.1
   rw[hp]at hT
   (repeat' first|simp(disch:=omega)only[go_sem,simprocAttr,Ck ja,Ax,eq_false hk,qe.1,qe.2,k7,Nat.sub_zero]|refine Aa ?_|(refine And.intro ?_ ?_;focus omega))
   exact⟨i+1,by omega,by omega,⟨rfl,rfl⟩,by rw[hT,List.map_append,List.map_cons,List.map_nil,Ax (l.getD i default),kj]⟩
 ·have e:i=l.length:=by omega
  subst e;rw[List.take_length]at k7⊢
  (repeat' first|simp(disch:=omega)only[go_sem,simprocAttr,Ie ja,k7]|refine Aa ?_|refine Sz.s ?_|fail)
  rw[List.take_of_length_le (by simp)]
theorem mT(l:List Ent):(DT l).length=l.length:=by simp[DT]
def Ia(l:List Ent)(no:Int):List Ent:=(DT l).filter fun x=>decide (x.no<=no)
theorem mU(l:List Ent)(no:Int)(hl:Ag AF l<=1073740)(h30:l.length<=30000):Is mx 28 [.sl (l.map Ad),iI no] (.sl ((Ia l no).map Ad)):=by
 have p0:=Xq (mx:=mx) l hl h30;have wd:=mT l;unfold Ia;generalize DT l=q at p0 wd;refine MX yl ?_
 (repeat' first|simp(disch:=omega)only[go_sem,simprocAttr]|refine Sx.s ?_ ?_<;>try(intro h;have h':=h;try simp only[HB]at h';try rewrite [h];try simp only[h])|refine Ab (p0) ?_|fail)
 refine AA [1,5] (by simp only[V0,G4,reduceIte,Nat.reduceEqDiff];rfl) (fun i:Nat=>[(6,.ref (.sl 6 40 0 ((q.take i).filter fun x=>decide (x.no<=no)).length)),(7,.i (iI i))]) (fun i=>[(6,.rows 54 40 (((q.take i).filter fun x=>decide (x.no<=no)).map Ad))])
  (fun i=>i<=q.length) (fun i=>q.length-i) 0 (by simp) (by simp[V0,Fz,GF,Ref.nm]) ?_
 intro i hi;have wg:((q.take i).filter fun x=>decide (x.no<=no)).length<=i:=Nat.le_trans (List.length_filter_le _ _) (by simp;omega);by_cases ja:i<q.length
 ·have w5:=M6 (fun x:Ent=>decide (x.no<=no)) q i ja;have qe:=D9 Dj Fu (q.getD i default);generalize (q.take i).filter (fun x=>decide (x.no<=no))=acc at w5 wg;cases ht:decide ((q.getD i default).no<=no)
  ·rw[ht,if_neg (by simp)]at w5
   (repeat' first|simp(disch:=omega)only[go_sem,simprocAttr,Ck ja,ht]|refine Aa ?_|fail)
   exact⟨i+1,by omega,by omega,by rw[w5];exact⟨rfl,rfl⟩,by rw[w5]⟩
  ·rw[ht,if_pos rfl]at w5
   (repeat' first|simp(disch:=omega)only[go_sem,simprocAttr,Ck ja,ht,qe.1,qe.2,Nat.sub_zero]|refine Aa ?_|(refine And.intro ?_ ?_;focus omega))
   exact⟨i+1,by omega,by omega,by rw[w5];exact⟨by simp,rfl⟩,by rw[w5];simp⟩
 ·have e:q.take i=q:=List.take_of_length_le (by omega);rw[e]
  (repeat' first|simp(disch:=omega)only[go_sem,simprocAttr,Ie ja]|refine Aa ?_|refine Sz.s ?_|fail)
end
section
theorem O5:∀(x y:Bs),Op.bytesLess x y=decide (x<y)
 |[],[]=>by rfl
 |_::_,[]=>by rfl
 |[],_::_=>by rfl
 |a::x,b::y=>by rw[Op.bytesLess,O5 x y];simp only[List.cons_lt_cons_iff];grind
theorem Xr(x:Bs):Op.bytesLess x x=false:=by simp[O5]
theorem mV(a:Int):Is mx 102 [iI a] (.bool false):=by
 refine MX cL ?_
 (repeat' first|simp(disch:=omega)only[go_sem,simprocAttr,ne_eq,not_true_eq_false,decide_false]|refine Sz.s ?_|fail)
theorem mW(a:Bs):Is mx 151 [.str a] (.bool false):=by
 refine MX di ?_
 (repeat' first|simp(disch:=omega)only[go_sem,simprocAttr,ne_eq,not_true_eq_false,decide_false]|refine Sz.s ?_|fail)
theorem Xs(a b:Int):Is mx 71 [iI a,iI b] (iI (Ey a b)):=by
 refine MX yT ?_
 (repeat' first|simp(disch:=omega)only[go_sem,simprocAttr]|refine Sx.s ?_ ?_<;>try(intro h;have h':=h;try simp only[HB]at h';try rewrite [h];try simp only[h])|refine Ab (mV _) ?_|refine Aa ?_|refine Sz.s ?_|fail)
 all_goals(refine congrArg (I.int .i64) ?_;simp only[Ey];first|done|(grind(splits:=20)))
def Nj(a b:Bs):Int:=if Op.bytesLess a b=true then-1 else if a=b then 0 else 1
theorem mX(a b:Bs):Is mx 91 [.str a,.str b] (iI (Nj a b)):=by
 refine MX zd ?_
 (repeat' first|simp(disch:=omega)only[go_sem,simprocAttr]|refine Sx.s ?_ ?_<;>try(intro h;have h':=h;try simp only[HB]at h';try rewrite [h];try simp only[h])|refine Ab (mW _) ?_|refine Aa ?_|refine Sz.s ?_|fail)
 all_goals(refine congrArg (I.int .i64) ?_;simp only[Nj];first|done|(grind(splits:=20)))
def vY(l:List Int):Int:=(l.find? fun x=>decide (x≠0)).getD 0
theorem Xt(l:List Int)(hl:l.length<=1073741824):Is mx 70 [.sl (l.map fun x=>[iI x])] (iI (vY l)):=by
 refine MX yS ?_
 (repeat' first|simp(disch:=omega)only[go_sem,simprocAttr]|fail)
 refine BP [3,6,7] (fun i=>[(8,.i (iI i))]) (fun _=>[]) (fun i=>(l.take i).all (fun x=>!decide (x≠0))=true) l.length 0 (by omega) (by simp) ?_;intro i hi jb;by_cases ja:i<l.length
 ·by_cases hn:l.getD i default=0
  ·(repeat' first|simp(disch:=omega)only[go_sem,simprocAttr,Ck ja,eq_true hn,ne_eq,not_true_eq_false,decide_false]|refine Aa ?_|(refine And.intro ?_ ?_;focus omega))
   exact BO (d:=default) jb ja (by rw[hn];decide)
  ·have hf:=Kg (p:=fun x:Int=>decide (x≠0)) jb ja (decide_eq_true hn);rw[vY,hf]
   (repeat' first|simp(disch:=omega)only[go_sem,simprocAttr,Ck ja,eq_false hn,ne_eq,not_false_eq_true,decide_true]|refine Aa ?_|refine Sz.s ?_|fail)
   try rfl
 ·rw[vY,Kh jb ja]
  (repeat' first|simp(disch:=omega)only[go_sem,simprocAttr,Ie ja]|refine Aa ?_|refine Sz.s ?_|fail)
  try rfl
theorem xy(a b:Int):vY [a,b]=if a≠0 then a else b:=by grind[vY]
theorem mY(a b:Fid):Ct a b=if a=b then 0 else vY [Nj a.source b.source,Ey a.seq b.seq]:=by grind[xy,Ct,Nj,Xr,Ey]
theorem Xu(a b:Fid):Is mx 55 [.agg (Ak a),.agg (Ak b)] (iI (Ct a b)):=by
 have h1:=mX (mx:=mx) a.source b.source;have h2:=Xs (mx:=mx) a.seq b.seq;have h3:=Xt (mx:=mx) [Nj a.source b.source,Ey a.seq b.seq] (by simp);have hR:=mY a b;have hfid:(decide (a.source=b.source)&&decide (a.seq=b.seq))=decide (a=b):=(Gg _ _).symm;simp only[List.map_cons,List.map_nil]at h3;rw[hR];refine MX yG ?_;by_cases he:a=b
 ·rw[if_pos he];rw[decide_eq_true he]at hfid
  (repeat' first|simp(disch:=omega)only[go_sem,simprocAttr,DB,DC,hfid]|refine Aa ?_|refine Sz.s ?_|fail)
 ·rw[if_neg he];rw[decide_eq_false he]at hfid
  (repeat' first|simp(disch:=omega)only[go_sem,simprocAttr,DB,DC,hfid]|refine Ab (h1) ?_|refine Ab (h2) ?_|refine Ab (h3) ?_|refine Aa ?_|refine Am ?_|refine Sz.s ?_|fail)
theorem mZ(a b:Rw):Is mx 36 [.agg (KB a),.agg (KB b)] (iI (Fs a b)):=by
 have h1:=Xs (mx:=mx) a.event b.event;have h2:=Xu (mx:=mx) a.id b.id;have h3:=Xt (mx:=mx) [Ey a.event b.event,Ct a.id b.id] (by simp);have hR:Fs a b=vY [Ey a.event b.event,Ct a.id b.id]:=by rw[xy];rfl
 simp only[List.map_cons,List.map_nil]at h3;rw[hR];refine MX yp ?_
 (repeat' first|simp(disch:=omega)only[go_sem,simprocAttr]|refine Ab (h1) ?_|refine Ab (h2) ?_|refine Ab (h3) ?_|refine Am ?_|refine Sz.s ?_|fail)
theorem O6(f:Fct):Is mx 35 [.agg (Bu f)] (.agg (Ak (AW f))):=by
 refine MX yo ?_
 (repeat' first|simp(disch:=omega)only[go_sem,simprocAttr]|refine Sx.s ?_ ?_<;>try(intro h;have h':=h;try simp only[HB]at h';try rewrite [h];try simp only[h])|refine Aa ?_|refine Sz.s ?_|fail)
 ·simp[AW,h']
 ·simp[AW,h']
theorem m3(s:Bs):decide (Er ⟨5,0,s⟩=0)=Kd s:=by rw[<-Wy,Bool.eq_iff_iff];grind[wR,MV,wX,Kd]
theorem m5(s:Bs):Is mx 104 [.str s] (.bool (Kd s)):=by
 have h1:=Vz (mx:=mx) ⟨5,0,s⟩;rw[<-m3];refine MX cN ?_
 (repeat' first|simp(disch:=omega)only[go_sem,simprocAttr]|refine Sx.s ?_ ?_<;>try(intro h;have h':=h;try simp only[HB]at h';try rewrite [h];try simp only[h])|refine Ab (h1) ?_|refine Sz.s ?_|fail)
theorem m6(f:Fct):Is mx 74 [.agg (Bu f)] (.bool (Kn f)):=by
 refine MX yW ?_
 (repeat' first|exact Al _|simp(disch:=omega)only[go_sem,simprocAttr]|refine' Ao (fun hq=>?_) (fun f=>?_)<;>try(have jc:=hq;try simp only[HB]at jc)|refine Sx.s ?_ ?_<;>try(intro h;have h':=h;try simp only[HB]at h';try rewrite [h];try simp only[h])|refine Ab (K5 _) ?_|refine Ab (m5 _) ?_|refine Aa ?_|refine Sz.s ?_|fail)
 all_goals(refine congrArg I.bool ?_;simp only[Kn,RH,RI,MU];first|done|(grind(splits:=20)))
theorem Xv(c:Cat)(name:Bs)(hc:c.tables.length<=1073741824):Is mx 23 [.agg (Aw c),.str name] (GU (A5 c.tables name)):=by
 refine MX yg ?_
 (repeat' first|simp(disch:=omega)only[go_sem,simprocAttr]|fail)
 refine CP [1,4,9,10] (by simp only[V0,G4,reduceIte,Nat.reduceEqDiff];rfl) (fun i=>[(11,.i (iI i))]) (fun _=>[(4,.cells WS)]) (fun i=>(c.tables.take i).all (fun f=>!decide (f.name=name))=true) c.tables.length 0 (by omega) (by simp) (by simp[V0,Fz,Ref.nm,D.nms,Pq]) ?_;intro i hi jb;by_cases ja:i<c.tables.length
 ·by_cases hn:(c.tables.getD i default).name=name
  ·have hf:=Kg (p:=fun f=>decide (f.name=name)) jb ja (by simpa using hn);rw[A5,hf]
   (repeat' first|simp(disch:=omega)only[go_sem,simprocAttr,Ck ja,eq_true hn]|refine Aa ?_|refine Sz.s ?_|fail)
   try rfl
  ·(repeat' first|simp(disch:=omega)only[go_sem,simprocAttr,Ck ja,eq_false hn]|refine Aa ?_|(refine And.intro ?_ ?_;focus omega))
   exact BO (d:=default) jb ja (by simpa using hn)
 ·rw[A5,Kh jb ja]
  (repeat' first|simp(disch:=omega)only[go_sem,simprocAttr,Ie ja]|refine Aa ?_|refine Sz.s ?_|fail)
  try rfl
end
section
structure SLt{α:Type}(lt:α->α->Prop):Prop where
 irr:∀a,¬lt a a
 tr:∀a b c,lt a b->lt b c->lt a c
theorem RT{α:Type}{lt:α->α->Prop}(h:SLt lt):∀{l m:List α},l.Pairwise lt->m.Pairwise lt->(∀x,x∈l↔x∈m)->l=m
 |[],[],_,_,_=>rfl
 |[],b::m,_,_,e=>by have:=(e b).2 (by simp);simp at this
 |a::l,[],_,_,e=>by have:=(e a).1 (by simp);simp at this
 |a::l,b::m,hl,hm,e=>by
  have hl':=List.pairwise_cons.1 hl;have hm':=List.pairwise_cons.1 hm;have hab:a=b:=by
   rcases List.mem_cons.1 ((e a).1 (by simp))with h1|h1
   ·exact h1
   ·rcases List.mem_cons.1 ((e b).2 (by simp))with h2|h2
    ·exact h2.symm
    ·exact absurd (h.tr _ _ _ (hl'.1 b h2) (hm'.1 a h1)) (h.irr a)
  subst hab;congr 1;refine RT h hl'.2 hm'.2 fun x=>⟨fun hx=>?_,fun hx=>?_⟩
  ·rcases List.mem_cons.1 ((e x).1 (List.mem_cons_of_mem _ hx))with h1|h1
   ·subst h1;exact absurd (hl'.1 _ hx) (h.irr _)
   ·exact h1
  ·rcases List.mem_cons.1 ((e x).2 (List.mem_cons_of_mem _ hx))with h1|h1
   ·subst h1;exact absurd (hm'.1 _ hx) (h.irr _)
   ·exact h1
theorem m7(a:Bs):¬Op.bytesLess a a=true:=by simp[Xr]
theorem m8(a b c:Bs)(h:Op.bytesLess a b=true)(k:Op.bytesLess b c=true):Op.bytesLess a c=true:=by grind[O5]
theorem m9(a b:Bs):Op.bytesLess a b=true\/a=b\/Op.bytesLess b a=true:=by grind[O5]
def DD(a b:Fid):Prop:=Ct a b<0
theorem RU(a b:Fid):DD a b↔Op.bytesLess a.source b.source=true\/(a.source=b.source/\a.seq<b.seq):=by grind[DD,Ct,Ey]
theorem Ib:SLt DD where
 irr a h:=by grind[RU,m7]
 tr a b c h k:=by grind[RU,m8]
theorem Nk(a b:Fid):DD a b\/a=b\/DD b a:=by
 simp only[RU];rcases m9 a.source b.source with h|h|h
 ·exact .inl (.inl h)
 ·rcases Int.lt_trichotomy a.seq b.seq with k|k|k
  ·exact .inl (.inr ⟨h,k⟩)
  ·refine .inr (.inl ?_);cases a;cases b;simp_all
  ·exact .inr (.inr (.inr ⟨h.symm,k⟩))
 ·exact .inr (.inr (.inl h))
theorem Xw{α:Type}{p:α->Bool}:∀{l:List α},∀y∈l.take (l.takeWhile p).length,p y=true
 |[],y,h=>by simp at h
 |a::l,y,h=>by
  cases hp:p a
  ·simp[hp]at h
  ·rw[List.takeWhile_cons_of_pos hp,List.length_cons,List.take_succ_cons]at h;rcases List.mem_cons.1 h with e|e
   ·rw[e];exact hp
   ·exact Xw y e
theorem Xx{α:Type}{p:α->Bool}:∀{l:List α} (h:(l.takeWhile p).length<l.length),p l[(l.takeWhile p).length]=false
 |[],h=>by simp at h
 |a::l,h=>by
  cases hp:p a
  ·simp[hp]
  ·simp only[List.takeWhile_cons_of_pos hp,List.length_cons,List.getElem_cons_succ];exact Xx (by simpa[List.takeWhile_cons_of_pos hp]using h)
theorem nc{α:Type}{lt:α->α->Prop}{l:List α}{x:α}{k:Nat}(hl:l.Pairwise lt)(h1:∀y∈l.take k,lt y x)(h2:∀y∈l.drop k,lt x y):(BV l k x).Pairwise lt:=by
 have hs:(l.take k++l.drop k).Pairwise lt:=by simp_all
 grind[BV]
theorem ne{α:Type}{l:List α}{k:Nat}{x y:α}:y∈BV l k x↔y=x\/y∈l:=by
 have:y∈l↔y∈l.take k\/y∈l.drop k:=by rw[<-List.mem_append,List.take_append_drop]
 grind[BV]
theorem Xy{l:List Fid}{id x:Fid}:x∈Eb l id↔x=id\/x∈l:=by grind[Eb,AE,ne]
theorem Xz{l:List Fid}{id:Fid}(hl:l.Pairwise DD):(Eb l id).Pairwise DD:=by
 unfold Eb;split
 ·exact hl
 ·rename_i jh;have h1:∀y∈l.take (Ea l id),DD y id:=fun y hy=>by simpa[DD]using Xw (p:=fun y=>decide (Ct y id<0)) y hy
  refine nc hl h1 ?_;by_cases hk:Ea l id<l.length
  ·have h2:=Xx (p:=fun y=>decide (Ct y id<0)) hk;have hd:l.drop (Ea l id)=l[Ea l id]::l.drop (Ea l id+1):=List.drop_eq_getElem_cons hk;have jl:DD id l[Ea l id]:=by
    rcases Nk l[Ea l id] id with h|h|h
    ·exfalso;have h3:decide (Ct l[Ea l id] id<0)=false:=h2;rw[decide_eq_false_iff_not]at h3;exact h3 h
    ·exact absurd ⟨hk,by rw[A7 hk];exact h⟩ jh
    ·exact h
   have hs:(l.drop (Ea l id)).Pairwise DD:=List.Pairwise.sublist (List.drop_sublist _ _) hl;rw[hd,List.pairwise_cons]at hs;rw[hd];intro y hy;rcases List.mem_cons.1 hy with e|e
   ·rw[e];exact jl
   ·exact Ib.tr _ _ _ jl (hs.1 y e)
  ·rw[List.drop_of_length_le (by omega)];simp
theorem ng(l:List Fid)(id:Fid):G1 l id=true↔id∈l:=by simp[G1]
theorem XA(c:Cat)(x:Ers):∀(l:List Ent) (ids:List Fid) (y:Fid),y∈Dk l c x ids↔y∈ids\/∃e∈l,e.kind=1/\e.fact.kind≠3/\e.fact.key=x.key/\(∃t,A5 c.tables e.fact.table=some t/\t.entity=x.entity)/\y=AW e.fact
 |[],ids,y=>by simp[Dk]
 |e::l,ids,y=>by have ih:=XA c x l (H9 c x ids e) y;grind[Dk,H9,A5,AW,Xy]
theorem XB(c:Cat)(x:Ers):∀(l:List Ent) (ids:List Fid),ids.Pairwise DD->(Dk l c x ids).Pairwise DD
 |[],ids,h=>h
 |e::l,ids,h=>by
  simp only[Dk,List.foldl_cons];refine XB c x l _ ?_;unfold H9;repeat' split
  all_goals first|exact h|exact Xz h
theorem O7(l:List Ent):∀i,(Bx l i).Pairwise DD
 |0=>List.Pairwise.nil
 |i+1=>by
  unfold Bx;repeat' split
  ·exact O7 l i
  ·exact Xz (O7 l i)
  ·exact XB _ _ _ _ (O7 l i)
end
section
open Go.Sort Go.RowKit Go.Shelf
def DE(l:List Fid):List Fid:=l.mergeSort fun a b=>!decide (Ct b a<0)
theorem XC:SWO fun x y:Fid=>decide (Ct x y<0) where
 irrefl x:=by have:=Ib.irr x;unfold DD at this;simpa using this
 trans x y z h k:=by rw[decide_eq_true_eq]at*;exact Ib.tr x y z h k
 ntrans x y z h k:=by
  rw[decide_eq_false_iff_not]at*;intro hxz;rcases Nk x y with q|q|q
  ·exact h q
  ·subst q;exact k hxz
  ·exact k (Ib.tr y x z q hxz)
theorem Nl(l:List Fid):(DE l).Perm l:=List.mergeSort_perm l _
theorem RW(l:List Fid):(DE l).Pairwise fun x y=>¬Ct y x<0:=by
 have:=List.pairwise_mergeSort (le:=fun a b:Fid=>!decide (Ct b a<0)) (fun a b c h k=>by
  simp only[Bool.not_eq_true',decide_eq_false_iff_not]at*;intro hca;have:=XC.ntrans c b a (by simpa using k) (by simpa using h);rw[decide_eq_false_iff_not]at this;exact this hca) (fun a b=>by
  simp only[Bool.or_eq_true,Bool.not_eq_true',decide_eq_false_iff_not];by_cases h:Ct b a<0
  ·exact .inr fun k=>Ib.irr a (Ib.tr a b a k h)
  ·exact .inl h) l
 exact this.imp fun h=>by simpa using h
theorem RX{l l':List Fid}(hp:l'.Perm l)(hs:l'.Pairwise fun x y=>¬Ct y x<0):l'=DE l:=
 (hp.trans (Nl l).symm).eq_of_pairwise (fun x y _ _ h1 h2=>by
  rcases Nk x y with q|q|q
  ·exact absurd q h2
  ·exact q
  ·exact absurd q h1) hs (RW l)
theorem nh(l:List Fid):(DE l).length=l.length:=(Nl l).length_eq
theorem ni(l:List Fid)(hl:l.length<4611686018427387904):MC Tryz.prog (Nt mx) 54 [.ref (.sl 5000 2 0 l.length),.i (.fn 55 [] [])] [(5000,.rows 30 2 (l.map Ak))] []
  (fun r s=>r=.i (.tup [])/\s=[(5000,.rows 30 2 ((DE l).map Ak))]):=by
 refine(VQ (mx:=mx) Tryz.sortFid rfl 2 30 (by decide) (fun w=>by rfl) (fun w=>by rfl) (by kernel_rfl) (by kernel_rfl) Ak Ly Lz Ct XC (fun x y=>Xu x y) l hl (by decide)).mono ?_;rintro r s ⟨h1,l',h2,h3,h4⟩;exact⟨h1,by rw[h4,RX h2 h3]⟩
def Dm(a b:Rw):Prop:=Fs a b<0
theorem O8(a b:Rw):Dm a b↔a.event<b.event\/(a.event=b.event/\DD a.id b.id):=by grind[Dm,Fs,Ey,DD]
theorem LA:SLt Dm where
 irr a h:=by rcases(O8 a a).1 h with h|h;omega;exact Ib.irr _ h.2
 tr a b c h k:=by
  rw[O8]at*;rcases h with h|⟨h1,h2⟩<;>rcases k with k|⟨k1,k2⟩
  ·exact .inl (by omega)
  ·exact .inl (by omega)
  ·exact .inl (by omega)
  ·exact .inr ⟨by omega,Ib.tr _ _ _ h2 k2⟩
theorem XD(a b:Rw):Dm a b\/(a.event=b.event/\a.id=b.id)\/Dm b a:=by grind[O8,Nk]
theorem XE:SWO fun x y:Rw=>decide (Fs x y<0) where
 irrefl x:=by have:=LA.irr x;unfold Dm at this;simpa using this
 trans x y z h k:=by rw[decide_eq_true_eq]at*;exact LA.tr x y z h k
 ntrans x y z h k:=by
  rw[decide_eq_false_iff_not]at*;intro hxz;rcases XD x y with q|q|q
  ·exact h q
  ·have:Dm y z:=by have hxz:Dm x z:=hxz;rw[O8]at hxz⊢;rw[<-q.1,<-q.2];exact hxz
   exact k this
  ·exact k (LA.tr y x z q hxz)
theorem nj(l m:List Rw)(hl:l.length<4611686018427387904)(hm:m.Pairwise Dm)(hp:m.Perm l):MC Tryz.prog (Nt mx) 53 [.ref (.sl 5000 8 0 l.length),.i (.fn 36 [] [])] [(5000,.rows 68 8 (l.map KB))] []
  (fun r s=>r=.i (.tup [])/\s=[(5000,.rows 68 8 (m.map KB))]):=by
 refine(VQ (mx:=mx) Tryz.sortRow rfl 8 68 (by decide) (fun w=>by rfl) (fun w=>by rfl) (by kernel_rfl) (by kernel_rfl) KB (fun _=>rfl) (fun _=>rfl) Fs XE (fun x y=>mZ x y) l hl (by decide)).mono ?_;rintro r s ⟨h1,l',h2,h3,h4⟩;refine⟨h1,?_⟩;have hpm:l'.Perm m:=h2.trans hp.symm;have hs:l'.Pairwise Dm:=by
  have hn:m.Pairwise fun x y=>Dm x y\/Dm y x:=hm.imp fun h=>.inl h
  have hn2:l'.Pairwise fun x y=>Dm x y\/Dm y x:=(hpm.pairwise_iff (fun{a b} (h:Dm a b\/Dm b a)=>h.symm)).2 hn
  rw[List.pairwise_iff_getElem]at hn2 h3⊢;intro i j hi hj hij;rcases hn2 i j hi hj hij with q|q
  ·exact q
  ·exact absurd q (h3 i j hi hj hij)
 rw[h4,RT LA hs hm fun x=>hpm.mem_iff]
end
section
def Fv:List (KD×List Fid)->KD->Fid->List (KD×List Fid)
 |[],w,x=>[(w,[x])]
 |p::r,w,x=>if p.1=w then(w,p.2++[x])::r else p::Fv r w x
def BB(A:List (KD×List Fid)):List (KD×List (List I)):=A.map fun p=>(p.1,p.2.map Ak)
theorem XF(A:List (KD×List Fid))(w:KD)(x:Fid):I4 (BB A) w (Ak x)=BB (Fv A w x):=by
 induction A with
 |nil=>rfl
 |cons p r ih=>grind[BB,I4,Fv]
theorem RY(A:List (KD×List Fid)):(BB A).length=A.length:=by simp[BB]
structure ErS where
 ids:List (Fid×Bool)
 kinds:List (Bs×Bs)
 about:List (KD×List Fid)
def DU(ids:List (Fid×Bool))(l:List Fid):List (Fid×Bool):=l.foldl (fun a id=>BG a id true) ids
def O9(s:ErS)(f:Fct):KD:=((AR s.kinds f.table).getD [],f.key)
def YM(s:ErS)(x:Ent):ErS:=
 if x.kind=3/\x.change.kind=1 then⟨s.ids,BG s.kinds x.change.table.name x.change.table.entity,s.about⟩
 else if x.kind=1/\x.fact.kind≠3 then⟨s.ids,s.kinds,Fv s.about (O9 s x.fact) (AW x.fact)⟩
 else if x.kind=2/\x.erasure.kind=2 then⟨BG s.ids x.erasure.id true,s.kinds,s.about⟩
 else if x.kind=2 then⟨DU s.ids ((AR s.about (x.erasure.entity,x.erasure.key)).getD []),s.kinds,s.about⟩
 else s
def Jp(l:List Ent)(i:Nat):ErS:=(l.take i).foldl YM ⟨[],[],[]⟩
theorem Jg{l:List Ent}{i:Nat}(h:i<l.length):Jp l (i+1)=YM (Jp l i) (l.getD i default):=by grind[Jp,CR]
def RZ(n:Nat)(s:ErS):Prop:=∀p∈s.about,p.2.length<=n
theorem nk{n:Nat}{A:List (KD×List Fid)}{w:KD}{x:Fid}(h:∀p∈A,p.2.length<=n):∀p∈Fv A w x,p.2.length<=n+1:=by
 induction A with
 |nil=>intro p hp;simp[Fv]at hp;subst hp;simp
 |cons q r ih=>intro p hp;grind[Fv]
theorem nl{n:Nat}{s:ErS}{x:Ent}(h:RZ n s):RZ (n+1) (YM s x):=by
 unfold YM
 repeat' split
 ·exact fun p hp=>Nat.le_succ_of_le (h p hp)
 ·exact nk h
 ·exact fun p hp=>Nat.le_succ_of_le (h p hp)
 ·exact fun p hp=>Nat.le_succ_of_le (h p hp)
 ·exact fun p hp=>Nat.le_succ_of_le (h p hp)
theorem R0(l:List Ent):∀i,i<=l.length->RZ i (Jp l i)
 |0,_=>fun p hp=>by grind[Jp]
 |i+1,h=>by rw[Jg (by omega)];exact nl (R0 l i (by omega))
def Fw(l:List (Fid×Bool)):List (I×I):=l.map fun p=>(.agg (Ak p.1),.bool p.2)
def Ku(l:List (Bs×Bs)):List (I×I):=l.map fun p=>(.str p.1,.str p.2)
theorem R1(l:List (Fid×Bool))(id:Fid):Dp (Fw l) (.agg [.str id.source,.int .i64 id.seq]) (.bool true)=Fw (BG l id true):=QE (eK:=fun id:Fid=>I.agg (Ak id)) (f:=I.bool) Ov l id true
theorem nn(l:List (Bs×Bs))(k v:Bs):Dp (Ku l) (.str k) (.str v)=Ku (BG l k v):=QE (f:=I.str) U4 l k v
theorem nq(l:List (Bs×Bs))(k:Bs):CB (Ku l) (.str k) (.str []) false=.str ((AR l k).getD []):=QF (f:=I.str) U4 l k []
@[go_sem] theorem uX(d e kk k:Nat)(A:List (KD×List (List I)))(σ:List (Nat×Blk)):Bl (Bq d e kk k A) σ=∀j p,A[j]? =some p->Ac σ (Aq d (k+j))=some (.rows e kk p.2):=by
 induction A generalizing k with
 |nil=>simp[Bq,Bl]
 |cons q r ih=>
  simp only[Bq,Bl,ih];refine propext ⟨fun⟨h1,h2⟩ j p hp=>?_,fun h=>⟨?_,fun j p hp=>?_⟩⟩
  ·cases j with
   |zero=>simp at hp;subst hp;exact h1
   |succ j=>have:=h2 j p (by simpa using hp);rw[show k+(j+1)=k+1+j from by omega];exact this
  ·have:=h 0 q rfl;simpa using this
  ·have:=h (j+1) p (by simpa using hp);rw[show k+1+j=k+(j+1)from by omega];exact this
@[go_sem] theorem uY(S:List (Nat×Blk))(d e kk k:Nat)(A:List (KD×List (List I))):Ps S (Bq d e kk k A)=true:=by
 induction A generalizing k with
 |nil=>rfl
 |cons q r ih=>simp only[Bq,Ps,ih];rfl
@[go_sem] theorem uZ(ls:List LK)(clk d kk:Nat)(A:List (KD×List (List I))):Blk.nms (.gmap ls clk (Se d kk 0 A))=(List.range A.length).map (Aq d):=by have:=VO d kk A 0;simp only[Nat.zero_add]at this;exact this
@[go_sem] theorem u0(n1 n2 n3:Nat)(b1 b2 b3:Blk)(d e kk:Nat)(A:List (KD×List (List I)))(h1:n1<7000)(h2:n2<7000)(h3:n3<7000):Pq ((n1,b1)::(n2,b2)::(n3,b3)::Bq d e kk 0 A) ((List.range A.length).map (Aq d))=true:=by
 unfold Pq;rw[List.all_eq_true];intro nm jo;obtain⟨j,hj,rfl⟩:=List.mem_map.1 jo;have hj:=List.mem_range.1 hj;have e1:∀k,k<7000->¬k=Aq d j:=fun k hk=>by grind[Aq]
 have:=Eu d e kk A 0 j;simp_all[Ac,e1]
attribute [go_sem] VM
@[go_sem] theorem u7(d e kk k:Nat)(A:List (KD×List (List I)))(n m:Nat)(b:Blk):Ac (BD (Bq d e kk k A) n b) m=if m=n then(Ac (Bq d e kk k A) n).map (fun _=>b)else Ac (Bq d e kk k A) m:=Cl _ _ _ _
theorem Nm(l:List Ent)(hl:l.length<=1000000):Is mx 49 [.sl (l.map Ad)] (.map (Fw (Jp l l.length).ids)):=by
 refine MX yC ?_
 (repeat' first|simp(disch:=omega)only[go_sem,simprocAttr]|fail)
 refine AA [3,4,5,14,15] (by simp only[V0,G4,reduceIte,Nat.reduceEqDiff];rfl) (fun i:Nat=>[(16,.i (iI i))]) (fun i=>(11,.map [.g,.s,.i .i64] (Fw (Jp l i).ids))::(12,.gmap [.g,.s,.s] (Jp l i).about.length (Se 65 2 0 (BB (Jp l i).about)))::(13,.map [.s] (Ku (Jp l i).kinds))::Bq 65 30 2 0 (BB (Jp l i).about))
  (fun i=>i<=l.length) (fun i=>l.length-i) 0 (by simp) (by simp[V0,Fz,GF,Ref.nm,Jp,BB,Se,Bq,Fw,Ku,Bl,Ps,gR]) ?_
 intro i hi;by_cases ja:i<l.length
 ·have hsm:=R0 l i hi;have ko:=Jg ja;generalize Jp l i=s at hsm ko;have b1:=O6 (mx:=mx) (l.getD i default).fact;have w8:=RY s.about;by_cases h1:(l.getD i default).kind=3/\(l.getD i default).change.kind=1
  ·rw[YM,if_pos h1]at ko
   (repeat' first|simp(disch:=omega)only[go_sem,simprocAttr,Ck ja,Ax,eq_true h1.1,eq_true h1.2,nn,Au,Ay,A6]|refine Aa ?_|fail)
   exact⟨i+1,by omega,by omega,rfl,by rw[ko],by rw[ko],by rw[ko],fun j p hp=>by rw[ko]at hp;rw[Eu,hp];rfl⟩
  ·rw[YM,if_neg h1]at ko;have h1':∀b1 b2,decide ((l.getD i default).kind=3)=b1->decide ((l.getD i default).change.kind=1)=b2->(b1&&b2)=false:=fun b1 b2 e1 e2=>by grind
   by_cases h2:(l.getD i default).kind=1/\(l.getD i default).fact.kind≠3
   ·rw[if_pos h2]at ko;have qk:¬(l.getD i default).kind=3:=by omega
    have hro:=D9 Ly Lz (AW (l.getD i default).fact);simp only[Ak]at hro;have kx:=nq s.kinds (l.getD i default).fact.table;have hw:O9 s (l.getD i default).fact=((AR s.kinds (l.getD i default).fact.table).getD [],(l.getD i default).fact.key):=rfl;generalize hwg:((AR s.kinds (l.getD i default).fact.table).getD []:Bs)=wa at kx hw;have hgi:=QX 65 2 (wa,(l.getD i default).fact.key) (BB s.about) 0;cases wo:(BB s.about).findIdx? (fun p=>decide (p.1=(wa,(l.getD i default).fact.key)))with
    |none=>
     rw[wo]at hgi;have ha:=gT (x:=Ak (AW (l.getD i default).fact)) wo;rw[XF]at ha;have xd:=gZ 65 30 2 (BB s.about);have ku:=gW 65 2 (BB s.about) (wa,(l.getD i default).fact.key) (Ak (AW (l.getD i default).fact)) (.iter none []);rw[<-ha]at ku;have han:=gY 65 2 (BB s.about) (GM (wa,(l.getD i default).fact.key)) (.iter none []);rw[w8]at xd ku han
     (repeat' first|simp(disch:=omega)only[go_sem,simprocAttr,Ck ja,Ax,eq_false qk,eq_true h2.1,eq_false h2.2,Au,Ay,A6,beq_self_eq_true,kx,hgi,xd,hro.1,hro.2,han,ku,Ak,Nat.sub_zero,ne_eq,not_false_eq_true,decide_true,decide_false,Ref.nm]|refine Ab (b1) ?_|refine Aa ?_|refine Am ?_|fail)
     rw[hw]at ko;have je:(Fv s.about (wa,(l.getD i default).fact.key) (AW (l.getD i default).fact)).length=s.about.length+1:=by grind[RY]
     refine⟨i+1,by omega,by omega,rfl,by rw[ko],by rw[ko,je],by rw[ko],fun j p hp=>?_⟩;rw[ko]at hp;simp only at hp;rw[ha]at hp;rw[<-w8];refine hU 65 _ 2 hp fun hj=>?_
     have n1:¬Aq 65 (0+j)=12:=by grind[Aq]
     have n2:¬Aq 65 (0+j)=Aq 65 (BB s.about).length:=by grind[K8]
     rw[Cl,if_neg n1,Cl,if_neg n2]
    |some j=>
     rw[wo]at hgi;obtain⟨hj,hj1,ha⟩:=gU (x:=Ak (AW (l.getD i default).fact)) wo;rw[XF]at ha;have xd:=MN 65 30 2 hj;have hgj:=VP 65 2 hj;have ku:=gV 65 2 hj (wa,(l.getD i default).fact.key) (Ak (AW (l.getD i default).fact)) (.iter none []);rw[<-ha]at ku;have han:=gX 65 2 hj (GM (wa,(l.getD i default).fact.key)) (.iter none []);have hln:(BB s.about)[j].2.length<=i:=by have:=hsm (s.about[j]'(by omega)) (List.getElem_mem _);grind[BB]
     have kj:List.take (BB s.about)[j].2.length (BB s.about)[j].2=(BB s.about)[j].2:=List.take_length;generalize hrj:(BB s.about)[j].2=rj at xd hgj ku ha hln kj
     (repeat' first|simp(disch:=omega)only[go_sem,simprocAttr,Ck ja,Ax,eq_false qk,eq_true h2.1,eq_false h2.2,Au,Ay,A6,beq_self_eq_true,kx,hgi,hgj,xd,hro.1,hro.2,han,ku,Ak,Nat.sub_zero,ne_eq,not_false_eq_true,decide_true,decide_false,Ref.nm,kj]|refine Ab (b1) ?_|refine Aa ?_|refine Am ?_|(refine And.intro ?_ ?_;focus omega))
     rw[hw]at ko;have je:(Fv s.about (wa,(l.getD i default).fact.key) (AW (l.getD i default).fact)).length=s.about.length:=by grind[RY]
     refine⟨i+1,by omega,by omega,rfl,by rw[ko],by rw[ko,je],by rw[ko],fun j1 p hp=>?_⟩;rw[ko]at hp;simp only at hp;rw[ha]at hp;have n1:¬Aq 65 (0+j1)=12:=by grind[Aq]
     rw[Cl,if_neg n1,Cl,MN 65 _ 2 hj];exact hZ 65 _ 2 hj hp (fun _=>rfl)
   ·rw[if_neg h2]at ko;by_cases qy:(l.getD i default).kind=2
    ·have qk:¬(l.getD i default).kind=3:=by rw[qy];decide
     have k6:¬(l.getD i default).kind=1:=by omega
     by_cases h3:(l.getD i default).erasure.kind=2
     ·rw[if_pos ⟨qy,h3⟩]at ko
      (repeat' first|simp(disch:=omega)only[go_sem,simprocAttr,Ck ja,Ax,eq_false qk,eq_false k6,eq_true qy,eq_true h3,R1,Au,Ay,A6,beq_self_eq_true]|refine Aa ?_|fail)
      exact⟨i+1,by omega,by omega,rfl,by rw[ko],by rw[ko],by rw[ko],fun j p hp=>by rw[ko]at hp;rw[Eu,hp];rfl⟩
     ·rw[if_neg (fun q=>h3 q.2),if_pos qy]at ko;have hgi:=QX 65 2 ((l.getD i default).erasure.entity,(l.getD i default).erasure.key) (BB s.about) 0;have hgf:(BB s.about).findIdx? (fun p=>decide (p.1=((l.getD i default).erasure.entity,(l.getD i default).erasure.key)))=s.about.findIdx? (fun p=>decide (p.1=((l.getD i default).erasure.entity,(l.getD i default).erasure.key))):=by simp only[BB,List.findIdx?_map];rfl
      rw[hgf]at hgi;cases wo:s.about.findIdx? (fun p=>decide (p.1=((l.getD i default).erasure.entity,(l.getD i default).erasure.key)))with
      |none=>
       rw[wo]at hgi;rw[ic wo]at ko;have hgg:=hJ hgi
       (repeat' first|simp(disch:=omega)only[go_sem,simprocAttr,Ck ja,Ax,eq_false qk,eq_false k6,eq_true qy,eq_false h3,Au,Ay,A6,beq_self_eq_true,hgg]|refine Aa ?_|fail)
       refine AA [3,4,5,14,15,16,94,95] (by simp only[V0,G4,reduceIte,Nat.reduceEqDiff];rfl) (fun _:Unit=>[(96,.i (iI 0))]) (fun _=>(11,.map [.g,.s,.i .i64] (Fw s.ids))::(12,.gmap [.g,.s,.s] s.about.length (Se 65 2 0 (BB s.about)))::(13,.map [.s] (Ku s.kinds))::Bq 65 30 2 0 (BB s.about)) (fun _=>True) (fun _=>0) () trivial ?_ ?_
       ·simp(disch:=omega)only[go_sem,Nat.reduceEqDiff];exact fun j p hp=>by rw[Eu,hp];rfl
       ·intro _ _
        (repeat' first|simp(disch:=omega)only[go_sem,simprocAttr]|refine Aa ?_|fail)
        exact⟨i+1,by omega,by omega,rfl,by rw[ko];rfl,by rw[ko],by rw[ko],fun j p hp=>by rw[ko]at hp;rw[Eu,hp];rfl⟩
      |some j=>
       rw[wo]at hgi;obtain⟨hj0,hag⟩:=aget_some wo;rw[hag]at ko;have hj:j<(BB s.about).length:=by omega
       have hgg:=g9 65 2 hgi hj;have xd:=MN 65 30 2 hj;have hrj:(BB s.about)[j].2=s.about[j].2.map Ak:=by simp[BB]
       have hln:=hsm s.about[j] (List.getElem_mem _);rw[hrj]at hgg xd;simp only[Option.getD_some]at ko;generalize s.about[j].2=L at hgg xd hln ko
       (repeat' first|simp(disch:=omega)only[go_sem,simprocAttr,Ck ja,Ax,eq_false qk,eq_false k6,eq_true qy,eq_false h3,Au,Ay,A6,beq_self_eq_true,hgg,Nat.sub_zero]|refine Aa ?_|fail)
       refine AA [3,4,5,14,15,16,94,95] (by simp only[V0,G4,reduceIte,Nat.reduceEqDiff];rfl) (fun k:Nat=>[(96,.i (iI k))]) (fun k=>(11,.map [.g,.s,.i .i64] (Fw (DU s.ids (L.take k))))::(12,.gmap [.g,.s,.s] s.about.length (Se 65 2 0 (BB s.about)))::(13,.map [.s] (Ku s.kinds))::Bq 65 30 2 0 (BB s.about)) (fun k=>k<=L.length) (fun k=>L.length-k) 0 (by omega) ?_ ?_
       ·simp(disch:=omega)only[go_sem,Nat.reduceEqDiff,xd];exact⟨rfl,rfl,fun j p hp=>by rw[Eu,hp];rfl⟩
       ·intro k hk;by_cases zW:k<L.length
        ·have jp:DU s.ids (L.take (k+1))=BG (DU s.ids (L.take k)) (L.getD k default) true:=by grind[CR,DU]
         (repeat' first|simp(disch:=omega)only[go_sem,simprocAttr,Ck zW,Au,Ay,A6,beq_self_eq_true,xd,Nat.sub_zero,Ak,R1,Nat.zero_add]|refine Aa ?_|(refine And.intro ?_ ?_;focus omega))
         exact⟨k+1,by omega,by omega,rfl,by rw[jp],fun j p hp=>by have:=Eu 65 30 2 (BB s.about) 0 j;rw[Nat.zero_add,hp]at this;exact this⟩
        ·have e:k=L.length:=by omega
         subst e;rw[List.take_length]
         (repeat' first|simp(disch:=omega)only[go_sem,simprocAttr,Ie zW]|refine Aa ?_|fail)
         exact⟨i+1,by omega,by omega,rfl,by rw[ko],by rw[ko],by rw[ko],fun j p hp=>by rw[ko]at hp;rw[Eu,hp];rfl⟩
    ·rw[if_neg (fun q=>qy q.1),if_neg qy]at ko;have done:i+1<=l.length->l.length-(i+1)<l.length-i:=by omega
     by_cases qk:(l.getD i default).kind=3
     ·have hc:¬(l.getD i default).change.kind=1:=fun e=>h1 ⟨qk,e⟩
      have k6:¬(l.getD i default).kind=1:=by omega
      (repeat' first|simp(disch:=omega)only[go_sem,simprocAttr,Ck ja,Ax,eq_true qk,eq_false hc,eq_false k6,eq_false qy]|refine Aa ?_|fail)
      exact⟨i+1,by omega,by omega,rfl,by rw[ko],by rw[ko],by rw[ko],fun j p hp=>by rw[ko]at hp;rw[Eu,hp];rfl⟩
     ·by_cases k6:(l.getD i default).kind=1
      ·have hf:(l.getD i default).fact.kind=3:=Decidable.byContradiction fun e=>h2 ⟨k6,e⟩
       (repeat' first|simp(disch:=omega)only[go_sem,simprocAttr,Ck ja,Ax,eq_false qk,eq_true k6,eq_true hf,eq_false qy,ne_eq,not_true_eq_false,decide_true,decide_false]|refine Aa ?_|fail)
       exact⟨i+1,by omega,by omega,rfl,by rw[ko],by rw[ko],by rw[ko],fun j p hp=>by rw[ko]at hp;rw[Eu,hp];rfl⟩
      ·(repeat' first|simp(disch:=omega)only[go_sem,simprocAttr,Ck ja,Ax,eq_false qk,eq_false k6,eq_false qy]|refine Aa ?_|fail)
       exact⟨i+1,by omega,by omega,rfl,by rw[ko],by rw[ko],by rw[ko],fun j p hp=>by rw[ko]at hp;rw[Eu,hp];rfl⟩
 ·have e:i=l.length:=by omega
  subst e
  (repeat' first|simp(disch:=omega)only[go_sem,simprocAttr,Ie ja]|refine Aa ?_|refine Sz.s ?_|fail)
end
end Go.Proofs.YtojgbkiejjingaaGreatDoor
