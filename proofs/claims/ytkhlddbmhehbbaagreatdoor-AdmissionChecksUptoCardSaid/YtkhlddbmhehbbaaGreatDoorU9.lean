/-Lemmas.-/
import Derived.Test.YtkhlddbmhehbbaaGreatDoorU8
set_option linter.all false
section
namespace Go.Dl
open Go Go.RowKit
variable{st:St}{K:St->Prop}{os:List O}{f:FuncId}{d:Option Nat}{b:Bool}
theorem cj{A B:Prop}(a:A)(b:B):A/\B:=⟨a,b⟩
section
variable (P:Program)(GL:List (Nat×List I))
def evR(r:List GI)(K:St->Prop)(st:St):Prop:=ev P GL r st K
def HL(sn:List Nat)(r:List GI)(K:St->Prop)(st:St):Prop:=evD P GL sn r st K
def evF(i:Ins)(r:List GI)(K:St->Prop)(l:List Nat)(st:St):Prop:=step P GL i (frzNs l st) (evR P GL r K)
def ma(s:Nat)(v:D)(w:Bool)(i:Ins)(r:List GI)(st:St)(K:St->Prop):Prop:=gL v w (step P GL i (frzNs (AC GL i st) st) (evR P GL r K)) (evR P GL r K (BF i st))
def mc(s:Nat)(v:D)(w:Bool)(sn:List Nat)(i:Ins)(r:List GI)(st:St)(K:St->Prop):Prop:=gL v w (Ad P GL sn i st (HL P GL sn r K)) (HL P GL sn r K (BF i st))
def stN(GL:List (Nat×List I))(st:St)(v:O):D->List Nat
 |.ref (.lel _ _ _ _)=>oN GL st [v]
 |_=>[]
def TR(b:Option Blk)(nm:Nat)(st:St):St:=match b with
 |some b=>if FL b=true then st.frz nm b else st
 |none=>st
def cpR(b:Blk)(r:Ref):Cp:=match r,b with
 |.loc _ off,.cells cs=>.i (.elt (cs.map Ii) off)
 |.sl _ k lo hi,.rows _ k' rs=>if k=k'/\hi<=rs.length then .i (.sl ((rs.take hi).drop lo))else .any
 |.lel _ k row off,.rows _ k' rs=>if k=k'/\row<rs.length then .i (.elt (rs.getD row []) off)else .any
 |.mp _,.map _ es=>.i (.map es)
 |.mp _,.gmap _ _ es=>if(es.all fun e=>Ja e.2.2)=true then .i (.map (es.map fun e=>(e.1,Ii e.2.2)))else .any
 |_,_=>.any
def TS(GL:List (Nat×List I))(st:St)(y:O)(b:Option Blk):List Nat:=match b with
 |some (.arr _ _ _)=>[]
 |_=>oN GL st [y]
def TT(GL:List (Nat×List I))(st:St)(y:O)(x:D):List Nat:=match x with
 |.ref (.sl nm _ _ _)=>TS GL st y (Aa st.sto nm)
 |_=>oN GL st [y]
def TU(fr:Option Blk)(e' k':Nat)(rs:List (Option (List I)))(nm k0 lo hi d e k b:Nat)(ys:Option (List (List I)))(st:St)(K:St->Prop):Prop:=match ys with
 |some ys=>Kr fr e' k' rs nm k0 lo hi d e k b ys st K
 |none=>False
def Ai(f:FuncId)(xs:List I)(st:St)(d:Option Nat)(K:St->Prop):Prop:=∃y,Is1 P GL f (xs.map .i) y/\K (putO st d (.i y))
def HM(fv:D)(xs:List I)(st:St)(d:Option Nat)(K:St->Prop):Prop:=match fv with
 |.i (.fn f first caps)=>Ai P GL f (first++xs++caps) st d K
 |_=>False
def Nu(f:FuncId)(os:List O)(d:Nat)(st:St)(K:St->Prop):Prop:=Qx P GL f (os.map (A8 GL st)) d st K
def QZ(post:List Nat)(K:Exit->St->Prop)(s:St):Prop:=K .normal (frzNs (L5 post s) s)
def dI(st:St):Ins->List Nat
 |.call _ _ args=>oN GL st args
 |.callv _ fo args=>oN GL st (fo::args)
 |.callo _ _ args=>oN GL st args
 |.build _ _ ps=>oN GL st (ps.map (·.2.2))
 |.bsn _ _ _ ps=>oN GL st ps
 |.mupd _ q v _=>oN GL st [q,v]
 |.load _ x k true=>ldN st k (A8 GL st x)
 |.ofb _ x=>oN GL st [x]
 |_=>[]
def dN(gs:List GI)(st:St):List Nat:=gs.flatMap fun g=>dI GL st g.ins
def Pg(sn:List Nat)(gs:List GI)(post:List Nat)(K:Exit->St->Prop)(st:St):Prop:=evD P GL sn gs st (QZ post K)
def Q1(b:Option Blk)(d e k:Nat)(st:St)(K:St->Prop):Prop:=step.nilsE' b d e k st K
def Q2(rows:List (List I))(d:Nat)(st:St)(K:St->Prop)(a c:Nat):Prop:=K (st.put d (.i (.sl ((rows.take c).drop a))))
def Q3(nm k lo d:Nat)(st:St)(K:St->Prop)(a c:Nat):Prop:=K (st.put d (.ref (.sl nm k (lo+a) (lo+c))))
def Q4(s:List UInt8)(d:Nat)(st:St)(K:St->Prop)(a c:Nat):Prop:=K (st.put d (.i (.str ((s.take c).drop a))))
def rsM(st:St)(r:RV):List Nat:=(Aj st.env (match r with|.tmp t=>t|.cell t _ _=>t)).nms
def Ph(sn:List Nat)(x v:D)(k:Nat)(st:St)(K:St->Prop):Prop:=(match x with|.ref (.loc nm _)=>nm∈sn|_=>False)/\HD x v k st K
def gu(y:I)(r:D)(s:List (Nat×Blk)):Prop:=r=.i y/\s=[]
def Nv(R:D->List (Nat×Blk)->Prop)(x:Option D):Prop:=match x with
 |some (.i y)=>R (.i y) []
 |_=>False
def Q5(b:Option Blk)(off k:Nat)(ag:Bool):Option D:=match b with
 |some (.cells cs)=>if Nat.ble (off+k) cs.length&&(!ag||BV ((cs.drop off).take k))then some (gG ag cs off k)else none
 |_=>none
def rvC(v:D)(k:Nat)(ag:Bool)(st:St):Option D:=match v with
 |.i (.elt cs off)=>if Nat.ble (off+k) cs.length then some (.i (pk ag cs off k))else none
 |.ref (.loc nm off)=>Q5 (Aa st.sto nm) off k ag
 |_=>none
def rvT(v:D):Option D:=match v with|.any=>none|x=>some x
def Yw(a:Option D)(b:Option (List D)):Option (List D):=match a,b with|some x,some xs=>some (x::xs)|_,_=>none
def Yx(x:Option (List D)):Option D:=match x with|some xs=>Nt xs|none=>none
def rsN(rs:List RV)(st:St):List Nat:=HC st.sto (rs.flatMap (rsM st))
end
section
variable {P:Program}{GL:List (Nat×List I)}
theorem md{s:Nat}{w:Bool}{i:Ins}{r:List GI}(h:b=true->ma P GL s (.i (.bool true)) w i r st K)(k:b=false->ma P GL s (.i (.bool false)) w i r st K):ma P GL s (.i (.bool b)) w i r st K:=by
 cases b
 all_goals grind
theorem mf{s:Nat}{w:Bool}{sn:List Nat}{i:Ins}{r:List GI}(h:b=true->mc P GL s (.i (.bool true)) w sn i r st K)(k:b=false->mc P GL s (.i (.bool false)) w sn i r st K):mc P GL s (.i (.bool b)) w sn i r st K:=by
 cases b
 all_goals grind
theorem mh{d:Nat}{A C:D}(h:b=true->Er (.i (.bool true)) d A C st K)(k:b=false->Er (.i (.bool false)) d A C st K):Er (.i (.bool b)) d A C st K:=by
 cases b
 all_goals grind
theorem Yy(nm:Nat)(b:Blk)(r:Ref):WD nm b r=if r.nm=nm then cpR b r else .ref r:=by rfl
theorem KJ(hI:(os.all fun o=>Ja (A8 GL st o))=true):os.map (A8 GL st)=(os.map fun o=>Ii (A8 GL st o)).map D.i:=by
 rw[List.map_map];refine List.map_congr_left fun o ho=>?_
 rw[List.all_eq_true]at hI;have:=hI o ho;simp only[Function.comp];cases hv:A8 GL st o<;>simp[hv,Ja]at this;rfl
theorem Pj(hI:(os.all fun o=>Ja (A8 GL (frzNs (oN GL st os) st) o))=true)(h:Ai P GL f (os.map fun o=>Ii (A8 GL (frzNs (oN GL st os) st) o)) (frzNs (oN GL st os) st) d K):Ah P GL (Fi GL f os) st d K:=by
 obtain⟨y,h1,h2⟩:=h;rw[<-KJ hI]at h1;rw[List.all_eq_true]at hI;refine⟨oN GL st os,.inl ⟨[],[],_,h1,trivial,rfl,?_,rfl,?_⟩⟩
 ·rw[List.all_eq_true];intro v hv;obtain⟨o,ho,rfl⟩:=List.mem_map.1 hv;have:=hI o ho;generalize A8 GL _ o=v at this⊢;cases v<;>simp[Ja]at this;rfl
 ·rintro r s ⟨rfl,rfl⟩;exact⟨fun nm hm=>by simp[Bj]at hm,fun nm hm=>by simp at hm,h2⟩
theorem Ix{fo:O}(hI:(os.all fun o=>Ja (A8 GL (frzNs (oN GL st (fo::os)) st) o))=true)
  (h:HM P GL (A8 GL (frzNs (oN GL st (fo::os)) st) fo) (os.map fun o=>Ii (A8 GL (frzNs (oN GL st (fo::os)) st) o)) (frzNs (oN GL st (fo::os)) st) d K):Ah P GL (DZ GL fo os) st d K:=by
 generalize hl:oN GL st (fo::os)=l at hI h;unfold HM at h;split at h
 ·rename_i f first caps e
  obtain⟨y,h1,h2⟩:=h;rw[List.map_append,List.map_append,<-KJ hI]at h1;rw[List.all_eq_true]at hI;refine⟨l,?_⟩;simp only[DZ,EQ,e];refine .inl ⟨[],[],_,h1,trivial,rfl,?_,rfl,?_⟩
  ·rw[List.all_eq_true];intro v hv;simp only[List.mem_append,List.mem_map]at hv;rcases hv with(⟨z,_,rfl⟩|⟨o,ho,rfl⟩)|⟨z,_,rfl⟩
   ·rfl
   ·have:=hI o ho;generalize A8 GL _ o=v at this⊢;cases v<;>simp[Ja]at this;rfl
   ·rfl
  ·rintro r s ⟨rfl,rfl⟩;exact⟨fun nm hm=>by simp[Bj]at hm,fun nm hm=>by simp at hm,h2⟩
 ·exact h.elim
theorem Ab{xs:List I}{y:I}(h:Is1 P GL f (xs.map .i) y)(k:K (putO st d (.i y))):Ai P GL f xs st d K:=⟨y,h,k⟩
theorem Gw{rs:List RV}{given mv:List Nat}{R:D->List (Nat×Blk)->Prop}(h:Nv R (Iw (frzNs (rsN rs st) st) rs)):FY rs given mv R st:=by
 refine⟨rsN rs st,[],?_⟩;unfold Nv at h;have hs:∀s:List (Nat×Blk),CG [] s=[]:=fun s=>by induction s with|nil=>rfl|cons x r ih=>obtain⟨k,b⟩:=x;simp[CG,ih]
 split at h
 ·rename_i y e;rw[e];refine⟨rfl,?_,?_⟩
  ·rw[List.map_nil,hs];exact⟨rfl,rfl⟩
  ·rw[List.map_nil,hs];exact h
 ·exact h.elim
def L8(F:Nat->St)(I:Nat->Prop)(n i:Nat)(K:Exit->St->Prop):Exit->St->Prop
 |.normal,s=>i<n/\I (i+1)/\Sub (F (i+1)) s
 |e,s=>K e s
def Nw(φ:Prop)(S:St)(K:Exit->St->Prop):Exit->St->Prop
 |.normal,s=>φ/\Sub S s
 |e,s=>K e s
def V0:=cj @St.put.eq_1 (cj @St.bind.eq_1 (cj @St.setB.eq_1 (cj @St.frz.eq_1 (cj @Aj.eq_1 (cj @Aj.eq_2 (cj @Aj.eq_3 (cj @CW.eq_1 (cj @CW.eq_2 (cj @Aa.eq_1 (cj @Aa.eq_2 (cj @Ch.eq_1 (cj @Ch.eq_2 (cj @Cs.eq_1 (cj @Cs.eq_2 (cj @SL.eq_1 (cj @SL.eq_2 (cj @putO.eq_1 @putO.eq_2)))))))))))))))))
theorem V1':
  (∀n b x,Qq n b (.i x)=.i x)/\(∀n b,Qq n b .any=.any)/\(∀n b r,Qq n b (.ref r)=(if r.nm=n then cpR b r else .ref r).toD)/\(∀n b x,gn n b (.i x)=.i x)/\(∀n b,gn n b .any=.any)/\(∀n b r,gn n b (.ref r)=if r.nm=n then cpR b r else .ref r)/\(∀n b e k rs,gj n b (.rows e k rs)=.rows e k rs)/\(∀n b ls es,gj n b (.map ls es)=.map ls es)/\(∀n b c r,gj n b (.iter c r)=.iter c r)/\(∀n b e k rs,gj n b (.arr e k rs)=.arr e k rs)/\(∀c r x,cpR (.iter c r) x=.any):=by
 and_intros<;>intros<;>first|rfl|(simp only[Qq,gn,Yy];done)|(rename_i x;cases x<;>rfl)
def V1:=cj @Qq.eq_2 (cj @Cp.toD.eq_2 (cj @Cp.toD.eq_1 (cj @Cp.toD.eq_3 (cj @gj.eq_1 (cj @gj.eq_3 (cj @gj.eq_2 (cj @Qq.eq_3 (cj @cpR.eq_5 (cj @Ref.nm.eq_1 (cj @Ref.nm.eq_2 (cj @Ref.nm.eq_3 (cj @Ref.nm.eq_4 (cj @Ref.nm.eq_5 (cj @cpR.eq_1 (cj @cpR.eq_2 (cj @cpR.eq_3 (cj @cpR.eq_4 @V1')))))))))))))))))
def V2:=cj @A8.eq_1 (cj @A8.eq_2 (cj @A8.eq_3 @A8.eq_4))
theorem V3' (r:List GI)(K:St->Prop):
  (∀i st,ev P GL (⟨none,i⟩::r) st K=evF P GL i r K (AC GL i st) st)/\(∀s w i st,ev P GL (⟨some (s,w),i⟩::r) st K=ma P GL s (Aj st.env s) w i r st K)/\(∀i st,evF P GL i r K [] st=step P GL i st (evR P GL r K))/\(∀i nm l st,evF P GL i r K (nm::l) st=evF P GL i r K l (st.frzN nm))/\(∀s i st,ma P GL s (.i (.bool true)) true i r st K=evF P GL i r K (AC GL i st) st)/\(∀s i st,ma P GL s (.i (.bool false)) true i r st K=evR P GL r K (BF i st))/\(∀s i st,ma P GL s (.i (.bool true)) false i r st K=evR P GL r K (BF i st))/\(∀s i st,ma P GL s (.i (.bool false)) false i r st K=evF P GL i r K (AC GL i st) st)/\(∀s w i st,ma P GL s (.i .undef) w i r st K=evR P GL r K (BF i st)):=by
 and_intros<;>intros<;>first|rfl|(simp[ma,gL,br,evF];done)
def V3:=cj @evR.eq_1 @V3'
theorem V4' (st:St):
  (∀d x,AC GL (.mov d x) st=[])/\(∀d c a b,AC GL (.pick d c a b) st=[])/\(∀d x,AC GL (.boxm d x) st=[])/\(∀d zs,AC GL (.alloc d zs) st=[])/\(∀d x k,AC GL (.load d x k false) st=[])/\(∀x v k,AC GL (.store x v k) st=stN GL st v (A8 GL st x))/\(∀d x o,AC GL (.fa d x o) st=[])/\(∀d x o k ag,AC GL (.fld d x o k ag) st=[])/\(∀d s i k,AC GL (.ia d s i k) st=[])/\(∀d s i,AC GL (.idx d s i) st=[])/\(∀d x i k len ag,AC GL (.aidx d x i k len ag) st=[])/\(∀d op x y,AC GL (.bin d op x y) st=[])/\(∀d op x y,AC GL (.sh d op x y) st=[])/\(∀d n ls x y,AC GL (.eqs d n ls x y) st=[])/\(∀d n x y,AC GL (.eqb d n x y) st=[])/\(∀d q n x,AC GL (.isnil d q n x) st=[])/\(∀d op x,AC GL (.un d op x) st=[])/\(∀d x,AC GL (.lens d x) st=[])/\(∀d x,AC GL (.lenl d x) st=[])/\(∀d x i,AC GL (.ext d x i) st=[])/\(∀d f a b,AC GL (.mkfn d f a b) st=[])/\(∀d f a,AC GL (.call d f a) st=[])/\(∀d f a,AC GL (.callv d f a) st=[])/\(∀d x y,AC GL (.max d x y) st=[])/\(∀d x y,AC GL (.min d x y) st=[])/\(∀d k x,AC GL (.conv d k x) st=[])/\(∀d e k b x y,AC GL (.app d e k b x y) st=TT GL st y (A8 GL st x))/\(∀y x,TT GL st y (.i x)=oN GL st [y])/\(∀y e k rs,TS GL st y (some (.rows e k rs))=oN GL st [y])/\(∀d x lo hi k,AC GL (.slc d x lo hi k) st=[])/\(∀d x lo hi,AC GL (.sslc d x lo hi) st=[])/\(∀d x q z ok ls,AC GL (.lookup d x q z ok ls) st=[])/\(∀d x,AC GL (.lenm d x) st=[])/\(∀d x,AC GL (.nxt d x) st=[])/\(∀d x,AC GL (.ent d x) st=[])/\(∀d x i k l,AC GL (.iaa d x i k l) st=[])/\(∀d x,AC GL (.bytes d x) st=[])/\(∀d,AC GL (.no d) st=[])/\(∀v x,stN GL st v (.i x)=[])/\(∀v n o,stN GL st v (.ref (.loc n o))=[]):=by
 and_intros<;>intros<;>first|rfl|(simp only[AC,stN];split<;>first|rfl|simp_all)|(simp[HC,List.flatMap_cons];done)
def V4:=cj @AC.eq_13 (cj @AC.eq_9 (cj @AC.eq_5 (cj @AC.eq_12 (cj @AC.eq_2 (cj @AC.eq_3 (cj @AC.eq_4 (cj @Ji.eq_1 (cj @AC.eq_1 (cj @TT.eq_1 (cj @TS.eq_1 (cj @AC.eq_10 (cj @AC.eq_14 (cj @AC.eq_7 (cj @AC.eq_8 (cj @AC.eq_11 (cj @stN.eq_1 (cj @oN.eq_1 @V4')))))))))))))))))
theorem V5' (st:St)(K:St->Prop):
  (∀d e k,step P GL (.bsl d e k []) st K=Q1 (Aa st.sto d) d e k st K)/\(∀d e k p ps,step P GL (.bsl d e k (p::ps)) st K=(((p::ps).all fun o=>Ja (A8 GL st o)&&((cellsI (Ii (A8 GL st o))).length==k)&&(cellsI (Ii (A8 GL st o))).all I.one)=true/\K (st.put d (.i (.sl ((p::ps).map fun o=>cellsI (Ii (A8 GL st o))))))))/\(∀d e k p ps,step P GL (.bsn d e k (p::ps)) st K=(((p::ps).all fun o=>Ja (A8 GL st o)&&((cellsI (Ii (A8 GL st o))).length==k)&&(cellsI (Ii (A8 GL st o))).all I.one)=true/\K (st.put d (.i (.sl ((p::ps).map fun o=>cellsI (Ii (A8 GL st o))))))))/\(∀d e k p ps,step P GL (.bso d e k (p::ps)) st K=(((p::ps).all fun o=>Ja (A8 GL st o)&&((cellsI (Ii (A8 GL st o))).length==k)&&(cellsI (Ii (A8 GL st o))).all I.one)=true/\Ji (Aa st.sto d) d e k ((p::ps).map fun o=>cellsI (Ii (A8 GL st o))) st K)):=by
 and_intros<;>intros<;>rfl
def V5:=cj @step.eq_1 (cj @step.eq_2 (cj @step.eq_3 (cj @step.eq_4 (cj @step.eq_5 (cj @step.eq_6 (cj @step.eq_7 (cj @step.eq_8 (cj @step.eq_9 (cj @step.eq_10 (cj @step.eq_11 (cj @step.eq_12 (cj @step.eq_13 (cj @step.eq_14 (cj @step.eq_15 (cj @step.eq_16 (cj @step.eq_17 (cj @step.eq_18 (cj @step.eq_19 (cj @step.eq_20 (cj @step.eq_21 (cj @step.eq_22 (cj @step.eq_23 (cj @step.eq_28 (cj @step.eq_29 (cj @step.eq_30 (cj @step.eq_31 (cj @step.eq_36 (cj @step.eq_37 (cj @step.eq_38 (cj @step.eq_39 (cj @step.eq_40 (cj @step.eq_41 (cj @step.eq_42 (cj @step.eq_43 (cj @step.eq_44 (cj @step.eq_45 (cj @step.eq_46 (cj @step.eq_47 (cj @step.eq_48 (cj @step.eq_49 (cj @step.eq_50 (cj @step.eq_51 (cj @step.eq_52 (cj @step.eq_53 @V5'))))))))))))))))))))))))))))))))))))))))))))
theorem V6' (st:St)(K:St->Prop)(d:Nat):
  (∀A C,Er (.i (.bool true)) d A C st K=K (st.put d A))/\(∀A C,Er (.i (.bool false)) d A C st K=K (st.put d C))/\(∀e k,Q1 none d e k st K=K ((st.bind d (.rows e k [])).put d (.ref (.sl d k 0 0))))/\(∀cs off k,Kg (some (.cells cs)) d off k true st K=(off+k<=cs.length/\BV ((cs.drop off).take k)=true/\K (st.put d (gG true cs off k))))/\(∀cs off k,Kg (some (.cells cs)) d off k false st K=(off+k<=cs.length/\K (st.put d (gG false cs off k))))/\(∀r,Lz (some r) true d st K=K (st.put d (.i (.bool (!r)))))/\(∀r,Lz (some r) false d st K=K (st.put d (.i (.bool r))))/\(∀a b,Ki true (.i (.bool a)) (.i (.bool b)) d st K=K (st.put d (.i (.bool (!(a==b))))))/\(∀a b,Ki false (.i (.bool a)) (.i (.bool b)) d st K=K (st.put d (.i (.bool (a==b)))))/\(∀k a q b,G1 true (.i (.int k a)) (.i (.int q b)) d st K=K (st.put d (.i (.int k (if b>a then b else a)))))/\(∀k a q b,G1 false (.i (.int k a)) (.i (.int q b)) d st K=K (st.put d (.i (.int k (if b<a then b else a)))))/\(∀fr σ e' k' rs nm k0 lo hi rows e k b,Ks (some (.rows e' k' rs)) fr σ nm k0 lo hi (.i (.sl rows)) d e k b st K=Kj (some (.rows e' k' rs)) nm k0 lo hi d e k b rows st K)/\(∀fr σ e' k' rs nm k0 lo hi y e k b,Ks (some (.arr e' k' rs)) fr σ nm k0 lo hi y d e k b st K=TU fr e' k' rs nm k0 lo hi d e k b (G2 σ y) st K)/\(∀rows l h k,LF (.i (.sl rows)) l h d k st K=((∀r∈rows,r.length=k)/\ER (WP l) (gl rows.length h) rows.length (Q2 rows d st K)))/\(∀e k' rs nm k0 lo hi k l h,M9 (some (.rows e k' rs)) nm k0 lo hi d k l h st K=(k'=k/\k0=k/\ER (WP l) (gl ((hi-lo:Nat):Int) h) (rs.length-lo) (Q3 nm k lo d st K)))/\(∀s l h,Qz (.i (.str s)) l h d st K=ER (WP l) (gl s.length h) s.length (Q4 s d st K))/\(∀neg,CN .pt neg (.i .nilp) d st K=K (st.put d (.i (.bool (true !=neg)))))/\(∀neg,CN .fn neg (.i .nilfn) d st K=K (st.put d (.i (.bool (true !=neg)))))/\(∀neg,CN .mp neg (.i .nilmap) d st K=K (st.put d (.i (.bool (true !=neg)))))/\(∀neg c o,CN .pt neg (.i (.elt c o)) d st K=K (st.put d (.i (.bool (false !=neg)))))/\(∀neg f a b,CN .fn neg (.i (.fn f a b)) d st K=K (st.put d (.i (.bool (false !=neg)))))/\(∀neg f a b,CN .fn neg (.fn f a b) d st K=K (st.put d (.i (.bool (false !=neg)))))/\(∀neg es,CN .mp neg (.i (.map es)) d st K=K (st.put d (.i (.bool (false !=neg)))))/\(∀neg n o,CN .pt neg (.ref (.loc n o)) d st K=K (st.put d (.i (.bool (false !=neg)))))/\(∀neg n k r o,CN .pt neg (.ref (.lel n k r o)) d st K=K (st.put d (.i (.bool (false !=neg)))))/\(∀neg n,CN .mp neg (.ref (.mp n)) d st K=K (st.put d (.i (.bool (false !=neg))))):=by
 and_intros<;>intros<;>first|rfl|(simp only[Er,br];simp;done)|(simp[Kg];done)|(simp only[unE];done)
def V6:=cj @Lv.eq_1 (cj @Lv.eq_2 (cj @M0.eq_1 (cj @G0.eq_1 (cj @Jd.eq_1 (cj @Jd.eq_2 (cj @Jd.eq_3 (cj @M5.eq_1 (cj @faE.eq_1 (cj @faE.eq_2 (cj @faE.eq_3 (cj @Qy.eq_1 (cj @iaE.eq_1 (cj @iaE.eq_2 (cj @iaR.eq_1 (cj @Lw.eq_1 (cj @Lx.eq_1 (cj @Ly.eq_1 (cj @shE.eq_1 (cj @LA.eq_1 (cj @unE.eq_1 (cj @unE.eq_2 (cj @LB.eq_1 (cj @Je.eq_1 (cj @Je.eq_2 (cj @Jf.eq_1 (cj @LC.eq_1 (cj @LD.eq_1 (cj @Jq.eq_1 (cj @Kj.eq_1 (cj @LF.eq_2 (cj @Q2.eq_1 (cj @Q3.eq_1 (cj @Q4.eq_1 (cj @Na.eq_1 (cj @LG.eq_1 (cj @Fj.eq_1 (cj @Fj.eq_2 (cj @Fj.eq_3 (cj @HE.eq_1 (cj @Nb.eq_1 (cj @Nb.eq_2 (cj @Nb.eq_3 (cj @OO.eq_1 (cj @LH.eq_1 (cj @LH.eq_2 (cj @Nd.eq_1 (cj @Ng.eq_1 (cj @Nf.eq_1 (cj @Jh.eq_1 (cj @Jh.eq_2 (cj @Jh.eq_3 (cj @LI.eq_1 (cj @QA.eq_1 (cj @OP.eq_1 @V6'))))))))))))))))))))))))))))))))))))))))))))))))))))))
def V20:=cj @HD.eq_1 (cj @HD.eq_2 (cj @Kh.eq_1 (cj @M6.eq_1 (cj @M8.eq_1 (cj @M7.eq_1 (cj @Il.eq_1 @Jg.eq_1))))))
theorem V7:
  (∀(α β:Type) (f:α->β) a l,(a::l).map f=f a::l.map f)/\(∀(α β:Type) (f:α->β),([]:List α).map f=[])/\(∀(α:Type) (l:List α),l.drop 0=l)/\(∀(α:Type) (a:α) l n,(a::l).drop (n+1)=l.drop n)/\(∀(α:Type) (l:List α),l.take 0=[])/\
  (∀(α:Type) (a:α) l n,(a::l).take (n+1)=a::l.take n)/\(∀(α:Type) (a d:α) l,(a::l).getD 0 d=a)/\(∀(α:Type) (a d:α) l n,(a::l).getD (n+1) d=l.getD n d)/\(∀(α:Type) (a:α) l,(a::l).length=l.length+1)/\(∀(α:Type),([]:List α).length=0)/\
  (∀(α:Type) (p:α->Bool) a l,(a::l).all p=(p a&&l.all p))/\(∀(α:Type) (p:α->Bool),([]:List α).all p=true)/\(∀(α:Type) (a:α) l m,(a::l)++m=a::(l++m))/\(∀(α:Type) (m:List α),[]++m=m)/\(∀(α:Type) (m:List α),m++[]=m)/\
  (∀(α β:Type) (f:α->List β),([]:List α).flatMap f=[])/\(∀(α β:Type) (f:α->List β) a l,(a::l).flatMap f=f a++l.flatMap f)/\(∀(α:Type) (n:Nat),([]:List α).drop n=[])/\(∀(α:Type) (n:Nat),([]:List α).take n=[])/\(∀(α β:Type) (f:α->β),Option.map f none=none)/\(∀(α β:Type) (f:α->β) a,Option.map f (some a)=some (f a))/\
  (∀l:List I,(l.map D.i).flatMap D.nms=[])/\(∀l:List I,BV (l.map D.i)=true)/\(∀x l,BV (.i x::l)=BV l)/\(BV []=true)/\(∀r l,BV (.ref r::l)=false)/\(∀l,BV (.any::l)=false)/\(∀l:List I,(l.map D.i).all EP=l.all I.one)/\(∀l:List I,(l.map D.i).map Ii=l)/\(∀nm c (l:List I),(l.map D.i).map (Qq nm c)=l.map D.i):=by
 and_intros<;>intros<;>first|rfl|(simp;done)|(simp[BV,Ja];done)|(simp only[List.all_map];rfl)|skip
 ·rename_i l;induction l with|nil=>rfl|cons a l ih=>simp[D.nms]
 ·rename_i l;induction l with|nil=>rfl|cons a l ih=>simpa[Ii]using ih
 ·rename_i nm c l;simp[Qq]
theorem V8':
  (∀b,cellsI (.bool b)=[.bool b])/\(∀k n,cellsI (.int k n)=[.int k n])/\(∀s,cellsI (.str s)=[.str s])/\(∀r,cellsI (.sl r)=[.sl r])/\(∀f a b,cellsI (.fn f a b)=[.fn f a b])/\(∀c o,cellsI (.elt c o)=[.elt c o])/\cellsI .nilfn=[.nilfn]/\cellsI .nilp=[.nilp]/\cellsI .nilmap=[.nilmap]/\(∀es,cellsI (.map es)=[.map es])/\(∀b,Bh (.i (.bool b))=[.i (.bool b)])/\(∀k n,Bh (.i (.int k n))=[.i (.int k n)])/\(∀s,Bh (.i (.str s))=[.i (.str s)])/\(∀r,Bh (.i (.sl r))=[.i (.sl r)])/\(∀f a b,Bh (.i (.fn f a b))=[.i (.fn f a b)])/\(∀c o,Bh (.i (.elt c o))=[.i (.elt c o)])/\Bh (.i .nilfn)=[.i .nilfn]/\Bh (.i .nilp)=[.i .nilp]/\Bh (.i .nilmap)=[.i .nilmap]/\(∀es,Bh (.i (.map es))=[.i (.map es)])/\(∀r,Bh (.ref r)=[.ref r])/\(∀f a b,Bh (.fn f a b)=[.fn f a b])/\(∀r,Ja (.ref r)=false)/\(Ja .any=false)/\(∀f a b,Ja (.fn f a b)=false)/\(∀r,EP (.ref r)=true)/\(∀f a b,EP (.fn f a b)=true)/\(∀b,I.one (.bool b)=true)/\(∀k n,I.one (.int k n)=true)/\(∀s,I.one (.str s)=true)/\(∀r,I.one (.sl r)=true)/\(∀f a b,I.one (.fn f a b)=true)/\(∀c o,I.one (.elt c o)=true)/\I.one .nilfn=true/\I.one .nilp=true/\I.one .nilmap=true/\(∀es,I.one (.map es)=true)/\(∀c cs off k,pk true (c::cs) off k=.agg (((c::cs).drop off).take k))/\(∀c cs off k,pk false (c::cs) off k=(c::cs).getD off .undef)/\(∀c cs off k,gG true (c::cs) off k=.i (.agg ((((c::cs).drop off).take k).map Ii)))/\(∀c cs off k,gG false (c::cs) off k=(c::cs).getD off .any)/\(∀l off k,gG true (l.map D.i) off k=.i (pk true l off k))/\(∀(l:List I) off k,BV (((l.map D.i).drop off).take k)=true)/\(∀r,iCp (.ref r)=false)/\(iCp .any=false):=by
 have hu:∀l:List I,(l.map D.i).map Ii=l:=fun l=>by induction l with|nil=>rfl|cons a l ih=>simp_all[Ii]
 have ha:∀l:List I,BV (l.map D.i)=true:=fun l=>by simp[BV,Ja]
 and_intros<;>intros<;>first|rfl|(simp only[gG,pk,if_true,<-List.map_drop,<-List.map_take,hu];done)|(rw[<-List.map_drop,<-List.map_take];exact ha _)
theorem mi:(∀(cs:List I) off vs,setL cs off vs=cs.take off++vs++cs.drop (off+vs.length))/\(∀(cs:List D) off vs,setL cs off vs=cs.take off++vs++cs.drop (off+vs.length)):=⟨fun _ _ _=>rfl,fun _ _ _=>rfl⟩
def V8:=cj @cellsI.eq_1 (cj @Bh.eq_1 (cj @Ii.eq_1 (cj @Ja.eq_1 (cj @EP.eq_2 (cj @HA.eq_1 (cj @HA.eq_2 (cj mi ((cj @CF.eq_2 (cj @CF.eq_3 (cj @CF.eq_1 (cj @fnD.eq_1 (cj @iCp.eq_1 (cj @unC.eq_1 @V8'))))))))))))))
theorem ml:
  (∀x y,gu y (.i x) []=(x=y))/\(∀st rs,Iw st rs=Yx (Jy st rs))/\(Nt []=some (.i (.tup [])))/\(∀x y l,Nt (x::y::l)=if BV (x::y::l)then some (.i (.tup ((x::y::l).map Ii)))else none)/\(∀st r rs,Jy st (r::rs)=Yw (rvD st r) (Jy st rs))/\(∀st t,rvD st (.tmp t)=rvT (Aj st.env t))/\(∀st t k ag,rvD st (.cell t k ag)=rvC (Aj st.env t) k ag st)/\(∀x,rvT (.i x)=some (.i x))/\(∀r,rvT (.ref r)=some (.ref r))/\(∀f a b,rvT (.fn f a b)=some (.fn f a b))/\(∀cs off k,Q5 (some (.cells cs)) off k true=if Nat.ble (off+k) cs.length&&BV ((cs.drop off).take k)then some (gG true cs off k)else none)/\(∀cs off k,Q5 (some (.cells cs)) off k false=if Nat.ble (off+k) cs.length then some (gG false cs off k)else none):=by
 and_intros<;>intros<;>first|rfl|(simp[gu];done)|(simp[Q5];done)|(simp only[rsN];congr 1;congr 1;funext r;cases r<;>rfl)
def V10:=cj @Nv.eq_1 (cj @Yx.eq_1 (cj @Nt.eq_1 (cj @Jy.eq_1 (cj @Yw.eq_1 (cj @rvC.eq_1 (cj @rvC.eq_2 (cj @rsN.eq_1 (cj @rsM.eq_1 (cj @rsM.eq_2 @ml)))))))))
theorem mn:
  (∀S,OL S []=true)/\(∀S m l,OL S (m::l)=((Aa S m).isSome&&OL S l))/\(∀e k rs,Blk.nms (.rows e k rs)=[])/\(∀l es,Blk.nms (.map l es)=[])/\(∀c r,Blk.nms (.iter c r)=[]):=by
 and_intros<;>intros<;>rfl
def I9:=cj @Sub.eq_1 (cj @OM.eq_1 (cj @OM.eq_2 (cj @Br.eq_1 (cj @Br.eq_2 (cj @clE.eq_1 (cj @clE.eq_2 (cj @Qo.eq_1 (cj @Qo.eq_2 (cj @Blk.nms.eq_1 @mn)))))))))
theorem V12(st:St):(∀i,BF i st=putO st i.dst (.i .undef)):=fun i=>by rfl
theorem mo (sn:List Nat)(r:List GI)(K:St->Prop):
  (∀i st,evD P GL sn (⟨none,i⟩::r) st K=Ad P GL sn i st (HL P GL sn r K))/\(∀s w i st,evD P GL sn (⟨some (s,w),i⟩::r) st K=mc P GL s (Aj st.env s) w sn i r st K)/\(∀s i st,mc P GL s (.i (.bool true)) true sn i r st K=Ad P GL sn i st (HL P GL sn r K))/\(∀s i st,mc P GL s (.i (.bool false)) true sn i r st K=HL P GL sn r K (BF i st))/\(∀s i st,mc P GL s (.i (.bool true)) false sn i r st K=HL P GL sn r K (BF i st))/\(∀s i st,mc P GL s (.i (.bool false)) false sn i r st K=Ad P GL sn i st (HL P GL sn r K))/\(∀s w i st,mc P GL s (.i .undef) w sn i r st K=HL P GL sn r K (BF i st)):=by
 and_intros<;>intros<;>first|rfl|(simp[mc,gL,br];done)|(simp[DP,D.nms];done)|(simp;done)
def V13:=cj @HL.eq_1 @mo
theorem V14(sn:List Nat)(st:St)(K:St->Prop):
  (∀d x,Ad P GL sn (.mov d x) st K=K (st.put d (A8 GL st x)))/\(∀d c a b,Ad P GL sn (.pick d c a b) st K=Er (A8 GL st c) d (A8 GL st a) (A8 GL st b) st K)/\(∀d zs,Ad P GL sn (.alloc d zs) st K=G0 (Aa st.sto d) d (zs.map .i) st K)/\
  (∀d x k ag,Ad P GL sn (.load d x k ag) st K=(DP sn (A8 GL st x)/\Jd (A8 GL st x) d k ag st K))/\(∀x v k,Ad P GL sn (.store x v k) st K=Ph sn (A8 GL st x) (A8 GL st v) k st K)/\
  (∀d x o,Ad P GL sn (.fa d x o) st K=faE (A8 GL st x) d o st K)/\(∀d x o k ag,Ad P GL sn (.fld d x o k ag) st K=Qy (A8 GL st x) d o k ag st K)/\(∀d s i k,Ad P GL sn (.ia d s i k) st K=((DP sn (A8 GL st s)/\DP sn (A8 GL st i))/\iaE (A8 GL st s) (A8 GL st i) d k st K))/\
  (∀d s i,Ad P GL sn (.idx d s i) st K=Lw (A8 GL st s) (A8 GL st i) d st K)/\(∀d x i k len ag,Ad P GL sn (.aidx d x i k len ag) st K=Lx (A8 GL st x) (A8 GL st i) d k len ag st K)/\(∀d op x y,Ad P GL sn (.bin d op x y) st K=Ly op (A8 GL st x) (A8 GL st y) d st K)/\
  (∀d op x y,Ad P GL sn (.sh d op x y) st K=shE op (A8 GL st x) (A8 GL st y) d st K)/\(∀d n ls x y,Ad P GL sn (.eqs d n ls x y) st K=LA n ls (A8 GL st x) (A8 GL st y) d st K)/\(∀d n x y,Ad P GL sn (.eqb d n x y) st K=Ki n (A8 GL st x) (A8 GL st y) d st K)/\
  (∀d op x,Ad P GL sn (.un d op x) st K=unE op (A8 GL st x) d st K)/\(∀d x,Ad P GL sn (.lens d x) st K=LB (A8 GL st x) d st K)/\(∀d x,Ad P GL sn (.lenl d x) st K=Je (A8 GL st x) d st K)/\(∀d x i,Ad P GL sn (.ext d x i) st K=Jf (A8 GL st x) i d st K)/\
  (∀d e k p ps,Ad P GL sn (.bsn d e k (p::ps)) st K=(((p::ps).all fun o=>Ja (A8 GL st o)&&((cellsI (Ii (A8 GL st o))).length==k)&&(cellsI (Ii (A8 GL st o))).all I.one)=true/\K (st.put d (.i (.sl ((p::ps).map fun o=>cellsI (Ii (A8 GL st o))))))))/\
  (∀d zs ps,Ad P GL sn (.build d zs ps) st K=((ps.all fun p=>Ja (A8 GL st p.2.2)&&((cellsI (Ii (A8 GL st p.2.2))).length==p.2.1))=true/\K (st.put d (.i (.agg (HA zs (ps.map fun p=>(p.1,cellsI (Ii (A8 GL st p.2.2))))))))))/\
  (∀d f a b,Ad P GL sn (.mkfn d f a b) st K=LC f (a.mapM fun o=>CF (A8 GL st o)) (b.mapM fun o=>CF (A8 GL st o)) d st K)/\(∀d f args,Ad P GL sn (.call d f args) st K=((args.all fun o=>Ja (A8 GL st o))=true/\Ai P GL f (args.map fun o=>Ii (A8 GL st o)) st d K))/\(∀d f args,Ad P GL sn (.callv d f args) st K=((args.all fun o=>Ja (A8 GL st o))=true/\HM P GL (A8 GL st f) (args.map fun o=>Ii (A8 GL st o)) st d K))/\
  (∀d x y,Ad P GL sn (.max d x y) st K=G1 true (A8 GL st x) (A8 GL st y) d st K)/\(∀d x y,Ad P GL sn (.min d x y) st K=G1 false (A8 GL st x) (A8 GL st y) d st K)/\(∀d k x,Ad P GL sn (.conv d k x) st K=LD k (A8 GL st x) d st K)/\
  (∀d x lo hi,Ad P GL sn (.sslc d x lo hi) st K=Qz (A8 GL st x) (lo.map (A8 GL st)) (hi.map (A8 GL st)) d st K)/\(∀d x q z ok ls,Ad P GL sn (.lookup d x q z ok ls) st K=Fj (A8 GL st x) (A8 GL st q) z ok ls d st K)/\
  (∀x q v ls,Ad P GL sn (.mupd x q v ls) st K=Il (A8 GL st x) (A8 GL st q) (A8 GL st v) ls st K)/\(∀d x,Ad P GL sn (.lenm d x) st K=Nb (A8 GL st x) d st K)/\(∀d x i k l,Ad P GL sn (.iaa d x i k l) st K=Jh (A8 GL st x) (A8 GL st i) d k l st K)/\(∀d x,Ad P GL sn (.bytes d x) st K=LI (A8 GL st x) d st K)/\(∀d x,Ad P GL sn (.ofb d x) st K=QA (A8 GL st x) d st K):=by
 have hc:∀d f args,Ad P GL sn (.call d f args) st K=((args.all fun o=>Ja (A8 GL st o))=true/\Ai P GL f (args.map fun o=>Ii (A8 GL st o)) st d K):=fun d f args=>by simp only[Ad];refine propext ⟨fun⟨h,y,h1,h2⟩=>⟨h,y,by rw[<-KJ h];exact h1,h2⟩,fun⟨h,y,h1,h2⟩=>⟨h,y,by rw[KJ h];exact h1,h2⟩⟩
 have hv:∀d f args,Ad P GL sn (.callv d f args) st K=((args.all fun o=>Ja (A8 GL st o))=true/\HM P GL (A8 GL st f) (args.map fun o=>Ii (A8 GL st o)) st d K):=fun d f args=>by
  simp only[Ad,HM];refine propext ⟨fun⟨h0,h,hh⟩=>⟨h,?_⟩,fun⟨h,hh⟩=>?_⟩
  ·cases hf:A8 GL st f with
   |i x=>
    rw[hf]at hh;cases x<;>simp only[EQ]at hh
    case fn g a b=>
     obtain⟨y,h1,h2⟩:=hh;exact⟨y,by rw[List.map_append,List.map_append,<-KJ h];exact h1,h2⟩
   |_=>rw[hf]at h0;simp[Ja]at h0
  ·cases hf:A8 GL st f with
   |i x=>
    rw[hf]at hh;cases x<;>simp only[]at hh
    case fn g a b=>
     obtain⟨y,h1,h2⟩:=hh;refine⟨rfl,h,?_⟩;simp only[EQ];exact⟨y,by rw[List.map_append,List.map_append,<-KJ h]at h1;exact h1,h2⟩
   |_=>rw[hf]at hh;exact hh.elim
 and_intros<;>intros<;>first|exact hc _ _ _|exact hv _ _ _|rfl|(simp only[Ad,BW,Option.isSome,true_and,step];done)|(simp[];done)|(simp only[Ad,BW,Option.isSome,true_and,step];rfl)
theorem mq:
  (∀e s nm,St.frzN ⟨e,s⟩ nm=TR (Aa s nm) nm ⟨e,s⟩)/\(∀e k rs,FL (.rows e k rs)=true)/\(∀ls es,FL (.map ls es)=true)/\(∀c rs,FL (.iter c rs)=true)/\(∀s,HC s []=[])/\(∀s nm l,HC s (nm::l)=inM (Aa s nm)++nm::HC s l)/\(∀st k x,ldN st k (.i x)=[])/\(∀st k,ldN st k .any=[])/\(∀st k nm kk row off,ldN st k (.ref (.lel nm kk row off))=[])/\(inM none=[])/\(∀e k rs,inM (some (.rows e k rs))=[])/\(∀ls es,inM (some (.map ls es))=[])/\(∀c r,inM (some (.iter c r))=[])/\(∀x,D.nms (.i x)=[])/\(D.nms .any=[])/\(∀x,Cp.nms (.i x)=[])/\(Cp.nms .any=[])/\(∀s,L5 [] s=[])/\(∀t l s,L5 (t::l) s=(Aj s.env t).nms++L5 l s)/\(∀s x,DP s (.i x)=True)/\(∀s,DP s .any=True)/\(∀s r,DP s (.ref r)=(s.contains r.nm=false))/\(∀(n:Nat),([]:List Nat).contains n=false)/\(∀(n m:Nat) l,(m::l).contains n=(n==m||l.contains n))/\(∀sn st K nm o v k,Ph sn (.ref (.loc nm o)) v k st K=(sn.contains nm=true/\HD (.ref (.loc nm o)) v k st K))/\(∀a b,Nat.ble a b=decide (a<=b))/\(∀a b,Nat.blt a b=decide (a<b)):=by
 and_intros<;>intros<;>first|rfl|(simp[HC,List.flatMap_cons];done)|(simp[DP,D.nms];done)|(simp[Ph];done)|(rw[Bool.eq_iff_iff];simp)|(simp;done)
def L9:=cj @TR.eq_1 (cj @TR.eq_2 (cj @frzNs.eq_1 (cj @frzNs.eq_2 (cj @FL.eq_1 (cj @ldN.eq_1 (cj @QB.eq_1 (cj @inM.eq_1 (cj @D.nms.eq_1 (cj @D.nms.eq_2 (cj @Cp.nms.eq_1 (cj @ER.eq_1 (cj @WP.eq_1 (cj @WP.eq_2 (cj @gl.eq_1 (cj @gl.eq_2 (cj @QZ.eq_1 @mq))))))))))))))))
theorem mr (K:Exit->St->Prop)(st:St):
  (∀id,FV id K .normal st=K .normal st)/\(∀id,FV id K .ret st=K .ret st)/\(∀F I n i id,L8 F I n i K (.exit id) st=K (.exit id) st)/\(∀F I n i,L8 F I n i K .ret st=K .ret st)/\(∀φ S id,Nw φ S K (.exit id) st=K (.exit id) st)/\(∀φ S,Nw φ S K .ret st=K .ret st):=by
 and_intros<;>intros<;>rfl
def V16:=cj @FV.eq_1 (cj @L8.eq_1 (cj @Nw.eq_1 @mr))
def V17:=cj @L7.eq_1 @L7.eq_2
def V21:=@HM.eq_1
def V18:=cj @Pg.eq_1 (cj @ev.eq_1 @evD.eq_1)
theorem V19(st:St):(dN GL [] st=[])/\(∀g i r,dN GL (⟨g,i⟩::r) st=dI GL st i++dN GL r st):=⟨rfl,fun _ _ _=>rfl⟩
theorem Yz{args:List I}{y:I}
  (h:∀(M:Mem) (w:World) (vs:Array Value),Ak M args vs.toList->∃v,Rep M y v/\(callFunc f vs).run P w=.ok (.value v) w)(hfy:Nat.blt f 1000000000=true:=by first|rfl|assumption):MC P GL f (args.map D.i) [] [] (gu y):=by
 intro M μ w vs h1 h2 h3;have hr:Ak M args vs.toList:=⟨by simpa using h3.1,fun j a b=>by have:=h3.2 j (by simpa using a) b;rw[List.getElem_map]at this;exact this⟩;obtain⟨v,hv,hc⟩:=h M w vs hr;exact .inr (.inr (.inl ⟨hfy,v,w,hc,.i y,[],M,μ,⟨rfl,rfl⟩,h1,AM hv,MExt.refl _ _,Keeps.refl _ _,fun _ _ _=>rfl⟩))
theorem ms{args:List I}{y:I}(k8:De P f=true)
  (h:∀(M:Mem) (w:World) (vs:Array Value),M.Sub w->Ij GL M->Ak M args vs.toList->∃v,Rep M y v/\Calls P f vs w fun e w'=>e=.returned v/\w'=w):MC P GL f (args.map D.i) [] [] (gu y):=by
 intro M μ w vs h1 h2 h3;have hr:Ak M args vs.toList:=⟨by simpa using h3.1,fun j a b=>by have:=h3.2 j (by simpa using a) b;rw[List.getElem_map]at this;exact this⟩;obtain⟨v,hv,hc⟩:=h M w vs h1.sub h2 hr;refine .inl ⟨k8,hc.mono ?_⟩;rintro e w' ⟨rfl,rfl⟩;exact⟨v,rfl,.i y,[],M,μ,⟨rfl,rfl⟩,h1,AM hv,MExt.refl _ _,Keeps.refl _ _,fun _ _ _=>rfl⟩
def nmO(GL:List (Nat×List I))(st:St):List O->List Nat
 |[]=>[]
 |o::r=>(A8 GL st o).nms++nmO GL st r
theorem TV(st:St)(os:List O):(os.flatMap fun o=>(A8 GL st o).nms)=nmO GL st os:=by
 induction os with
 |nil=>rfl
 |cons o r ih=>simp only[List.flatMap_cons,nmO,ih]
@[go_sem] theorem V47(sn:List Nat)(st:St)(K:St->Prop):(∀d e k b x y,Ad P GL sn (.app d e k b x y) st K=(Eh ((A8 GL st x).nms++(A8 GL st y).nms) st (D3 sn)/\step P GL (.app d e k b x y) st K))/\(∀d e k,Ad P GL sn (.bsl d e k []) st K=(Eh [] st (D3 sn)/\step P GL (.bsl d e k []) st K))/\(∀d e k p ps,Ad P GL sn (.bsl d e k (p::ps)) st K=(Eh (nmO GL st (p::ps)) st (D3 sn)/\step P GL (.bsl d e k (p::ps)) st K))/\(∀d e k p ps,Ad P GL sn (.bso d e k (p::ps)) st K=(Eh (nmO GL st (p::ps)) st (D3 sn)/\step P GL (.bso d e k (p::ps)) st K))/\
  (∀d x q z ls e k,Ad P GL sn (.ment d x q z ls e k) st K=(Eh ((A8 GL st x).nms++(A8 GL st q).nms) st (D3 sn)/\step P GL (.ment d x q z ls e k) st K))/\
  (∀d x k,Ad P GL sn (.slc d x none none k) st K=(DP sn (A8 GL st x)/\step P GL (.slc d x none none k) st K))/\(∀d x l k,Ad P GL sn (.slc d x (some l) none k) st K=((DP sn (A8 GL st x)/\DP sn (A8 GL st l))/\step P GL (.slc d x (some l) none k) st K))/\
  (∀d x h k,Ad P GL sn (.slc d x none (some h) k) st K=((DP sn (A8 GL st x)/\DP sn (A8 GL st h))/\step P GL (.slc d x none (some h) k) st K))/\(∀d x l h k,Ad P GL sn (.slc d x (some l) (some h) k) st K=((DP sn (A8 GL st x)/\DP sn (A8 GL st l)/\DP sn (A8 GL st h))/\step P GL (.slc d x (some l) (some h) k) st K)):=by
 refine⟨fun d e k b x y=>?_,fun _ _ _=>rfl,fun d e k p ps=>?_,fun d e k p ps=>?_,fun d x q z ls e k=>?_,fun d x k=>?_,fun d x l k=>?_,fun d x h k=>?_,fun d x l h k=>?_⟩
 ·simp[Ad,Gv,gc,CP,List.flatMap_cons]
 ·have e:gc GL (.bsl d e k (p::ps)) st=nmO GL st (p::ps):=TV _ _;simp only[Ad,Gv,e]
 ·have e:gc GL (.bso d e k (p::ps)) st=nmO GL st (p::ps):=TV _ _;simp only[Ad,Gv,e]
 ·simp[Ad,Gv,gc,CP,List.flatMap_cons]
 all_goals simp[Ad,BQ]
theorem mt (sn:List Nat)(st:St)(K:St->Prop):
  (∀d f args,step P GL (.callo d f args) st K=Nu P GL f args d st K)/\(∀d f args,AC GL (.callo d f args) st=[])/\(∀d f args,Ad P GL sn (.callo d f args) st K=(Eh (nmO GL st args) st (D3 sn)/\Nu P GL f args d st K)):=by
 refine⟨fun _ _ _=>rfl,fun _ _ _=>rfl,fun d f args=>?_⟩;have e:gc GL (.callo d f args) st=nmO GL st args:=TV _ _;simp only[Ad,Gv,e];rfl
@[go_sem] def V51:=cj @nmO.eq_1 (cj @nmO.eq_2 @mt)
@[go_sem] theorem V52(sn:List Nat)(st:St)(K:St->Prop):(∀d f args,Ad P GL sn (.callf d f args) st K=(Eh (oN GL st args) st (D3 sn)/\Et P GL (Fi GL f args) args d st K))/\(∀d f args,Ad P GL sn (.callvf d f args) st K=(Eh (oN GL st (f::args)) st (D3 sn)/\Et P GL (DZ GL f args) (f::args) d st K)):=
 ⟨fun _ _ _=>rfl,fun _ _ _=>rfl⟩
theorem mw(hI:(os.all fun o=>Ja (A8 GL (frzNs (oN GL st os) st) o))=true)(h:Ai P GL f (os.map fun o=>Ii (A8 GL (frzNs (oN GL st os) st) o)) (frzNs (oN GL st os) st) d K):Et P GL (Fi GL f os) os d st K:=by obtain⟨y,h1,h2⟩:=h;rw[<-KJ hI]at h1;exact⟨hI,y,h1,h2⟩
theorem my{fo:O}(hI:((fo::os).all fun o=>Ja (A8 GL (frzNs (oN GL st (fo::os)) st) o))=true)
  (h:HM P GL (A8 GL (frzNs (oN GL st (fo::os)) st) fo) (os.map fun o=>Ii (A8 GL (frzNs (oN GL st (fo::os)) st) o)) (frzNs (oN GL st (fo::os)) st) d K):Et P GL (DZ GL fo os) (fo::os) d st K:=by
 unfold Et;generalize frzNs (oN GL st (fo::os)) st=s1 at hI h;unfold HM at h;split at h
 ·rename_i f first caps e
  obtain⟨y,h1,h2⟩:=h;have hI2:(os.all fun o=>Ja (A8 GL s1 o))=true:=by grind
  rw[List.map_append,List.map_append,<-KJ hI2]at h1;simp only[Ku,DZ,EQ,e];exact⟨hI,y,h1,h2⟩
 ·exact h.elim
@[congr] theorem aI4{P:Program}{GL:List (Nat×List I)}{get:St->Option (FuncId×List D)}:@Et P GL get os d st K=@Et P GL get os d st K:=rfl
theorem Q6{d:Nat}{ds:List D}{R:D->List (Nat×Blk)->Prop}(h:MC P GL f ds [] [] R)(wu:os.map (A8 GL st)=ds)(hI:(ds.all Ja)=true)
  (k:∀r sto',R r sto'->((Bj d sto').map (·.1)).all (fun nm=>(Aa st.sto nm).isNone&&Nat.blt nm 5000)=true/\K ((⟨st.env,Bj d sto'++st.sto⟩:St).put d (Df d r))):Nu P GL f os d st K:=by
 subst wu;refine⟨hI,R,h,fun r s hr=>?_⟩;obtain⟨k1,k2⟩:=k r s hr;rw[List.all_eq_true]at k1;refine⟨fun nm hm=>?_,k2⟩;have:=k1 nm hm;rw[Bool.and_eq_true]at this;exact⟨by simpa using this.1,by simpa using this.2⟩
@[congr] theorem aI5{P:Program}{GL:List (Nat×List I)}{d:Nat}:@Nu P GL f os d st K=@Nu P GL f os d st K:=rfl
@[go_sem] def V48:=cj @Eh.eq_1 (cj @Eh.eq_2 (cj @L4.eq_1 @L4.eq_2))
@[go_sem] def V50:=cj @L3.eq_1 @L3.eq_2
@[go_sem] theorem V49:(D3 []=[])/\(∀q r,D3 (q::r)=if 1000000<=q then(q-1000000)::D3 r else D3 r):=⟨rfl,fun q r=>by
 simp only[D3,List.filter_cons,decide_eq_true_eq];show _=if No<=q then(q-No)::_ else _
 split<;>simp⟩
end
@[go_sem] def V59:=@LG.eq_2
@[go_sem] def V45:=@ovN.eq_1
@[go_sem] def V46:=@ovN.eq_2
end Go.Dl
end
section
namespace Go.Dl
open Go Go.RowKit
variable{K:St->Prop}{r:List GI}{ins:Ins}{E:List GI->St->(St->Prop)->Prop}
def Ha(s:Nat)(w:Bool):List GI->Option (List GI×O×Nat×List GI)
 |[]=>none
 |⟨none,.pick d (.t q) x y⟩::r=>if q=s then(if w then(match y with|.c (.bool false)=>some ([],x,d,r)|_=>none)else match x with|.c (.bool true)=>some ([],y,d,r)|_=>none)else none
 |g::r=>match Ha s w r with
  |some (b,o,d,r')=>some (g::b,o,d,r')
  |none=>none
def HN:Ins->Bool
 |.call (some _) _ _=>true
 |.callv (some _) _ _=>true
 |i=>(BW i).isSome
def Fp(s:Nat)(w:Bool):List Nat->List GI->Bool
 |_,[]=>true
 |ds,g::r=>(match g.gd with|some (q,u)=>(q==s&&u==w)||ds.contains q|none=>false)&&HN g.ins&&(match g.ins.dst with|some d=>d !=s&&Fp s w (d::ds) r|none=>false)
def Ny(s:Nat)(w:Bool)(g:GI):GI:=match g.gd with|some (q,u)=>if q=s/\u=w then⟨none,g.ins⟩else g|none=>g
def DC(s:Nat)(w:Bool)(l:List GI):List GI:=l.map (Ny s w)
def CH(l:List GI):List Nat:=l.filterMap fun g=>g.ins.dst
def C6(f:Nat->D):Nat->List Nat->St->St
 |_,[],st=>st
 |k,d::ds,st=>C6 f (k+1) ds (st.put d (f k))
def scV(w b v:Bool):Bool:=if w then b&&v else b||v
section
variable {P:Program}{GL:List (Nat×List I)}{sn:List Nat}{s:Nat}{w:Bool}
theorem YA(f:Nat->D):∀(ds:List Nat) (k:Nat) (st:St),s∉ds->Aj (C6 f k ds st).env s=Aj st.env s
 |[],_,_,_=>rfl
 |d::ds,k,st,h=>by simp only[C6];rw[YA f ds _ _ (fun hm=>h (List.mem_cons_of_mem _ hm))];grind[St.put,Aj]
theorem YB(f g:Nat->D):∀(ds:List Nat) (k:Nat) (st:St),(∀j,k<=j->f j=g j)->C6 f k ds st=C6 g k ds st
 |[],_,_,_=>rfl
 |d::ds,k,st,h=>by simp only[C6,h k (Nat.le_refl _)];exact YB f g ds (k+1) _ fun j hj=>h j (by omega)
def TW(k:Nat)(x:D)(f:Nat->D):Nat->D:=fun j=>if j=k then x else f j
theorem mz(k:Nat)(x:D)(f:Nat->D)(d:Nat)(ds:List Nat)(st:St):C6 (TW k x f) k (d::ds) st=C6 f (k+1) ds (st.put d x):=by grind[C6,TW,YB]
theorem mA(h:HN ins=true):O6 ins=true:=by cases ins<;>first|rfl|exact h|(simp only[HN,BW,Option.isSome_none,Bool.false_eq_true]at h;done)|(rename_i d _ _;cases d<;>first|rfl|simp[HN,BW]at h)
theorem YC{st:St}{d:Nat}(hi:HN ins=true)(hd:ins.dst=some d)(h:Ad P GL sn ins st K):Ad P GL sn ins st (fun s'=>K s'/\∃x,s'=st.put d x):=by
 cases ins
 case call d' f args=>
  cases d' with
  |none=>simp[Ins.dst]at hd
  |some d'=>simp only[Ins.dst,Option.some.injEq]at hd;subst hd;obtain⟨h1,y,h2,h3⟩:=h;exact⟨h1,y,h2,h3,_,rfl⟩
 case callv d' f args=>
  cases d' with
  |none=>simp[Ins.dst]at hd
  |some d'=>
   simp only[Ins.dst,Option.some.injEq]at hd;subst hd;obtain⟨h0,h1,h⟩:=h;refine⟨h0,h1,?_⟩;split at h
   ·obtain⟨y,h2,h3⟩:=h;exact⟨y,h2,h3,_,rfl⟩
   ·exact h.elim
 all_goals first
  |(simp[HN,BW]at hi;done)
  |(simp only[Ins.dst,Option.some.injEq]at hd
    subst hd;obtain⟨h0,h⟩:=h;obtain⟨h1,h2⟩:=(O4 P GL rfl st _).1 h;exact⟨h0,(O4 P GL rfl st _).2 ⟨h1,h2,_,rfl⟩⟩)
theorem YD{st:St}(hi:HN ins=true)(h:Ad P GL sn ins st K):step P GL ins (frzNs (AC GL ins st) st) K:=by
 obtain⟨x,hp,hk⟩:=XX (mA hi) h;have hpre:AC GL ins st=[]:=by
  have noD:∀v:D,Ja v=true->v.nms=[]:=fun v hv=>by cases v<;>simp[Ja]at hv;rfl
  have no1:∀os:List O,(∀o∈os,Ja (A8 GL st o)=true)->oN GL st os=[]:=fun os ho=>by simp_all[A8,oN,HC]
  cases ins
  case bsn d e k ps=>
   obtain⟨_,h2,_⟩:=hp;simp only[pv,List.all_eq_true,Bool.and_eq_true]at h2;exact no1 _ fun o ho=>(h2.2 o ho).1.1
  case build d zs ps=>
   obtain⟨_,h2,_⟩:=hp;simp only[pv,List.all_eq_true,Bool.and_eq_true]at h2;exact no1 _ fun o ho=>by grind
  case load d x k ag=>
   cases ag with
   |false=>rfl
   |true=>
    obtain⟨_,h2,_⟩:=hp;simp only[AC];unfold ldN;split
    ·rename_i nm off e;simp only[pv,e]at h2;split at h2
     ·rename_i cs hg;have ha:=h2.2 trivial;have:QB (Aa st.sto nm) off k=[]:=by simp_all[QB,BV]
      rw[this];rfl
     ·exact h2.elim
    ·rfl
  case ofb d x=>
   obtain⟨_,h2,_⟩:=hp;simp only[pv]at h2;refine no1 _ fun o ho=>?_
   simp only[List.mem_singleton]at ho;subst ho;split at h2
   ·rename_i e;rw[e];rfl
   ·exact h2.elim
  all_goals first
   |rfl
   |(simp[HN,BW]at hi;done)
 rw[hpre];exact XW hp hk
theorem Q7{ds:List Nat}{g:GI}(h:Fp s w ds (g::r)=true):∃q u d,g.gd=some (q,u)/\((q=s/\u=w)\/q∈ds)/\HN g.ins=true/\g.ins.dst=some d/\d≠s/\Fp s w (d::ds) r=true:=by grind[Fp]
structure Evl(P:Program)(GL:List (Nat×List I))(sn:List Nat)(E:List GI->St->(St->Prop)->Prop):Prop where
 go:∀g r st K,HN g.ins=true->g.gd=none->Ad P GL sn g.ins st (fun s=>E r s K)->E (g::r) st K
 gd:∀q u i r st K,HN i=true->gL (Aj st.env q) u (Ad P GL sn i st fun s=>E r s K) (E r (BF i st) K)->E (⟨some (q,u),i⟩::r) st K
theorem Evl.yes{E:List GI->St->(St->Prop)->Prop}(hE:Evl P GL sn E){tail:List GI}{K:St->Prop}:∀(l:List GI) (ds:List Nat) (st:St),Fp s w ds l=true->Aj st.env s=.i (.bool w)->
  evD P GL sn (DC s w l) st (fun st'=>E tail st' K)->E (l++tail) st K
 |[],ds,st,_,_,h=>h
 |g::r,ds,st,kg,hs,h=>by
  obtain⟨q,u,d,e,hq,hi,hd,wu,hr⟩:=Q7 kg;have next:∀st',evD P GL sn (DC s w r) st' (fun st'=>E tail st' K)->Aj st'.env s=.i (.bool w)->E (r++tail) st' K:=fun st' h' hs'=>Evl.yes hE r (d::ds) st' hr hs' h'
  have keep:∀st' x,st'=st.put d x->Aj st'.env s=.i (.bool w):=fun st' x e=>by grind[St.put,Aj]
  have put:∀{st0:St} {K1 K2:St->Prop},Ad P GL sn g.ins st0 K1->(∀x,K1 (st0.put d x)->K2 (st0.put d x))->Ad P GL sn g.ins st0 K2:=fun{st0 K1 K2} h1 h2=>
   TD (YC hi hd h1) fun s' ⟨k1,x,e⟩=>by grind
  obtain⟨gd,ins⟩:=g;simp only at e hi hd hq;subst e;show E (⟨some (q,u),ins⟩::(r++tail)) st K;refine hE.gd q u ins _ st K hi ?_;grind[DC,Ny,evD,gL,WL,Pa,BF]
theorem Q8{g:GI}{st:St}:evD P GL sn (g::r) st K↔match g.gd with
   |none=>Ad P GL sn g.ins st fun s'=>evD P GL sn r s' K
   |some (q,u)=>gL (Aj st.env q) u (Ad P GL sn g.ins st fun s'=>evD P GL sn r s' K) (evD P GL sn r (BF g.ins st) K):=by
 obtain⟨gd,ins⟩:=g;cases gd with
 |none=>exact Iff.rfl
 |some p=>exact Iff.rfl
theorem YE{K:St->Prop}:∀(l:List GI) (ds:List Nat) (st:St) (k:Nat),Fp s w ds l=true->evD P GL sn (DC s w l) st K->evD P GL sn (DC s w l) st (fun st'=>K st'/\∃f,st'=C6 f k (CH l) st)
 |[],ds,st,k,_,h=>⟨h,fun _=>.any,rfl⟩
 |g::r,ds,st,k,kg,h=>by
  obtain⟨q,u,d,e,hq,hi,hd,wu,hr⟩:=Q7 kg;have xh:CH (g::r)=d::CH r:=by simp[CH,hd]
  have ins1:(Ny s w g).ins=g.ins:=by grind[Ny]
  have fin:∀x,evD P GL sn (DC s w r) (st.put d x) K->evD P GL sn (DC s w r) (st.put d x) (fun st'=>K st'/\∃f,st'=C6 f k (CH (g::r)) st):=fun x hx=>by refine QP (YE r (d::ds) _ (k+1) hr hx) ?_;rintro s' ⟨k1,f,rfl⟩;exact⟨k1,TW k x f,by rw[xh,mz]⟩
  have st1:Ad P GL sn g.ins st (fun s'=>evD P GL sn (DC s w r) s' K)->Ad P GL sn g.ins st (fun s'=>evD P GL sn (DC s w r) s' (fun st'=>K st'/\∃f,st'=C6 f k (CH (g::r)) st)):=fun h1=>by refine TD (YC hi hd h1) ?_;grind
  have h:Dl.evD P GL sn (Ny s w g::DC s w r) st K:=h;grind[Ny,DC,Q8,Pa,BF]
theorem Evl.no{E:List GI->St->(St->Prop)->Prop}(hE:Evl P GL sn E){tail:List GI}{K:St->Prop}{b:Bool}(hb:(b==w)=false):∀(l:List GI) (ds:List Nat) (st:St) (k:Nat),Fp s w ds l=true->Aj st.env s=.i (.bool b)->(∀q∈ds,Aj st.env q=.i .undef)->
  E tail (C6 (fun _=>.i .undef) k (CH l) st) K->E (l++tail) st K
 |[],ds,st,k,_,_,_,h=>h
 |g::r,ds,st,k,kg,hs,hu,h=>by
  obtain⟨q,u,d,e,hq,hi,hd,wu,hr⟩:=Q7 kg;have xh:CH (g::r)=d::CH r:=by simp[CH,hd]
  rw[xh]at h;simp only[C6]at h;have hnext:E (r++tail) (BF g.ins st) K:=by
   simp only[BF,hd];refine Evl.no hE hb r (d::ds) _ (k+1) hr ?_ ?_ h
   all_goals grind[St.put,Aj]
  obtain⟨gd,ins⟩:=g;simp only at e hi hd hq hnext;subst e;show E (⟨some (q,u),ins⟩::(r++tail)) st K;refine hE.gd q u ins _ st K hi ?_;grind[gL,WM]
theorem mB:∀{l b r:List GI} {o:O} {d:Nat},Ha s w l=some (b,o,d,r)->l=b++⟨none,.pick d (.t s) (if w then o else .c (.bool true)) (if w then .c (.bool false)else o)⟩::r:=by
 intro l
 induction l with
 |nil=>intro b r o d h;simp[Ha]at h
 |cons g l ih=>
  intro b r o d h;have other:∀g:GI,(match Ha s w l with|some (b,o,d,r')=>some (g::b,o,d,r')|none=>none)=some (b,o,d,r)->g::l=b++⟨none,.pick d (.t s) (if w then o else .c (.bool true)) (if w then .c (.bool false)else o)⟩::r:=fun g h=>by grind
  unfold Ha at h;grind
theorem Evl.ev:Evl P GL sn (Dl.ev P GL) where
 go:=fun g r st K hi hg h=>by grind[O9,YD]
 gd:=fun q u i r st K hi h=>by grind[O9,Pa,YD]
theorem Evl.evD:Evl P GL sn (Dl.evD P GL sn) where
 go:=fun g r st K hi hg h=>by grind[Q8]
 gd:=fun q u i r st K hi h=>by grind[Q8]
theorem Evl.sc(hE:Evl P GL sn E)(hpk:∀d s x y r st K,Er (A8 GL st (.t s)) d (A8 GL st x) (A8 GL st y) st (fun s'=>E r s' K)->E (⟨none,.pick d (.t s) x y⟩::r) st K)
  {s:Nat}{b w v:Bool}{l blk r':List GI}{R:O}{d:Nat}{st:St}{K:St->Prop}(hsp:Ha s w l=some (blk,R,d,r'))(kg:Fp s w [] blk=true)(hs:Aj st.env s=.i (.bool b))
  (h1:b=w->Dl.evD P GL sn (DC s w blk) st (fun st'=>A8 GL st' R=.i (.bool v)))(h2:∀f,E r' ((C6 f 0 (CH blk) st).put d (.i (.bool (scV w b v)))) K):E l st K:=by
 rw[mB hsp];have hpick:∀f st',st'=C6 f 0 (CH blk) st->(∀x,A8 GL st' (if w then R else .c (.bool true))=x->∀y,A8 GL st' (if w then .c (.bool false)else R)=y->Aj st'.env s=.i (.bool b)->(if b then x else y)=.i (.bool (scV w b v)))->s∉CH blk->
   E (⟨none,.pick d (.t s) (if w then R else .c (.bool true)) (if w then .c (.bool false)else R)⟩::r') st' K:=fun f st' e hv hns=>by
  have hg:Aj st'.env s=.i (.bool b):=by grind[YA]
  have:=hv _ rfl _ rfl hg;refine hpk _ _ _ _ _ _ _ ?_;have vo:A8 GL st' (.t s)=.i (.bool b):=hg;rw[vo];simp only[Er];cases b with
  |true=>rw[WL];simp only[if_true]at this;rw[this,e];exact h2 f
  |false=>rw[WM];simp only[Bool.false_eq_true,if_false]at this;rw[this,e];exact h2 f
 have hns:s∉CH blk:=by
  have:∀(l:List GI) (ds:List Nat),Fp s w ds l=true->s∉CH l:=by
   intro l
   induction l with
   |nil=>intro ds _ hm;simp[CH]at hm
   |cons g l ih=>grind[Q7,CH]
  grind
 by_cases hb:b=w
 ·subst hb;refine hE.yes blk [] st kg hs ?_;refine QP (YE blk [] st 0 kg (h1 rfl)) ?_;rintro st' ⟨hR,f,rfl⟩;refine hpick f _ rfl ?_ hns;intro x hx y hy _;cases b with
  |true=>simp only[if_true]at hx⊢;rw[<-hx,hR];rfl
  |false=>simp only[Bool.false_eq_true,if_false]at hy⊢;rw[<-hy,hR];rfl
 ·have hb':(b==w)=false:=by simpa using hb
  refine hE.no hb' blk [] st 0 kg hs (fun q hq=>by cases hq) (hpick _ _ rfl ?_ hns);intro x hx y hy _;cases w with
  |true=>
   have:b=false:=by grind
   subst this;simp only[if_true,Bool.false_eq_true,if_false]at hy⊢;rw[<-hy];rfl
  |false=>
   have:b=true:=by grind
   subst this;simp only[Bool.false_eq_true,if_false,if_true]at hx⊢;rw[<-hx];rfl
theorem mC{s:Nat}{b w v:Bool}{i:Ins}{blk r':List GI}{R:O}{d:Nat}{e:Env}{so:List (Nat×Blk)}(hsp:Ha s w (⟨some (s,w),i⟩::r)=some (blk,R,d,r'))(kg:Fp s w [] blk=true)(hs:Aj e s=.i (.bool b))
  (h1:b=w->Dl.evD P GL [] (DC s w blk) ⟨e,so⟩ (fun st'=>A8 GL st' R=.i (.bool v)))(h2:∀f,Dl.ev P GL r' ((C6 f 0 (CH blk) ⟨e,so⟩).put d (.i (.bool (scV w b v)))) K):Dl.ev P GL (⟨some (s,w),i⟩::r) ⟨e,so⟩ K:=
 Evl.ev.sc (fun _ _ _ _ _ _ _ h=>h) hsp kg hs h1 h2
theorem mD{s:Nat}{b w v:Bool}{i:Ins}{blk r':List GI}{R:O}{d:Nat}{e:Env}{so:List (Nat×Blk)}(hsp:Ha s w (⟨some (s,w),i⟩::r)=some (blk,R,d,r'))(kg:Fp s w [] blk=true)(hs:Aj e s=.i (.bool b))
  (h1:b=w->Dl.evD P GL sn (DC s w blk) ⟨e,so⟩ (fun st'=>A8 GL st' R=.i (.bool v)))(h2:∀f,Dl.evD P GL sn r' ((C6 f 0 (CH blk) ⟨e,so⟩).put d (.i (.bool (scV w b v)))) K):Dl.evD P GL sn (⟨some (s,w),i⟩::r) ⟨e,so⟩ K:=
 Evl.evD.sc (fun _ _ _ _ _ _ _ h=>⟨rfl,h⟩) hsp kg hs h1 h2
theorem mE {s:Nat}{b w v:Bool}{i:Ins}{r blk r':List GI}{R:O}{d:Nat}{e:Env}{so:List (Nat×Blk)}{K:St->Prop}(hsp:Ha s w (⟨some (s,w),i⟩::r)=some (blk,R,d,r'))(kg:Fp s w [] blk=true)(hs:Aj e s=.i (.bool b))(h1:b=w->Dl.evD P GL [] (DC s w blk) ⟨e,so⟩ (fun st'=>A8 GL st' R=.i (.bool v)))(h2:∀f,Dl.ev P GL r' ((C6 f 0 (CH blk) ⟨e,so⟩).put d (.i (.bool (scV w b v)))) K):ma P GL s (.i (.bool b)) w i r ⟨e,so⟩ K:=by have:=mC (P:=P) (GL:=GL) (so:=so) hsp kg hs h1 h2;rw[O9]at this;simp only[hs]at this;exact this
theorem mF {s:Nat}{b w v:Bool}{i:Ins}{r blk r':List GI}{R:O}{d:Nat}{e:Env}{so:List (Nat×Blk)}{K:St->Prop}(hsp:Ha s w (⟨some (s,w),i⟩::r)=some (blk,R,d,r'))(kg:Fp s w [] blk=true)(hs:Aj e s=.i (.bool b))(h1:b=w->Dl.evD P GL sn (DC s w blk) ⟨e,so⟩ (fun st'=>A8 GL st' R=.i (.bool v)))(h2:∀f,Dl.evD P GL sn r' ((C6 f 0 (CH blk) ⟨e,so⟩).put d (.i (.bool (scV w b v)))) K):mc P GL s (.i (.bool b)) w sn i r ⟨e,so⟩ K:=by have:=mD (P:=P) (GL:=GL) (so:=so) hsp kg hs h1 h2;rw[Q8]at this;simp only[hs]at this;exact this
theorem Av(x:Bool):D.i (I.bool x)=D.i (I.bool x):=rfl
end
theorem mG:
  (∀b v,scV true b v=(b&&v))/\(∀b v,scV false b v=(b||v))/\(∀s w,DC s w []=[])/\(∀s w q u i r,DC s w (⟨some (q,u),i⟩::r)=(if q=s/\u=w then⟨none,i⟩else⟨some (q,u),i⟩)::DC s w r)/\(CH []=[])/\(∀g i r,CH (⟨g,i⟩::r)=i.dst.toList++CH r)/\(∀d:Nat,(some d).toList=[d]):=by
 and_intros<;>intros<;>first|rfl|(rename_i g i r;cases h:i.dst<;>simp[CH,h])
def V22:=cj @C6.eq_1 (cj @C6.eq_2 @mG)
end Go.Dl
end
section
namespace Go.Dl
open Go Go.RowKit
variable{K:Exit->St->Prop}{st:St}{s:List (Nat×Blk)}
section
variable (P:Program)(GL:List (Nat×List I))
def EM(gs:List GI)(st:St)(K:St->Prop):Prop:=ev P GL gs st K
def YF(sn:List Nat)(gs:List GI)(post:List Nat)(K:Exit->St->Prop)(st:St):Prop:=Pg P GL sn gs post K st
def Hb(v:D)(a c:J)(K:Exit->St->Prop)(st:St):Prop:=match v with
 |.i (.bool t)=>br t (W2 P GL a K st) (W2 P GL c K st)
 |_=>False
end
section
variable {P:Program}{GL:List (Nat×List I)}
theorem Pk{b:Bool}{a c:J}(h:b=true->Hb P GL (.i (.bool true)) a c K st)(k:b=false->Hb P GL (.i (.bool false)) a c K st):Hb P GL (.i (.bool b)) a c K st:=by
 cases b
 ·exact k rfl
 ·exact h rfl
theorem mH (K:Exit->St->Prop)(st:St):
  (∀gs,W2 P GL (.rg gs) K st=EM P GL gs st (K .normal))/\(∀c a b,W2 P GL (.cond c a b) K st=Hb P GL (A8 GL st c) a b K st)/\(∀a c,Hb P GL (.i (.bool true)) a c K st=W2 P GL a K st)/\(∀a c,Hb P GL (.i (.bool false)) a c K st=W2 P GL c K st):=by
 and_intros<;>intros<;>first|rfl|(simp[Hb,br];done)
def V23:=cj @W2.eq_1 (cj @W2.eq_4 (cj @W2.eq_7 (cj @W2.eq_9 (cj @W2.eq_10 @mH))))
theorem mI:
  (∀ks W K e s,KH ks W K .normal ⟨e,s⟩=W K ⟨.l (Ey e ks),s⟩)/\(∀ks W K id s,KH ks W K (.exit id) s=K (.exit id) s)/\(∀ks W K s,KH ks W K .ret s=K .ret s):=by
 and_intros<;>intros<;>rfl
def MQ:=cj @Ey.eq_1 (cj @Ey.eq_2 (cj @prn.eq_1 @mI))
theorem V26(st:St):(∀g r Q,EM P GL (g::r) st Q=ev P GL (g::r) st Q)/\(∀Q,EM P GL [] st Q=Q st):=⟨fun _ _ _=>rfl,fun _=>rfl⟩
theorem AG{sn:List Nat}{fz:List O}{gs:List GI}{post:List Nat}(h:Pg P GL sn gs post K (frzNs (oN GL st fz++dN GL gs st) st)):W2 P GL (.dr sn fz gs post) K st:=⟨_,h⟩
theorem Ae{ks:List Nat}{a b:J}(h:W2 P GL a (KH ks (W2 P GL b) K) st):W2 P GL (.ct ks a b) K st:=
 Ei a h fun e s hs=>by
  cases e with
  |normal=>exact⟨_,.inr (.inr ⟨ks,rfl⟩),hs⟩
  |_=>exact hs
def Ma{ι:Type}(F:ι->St)(I:ι->Prop)(m:ι->Nat)(i:ι)(K:Exit->St->Prop):Exit->St->Prop
 |.normal,s=>∃i',I i'/\m i'<m i/\Sub (F i') s
 |e,s=>K e s
theorem mJ (K:Exit->St->Prop)(st:St):
  (∀(ι:Type) (F:ι->St) I m i id,Ma F I m i K (.exit id) st=K (.exit id) st)/\(∀(ι:Type) (F:ι->St) I m i,Ma F I m i K .ret st=K .ret st):=by
 and_intros<;>intros<;>rfl
def V24:=cj @Ma.eq_1 @mJ
theorem BG{body:J}{e:Env}{ι:Type}(ks:List Nat){bs:List (Nat×D)}(hb:Ey e ks=bs)(C:ι->List (Nat×D))(B:ι->List (Nat×Blk))(I:ι->Prop)(m:ι->Nat)(k:ι)
  (hi:I k)(h0:Sub ⟨.l (C k++bs),B k⟩ ⟨e,s⟩)(round:∀i,I i->W2 P GL body (Ma (fun i=>⟨.l (C i++bs),B i⟩) I m i K) ⟨.l (C i++bs),B i⟩):W2 P GL (.lp body) K ⟨e,s⟩:=by
 refine⟨{i:ι//I i},fun i=>⟨.l (C i.1++bs),B i.1⟩,fun i=>m i.1,⟨k,hi⟩,h0,fun i=>Ei _ (round i.1 i.2) ?_⟩;intro e s h;cases e with
 |normal=>obtain⟨j,h1,h2,h3⟩:=h;exact⟨⟨j,h1⟩,h2,h3⟩
 |_=>exact h
theorem DQ{body:J}{e:Env}(ks:List Nat){bs:List (Nat×D)}(hb:Ey e ks=bs)(C:Nat->List (Nat×D))(B:Nat->List (Nat×Blk))(I:Nat->Prop)(n k:Nat)
  (hk:k<=n)(hi:I k)(h0:Sub ⟨.l (C k++bs),B k⟩ ⟨e,s⟩)(round:∀i,i<=n->I i->W2 P GL body (L8 (fun i=>⟨.l (C i++bs),B i⟩) I n i K) ⟨.l (C i++bs),B i⟩):W2 P GL (.lp body) K ⟨e,s⟩:=
 BG ks hb C B (fun i=>i<=n/\I i) (fun i=>n-i) k ⟨hk,hi⟩ h0 fun i hh=>Ei _ (round i hh.1 hh.2) fun e s h=>by
  cases e with
  |normal=>exact⟨i+1,⟨h.1,h.2.1⟩,by show n-(i+1)<n-i;have:=h.1;omega,h.2.2⟩
  |_=>exact h
theorem cutS{ks0:List Nat}{a b:J}{e:Env}(ks:List Nat){bs:List (Nat×D)}(hb:Ey e ks=bs)(C:List (Nat×D))(B:List (Nat×Blk))(φ:Prop)(ha:W2 P GL a (Nw φ ⟨.l (C++bs),B⟩ K) ⟨e,s⟩)(h:φ->W2 P GL b K ⟨.l (C++bs),B⟩):
  W2 P GL (.ct ks0 a b) K ⟨e,s⟩:=
 Ei a ha fun e s hs=>by
  cases e with
  |normal=>exact⟨_,.inr (.inl hs.2),h hs.1⟩
  |_=>exact hs
end
section
variable {P:Program}{GL:List (Nat×List I)}
theorem Iy{f:FuncId}{os:List O}{d:Option Nat}{K:St->Prop}{ds:List D}{sto:List (Nat×Blk)}{mv:List Nat}{R:D->List (Nat×Blk)->Prop}(h:MC P GL f ds sto mv R)(wu:os.map (A8 GL st)=ds)(h1:Br sto st.sto)
  (h2:(Qo sto sto&&(ds.all fun x=>OL sto x.nms)&&(mv.all fun m=>Nat.blt m 5000||Nat.ble 5500 m))=true)(k:∀r sto',R r sto'->((Bj (d.getD 999) sto').map (·.1)).all (fun nm=>(Aa sto nm).isSome||((Aa st.sto nm).isNone&&Nat.blt nm 5000))=true/\
   (sto.map (·.1)).all (fun nm=>(Aa sto' nm).isNone||ren (d.getD 999) nm==nm)=true/\K (putO (DN st sto sto' mv (d.getD 999)) d (Df (d.getD 999) r))):Ah P GL (Fi GL f os) st d K:=by
 subst wu;rw[Bool.and_eq_true,Bool.and_eq_true]at h2;refine⟨[],.inl ⟨sto,mv,R,h,h1,h2.1.1,h2.1.2,h2.2,fun r s hr=>?_⟩⟩;obtain⟨k1,k2,k3⟩:=k r s hr;rw[List.all_eq_true]at k1 k2;refine⟨fun nm hm=>?_,fun nm hm hs=>?_,k3⟩
 ·have:=k1 nm hm;rw[Bool.or_eq_true,Bool.and_eq_true]at this;rcases this with e|⟨e1,e2⟩
  ·exact .inl e
  ·exact .inr ⟨by show Aa st.sto nm=none;simpa using e1,by simpa using e2⟩
 ·have:=k2 nm hm;rw[Bool.or_eq_true]at this;rcases this with e|e
  ·cases hg:Aa s nm<;>simp[hg]at e hs
  ·simpa using e
theorem Mb{α:Type}{l:List α}{f:α->I×I}{c:Option (I×I)}{nm d:Nat}{K:St->Prop}(h0:l=[]->K (st.put d (.i (.tup [.bool false]))))(h1:∀q (h:q<l.length),K ((st.setB nm (.iter (some (f l[q])) ((l.eraseIdx q).map f))).put d (.i (.tup [.bool true,(f l[q]).1,(f l[q]).2])))):
  Nc (some (.iter c (l.map f))) nm d st K:=by
 refine⟨fun e=>h0 (List.map_eq_nil_iff.1 e),fun i hi=>?_⟩;have ja:i<l.length:=by simpa using hi
 have:=h1 i ja;have e:∀(l:List α) (i:Nat),(l.map f).eraseIdx i=(l.eraseIdx i).map f:=fun l=>by
  induction l with
  |nil=>intro i;rfl
  |cons a l ih=>intro i;cases i with
   |zero=>rfl
   |succ i=>simp[ih]
 rw[List.getElem_map,e];exact this
theorem mK:
  (∀d e k rs,EO d (.rows e k rs)=.rows e k rs)/\(∀d ls es,EO d (.map ls es)=.map ls es)/\(∀d c r,EO d (.iter c r)=.iter c r)/\(∀d x,Df d (.i x)=.i x)/\(∀d,Df d .any=.any):=by
 and_intros<;>intros<;>rfl
def V27:=cj @DN.eq_1 (cj @MW.eq_1 (cj @MW.eq_2 (cj @Lq.eq_1 (cj @Lq.eq_2 (cj @Lr.eq_1 (cj @Lr.eq_2 (cj @Bj.eq_1 (cj @Bj.eq_2 (cj @EO.eq_1 (cj @Df.eq_1 (cj @Kd.eq_1 (cj @Kd.eq_2 (cj @Kd.eq_4 (cj @ren.eq_1 (cj @Ls.eq_1 @mK)))))))))))))))
end
@[congr] theorem aI6{a b c d e}:ev a b c d e=ev a b c d e:=rfl
@[congr] theorem aI7{a b c d e f}(h:e=f):evR a b c d e=evR a b c d f:=h▸rfl
@[congr] theorem aI8{a b c d e f g i j}(h:f=g)(k:i=j):evF a b c d e f i=evF a b c d e g j:=h▸k▸rfl
@[congr] theorem aI9{a b c d e}:step a b c d e=step a b c d e:=rfl
@[congr] theorem aIa{a b c d e f g i j l}(h:d=e):ma a b c d f g i j l=ma a b c e f g i j l:=h▸rfl
@[congr] theorem aIb{a b c d e f}:evD a b c d e f=evD a b c d e f:=rfl
@[congr] theorem aIc{a b c d e f g}(h:f=g):HL a b c d e f=HL a b c d e g:=h▸rfl
@[congr] theorem aId{a b c d e f}:Ad a b c d e f=Ad a b c d e f:=rfl
@[congr] theorem aIe{a b c d e f g i j l m}(h:d=e):mc a b c d f g i j l m=mc a b c e f g i j l m:=h▸rfl
@[congr] theorem aIf{a b c d e f g i j}(h:a=b)(k:d=e)(H:f=g):Er a c d f i j=Er b c e g i j:=h▸k▸H▸rfl
@[congr] theorem aIg{a b c d e f g}(h:a=b):Lv a c d e f g=Lv b c d e f g:=h▸rfl
@[congr] theorem aIh{a b c d e}(h:a=b):M0 a c d e=M0 b c d e:=h▸rfl
@[congr] theorem aIi{a b c d e f g}(h:a=b)(k:d=e):G0 a c d f g=G0 b c e f g:=h▸k▸rfl
@[congr] theorem aIj{a b c d e f g}(h:a=b):Q1 a c d e f g=Q1 b c d e f g:=h▸rfl
@[congr] theorem aIk{a b c d e f g i j}(h:a=b)(k:f=g):Ji a c d e f i j=Ji b c d e g i j:=h▸k▸rfl
@[congr] theorem aIl{a b c d e f g}(h:a=b):Jd a c d e f g=Jd b c d e f g:=h▸rfl
@[congr] theorem aIm{a b c d e f g i j}(h:a=b)(k:d=e):Kg a c d f g i j=Kg b c e f g i j:=h▸k▸rfl
@[congr] theorem aIn{a b c d e f g i j l m n o}(h:a=b)(k:d=e)(H:f=g)(I:i=j):M5 a c d f i l m n o=M5 b c e g j l m n o:=h▸k▸H▸I▸rfl
@[congr] theorem aIo{a b c d e f g}(h:a=b)(k:c=d):HD a c e f g=HD b d e f g:=h▸k▸rfl
@[congr] theorem aIp{a b c d e f g i j l}(h:a=b)(k:d=e)(H:g=i):Kh a c d f g j l=Kh b c e f i j l:=h▸k▸H▸rfl
@[congr] theorem aIq{a b c d e f g i j l m n o p}(h:a=b)(k:d=e)(H:f=g)(I:i=j)(h0:m=n):M6 a c d f i l m o p=M6 b c e g j l n o p:=h▸k▸H▸I▸h0▸rfl
@[congr] theorem aIr{a b c d e f g}(h:a=b)(k:c=d):M8 a c e f g=M8 b d e f g:=h▸k▸rfl
@[congr] theorem aIs{a b c d e f g i j l}(h:a=b)(k:d=e)(H:g=i):M7 a c d f g j l=M7 b c e f i j l:=h▸k▸H▸rfl
@[congr] theorem aIt{a b c d e f g}(h:a=b)(k:d=e):faE a c d f g=faE b c e f g:=h▸k▸rfl
@[congr] theorem aIu{a b c d e f g i}(h:a=b)(k:c=d):iaE a c e f g i=iaE b d e f g i:=h▸k▸rfl
@[congr] theorem aIv{a b c d e f g i j l m n o p}(h:a=b)(k:g=i)(H:j=l)(I:m=n):iaR a c d e f g j m o p=iaR b c d e f i l n o p:=h▸k▸H▸I▸rfl
@[congr] theorem aIw{a b c d e f g}(h:a=b)(k:c=d):Lw a c e f g=Lw b d e f g:=h▸k▸rfl
@[congr] theorem aIx{a b c d e f g i j l}(h:a=b)(k:c=d):Lx a c e f g i j l=Lx b d e f g i j l:=h▸k▸rfl
@[congr] theorem aIy{a b c d e f g i}(h:b=c)(k:d=e):Ly a b d f g i=Ly a c e f g i:=h▸k▸rfl
@[congr] theorem aIz{a b c d e f g i}(h:b=c)(k:d=e):shE a b d f g i=shE a c e f g i:=h▸k▸rfl
@[congr] theorem aJ0{a b c d e f g i j}(h:c=d)(k:e=f):LA a b c e g i j=LA a b d f g i j:=h▸k▸rfl
@[congr] theorem aJ1{a b c d e f}(h:a=b):Lz a c d e f=Lz b c d e f:=h▸rfl
@[congr] theorem aJ2{a b c d e f g i}(h:b=c)(k:d=e):Ki a b d f g i=Ki a c e f g i:=h▸k▸rfl
@[congr] theorem aJ3{a b c d e f g}(h:c=d):CN a b c e f g=CN a b d e f g:=h▸rfl
@[congr] theorem aJ4{a b c d e f}(h:b=c):unE a b d e f=unE a c d e f:=h▸rfl
@[congr] theorem aJ5{a b c d e}(h:a=b):LB a c d e=LB b c d e:=h▸rfl
@[congr] theorem aJ6{a b c d e}(h:a=b):Je a c d e=Je b c d e:=h▸rfl
@[congr] theorem aJ7{a b c d e f}(h:a=b):Jf a c d e f=Jf b c d e f:=h▸rfl
@[congr] theorem aJ8{a b c d e f g i}(h:b=c)(k:d=e):LC a b d f g i=LC a c e f g i:=h▸k▸rfl
@[congr] theorem aJ9{a b c d e f g i}(h:b=c)(k:d=e):G1 a b d f g i=G1 a c e f g i:=h▸k▸rfl
@[congr] theorem aJa{a b c d e f}(h:b=c):LD a b d e f=LD a c d e f:=h▸rfl
@[congr] theorem aJb{a b c d e f g i j l}(h:a=b)(k:c=d):Jq a c e f g i j l=Jq b d e f g i j l:=h▸k▸rfl
@[congr] theorem aJc{a b c d e f g i j l m n o p q r}(h:a=b)(k:e=f)(H:g=i)(I:o=p):Kj a c d e g j l m n o q r=Kj b c d f i j l m n p q r:=h▸k▸H▸I▸rfl
@[congr] theorem aJd{a b c d e f g i j l}(h:a=b)(k:c=d)(H:e=f):LF a c e g i j l=LF b d f g i j l:=h▸k▸H▸rfl
@[congr] theorem aJe{a b c d e f g}(h:a=b)(k:c=d)(H:e=f):ER a c e g=ER b d f g:=h▸k▸H▸rfl
@[congr] theorem aJf{a b c d e f g i j l m n o p q r}(h:a=b)(k:e=f)(H:g=i)(I:m=n)(h0:o=p):M9 a c d e g j l m o q r=M9 b c d f i j l n p q r:=h▸k▸H▸I▸h0▸rfl
@[congr] theorem aJg{a b c d e f g i j}(h:a=b)(k:c=d):Na a c e f g i j=Na b d e f g i j:=h▸k▸rfl
@[congr] theorem aJh{a b c d e f}(h:a=b):LG a c d e f=LG b c d e f:=h▸rfl
@[congr] theorem aJi{a b c d e f g i j l}(h:a=b)(k:c=d):Fj a c e f g i j l=Fj b d e f g i j l:=h▸k▸rfl
@[congr] theorem aJj{a b c d e f g i j l}(h:a=b)(k:d=e):HE a c d f g i j l=HE b c e f g i j l:=h▸k▸rfl
@[congr] theorem aJk{a b c d e f g i j}(h:a=b)(k:c=d)(H:e=f):Il a c e g i j=Il b d f g i j:=h▸k▸H▸rfl
@[congr] theorem aJl{a b c d e f g i j l}(h:a=b)(k:e=f)(H:g=i):Jg a c d e g j l=Jg b c d f i j l:=h▸k▸H▸rfl
@[congr] theorem aJm{a b c d e}(h:a=b):OO a c d e=OO b c d e:=h▸rfl
@[congr] theorem aJn{a b c d e f g}(h:a=b)(k:c=d):LH a c e f g=LH b d e f g:=h▸k▸rfl
@[congr] theorem aJo{a b c d e}(h:a=b):Nd a c d e=Nd b c d e:=h▸rfl
@[congr] theorem aJp{a b c d e f}(h:a=b):Nc a c d e f=Nc b c d e f:=h▸rfl
@[congr] theorem aJq{a b c d e}(h:a=b):Ng a c d e=Ng b c d e:=h▸rfl
@[congr] theorem aJr{a b c d e}(h:a=b):Nf a c d e=Nf b c d e:=h▸rfl
@[congr] theorem aJs{a b c d e f g i j}(h:a=b)(k:c=d):Jh a c e f g i j=Jh b d e f g i j:=h▸k▸rfl
@[congr] theorem aJt{a b c d e}(h:a=b):LI a c d e=LI b c d e:=h▸rfl
@[congr] theorem aJu{a b c d e}(h:a=b):OP a c d e=OP b c d e:=h▸rfl
@[congr] theorem aJv{a b c d e f}:Ah a b c d e f=Ah a b c d e f:=rfl
@[congr] theorem aJw{a b c d e f g i j}(h:d=e)(k:f=g):Ai a b c d f i j=Ai a b c e g i j:=h▸k▸rfl
@[congr] theorem aJx{a b c d e f g i j l}(h:c=d)(k:e=f)(H:g=i):HM a b c e g j l=HM a b d f i j l:=h▸k▸H▸rfl
@[congr] theorem aJy{a b c d e f g i}(h:g=i):Pg a b c d e f g=Pg a b c d e f i:=h▸rfl
@[congr] theorem aJz{a b c d}(h:c=d):QZ a b c=QZ a b d:=h▸rfl
@[congr] theorem aK0{a b c d e}(h:d=e):FV a b c d=FV a b c e:=h▸rfl
@[congr] theorem aK1{a b c d e f}(h:e=f):Nw a b c d e=Nw a b c d f:=h▸rfl
@[congr] theorem aK2{a b c d e f g i}(h:g=i):L8 a b c d e f g=L8 a b c d e f i:=h▸rfl
@[congr] theorem aK3{a b c}(h:b=c):Nv a b=Nv a c:=h▸rfl
@[congr] theorem aK4{a b c d e f g}(h:f=g):L7 a b c d e f=L7 a b c d e g:=h▸rfl
@[congr] theorem aK5{a b c d e}:FY a b c d e=FY a b c d e:=rfl
@[congr] theorem aK6{a b c d e f g i}(h:b=c)(k:d=e):Ph a b d f g i=Ph a c e f g i:=h▸k▸rfl
@[congr] theorem aK7{a b c d e f g i j}(h:a=b)(k:f=g)(H:i=j):Q2 a c d e f i=Q2 b c d e g j:=h▸k▸H▸rfl
@[congr] theorem aK8{a b c d e f g i j l m}(h:c=d)(k:i=j)(H:l=m):Q3 a b c e f g i l=Q3 a b d e f g j m:=h▸k▸H▸rfl
@[congr] theorem aK9{a b c d e f g i j}(h:a=b)(k:f=g)(H:i=j):Q4 a c d e f i=Q4 b c d e g j:=h▸k▸H▸rfl
@[congr] theorem aKa{a b c d e}:EM a b c d e=EM a b c d e:=rfl
@[congr] theorem aKb{a b c d e f g i}(h:g=i):YF a b c d e f g=YF a b c d e f i:=h▸rfl
@[congr] theorem aKc{a b c d e f}(h:e=f):W2 a b c d e=W2 a b c d f:=h▸rfl
@[congr] theorem aKd{a b c d e f}(h:e=f):KH a b c d e=KH a b c d f:=h▸rfl
@[congr] theorem aKe{a b c d e f g i}(h:c=d):Hb a b c e f g i=Hb a b d e f g i:=h▸rfl
@[congr] theorem aKf{a b c d e f g i j}(h:i=j):@Ma a b c d e f g i=@Ma a b c d e f g j:=h▸rfl
@[congr] theorem aKg{a b c}:AC a b c=AC a b c:=rfl
def mL:Ins->List O
 |.box _ x|.boxm _ x|.isnil _ _ _ x|.slc0 _ _ _ x|.rng _ x|.nxt _ x|.ent _ x|.cap _ x|.clr _ x _|.mksl _ _ _ _ _ x=>[x]
 |.stfrz x y _|.app _ _ _ _ x y|.cpy _ x y _ _|.appz _ _ _ _ x y _|.lookg _ x y _ _ _|.ment _ x y _ _ _ _=>[x,y]
 |.bsl _ _ _ ps|.bso _ _ _ ps|.calln _ _ _ _ ps=>ps
 |.mupdg x q v _|.ests x q v=>[x,q,v]
 |.slc3 _ x lo y z=>x::(lo.toList++[y,z])
 |i=>BQ i
def Q9(x:Nat):List Nat->List Nat
 |[]=>[x]
 |y::r=>if Nat.blt x y then x::y::r else if Nat.beq x y then y::r else y::Q9 x r
def Nz:List Nat->List Nat->List Nat
 |[],l=>l
 |x::r,l=>Nz r (Q9 x l)
def Ra(x:Nat):List Nat->List Nat
 |[]=>[]
 |y::r=>if Nat.beq x y then r else y::Ra x r
def TX(x:Nat):List Nat->Bool
 |[]=>false
 |y::r=>Nat.beq x y||TX x r
def Mc:List O->List Nat->List Nat
 |[],l=>l
 |.t n::r,l=>Mc r (Q9 n l)
 |_::r,l=>Mc r l
def Rb:List GI->List Nat->List Nat
 |[],l=>l
 |g::r,l=>Mc (mL g.ins) (Nz (Ir g) (match g.ins.dst with|some d=>Ra d (Rb r l)|none=>Rb r l))
def KK(k:Nat):List (Nat×List Nat)->List Nat
 |[]=>[]
 |p::r=>if Nat.beq p.1 k then p.2 else KK k r
def TY(f:List Nat->List Nat):Nat->List Nat->List Nat
 |0,l=>l
 |n+1,l=>TY f n (Nz (f l) l)
def Hc:IR->List (Nat×List Nat)->List Nat
 |.skip,K=>KK 0 K
 |.ret,K=>KK 1 K
 |.exit i,K=>KK (i+2) K
 |.reg gs,K=>Rb gs (KK 0 K)
 |.dreg _ gs _,K=>Rb gs (KK 0 K)
 |.cut a b,K=>Hc a ((0,Hc b K)::K)
 |.cond c a b,K=>Mc [c] (Nz (Hc a K) (Hc b K))
 |.block i c,K=>Hc c ((i+2,KK 0 K)::K)
 |.loop c,K=>TY (fun l=>Hc c ((0,l)::K)) 3 []
 |.rf _ og ps a b,K=>Mc [og] (Nz ((Hc a [(0,Hc b [])]).filter fun x=>!TX x ps) (K.foldr (fun p l=>Nz p.2 l) []))
def Rc:IR->Bool
 |.cond _ _ _=>true
 |.cut a b=>Rc a||Rc b
 |.block _ c=>Rc c
 |_=>false
def mM:Ins->List O
 |.call _ _ ps|.bsl _ _ _ ps|.bsn _ _ _ ps|.bso _ _ _ ps|.callo _ _ ps=>ps
 |.callv _ f ps=>f::ps
 |.build _ _ ps=>ps.map (·.2.2)
 |.ofb _ x|.app _ _ _ _ _ x=>[x]
 |.mupd _ q v _=>[q,v]
 |_=>[]
def mO(i:Ins)(w:List Nat):List Nat:=Mc (mM i) (match i.dst with
 |some d=>if TX d w then(match i with|.mov _ x=>Mc [x] (Ra d w)|_=>Ra d w)else w
 |none=>w)
def YG:List GI->List Nat
 |[]=>[]
 |g::r=>mO g.ins (YG r)
def Jz:IR->List (Nat×List Nat)->J
 |.skip,_=>.skip
 |.ret,_=>.ret
 |.exit i,_=>.exit i
 |.reg gs,_=>.rg gs
 |.dreg sn gs post,_=>.dr sn ((YG gs).map .t) gs post
 |.cut a b,K=>(if Rc a then J.ct else J.sq) (Hc b K) (Jz a ((0,Hc b K)::K)) (Jz b K)
 |.cond c a b,K=>.cond c (Jz a K) (Jz b K)
 |.block i c,K=>.block i (Jz c ((i+2,KK 0 K)::K))
 |.loop c,K=>.lp (Jz c ((0,TY (fun l=>Hc c ((0,l)::K)) 3 [])::K))
 |.rf n og ps a b,_=>.rf n og ps (Jz a [(0,Hc b [])]) (Jz b [])
structure FD where
 n:Nat
 a:List Nat
 b:List (Nat×Nat)
 l:List RV
 c:J
def mkF(P:Program)(GL:List (Nat×List I))(f:Func)(a:List Nat)(b:List (Nat×Nat))(h:List (Nat×List (List Nat))):Option FD:=
 match f.results.toList.mapM (Iv P),f.body.bind (comp P GL f.ntmps a false b h)with
 |some l,some ir=>some ⟨f.ntmps,a,b,l,Jz ir (let r:=l.foldr (fun x l=>Q9 (match x with|.tmp t=>t|.cell t _ _=>t) l) [];[(0,r),(1,r)])⟩
 |_,_=>none
end Go.Dl
end
section
namespace Go.As
open Go Go.Dl
variable{α:Type}
abbrev AT:=List UInt8
structure Fac where
 name:AT
 exp:Int
deriving DecidableEq,Inhabited
structure Val where
 kind:Int
 n:Int
 s:AT
deriving DecidableEq,Inhabited
structure Typ where
 kind:Int
 unit:List Fac
 of:AT
deriving DecidableEq,Inhabited
structure Win where
 kind:Int
 size:Int
deriving DecidableEq,Inhabited
inductive Xpr where
 |mk (kind:Int) (op name table:AT) (val:Val) (unit:List Fac) (param:Int) (win:Win) (args:List Xpr)
deriving Inhabited
namespace Xpr
def kind:Xpr->Int|.mk k _ _ _ _ _ _ _ _=>k
def op:Xpr->AT|.mk _ o _ _ _ _ _ _ _=>o
def name:Xpr->AT|.mk _ _ n _ _ _ _ _ _=>n
def table:Xpr->AT|.mk _ _ _ t _ _ _ _ _=>t
def val:Xpr->Val|.mk _ _ _ _ v _ _ _ _=>v
def unit:Xpr->List Fac|.mk _ _ _ _ _ u _ _ _=>u
def param:Xpr->Int|.mk _ _ _ _ _ _ p _ _=>p
def win:Xpr->Win|.mk _ _ _ _ _ _ _ w _=>w
def args:Xpr->List Xpr|.mk _ _ _ _ _ _ _ _ a=>a
end Xpr
structure Fld where
 name:AT
 typ:Typ
deriving Inhabited
structure Tbl where
 name:AT
 entity:AT
 fields:List Fld
 keep:Int
deriving Inhabited
structure Ftr where
 name:AT
 entity:AT
 typ:Typ
 body:Xpr
 version:Int
deriving Inhabited
structure Cat where
 tables:List Tbl
 features:List Ftr
 drafts:List Ftr
 past:List Ftr
deriving Inhabited
abbrev iI(n:Int):I:=.int .i64 n
def Aw(f:Fac):List I:=[.str f.name,.int .i64 f.exp]
def Bn(v:Val):List I:=[.int .i64 v.kind,.int .i64 v.n,.str v.s]
def Ar(t:Typ):List I:=[.int .i64 t.kind,.sl (t.unit.map Aw),.str t.of]
def Gx(w:Win):List I:=[.int .i64 w.kind,.int .i64 w.size]
mutual
def eE:Xpr->List I
 |.mk k o n t v u p w a=>[.int .i64 k,.str o,.str n,.str t,.int .i64 v.kind,.int .i64 v.n,.str v.s,.sl (u.map Aw),.int .i64 p,.int .i64 w.kind,.int .i64 w.size,.sl (eEs a)]
def eEs:List Xpr->List (List I)
 |[]=>[]
 |x::r=>eE x::eEs r
end
theorem Re:∀l,eEs l=l.map eE
 |[]=>by simp[eEs]
 |x::r=>by simp[eEs,Re r]
def Cc(f:Fld):List I:=[.str f.name,.int .i64 f.typ.kind,.sl (f.typ.unit.map Aw),.str f.typ.of]
def AR(t:Tbl):List I:=[.str t.name,.str t.entity,.sl (t.fields.map Cc),.int .i64 t.keep]
def Ag(f:Ftr):List I:=[.str f.name,.str f.entity]++Ar f.typ++eE f.body++[.int .i64 f.version]
def At(c:Cat):List I:=[.sl (c.tables.map AR),.sl (c.features.map Ag),.sl (c.drafts.map Ag),.sl (c.past.map Ag)]
theorem ETl:(∀f,(Aw f).length=2)/\(∀v,(Bn v).length=3)/\(∀t,(Ar t).length=3)/\(∀w,(Gx w).length=2)/\(∀x,(eE x).length=12)/\(∀f,(Cc f).length=4)/\(∀t,(AR t).length=4)/\(∀f,(Ag f).length=18)/\(∀c,(At c).length=4):=
 ⟨fun _=>rfl,fun _=>rfl,fun _=>rfl,fun _=>rfl,fun x=>by cases x;simp[eE],fun _=>rfl,fun _=>rfl,fun f=>by obtain⟨_,_,_,b,_⟩:=f;cases b;simp[Ag,Ar,eE],fun _=>rfl⟩
theorem ET:
  (∀f,pk false (Aw f) 0 1=.str f.name)/\(∀f,pk false (Aw f) 1 1=.int .i64 f.exp)/\(∀f,pk true (Aw f) 0 2=.agg (Aw f))/\
  (∀v,pk false (Bn v) 0 1=.int .i64 v.kind)/\(∀v,pk false (Bn v) 1 1=.int .i64 v.n)/\(∀v,pk false (Bn v) 2 1=.str v.s)/\(∀v,pk true (Bn v) 0 3=.agg (Bn v))/\
  (∀t,pk false (Ar t) 0 1=.int .i64 t.kind)/\(∀t,pk false (Ar t) 1 1=.sl (t.unit.map Aw))/\(∀t,pk false (Ar t) 2 1=.str t.of)/\(∀t,pk true (Ar t) 0 3=.agg (Ar t))/\
  (∀w,pk false (Gx w) 0 1=.int .i64 w.kind)/\(∀w,pk false (Gx w) 1 1=.int .i64 w.size)/\(∀w,pk true (Gx w) 0 2=.agg (Gx w))/\
  (∀x,pk false (eE x) 0 1=.int .i64 x.kind)/\(∀x,pk false (eE x) 1 1=.str x.op)/\(∀x,pk false (eE x) 2 1=.str x.name)/\(∀x,pk false (eE x) 3 1=.str x.table)/\(∀x,pk true (eE x) 4 3=.agg (Bn x.val))/\
  (∀x,pk false (eE x) 4 1=.int .i64 x.val.kind)/\(∀x,pk false (eE x) 5 1=.int .i64 x.val.n)/\(∀x,pk false (eE x) 6 1=.str x.val.s)/\(∀x,pk false (eE x) 7 1=.sl (x.unit.map Aw))/\(∀x,pk false (eE x) 8 1=.int .i64 x.param)/\
  (∀x,pk false (eE x) 9 1=.int .i64 x.win.kind)/\(∀x,pk false (eE x) 10 1=.int .i64 x.win.size)/\(∀x,pk true (eE x) 9 2=.agg (Gx x.win))/\(∀x,pk false (eE x) 11 1=.sl (x.args.map eE))/\(∀x,pk true (eE x) 0 12=.agg (eE x))/\
  (∀f,pk false (Cc f) 0 1=.str f.name)/\(∀f,pk true (Cc f) 1 3=.agg (Ar f.typ))/\(∀f,pk true (Cc f) 0 4=.agg (Cc f))/\
  (∀t,pk false (AR t) 0 1=.str t.name)/\(∀t,pk false (AR t) 1 1=.str t.entity)/\(∀t,pk false (AR t) 2 1=.sl (t.fields.map Cc))/\(∀t,pk false (AR t) 3 1=.int .i64 t.keep)/\(∀t,pk true (AR t) 0 4=.agg (AR t))/\
  (∀f,pk false (Ag f) 0 1=.str f.name)/\(∀f,pk false (Ag f) 1 1=.str f.entity)/\(∀f,pk true (Ag f) 2 3=.agg (Ar f.typ))/\(∀f,pk true (Ag f) 5 12=.agg (eE f.body))/\(∀f,pk false (Ag f) 17 1=.int .i64 f.version)/\(∀f,pk true (Ag f) 0 18=.agg (Ag f))/\
  (∀c,pk false (At c) 0 1=.sl (c.tables.map AR))/\(∀c,pk false (At c) 1 1=.sl (c.features.map Ag))/\(∀c,pk true (At c) 0 4=.agg (At c)):=by
 have hE:∀x:Xpr,eE x=[.int .i64 x.kind,.str x.op,.str x.name,.str x.table,.int .i64 x.val.kind,.int .i64 x.val.n,.str x.val.s,.sl (x.unit.map Aw),.int .i64 x.param,.int .i64 x.win.kind,.int .i64 x.win.size,.sl (x.args.map eE)]:=fun x=>by cases x;simp[eE,Re,Xpr.kind,Xpr.op,Xpr.name,Xpr.table,Xpr.val,Xpr.unit,Xpr.param,Xpr.win,Xpr.args]
 refine⟨?_,?_,?_,?_,?_,?_,?_,?_,?_,?_,?_,?_,?_,?_,?_,?_,?_,?_,?_,?_,?_,?_,?_,?_,?_,?_,?_,?_,?_,?_,?_,?_,?_,?_,?_,?_,?_,?_,?_,?_,?_,?_,?_,?_,?_,?_⟩<;>intro x<;>first|rfl|(simp only[Ag,hE];rfl)|(rw[hE];rfl)
theorem mP:(∀f,(Aw f).all I.one=true)/\(∀t,(Ar t).all I.one=true)/\(∀x,(eE x).all I.one=true)/\(∀f,(Cc f).all I.one=true)/\(∀t,(AR t).all I.one=true)/\(∀f,(Ag f).all I.one=true)/\(∀c,(At c).all I.one=true)/\(∀v,(Bn v).all I.one=true):=
 ⟨fun _=>rfl,fun _=>rfl,fun x=>by cases x;simp[eE,I.one],fun _=>rfl,fun _=>rfl,fun f=>by obtain⟨_,_,_,b,_⟩:=f;cases b;simp[Ag,Ar,eE,I.one],fun _=>rfl,fun _=>rfl⟩
theorem mQ[Inhabited α](f:α->List I)(l:List α)(n:Nat)(h:n<l.length):(l.map f).getD n []=f (l.getD n default):=by grind
theorem AS[Inhabited α]{l:List α}{n:Nat}(h:n<l.length):l.getD n default=l[n]:=by grind
theorem AA[Inhabited α]{l:List α}{n:Nat}(h:n<l.length):l.getD n default∈l:=by grind
theorem BH{x:Int}(h1:-9223372036854775808<=x)(h2:x<=9223372036854775807):IntKind.i64.wrap x=x:=by exact Go.IntWalk.i64_in x ⟨h1,h2⟩
theorem mR(i:Nat):((i+1:Nat):Int)=(i:Int)+1:=rfl
theorem BR{p:α->Bool}{l:List α}{d:α}{i:Nat}(h:(l.take i).all p=true)(hi:i<l.length)(k:p (l.getD i d)=true):(l.take (i+1)).all p=true:=by rw[List.take_succ_eq_append_getElem hi,List.all_append,h];grind
theorem TZ{p:α->Bool}{l:List α}{d:α}{i:Nat}(hi:i<l.length)(k:p (l.getD i d)=false):l.all p=false:=by grind
theorem EB:
  (∀k a b,DA .add (.int k a) (.int k b)=True)/\(∀k a b,DA .sub (.int k a) (.int k b)=True)/\(∀k a b,DA .mul (.int k a) (.int k b)=True)/\(∀k a b,DA .eql (.int k a) (.int k b)=True)/\(∀k a b,DA .neq (.int k a) (.int k b)=True)/\
  (∀k a b,DA .lss (.int k a) (.int k b)=True)/\(∀k a b,DA .leq (.int k a) (.int k b)=True)/\(∀k a b,DA .gtr (.int k a) (.int k b)=True)/\(∀k a b,DA .geq (.int k a) (.int k b)=True)/\(∀k a b,DA .quo (.int k a) (.int k b)=(b≠0))/\(∀k a b,DA .rem (.int k a) (.int k b)=(b≠0))/\
  (∀a b,DA .eql (.str a) (.str b)=True)/\(∀a b,DA .neq (.str a) (.str b)=True)/\(∀a b,DA .lss (.str a) (.str b)=True)/\(∀a b,DA .leq (.str a) (.str b)=True)/\(∀a b,DA .gtr (.str a) (.str b)=True)/\(∀a b,DA .geq (.str a) (.str b)=True)/\
  (∀a b,DA .add (.str a) (.str b)=(a.length+b.length<=9223372036854775807))/\
  (∀k k' a b,CZ .add (.int k a) (.int k' b)=.int k (k.wrap (a+b)))/\(∀k k' a b,CZ .sub (.int k a) (.int k' b)=.int k (k.wrap (a-b)))/\(∀k k' a b,CZ .mul (.int k a) (.int k' b)=.int k (k.wrap (a*b)))/\
  (∀k k' a b,CZ .quo (.int k a) (.int k' b)=.int k (k.wrap (a.tdiv b)))/\(∀k k' a b,CZ .rem (.int k a) (.int k' b)=.int k (a.tmod b))/\
  (∀k k' a b,CZ .eql (.int k a) (.int k' b)=.bool (decide (a=b)))/\(∀k k' a b,CZ .neq (.int k a) (.int k' b)=.bool (decide (a≠b)))/\(∀k k' a b,CZ .lss (.int k a) (.int k' b)=.bool (decide (a<b)))/\(∀k k' a b,CZ .leq (.int k a) (.int k' b)=.bool (decide (a<=b)))/\
  (∀k k' a b,CZ .gtr (.int k a) (.int k' b)=.bool (decide (b<a)))/\(∀k k' a b,CZ .geq (.int k a) (.int k' b)=.bool (decide (b<=a)))/\
  (∀a b,CZ .eql (.str a) (.str b)=.bool (decide (a=b)))/\(∀a b,CZ .neq (.str a) (.str b)=.bool (decide (a≠b)))/\(∀a b,CZ .lss (.str a) (.str b)=.bool (Op.bytesLess a b))/\(∀a b,CZ .leq (.str a) (.str b)=.bool (Op.bytesLess a b||decide (a=b)))/\
  (∀a b,CZ .gtr (.str a) (.str b)=.bool (!(Op.bytesLess a b||decide (a=b))))/\(∀a b,CZ .geq (.str a) (.str b)=.bool (!Op.bytesLess a b))/\(∀a b,CZ .add (.str a) (.str b)=.str (a++b)):=by
 have bs:∀a b:List UInt8,(a==b)=decide (a=b):=fun a b=>by grind
 have bi:∀a b:Int,(a==b)=decide (a=b):=fun a b=>by rfl
 refine⟨?_,?_,?_,?_,?_,?_,?_,?_,?_,?_,?_,?_,?_,?_,?_,?_,?_,?_,?_,?_,?_,?_,?_,?_,?_,?_,?_,?_,?_,?_,?_,?_,?_,?_,?_,?_⟩<;>intros<;>first|rfl|(simp only[DA];simp;done)|(simp only[CZ,bs];done)|(simp only[CZ,bne,bs,bi];simp)|(simp only[CZ];congr 1;simp[Bool.eq_iff_iff])
def YH(a b:Option Bool):Option Bool:=match a,b with
 |some a,some b=>some (a&&b)
 |_,_=>none
theorem VE:(eqL [] [] []=some true)/\(∀l ls x xs y ys,eqL (l::ls) (x::xs) (y::ys)=YH (gH l x y) (eqL ls xs ys))/\(∀a b,YH (some a) (some b)=some (a&&b))/\(∀a b,gH .s (.str a) (.str b)=some (a==b))/\(∀a b,gH .b (.bool a) (.bool b)=some (a==b))/\(∀k a b,gH (.i k) (.int k a) (.int k b)=some (a==b))/\
  (∀ls x,AB (.s::ls) (.str x)=AL (.s::ls) [.str x])/\(∀k ls k' x,AB (.i k::ls) (.int k' x)=AL (.i k::ls) [.int k' x])/\(∀ls cs,AB (.g::ls) (.agg cs)=AL ls cs)/\(AL [] []=true)/\(∀l ls x xs,AL (l::ls) (x::xs)=(Bp l x&&AL ls xs))/\(∀s,Bp .s (.str s)=true)/\(∀b,Bp .b (.bool b)=true)/\(∀k n,Bp (.i k) (.int k n)=true):=by
 and_intros<;>intros<;>first|rfl|(simp[gH];done)|(simp[Bp];done)
theorem HB:(∀(p:Prop) [Decidable p],(decide p=true)=p)/\(∀(p:Prop) [Decidable p],(decide p=false)=¬p)/\(∀a b:Int,(¬a<b)=(b<=a))/\(∀a b:Int,(¬a<=b)=(b<a))/\(∀{α:Type} (a b:α),(a≠b)=¬a=b)/\(∀(p:Prop) [Decidable p],(¬¬p)=p)/\
  (∀a b:Bool,((a||b)=true)=(a=true\/b=true))/\(∀a b:Bool,((a&&b)=true)=(a=true/\b=true))/\(∀a b:Bool,((a||b)=false)=(a=false/\b=false))/\(∀a b:Bool,((a&&b)=false)=(a=true->b=false))/\(∀a:Bool,((!a)=true)=(a=false))/\(∀a:Bool,((!a)=false)=(a=true)):=by
 refine⟨fun p _=>by simp,fun p _=>by simp,fun a b=>by simp,fun a b=>by simp,fun a b=>rfl,fun p _=>by simp[Decidable.not_not],?_,?_,?_,?_,?_,?_⟩<;>intros<;>simp
theorem mS:(∀l:List I,(l.map D.i).flatMap D.nms=[])/\(∀(l:List I) k,((l.map D.i).take k).flatMap D.nms=[])/\(∀(l:List I) k,((l.map D.i).drop k).flatMap D.nms=[])/\(∀(l:List I) j k,(((l.map D.i).drop j).take k).flatMap D.nms=[]):=by
 have h:∀l:List I,(l.map D.i).flatMap D.nms=[]:=fun l=>by rw[List.flatMap_eq_nil_iff];intro x hx;obtain⟨y,_,rfl⟩:=List.mem_map.1 hx;rfl
 exact⟨h,fun l k=>by rw[<-List.map_take];exact h _,fun l k=>by rw[<-List.map_drop];exact h _,fun l j k=>by rw[<-List.map_drop,<-List.map_take];exact h _⟩
theorem mT:(∀l:List I,BV (l.map D.i)=true)/\(∀(l:List I) k,BV ((l.map D.i).take k)=true)/\(∀(l:List I) k,BV ((l.map D.i).drop k)=true)/\(∀(l:List I) j k,BV (((l.map D.i).drop j).take k)=true):=by grind[BV,Ja]
attribute [go_sem] mS mT
attribute [go_sem] V0 V1 V2 V3 V4 V5 V6 V7 V8 V10 I9 V12 V13 V14 L9 V16 V17 V18 V19 V20 V21 V22 V23 V24 MQ V26 V27 List.cons_append List.nil_append mQ BH Int.natCast_nonneg mR Int.toNat_zero Nat.le_refl decide_true decide_false Bool.not_true Bool.not_false List.length_append ET ETl EB VE mP true_and and_true and_self and_false false_and eq_self Bool.and_true Bool.true_and Bool.false_or Bool.or_false Bool.or_true Bool.true_or Bool.and_false Bool.false_and List.length_map Int.toNat_natCast Bool.not_not
attribute [go_sem] dI Eg Ins.dst Aw Bn Ar Gx Cc AR At if_true if_false Bool.false_eq_true Option.some.injEq
end Go.As
end
section
namespace Go.Dl
open Go Go.RowKit
theorem V28:(∀(a b:Nat),(some a).getD b=a)/\(∀(b:Nat),(none:Option Nat).getD b=b)/\(∀b:Blk,(some b).isSome=true)/\(∀b:Blk,(some b).isNone=false)/\((none:Option Blk).isSome=false)/\((none:Option Blk).isNone=true)/\
  (∀p:Nat->Bool,List.filter p []=[])/\(∀(p:Nat->Bool) a l,List.filter p (a::l)=if p a=true then a::List.filter p l else List.filter p l)/\(∀x:Nat,(x==x)=true)/\(∀b:Bool,(b||true)=true):=by
 and_intros<;>intros<;>first|rfl|(simp;done)|(rw[List.filter_cons])
theorem mU{α β:Type}(f:α->β)(l:List α):List.take l.length (List.map f l)=List.map f l:=List.take_of_length_le (by simp)
attribute [go_sem] V28 mU
theorem Ez{rs:List RV}{given mv:List Nat}{R:D->List (Nat×Blk)->Prop}{st:St}(ks:List (Nat×Nat)){x:D}{s':List (Nat×Blk)}(hx:Iw st rs=some x)(hs:CG (ks.map (·.1)) st.sto=s')(h1:Pf given mv ks=true)(h2:(OL s' x.nms&&Qo s' s')=true)(h3:R (J8 (kf ks) x) (J5 (kf ks) s')):FY rs given mv R st:=by
 subst hs;refine⟨[],ks,?_⟩;show match Iw st rs with|some x=>_|none=>_
 rw[hx];rw[Bool.and_eq_true]at h2;exact⟨h1,h2,h3⟩
theorem mV:
  (∀f x,J8 f (.i x)=.i x)/\(∀f e k rs,MR f (.rows e k rs)=.rows e k rs)/\(∀f ls es,MR f (.map ls es)=.map ls es):=by
 and_intros<;>intros<;>first|rfl|(rename_i o m b r;simp[CG])
def YI:=cj @CG.eq_1 (cj @CG.eq_2 (cj @kf.eq_1 (cj @kf.eq_2 (cj @J8.eq_1 (cj @Qs.eq_2 (cj @Qs.eq_1 (cj @Qs.eq_4 (cj @J5.eq_1 (cj @J5.eq_2 (cj @MR.eq_1 @mV))))))))))
theorem Rf{rows:List (List I)}{neg:Bool}{d:Nat}{st:St}{K:St->Prop}(h1:rows=[]->∀b,K (st.put d (.i (.bool b))))(h2:rows≠[]->K (st.put d (.i (.bool (false !=neg))))):CN .sl neg (.i (.sl rows)) d st K:=by
 cases rows with
 |nil=>exact h1 rfl
 |cons a r=>exact h2 (by simp)
def YJ(a:Option Cp)(b:Option (List Cp)):Option (List Cp):=match a,b with|some x,some xs=>some (x::xs)|_,_=>none
def NA(GL:List (Nat×List I))(st:St):List O->Option (List Cp)
 |[]=>some []
 |o::r=>YJ (CF (A8 GL st o)) (NA GL st r)
theorem mW(GL:List (Nat×List I))(st:St)(l:List O):(l.mapM fun o=>CF (A8 GL st o))=NA GL st l:=by
 induction l with
 |nil=>rfl
 |cons o r ih=>rw[List.mapM_cons,ih];simp only[NA];cases CF (A8 GL st o)<;>cases NA GL st r<;>rfl
def V30:=cj @NA.eq_1 @NA.eq_2
theorem V31:(∀x xs,YJ (some x) (some xs)=some (x::xs))/\(∀p:Cp->Bool,[].all p=true)/\(∀(p:Cp->Bool) x l,(x::l).all p=(p x&&l.all p)):=⟨fun _ _=>rfl,fun _=>rfl,fun _ _ _=>rfl⟩
attribute [go_sem] mW V30 V31
def Al{κ α:Type}[DecidableEq κ]:List (κ×α)->κ->Option α
 |[],_=>none
 |p::r,k=>if p.1=k then some p.2 else Al r k
def AO{κ α:Type}[DecidableEq κ]:List (κ×α)->κ->α->List (κ×α)
 |[],k,v=>[(k,v)]
 |p::r,k,v=>if p.1=k then(k,v)::r else p::AO r k v
section
variable {κ α:Type}[DecidableEq κ]{eK:κ->I}{f:α->I}
def Md(eK:κ->I):Prop:=∀a b,(Bc (eK a)==Bc (eK b))=decide (a=b)
theorem YK(h:Md eK)(l:List (κ×α))(k:κ):GZ (l.map fun p=>(eK p.1,f p.2)) (eK k)=(Al l k).map f:=by
 induction l with
 |nil=>rfl
 |cons p r ih=>simp only[GZ,List.map_cons,List.find?_cons,h p.1 k,Al]at ih⊢;grind
theorem NB(h:Md eK)(l:List (κ×α))(k:κ)(v:α):Ee (l.map fun p=>(eK p.1,f p.2)) (eK k) (f v)=(AO l k v).map fun p=>(eK p.1,f p.2):=by
 induction l with
 |nil=>rfl
 |cons p r ih=>simp only[Ee,List.map_cons,h p.1 k,AO];grind
theorem NC(h:Md eK)(l:List (κ×α))(k:κ)(z:α):C0 (l.map fun p=>(eK p.1,f p.2)) (eK k) (f z) false=f ((Al l k).getD z):=by simp_all[C0,YK,Al]
theorem Rg(l:List (κ×α))(k q:κ)(v:α):Al (AO l k v) q=if q=k then some v else Al l q:=by
 induction l with
 |nil=>simp only[AO,Al];by_cases e:k=q<;>simp[e,eq_comm]
 |cons p r ih=>
  simp only[AO];by_cases e:p.1=k
  ·simp only[e,if_true,Al];grind
  ·simp only[e,if_false,Al,ih];grind
theorem KL(l:List (κ×α))(k:κ)(v:α):(AO l k v).map (·.1)=if k∈l.map (·.1)then l.map (·.1)else l.map (·.1)++[k]:=by
 induction l with
 |nil=>simp[AO]
 |cons p r ih=>simp only[AO];grind
theorem mX(l:List (κ×α))(k:κ)(v:α):∀p∈AO l k v,p=(k,v)\/p∈l:=by
 induction l with
 |nil=>intro p hp;simp[AO]at hp;exact .inl hp
 |cons q r ih=>grind[AO]
theorem aget_mem{l:List (κ×α)}{k:κ}{v:α}(h:Al l k=some v):(k,v)∈l:=by
 induction l with
 |nil=>cases h
 |cons p r ih=>grind[Al]
theorem aget_some{l:List (κ×α)}{k:κ}(h:k∈l.map (·.1)):∃v,Al l k=some v:=by
 induction l with
 |nil=>simp at h
 |cons p r ih=>
  simp only[Al];by_cases e:p.1=k
  ·exact⟨_,by rw[if_pos e]⟩
  ·simp only[List.map_cons,List.mem_cons]at h;obtain⟨v,hv⟩:=ih (h.resolve_left (Ne.symm e));exact⟨v,by rw[if_neg e];exact hv⟩
theorem aput_len(l:List (κ×α))(k:κ)(v:α):(AO l k v).length<=l.length+1:=by have:=congrArg List.length (KL l k v);grind
end
theorem JA:Md I.str:=fun a b=>by grind[Bc,cellsI,DL]
end Go.Dl
end
