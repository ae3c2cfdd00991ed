/-Lemmas.-/
import Derived.Test.YtojgbkiejjingaaGreatDoorV8
set_option linter.all false
section
namespace Go.Dl
open Go Go.RowKit
variable{st:St}{K:St->Prop}{os:List O}{f:FuncId}{d:Option Nat}{b:Bool}
theorem cj{A B:Prop}(a:A)(b:B):A/\B:=⟨a,b⟩
section
variable (P:Program)(GL:List (Nat×List I))
def evR(r:List GI)(K:St->Prop)(st:St):Prop:=ev P GL r st K
def Hy(sn:List Nat)(r:List GI)(K:St->Prop)(st:St):Prop:=evD P GL sn r st K
def evF(i:Ins)(r:List GI)(K:St->Prop)(l:List Nat)(st:St):Prop:=step P GL i (frzNs l st) (evR P GL r K)
def kP(s:Nat)(v:D)(w:Bool)(i:Ins)(r:List GI)(st:St)(K:St->Prop):Prop:=fE v w (step P GL i (frzNs (AA GL i st) st) (evR P GL r K)) (evR P GL r K (Bv i st))
def kQ(s:Nat)(v:D)(w:Bool)(sn:List Nat)(i:Ins)(r:List GI)(st:St)(K:St->Prop):Prop:=fE v w (Ad P GL sn i st (Hy P GL sn r K)) (Hy P GL sn r K (Bv i st))
def stN(GL:List (Nat×List I))(st:St)(v:O):D->List Nat
 |.ref (.lel _ _ _ _)=>oN GL st [v]
 |_=>[]
def Ts(b:Option Blk)(nm:Nat)(st:St):St:=match b with
 |some b=>if Fr b=true then st.frz nm b else st
 |none=>st
def cpR(b:Blk)(r:Ref):Cp:=match r,b with
 |.loc _ off,.cells cs=>.i (.elt (cs.map H1) off)
 |.sl _ k lo hi,.rows _ k' rs=>if k=k'/\hi<=rs.length then .i (.sl ((rs.take hi).drop lo))else .any
 |.lel _ k row off,.rows _ k' rs=>if k=k'/\row<rs.length then .i (.elt (rs.getD row []) off)else .any
 |.mp _,.map _ es=>.i (.map es)
 |.mp _,.gmap _ _ es=>if(es.all fun e=>JH e.2.2)=true then .i (.map (es.map fun e=>(e.1,H1 e.2.2)))else .any
 |_,_=>.any
def Tt(GL:List (Nat×List I))(st:St)(y:O)(b:Option Blk):List Nat:=match b with
 |some (.arr _ _ _)=>[]
 |_=>oN GL st [y]
def Tu(GL:List (Nat×List I))(st:St)(y:O)(x:D):List Nat:=match x with
 |.ref (.sl nm _ _ _)=>Tt GL st y (Aa st.sto nm)
 |_=>oN GL st [y]
def Tv(fr:Option Blk)(e' k':Nat)(rs:List (Option (List I)))(nm k0 lo hi d e k b:Nat)(ys:Option (List (List I)))(st:St)(K:St->Prop):Prop:=match ys with
 |some ys=>J1 fr e' k' rs nm k0 lo hi d e k b ys st K
 |none=>False
def Ai(f:FuncId)(xs:List I)(st:St)(d:Option Nat)(K:St->Prop):Prop:=∃y,Is1 P GL f (xs.map .i) y/\K (putO st d (.i y))
def Hz(fv:D)(xs:List I)(st:St)(d:Option Nat)(K:St->Prop):Prop:=match fv with
 |.i (.fn f first caps)=>Ai P GL f (first++xs++caps) st d K
 |_=>False
def MQ(f:FuncId)(os:List O)(d:Nat)(st:St)(K:St->Prop):Prop:=P4 P GL f (os.map (AZ GL st)) d st K
def Qy(post:List Nat)(K:Exit->St->Prop)(s:St):Prop:=K .normal (frzNs (Ls post s) s)
def dI(st:St):Ins->List Nat
 |.call _ _ args=>oN GL st args
 |.callv _ fo args=>oN GL st (fo::args)
 |.callo _ _ args=>oN GL st args
 |.build _ _ ps=>oN GL st (ps.map (·.2.2))
 |.bsn _ _ _ ps=>oN GL st ps
 |.mupd _ q v _=>oN GL st [q,v]
 |.load _ x k true=>ldN st k (AZ GL st x)
 |.ofb _ x=>oN GL st [x]
 |_=>[]
def dN(gs:List GI)(st:St):List Nat:=gs.flatMap fun g=>dI GL st g.ins
def OQ(sn:List Nat)(gs:List GI)(post:List Nat)(K:Exit->St->Prop)(st:St):Prop:=evD P GL sn gs st (Qy post K)
def Qz(b:Option Blk)(d e k:Nat)(st:St)(K:St->Prop):Prop:=step.nilsE' b d e k st K
def QA(rows:List (List I))(d:Nat)(st:St)(K:St->Prop)(a c:Nat):Prop:=K (st.put d (.i (.sl ((rows.take c).drop a))))
def QB(nm k lo d:Nat)(st:St)(K:St->Prop)(a c:Nat):Prop:=K (st.put d (.ref (.sl nm k (lo+a) (lo+c))))
def QC(s:List UInt8)(d:Nat)(st:St)(K:St->Prop)(a c:Nat):Prop:=K (st.put d (.i (.str ((s.take c).drop a))))
def rsM(st:St)(r:RV):List Nat:=(Aj st.env (match r with|.tmp t=>t|.cell t _ _=>t)).nms
def OR(sn:List Nat)(x v:D)(k:Nat)(st:St)(K:St->Prop):Prop:=(match x with|.ref (.loc nm _)=>nm∈sn|_=>False)/\Ho x v k st K
def fd(y:I)(r:D)(s:List (Nat×Blk)):Prop:=r=.i y/\s=[]
def MR(R:D->List (Nat×Blk)->Prop)(x:Option D):Prop:=match x with
 |some (.i y)=>R (.i y) []
 |_=>False
def QD(b:Option Blk)(off k:Nat)(ag:Bool):Option D:=match b with
 |some (.cells cs)=>if Nat.ble (off+k) cs.length&&(!ag||BG ((cs.drop off).take k))then some (fy ag cs off k)else none
 |_=>none
def rvC(v:D)(k:Nat)(ag:Bool)(st:St):Option D:=match v with
 |.i (.elt cs off)=>if Nat.ble (off+k) cs.length then some (.i (pk ag cs off k))else none
 |.ref (.loc nm off)=>QD (Aa st.sto nm) off k ag
 |_=>none
def rvT(v:D):Option D:=match v with|.any=>none|x=>some x
def XR(a:Option D)(b:Option (List D)):Option (List D):=match a,b with|some x,some xs=>some (x::xs)|_,_=>none
def XS(x:Option (List D)):Option D:=match x with|some xs=>MP xs|none=>none
def rsN(rs:List RV)(st:St):List Nat:=Hn st.sto (rs.flatMap (rsM st))
end
section
variable {P:Program}{GL:List (Nat×List I)}
theorem kR{s:Nat}{w:Bool}{i:Ins}{r:List GI}(h:b=true->kP P GL s (.i (.bool true)) w i r st K)(k:b=false->kP P GL s (.i (.bool false)) w i r st K):kP P GL s (.i (.bool b)) w i r st K:=by
 cases b
 all_goals grind
theorem kS{s:Nat}{w:Bool}{sn:List Nat}{i:Ins}{r:List GI}(h:b=true->kQ P GL s (.i (.bool true)) w sn i r st K)(k:b=false->kQ P GL s (.i (.bool false)) w sn i r st K):kQ P GL s (.i (.bool b)) w sn i r st K:=by
 cases b
 all_goals grind
theorem kT{d:Nat}{A C:D}(h:b=true->Eb (.i (.bool true)) d A C st K)(k:b=false->Eb (.i (.bool false)) d A C st K):Eb (.i (.bool b)) d A C st K:=by
 cases b
 all_goals grind
theorem XT(nm:Nat)(b:Blk)(r:Ref):VP nm b r=if r.nm=nm then cpR b r else .ref r:=by rfl
theorem Kj(hI:(os.all fun o=>JH (AZ GL st o))=true):os.map (AZ GL st)=(os.map fun o=>H1 (AZ GL st o)).map D.i:=by
 rw[Ze4];refine Ze0 fun o ho=>?_
 rw[Zcu]at hI;have:=hI o ho;simp only[Function.comp];cases hv:AZ GL st o<;>simp[hv,JH]at this;rfl
theorem OS(hI:(os.all fun o=>JH (AZ GL (frzNs (oN GL st os) st) o))=true)(h:Ai P GL f (os.map fun o=>H1 (AZ GL (frzNs (oN GL st os) st) o)) (frzNs (oN GL st os) st) d K):Ah P GL (EX GL f os) st d K:=by
 obtain⟨y,h1,h2⟩:=h;rw[<-Kj hI]at h1;rw[Zcu]at hI;refine⟨oN GL st os,.inl ⟨[],[],_,h1,trivial,rfl,?_,rfl,?_⟩⟩
 ·rw[Zcu];intro v hv;obtain⟨o,ho,rfl⟩:=Zfh.1 hv;have:=hI o ho;generalize AZ GL _ o=v at this⊢;cases v<;>simp[JH]at this;rfl
 ·rintro r s ⟨rfl,rfl⟩;exact⟨fun nm hm=>by simp[A7]at hm,fun nm hm=>by simp at hm,h2⟩
theorem If{fo:O}(hI:(os.all fun o=>JH (AZ GL (frzNs (oN GL st (fo::os)) st) o))=true)
  (h:Hz P GL (AZ GL (frzNs (oN GL st (fo::os)) st) fo) (os.map fun o=>H1 (AZ GL (frzNs (oN GL st (fo::os)) st) o)) (frzNs (oN GL st (fo::os)) st) d K):Ah P GL (DF GL fo os) st d K:=by
 generalize hl:oN GL st (fo::os)=l at hI h;unfold Hz at h;split at h
 ·rename_i f first caps e
  obtain⟨y,h1,h2⟩:=h;rw[Zez,Zez,<-Kj hI]at h1;rw[Zcu]at hI;refine⟨l,?_⟩;simp only[DF,EA,e];refine .inl ⟨[],[],_,h1,trivial,rfl,?_,rfl,?_⟩
  ·rw[Zcu];intro v hv;simp only[Ze9,Zfh]at hv;rcases hv with(⟨z,_,rfl⟩|⟨o,ho,rfl⟩)|⟨z,_,rfl⟩
   ·rfl
   ·have:=hI o ho;generalize AZ GL _ o=v at this⊢;cases v<;>simp[JH]at this;rfl
   ·rfl
  ·rintro r s ⟨rfl,rfl⟩;exact⟨fun nm hm=>by simp[A7]at hm,fun nm hm=>by simp at hm,h2⟩
 ·exact h.elim
theorem Ab{xs:List I}{y:I}(h:Is1 P GL f (xs.map .i) y)(k:K (putO st d (.i y))):Ai P GL f xs st d K:=⟨y,h,k⟩
theorem HA{rs:List RV}{given mv:List Nat}{R:D->List (Nat×Blk)->Prop}(h:MR R (Ie (frzNs (rsN rs st) st) rs)):Fy rs given mv R st:=by
 refine⟨rsN rs st,[],?_⟩;unfold MR at h;have hs:∀s:List (Nat×Blk),Cn [] s=[]:=fun s=>by induction s with|nil=>rfl|cons x r ih=>obtain⟨k,b⟩:=x;simp[Cn,ih]
 split at h
 ·rename_i y e;rw[e];refine⟨rfl,?_,?_⟩
  ·rw[Ze5,hs];exact⟨rfl,rfl⟩
  ·rw[Ze5,hs];exact h
 ·exact h.elim
def Lv(F:Nat->St)(I:Nat->Prop)(n i:Nat)(K:Exit->St->Prop):Exit->St->Prop
 |.normal,s=>i<n/\I (i+1)/\Sub (F (i+1)) s
 |e,s=>K e s
def MS(φ:Prop)(S:St)(K:Exit->St->Prop):Exit->St->Prop
 |.normal,s=>φ/\Sub S s
 |e,s=>K e s
def V0:=cj @St.put.eq_1 (cj @St.bind.eq_1 (cj @St.setB.eq_1 (cj @St.frz.eq_1 (cj @Aj.eq_1 (cj @Aj.eq_2 (cj @Aj.eq_3 (cj @Cv.eq_1 (cj @Cv.eq_2 (cj @Aa.eq_1 (cj @Aa.eq_2 (cj @B7.eq_1 (cj @B7.eq_2 (cj @B6.eq_1 (cj @B6.eq_2 (cj @Sk.eq_1 (cj @Sk.eq_2 (cj @putO.eq_1 @putO.eq_2)))))))))))))))))
theorem V1':
  (∀n b x,PZ n b (.i x)=.i x)/\(∀n b,PZ n b .any=.any)/\(∀n b r,PZ n b (.ref r)=(if r.nm=n then cpR b r else .ref r).toD)/\(∀n b x,fc n b (.i x)=.i x)/\(∀n b,fc n b .any=.any)/\(∀n b r,fc n b (.ref r)=if r.nm=n then cpR b r else .ref r)/\(∀n b e k rs,eW n b (.rows e k rs)=.rows e k rs)/\(∀n b ls es,eW n b (.map ls es)=.map ls es)/\(∀n b c r,eW n b (.iter c r)=.iter c r)/\(∀n b e k rs,eW n b (.arr e k rs)=.arr e k rs)/\(∀c r x,cpR (.iter c r) x=.any):=by
 and_intros<;>intros<;>first|rfl|(simp only[PZ,fc,XT];done)|(rename_i x;cases x<;>rfl)
def V1:=cj @PZ.eq_2 (cj @Cp.toD.eq_2 (cj @Cp.toD.eq_1 (cj @Cp.toD.eq_3 (cj @eW.eq_1 (cj @eW.eq_3 (cj @eW.eq_2 (cj @PZ.eq_3 (cj @cpR.eq_5 (cj @Ref.nm.eq_1 (cj @Ref.nm.eq_2 (cj @Ref.nm.eq_3 (cj @Ref.nm.eq_4 (cj @Ref.nm.eq_5 (cj @cpR.eq_1 (cj @cpR.eq_2 (cj @cpR.eq_3 (cj @cpR.eq_4 @V1')))))))))))))))))
def V2:=cj @AZ.eq_1 (cj @AZ.eq_2 (cj @AZ.eq_3 @AZ.eq_4))
theorem V3' (r:List GI)(K:St->Prop):
  (∀i st,ev P GL (⟨none,i⟩::r) st K=evF P GL i r K (AA GL i st) st)/\(∀s w i st,ev P GL (⟨some (s,w),i⟩::r) st K=kP P GL s (Aj st.env s) w i r st K)/\(∀i st,evF P GL i r K [] st=step P GL i st (evR P GL r K))/\(∀i nm l st,evF P GL i r K (nm::l) st=evF P GL i r K l (st.frzN nm))/\(∀s i st,kP P GL s (.i (.bool true)) true i r st K=evF P GL i r K (AA GL i st) st)/\(∀s i st,kP P GL s (.i (.bool false)) true i r st K=evR P GL r K (Bv i st))/\(∀s i st,kP P GL s (.i (.bool true)) false i r st K=evR P GL r K (Bv i st))/\(∀s i st,kP P GL s (.i (.bool false)) false i r st K=evF P GL i r K (AA GL i st) st)/\(∀s w i st,kP P GL s (.i .undef) w i r st K=evR P GL r K (Bv i st)):=by
 and_intros<;>intros<;>first|rfl|(simp[kP,fE,br,evF];done)
def V3:=cj @evR.eq_1 @V3'
theorem V4' (st:St):
  (∀d x,AA GL (.mov d x) st=[])/\(∀d c a b,AA GL (.pick d c a b) st=[])/\(∀d x,AA GL (.boxm d x) st=[])/\(∀d zs,AA GL (.alloc d zs) st=[])/\(∀d x k,AA GL (.load d x k false) st=[])/\(∀x v k,AA GL (.store x v k) st=stN GL st v (AZ GL st x))/\(∀d x o,AA GL (.fa d x o) st=[])/\(∀d x o k ag,AA GL (.fld d x o k ag) st=[])/\(∀d s i k,AA GL (.ia d s i k) st=[])/\(∀d s i,AA GL (.idx d s i) st=[])/\(∀d x i k len ag,AA GL (.aidx d x i k len ag) st=[])/\(∀d op x y,AA GL (.bin d op x y) st=[])/\(∀d op x y,AA GL (.sh d op x y) st=[])/\(∀d n ls x y,AA GL (.eqs d n ls x y) st=[])/\(∀d n x y,AA GL (.eqb d n x y) st=[])/\(∀d q n x,AA GL (.isnil d q n x) st=[])/\(∀d op x,AA GL (.un d op x) st=[])/\(∀d x,AA GL (.lens d x) st=[])/\(∀d x,AA GL (.lenl d x) st=[])/\(∀d x i,AA GL (.ext d x i) st=[])/\(∀d f a b,AA GL (.mkfn d f a b) st=[])/\(∀d f a,AA GL (.call d f a) st=[])/\(∀d f a,AA GL (.callv d f a) st=[])/\(∀d x y,AA GL (.max d x y) st=[])/\(∀d x y,AA GL (.min d x y) st=[])/\(∀d k x,AA GL (.conv d k x) st=[])/\(∀d e k b x y,AA GL (.app d e k b x y) st=Tu GL st y (AZ GL st x))/\(∀y x,Tu GL st y (.i x)=oN GL st [y])/\(∀y e k rs,Tt GL st y (some (.rows e k rs))=oN GL st [y])/\(∀d x lo hi k,AA GL (.slc d x lo hi k) st=[])/\(∀d x lo hi,AA GL (.sslc d x lo hi) st=[])/\(∀d x q z ok ls,AA GL (.lookup d x q z ok ls) st=[])/\(∀d x,AA GL (.lenm d x) st=[])/\(∀d x,AA GL (.nxt d x) st=[])/\(∀d x,AA GL (.ent d x) st=[])/\(∀d x i k l,AA GL (.iaa d x i k l) st=[])/\(∀d x,AA GL (.bytes d x) st=[])/\(∀d,AA GL (.no d) st=[])/\(∀v x,stN GL st v (.i x)=[])/\(∀v n o,stN GL st v (.ref (.loc n o))=[]):=by
 and_intros<;>intros<;>first|rfl|(simp only[AA,stN];split<;>first|rfl|simp_all)|(simp[Hn,Zdp];done)
def V4:=cj @AA.eq_13 (cj @AA.eq_9 (cj @AA.eq_5 (cj @AA.eq_12 (cj @AA.eq_2 (cj @AA.eq_3 (cj @AA.eq_4 (cj @JU.eq_1 (cj @AA.eq_1 (cj @Tu.eq_1 (cj @Tt.eq_1 (cj @AA.eq_10 (cj @AA.eq_14 (cj @AA.eq_7 (cj @AA.eq_8 (cj @AA.eq_11 (cj @stN.eq_1 (cj @oN.eq_1 @V4')))))))))))))))))
theorem V5' (st:St)(K:St->Prop):
  (∀d e k,step P GL (.bsl d e k []) st K=Qz (Aa st.sto d) d e k st K)/\(∀d e k p ps,step P GL (.bsl d e k (p::ps)) st K=(((p::ps).all fun o=>JH (AZ GL st o)&&((cellsI (H1 (AZ GL st o))).length==k)&&(cellsI (H1 (AZ GL st o))).all I.one)=true/\K (st.put d (.i (.sl ((p::ps).map fun o=>cellsI (H1 (AZ GL st o))))))))/\(∀d e k p ps,step P GL (.bsn d e k (p::ps)) st K=(((p::ps).all fun o=>JH (AZ GL st o)&&((cellsI (H1 (AZ GL st o))).length==k)&&(cellsI (H1 (AZ GL st o))).all I.one)=true/\K (st.put d (.i (.sl ((p::ps).map fun o=>cellsI (H1 (AZ GL st o))))))))/\(∀d e k p ps,step P GL (.bso d e k (p::ps)) st K=(((p::ps).all fun o=>JH (AZ GL st o)&&((cellsI (H1 (AZ GL st o))).length==k)&&(cellsI (H1 (AZ GL st o))).all I.one)=true/\JU (Aa st.sto d) d e k ((p::ps).map fun o=>cellsI (H1 (AZ GL st o))) st K)):=by
 and_intros<;>intros<;>rfl
def V5:=cj @step.eq_1 (cj @step.eq_2 (cj @step.eq_3 (cj @step.eq_4 (cj @step.eq_5 (cj @step.eq_6 (cj @step.eq_7 (cj @step.eq_8 (cj @step.eq_9 (cj @step.eq_10 (cj @step.eq_11 (cj @step.eq_12 (cj @step.eq_13 (cj @step.eq_14 (cj @step.eq_15 (cj @step.eq_16 (cj @step.eq_17 (cj @step.eq_18 (cj @step.eq_19 (cj @step.eq_20 (cj @step.eq_21 (cj @step.eq_22 (cj @step.eq_23 (cj @step.eq_28 (cj @step.eq_29 (cj @step.eq_30 (cj @step.eq_31 (cj @step.eq_36 (cj @step.eq_37 (cj @step.eq_38 (cj @step.eq_39 (cj @step.eq_40 (cj @step.eq_41 (cj @step.eq_42 (cj @step.eq_43 (cj @step.eq_44 (cj @step.eq_45 (cj @step.eq_46 (cj @step.eq_47 (cj @step.eq_48 (cj @step.eq_49 (cj @step.eq_50 (cj @step.eq_51 (cj @step.eq_52 (cj @step.eq_53 @V5'))))))))))))))))))))))))))))))))))))))))))))
theorem V6' (st:St)(K:St->Prop)(d:Nat):
  (∀A C,Eb (.i (.bool true)) d A C st K=K (st.put d A))/\(∀A C,Eb (.i (.bool false)) d A C st K=K (st.put d C))/\(∀e k,Qz none d e k st K=K ((st.bind d (.rows e k [])).put d (.ref (.sl d k 0 0))))/\(∀cs off k,JQ (some (.cells cs)) d off k true st K=(off+k<=cs.length/\BG ((cs.drop off).take k)=true/\K (st.put d (fy true cs off k))))/\(∀cs off k,JQ (some (.cells cs)) d off k false st K=(off+k<=cs.length/\K (st.put d (fy false cs off k))))/\(∀r,KX (some r) true d st K=K (st.put d (.i (.bool (!r)))))/\(∀r,KX (some r) false d st K=K (st.put d (.i (.bool r))))/\(∀a b,JS true (.i (.bool a)) (.i (.bool b)) d st K=K (st.put d (.i (.bool (!(a==b))))))/\(∀a b,JS false (.i (.bool a)) (.i (.bool b)) d st K=K (st.put d (.i (.bool (a==b)))))/\(∀k a q b,GD true (.i (.int k a)) (.i (.int q b)) d st K=K (st.put d (.i (.int k (if b>a then b else a)))))/\(∀k a q b,GD false (.i (.int k a)) (.i (.int q b)) d st K=K (st.put d (.i (.int k (if b<a then b else a)))))/\(∀fr σ e' k' rs nm k0 lo hi rows e k b,J2 (some (.rows e' k' rs)) fr σ nm k0 lo hi (.i (.sl rows)) d e k b st K=JT (some (.rows e' k' rs)) nm k0 lo hi d e k b rows st K)/\(∀fr σ e' k' rs nm k0 lo hi y e k b,J2 (some (.arr e' k' rs)) fr σ nm k0 lo hi y d e k b st K=Tv fr e' k' rs nm k0 lo hi d e k b (GF σ y) st K)/\(∀rows l h k,K4 (.i (.sl rows)) l h d k st K=((∀r∈rows,r.length=k)/\EC (Wd l) (eY rows.length h) rows.length (QA rows d st K)))/\(∀e k' rs nm k0 lo hi k l h,Mv (some (.rows e k' rs)) nm k0 lo hi d k l h st K=(k'=k/\k0=k/\EC (Wd l) (eY ((hi-lo:Nat):Int) h) (rs.length-lo) (QB nm k lo d st K)))/\(∀s l h,K5 (.i (.str s)) l h d st K=EC (Wd l) (eY s.length h) s.length (QC s d st K))/\(∀neg,Cw .pt neg (.i .nilp) d st K=K (st.put d (.i (.bool (true !=neg)))))/\(∀neg,Cw .fn neg (.i .nilfn) d st K=K (st.put d (.i (.bool (true !=neg)))))/\(∀neg,Cw .mp neg (.i .nilmap) d st K=K (st.put d (.i (.bool (true !=neg)))))/\(∀neg c o,Cw .pt neg (.i (.elt c o)) d st K=K (st.put d (.i (.bool (false !=neg)))))/\(∀neg f a b,Cw .fn neg (.i (.fn f a b)) d st K=K (st.put d (.i (.bool (false !=neg)))))/\(∀neg f a b,Cw .fn neg (.fn f a b) d st K=K (st.put d (.i (.bool (false !=neg)))))/\(∀neg es,Cw .mp neg (.i (.map es)) d st K=K (st.put d (.i (.bool (false !=neg)))))/\(∀neg n o,Cw .pt neg (.ref (.loc n o)) d st K=K (st.put d (.i (.bool (false !=neg)))))/\(∀neg n k r o,Cw .pt neg (.ref (.lel n k r o)) d st K=K (st.put d (.i (.bool (false !=neg)))))/\(∀neg n,Cw .mp neg (.ref (.mp n)) d st K=K (st.put d (.i (.bool (false !=neg))))):=by
 and_intros<;>intros<;>first|rfl|(simp only[Eb,br];simp;done)|(simp[JQ];done)|(simp only[unE];done)
def V6:=cj @KT.eq_1 (cj @KT.eq_2 (cj @Mp.eq_1 (cj @GC.eq_1 (cj @IQ.eq_1 (cj @IQ.eq_2 (cj @IQ.eq_3 (cj @Mq.eq_1 (cj @faE.eq_1 (cj @faE.eq_2 (cj @faE.eq_3 (cj @P5.eq_1 (cj @iaE.eq_1 (cj @iaE.eq_2 (cj @iaR.eq_1 (cj @KU.eq_1 (cj @KV.eq_1 (cj @KW.eq_1 (cj @shE.eq_1 (cj @KY.eq_1 (cj @unE.eq_1 (cj @unE.eq_2 (cj @KZ.eq_1 (cj @IS.eq_1 (cj @IS.eq_2 (cj @IT.eq_1 (cj @K0.eq_1 (cj @K3.eq_1 (cj @I2.eq_1 (cj @JT.eq_1 (cj @K4.eq_2 (cj @QA.eq_1 (cj @QB.eq_1 (cj @QC.eq_1 (cj @Mw.eq_1 (cj @K6.eq_1 (cj @EY.eq_1 (cj @EY.eq_2 (cj @EY.eq_3 (cj @Hp.eq_1 (cj @Mx.eq_1 (cj @Mx.eq_2 (cj @Mx.eq_3 (cj @Ol.eq_1 (cj @K7.eq_1 (cj @K7.eq_2 (cj @Mz.eq_1 (cj @MB.eq_1 (cj @MA.eq_1 (cj @IV.eq_1 (cj @IV.eq_2 (cj @IV.eq_3 (cj @K8.eq_1 (cj @P6.eq_1 (cj @Om.eq_1 @V6'))))))))))))))))))))))))))))))))))))))))))))))))))))))
def V20:=cj @Ho.eq_1 (cj @Ho.eq_2 (cj @JR.eq_1 (cj @Ms.eq_1 (cj @Mu.eq_1 (cj @Mt.eq_1 (cj @H4.eq_1 @IU.eq_1))))))
theorem V7:
  (∀(α β:Type) (f:α->β) a l,(a::l).map f=f a::l.map f)/\(∀(α β:Type) (f:α->β),([]:List α).map f=[])/\(∀(α:Type) (l:List α),l.drop 0=l)/\(∀(α:Type) (a:α) l n,(a::l).drop (n+1)=l.drop n)/\(∀(α:Type) (l:List α),l.take 0=[])/\
  (∀(α:Type) (a:α) l n,(a::l).take (n+1)=a::l.take n)/\(∀(α:Type) (a d:α) l,(a::l).getD 0 d=a)/\(∀(α:Type) (a d:α) l n,(a::l).getD (n+1) d=l.getD n d)/\(∀(α:Type) (a:α) l,(a::l).length=l.length+1)/\(∀(α:Type),([]:List α).length=0)/\
  (∀(α:Type) (p:α->Bool) a l,(a::l).all p=(p a&&l.all p))/\(∀(α:Type) (p:α->Bool),([]:List α).all p=true)/\(∀(α:Type) (a:α) l m,(a::l)++m=a::(l++m))/\(∀(α:Type) (m:List α),[]++m=m)/\(∀(α:Type) (m:List α),m++[]=m)/\
  (∀(α β:Type) (f:α->List β),([]:List α).flatMap f=[])/\(∀(α β:Type) (f:α->List β) a l,(a::l).flatMap f=f a++l.flatMap f)/\(∀(α:Type) (n:Nat),([]:List α).drop n=[])/\(∀(α:Type) (n:Nat),([]:List α).take n=[])/\(∀(α β:Type) (f:α->β),Option.map f none=none)/\(∀(α β:Type) (f:α->β) a,Option.map f (some a)=some (f a))/\
  (∀l:List I,(l.map D.i).flatMap D.nms=[])/\(∀l:List I,BG (l.map D.i)=true)/\(∀x l,BG (.i x::l)=BG l)/\(BG []=true)/\(∀r l,BG (.ref r::l)=false)/\(∀l,BG (.any::l)=false)/\(∀l:List I,(l.map D.i).all Ez=l.all I.one)/\(∀l:List I,(l.map D.i).map H1=l)/\(∀nm c (l:List I),(l.map D.i).map (PZ nm c)=l.map D.i):=by
 and_intros<;>intros<;>first|rfl|(simp;done)|(simp[BG,JH];done)|(simp only[Zcv];rfl)|skip
 ·rename_i l;induction l with|nil=>rfl|cons a l ih=>simp[D.nms]
 ·rename_i l;induction l with|nil=>rfl|cons a l ih=>simpa[H1]using ih
 ·rename_i nm c l;simp[PZ]
theorem V8':
  (∀b,cellsI (.bool b)=[.bool b])/\(∀k n,cellsI (.int k n)=[.int k n])/\(∀s,cellsI (.str s)=[.str s])/\(∀r,cellsI (.sl r)=[.sl r])/\(∀f a b,cellsI (.fn f a b)=[.fn f a b])/\(∀c o,cellsI (.elt c o)=[.elt c o])/\cellsI .nilfn=[.nilfn]/\cellsI .nilp=[.nilp]/\cellsI .nilmap=[.nilmap]/\(∀es,cellsI (.map es)=[.map es])/\(∀b,A9 (.i (.bool b))=[.i (.bool b)])/\(∀k n,A9 (.i (.int k n))=[.i (.int k n)])/\(∀s,A9 (.i (.str s))=[.i (.str s)])/\(∀r,A9 (.i (.sl r))=[.i (.sl r)])/\(∀f a b,A9 (.i (.fn f a b))=[.i (.fn f a b)])/\(∀c o,A9 (.i (.elt c o))=[.i (.elt c o)])/\A9 (.i .nilfn)=[.i .nilfn]/\A9 (.i .nilp)=[.i .nilp]/\A9 (.i .nilmap)=[.i .nilmap]/\(∀es,A9 (.i (.map es))=[.i (.map es)])/\(∀r,A9 (.ref r)=[.ref r])/\(∀f a b,A9 (.fn f a b)=[.fn f a b])/\(∀r,JH (.ref r)=false)/\(JH .any=false)/\(∀f a b,JH (.fn f a b)=false)/\(∀r,Ez (.ref r)=true)/\(∀f a b,Ez (.fn f a b)=true)/\(∀b,I.one (.bool b)=true)/\(∀k n,I.one (.int k n)=true)/\(∀s,I.one (.str s)=true)/\(∀r,I.one (.sl r)=true)/\(∀f a b,I.one (.fn f a b)=true)/\(∀c o,I.one (.elt c o)=true)/\I.one .nilfn=true/\I.one .nilp=true/\I.one .nilmap=true/\(∀es,I.one (.map es)=true)/\(∀c cs off k,pk true (c::cs) off k=.agg (((c::cs).drop off).take k))/\(∀c cs off k,pk false (c::cs) off k=(c::cs).getD off .undef)/\(∀c cs off k,fy true (c::cs) off k=.i (.agg ((((c::cs).drop off).take k).map H1)))/\(∀c cs off k,fy false (c::cs) off k=(c::cs).getD off .any)/\(∀l off k,fy true (l.map D.i) off k=.i (pk true l off k))/\(∀(l:List I) off k,BG (((l.map D.i).drop off).take k)=true)/\(∀r,iCp (.ref r)=false)/\(iCp .any=false):=by
 have hu:∀l:List I,(l.map D.i).map H1=l:=fun l=>by induction l with|nil=>rfl|cons a l ih=>simp_all[H1]
 have ha:∀l:List I,BG (l.map D.i)=true:=fun l=>by simp[BG,JH]
 and_intros<;>intros<;>first|rfl|(simp only[fy,pk,Zad,<-Ze2,<-Ze7,hu];done)|(rw[<-Ze2,<-Ze7];exact ha _)
theorem kU:(∀(cs:List I) off vs,setL cs off vs=cs.take off++vs++cs.drop (off+vs.length))/\(∀(cs:List D) off vs,setL cs off vs=cs.take off++vs++cs.drop (off+vs.length)):=⟨fun _ _ _=>rfl,fun _ _ _=>rfl⟩
def V8:=cj @cellsI.eq_1 (cj @A9.eq_1 (cj @H1.eq_1 (cj @JH.eq_1 (cj @Ez.eq_2 (cj @Hm.eq_1 (cj @Hm.eq_2 (cj kU ((cj @Cm.eq_2 (cj @Cm.eq_3 (cj @Cm.eq_1 (cj @fnD.eq_1 (cj @iCp.eq_1 (cj @unC.eq_1 @V8'))))))))))))))
theorem kV:
  (∀x y,fd y (.i x) []=(x=y))/\(∀st rs,Ie st rs=XS (Jb st rs))/\(MP []=some (.i (.tup [])))/\(∀x y l,MP (x::y::l)=if BG (x::y::l)then some (.i (.tup ((x::y::l).map H1)))else none)/\(∀st r rs,Jb st (r::rs)=XR (rvD st r) (Jb st rs))/\(∀st t,rvD st (.tmp t)=rvT (Aj st.env t))/\(∀st t k ag,rvD st (.cell t k ag)=rvC (Aj st.env t) k ag st)/\(∀x,rvT (.i x)=some (.i x))/\(∀r,rvT (.ref r)=some (.ref r))/\(∀f a b,rvT (.fn f a b)=some (.fn f a b))/\(∀cs off k,QD (some (.cells cs)) off k true=if Nat.ble (off+k) cs.length&&BG ((cs.drop off).take k)then some (fy true cs off k)else none)/\(∀cs off k,QD (some (.cells cs)) off k false=if Nat.ble (off+k) cs.length then some (fy false cs off k)else none):=by
 and_intros<;>intros<;>first|rfl|(simp[fd];done)|(simp[QD];done)|(simp only[rsN];congr 1;congr 1;funext r;cases r<;>rfl)
def V10:=cj @MR.eq_1 (cj @XS.eq_1 (cj @MP.eq_1 (cj @Jb.eq_1 (cj @XR.eq_1 (cj @rvC.eq_1 (cj @rvC.eq_2 (cj @rsN.eq_1 (cj @rsM.eq_1 (cj @rsM.eq_2 @kV)))))))))
theorem kW:
  (∀S,Oe S []=true)/\(∀S m l,Oe S (m::l)=((Aa S m).isSome&&Oe S l))/\(∀e k rs,Blk.nms (.rows e k rs)=[])/\(∀l es,Blk.nms (.map l es)=[])/\(∀c r,Blk.nms (.iter c r)=[]):=by
 and_intros<;>intros<;>rfl
def H0:=cj @Sub.eq_1 (cj @Oj.eq_1 (cj @Oj.eq_2 (cj @Be.eq_1 (cj @Be.eq_2 (cj @clE.eq_1 (cj @clE.eq_2 (cj @PW.eq_1 (cj @PW.eq_2 (cj @Blk.nms.eq_1 @kW)))))))))
theorem V12(st:St):(∀i,Bv i st=putO st i.dst (.i .undef)):=fun i=>by rfl
theorem kX (sn:List Nat)(r:List GI)(K:St->Prop):
  (∀i st,evD P GL sn (⟨none,i⟩::r) st K=Ad P GL sn i st (Hy P GL sn r K))/\(∀s w i st,evD P GL sn (⟨some (s,w),i⟩::r) st K=kQ P GL s (Aj st.env s) w sn i r st K)/\(∀s i st,kQ P GL s (.i (.bool true)) true sn i r st K=Ad P GL sn i st (Hy P GL sn r K))/\(∀s i st,kQ P GL s (.i (.bool false)) true sn i r st K=Hy P GL sn r K (Bv i st))/\(∀s i st,kQ P GL s (.i (.bool true)) false sn i r st K=Hy P GL sn r K (Bv i st))/\(∀s i st,kQ P GL s (.i (.bool false)) false sn i r st K=Ad P GL sn i st (Hy P GL sn r K))/\(∀s w i st,kQ P GL s (.i .undef) w sn i r st K=Hy P GL sn r K (Bv i st)):=by
 and_intros<;>intros<;>first|rfl|(simp[kQ,fE,br];done)|(simp[Du,D.nms];done)|(simp;done)
def V13:=cj @Hy.eq_1 @kX
theorem V14(sn:List Nat)(st:St)(K:St->Prop):
  (∀d x,Ad P GL sn (.mov d x) st K=K (st.put d (AZ GL st x)))/\(∀d c a b,Ad P GL sn (.pick d c a b) st K=Eb (AZ GL st c) d (AZ GL st a) (AZ GL st b) st K)/\(∀d zs,Ad P GL sn (.alloc d zs) st K=GC (Aa st.sto d) d (zs.map .i) st K)/\
  (∀d x k ag,Ad P GL sn (.load d x k ag) st K=(Du sn (AZ GL st x)/\IQ (AZ GL st x) d k ag st K))/\(∀x v k,Ad P GL sn (.store x v k) st K=OR sn (AZ GL st x) (AZ GL st v) k st K)/\
  (∀d x o,Ad P GL sn (.fa d x o) st K=faE (AZ GL st x) d o st K)/\(∀d x o k ag,Ad P GL sn (.fld d x o k ag) st K=P5 (AZ GL st x) d o k ag st K)/\(∀d s i k,Ad P GL sn (.ia d s i k) st K=((Du sn (AZ GL st s)/\Du sn (AZ GL st i))/\iaE (AZ GL st s) (AZ GL st i) d k st K))/\
  (∀d s i,Ad P GL sn (.idx d s i) st K=KU (AZ GL st s) (AZ GL st i) d st K)/\(∀d x i k len ag,Ad P GL sn (.aidx d x i k len ag) st K=KV (AZ GL st x) (AZ GL st i) d k len ag st K)/\(∀d op x y,Ad P GL sn (.bin d op x y) st K=KW op (AZ GL st x) (AZ GL st y) d st K)/\
  (∀d op x y,Ad P GL sn (.sh d op x y) st K=shE op (AZ GL st x) (AZ GL st y) d st K)/\(∀d n ls x y,Ad P GL sn (.eqs d n ls x y) st K=KY n ls (AZ GL st x) (AZ GL st y) d st K)/\(∀d n x y,Ad P GL sn (.eqb d n x y) st K=JS n (AZ GL st x) (AZ GL st y) d st K)/\
  (∀d op x,Ad P GL sn (.un d op x) st K=unE op (AZ GL st x) d st K)/\(∀d x,Ad P GL sn (.lens d x) st K=KZ (AZ GL st x) d st K)/\(∀d x,Ad P GL sn (.lenl d x) st K=IS (AZ GL st x) d st K)/\(∀d x i,Ad P GL sn (.ext d x i) st K=IT (AZ GL st x) i d st K)/\
  (∀d e k p ps,Ad P GL sn (.bsn d e k (p::ps)) st K=(((p::ps).all fun o=>JH (AZ GL st o)&&((cellsI (H1 (AZ GL st o))).length==k)&&(cellsI (H1 (AZ GL st o))).all I.one)=true/\K (st.put d (.i (.sl ((p::ps).map fun o=>cellsI (H1 (AZ GL st o))))))))/\
  (∀d zs ps,Ad P GL sn (.build d zs ps) st K=((ps.all fun p=>JH (AZ GL st p.2.2)&&((cellsI (H1 (AZ GL st p.2.2))).length==p.2.1))=true/\K (st.put d (.i (.agg (Hm zs (ps.map fun p=>(p.1,cellsI (H1 (AZ GL st p.2.2))))))))))/\
  (∀d f a b,Ad P GL sn (.mkfn d f a b) st K=K0 f (a.mapM fun o=>Cm (AZ GL st o)) (b.mapM fun o=>Cm (AZ GL st o)) d st K)/\(∀d f args,Ad P GL sn (.call d f args) st K=((args.all fun o=>JH (AZ GL st o))=true/\Ai P GL f (args.map fun o=>H1 (AZ GL st o)) st d K))/\(∀d f args,Ad P GL sn (.callv d f args) st K=((args.all fun o=>JH (AZ GL st o))=true/\Hz P GL (AZ GL st f) (args.map fun o=>H1 (AZ GL st o)) st d K))/\
  (∀d x y,Ad P GL sn (.max d x y) st K=GD true (AZ GL st x) (AZ GL st y) d st K)/\(∀d x y,Ad P GL sn (.min d x y) st K=GD false (AZ GL st x) (AZ GL st y) d st K)/\(∀d k x,Ad P GL sn (.conv d k x) st K=K3 k (AZ GL st x) d st K)/\
  (∀d x lo hi,Ad P GL sn (.sslc d x lo hi) st K=K5 (AZ GL st x) (lo.map (AZ GL st)) (hi.map (AZ GL st)) d st K)/\(∀d x q z ok ls,Ad P GL sn (.lookup d x q z ok ls) st K=EY (AZ GL st x) (AZ GL st q) z ok ls d st K)/\
  (∀x q v ls,Ad P GL sn (.mupd x q v ls) st K=H4 (AZ GL st x) (AZ GL st q) (AZ GL st v) ls st K)/\(∀d x,Ad P GL sn (.lenm d x) st K=Mx (AZ GL st x) d st K)/\(∀d x i k l,Ad P GL sn (.iaa d x i k l) st K=IV (AZ GL st x) (AZ GL st i) d k l st K)/\(∀d x,Ad P GL sn (.bytes d x) st K=K8 (AZ GL st x) d st K)/\(∀d x,Ad P GL sn (.ofb d x) st K=P6 (AZ GL st x) d st K):=by
 have hc:∀d f args,Ad P GL sn (.call d f args) st K=((args.all fun o=>JH (AZ GL st o))=true/\Ai P GL f (args.map fun o=>H1 (AZ GL st o)) st d K):=fun d f args=>by simp only[Ad];refine propext ⟨fun⟨h,y,h1,h2⟩=>⟨h,y,by rw[<-Kj h];exact h1,h2⟩,fun⟨h,y,h1,h2⟩=>⟨h,y,by rw[Kj h];exact h1,h2⟩⟩
 have hv:∀d f args,Ad P GL sn (.callv d f args) st K=((args.all fun o=>JH (AZ GL st o))=true/\Hz P GL (AZ GL st f) (args.map fun o=>H1 (AZ GL st o)) st d K):=fun d f args=>by
  simp only[Ad,Hz];refine propext ⟨fun⟨h0,h,hh⟩=>⟨h,?_⟩,fun⟨h,hh⟩=>?_⟩
  ·cases hf:AZ GL st f with
   |i x=>
    rw[hf]at hh;cases x<;>simp only[EA]at hh
    case fn g a b=>
     obtain⟨y,h1,h2⟩:=hh;exact⟨y,by rw[Zez,Zez,<-Kj h];exact h1,h2⟩
   |_=>rw[hf]at h0;simp[JH]at h0
  ·cases hf:AZ GL st f with
   |i x=>
    rw[hf]at hh;cases x<;>simp only[]at hh
    case fn g a b=>
     obtain⟨y,h1,h2⟩:=hh;refine⟨rfl,h,?_⟩;simp only[EA];exact⟨y,by rw[Zez,Zez,<-Kj h]at h1;exact h1,h2⟩
   |_=>rw[hf]at hh;exact hh.elim
 and_intros<;>intros<;>first|exact hc _ _ _|exact hv _ _ _|rfl|(simp only[Ad,BH,Option.isSome,Zav,step];done)|(simp[];done)|(simp only[Ad,BH,Option.isSome,Zav,step];rfl)
theorem kY:
  (∀e s nm,St.frzN ⟨e,s⟩ nm=Ts (Aa s nm) nm ⟨e,s⟩)/\(∀e k rs,Fr (.rows e k rs)=true)/\(∀ls es,Fr (.map ls es)=true)/\(∀c rs,Fr (.iter c rs)=true)/\(∀s,Hn s []=[])/\(∀s nm l,Hn s (nm::l)=inM (Aa s nm)++nm::Hn s l)/\(∀st k x,ldN st k (.i x)=[])/\(∀st k,ldN st k .any=[])/\(∀st k nm kk row off,ldN st k (.ref (.lel nm kk row off))=[])/\(inM none=[])/\(∀e k rs,inM (some (.rows e k rs))=[])/\(∀ls es,inM (some (.map ls es))=[])/\(∀c r,inM (some (.iter c r))=[])/\(∀x,D.nms (.i x)=[])/\(D.nms .any=[])/\(∀x,Cp.nms (.i x)=[])/\(Cp.nms .any=[])/\(∀s,Ls [] s=[])/\(∀t l s,Ls (t::l) s=(Aj s.env t).nms++Ls l s)/\(∀s x,Du s (.i x)=True)/\(∀s,Du s .any=True)/\(∀s r,Du s (.ref r)=(s.contains r.nm=false))/\(∀(n:Nat),([]:List Nat).contains n=false)/\(∀(n m:Nat) l,(m::l).contains n=(n==m||l.contains n))/\(∀sn st K nm o v k,OR sn (.ref (.loc nm o)) v k st K=(sn.contains nm=true/\Ho (.ref (.loc nm o)) v k st K))/\(∀a b,Nat.ble a b=decide (a<=b))/\(∀a b,Nat.blt a b=decide (a<b)):=by
 and_intros<;>intros<;>first|rfl|(simp[Hn,Zdp];done)|(simp[Du,D.nms];done)|(simp[OR];done)|(rw[Zb2];simp)|(simp;done)
def JJ:=cj @Ts.eq_1 (cj @Ts.eq_2 (cj @frzNs.eq_1 (cj @frzNs.eq_2 (cj @Fr.eq_1 (cj @ldN.eq_1 (cj @P7.eq_1 (cj @inM.eq_1 (cj @D.nms.eq_1 (cj @D.nms.eq_2 (cj @Cp.nms.eq_1 (cj @EC.eq_1 (cj @Wd.eq_1 (cj @Wd.eq_2 (cj @eY.eq_1 (cj @eY.eq_2 (cj @Qy.eq_1 @kY))))))))))))))))
theorem kZ (K:Exit->St->Prop)(st:St):
  (∀id,E3 id K .normal st=K .normal st)/\(∀id,E3 id K .ret st=K .ret st)/\(∀F I n i id,Lv F I n i K (.exit id) st=K (.exit id) st)/\(∀F I n i,Lv F I n i K .ret st=K .ret st)/\(∀φ S id,MS φ S K (.exit id) st=K (.exit id) st)/\(∀φ S,MS φ S K .ret st=K .ret st):=by
 and_intros<;>intros<;>rfl
def V16:=cj @E3.eq_1 (cj @Lv.eq_1 (cj @MS.eq_1 @kZ))
def V17:=cj @Lu.eq_1 @Lu.eq_2
def V21:=@Hz.eq_1
def V18:=cj @OQ.eq_1 (cj @ev.eq_1 @evD.eq_1)
theorem V19(st:St):(dN GL [] st=[])/\(∀g i r,dN GL (⟨g,i⟩::r) st=dI GL st i++dN GL r st):=⟨rfl,fun _ _ _=>rfl⟩
theorem XU{args:List I}{y:I}
  (h:∀(M:Mem) (w:World) (vs:Array Value),Ak M args vs.toList->∃v,Rep M y v/\(callFunc f vs).run P w=.ok (.value v) w)(hfy:Nat.blt f 1000000000=true:=by first|rfl|assumption):MC P GL f (args.map D.i) [] [] (fd y):=by
 intro M μ w vs h1 h2 h3;have hr:Ak M args vs.toList:=⟨by simpa using h3.1,fun j a b=>by have:=h3.2 j (by simpa using a) b;rw[Zee]at this;exact this⟩;obtain⟨v,hv,hc⟩:=h M w vs hr;exact .inr (.inr (.inl ⟨hfy,v,w,hc,.i y,[],M,μ,⟨rfl,rfl⟩,h1,AJ hv,MExt.refl _ _,Keeps.refl _ _,fun _ _ _=>rfl⟩))
theorem lg{args:List I}{y:I}(ku:Ck P f=true)
  (h:∀(M:Mem) (w:World) (vs:Array Value),M.Sub w->H2 GL M->Ak M args vs.toList->∃v,Rep M y v/\Calls P f vs w fun e w'=>e=.returned v/\w'=w):MC P GL f (args.map D.i) [] [] (fd y):=by
 intro M μ w vs h1 h2 h3;have hr:Ak M args vs.toList:=⟨by simpa using h3.1,fun j a b=>by have:=h3.2 j (by simpa using a) b;rw[Zee]at this;exact this⟩;obtain⟨v,hv,hc⟩:=h M w vs h1.sub h2 hr;refine .inl ⟨ku,hc.mono ?_⟩;rintro e w' ⟨rfl,rfl⟩;exact⟨v,rfl,.i y,[],M,μ,⟨rfl,rfl⟩,h1,AJ hv,MExt.refl _ _,Keeps.refl _ _,fun _ _ _=>rfl⟩
def nmO(GL:List (Nat×List I))(st:St):List O->List Nat
 |[]=>[]
 |o::r=>(AZ GL st o).nms++nmO GL st r
theorem XV(st:St)(os:List O):(os.flatMap fun o=>(AZ GL st o).nms)=nmO GL st os:=by
 induction os with
 |nil=>rfl
 |cons o r ih=>simp only[Zdp,nmO,ih]
@[go_sem] theorem V47(sn:List Nat)(st:St)(K:St->Prop):(∀d e k b x y,Ad P GL sn (.app d e k b x y) st K=(Eh ((AZ GL st x).nms++(AZ GL st y).nms) st (DY sn)/\step P GL (.app d e k b x y) st K))/\(∀d e k,Ad P GL sn (.bsl d e k []) st K=(Eh [] st (DY sn)/\step P GL (.bsl d e k []) st K))/\(∀d e k p ps,Ad P GL sn (.bsl d e k (p::ps)) st K=(Eh (nmO GL st (p::ps)) st (DY sn)/\step P GL (.bsl d e k (p::ps)) st K))/\
  (∀d x q z ls e k,Ad P GL sn (.ment d x q z ls e k) st K=(Eh ((AZ GL st x).nms++(AZ GL st q).nms) st (DY sn)/\step P GL (.ment d x q z ls e k) st K))/\
  (∀d x k,Ad P GL sn (.slc d x none none k) st K=(Du sn (AZ GL st x)/\step P GL (.slc d x none none k) st K))/\(∀d x l k,Ad P GL sn (.slc d x (some l) none k) st K=((Du sn (AZ GL st x)/\Du sn (AZ GL st l))/\step P GL (.slc d x (some l) none k) st K))/\
  (∀d x h k,Ad P GL sn (.slc d x none (some h) k) st K=((Du sn (AZ GL st x)/\Du sn (AZ GL st h))/\step P GL (.slc d x none (some h) k) st K))/\(∀d x l h k,Ad P GL sn (.slc d x (some l) (some h) k) st K=((Du sn (AZ GL st x)/\Du sn (AZ GL st l)/\Du sn (AZ GL st h))/\step P GL (.slc d x (some l) (some h) k) st K)):=by
 refine⟨fun d e k b x y=>?_,fun _ _ _=>rfl,fun d e k p ps=>?_,fun d x q z ls e k=>?_,fun d x k=>?_,fun d x l k=>?_,fun d x h k=>?_,fun d x l h k=>?_⟩
 ·simp[Ad,Hu,eR,CH,Zdp]
 ·have e:eR GL (.bsl d e k (p::ps)) st=nmO GL st (p::ps):=XV _ _;simp only[Ad,Hu,e]
 ·simp[Ad,Hu,eR,CH,Zdp]
 all_goals simp[Ad,BB]
theorem lh (sn:List Nat)(st:St)(K:St->Prop):
  (∀d f args,step P GL (.callo d f args) st K=MQ P GL f args d st K)/\(∀d f args,AA GL (.callo d f args) st=[])/\(∀d f args,Ad P GL sn (.callo d f args) st K=(Eh (nmO GL st args) st (DY sn)/\MQ P GL f args d st K)):=by
 refine⟨fun _ _ _=>rfl,fun _ _ _=>rfl,fun d f args=>?_⟩;have e:eR GL (.callo d f args) st=nmO GL st args:=XV _ _;simp only[Ad,Hu,e];rfl
@[go_sem] def V51:=cj @nmO.eq_1 (cj @nmO.eq_2 @lh)
@[go_sem] theorem V52(sn:List Nat)(st:St)(K:St->Prop):(∀d f args,Ad P GL sn (.callf d f args) st K=(Eh (oN GL st args) st (DY sn)/\Ed P GL (EX GL f args) args d st K))/\(∀d f args,Ad P GL sn (.callvf d f args) st K=(Eh (oN GL st (f::args)) st (DY sn)/\Ed P GL (DF GL f args) (f::args) d st K)):=
 ⟨fun _ _ _=>rfl,fun _ _ _=>rfl⟩
theorem li(hI:(os.all fun o=>JH (AZ GL (frzNs (oN GL st os) st) o))=true)(h:Ai P GL f (os.map fun o=>H1 (AZ GL (frzNs (oN GL st os) st) o)) (frzNs (oN GL st os) st) d K):Ed P GL (EX GL f os) os d st K:=by obtain⟨y,h1,h2⟩:=h;rw[<-Kj hI]at h1;exact⟨hI,y,h1,h2⟩
theorem lj{fo:O}(hI:((fo::os).all fun o=>JH (AZ GL (frzNs (oN GL st (fo::os)) st) o))=true)
  (h:Hz P GL (AZ GL (frzNs (oN GL st (fo::os)) st) fo) (os.map fun o=>H1 (AZ GL (frzNs (oN GL st (fo::os)) st) o)) (frzNs (oN GL st (fo::os)) st) d K):Ed P GL (DF GL fo os) (fo::os) d st K:=by
 unfold Ed;generalize frzNs (oN GL st (fo::os)) st=s1 at hI h;unfold Hz at h;split at h
 ·rename_i f first caps e
  obtain⟨y,h1,h2⟩:=h;have hI2:(os.all fun o=>JH (AZ GL s1 o))=true:=by grind
  rw[Zez,Zez,<-Kj hI2]at h1;simp only[J4,DF,EA,e];exact⟨hI,y,h1,h2⟩
 ·exact h.elim
@[congr] theorem aFh{P:Program}{GL:List (Nat×List I)}{get:St->Option (FuncId×List D)}:@Ed P GL get os d st K=@Ed P GL get os d st K:=rfl
theorem QE{d:Nat}{ds:List D}{R:D->List (Nat×Blk)->Prop}(h:MC P GL f ds [] [] R)(wy:os.map (AZ GL st)=ds)(hI:(ds.all JH)=true)
  (k:∀r sto',R r sto'->((A7 d sto').map (·.1)).all (fun nm=>(Aa st.sto nm).isNone&&Nat.blt nm 5000)=true/\K ((⟨st.env,A7 d sto'++st.sto⟩:St).put d (CW d r))):MQ P GL f os d st K:=by
 subst wy;refine⟨hI,R,h,fun r s hr=>?_⟩;obtain⟨k1,k2⟩:=k r s hr;rw[Zcu]at k1;refine⟨fun nm hm=>?_,k2⟩;have:=k1 nm hm;rw[Zbz]at this;exact⟨by simpa using this.1,by simpa using this.2⟩
@[congr] theorem aFi{P:Program}{GL:List (Nat×List I)}{d:Nat}:@MQ P GL f os d st K=@MQ P GL f os d st K:=rfl
@[go_sem] def V48:=cj @Eh.eq_1 (cj @Eh.eq_2 (cj @Lr.eq_1 @Lr.eq_2))
@[go_sem] def V50:=cj @Lq.eq_1 @Lq.eq_2
@[go_sem] theorem V49:(DY []=[])/\(∀q r,DY (q::r)=if 1000000<=q then(q-1000000)::DY r else DY r):=⟨rfl,fun q r=>by
 simp only[DY,Zdj,Za0];show _=if ML<=q then(q-ML)::_ else _
 split<;>simp⟩
end
@[go_sem] def V59:=@K6.eq_2
@[go_sem] def V45:=@ovN.eq_1
@[go_sem] def V46:=@ovN.eq_2
end Go.Dl
end
section
namespace Go.Dl
open Go Go.RowKit
variable{K:St->Prop}{r:List GI}{ins:Ins}{E:List GI->St->(St->Prop)->Prop}
def GR(s:Nat)(w:Bool):List GI->Option (List GI×O×Nat×List GI)
 |[]=>none
 |⟨none,.pick d (.t q) x y⟩::r=>if q=s then(if w then(match y with|.c (.bool false)=>some ([],x,d,r)|_=>none)else match x with|.c (.bool true)=>some ([],y,d,r)|_=>none)else none
 |g::r=>match GR s w r with
  |some (b,o,d,r')=>some (g::b,o,d,r')
  |none=>none
def HC:Ins->Bool
 |.call (some _) _ _=>true
 |.callv (some _) _ _=>true
 |i=>(BH i).isSome
def E5(s:Nat)(w:Bool):List Nat->List GI->Bool
 |_,[]=>true
 |ds,g::r=>(match g.gd with|some (q,u)=>(q==s&&u==w)||ds.contains q|none=>false)&&HC g.ins&&(match g.ins.dst with|some d=>d !=s&&E5 s w (d::ds) r|none=>false)
def MT(s:Nat)(w:Bool)(g:GI):GI:=match g.gd with|some (q,u)=>if q=s/\u=w then⟨none,g.ins⟩else g|none=>g
def De(s:Nat)(w:Bool)(l:List GI):List GI:=l.map (MT s w)
def Co(l:List GI):List Nat:=l.filterMap fun g=>g.ins.dst
def CR(f:Nat->D):Nat->List Nat->St->St
 |_,[],st=>st
 |k,d::ds,st=>CR f (k+1) ds (st.put d (f k))
def scV(w b v:Bool):Bool:=if w then b&&v else b||v
section
variable {P:Program}{GL:List (Nat×List I)}{sn:List Nat}{s:Nat}{w:Bool}
theorem XW(f:Nat->D):∀(ds:List Nat) (k:Nat) (st:St),s∉ds->Aj (CR f k ds st).env s=Aj st.env s
 |[],_,_,_=>rfl
 |d::ds,k,st,h=>by simp only[CR];rw[XW f ds _ _ (fun hm=>h (Zfc _ hm))];grind[St.put,Aj]
theorem XX(f g:Nat->D):∀(ds:List Nat) (k:Nat) (st:St),(∀j,k<=j->f j=g j)->CR f k ds st=CR g k ds st
 |[],_,_,_=>rfl
 |d::ds,k,st,h=>by simp only[CR,h k (Zgu _)];exact XX f g ds (k+1) _ fun j hj=>h j (by omega)
def Tw(k:Nat)(x:D)(f:Nat->D):Nat->D:=fun j=>if j=k then x else f j
theorem lk(k:Nat)(x:D)(f:Nat->D)(d:Nat)(ds:List Nat)(st:St):CR (Tw k x f) k (d::ds) st=CR f (k+1) ds (st.put d x):=by grind[CR,Tw,XX]
theorem ll(h:HC ins=true):OG ins=true:=by cases ins<;>first|rfl|exact h|(simp only[HC,BH,Zhj,Zb4]at h;done)|(rename_i d _ _;cases d<;>first|rfl|simp[HC,BH]at h)
theorem XY{st:St}{d:Nat}(hi:HC ins=true)(hd:ins.dst=some d)(h:Ad P GL sn ins st K):Ad P GL sn ins st (fun s'=>K s'/\∃x,s'=st.put d x):=by
 cases ins
 case call d' f args=>
  cases d' with
  |none=>simp[Ins.dst]at hd
  |some d'=>simp only[Ins.dst,Zhp]at hd;subst hd;obtain⟨h1,y,h2,h3⟩:=h;exact⟨h1,y,h2,h3,_,rfl⟩
 case callv d' f args=>
  cases d' with
  |none=>simp[Ins.dst]at hd
  |some d'=>
   simp only[Ins.dst,Zhp]at hd;subst hd;obtain⟨h0,h1,h⟩:=h;refine⟨h0,h1,?_⟩;split at h
   ·obtain⟨y,h2,h3⟩:=h;exact⟨y,h2,h3,_,rfl⟩
   ·exact h.elim
 all_goals first
  |(simp[HC,BH]at hi;done)
  |(simp only[Ins.dst,Zhp]at hd
    subst hd;obtain⟨h0,h⟩:=h;obtain⟨h1,h2⟩:=(OD P GL rfl st _).1 h;exact⟨h0,(OD P GL rfl st _).2 ⟨h1,h2,_,rfl⟩⟩)
theorem XZ{st:St}(hi:HC ins=true)(h:Ad P GL sn ins st K):step P GL ins (frzNs (AA GL ins st) st) K:=by
 obtain⟨x,hp,hk⟩:=Xj (ll hi) h;have hpre:AA GL ins st=[]:=by
  have noD:∀v:D,JH v=true->v.nms=[]:=fun v hv=>by cases v<;>simp[JH]at hv;rfl
  have no1:∀os:List O,(∀o∈os,JH (AZ GL st o)=true)->oN GL st os=[]:=fun os ho=>by simp_all[AZ,oN,Hn]
  cases ins
  case bsn d e k ps=>
   obtain⟨_,h2,_⟩:=hp;simp only[pv,Zcu,Zbz]at h2;exact no1 _ fun o ho=>(h2.2 o ho).1.1
  case build d zs ps=>
   obtain⟨_,h2,_⟩:=hp;simp only[pv,Zcu,Zbz]at h2;exact no1 _ fun o ho=>by grind
  case load d x k ag=>
   cases ag with
   |false=>rfl
   |true=>
    obtain⟨_,h2,_⟩:=hp;simp only[AA];unfold ldN;split
    ·rename_i nm off e;simp only[pv,e]at h2;split at h2
     ·rename_i cs hg;have ha:=h2.2 trivial;have:P7 (Aa st.sto nm) off k=[]:=by simp_all[P7,BG]
      rw[this];rfl
     ·exact h2.elim
    ·rfl
  case ofb d x=>
   obtain⟨_,h2,_⟩:=hp;simp only[pv]at h2;refine no1 _ fun o ho=>?_
   simp only[Zfq]at ho;subst ho;split at h2
   ·rename_i e;rw[e];rfl
   ·exact h2.elim
  all_goals first
   |rfl
   |(simp[HC,BH]at hi;done)
 rw[hpre];exact Xi hp hk
theorem QF{ds:List Nat}{g:GI}(h:E5 s w ds (g::r)=true):∃q u d,g.gd=some (q,u)/\((q=s/\u=w)\/q∈ds)/\HC g.ins=true/\g.ins.dst=some d/\d≠s/\E5 s w (d::ds) r=true:=by grind[E5]
structure Evl(P:Program)(GL:List (Nat×List I))(sn:List Nat)(E:List GI->St->(St->Prop)->Prop):Prop where
 go:∀g r st K,HC g.ins=true->g.gd=none->Ad P GL sn g.ins st (fun s=>E r s K)->E (g::r) st K
 gd:∀q u i r st K,HC i=true->fE (Aj st.env q) u (Ad P GL sn i st fun s=>E r s K) (E r (Bv i st) K)->E (⟨some (q,u),i⟩::r) st K
theorem Evl.yes{E:List GI->St->(St->Prop)->Prop}(hE:Evl P GL sn E){tail:List GI}{K:St->Prop}:∀(l:List GI) (ds:List Nat) (st:St),E5 s w ds l=true->Aj st.env s=.i (.bool w)->
  evD P GL sn (De s w l) st (fun st'=>E tail st' K)->E (l++tail) st K
 |[],ds,st,_,_,h=>h
 |g::r,ds,st,k8,hs,h=>by
  obtain⟨q,u,d,e,hq,hi,hd,wy,hr⟩:=QF k8;have next:∀st',evD P GL sn (De s w r) st' (fun st'=>E tail st' K)->Aj st'.env s=.i (.bool w)->E (r++tail) st' K:=fun st' h' hs'=>Evl.yes hE r (d::ds) st' hr hs' h'
  have keep:∀st' x,st'=st.put d x->Aj st'.env s=.i (.bool w):=fun st' x e=>by grind[St.put,Aj]
  have put:∀{st0:St} {K1 K2:St->Prop},Ad P GL sn g.ins st0 K1->(∀x,K1 (st0.put d x)->K2 (st0.put d x))->Ad P GL sn g.ins st0 K2:=fun{st0 K1 K2} h1 h2=>
   Td (XY hi hd h1) fun s' ⟨k1,x,e⟩=>by grind
  obtain⟨gd,ins⟩:=g;simp only at e hi hd hq;subst e;show E (⟨some (q,u),ins⟩::(r++tail)) st K;refine hE.gd q u ins _ st K hi ?_;grind[De,MT,evD,fE,VY,OK,Bv]
theorem QG{g:GI}{st:St}:evD P GL sn (g::r) st K↔match g.gd with
   |none=>Ad P GL sn g.ins st fun s'=>evD P GL sn r s' K
   |some (q,u)=>fE (Aj st.env q) u (Ad P GL sn g.ins st fun s'=>evD P GL sn r s' K) (evD P GL sn r (Bv g.ins st) K):=by
 obtain⟨gd,ins⟩:=g;cases gd with
 |none=>exact Iff.rfl
 |some p=>exact Iff.rfl
theorem X1{K:St->Prop}:∀(l:List GI) (ds:List Nat) (st:St) (k:Nat),E5 s w ds l=true->evD P GL sn (De s w l) st K->evD P GL sn (De s w l) st (fun st'=>K st'/\∃f,st'=CR f k (Co l) st)
 |[],ds,st,k,_,h=>⟨h,fun _=>.any,rfl⟩
 |g::r,ds,st,k,k8,h=>by
  obtain⟨q,u,d,e,hq,hi,hd,wy,hr⟩:=QF k8;have xc:Co (g::r)=d::Co r:=by simp[Co,hd]
  have ins1:(MT s w g).ins=g.ins:=by grind[MT]
  have fin:∀x,evD P GL sn (De s w r) (st.put d x) K->evD P GL sn (De s w r) (st.put d x) (fun st'=>K st'/\∃f,st'=CR f k (Co (g::r)) st):=fun x hx=>by refine Qn (X1 r (d::ds) _ (k+1) hr hx) ?_;rintro s' ⟨k1,f,rfl⟩;exact⟨k1,Tw k x f,by rw[xc,lk]⟩
  have st1:Ad P GL sn g.ins st (fun s'=>evD P GL sn (De s w r) s' K)->Ad P GL sn g.ins st (fun s'=>evD P GL sn (De s w r) s' (fun st'=>K st'/\∃f,st'=CR f k (Co (g::r)) st)):=fun h1=>by refine Td (XY hi hd h1) ?_;grind
  have h:Dl.evD P GL sn (MT s w g::De s w r) st K:=h;grind[MT,De,QG,OK,Bv]
theorem Evl.no{E:List GI->St->(St->Prop)->Prop}(hE:Evl P GL sn E){tail:List GI}{K:St->Prop}{b:Bool}(hb:(b==w)=false):∀(l:List GI) (ds:List Nat) (st:St) (k:Nat),E5 s w ds l=true->Aj st.env s=.i (.bool b)->(∀q∈ds,Aj st.env q=.i .undef)->
  E tail (CR (fun _=>.i .undef) k (Co l) st) K->E (l++tail) st K
 |[],ds,st,k,_,_,_,h=>h
 |g::r,ds,st,k,k8,hs,hu,h=>by
  obtain⟨q,u,d,e,hq,hi,hd,wy,hr⟩:=QF k8;have xc:Co (g::r)=d::Co r:=by simp[Co,hd]
  rw[xc]at h;simp only[CR]at h;have hnext:E (r++tail) (Bv g.ins st) K:=by
   simp only[Bv,hd];refine Evl.no hE hb r (d::ds) _ (k+1) hr ?_ ?_ h
   all_goals grind[St.put,Aj]
  obtain⟨gd,ins⟩:=g;simp only at e hi hd hq hnext;subst e;show E (⟨some (q,u),ins⟩::(r++tail)) st K;refine hE.gd q u ins _ st K hi ?_;grind[fE,VZ]
theorem lm:∀{l b r:List GI} {o:O} {d:Nat},GR s w l=some (b,o,d,r)->l=b++⟨none,.pick d (.t s) (if w then o else .c (.bool true)) (if w then .c (.bool false)else o)⟩::r:=by
 intro l
 induction l with
 |nil=>intro b r o d h;simp[GR]at h
 |cons g l ih=>
  intro b r o d h;have other:∀g:GI,(match GR s w l with|some (b,o,d,r')=>some (g::b,o,d,r')|none=>none)=some (b,o,d,r)->g::l=b++⟨none,.pick d (.t s) (if w then o else .c (.bool true)) (if w then .c (.bool false)else o)⟩::r:=fun g h=>by grind
  unfold GR at h;grind
theorem Evl.ev:Evl P GL sn (Dl.ev P GL) where
 go:=fun g r st K hi hg h=>by grind[OJ,XZ]
 gd:=fun q u i r st K hi h=>by grind[OJ,OK,XZ]
theorem Evl.evD:Evl P GL sn (Dl.evD P GL sn) where
 go:=fun g r st K hi hg h=>by grind[QG]
 gd:=fun q u i r st K hi h=>by grind[QG]
theorem Evl.sc(hE:Evl P GL sn E)(hpk:∀d s x y r st K,Eb (AZ GL st (.t s)) d (AZ GL st x) (AZ GL st y) st (fun s'=>E r s' K)->E (⟨none,.pick d (.t s) x y⟩::r) st K)
  {s:Nat}{b w v:Bool}{l blk r':List GI}{R:O}{d:Nat}{st:St}{K:St->Prop}(hsp:GR s w l=some (blk,R,d,r'))(k8:E5 s w [] blk=true)(hs:Aj st.env s=.i (.bool b))
  (h1:b=w->Dl.evD P GL sn (De s w blk) st (fun st'=>AZ GL st' R=.i (.bool v)))(h2:∀f,E r' ((CR f 0 (Co blk) st).put d (.i (.bool (scV w b v)))) K):E l st K:=by
 rw[lm hsp];have hpick:∀f st',st'=CR f 0 (Co blk) st->(∀x,AZ GL st' (if w then R else .c (.bool true))=x->∀y,AZ GL st' (if w then .c (.bool false)else R)=y->Aj st'.env s=.i (.bool b)->(if b then x else y)=.i (.bool (scV w b v)))->s∉Co blk->
   E (⟨none,.pick d (.t s) (if w then R else .c (.bool true)) (if w then .c (.bool false)else R)⟩::r') st' K:=fun f st' e hv hns=>by
  have hg:Aj st'.env s=.i (.bool b):=by grind[XW]
  have:=hv _ rfl _ rfl hg;refine hpk _ _ _ _ _ _ _ ?_;have vu:AZ GL st' (.t s)=.i (.bool b):=hg;rw[vu];simp only[Eb];cases b with
  |true=>rw[VY];simp only[Zad]at this;rw[this,e];exact h2 f
  |false=>rw[VZ];simp only[Zb4,Zag]at this;rw[this,e];exact h2 f
 have hns:s∉Co blk:=by
  have:∀(l:List GI) (ds:List Nat),E5 s w ds l=true->s∉Co l:=by
   intro l
   induction l with
   |nil=>intro ds _ hm;simp[Co]at hm
   |cons g l ih=>grind[QF,Co]
  grind
 by_cases hb:b=w
 ·subst hb;refine hE.yes blk [] st k8 hs ?_;refine Qn (X1 blk [] st 0 k8 (h1 rfl)) ?_;rintro st' ⟨hR,f,rfl⟩;refine hpick f _ rfl ?_ hns;intro x hx y hy _;cases b with
  |true=>simp only[Zad]at hx⊢;rw[<-hx,hR];rfl
  |false=>simp only[Zb4,Zag]at hy⊢;rw[<-hy,hR];rfl
 ·have hb':(b==w)=false:=by simpa using hb
  refine hE.no hb' blk [] st 0 k8 hs (fun q hq=>by cases hq) (hpick _ _ rfl ?_ hns);intro x hx y hy _;cases w with
  |true=>
   have:b=false:=by grind
   subst this;simp only[Zad,Zb4,Zag]at hy⊢;rw[<-hy];rfl
  |false=>
   have:b=true:=by grind
   subst this;simp only[Zb4,Zag,Zad]at hx⊢;rw[<-hx];rfl
theorem lr{s:Nat}{b w v:Bool}{i:Ins}{blk r':List GI}{R:O}{d:Nat}{e:Env}{so:List (Nat×Blk)}(hsp:GR s w (⟨some (s,w),i⟩::r)=some (blk,R,d,r'))(k8:E5 s w [] blk=true)(hs:Aj e s=.i (.bool b))
  (h1:b=w->Dl.evD P GL [] (De s w blk) ⟨e,so⟩ (fun st'=>AZ GL st' R=.i (.bool v)))(h2:∀f,Dl.ev P GL r' ((CR f 0 (Co blk) ⟨e,so⟩).put d (.i (.bool (scV w b v)))) K):Dl.ev P GL (⟨some (s,w),i⟩::r) ⟨e,so⟩ K:=
 Evl.ev.sc (fun _ _ _ _ _ _ _ h=>h) hsp k8 hs h1 h2
theorem lu{s:Nat}{b w v:Bool}{i:Ins}{blk r':List GI}{R:O}{d:Nat}{e:Env}{so:List (Nat×Blk)}(hsp:GR s w (⟨some (s,w),i⟩::r)=some (blk,R,d,r'))(k8:E5 s w [] blk=true)(hs:Aj e s=.i (.bool b))
  (h1:b=w->Dl.evD P GL sn (De s w blk) ⟨e,so⟩ (fun st'=>AZ GL st' R=.i (.bool v)))(h2:∀f,Dl.evD P GL sn r' ((CR f 0 (Co blk) ⟨e,so⟩).put d (.i (.bool (scV w b v)))) K):Dl.evD P GL sn (⟨some (s,w),i⟩::r) ⟨e,so⟩ K:=
 Evl.evD.sc (fun _ _ _ _ _ _ _ h=>⟨rfl,h⟩) hsp k8 hs h1 h2
theorem lv {s:Nat}{b w v:Bool}{i:Ins}{r blk r':List GI}{R:O}{d:Nat}{e:Env}{so:List (Nat×Blk)}{K:St->Prop}(hsp:GR s w (⟨some (s,w),i⟩::r)=some (blk,R,d,r'))(k8:E5 s w [] blk=true)(hs:Aj e s=.i (.bool b))(h1:b=w->Dl.evD P GL [] (De s w blk) ⟨e,so⟩ (fun st'=>AZ GL st' R=.i (.bool v)))(h2:∀f,Dl.ev P GL r' ((CR f 0 (Co blk) ⟨e,so⟩).put d (.i (.bool (scV w b v)))) K):kP P GL s (.i (.bool b)) w i r ⟨e,so⟩ K:=by have:=lr (P:=P) (GL:=GL) (so:=so) hsp k8 hs h1 h2;rw[OJ]at this;simp only[hs]at this;exact this
theorem lw {s:Nat}{b w v:Bool}{i:Ins}{r blk r':List GI}{R:O}{d:Nat}{e:Env}{so:List (Nat×Blk)}{K:St->Prop}(hsp:GR s w (⟨some (s,w),i⟩::r)=some (blk,R,d,r'))(k8:E5 s w [] blk=true)(hs:Aj e s=.i (.bool b))(h1:b=w->Dl.evD P GL sn (De s w blk) ⟨e,so⟩ (fun st'=>AZ GL st' R=.i (.bool v)))(h2:∀f,Dl.evD P GL sn r' ((CR f 0 (Co blk) ⟨e,so⟩).put d (.i (.bool (scV w b v)))) K):kQ P GL s (.i (.bool b)) w sn i r ⟨e,so⟩ K:=by have:=lu (P:=P) (GL:=GL) (so:=so) hsp k8 hs h1 h2;rw[QG]at this;simp only[hs]at this;exact this
theorem Ao(x:Bool):D.i (I.bool x)=D.i (I.bool x):=rfl
end
theorem lx:
  (∀b v,scV true b v=(b&&v))/\(∀b v,scV false b v=(b||v))/\(∀s w,De s w []=[])/\(∀s w q u i r,De s w (⟨some (q,u),i⟩::r)=(if q=s/\u=w then⟨none,i⟩else⟨some (q,u),i⟩)::De s w r)/\(Co []=[])/\(∀g i r,Co (⟨g,i⟩::r)=i.dst.toList++Co r)/\(∀d:Nat,(some d).toList=[d]):=by
 and_intros<;>intros<;>first|rfl|(rename_i g i r;cases h:i.dst<;>simp[Co,h])
def V22:=cj @CR.eq_1 (cj @CR.eq_2 @lx)
end Go.Dl
end
section
namespace Go.Dl
open Go Go.RowKit
variable{K:Exit->St->Prop}{st:St}{s:List (Nat×Blk)}
section
variable (P:Program)(GL:List (Nat×List I))
def Fq(gs:List GI)(st:St)(K:St->Prop):Prop:=ev P GL gs st K
def X2(sn:List Nat)(gs:List GI)(post:List Nat)(K:Exit->St->Prop)(st:St):Prop:=OQ P GL sn gs post K st
def GS(v:D)(a c:J)(K:Exit->St->Prop)(st:St):Prop:=match v with
 |.i (.bool t)=>br t (W2 P GL a K st) (W2 P GL c K st)
 |_=>False
end
section
variable {P:Program}{GL:List (Nat×List I)}
theorem OT{b:Bool}{a c:J}(h:b=true->GS P GL (.i (.bool true)) a c K st)(k:b=false->GS P GL (.i (.bool false)) a c K st):GS P GL (.i (.bool b)) a c K st:=by
 cases b
 ·exact k rfl
 ·exact h rfl
theorem ly (K:Exit->St->Prop)(st:St):
  (∀gs,W2 P GL (.rg gs) K st=Fq P GL gs st (K .normal))/\(∀c a b,W2 P GL (.cond c a b) K st=GS P GL (AZ GL st c) a b K st)/\(∀a c,GS P GL (.i (.bool true)) a c K st=W2 P GL a K st)/\(∀a c,GS P GL (.i (.bool false)) a c K st=W2 P GL c K st):=by
 and_intros<;>intros<;>first|rfl|(simp[GS,br];done)
def V23:=cj @W2.eq_1 (cj @W2.eq_4 (cj @W2.eq_7 (cj @W2.eq_9 (cj @W2.eq_10 @ly))))
theorem lz:
  (∀ks W K e s,Kh ks W K .normal ⟨e,s⟩=W K ⟨.l (Ei e ks),s⟩)/\(∀ks W K id s,Kh ks W K (.exit id) s=K (.exit id) s)/\(∀ks W K s,Kh ks W K .ret s=K .ret s):=by
 and_intros<;>intros<;>rfl
def JK:=cj @Ei.eq_1 (cj @Ei.eq_2 (cj @prn.eq_1 @lz))
theorem V26(st:St):(∀g r Q,Fq P GL (g::r) st Q=ev P GL (g::r) st Q)/\(∀Q,Fq P GL [] st Q=Q st):=⟨fun _ _ _=>rfl,fun _=>rfl⟩
theorem Au{sn:List Nat}{fz:List O}{gs:List GI}{post:List Nat}(h:OQ P GL sn gs post K (frzNs (oN GL st fz++dN GL gs st) st)):W2 P GL (.dr sn fz gs post) K st:=⟨_,h⟩
theorem Ac{ks:List Nat}{a b:J}(h:W2 P GL a (Kh ks (W2 P GL b) K) st):W2 P GL (.ct ks a b) K st:=
 DZ a h fun e s hs=>by
  cases e with
  |normal=>exact⟨_,.inr (.inr ⟨ks,rfl⟩),hs⟩
  |_=>exact hs
def Lw{ι:Type}(F:ι->St)(I:ι->Prop)(m:ι->Nat)(i:ι)(K:Exit->St->Prop):Exit->St->Prop
 |.normal,s=>∃i',I i'/\m i'<m i/\Sub (F i') s
 |e,s=>K e s
theorem lA (K:Exit->St->Prop)(st:St):
  (∀(ι:Type) (F:ι->St) I m i id,Lw F I m i K (.exit id) st=K (.exit id) st)/\(∀(ι:Type) (F:ι->St) I m i,Lw F I m i K .ret st=K .ret st):=by
 and_intros<;>intros<;>rfl
def V24:=cj @Lw.eq_1 @lA
theorem A4{body:J}{e:Env}{ι:Type}(ks:List Nat){bs:List (Nat×D)}(hb:Ei e ks=bs)(C:ι->List (Nat×D))(B:ι->List (Nat×Blk))(I:ι->Prop)(m:ι->Nat)(k:ι)
  (hi:I k)(h0:Sub ⟨.l (C k++bs),B k⟩ ⟨e,s⟩)(round:∀i,I i->W2 P GL body (Lw (fun i=>⟨.l (C i++bs),B i⟩) I m i K) ⟨.l (C i++bs),B i⟩):W2 P GL (.lp body) K ⟨e,s⟩:=by
 refine⟨{i:ι//I i},fun i=>⟨.l (C i.1++bs),B i.1⟩,fun i=>m i.1,⟨k,hi⟩,h0,fun i=>DZ _ (round i.1 i.2) ?_⟩;intro e s h;cases e with
 |normal=>obtain⟨j,h1,h2,h3⟩:=h;exact⟨⟨j,h1⟩,h2,h3⟩
 |_=>exact h
theorem Df{body:J}{e:Env}(ks:List Nat){bs:List (Nat×D)}(hb:Ei e ks=bs)(C:Nat->List (Nat×D))(B:Nat->List (Nat×Blk))(I:Nat->Prop)(n k:Nat)
  (hk:k<=n)(hi:I k)(h0:Sub ⟨.l (C k++bs),B k⟩ ⟨e,s⟩)(round:∀i,i<=n->I i->W2 P GL body (Lv (fun i=>⟨.l (C i++bs),B i⟩) I n i K) ⟨.l (C i++bs),B i⟩):W2 P GL (.lp body) K ⟨e,s⟩:=
 A4 ks hb C B (fun i=>i<=n/\I i) (fun i=>n-i) k ⟨hk,hi⟩ h0 fun i hh=>DZ _ (round i hh.1 hh.2) fun e s h=>by
  cases e with
  |normal=>exact⟨i+1,⟨h.1,h.2.1⟩,by show n-(i+1)<n-i;have:=h.1;omega,h.2.2⟩
  |_=>exact h
theorem cutS{ks0:List Nat}{a b:J}{e:Env}(ks:List Nat){bs:List (Nat×D)}(hb:Ei e ks=bs)(C:List (Nat×D))(B:List (Nat×Blk))(φ:Prop)(ha:W2 P GL a (MS φ ⟨.l (C++bs),B⟩ K) ⟨e,s⟩)(h:φ->W2 P GL b K ⟨.l (C++bs),B⟩):
  W2 P GL (.ct ks0 a b) K ⟨e,s⟩:=
 DZ a ha fun e s hs=>by
  cases e with
  |normal=>exact⟨_,.inr (.inl hs.2),h hs.1⟩
  |_=>exact hs
end
section
variable {P:Program}{GL:List (Nat×List I)}
theorem Ig{f:FuncId}{os:List O}{d:Option Nat}{K:St->Prop}{ds:List D}{sto:List (Nat×Blk)}{mv:List Nat}{R:D->List (Nat×Blk)->Prop}(h:MC P GL f ds sto mv R)(wy:os.map (AZ GL st)=ds)(h1:Be sto st.sto)
  (h2:(PW sto sto&&(ds.all fun x=>Oe sto x.nms)&&(mv.all fun m=>Nat.blt m 5000||Nat.ble 5500 m))=true)(k:∀r sto',R r sto'->((A7 (d.getD 999) sto').map (·.1)).all (fun nm=>(Aa sto nm).isSome||((Aa st.sto nm).isNone&&Nat.blt nm 5000))=true/\
   (sto.map (·.1)).all (fun nm=>(Aa sto' nm).isNone||ren (d.getD 999) nm==nm)=true/\K (putO (Ds st sto sto' mv (d.getD 999)) d (CW (d.getD 999) r))):Ah P GL (EX GL f os) st d K:=by
 subst wy;rw[Zbz,Zbz]at h2;refine⟨[],.inl ⟨sto,mv,R,h,h1,h2.1.1,h2.1.2,h2.2,fun r s hr=>?_⟩⟩;obtain⟨k1,k2,k3⟩:=k r s hr;rw[Zcu]at k1 k2;refine⟨fun nm hm=>?_,fun nm hm hs=>?_,k3⟩
 ·have:=k1 nm hm;rw[Zcb,Zbz]at this;rcases this with e|⟨e1,e2⟩
  ·exact .inl e
  ·exact .inr ⟨by show Aa st.sto nm=none;simpa using e1,by simpa using e2⟩
 ·have:=k2 nm hm;rw[Zcb]at this;rcases this with e|e
  ·cases hg:Aa s nm<;>simp[hg]at e hs
  ·simpa using e
theorem Ih{α:Type}{l:List α}{f:α->I×I}{c:Option (I×I)}{nm d:Nat}{K:St->Prop}(h0:l=[]->K (st.put d (.i (.tup [.bool false]))))(h1:∀q (h:q<l.length),K ((st.setB nm (.iter (some (f l[q])) ((l.eraseIdx q).map f))).put d (.i (.tup [.bool true,(f l[q]).1,(f l[q]).2])))):
  My (some (.iter c (l.map f))) nm d st K:=by
 refine⟨fun e=>h0 (List.map_eq_nil_iff.1 e),fun i hi=>?_⟩;have ja:i<l.length:=by simpa using hi
 have:=h1 i ja;have e:∀(l:List α) (i:Nat),(l.map f).eraseIdx i=(l.eraseIdx i).map f:=fun l=>by
  induction l with
  |nil=>intro i;rfl
  |cons a l ih=>intro i;cases i with
   |zero=>rfl
   |succ i=>simp[ih]
 rw[Zee,e];exact this
theorem lB:
  (∀d e k rs,Ey d (.rows e k rs)=.rows e k rs)/\(∀d ls es,Ey d (.map ls es)=.map ls es)/\(∀d c r,Ey d (.iter c r)=.iter c r)/\(∀d x,CW d (.i x)=.i x)/\(∀d,CW d .any=.any):=by
 and_intros<;>intros<;>rfl
def V27:=cj @Ds.eq_1 (cj @Mm.eq_1 (cj @Mm.eq_2 (cj @KP.eq_1 (cj @KP.eq_2 (cj @KQ.eq_1 (cj @KQ.eq_2 (cj @A7.eq_1 (cj @A7.eq_2 (cj @Ey.eq_1 (cj @CW.eq_1 (cj @JN.eq_1 (cj @JN.eq_2 (cj @JN.eq_4 (cj @ren.eq_1 (cj @KR.eq_1 @lB)))))))))))))))
end
@[congr] theorem aFj{a b c d e}:ev a b c d e=ev a b c d e:=rfl
@[congr] theorem aFk{a b c d e f}(h:e=f):evR a b c d e=evR a b c d f:=h▸rfl
@[congr] theorem aFl{a b c d e f g i j}(h:f=g)(k:i=j):evF a b c d e f i=evF a b c d e g j:=h▸k▸rfl
@[congr] theorem aFm{a b c d e}:step a b c d e=step a b c d e:=rfl
@[congr] theorem aFn{a b c d e f g i j l}(h:d=e):kP a b c d f g i j l=kP a b c e f g i j l:=h▸rfl
@[congr] theorem aFo{a b c d e f}:evD a b c d e f=evD a b c d e f:=rfl
@[congr] theorem aFp{a b c d e f g}(h:f=g):Hy a b c d e f=Hy a b c d e g:=h▸rfl
@[congr] theorem aFq{a b c d e f}:Ad a b c d e f=Ad a b c d e f:=rfl
@[congr] theorem aFr{a b c d e f g i j l m}(h:d=e):kQ a b c d f g i j l m=kQ a b c e f g i j l m:=h▸rfl
@[congr] theorem aFs{a b c d e f g i j}(h:a=b)(k:d=e)(H:f=g):Eb a c d f i j=Eb b c e g i j:=h▸k▸H▸rfl
@[congr] theorem aFt{a b c d e f g}(h:a=b):KT a c d e f g=KT b c d e f g:=h▸rfl
@[congr] theorem aFu{a b c d e}(h:a=b):Mp a c d e=Mp b c d e:=h▸rfl
@[congr] theorem aFv{a b c d e f g}(h:a=b)(k:d=e):GC a c d f g=GC b c e f g:=h▸k▸rfl
@[congr] theorem aFw{a b c d e f g}(h:a=b):Qz a c d e f g=Qz b c d e f g:=h▸rfl
@[congr] theorem aFx{a b c d e f g i j}(h:a=b)(k:f=g):JU a c d e f i j=JU b c d e g i j:=h▸k▸rfl
@[congr] theorem aFy{a b c d e f g}(h:a=b):IQ a c d e f g=IQ b c d e f g:=h▸rfl
@[congr] theorem aFz{a b c d e f g i j}(h:a=b)(k:d=e):JQ a c d f g i j=JQ b c e f g i j:=h▸k▸rfl
@[congr] theorem aG0{a b c d e f g i j l m n o}(h:a=b)(k:d=e)(H:f=g)(I:i=j):Mq a c d f i l m n o=Mq b c e g j l m n o:=h▸k▸H▸I▸rfl
@[congr] theorem aG1{a b c d e f g}(h:a=b)(k:c=d):Ho a c e f g=Ho b d e f g:=h▸k▸rfl
@[congr] theorem aG2{a b c d e f g i j l}(h:a=b)(k:d=e)(H:g=i):JR a c d f g j l=JR b c e f i j l:=h▸k▸H▸rfl
@[congr] theorem aG3{a b c d e f g i j l m n o p}(h:a=b)(k:d=e)(H:f=g)(I:i=j)(h0:m=n):Ms a c d f i l m o p=Ms b c e g j l n o p:=h▸k▸H▸I▸h0▸rfl
@[congr] theorem aG4{a b c d e f g}(h:a=b)(k:c=d):Mu a c e f g=Mu b d e f g:=h▸k▸rfl
@[congr] theorem aG5{a b c d e f g i j l}(h:a=b)(k:d=e)(H:g=i):Mt a c d f g j l=Mt b c e f i j l:=h▸k▸H▸rfl
@[congr] theorem aG6{a b c d e f g}(h:a=b)(k:d=e):faE a c d f g=faE b c e f g:=h▸k▸rfl
@[congr] theorem aG7{a b c d e f g i}(h:a=b)(k:c=d):iaE a c e f g i=iaE b d e f g i:=h▸k▸rfl
@[congr] theorem aG8{a b c d e f g i j l m n o p}(h:a=b)(k:g=i)(H:j=l)(I:m=n):iaR a c d e f g j m o p=iaR b c d e f i l n o p:=h▸k▸H▸I▸rfl
@[congr] theorem aG9{a b c d e f g}(h:a=b)(k:c=d):KU a c e f g=KU b d e f g:=h▸k▸rfl
@[congr] theorem aGa{a b c d e f g i j l}(h:a=b)(k:c=d):KV a c e f g i j l=KV b d e f g i j l:=h▸k▸rfl
@[congr] theorem aGb{a b c d e f g i}(h:b=c)(k:d=e):KW a b d f g i=KW a c e f g i:=h▸k▸rfl
@[congr] theorem aGc{a b c d e f g i}(h:b=c)(k:d=e):shE a b d f g i=shE a c e f g i:=h▸k▸rfl
@[congr] theorem aGd{a b c d e f g i j}(h:c=d)(k:e=f):KY a b c e g i j=KY a b d f g i j:=h▸k▸rfl
@[congr] theorem aGe{a b c d e f}(h:a=b):KX a c d e f=KX b c d e f:=h▸rfl
@[congr] theorem aGf{a b c d e f g i}(h:b=c)(k:d=e):JS a b d f g i=JS a c e f g i:=h▸k▸rfl
@[congr] theorem aGg{a b c d e f g}(h:c=d):Cw a b c e f g=Cw a b d e f g:=h▸rfl
@[congr] theorem aGh{a b c d e f}(h:b=c):unE a b d e f=unE a c d e f:=h▸rfl
@[congr] theorem aGi{a b c d e}(h:a=b):KZ a c d e=KZ b c d e:=h▸rfl
@[congr] theorem aGj{a b c d e}(h:a=b):IS a c d e=IS b c d e:=h▸rfl
@[congr] theorem aGk{a b c d e f}(h:a=b):IT a c d e f=IT b c d e f:=h▸rfl
@[congr] theorem aGl{a b c d e f g i}(h:b=c)(k:d=e):K0 a b d f g i=K0 a c e f g i:=h▸k▸rfl
@[congr] theorem aGm{a b c d e f g i}(h:b=c)(k:d=e):GD a b d f g i=GD a c e f g i:=h▸k▸rfl
@[congr] theorem aGn{a b c d e f}(h:b=c):K3 a b d e f=K3 a c d e f:=h▸rfl
@[congr] theorem aGo{a b c d e f g i j l}(h:a=b)(k:c=d):I2 a c e f g i j l=I2 b d e f g i j l:=h▸k▸rfl
@[congr] theorem aGp{a b c d e f g i j l m n o p q r}(h:a=b)(k:e=f)(H:g=i)(I:o=p):JT a c d e g j l m n o q r=JT b c d f i j l m n p q r:=h▸k▸H▸I▸rfl
@[congr] theorem aGq{a b c d e f g i j l}(h:a=b)(k:c=d)(H:e=f):K4 a c e g i j l=K4 b d f g i j l:=h▸k▸H▸rfl
@[congr] theorem aGr{a b c d e f g}(h:a=b)(k:c=d)(H:e=f):EC a c e g=EC b d f g:=h▸k▸H▸rfl
@[congr] theorem aGs{a b c d e f g i j l m n o p q r}(h:a=b)(k:e=f)(H:g=i)(I:m=n)(h0:o=p):Mv a c d e g j l m o q r=Mv b c d f i j l n p q r:=h▸k▸H▸I▸h0▸rfl
@[congr] theorem aGt{a b c d e f g i j}(h:a=b)(k:c=d):Mw a c e f g i j=Mw b d e f g i j:=h▸k▸rfl
@[congr] theorem aGu{a b c d e f g i j}(h:a=b)(k:c=d)(H:e=f):K5 a c e g i j=K5 b d f g i j:=h▸k▸H▸rfl
@[congr] theorem aGv{a b c d e f}(h:a=b):K6 a c d e f=K6 b c d e f:=h▸rfl
@[congr] theorem aGw{a b c d e f g i j l}(h:a=b)(k:c=d):EY a c e f g i j l=EY b d e f g i j l:=h▸k▸rfl
@[congr] theorem aGx{a b c d e f g i j l}(h:a=b)(k:d=e):Hp a c d f g i j l=Hp b c e f g i j l:=h▸k▸rfl
@[congr] theorem aGy{a b c d e f g i j}(h:a=b)(k:c=d)(H:e=f):H4 a c e g i j=H4 b d f g i j:=h▸k▸H▸rfl
@[congr] theorem aGz{a b c d e f g i j l}(h:a=b)(k:e=f)(H:g=i):IU a c d e g j l=IU b c d f i j l:=h▸k▸H▸rfl
@[congr] theorem aH0{a b c d e}(h:a=b):Ol a c d e=Ol b c d e:=h▸rfl
@[congr] theorem aH1{a b c d e f g}(h:a=b)(k:c=d):K7 a c e f g=K7 b d e f g:=h▸k▸rfl
@[congr] theorem aH2{a b c d e}(h:a=b):Mz a c d e=Mz b c d e:=h▸rfl
@[congr] theorem aH3{a b c d e f}(h:a=b):My a c d e f=My b c d e f:=h▸rfl
@[congr] theorem aH4{a b c d e}(h:a=b):MB a c d e=MB b c d e:=h▸rfl
@[congr] theorem aH5{a b c d e}(h:a=b):MA a c d e=MA b c d e:=h▸rfl
@[congr] theorem aH6{a b c d e f g i j}(h:a=b)(k:c=d):IV a c e f g i j=IV b d e f g i j:=h▸k▸rfl
@[congr] theorem aH7{a b c d e}(h:a=b):K8 a c d e=K8 b c d e:=h▸rfl
@[congr] theorem aH8{a b c d e}(h:a=b):Om a c d e=Om b c d e:=h▸rfl
@[congr] theorem aH9{a b c d e f}:Ah a b c d e f=Ah a b c d e f:=rfl
@[congr] theorem aHa{a b c d e f g i j}(h:d=e)(k:f=g):Ai a b c d f i j=Ai a b c e g i j:=h▸k▸rfl
@[congr] theorem aHb{a b c d e f g i j l}(h:c=d)(k:e=f)(H:g=i):Hz a b c e g j l=Hz a b d f i j l:=h▸k▸H▸rfl
@[congr] theorem aHc{a b c d e f g i}(h:g=i):OQ a b c d e f g=OQ a b c d e f i:=h▸rfl
@[congr] theorem aHd{a b c d}(h:c=d):Qy a b c=Qy a b d:=h▸rfl
@[congr] theorem aHe{a b c d e}(h:d=e):E3 a b c d=E3 a b c e:=h▸rfl
@[congr] theorem aHf{a b c d e f}(h:e=f):MS a b c d e=MS a b c d f:=h▸rfl
@[congr] theorem aHg{a b c d e f g i}(h:g=i):Lv a b c d e f g=Lv a b c d e f i:=h▸rfl
@[congr] theorem aHh{a b c}(h:b=c):MR a b=MR a c:=h▸rfl
@[congr] theorem aHi{a b c d e f g}(h:f=g):Lu a b c d e f=Lu a b c d e g:=h▸rfl
@[congr] theorem aHj{a b c d e}:Fy a b c d e=Fy a b c d e:=rfl
@[congr] theorem aHk{a b c d e f g i}(h:b=c)(k:d=e):OR a b d f g i=OR a c e f g i:=h▸k▸rfl
@[congr] theorem aHl{a b c d e f g i j}(h:a=b)(k:f=g)(H:i=j):QA a c d e f i=QA b c d e g j:=h▸k▸H▸rfl
@[congr] theorem aHm{a b c d e f g i j l m}(h:c=d)(k:i=j)(H:l=m):QB a b c e f g i l=QB a b d e f g j m:=h▸k▸H▸rfl
@[congr] theorem aHn{a b c d e f g i j}(h:a=b)(k:f=g)(H:i=j):QC a c d e f i=QC b c d e g j:=h▸k▸H▸rfl
@[congr] theorem aHo{a b c d e}:Fq a b c d e=Fq a b c d e:=rfl
@[congr] theorem aHp{a b c d e f g i}(h:g=i):X2 a b c d e f g=X2 a b c d e f i:=h▸rfl
@[congr] theorem aHq{a b c d e f}(h:e=f):W2 a b c d e=W2 a b c d f:=h▸rfl
@[congr] theorem aHr{a b c d e f}(h:e=f):Kh a b c d e=Kh a b c d f:=h▸rfl
@[congr] theorem aHs{a b c d e f g i}(h:c=d):GS a b c e f g i=GS a b d e f g i:=h▸rfl
@[congr] theorem aHt{a b c d e f g i j}(h:i=j):@Lw a b c d e f g i=@Lw a b c d e f g j:=h▸rfl
@[congr] theorem aHu{a b c}:AA a b c=AA a b c:=rfl
def lC:Ins->List O
 |.box _ x|.boxm _ x|.isnil _ _ _ x|.slc0 _ _ _ x|.rng _ x|.nxt _ x|.ent _ x|.cap _ x|.clr _ x _|.mksl _ _ _ _ _ x=>[x]
 |.stfrz x y _|.app _ _ _ _ x y|.cpy _ x y _ _|.appz _ _ _ _ x y _|.lookg _ x y _ _ _|.ment _ x y _ _ _ _=>[x,y]
 |.bsl _ _ _ ps|.bso _ _ _ ps|.calln _ _ _ _ ps=>ps
 |.mupdg x q v _|.ests x q v=>[x,q,v]
 |.slc3 _ x lo y z=>x::(lo.toList++[y,z])
 |i=>BB i
def QH(x:Nat):List Nat->List Nat
 |[]=>[x]
 |y::r=>if Nat.blt x y then x::y::r else if Nat.beq x y then y::r else y::QH x r
def MU:List Nat->List Nat->List Nat
 |[],l=>l
 |x::r,l=>MU r (QH x l)
def QI(x:Nat):List Nat->List Nat
 |[]=>[]
 |y::r=>if Nat.beq x y then r else y::QI x r
def Tx(x:Nat):List Nat->Bool
 |[]=>false
 |y::r=>Nat.beq x y||Tx x r
def Lx:List O->List Nat->List Nat
 |[],l=>l
 |.t n::r,l=>Lx r (QH n l)
 |_::r,l=>Lx r l
def QJ:List GI->List Nat->List Nat
 |[],l=>l
 |g::r,l=>Lx (lC g.ins) (MU (Ia g) (match g.ins.dst with|some d=>QI d (QJ r l)|none=>QJ r l))
def Kk(k:Nat):List (Nat×List Nat)->List Nat
 |[]=>[]
 |p::r=>if Nat.beq p.1 k then p.2 else Kk k r
def Ty(f:List Nat->List Nat):Nat->List Nat->List Nat
 |0,l=>l
 |n+1,l=>Ty f n (MU (f l) l)
def GU:IR->List (Nat×List Nat)->List Nat
 |.skip,K=>Kk 0 K
 |.ret,K=>Kk 1 K
 |.exit i,K=>Kk (i+2) K
 |.reg gs,K=>QJ gs (Kk 0 K)
 |.dreg _ gs _,K=>QJ gs (Kk 0 K)
 |.cut a b,K=>GU a ((0,GU b K)::K)
 |.cond c a b,K=>Lx [c] (MU (GU a K) (GU b K))
 |.block i c,K=>GU c ((i+2,Kk 0 K)::K)
 |.loop c,K=>Ty (fun l=>GU c ((0,l)::K)) 3 []
 |.rf _ og ps a b,K=>Lx [og] (MU ((GU a [(0,GU b [])]).filter fun x=>!Tx x ps) (K.foldr (fun p l=>MU p.2 l) []))
def QK:IR->Bool
 |.cond _ _ _=>true
 |.cut a b=>QK a||QK b
 |.block _ c=>QK c
 |_=>false
def lD:Ins->List O
 |.call _ _ ps|.bsl _ _ _ ps|.bsn _ _ _ ps|.callo _ _ ps=>ps
 |.callv _ f ps=>f::ps
 |.build _ _ ps=>ps.map (·.2.2)
 |.ofb _ x|.app _ _ _ _ _ x=>[x]
 |.mupd _ q v _=>[q,v]
 |_=>[]
def lE(i:Ins)(w:List Nat):List Nat:=Lx (lD i) (match i.dst with
 |some d=>if Tx d w then(match i with|.mov _ x=>Lx [x] (QI d w)|_=>QI d w)else w
 |none=>w)
def X3:List GI->List Nat
 |[]=>[]
 |g::r=>lE g.ins (X3 r)
def Jc:IR->List (Nat×List Nat)->J
 |.skip,_=>.skip
 |.ret,_=>.ret
 |.exit i,_=>.exit i
 |.reg gs,_=>.rg gs
 |.dreg sn gs post,_=>.dr sn ((X3 gs).map .t) gs post
 |.cut a b,K=>(if QK a then J.ct else J.sq) (GU b K) (Jc a ((0,GU b K)::K)) (Jc b K)
 |.cond c a b,K=>.cond c (Jc a K) (Jc b K)
 |.block i c,K=>.block i (Jc c ((i+2,Kk 0 K)::K))
 |.loop c,K=>.lp (Jc c ((0,Ty (fun l=>GU c ((0,l)::K)) 3 [])::K))
 |.rf n og ps a b,_=>.rf n og ps (Jc a [(0,GU b [])]) (Jc b [])
structure FD where
 n:Nat
 a:List Nat
 b:List (Nat×Nat)
 l:List RV
 c:J
def mkF(P:Program)(GL:List (Nat×List I))(f:Func)(a:List Nat)(b:List (Nat×Nat))(h:List (Nat×List (List Nat))):Option FD:=
 match f.results.toList.mapM (Ic P),f.body.bind (comp P GL f.ntmps a false b h)with
 |some l,some ir=>some ⟨f.ntmps,a,b,l,Jc ir (let r:=l.foldr (fun x l=>QH (match x with|.tmp t=>t|.cell t _ _=>t) l) [];[(0,r),(1,r)])⟩
 |_,_=>none
end Go.Dl
end
section
namespace Go.As
open Go Go.Dl
variable{α:Type}
abbrev AQ:=List UInt8
structure Fac where
 name:AQ
 exp:Int
deriving DecidableEq,Inhabited
structure Val where
 kind:Int
 n:Int
 s:AQ
deriving DecidableEq,Inhabited
structure Typ where
 kind:Int
 unit:List Fac
 of:AQ
deriving DecidableEq,Inhabited
structure Win where
 kind:Int
 size:Int
deriving DecidableEq,Inhabited
inductive Xpr where
 |mk (kind:Int) (op name table:AQ) (val:Val) (unit:List Fac) (param:Int) (win:Win) (args:List Xpr)
deriving Inhabited
namespace Xpr
def kind:Xpr->Int|.mk k _ _ _ _ _ _ _ _=>k
def op:Xpr->AQ|.mk _ o _ _ _ _ _ _ _=>o
def name:Xpr->AQ|.mk _ _ n _ _ _ _ _ _=>n
def table:Xpr->AQ|.mk _ _ _ t _ _ _ _ _=>t
def val:Xpr->Val|.mk _ _ _ _ v _ _ _ _=>v
def unit:Xpr->List Fac|.mk _ _ _ _ _ u _ _ _=>u
def param:Xpr->Int|.mk _ _ _ _ _ _ p _ _=>p
def win:Xpr->Win|.mk _ _ _ _ _ _ _ w _=>w
def args:Xpr->List Xpr|.mk _ _ _ _ _ _ _ _ a=>a
end Xpr
structure Fld where
 name:AQ
 typ:Typ
deriving Inhabited
structure Tbl where
 name:AQ
 entity:AQ
 fields:List Fld
 keep:Int
deriving Inhabited
structure Ftr where
 name:AQ
 entity:AQ
 typ:Typ
 body:Xpr
 version:Int
deriving Inhabited
structure Cat where
 tables:List Tbl
 features:List Ftr
 drafts:List Ftr
 past:List Ftr
deriving Inhabited
abbrev iI(n:Int):I:=.int .i64 n
def Ax(f:Fac):List I:=[.str f.name,.int .i64 f.exp]
def Bi(v:Val):List I:=[.int .i64 v.kind,.int .i64 v.n,.str v.s]
def Aq(t:Typ):List I:=[.int .i64 t.kind,.sl (t.unit.map Ax),.str t.of]
def F2(w:Win):List I:=[.int .i64 w.kind,.int .i64 w.size]
mutual
def eE:Xpr->List I
 |.mk k o n t v u p w a=>[.int .i64 k,.str o,.str n,.str t,.int .i64 v.kind,.int .i64 v.n,.str v.s,.sl (u.map Ax),.int .i64 p,.int .i64 w.kind,.int .i64 w.size,.sl (eEs a)]
def eEs:List Xpr->List (List I)
 |[]=>[]
 |x::r=>eE x::eEs r
end
theorem QL:∀l,eEs l=l.map eE
 |[]=>by simp[eEs]
 |x::r=>by simp[eEs,QL r]
def B2(f:Fld):List I:=[.str f.name,.int .i64 f.typ.kind,.sl (f.typ.unit.map Ax),.str f.typ.of]
def AS(t:Tbl):List I:=[.str t.name,.str t.entity,.sl (t.fields.map B2),.int .i64 t.keep]
def Af(f:Ftr):List I:=[.str f.name,.str f.entity]++Aq f.typ++eE f.body++[.int .i64 f.version]
def Ap(c:Cat):List I:=[.sl (c.tables.map AS),.sl (c.features.map Af),.sl (c.drafts.map Af),.sl (c.past.map Af)]
theorem ETl:(∀f,(Ax f).length=2)/\(∀v,(Bi v).length=3)/\(∀t,(Aq t).length=3)/\(∀w,(F2 w).length=2)/\(∀x,(eE x).length=12)/\(∀f,(B2 f).length=4)/\(∀t,(AS t).length=4)/\(∀f,(Af f).length=18)/\(∀c,(Ap c).length=4):=
 ⟨fun _=>rfl,fun _=>rfl,fun _=>rfl,fun _=>rfl,fun x=>by cases x;simp[eE],fun _=>rfl,fun _=>rfl,fun f=>by obtain⟨_,_,_,b,_⟩:=f;cases b;simp[Af,Aq,eE],fun _=>rfl⟩
theorem ET:
  (∀f,pk false (Ax f) 0 1=.str f.name)/\(∀f,pk false (Ax f) 1 1=.int .i64 f.exp)/\(∀f,pk true (Ax f) 0 2=.agg (Ax f))/\
  (∀v,pk false (Bi v) 0 1=.int .i64 v.kind)/\(∀v,pk false (Bi v) 1 1=.int .i64 v.n)/\(∀v,pk false (Bi v) 2 1=.str v.s)/\(∀v,pk true (Bi v) 0 3=.agg (Bi v))/\
  (∀t,pk false (Aq t) 0 1=.int .i64 t.kind)/\(∀t,pk false (Aq t) 1 1=.sl (t.unit.map Ax))/\(∀t,pk false (Aq t) 2 1=.str t.of)/\(∀t,pk true (Aq t) 0 3=.agg (Aq t))/\
  (∀w,pk false (F2 w) 0 1=.int .i64 w.kind)/\(∀w,pk false (F2 w) 1 1=.int .i64 w.size)/\(∀w,pk true (F2 w) 0 2=.agg (F2 w))/\
  (∀x,pk false (eE x) 0 1=.int .i64 x.kind)/\(∀x,pk false (eE x) 1 1=.str x.op)/\(∀x,pk false (eE x) 2 1=.str x.name)/\(∀x,pk false (eE x) 3 1=.str x.table)/\(∀x,pk true (eE x) 4 3=.agg (Bi x.val))/\
  (∀x,pk false (eE x) 4 1=.int .i64 x.val.kind)/\(∀x,pk false (eE x) 5 1=.int .i64 x.val.n)/\(∀x,pk false (eE x) 6 1=.str x.val.s)/\(∀x,pk false (eE x) 7 1=.sl (x.unit.map Ax))/\(∀x,pk false (eE x) 8 1=.int .i64 x.param)/\
  (∀x,pk false (eE x) 9 1=.int .i64 x.win.kind)/\(∀x,pk false (eE x) 10 1=.int .i64 x.win.size)/\(∀x,pk true (eE x) 9 2=.agg (F2 x.win))/\(∀x,pk false (eE x) 11 1=.sl (x.args.map eE))/\(∀x,pk true (eE x) 0 12=.agg (eE x))/\
  (∀f,pk false (B2 f) 0 1=.str f.name)/\(∀f,pk true (B2 f) 1 3=.agg (Aq f.typ))/\(∀f,pk true (B2 f) 0 4=.agg (B2 f))/\
  (∀t,pk false (AS t) 0 1=.str t.name)/\(∀t,pk false (AS t) 1 1=.str t.entity)/\(∀t,pk false (AS t) 2 1=.sl (t.fields.map B2))/\(∀t,pk false (AS t) 3 1=.int .i64 t.keep)/\(∀t,pk true (AS t) 0 4=.agg (AS t))/\
  (∀f,pk false (Af f) 0 1=.str f.name)/\(∀f,pk false (Af f) 1 1=.str f.entity)/\(∀f,pk true (Af f) 2 3=.agg (Aq f.typ))/\(∀f,pk true (Af f) 5 12=.agg (eE f.body))/\(∀f,pk false (Af f) 17 1=.int .i64 f.version)/\(∀f,pk true (Af f) 0 18=.agg (Af f))/\
  (∀c,pk false (Ap c) 0 1=.sl (c.tables.map AS))/\(∀c,pk false (Ap c) 1 1=.sl (c.features.map Af))/\(∀c,pk true (Ap c) 0 4=.agg (Ap c)):=by
 have hE:∀x:Xpr,eE x=[.int .i64 x.kind,.str x.op,.str x.name,.str x.table,.int .i64 x.val.kind,.int .i64 x.val.n,.str x.val.s,.sl (x.unit.map Ax),.int .i64 x.param,.int .i64 x.win.kind,.int .i64 x.win.size,.sl (x.args.map eE)]:=fun x=>by cases x;simp[eE,QL,Xpr.kind,Xpr.op,Xpr.name,Xpr.table,Xpr.val,Xpr.unit,Xpr.param,Xpr.win,Xpr.args]
 refine⟨?_,?_,?_,?_,?_,?_,?_,?_,?_,?_,?_,?_,?_,?_,?_,?_,?_,?_,?_,?_,?_,?_,?_,?_,?_,?_,?_,?_,?_,?_,?_,?_,?_,?_,?_,?_,?_,?_,?_,?_,?_,?_,?_,?_,?_,?_⟩<;>intro x<;>first|rfl|(simp only[Af,hE];rfl)|(rw[hE];rfl)
theorem lF:(∀f,(Ax f).all I.one=true)/\(∀t,(Aq t).all I.one=true)/\(∀x,(eE x).all I.one=true)/\(∀f,(B2 f).all I.one=true)/\(∀t,(AS t).all I.one=true)/\(∀f,(Af f).all I.one=true)/\(∀c,(Ap c).all I.one=true)/\(∀v,(Bi v).all I.one=true):=
 ⟨fun _=>rfl,fun _=>rfl,fun x=>by cases x;simp[eE,I.one],fun _=>rfl,fun _=>rfl,fun f=>by obtain⟨_,_,_,b,_⟩:=f;cases b;simp[Af,Aq,eE,I.one],fun _=>rfl,fun _=>rfl⟩
theorem lG[Inhabited α](f:α->List I)(l:List α)(n:Nat)(h:n<l.length):(l.map f).getD n []=f (l.getD n default):=by grind
theorem AK[Inhabited α]{l:List α}{n:Nat}(h:n<l.length):l.getD n default=l[n]:=by grind
theorem At[Inhabited α]{l:List α}{n:Nat}(h:n<l.length):l.getD n default∈l:=by grind
theorem B3{x:Int}(h1:-9223372036854775808<=x)(h2:x<=9223372036854775807):IntKind.i64.wrap x=x:=by exact Go.IntWalk.i64_in x ⟨h1,h2⟩
theorem lH(i:Nat):((i+1:Nat):Int)=(i:Int)+1:=rfl
theorem BW{p:α->Bool}{l:List α}{d:α}{i:Nat}(h:(l.take i).all p=true)(hi:i<l.length)(k:p (l.getD i d)=true):(l.take (i+1)).all p=true:=by rw[Zgh hi,List.all_append,h];grind
theorem Tz{p:α->Bool}{l:List α}{d:α}{i:Nat}(hi:i<l.length)(k:p (l.getD i d)=false):l.all p=false:=by grind
theorem EB:
  (∀k a b,Dc .add (.int k a) (.int k b)=True)/\(∀k a b,Dc .sub (.int k a) (.int k b)=True)/\(∀k a b,Dc .mul (.int k a) (.int k b)=True)/\(∀k a b,Dc .eql (.int k a) (.int k b)=True)/\(∀k a b,Dc .neq (.int k a) (.int k b)=True)/\
  (∀k a b,Dc .lss (.int k a) (.int k b)=True)/\(∀k a b,Dc .leq (.int k a) (.int k b)=True)/\(∀k a b,Dc .gtr (.int k a) (.int k b)=True)/\(∀k a b,Dc .geq (.int k a) (.int k b)=True)/\(∀k a b,Dc .quo (.int k a) (.int k b)=(b≠0))/\(∀k a b,Dc .rem (.int k a) (.int k b)=(b≠0))/\
  (∀a b,Dc .eql (.str a) (.str b)=True)/\(∀a b,Dc .neq (.str a) (.str b)=True)/\(∀a b,Dc .lss (.str a) (.str b)=True)/\(∀a b,Dc .leq (.str a) (.str b)=True)/\(∀a b,Dc .gtr (.str a) (.str b)=True)/\(∀a b,Dc .geq (.str a) (.str b)=True)/\
  (∀a b,Dc .add (.str a) (.str b)=(a.length+b.length<=9223372036854775807))/\
  (∀k k' a b,CE .add (.int k a) (.int k' b)=.int k (k.wrap (a+b)))/\(∀k k' a b,CE .sub (.int k a) (.int k' b)=.int k (k.wrap (a-b)))/\(∀k k' a b,CE .mul (.int k a) (.int k' b)=.int k (k.wrap (a*b)))/\
  (∀k k' a b,CE .quo (.int k a) (.int k' b)=.int k (k.wrap (a.tdiv b)))/\(∀k k' a b,CE .rem (.int k a) (.int k' b)=.int k (a.tmod b))/\
  (∀k k' a b,CE .eql (.int k a) (.int k' b)=.bool (decide (a=b)))/\(∀k k' a b,CE .neq (.int k a) (.int k' b)=.bool (decide (a≠b)))/\(∀k k' a b,CE .lss (.int k a) (.int k' b)=.bool (decide (a<b)))/\(∀k k' a b,CE .leq (.int k a) (.int k' b)=.bool (decide (a<=b)))/\
  (∀k k' a b,CE .gtr (.int k a) (.int k' b)=.bool (decide (b<a)))/\(∀k k' a b,CE .geq (.int k a) (.int k' b)=.bool (decide (b<=a)))/\
  (∀a b,CE .eql (.str a) (.str b)=.bool (decide (a=b)))/\(∀a b,CE .neq (.str a) (.str b)=.bool (decide (a≠b)))/\(∀a b,CE .lss (.str a) (.str b)=.bool (Op.bytesLess a b))/\(∀a b,CE .leq (.str a) (.str b)=.bool (Op.bytesLess a b||decide (a=b)))/\
  (∀a b,CE .gtr (.str a) (.str b)=.bool (!(Op.bytesLess a b||decide (a=b))))/\(∀a b,CE .geq (.str a) (.str b)=.bool (!Op.bytesLess a b))/\(∀a b,CE .add (.str a) (.str b)=.str (a++b)):=by
 have bs:∀a b:List UInt8,(a==b)=decide (a=b):=fun a b=>by grind
 have bi:∀a b:Int,(a==b)=decide (a=b):=fun a b=>by rfl
 refine⟨?_,?_,?_,?_,?_,?_,?_,?_,?_,?_,?_,?_,?_,?_,?_,?_,?_,?_,?_,?_,?_,?_,?_,?_,?_,?_,?_,?_,?_,?_,?_,?_,?_,?_,?_,?_⟩<;>intros<;>first|rfl|(simp only[Dc];simp;done)|(simp only[CE,bs];done)|(simp only[CE,bne,bs,bi];simp)|(simp only[CE];congr 1;simp[Zb2])
def X4(a b:Option Bool):Option Bool:=match a,b with
 |some a,some b=>some (a&&b)
 |_,_=>none
theorem VE:(eqL [] [] []=some true)/\(∀l ls x xs y ys,eqL (l::ls) (x::xs) (y::ys)=X4 (fA l x y) (eqL ls xs ys))/\(∀a b,X4 (some a) (some b)=some (a&&b))/\(∀a b,fA .s (.str a) (.str b)=some (a==b))/\(∀a b,fA .b (.bool a) (.bool b)=some (a==b))/\(∀k a b,fA (.i k) (.int k a) (.int k b)=some (a==b))/\
  (∀ls x,Ay (.s::ls) (.str x)=AH (.s::ls) [.str x])/\(∀k ls k' x,Ay (.i k::ls) (.int k' x)=AH (.i k::ls) [.int k' x])/\(∀ls cs,Ay (.g::ls) (.agg cs)=AH ls cs)/\(AH [] []=true)/\(∀l ls x xs,AH (l::ls) (x::xs)=(Bc l x&&AH ls xs))/\(∀s,Bc .s (.str s)=true)/\(∀b,Bc .b (.bool b)=true)/\(∀k n,Bc (.i k) (.int k n)=true):=by
 and_intros<;>intros<;>first|rfl|(simp[fA];done)|(simp[Bc];done)
theorem HB:(∀(p:Prop) [Decidable p],(decide p=true)=p)/\(∀(p:Prop) [Decidable p],(decide p=false)=¬p)/\(∀a b:Int,(¬a<b)=(b<=a))/\(∀a b:Int,(¬a<=b)=(b<a))/\(∀{α:Type} (a b:α),(a≠b)=¬a=b)/\(∀(p:Prop) [Decidable p],(¬¬p)=p)/\
  (∀a b:Bool,((a||b)=true)=(a=true\/b=true))/\(∀a b:Bool,((a&&b)=true)=(a=true/\b=true))/\(∀a b:Bool,((a||b)=false)=(a=false/\b=false))/\(∀a b:Bool,((a&&b)=false)=(a=true->b=false))/\(∀a:Bool,((!a)=true)=(a=false))/\(∀a:Bool,((!a)=false)=(a=true)):=by
 refine⟨fun p _=>by simp,fun p _=>by simp,fun a b=>by simp,fun a b=>by simp,fun a b=>rfl,fun p _=>by simp[Decidable.not_not],?_,?_,?_,?_,?_,?_⟩<;>intros<;>simp
theorem lI:(∀l:List I,(l.map D.i).flatMap D.nms=[])/\(∀(l:List I) k,((l.map D.i).take k).flatMap D.nms=[])/\(∀(l:List I) k,((l.map D.i).drop k).flatMap D.nms=[])/\(∀(l:List I) j k,(((l.map D.i).drop j).take k).flatMap D.nms=[]):=by
 have h:∀l:List I,(l.map D.i).flatMap D.nms=[]:=fun l=>by rw[List.flatMap_eq_nil_iff];intro x hx;obtain⟨y,_,rfl⟩:=Zfh.1 hx;rfl
 exact⟨h,fun l k=>by rw[<-Ze7];exact h _,fun l k=>by rw[<-Ze2];exact h _,fun l j k=>by rw[<-Ze2,<-Ze7];exact h _⟩
theorem lJ:(∀l:List I,BG (l.map D.i)=true)/\(∀(l:List I) k,BG ((l.map D.i).take k)=true)/\(∀(l:List I) k,BG ((l.map D.i).drop k)=true)/\(∀(l:List I) j k,BG (((l.map D.i).drop j).take k)=true):=by grind[BG,JH]
attribute [go_sem] lI lJ
attribute [go_sem] V0 V1 V2 V3 V4 V5 V6 V7 V8 V10 H0 V12 V13 V14 JJ V16 V17 V18 V19 V20 V21 V22 V23 V24 JK V26 V27 Zc3 Zft lG B3 Int.natCast_nonneg lH Int.toNat_zero Zgu Za1 Za2 Zb9 Zb8 Zel ET ETl EB VE lF Zav Zau and_self and_false false_and eq_self Bool.and_true Zce Zb5 Zcc Zcd Zcf Zb0 Zb3 Zes Zco Bool.not_not
attribute [go_sem] dI DK Ins.dst Ax Bi Aq F2 B2 AS Ap Zad Zag Zb4 Zhp
end Go.As
end
section
namespace Go.Dl
open Go Go.RowKit
theorem V28:(∀(a b:Nat),(some a).getD b=a)/\(∀(b:Nat),(none:Option Nat).getD b=b)/\(∀b:Blk,(some b).isSome=true)/\(∀b:Blk,(some b).isNone=false)/\((none:Option Blk).isSome=false)/\((none:Option Blk).isNone=true)/\
  (∀p:Nat->Bool,List.filter p []=[])/\(∀(p:Nat->Bool) a l,List.filter p (a::l)=if p a=true then a::List.filter p l else List.filter p l)/\(∀x:Nat,(x==x)=true)/\(∀b:Bool,(b||true)=true):=by
 and_intros<;>intros<;>first|rfl|(simp;done)|(rw[Zdj])
theorem lK{α β:Type}(f:α->β)(l:List α):List.take l.length (List.map f l)=List.map f l:=Zgf (by simp)
attribute [go_sem] V28 lK
theorem D0{rs:List RV}{given mv:List Nat}{R:D->List (Nat×Blk)->Prop}{st:St}(ks:List (Nat×Nat)){x:D}{s':List (Nat×Blk)}(hx:Ie st rs=some x)(hs:Cn (ks.map (·.1)) st.sto=s')(h1:OP given mv ks=true)(h2:(Oe s' x.nms&&PW s' s')=true)(h3:R (I8 (kf ks) x) (IL (kf ks) s')):Fy rs given mv R st:=by
 subst hs;refine⟨[],ks,?_⟩;show match Ie st rs with|some x=>_|none=>_
 rw[hx];rw[Zbz]at h2;exact⟨h1,h2,h3⟩
theorem lL:
  (∀f x,I8 f (.i x)=.i x)/\(∀f e k rs,KL f (.rows e k rs)=.rows e k rs)/\(∀f ls es,KL f (.map ls es)=.map ls es):=by
 and_intros<;>intros<;>first|rfl|(rename_i o m b r;simp[Cn])
def VL:=cj @Cn.eq_1 (cj @Cn.eq_2 (cj @kf.eq_1 (cj @kf.eq_2 (cj @I8.eq_1 (cj @OF.eq_2 (cj @OF.eq_1 (cj @OF.eq_4 (cj @IL.eq_1 (cj @IL.eq_2 (cj @KL.eq_1 @lL))))))))))
theorem QM{rows:List (List I)}{neg:Bool}{d:Nat}{st:St}{K:St->Prop}(h1:rows=[]->∀b,K (st.put d (.i (.bool b))))(h2:rows≠[]->K (st.put d (.i (.bool (false !=neg))))):Cw .sl neg (.i (.sl rows)) d st K:=by
 cases rows with
 |nil=>exact h1 rfl
 |cons a r=>exact h2 (by simp)
def X5(a:Option Cp)(b:Option (List Cp)):Option (List Cp):=match a,b with|some x,some xs=>some (x::xs)|_,_=>none
def MV(GL:List (Nat×List I))(st:St):List O->Option (List Cp)
 |[]=>some []
 |o::r=>X5 (Cm (AZ GL st o)) (MV GL st r)
theorem lM(GL:List (Nat×List I))(st:St)(l:List O):(l.mapM fun o=>Cm (AZ GL st o))=MV GL st l:=by
 induction l with
 |nil=>rfl
 |cons o r ih=>rw[Zey,ih];simp only[MV];cases Cm (AZ GL st o)<;>cases MV GL st r<;>rfl
def V30:=cj @MV.eq_1 @MV.eq_2
theorem V31:(∀x xs,X5 (some x) (some xs)=some (x::xs))/\(∀p:Cp->Bool,[].all p=true)/\(∀(p:Cp->Bool) x l,(x::l).all p=(p x&&l.all p)):=⟨fun _ _=>rfl,fun _=>rfl,fun _ _ _=>rfl⟩
attribute [go_sem] lM V30 V31
def Al{κ α:Type}[DecidableEq κ]:List (κ×α)->κ->Option α
 |[],_=>none
 |p::r,k=>if p.1=k then some p.2 else Al r k
def AM{κ α:Type}[DecidableEq κ]:List (κ×α)->κ->α->List (κ×α)
 |[],k,v=>[(k,v)]
 |p::r,k,v=>if p.1=k then(k,v)::r else p::AM r k v
section
variable {κ α:Type}[DecidableEq κ]{eK:κ->I}{f:α->I}
def Ly(eK:κ->I):Prop:=∀a b,(A3 (eK a)==A3 (eK b))=decide (a=b)
theorem X6(h:Ly eK)(l:List (κ×α))(k:κ):GB (l.map fun p=>(eK p.1,f p.2)) (eK k)=(Al l k).map f:=by
 induction l with
 |nil=>rfl
 |cons p r ih=>simp only[GB,Ze1,List.find?_cons,h p.1 k,Al]at ih⊢;grind
theorem MW(h:Ly eK)(l:List (κ×α))(k:κ)(v:α):DV (l.map fun p=>(eK p.1,f p.2)) (eK k) (f v)=(AM l k v).map fun p=>(eK p.1,f p.2):=by
 induction l with
 |nil=>rfl
 |cons p r ih=>simp only[DV,Ze1,h p.1 k,AM];grind
theorem MY(h:Ly eK)(l:List (κ×α))(k:κ)(z:α):CF (l.map fun p=>(eK p.1,f p.2)) (eK k) (f z) false=f ((Al l k).getD z):=by simp_all[CF,X6,Al]
theorem QN(l:List (κ×α))(k q:κ)(v:α):Al (AM l k v) q=if q=k then some v else Al l q:=by
 induction l with
 |nil=>simp only[AM,Al];by_cases e:k=q<;>simp[e,eq_comm]
 |cons p r ih=>
  simp only[AM];by_cases e:p.1=k
  ·simp only[e,Zad,Al];grind
  ·simp only[e,Zag,Al,ih];grind
theorem Kl(l:List (κ×α))(k:κ)(v:α):(AM l k v).map (·.1)=if k∈l.map (·.1)then l.map (·.1)else l.map (·.1)++[k]:=by
 induction l with
 |nil=>simp[AM]
 |cons p r ih=>simp only[AM];grind
theorem lN(l:List (κ×α))(k:κ)(v:α):∀p∈AM l k v,p=(k,v)\/p∈l:=by
 induction l with
 |nil=>intro p hp;simp[AM]at hp;exact .inl hp
 |cons q r ih=>grind[AM]
theorem aget_mem{l:List (κ×α)}{k:κ}{v:α}(h:Al l k=some v):(k,v)∈l:=by
 induction l with
 |nil=>cases h
 |cons p r ih=>grind[Al]
theorem aget_some{l:List (κ×α)}{k:κ}(h:k∈l.map (·.1)):∃v,Al l k=some v:=by
 induction l with
 |nil=>simp at h
 |cons p r ih=>
  simp only[Al];by_cases e:p.1=k
  ·exact⟨_,by rw[Zaa e]⟩
  ·simp only[Ze1,Zfb]at h;obtain⟨v,hv⟩:=ih (h.resolve_left (Ne.symm e));exact⟨v,by rw[Zac e];exact hv⟩
theorem aput_len(l:List (κ×α))(k:κ)(v:α):(AM l k v).length<=l.length+1:=by have:=Zae List.length (Kl l k v);grind
end
theorem Jd:Ly I.str:=fun a b=>by grind[A3,cellsI,Dr]
end Go.Dl
end
