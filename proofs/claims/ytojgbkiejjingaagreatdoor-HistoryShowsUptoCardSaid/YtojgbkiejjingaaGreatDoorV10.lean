/-Lemmas.-/
import Derived.Test.YtojgbkiejjingaaGreatDoorV9
import Derived.ChangeArms
import Derived.Deep.Slices
import Derived.Carry
import Derived.OpenShut
import Derived.Deep.DeepHandedRow
set_option linter.all false
section
namespace Go.Dl
open Go Go.RowKit
variable{nm e k:Nat}{mv:List Nat}{sto l:List (Nat×Blk)}{b b':Blk}{f:FuncId}{args:List D}{R:D->List (Nat×Blk)->Prop}{μ:Place}{w:World}
def X7(r:Option (List (List I)))(l:Nat):Option (Nat×List (List I)):=match r with|some r=>some (l,r)|none=>none
def D1(W:(Exit->St->Prop)->St->Prop)(K:Exit->St->Prop):Exit->St->Prop
 |.normal,s=>W K s
 |_,_=>False
section
variable {P:Program}{GL:List (Nat×List I)}
def V40:=cj @step.eq_54 (cj @step.eq_55 (cj @step.eq_56 (cj @step.eq_57 (cj @step.eq_58 (cj @step.eq_59 (cj @step.eq_60 (cj @step.eq_61 (cj @step.eq_62 (cj @step.eq_64 (cj @step.eq_63 @step.eq_32))))))))))
theorem V41(st:St):
  (∀d ls,AA GL (.mkgm d ls) st=[])/\(∀d x q z ok ls,AA GL (.lookg d x q z ok ls) st=[])/\(∀x q v ls,AA GL (.mupdg x q v ls) st=[])/\(∀d x q z ls e k,AA GL (.ment d x q z ls e k) st=[])/\(∀x s v,AA GL (.ests x s v) st=[])/\(∀d x,AA GL (.cap d x) st=[])/\
  (∀d x y e k,AA GL (.cpy d x y e k) st=[])/\(∀d x z,AA GL (.clr d x z) st=[])/\(∀d e k b z n,AA GL (.mksl d e k b z n) st=[])/\(∀d x lo hi mx,AA GL (.slc3 d x lo hi mx) st=[])/\(∀d e k b x n z,AA GL (.appz d e k b x n z) st=[])/\(∀d f e k os,AA GL (.calln d f e k os) st=[]):=by
 and_intros<;>intros<;>rfl
theorem lO (st:St)(K:St->Prop):
  (∀x key z ok ls d,IX (.i x) key z ok ls d st K=EY (.i x) key z ok ls d st K)/\(∀ls' es ls q z ok d,IW (some (.map ls' es)) ls q z ok d st K=Hp (some (.map ls' es)) ls q z ok d st K)/\(∀v z d,ED false (some v) z d st K=K (st.put d v))/\(∀z d,ED false none z d st K=K (st.put d (.i z)))/\(∀z d,ED true none z d st K=K (st.put d (.i (.tup [z,.bool false]))))/\(∀x z d,ED true (some (.i x)) z d st K=K (st.put d (.tup [.i x,.i (.bool true)])))/\(∀r z d,ED true (some (.ref r)) z d st K=K (st.put d (.tup [.ref r,.i (.bool true)]))):=by
 and_intros<;>intros<;>rfl
def V42:=cj @K9.eq_1 (cj @IX.eq_1 (cj @IW.eq_1 (cj @Lb.eq_1 (cj @IY.eq_1 (cj @IY.eq_2 (cj @JW.eq_1 (cj @Lc.eq_1 (cj @JX.eq_1 (cj @Ld.eq_1 (cj @JY.eq_1 (cj @Lg.eq_1 (cj @JZ.eq_1 (cj @Lh.eq_1 (cj @I1.eq_1 (cj @I1.eq_2 (cj @MD.eq_1 (cj @J0.eq_1 (cj @J0.eq_2 (cj @Li.eq_1 (cj @J3.eq_1 (cj @IT.eq_2 (cj @Mo.eq_1 @lO))))))))))))))))))))))
theorem lP:
  (∀σ nm k lo hi top,H5 σ (.ref (.sl nm k lo hi)) top=X7 (Le (σ nm) k lo (min hi (lo+top))) (hi-lo))/\(∀e k rs,inM (some (.arr e k rs))=[]):=by
 and_intros<;>intros<;>rfl
def V43:=cj @Hq.eq_1 (cj @ME.eq_1 (cj @GF.eq_1 (cj @GF.eq_2 (cj @H5.eq_1 (cj @X7.eq_1 (cj @Le.eq_1 (cj @Le.eq_2 (cj @D1.eq_1 (cj @Fr.eq_3 (cj @Fr.eq_4 (cj @Fr.eq_2 (cj @inM.eq_3 (cj @inM.eq_2 (cj @D.nms.eq_3 (cj @Ez.eq_3 @lP)))))))))))))))
theorem lQ:
  (∀d e k rs,Ey d (.arr e k rs)=.arr e k rs)/\(∀f e k rs,KL f (.arr e k rs)=.arr e k rs):=by
 and_intros<;>intros<;>rfl
def V44:=cj @Ey.eq_3 (cj @Ey.eq_2 (cj @CW.eq_3 (cj @KL.eq_3 (cj @KL.eq_2 (cj @I8.eq_3 @lQ)))))
attribute [go_sem] V40 V41 V42 V43 V44
end
@[congr] theorem aHv{a b c d e f}(h:a=b):K9 a c d e f=K9 b c d e f:=h▸rfl
@[congr] theorem aHw{a b c d e f g i j l}(h:a=b)(k:c=d):IX a c e f g i j l=IX b d e f g i j l:=h▸k▸rfl
@[congr] theorem aHx{a b c d e f g i j l}(h:a=b)(k:d=e):IW a c d f g i j l=IW b c e f g i j l:=h▸k▸rfl
@[congr] theorem aHy{a b c d e f g}(h:b=c):ED a b d e f g=ED a c d e f g:=h▸rfl
@[congr] theorem aHz{a b c d e f g i j}(h:a=b)(k:c=d)(H:e=f):Lb a c e g i j=Lb b d f g i j:=h▸k▸H▸rfl
@[congr] theorem aI0{a b c d e f g i j l}(h:a=b)(k:e=f)(H:g=i):IY a c d e g j l=IY b c d f i j l:=h▸k▸H▸rfl
@[congr] theorem aI1{a b c d e f g i j l m}(h:a=b)(k:c=d):JW a c e f g i j l m=JW b d e f g i j l m:=h▸k▸rfl
@[congr] theorem aI2{a b c d e f g i j l m n}(h:a=b)(k:f=g):JV a c d e f i j l m n=JV b c d e g i j l m n:=h▸k▸rfl
@[congr] theorem aI3{a b c d e f g i}(h:a=b)(k:c=d)(H:e=f):Lc a c e g i=Lc b d f g i:=h▸k▸H▸rfl
@[congr] theorem aI4{a b c d e f g i j}(h:a=b)(k:d=e)(H:f=g):JX a c d f i j=JX b c e g i j:=h▸k▸H▸rfl
@[congr] theorem aI5{a b c d e}(h:a=b):Ld a c d e=Ld b c d e:=h▸rfl
@[congr] theorem aI6{a b c d e f g i j}(h:a=b)(k:c=d)(H:e=f):JY a c e g i j=JY b d f g i j:=h▸k▸H▸rfl
@[congr] theorem aI7{a b c d e f g i j}(h:a=b)(k:c=d):Lg a c e f g i j=Lg b d e f g i j:=h▸k▸rfl
@[congr] theorem aI8{a b c d e f g i j l m n o p q}(h:a=b)(k:e=f)(H:g=i)(I:j=l):JZ a c d e g j m n o p q=JZ b c d f i l m n o p q:=h▸k▸H▸I▸rfl
@[congr] theorem aI9{a b c d e f}(h:a=b):Lh a c d e f=Lh b c d e f:=h▸rfl
@[congr] theorem aIa{a b c d e f g i j l m n}(h:a=b)(k:e=f)(H:g=i):I1 a c d e g j l m n=I1 b c d f i j l m n:=h▸k▸H▸rfl
@[congr] theorem aIb{a b c d e f g i j l m}(h:a=b)(k:c=d):MD a c e f g i j l m=MD b d e f g i j l m:=h▸k▸rfl
@[congr] theorem aIc{a b c d e f g i j l m}(h:a=b)(k:c=d)(H:e=f)(I:g=i):J0 a c e g j l m=J0 b d f i j l m:=h▸k▸H▸I▸rfl
@[congr] theorem aId{a b c d e f g i j l m n o p q r s t u}(h:a=b)(k:c=d)(H:i=j)(I:l=m)(h0:n=o):J2 a c e f g i l n p q r s t u=J2 b d e f g j m o p q r s t u:=h▸k▸H▸I▸h0▸rfl
@[congr] theorem aIe{a b c d e f g i j l m n o p q r s t u v}(h:a=b)(k:e=f)(H:j=l)(I:m=n)(h0:s=t):Tv a c d e g i j m o p q r s u v=Tv b c d f g i l n o p q r t u v:=h▸k▸H▸I▸h0▸rfl
@[congr] theorem aIf{a b c d e f g i j l m}(h:a=b)(k:c=d):Li a c e f g i j l m=Li b d e f g i j l m:=h▸k▸rfl
@[congr] theorem aIg{a b c d e f g i j l m n o p q r s t u}(h:a=b)(k:c=d)(H:g=i)(I:j=l)(h0:q=r):J3 a c e f g j m n o p q s t u=J3 b d e f i l m n o p r s t u:=h▸k▸H▸I▸h0▸rfl
@[congr] theorem aIh{a b c d e f g i j l m}(h:c=d):Mo a b c e f g i j l m=Mo a b d e f g i j l m:=h▸rfl
@[congr] theorem aIi{a b c d e}(h:d=e):D1 a b c d=D1 a b c e:=h▸rfl
section
variable {P:Program}{GL:List (Nat×List I)}
theorem OU{n:Nat}{og:O}{ps:List Nat}{a b:J}{K:Exit->St->Prop}{st:St}{gf:FuncId}{caps:List I}{xs:List (List I)}(hg:AZ GL st og=.i (.fn gf [] caps))(ku:Ck P gf=true)(hq:Hv P GL gf caps xs)
  (f:List (Nat×Nat))(L:List D)(m:Nat->List (Nat×Blk))(mv:List Nat)(N:Nat)(jm:Jm)(h1:N<=xs.length/\(jm=.none->N=xs.length)/\(jm≠.none->0<N))(h2:okV mv=true)(h3:∀j,j<=N->Sj mv (m j)=true/\Kg (m j)=true/\okL (m j) L=true/\(m j).map (·.1)=(m 0).map (·.1))
  (h4:L.length=n)(h5:Hw f 0 L st.env)(h6:KN f 5499=5499)(h7:Be (IL (IM f) (m 0)) st.sto)
  (h8:∀j,j<N->(xs.getD j []).length=ps.length/\W2 P GL a (D1 (W2 P GL b) (fi (m (j+1)) (if j+1=N then jm else .none))) ⟨.l (EG ps (xs.getD j []) (DK 0 L)),m j⟩)
  (h9:Tb st (mv.map (IM f)) (IL (IM f) (m 0)) (IL (IM f) (m N)) (K jm.ex)):W2 P GL (.rf n og ps a b) K st:=
 ⟨gf,caps,Nat,0,_,_,hg,ku,hq.g,f,L,fun j=>m (min j N),mv,fun j=>if N<=j then jm else .none,by
  show(if N<=0 then jm else Jm.none)=.none;split
  ·cases hj:jm with
   |none=>rfl
   |_=>have:=h1.2.2 (by rw[hj];simp);omega
  ·rfl,h2,fun j=>by have q:=h3 _ (Nat.min_le_right j N);exact⟨q.1,q.2.1,q.2.2.1,by simp only[Zha];exact q.2.2.2⟩,h4,h5,h6,by simp only[Zha];exact h7,fun j x j' ⟨hx1,hx2,hx3⟩ hj=>by
   have hjN:j<N:=by grind
   subst hx2;subst hx3;have e1:min j N=j:=by omega
   have e2:min (j+1) N=j+1:=by omega
   have e3:(if N<=j+1 then jm else Jm.none)=if j+1=N then jm else .none:=by grind
   simp only[e1,e2,e3];exact⟨(h8 j hjN).1,DZ a (h8 j hjN).2 fun e s hs=>by
    cases e with
    |normal=>exact⟨_,.inl rfl,hs⟩
    |_=>exact hs⟩,fun j hj=>by
   have hjN:N<=j:=by grind
   simp only[Zaa hjN,Zha,Nat.min_eq_right hjN];exact h9⟩
theorem lR{n:Nat}{og:O}{ps:List Nat}{a b:J}{K:Exit->St->Prop}{st:St}{gf:FuncId}{caps:List I}{ι:Type}{i0:ι}{Nx:ι->List I->ι->Prop}{Fin:ι->Prop}(hg:AZ GL st og=.i (.fn gf [] caps))(ku:Ck P gf=true)(hq:Ja P GL gf caps ι i0 Nx Fin)
  (f:List (Nat×Nat))(L:List D)(m:ι->List (Nat×Blk))(mv:List Nat)(jm:ι->Jm)(h1:jm i0=.none)(h2:okV mv=true)(h3:∀i,Sj mv (m i)=true/\Kg (m i)=true/\okL (m i) L=true/\(m i).map (·.1)=(m i0).map (·.1))
  (h4:L.length=n)(h5:Hw f 0 L st.env)(h6:KN f 5499=5499)(h7:Be (IL (IM f) (m i0)) st.sto)
  (h8:∀i x i',Nx i x i'->jm i=.none->x.length=ps.length/\W2 P GL a (D1 (W2 P GL b) (fi (m i') (jm i'))) ⟨.l (EG ps x (DK 0 L)),m i⟩)
  (h9:∀i,(jm i≠.none\/Fin i)->Tb st (mv.map (IM f)) (IL (IM f) (m i0)) (IL (IM f) (m i)) (K (jm i).ex)):W2 P GL (.rf n og ps a b) K st:=
 ⟨gf,caps,ι,i0,Nx,Fin,hg,ku,hq,f,L,m,mv,jm,h1,h2,h3,h4,h5,h6,h7,fun i x i' hx hi=>⟨(h8 i x i' hx hi).1,DZ a (h8 i x i' hx hi).2 fun e s hs=>by
  cases e with
  |normal=>exact⟨_,.inl rfl,hs⟩
  |_=>exact hs⟩,h9⟩
theorem OV{mv:List Nat}:∀{l:List (Nat×Blk)},Ea (l.map (·.1))=true->∀s,(∀m b,Aa l m=some b->Aa s m=some b)->Be l s
 |[],_,s,_=>trivial
 |(k,b)::r,h,s,hs=>by obtain⟨h1,h2⟩:=S9 h;refine⟨hs k b (by simp[Aa]),OV (mv:=mv) h2 s fun m c hm=>hs m c ?_⟩;grind[Aa,Cl,names]
def TA(l:List (Nat×Blk)):Bool:=(l.map (·.1)).all (fun q=>Nat.blt q 5000)&&Ea (l.map (·.1))&&l.all fun p=>Oe l p.2.nms
theorem lU{c:Cp}(h:∀q∈c.nms,q<5000)(hn:5000<=nm):fc nm (.iter none []) c=c:=by
 cases c with
 |ref r=>simp only[fc,VP];rw[Zac];have:=h r.nm (by simp[Cp.nms]);omega
 |_=>rfl
theorem X8{l:List Cp}(h:∀q∈l.flatMap Cp.nms,q<5000)(hn:5000<=nm):l.map (fc nm (.iter none []))=l:=by
 conv=>rhs;rw[<-Ze3 l]
 exact Ze0 fun c hc=>lU (fun q hq=>h q (Zff.2 ⟨c,hc,hq⟩)) hn
theorem TB{d:D}(h:∀q∈d.nms,q<5000)(hn:5000<=nm):PZ nm (.iter none []) d=d:=by
 cases d with
 |ref r=>have:=h r.nm (by simp[D.nms]);simp only[PZ,VP];rw[Zac (by omega)];rfl
 |fn f x y=>simp_all[D.nms,PZ,X8]
 |tup cs=>simp only[PZ];rw[X8 h hn]
 |_=>rfl
theorem X9{d:D}(h:∀q∈d.nms,q<5000):∀{l:List Nat},(∀nm∈l,5000<=nm)->Mn l d=d
 |[],_=>rfl
 |nm::r,hl=>by simp only[Mn];rw[TB h (hl nm Zfd)];exact X9 h fun q hq=>hl q (Zfc _ hq)
theorem lV(h:∀q∈b.nms,q<5000)(hn:5000<=nm):eW nm (.iter none []) b=b:=by
 have go:∀l:List D,(∀q∈l.flatMap D.nms,q<5000)->l.map (PZ nm (.iter none []))=l:=fun l hl=>by
  conv=>rhs;rw[<-Ze3 l]
  exact Ze0 fun c hc=>TB (fun q hq=>hl q (Zff.2 ⟨c,hc,hq⟩)) hn
 cases b with
 |cells cs=>simp only[eW];rw[go cs h]
 |lp l q cs=>simp only[eW];rw[go cs h]
 |gmap ls clk es=>
  simp only[eW];congr 1
  conv=>rhs;rw[<-Ze3 es]
  exact Ze0 fun e he=>by simp only[id_eq];rw[TB (fun q hq=>h q (Zff.2 ⟨e,he,hq⟩)) hn]
 |_=>rfl
theorem Ya{b:Blk}(h:∀q∈b.nms,q<5000):∀{l:List Nat},(∀nm∈l,5000<=nm)->Oh l b=b
 |[],_=>rfl
 |nm::r,hl=>by simp only[Oh];rw[lV h (hl nm Zfd)];exact Ya h fun q hq=>hl q (Zfc _ hq)
theorem Ii(h:Sj mv l=true):∀q,names l q->5000<=q/\q<6000:=fun q hq=>by simp only[Sj,Zbz,Zcu]at h;have:=h.1.1 q (Cl.2 hq);simp only[Zcb,Zbz,Zgo,Zgp]at this;omega
theorem Yb{d:Nat}(hd:d<1000){x:D}(h:∀q∈x.nms,5000<=q/\q<6000):CW d x=x:=by
 have rn:∀q,5000<=q/\q<6000->ren d q=q:=fun q hq=>by grind[ren]
 have rR:∀r:Ref,5000<=r.nm/\r.nm<6000->JN d r=r:=fun r hr=>by cases r<;>simp only[Ref.nm]at hr<;>simp only[JN,rn _ hr]
 have rC:∀c:Cp,(∀q∈c.nms,5000<=q/\q<6000)->JO d c=c:=fun c hc=>by
  cases c with
  |ref r=>simp only[JO];rw[rR r (hc r.nm (by simp[Cp.nms]))]
  |_=>rfl
 have rCs:∀l:List Cp,(∀q∈l.flatMap Cp.nms,5000<=q/\q<6000)->l.map (JO d)=l:=fun l hl=>by
  conv=>rhs;rw[<-Ze3 l]
  exact Ze0 fun c hc=>rC c fun q hq=>hl q (Zff.2 ⟨c,hc,hq⟩)
 cases x with
 |ref r=>simp only[CW];rw[rR r (h r.nm (by simp[D.nms]))]
 |fn f x y=>simp only[D.nms,Ze9]at h;simp only[CW];rw[rCs x (fun q hq=>h q (.inl hq)),rCs y (fun q hq=>h q (.inr hq))]
 |tup cs=>simp only[CW];rw[rCs cs h]
 |_=>rfl
theorem lW{d:Nat}(hd:d<1000){b:Blk}(h:∀q∈b.nms,5000<=q/\q<6000):Ey d b=b:=by
 have go:∀l:List D,(∀q∈l.flatMap D.nms,5000<=q/\q<6000)->l.map (CW d)=l:=fun l hl=>by
  conv=>rhs;rw[<-Ze3 l]
  exact Ze0 fun c hc=>Yb hd fun q hq=>hl q (Zff.2 ⟨c,hc,hq⟩)
 cases b with
 |cells cs=>simp only[Ey];rw[go cs h]
 |lp l q cs=>simp only[Ey];rw[go cs h]
 |gmap ls clk es=>
  simp only[Ey];congr 1
  conv=>rhs;rw[<-Ze3 es]
  exact Ze0 fun e he=>by simp only[id_eq];rw[Yb hd (fun q hq=>h q (Zff.2 ⟨e,he,hq⟩))]
 |_=>rfl
theorem Yc{d:Nat}(hd:d<1000):∀{l:List (Nat×Blk)},(∀p∈l,(5000<=p.1/\p.1<6000)/\∀q∈p.2.nms,5000<=q/\q<6000)->A7 d l=l
 |[],_=>rfl
 |(k,b)::r,h=>by simp only[A7];have h0:=h _ Zfd;simp only at h0;rw[lW hd h0.2,Yc hd fun p hp=>h p (Zfc _ hp)];grind[ren]
theorem TC{T:List (Nat×Blk)}(h:PW T l=true):∀p∈l,∀q∈p.2.nms,names T q:=by
 induction l with
 |nil=>intro p hp;simp at hp
 |cons x r ih=>obtain⟨k,b⟩:=x;simp only[PW,Zbz]at h;intro p hp q hq;grind[E1]
theorem lX(h:Sj mv l=true){d:Nat}(hd:d<1000):A7 d l=l:=by refine Yc hd fun p hp=>⟨Ii h p.1 (Cl.1 (Zfh.2 ⟨p,hp,rfl⟩)),fun q hq=>Ii h q (TC (EH h) p hp q hq)⟩
theorem Yd{r:List (Nat×Blk)}{m:Nat}(h:Aa l m=none):Aa (l++r) m=Aa r m:=by rw[JP,h]
theorem TD{mk:List (Nat×Blk)}{get:St->Option (FuncId×List D)}{E0:Env}{own mj:List (Nat×Blk)}{d:Option Nat}{K:St->Prop}{y:FuncId}{xs:List I}{r0:I}(hy:MC P GL y (xs.map .i) mj mv (fun r s=>r=.i r0/\s=mk))(hd:∀s,d=some s->s<999)
  (ki:get ⟨E0,own++mj⟩=some (y,xs.map .i))(hj:Sj mv mj=true)(hk:Sj mv mk=true)(hn:mk.map (·.1)=mj.map (·.1))(hV:okV mv=true)(ho:TA own=true)(ks:List Nat){E:List (Nat×D)}(hE:Ei E0 ks=E)(hl:(E.all fun p=>Oe own p.2.nms)=true)
  (k:K (putO ⟨.l E,own++mk⟩ d (.i r0))):Ah P GL get ⟨E0,own++mj⟩ d K:=by
 have hd9:d.getD 999<1000:=by
  cases d with
  |none=>simp
  |some s=>have:=hd s rfl;simp only[Zhh];omega
 simp only[TA,Zbz]at ho;obtain⟨⟨ho1,ho2⟩,ho3⟩:=ho;have olow:∀q,names own q->q<5000:=fun q hq=>by rw[Zcu]at ho1;have:=ho1 q (Cl.2 hq);simpa using this
 have dis:∀q,names own q->Aa mj q=none:=fun q hq=>by
  cases hg:Aa mj q with
  |none=>rfl
  |some b=>have:=Ii hj q (by simp[names,hg]);have:=olow q hq;omega
 have dis':∀q,names mj q->Aa own q=none:=fun q hq=>by
  cases hg:Aa own q with
  |none=>rfl
  |some b=>have:=Ii hj q hq;have:=olow q (by simp[names,hg]);omega
 have dis2:∀q,names mk q->Aa own q=none:=fun q hq=>by
  cases hg:Aa own q with
  |none=>rfl
  |some b=>have:=Ii hk q hq;have:=olow q (by simp[names,hg]);omega
 have okn:∀{l:List (Nat×Blk)},Sj mv l=true->Ea (l.map (·.1))=true:=fun h=>by simp only[Sj,Zbz]at h;exact h.2
 refine⟨[],?_⟩;show match get ⟨E0,own++mj⟩with|some (f,ds)=>_|none=>False
 rw[ki];refine .inr (.inr ⟨mj,mv,_,hy,?_,EH hj,?_,?_,?_⟩)
 ·refine OV (mv:=mv) (okn hj) _ fun m b hm=>?_
  show Aa (own++mj) m=some b;rw[Yd (dis' m (by simp[names,hm]))];exact hm
 ·rw[Zcu];intro x hx;obtain⟨z,_,rfl⟩:=Zfh.1 hx;rfl
 ·rw[Zcu];intro q hq;unfold okV at hV;rw[Zcu]at hV;have:=hV q hq;simp only[Zbz,Zgo,Zgp]at this;simp only[Zcb,Zgp,Zgo];omega
 ·rintro r s ⟨rfl,hs⟩;have hs:=hs.symm;subst hs;have hren:=lX hk hd9;refine⟨fun nm hm=>?_,fun nm hm _=>?_,r0,⟨.l E,own++mk⟩,rfl,?_,k⟩
  ·rw[hren,hn]at hm;exact .inl (Cl.1 hm)
  ·have h1:=Ii hj nm (Cl.1 hm);unfold ren;rw[Zac (by omega),Zac (by omega),Zac (by omega),Zac (by omega)]
  ·have hgone:∀q∈KR mj mk mv,5000<=q:=fun q hq=>by unfold KR at hq;exact(Ii hj q (Cl.1 (Zfe.1 hq).1)).1
   have hap:∀q,names own q->names (own++mk) q:=fun q hq=>by obtain⟨b,hb⟩:=Zhi.1 hq;simp only[names,JP,hb,Zhk]
   have hap2:∀q,names mk q->names (own++mk) q:=fun q hq=>by simp only[names,Yd (dis2 q hq)];exact hq
   simp only[Ds,hren,frzNs];refine⟨?_,?_,?_,?_⟩
   ·subst hE;clear k
    induction ks with
    |nil=>trivial
    |cons s r ih=>simp only[Ei,Zct,Zbz]at hl;refine⟨?_,ih hl.2⟩;rw[Sn];exact X9 (fun q hq=>olow q (E1 hl.1 q hq)) hgone
   ·refine OV (mv:=mv) ?_ _ fun m b hm=>?_
    ·have h1:∀x∈own.map (·.1),x∉mk.map (·.1):=fun x hx hx'=>by have:=dis2 x (Cl.1 hx');have:=Cl.1 hx;simp_all[names]
     have nd:∀{l r:List Nat},Ea l=true->Ea r=true->(∀x∈l,x∉r)->Ea (l++r)=true:=fun{l r}=>by
      induction l with
      |nil=>intro _ h _;exact h
      |cons a l ih=>
       intro ha hb hc;obtain⟨a1,a2⟩:=S9 ha;simp only[Zc3,Ea,Zbz,Zb7];refine⟨?_,ih a2 hb fun x hx=>hc x (Zfc _ hx)⟩;cases hcc:(l++r).contains a with
       |false=>rfl
       |true=>
        rcases Ze9.1 (Zc4.1 hcc)with q|q
        ·exact(a1 q).elim
        ·exact(hc a Zfd q).elim
     rw[Zez];exact nd ho2 (okn hk) h1
    ·rw[JP]at hm⊢;cases ho:Aa own m with
     |some c=>
      rw[ho]at hm;cases hm;have hno:names own m:=by simp[names,ho]
      have vg:Aa mk m=none:=by
       cases hg:Aa mk m with
       |none=>rfl
       |some b'=>have:=dis2 m (by simp[names,hg]);rw[this]at ho;cases ho
      rw[vg];simp only;rw[P2,P3,Zac (fun hc=>by have:=dis' m (Cl.1 hc);rw[this]at ho;cases ho),JP,ho]
      simp only[Zhn,Zhp];refine Ya (fun q hq=>olow q ?_) hgone;rw[Zcu]at ho3;have kw:∃p∈own,p.2=b:=by
       clear hl hE ki k ho1 ho2 ho3 olow dis dis' dis2 hap hap2 hno
       induction own with
       |nil=>cases ho
       |cons x r ih=>
        obtain⟨k0,b0⟩:=x;simp only[Aa]at ho;split at ho
        ·cases ho;exact⟨_,Zfd,rfl⟩
        ·obtain⟨p,hp,e⟩:=ih ho;exact⟨p,Zfc _ hp,e⟩
      obtain⟨p,hp,rfl⟩:=kw;exact E1 (ho3 p hp) q hq
     |none=>rw[ho]at hm;simp only at hm;rw[hm]
   ·have go:∀l:List (Nat×D),(l.all fun p=>Oe own p.2.nms)=true->clE (own++mk) l=true:=fun l=>by
     induction l with
     |nil=>intro _;rfl
     |cons x l ih=>obtain⟨s,z⟩:=x;intro h;simp only[Zct,Zbz]at h;simp only[clE,Zbz];refine⟨?_,ih h.2⟩;simp only[Oe,Zcu];intro q hq;exact hap q (E1 h.1 q hq)
    exact go E hl
   ·have go:∀l:List (Nat×Blk),(∀p∈l,∀q∈p.2.nms,names (own++mk) q)->PW (own++mk) l=true:=fun l=>by
     induction l with
     |nil=>intro _;rfl
     |cons x l ih=>obtain⟨s,z⟩:=x;intro h;simp only[PW,Zbz];refine⟨?_,ih fun p hp=>h p (Zfc _ hp)⟩;simp only[Oe,Zcu];intro q hq;exact h _ Zfd q hq
    refine go _ fun p hp q hq=>?_
    rcases Ze9.1 hp with hp|hp
    ·rw[Zcu]at ho3;exact hap q (E1 (ho3 p hp) q hq)
    ·exact hap2 q (TC (EH hk) p hp q hq)
theorem Je:names ((nm,b)::sto)=names ((nm,b')::sto):=by grind[names,Aa]
theorem StoOk.conv{S:Nat->Prop}{M:Mem}(h:StoOk S M μ ((nm,b)::sto) w)(hb:AP S M μ (names ((nm,b)::sto)) w nm b->AP S M μ (names ((nm,b)::sto)) w nm b'):StoOk S M μ ((nm,b')::sto) w where
 sub:=h.sub
 blk:=fun m x hx=>by
  rw[<-Je (b:=b)];simp only[Aa]at hx;by_cases e:nm=m
  ·subst e;rw[Zaa rfl]at hx;cases hx;exact hb (h.blk nm b (by simp[Aa]))
  ·rw[Zac e]at hx;exact h.blk m x (by simp only[Aa];rw[Zac e];exact hx)
 sep:=fun m m' k k' jg h1 h2=>h.sep m m' k k' jg (by rw[Je (b':=b')];exact h1) (by rw[Je (b':=b')];exact h2)
 low:=h.low
theorem QO:AL μ ((nm,b)::sto) w=AL μ ((nm,b')::sto) w:=by unfold AL;rw[Je (b':=b')]
theorem TE{rs:List (List I)}(h:∀c,MC P GL f args ((nm,.arr e k (rs.map some++List.replicate c none))::sto) mv R):
  MC P GL f args ((nm,.rows e k rs)::sto) mv R:=by
 intro M μ w vs kr qp jr;obtain⟨a,cap,hμ,hh⟩:=kr.blk nm (.rows e k rs) (by simp[Aa]);have hrc:rs.length<=cap:=by grind
 have hl:(rs.map some++List.replicate (cap-rs.length) (none:Option (List I))).length=cap:=by simp;omega
 have h1:=kr.conv (b':=.arr e k (rs.map some++List.replicate (cap-rs.length) none)) fun _=>⟨a,by rw[hl];exact hμ,by
  rcases hh with⟨rfl,rfl⟩|⟨b,o,cur,rfl,hc,ho,q1,q2,q3,q4⟩
  ·exact .inl rfl
  ·refine .inr ⟨b,o,cur,rfl,fun e=>by rw[e]at hl;simp at hl;omega,ho,by rw[hl];exact q1,by rw[hl];exact q2,fun i r hr=>?_⟩;by_cases hi:i<rs.length
   ·rw[Zdy (by simpa using hi)]at hr;exact Qg.1 q4 i r hr
   ·rw[Zdz (by simpa using hi),Zd6]at hr;split at hr<;>cases hr⟩
 have:=h (cap-rs.length) M μ w vs (by rw[QO (b':=.rows e k rs)];exact h1) qp (by rw[Je (b':=.rows e k rs)];exact jr);rw[QO (b':=.rows e k rs),Je (b':=.rows e k rs)]at this;exact this
theorem AP.rowsOf{S:Nat->Prop}{M:Mem}{N:Nat->Prop}{rows:List (List I)}{j:List (Option (List I))}(hb:AP S M μ N w nm (.arr e k (rows.map some++j))):AP S M μ N w nm (.rows e k rows):=by
 obtain⟨a,hμ,hh⟩:=hb;refine⟨a,_,hμ,?_⟩;rcases hh with hh|⟨b,o,cur,rfl,jg,ho,q1,q2,q3⟩
 ·have h1:=Zae List.length hh;simp at h1;exact .inl ⟨by simp[h1.1,h1.2],h1.1⟩
 ·refine .inr ⟨b,o,cur,rfl,by cases hx:(rows.map some++j)<;>simp_all,ho,q1,q2,by simp,Qg.2 fun i r hr=>?_⟩;have hi:i<rows.length:=by have:=(Zd4.1 hr).1;simpa using this
  exact q3 i r (by rw[Zdy (by simpa using hi)];exact hr)
theorem MC.arrIn{rs:List (List I)}(h:MC P GL f args ((nm,.rows e k rs)::sto) mv R)(j:List (Option (List I))):
  MC P GL f args ((nm,.arr e k (rs.map some++j))::sto) mv R:=by
 intro M μ w vs kr qp jr;have h1:=kr.conv (b':=.rows e k rs) AP.rowsOf
 have:=h M μ w vs (by rw[QO (b':=.arr e k (rs.map some++j))];exact h1) qp (by rw[Je (b':=.arr e k (rs.map some++j))];exact jr);rw[QO (b':=.arr e k (rs.map some++j)),Je (b':=.arr e k (rs.map some++j))]at this;exact this
theorem MC.rowsOut{R':D->List (Nat×Blk)->Prop}(h:MC P GL f args sto mv R)
  (hR:∀r s,R r s->∃nm e k rows j s0,s=(nm,Blk.arr e k (List.map some rows++j))::s0/\R' r ((nm,.rows e k rows)::s0)):MC P GL f args sto mv R':=by
 intro M μ w vs kr qp jr;refine(h M μ w vs kr qp jr).mono ?_;rintro v w' ⟨r,s,M',μ',hr,q1,q2,q3⟩;obtain⟨nm,e,k,rows,j,s0,rfl,vl⟩:=hR r s hr;exact⟨r,_,M',μ',vl,q1.conv AP.rowsOf,by rw[Je (b':=.arr e k (rows.map some++j))];exact q2,q3⟩
theorem MC.frz{R':D->List (Nat×Blk)->Prop}(h:MC P GL f args sto mv R)
  (hR:∀r s,R r s->∃l,R' (Aj (frzNs l ⟨.l [(0,r)],s⟩).env 0) (frzNs l ⟨.l [(0,r)],s⟩).sto):MC P GL f args sto mv R':=by
 intro M μ w vs kr qp jr;refine(h M μ w vs kr qp jr).mono ?_;rintro v w' ⟨r,s,M',μ',hr,q1,q2,q3,q4,q5⟩;obtain⟨l,hl⟩:=hR r s hr;have h0:Rel GL 1 {(AL μ sto w)with q:=μ'} M' μ' ⟨.l [(0,r)],s⟩ {tmps:=#[v],defers:=(AL μ sto w).ds} w':=
  {toStoOk:=q1,small:=by decide,pin:=fun _ _=>rfl,defers:=rfl,size:=rfl,glob:=qp.mono q3.le,env:=fun t=>by
    simp only[Aj,Cv];split
    ·rename_i e;subst e;exact q2
    ·trivial}
 obtain⟨M2,h2,m2⟩:=h0.frzNs l;exact⟨_,_,M2,μ',hl,h2.toStoOk,h2.env 0,q3.trans m2,q4,q5⟩
theorem MC.sl{n:Nat}{rows:List (List I)}(h:MC P GL f args [] [] fun r s=>r=.ref (.sl 6000 k 0 n)/\s=[(6000,.rows e k rows)])(hn:n=rows.length:=by simp):MC P GL f args [] [] (fd (.sl rows)):=
 h.frz fun r s ⟨h1,h2⟩=>⟨[6000],by
  subst h1 h2 hn;simp[frzNs,St.frzN,St.frz,Aa,Fr,Aj,Cv,PZ,XT,cpR,Ref.nm,Sk,B6,fd,Cp.toD]⟩
end
end Go.Dl
end
section
namespace Go.Dl
open Go Go.RowKit
variable{K:St->Prop}{d:Nat}{st:St}{R:D->List (Nat×Blk)->Prop}{mv:List Nat}
@[go_sem] theorem aIj:(∀neg,Cw .sl neg (.i .nilsl) d st K=K (st.put d (.i (.bool (true !=neg)))))/\IS (.i .nilsl) d st K=K (st.put d (.i (.int .i64 0))):=⟨fun _=>rfl,rfl⟩
class Sx(p:Prop)(a b:outParam Prop):Prop where
 s:a->b->p
class Sz(p:Prop)(a:outParam Prop):Prop where
 s:a->p
section
variable {P:Program}{GL:List (Nat×List I)}
instance {s b w i r st K}:Sx (kP P GL s (.i (.bool b)) w i r st K) (b=true->kP P GL s (.i (.bool true)) w i r st K) (b=false->kP P GL s (.i (.bool false)) w i r st K):=⟨kR⟩
instance {s b w sn i r st K}:Sx (kQ P GL s (.i (.bool b)) w sn i r st K) (b=true->kQ P GL s (.i (.bool true)) w sn i r st K) (b=false->kQ P GL s (.i (.bool false)) w sn i r st K):=⟨kS⟩
instance {b a c K st}:Sx (GS P GL (.i (.bool b)) a c K st) (b=true->GS P GL (.i (.bool true)) a c K st) (b=false->GS P GL (.i (.bool false)) a c K st):=⟨OT⟩
instance {b d A C st K}:Sx (Eb (.i (.bool b)) d A C st K) (b=true->Eb (.i (.bool true)) d A C st K) (b=false->Eb (.i (.bool false)) d A C st K):=⟨kT⟩
instance {f os st d K}:Sx (Ah P GL (EX GL f os) st d K) ((os.all fun o=>JH (AZ GL (frzNs (oN GL st os) st) o))=true) (Ai P GL f (os.map fun o=>H1 (AZ GL (frzNs (oN GL st os) st) o)) (frzNs (oN GL st os) st) d K):=⟨OS⟩
instance {f os st d K}:Sx (Ed P GL (EX GL f os) os d st K) ((os.all fun o=>JH (AZ GL (frzNs (oN GL st os) st) o))=true) (Ai P GL f (os.map fun o=>H1 (AZ GL (frzNs (oN GL st os) st) o)) (frzNs (oN GL st os) st) d K):=⟨li⟩
instance {fo os st d K}:Sx (Ed P GL (DF GL fo os) (fo::os) d st K) (((fo::os).all fun o=>JH (AZ GL (frzNs (oN GL st (fo::os)) st) o))=true) (Hz P GL (AZ GL (frzNs (oN GL st (fo::os)) st) fo) (os.map fun o=>H1 (AZ GL (frzNs (oN GL st (fo::os)) st) o)) (frzNs (oN GL st (fo::os)) st) d K):=⟨lj⟩
instance {rs given mv y st}:Sz (Fy rs given mv (fd y) st) (MR (fd y) (Ie (frzNs (rsN rs st) st) rs)):=⟨HA⟩
theorem Av{s:Nat}{b w v:Bool}{i:Ins}{r blk r':List GI}{R:O}{e:Env}{so:List (Nat×Blk)}(h1:b=w->Dl.evD P GL [] (De s w blk) ⟨e,so⟩ (fun st'=>AZ GL st' R=.i (.bool v)))(h2:∀f,Dl.ev P GL r' ((CR f 0 (Co blk) ⟨e,so⟩).put d (.i (.bool (scV w b v)))) K)
  (hsp:GR s w (⟨some (s,w),i⟩::r)=some (blk,R,d,r'):=by exact rfl)(k8:E5 s w [] blk=true:=by exact rfl)(hs:Aj e s=.i (.bool b):=by simp only[V0,V1,Nat.reduceEqDiff,reduceIte]):kP P GL s (.i (.bool b)) w i r ⟨e,so⟩ K:=lv hsp k8 hs h1 h2
theorem CI{sn:List Nat}{s:Nat}{b w v:Bool}{i:Ins}{r blk r':List GI}{R:O}{e:Env}{so:List (Nat×Blk)}(h1:b=w->Dl.evD P GL sn (De s w blk) ⟨e,so⟩ (fun st'=>AZ GL st' R=.i (.bool v)))(h2:∀f,Dl.evD P GL sn r' ((CR f 0 (Co blk) ⟨e,so⟩).put d (.i (.bool (scV w b v)))) K)
  (hsp:GR s w (⟨some (s,w),i⟩::r)=some (blk,R,d,r'):=by exact rfl)(k8:E5 s w [] blk=true:=by exact rfl)(hs:Aj e s=.i (.bool b):=by simp only[V0,V1,Nat.reduceEqDiff,reduceIte]):kQ P GL s (.i (.bool b)) w sn i r ⟨e,so⟩ K:=lw hsp k8 hs h1 h2
theorem Dg{f:FuncId}{os:List O}{d:Option Nat}{ds:List D}{sto:List (Nat×Blk)}(h:MC P GL f ds sto mv R)(wy:os.map (AZ GL st)=ds)
  (k:∀r sto',R r sto'->((A7 (d.getD 999) sto').map (·.1)).all (fun nm=>(Aa sto nm).isSome||((Aa st.sto nm).isNone&&Nat.blt nm 5000))=true/\(sto.map (·.1)).all (fun nm=>(Aa sto' nm).isNone||ren (d.getD 999) nm==nm)=true/\K (putO (Ds st sto sto' mv (d.getD 999)) d (CW (d.getD 999) r)))
  (h1:Be sto st.sto:=by simp[V0,V1,V2,H0,V8,JJ,Ref.nm])(h2:(PW sto sto&&(ds.all fun x=>Oe sto x.nms)&&(mv.all fun m=>Nat.blt m 5000||Nat.ble 5500 m))=true:=by simp[V0,V1,V2,H0,V8,JJ,Ref.nm]):Ah P GL (EX GL f os) st d K:=Ig h wy h1 h2 k
theorem D2{f:FuncId}{os:List O}{ds:List D}(h:MC P GL f ds [] [] R)(wy:os.map (AZ GL st)=ds)
  (k:∀r sto',R r sto'->((A7 d sto').map (·.1)).all (fun nm=>(Aa st.sto nm).isNone&&Nat.blt nm 5000)=true/\K ((⟨st.env,A7 d sto'++st.sto⟩:St).put d (CW d r)))(hI:(ds.all JH)=true:=by exact rfl):MQ P GL f os d st K:=QE h wy hI k
abbrev Ye(P:Program)(GL:List (Nat×List I))(i:Nat)(h:List (Nat×List (List Nat)))(d:FD):Prop:=((P.funcs[i]?).bind fun f=>some (f.ntmps,f.body.bind (comp P GL f.ntmps d.a true d.b h),f.results.toList.mapM (Ic P),f.name != "runtime.NumGoroutine",Nat.blt i 1000000000,Nat.ble f.ntmps 999))=some (d.n,some d.c.ir,some d.l,true,true,true)
structure FP(P Q:Program)(G:Int->List (Nat×List I))(i:Nat) where
 d:FD
 e:List (Nat×List (List Nat))
 h:∀mx,Ye P (G mx) i e d
def FP.of{P Q:Program}{G:Int->List (Nat×List I)}{i:Nat}(f:Func)(a:List Nat:=[])(b:List (Nat×Nat):=[])(h:List (Nat×List (List Nat)):=[]){y:FD}(_e:mkF Q (G 0) f a b h=some y:=by conv=>lhs;cbv)(k:∀mx,Ye P (G mx) i h y:=by intro;show _=_;kernel_rfl):FP P Q G i:=⟨y,h,k⟩
theorem MX{Q:Program}{G:Int->List (Nat×List I)}{mx:Int}{i n:Nat}{a:List Nat}{b:List (Nat×Nat)}{l:List RV}{c:J}{sto:List (Nat×Blk)}{args:List D}(F:FP P Q G i)
  (hw:W2 P (G mx) c (Lu l (sto.map (·.1)) mv R) ⟨.l (DK 0 args),sto⟩)(hd:F.d=⟨n,a,b,l,c⟩:=by conv=>lhs;whnf)
  (jz:Nat.ble args.length n=true:=by exact rfl)(hpin:((sto.map (·.1)).all fun m=>(Nat.ble 5000 m&&Nat.blt m 5500)||mv.contains m)=true:=by exact rfl):MC P (G mx) i args sto mv R:=by
 have h:=F.h mx;rw[hd]at h;obtain⟨f,hf,e⟩:=Zhd.1 h;simp only[Zhp,Zhr]at e;obtain⟨e1,e2,e3,e4,e5,e6⟩:=e;rw[e1]at e2 e6;exact kO hf e4 e1 jz e6 e2 e3 hpin hw e5
theorem Dv{rs:List RV}{given:List Nat}(ks:List (Nat×Nat)){x:D}{s':List (Nat×Blk)}(h3:R (I8 (kf ks) x) (IL (kf ks) s'))(hx:Ie st rs=some x:=by(simp only[go_sem,simprocAttr,V10];rfl))(hs:Cn (ks.map (·.1)) st.sto=s':=by(simp[VL];rfl))
  (h1:OP given mv ks=true:=by decide)(h2:(Oe s' x.nms&&PW s' s')=true:=by simp[V0,V1,V2,H0,V8,JJ,Ref.nm]):Fy rs given mv R st:=D0 ks hx hs h1 h2 h3
end
end Go.Dl
end
section
namespace Go.Dl
open Go Go.RowKit Go.As
variable{p q A:Prop}{P:Program}{GL:List (Nat×List I)}
theorem lT{body:J}{K:Exit->St->Prop}{e:Env}{s:List (Nat×Blk)}{ι:Type}(ks:List Nat){bs:List (Nat×D)}(C:ι->List (Nat×D))(B:ι->List (Nat×Blk))(I:ι->Prop)(m:ι->Nat)(k:ι)
  (round:∀i,I i->W2 P GL body (Lw (fun i=>⟨.l (C i++bs),B i⟩) I m i K) ⟨.l (C i++bs),B i⟩)(hi:I k:=by first|omega|simp)(hb:Ei e ks=bs:=by(simp only[V0,V1,V2,JK,reduceIte,Nat.reduceEqDiff];rfl))(h0:Sub ⟨.l (C k++bs),B k⟩ ⟨e,s⟩:=by simp[V0,V1,V2,H0,V8,JJ,Ref.nm,D.nms,Oe];try exact⟨rfl,rfl⟩):W2 P GL (.lp body) K ⟨e,s⟩:=A4 ks hb C B I m k hi h0 round
theorem lS{body:J}{K:Exit->St->Prop}{e:Env}{s:List (Nat×Blk)}(ks:List Nat){bs:List (Nat×D)}(C:Nat->List (Nat×D))(B:Nat->List (Nat×Blk))(I:Nat->Prop)(n:Nat)
  (round:∀i,i<=n->I i->W2 P GL body (Lv (fun i=>⟨.l (C i++bs),B i⟩) I n i K) ⟨.l (C i++bs),B i⟩)(hi:I 0:=by first|omega|simp)(hb:Ei e ks=bs:=by(simp only[V0,V1,V2,JK,reduceIte,Nat.reduceEqDiff];rfl))(h0:Sub ⟨.l (C 0++bs),B 0⟩ ⟨e,s⟩:=by simp[V0,V1,V2,H0,V8,JJ,Ref.nm,D.nms,Oe];try exact⟨rfl,rfl⟩):W2 P GL (.lp body) K ⟨e,s⟩:=Df ks hb C B I n 0 (Zg9 _) hi h0 round
structure Kq(q:Prop):Prop where
 o:q
def Tg(_:Unit)(c:Prop):Prop:=c
theorem Tg.mk(m:Unit){c:Prop}(h:c):Tg m c:=h
theorem tgU(p:Prop):(Unit->p)=p:=propext ⟨fun h=>h (),fun h _=>h⟩
theorem Ky(k:Kq q)(h:q->p:=by
 intro k
 with_reducible (repeat first|exact And.left k|exact k|replace k:=And.right k)
 done):p:=h k.o
theorem Kx{f:FuncId}{xs:List I}{y:I}{st:St}{d:Option Nat}{K:St->Prop}(a:A)(k:K (putO st d (.i y)))(h:A->Is1 P GL f (xs.map .i) y:=by
 intro b
 (repeat first|(apply And.left b<;>first|assumption|omega|exact At (by omega))|(apply b<;>first|assumption|omega|exact At (by omega))|replace b:=@And.right _ _ b)
 done):Ai P GL f xs st d K:=Ab (h a) k
theorem Ka(a:A)(k:q)(h:A->Unit->Kq q->p:=by
 intro a m k
 repeat' first
  |exact Ao _
  |with_reducible rfl
  |simp(disch:=omega)only[go_sem,simprocAttr,a]
  |refine' Av (fun hq=>?_) (fun f=>?_)<;>try(have jd:=hq;try simp only[HB]at jd)
  |refine' CI (fun hq=>?_) (fun f=>?_)<;>try(have jd:=hq;try simp only[HB]at jd)
  |refine Sx.s ?_ ?_<;>try(intro h;have h':=h;(try simp only[HB]at h');have h1:=Tg.mk m h;have h1':=Tg.mk m h';try rewrite [h];try simp only[h])
  |refine Kx @a ?_
  |refine Ac ?_
  |refine If ?_ ?_
  |refine Au ?_
  |refine Sz.s ?_
  |(refine And.intro ?_ ?_;focus omega)
  |omega
  |fail
 all_goals first
  |(clear m;exact Ky k)
  |(revert m;simp only[Tg,tgU];exact Ky k)):p:=h a () ⟨k⟩
theorem Kas(a:A)(k:q)(h:A->Unit->Kq q->p:=by
 intro a m k
 repeat' first
  |exact Ao _
  |with_reducible rfl
  |simp(disch:=omega)only[go_sem,simprocAttr,Zaj,Za3,Zat,Za1,Za2,Zg6,Zg8,Ze5,Ze1,Zes,Zaw,Zad,Zag,Zb4,a]
  |refine' Av (fun hq=>?_) (fun f=>?_)<;>try(have jd:=hq;try simp only[HB]at jd)
  |refine' CI (fun hq=>?_) (fun f=>?_)<;>try(have jd:=hq;try simp only[HB]at jd)
  |refine Sx.s ?_ ?_<;>try(intro h;have h':=h;(try simp only[HB]at h');have h1:=Tg.mk m h;have h1':=Tg.mk m h';try rewrite [h];try simp only[h])
  |refine Kx @a ?_
  |refine Ac ?_
  |refine If ?_ ?_
  |refine Au ?_
  |refine Sz.s ?_
  |(refine And.intro ?_ ?_;focus omega)
  |omega
  |fail
 all_goals first
  |(clear m;exact Ky k)
  |(revert m;simp only[Tg,tgU];exact Ky k)):p:=h a () ⟨k⟩
theorem Kb(k:q)(h:Unit->Kq q->p:=by
 intro m k
 repeat' first
  |exact Ao _
  |with_reducible rfl
  |simp(disch:=omega)only[go_sem,simprocAttr]
  |refine' Av (fun hq=>?_) (fun f=>?_)<;>try(have jd:=hq;try simp only[HB]at jd)
  |refine' CI (fun hq=>?_) (fun f=>?_)<;>try(have jd:=hq;try simp only[HB]at jd)
  |refine Sx.s ?_ ?_<;>try(intro h;have h':=h;(try simp only[HB]at h');have h1:=Tg.mk m h;have h1':=Tg.mk m h';try rewrite [h];try simp only[h])
  |refine Ac ?_
  |refine If ?_ ?_
  |refine Au ?_
  |refine Sz.s ?_
  |(refine And.intro ?_ ?_;focus omega)
  |omega
  |fail
 all_goals first
  |(clear m;exact Ky k)
  |(revert m;simp only[Tg,tgU];exact Ky k)):p:=h () ⟨k⟩
theorem EV(a:A)(k:q)(h:A->Unit->Kq q->p:=by
 intro a m k
 repeat' first
  |exact Ao _
  |with_reducible rfl
  |simp(disch:=omega)only[go_sem,simprocAttr,a]
  |refine' Av (fun hq=>?_) (fun f=>?_)<;>try(have jd:=hq;try simp only[HB]at jd)
  |refine' CI (fun hq=>?_) (fun f=>?_)<;>try(have jd:=hq;try simp only[HB]at jd)
  |refine Sx.s ?_ ?_<;>try(intro h;have h':=h;(try simp only[HB]at h');have h1:=Tg.mk m h;have h1':=Tg.mk m h';try rewrite [h];try simp only[h])
  |refine Kx @a ?_
  |refine Ac ?_
  |refine If ?_ ?_
  |refine Au ?_
  |refine Sz.s ?_
  |fail
 all_goals first
  |(clear m;exact Ky k)
  |(revert m;simp only[Tg,tgU];exact Ky k)):p:=h a () ⟨k⟩
theorem AU(a:A)(k:q)(h:A->Unit->Kq q->p:=by
 intro a m k
 repeat' first
  |exact Ao _
  |with_reducible rfl
  |simp(disch:=omega)only[go_sem,simprocAttr,Zaj,Za3,Zat,Za1,Za2,Zg6,Zg8,Ze5,Ze1,Zes,Zaw,Zad,Zag,Zb4,a]
  |refine' Av (fun hq=>?_) (fun f=>?_)<;>try(have jd:=hq;try simp only[HB]at jd)
  |refine' CI (fun hq=>?_) (fun f=>?_)<;>try(have jd:=hq;try simp only[HB]at jd)
  |refine Sx.s ?_ ?_<;>try(intro h;have h':=h;(try simp only[HB]at h');have h1:=Tg.mk m h;have h1':=Tg.mk m h';try rewrite [h];try simp only[h])
  |refine Kx @a ?_
  |refine Ac ?_
  |refine If ?_ ?_
  |refine Au ?_
  |refine Sz.s ?_
  |fail
 all_goals first
  |(clear m;exact Ky k)
  |(revert m;simp only[Tg,tgU];exact Ky k)):p:=h a () ⟨k⟩
theorem eP(k:q)(h:Unit->Kq q->p:=by
 intro m k
 repeat' first
  |exact Ao _
  |with_reducible rfl
  |simp(disch:=omega)only[go_sem,simprocAttr]
  |refine' Av (fun hq=>?_) (fun f=>?_)<;>try(have jd:=hq;try simp only[HB]at jd)
  |refine' CI (fun hq=>?_) (fun f=>?_)<;>try(have jd:=hq;try simp only[HB]at jd)
  |refine Sx.s ?_ ?_<;>try(intro h;have h':=h;(try simp only[HB]at h');have h1:=Tg.mk m h;have h1':=Tg.mk m h';try rewrite [h];try simp only[h])
  |refine Ac ?_
  |refine If ?_ ?_
  |refine Au ?_
  |refine Sz.s ?_
  |fail
 all_goals first
  |(clear m;exact Ky k)
  |(revert m;simp only[Tg,tgU];exact Ky k)):p:=h () ⟨k⟩
theorem La(a:A)(k:q)(h:A->Unit->Kq q->p:=by
 intro a m k
 repeat' first
  |exact Ao _
  |with_reducible rfl
  |simp(disch:=omega)only[go_sem,simprocAttr,a]
  |refine Kx @a ?_
  |refine Ac ?_
  |refine Au ?_
  |refine Sz.s ?_
  |(refine And.intro ?_ ?_;focus omega)
  |omega
  |fail
 all_goals first
  |(clear m;exact Ky k)
  |(revert m;simp only[Tg,tgU];exact Ky k)):p:=h a () ⟨k⟩
theorem lY(a:A)(k:q)(h:A->Unit->Kq q->p:=by
 intro a m k
 repeat' first
  |exact Ao _
  |with_reducible rfl
  |simp(disch:=omega)only[go_sem,simprocAttr,Zaj,Za3,Zat,Za1,Za2,Zg6,Zg8,Ze5,Ze1,Zes,Zaw,Zad,Zag,Zb4,a]
  |refine Kx @a ?_
  |refine Ac ?_
  |refine Au ?_
  |refine Sz.s ?_
  |(refine And.intro ?_ ?_;focus omega)
  |omega
  |fail
 all_goals first
  |(clear m;exact Ky k)
  |(revert m;simp only[Tg,tgU];exact Ky k)):p:=h a () ⟨k⟩
theorem FU(a:A)(k:q)(h:A->Unit->Kq q->p:=by
 intro a m k
 repeat' first
  |exact Ao _
  |with_reducible rfl
  |simp(disch:=omega)only[go_sem,simprocAttr,a]
  |refine Kx @a ?_
  |refine Ac ?_
  |refine Au ?_
  |refine Sz.s ?_
  |fail
 all_goals first
  |(clear m;exact Ky k)
  |(revert m;simp only[Tg,tgU];exact Ky k)):p:=h a () ⟨k⟩
theorem A8(a:A)(k:q)(h:A->Unit->Kq q->p:=by
 intro a m k
 repeat' first
  |exact Ao _
  |with_reducible rfl
  |simp(disch:=omega)only[go_sem,simprocAttr,Zaj,Za3,Zat,Za1,Za2,Zg6,Zg8,Ze5,Ze1,Zes,Zaw,Zad,Zag,Zb4,a]
  |refine Kx @a ?_
  |refine Ac ?_
  |refine Au ?_
  |refine Sz.s ?_
  |fail
 all_goals first
  |(clear m;exact Ky k)
  |(revert m;simp only[Tg,tgU];exact Ky k)):p:=h a () ⟨k⟩
theorem eS(k:q)(h:Unit->Kq q->p:=by
 intro m k
 repeat' first
  |exact Ao _
  |with_reducible rfl
  |simp(disch:=omega)only[go_sem,simprocAttr]
  |refine Ac ?_
  |refine Au ?_
  |refine Sz.s ?_
  |fail
 all_goals first
  |(clear m;exact Ky k)
  |(revert m;simp only[Tg,tgU];exact Ky k)):p:=h () ⟨k⟩
theorem TF(k:q)(h:Unit->Kq q->p:=by
 intro m k
 repeat' first
  |exact Ao _
  |with_reducible rfl
  |simp(disch:=omega)only[go_sem,simprocAttr,Zaj,Za3,Zat,Za1,Za2,Zg6,Zg8,Ze5,Ze1,Zes,Zaw,Zad,Zag,Zb4]
  |refine Ac ?_
  |refine Au ?_
  |refine Sz.s ?_
  |fail
 all_goals first
  |(clear m;exact Ky k)
  |(revert m;simp only[Tg,tgU];exact Ky k)):p:=h () ⟨k⟩
theorem Man(a:A)(k:q)(h:A->Unit->Kq q->p:=by
 intro a m k
 repeat' first
  |exact Ao _
  |with_reducible rfl
  |simp(disch:=omega)only[go_sem,simprocAttr,a]
  |fail
 all_goals first
  |(clear m;exact Ky k)
  |(revert m;simp only[Tg,tgU];exact Ky k)):p:=h a () ⟨k⟩
theorem Jf(a:A)(k:q)(h:A->Unit->Kq q->p:=by
 intro a m k
 repeat' first
  |exact Ao _
  |with_reducible rfl
  |simp(disch:=omega)only[go_sem,simprocAttr,Zaj,Za3,Zat,Za1,Za2,Zg6,Zg8,Ze5,Ze1,Zes,Zaw,Zad,Zag,Zb4,a]
  |fail
 all_goals first
  |(clear m;exact Ky k)
  |(revert m;simp only[Tg,tgU];exact Ky k)):p:=h a () ⟨k⟩
theorem Od(k:q)(h:Unit->Kq q->p:=by
 intro m k
 repeat' first
  |exact Ao _
  |with_reducible rfl
  |simp(disch:=omega)only[go_sem,simprocAttr]
  |fail
 all_goals first
  |(clear m;exact Ky k)
  |(revert m;simp only[Tg,tgU];exact Ky k)):p:=h () ⟨k⟩
theorem lZ(k:q)(h:Unit->Kq q->p:=by
 intro m k
 repeat' first
  |exact Ao _
  |with_reducible rfl
  |simp(disch:=omega)only[go_sem,simprocAttr,Zaj,Za3,Zat,Za1,Za2,Zg6,Zg8,Ze5,Ze1,Zes,Zaw,Zad,Zag,Zb4]
  |fail
 all_goals first
  |(clear m;exact Ky k)
  |(revert m;simp only[Tg,tgU];exact Ky k)):p:=h () ⟨k⟩
end Go.Dl
end
section
namespace Go.As
open Go Go.Dl
structure Fid where
 source:AQ
 seq:Int
deriving DecidableEq,Inhabited
structure Fct where
 id:Fid
 kind:Int
 ref:Int
 table:AQ
 key:AQ
 event:Int
 fields:List Val
deriving Inhabited
structure Ers where
 kind:Int
 entity:AQ
 key:AQ
 id:Fid
deriving DecidableEq,Inhabited
structure Chg where
 kind:Int
 table:Tbl
 feature:Ftr
 name:AQ
deriving Inhabited
structure Ent where
 no:Int
 tick:Int
 kind:Int
 fact:Fct
 erasure:Ers
 change:Chg
deriving Inhabited
structure Rw where
 id:Fid
 table:AQ
 key:AQ
 event:Int
 fields:List Val
 no:Int
 tick:Int
deriving Inhabited
theorem OW:∀x:Xpr,eE x=[.int .i64 x.kind,.str x.op,.str x.name,.str x.table,.int .i64 x.val.kind,.int .i64 x.val.n,.str x.val.s,.sl (x.unit.map Ax),.int .i64 x.param,.int .i64 x.win.kind,.int .i64 x.win.size,.sl (x.args.map eE)]:=fun x=>by cases x;simp[eE,QL,Xpr.kind,Xpr.op,Xpr.name,Xpr.table,Xpr.val,Xpr.unit,Xpr.param,Xpr.win,Xpr.args]
def Am(x:Fid):List I:=[.str x.source,.int .i64 x.seq]
def BJ(x:Fct):List I:=Am x.id++[.int .i64 x.kind,.int .i64 x.ref,.str x.table,.str x.key,.int .i64 x.event,.sl (x.fields.map Bi)]
def Cy(x:Ers):List I:=[.int .i64 x.kind,.str x.entity,.str x.key]++Am x.id
def AF(x:Chg):List I:=[.int .i64 x.kind]++AS x.table++Af x.feature++[.str x.name]
def Ae(x:Ent):List I:=[.int .i64 x.no,.int .i64 x.tick,.int .i64 x.kind]++BJ x.fact++Cy x.erasure++AF x.change
def JI(x:Rw):List I:=Am x.id++[.str x.table,.str x.key,.int .i64 x.event,.sl (x.fields.map Bi),.int .i64 x.no,.int .i64 x.tick]
theorem Yf(x:Fid):Am x=[.str x.source,.int .i64 x.seq]:=by rfl
theorem QP(x:Fct):BJ x=[.str x.id.source,.int .i64 x.id.seq,.int .i64 x.kind,.int .i64 x.ref,.str x.table,.str x.key,.int .i64 x.event,.sl (x.fields.map Bi)]:=by rfl
theorem TG(x:Ers):Cy x=[.int .i64 x.kind,.str x.entity,.str x.key,.str x.id.source,.int .i64 x.id.seq]:=by rfl
theorem Bw(x:Chg):AF x=[.int .i64 x.kind,.str x.table.name,.str x.table.entity,.sl (x.table.fields.map B2),.int .i64 x.table.keep,.str x.feature.name,.str x.feature.entity,.int .i64 x.feature.typ.kind,.sl (x.feature.typ.unit.map Ax),.str x.feature.typ.of,.int .i64 x.feature.body.kind,.str x.feature.body.op,.str x.feature.body.name,.str x.feature.body.table,.int .i64 x.feature.body.val.kind,.int .i64 x.feature.body.val.n,.str x.feature.body.val.s,.sl (x.feature.body.unit.map Ax),.int .i64 x.feature.body.param,.int .i64 x.feature.body.win.kind,.int .i64 x.feature.body.win.size,.sl (x.feature.body.args.map eE),.int .i64 x.feature.version,.str x.name]:=by simp[AF,AS,Af,Aq,OW]
theorem AN(x:Ent):Ae x=[.int .i64 x.no,.int .i64 x.tick,.int .i64 x.kind,.str x.fact.id.source,.int .i64 x.fact.id.seq,.int .i64 x.fact.kind,.int .i64 x.fact.ref,.str x.fact.table,.str x.fact.key,.int .i64 x.fact.event,.sl (x.fact.fields.map Bi),.int .i64 x.erasure.kind,.str x.erasure.entity,.str x.erasure.key,.str x.erasure.id.source,.int .i64 x.erasure.id.seq,.int .i64 x.change.kind,.str x.change.table.name,.str x.change.table.entity,.sl (x.change.table.fields.map B2),.int .i64 x.change.table.keep,.str x.change.feature.name,.str x.change.feature.entity,.int .i64 x.change.feature.typ.kind,.sl (x.change.feature.typ.unit.map Ax),.str x.change.feature.typ.of,.int .i64 x.change.feature.body.kind,.str x.change.feature.body.op,.str x.change.feature.body.name,.str x.change.feature.body.table,.int .i64 x.change.feature.body.val.kind,.int .i64 x.change.feature.body.val.n,.str x.change.feature.body.val.s,.sl (x.change.feature.body.unit.map Ax),.int .i64 x.change.feature.body.param,.int .i64 x.change.feature.body.win.kind,.int .i64 x.change.feature.body.win.size,.sl (x.change.feature.body.args.map eE),.int .i64 x.change.feature.version,.str x.change.name]:=by simp only[Am,BJ,Cy,AF,Ae,AS,Af,Aq,OW,Zc3,Zft]
theorem eRw_eq(x:Rw):JI x=[.str x.id.source,.int .i64 x.id.seq,.str x.table,.str x.key,.int .i64 x.event,.sl (x.fields.map Bi),.int .i64 x.no,.int .i64 x.tick]:=by rfl
theorem Yg:(∀x,(Am x).length=2)/\(∀x,(BJ x).length=8)/\(∀x,(Cy x).length=5)/\(∀x,(AF x).length=24)/\(∀x,(Ae x).length=40)/\(∀x,(JI x).length=8):=by simp[Yf,QP,TG,Bw,AN,eRw_eq]
theorem l4:
  (∀x,pk false (Am x) 0 1=.str x.source)/\
  (∀x,pk false (Am x) 1 1=.int .i64 x.seq)/\
  (∀x,pk true (Am x) 0 2=.agg (Am x)):=by
 and_intros<;>intro x<;>simp only[Am]<;>rfl
theorem l5:
  (∀x,pk true (BJ x) 0 2=.agg (Am x.id))/\
  (∀x,pk false (BJ x) 0 1=.str x.id.source)/\
  (∀x,pk false (BJ x) 1 1=.int .i64 x.id.seq)/\
  (∀x,pk false (BJ x) 2 1=.int .i64 x.kind)/\
  (∀x,pk false (BJ x) 3 1=.int .i64 x.ref)/\
  (∀x,pk false (BJ x) 4 1=.str x.table)/\
  (∀x,pk false (BJ x) 5 1=.str x.key)/\
  (∀x,pk false (BJ x) 6 1=.int .i64 x.event)/\
  (∀x,pk false (BJ x) 7 1=.sl (x.fields.map Bi))/\
  (∀x,pk true (BJ x) 0 8=.agg (BJ x)):=by
 and_intros<;>intro x<;>simp only[Am,BJ,Zc3,Zft]<;>rfl
theorem l6:
  (∀x,pk false (Cy x) 0 1=.int .i64 x.kind)/\
  (∀x,pk false (Cy x) 1 1=.str x.entity)/\
  (∀x,pk false (Cy x) 2 1=.str x.key)/\
  (∀x,pk true (Cy x) 3 2=.agg (Am x.id))/\
  (∀x,pk false (Cy x) 3 1=.str x.id.source)/\
  (∀x,pk false (Cy x) 4 1=.int .i64 x.id.seq)/\
  (∀x,pk true (Cy x) 0 5=.agg (Cy x)):=by
 and_intros<;>intro x<;>simp only[Am,Cy,Zc3,Zft]<;>rfl
theorem l7:
  (∀x,pk false (AF x) 0 1=.int .i64 x.kind)/\
  (∀x,pk true (AF x) 1 4=.agg (AS x.table))/\
  (∀x,pk false (AF x) 1 1=.str x.table.name)/\
  (∀x,pk false (AF x) 2 1=.str x.table.entity)/\
  (∀x,pk false (AF x) 3 1=.sl (x.table.fields.map B2))/\
  (∀x,pk false (AF x) 4 1=.int .i64 x.table.keep)/\
  (∀x,pk true (AF x) 5 18=.agg (Af x.feature))/\
  (∀x,pk false (AF x) 5 1=.str x.feature.name)/\
  (∀x,pk false (AF x) 6 1=.str x.feature.entity)/\
  (∀x,pk true (AF x) 7 3=.agg (Aq x.feature.typ))/\
  (∀x,pk false (AF x) 7 1=.int .i64 x.feature.typ.kind)/\
  (∀x,pk false (AF x) 8 1=.sl (x.feature.typ.unit.map Ax))/\
  (∀x,pk false (AF x) 9 1=.str x.feature.typ.of)/\
  (∀x,pk true (AF x) 10 12=.agg (eE x.feature.body))/\
  (∀x,pk false (AF x) 10 1=.int .i64 x.feature.body.kind)/\
  (∀x,pk false (AF x) 11 1=.str x.feature.body.op)/\
  (∀x,pk false (AF x) 12 1=.str x.feature.body.name)/\
  (∀x,pk false (AF x) 13 1=.str x.feature.body.table)/\
  (∀x,pk true (AF x) 14 3=.agg (Bi x.feature.body.val))/\
  (∀x,pk false (AF x) 14 1=.int .i64 x.feature.body.val.kind)/\
  (∀x,pk false (AF x) 15 1=.int .i64 x.feature.body.val.n)/\
  (∀x,pk false (AF x) 16 1=.str x.feature.body.val.s)/\
  (∀x,pk false (AF x) 17 1=.sl (x.feature.body.unit.map Ax))/\
  (∀x,pk false (AF x) 18 1=.int .i64 x.feature.body.param)/\
  (∀x,pk true (AF x) 19 2=.agg (F2 x.feature.body.win))/\
  (∀x,pk false (AF x) 19 1=.int .i64 x.feature.body.win.kind)/\
  (∀x,pk false (AF x) 20 1=.int .i64 x.feature.body.win.size)/\
  (∀x,pk false (AF x) 21 1=.sl (x.feature.body.args.map eE))/\
  (∀x,pk false (AF x) 22 1=.int .i64 x.feature.version)/\
  (∀x,pk false (AF x) 23 1=.str x.name)/\
  (∀x,pk true (AF x) 0 24=.agg (AF x)):=by
 and_intros<;>intro x<;>simp only[AF,AS,Af,Aq,Bi,F2,OW,Zc3,Zft]<;>rfl
theorem l8:
  (∀x,pk false (Ae x) 0 1=.int .i64 x.no)/\
  (∀x,pk false (Ae x) 1 1=.int .i64 x.tick)/\
  (∀x,pk false (Ae x) 2 1=.int .i64 x.kind)/\
  (∀x,pk true (Ae x) 3 8=.agg (BJ x.fact))/\
  (∀x,pk true (Ae x) 3 2=.agg (Am x.fact.id))/\
  (∀x,pk false (Ae x) 3 1=.str x.fact.id.source)/\
  (∀x,pk false (Ae x) 4 1=.int .i64 x.fact.id.seq)/\
  (∀x,pk false (Ae x) 5 1=.int .i64 x.fact.kind)/\
  (∀x,pk false (Ae x) 6 1=.int .i64 x.fact.ref)/\
  (∀x,pk false (Ae x) 7 1=.str x.fact.table)/\
  (∀x,pk false (Ae x) 8 1=.str x.fact.key)/\
  (∀x,pk false (Ae x) 9 1=.int .i64 x.fact.event)/\
  (∀x,pk false (Ae x) 10 1=.sl (x.fact.fields.map Bi))/\
  (∀x,pk true (Ae x) 11 5=.agg (Cy x.erasure))/\
  (∀x,pk false (Ae x) 11 1=.int .i64 x.erasure.kind)/\
  (∀x,pk false (Ae x) 12 1=.str x.erasure.entity)/\
  (∀x,pk false (Ae x) 13 1=.str x.erasure.key)/\
  (∀x,pk true (Ae x) 14 2=.agg (Am x.erasure.id))/\
  (∀x,pk false (Ae x) 14 1=.str x.erasure.id.source)/\
  (∀x,pk false (Ae x) 15 1=.int .i64 x.erasure.id.seq)/\
  (∀x,pk true (Ae x) 16 24=.agg (AF x.change))/\
  (∀x,pk false (Ae x) 16 1=.int .i64 x.change.kind)/\
  (∀x,pk true (Ae x) 17 4=.agg (AS x.change.table))/\
  (∀x,pk false (Ae x) 17 1=.str x.change.table.name)/\
  (∀x,pk false (Ae x) 18 1=.str x.change.table.entity)/\
  (∀x,pk false (Ae x) 19 1=.sl (x.change.table.fields.map B2))/\
  (∀x,pk false (Ae x) 20 1=.int .i64 x.change.table.keep)/\
  (∀x,pk true (Ae x) 21 18=.agg (Af x.change.feature))/\
  (∀x,pk false (Ae x) 21 1=.str x.change.feature.name)/\
  (∀x,pk false (Ae x) 22 1=.str x.change.feature.entity)/\
  (∀x,pk true (Ae x) 23 3=.agg (Aq x.change.feature.typ))/\
  (∀x,pk false (Ae x) 23 1=.int .i64 x.change.feature.typ.kind)/\
  (∀x,pk false (Ae x) 24 1=.sl (x.change.feature.typ.unit.map Ax))/\
  (∀x,pk false (Ae x) 25 1=.str x.change.feature.typ.of)/\
  (∀x,pk true (Ae x) 26 12=.agg (eE x.change.feature.body))/\
  (∀x,pk false (Ae x) 26 1=.int .i64 x.change.feature.body.kind)/\
  (∀x,pk false (Ae x) 27 1=.str x.change.feature.body.op)/\
  (∀x,pk false (Ae x) 28 1=.str x.change.feature.body.name)/\
  (∀x,pk false (Ae x) 29 1=.str x.change.feature.body.table)/\
  (∀x,pk true (Ae x) 30 3=.agg (Bi x.change.feature.body.val))/\
  (∀x,pk false (Ae x) 30 1=.int .i64 x.change.feature.body.val.kind)/\
  (∀x,pk false (Ae x) 31 1=.int .i64 x.change.feature.body.val.n)/\
  (∀x,pk false (Ae x) 32 1=.str x.change.feature.body.val.s)/\
  (∀x,pk false (Ae x) 33 1=.sl (x.change.feature.body.unit.map Ax))/\
  (∀x,pk false (Ae x) 34 1=.int .i64 x.change.feature.body.param)/\
  (∀x,pk true (Ae x) 35 2=.agg (F2 x.change.feature.body.win))/\
  (∀x,pk false (Ae x) 35 1=.int .i64 x.change.feature.body.win.kind)/\
  (∀x,pk false (Ae x) 36 1=.int .i64 x.change.feature.body.win.size)/\
  (∀x,pk false (Ae x) 37 1=.sl (x.change.feature.body.args.map eE))/\
  (∀x,pk false (Ae x) 38 1=.int .i64 x.change.feature.version)/\
  (∀x,pk false (Ae x) 39 1=.str x.change.name)/\
  (∀x,pk true (Ae x) 0 40=.agg (Ae x)):=by
 and_intros<;>intro x<;>simp only[Am,BJ,Cy,AF,Ae,AS,Af,Aq,Bi,F2,OW,Zc3,Zft]<;>rfl
theorem l9:
  (∀x,pk true (JI x) 0 2=.agg (Am x.id))/\
  (∀x,pk false (JI x) 0 1=.str x.id.source)/\
  (∀x,pk false (JI x) 1 1=.int .i64 x.id.seq)/\
  (∀x,pk false (JI x) 2 1=.str x.table)/\
  (∀x,pk false (JI x) 3 1=.str x.key)/\
  (∀x,pk false (JI x) 4 1=.int .i64 x.event)/\
  (∀x,pk false (JI x) 5 1=.sl (x.fields.map Bi))/\
  (∀x,pk false (JI x) 6 1=.int .i64 x.no)/\
  (∀x,pk false (JI x) 7 1=.int .i64 x.tick)/\
  (∀x,pk true (JI x) 0 8=.agg (JI x)):=by
 and_intros<;>intro x<;>simp only[Am,JI,Zc3,Zft]<;>rfl
theorem Yh:(∀x,(Am x).all I.one=true)/\(∀x,(BJ x).all I.one=true)/\(∀x,(Cy x).all I.one=true)/\(∀x,(AF x).all I.one=true)/\(∀x,(Ae x).all I.one=true)/\(∀x,(JI x).all I.one=true):=by refine⟨?_,?_,?_,?_,?_,?_⟩<;>intro x<;>simp only[Yf,QP,TG,Bw,AN,eRw_eq]<;>rfl
attribute [go_sem] Yg Yh l4 l5 l6 l7 l8 l9 Am Cy
end Go.As
end
section
namespace Go.Dl
open Go Go.RowKit
variable{a:Addr}
def C4(w:World):Mem:=⟨fun b o=>w.cell? ⟨b,o,none⟩,fun b=>match w.heap[b]? with|some (.map es clk)=>some (es.toList,clk)|_=>none⟩
theorem ma(w:World):(C4 w).Sub w:=by
 refine⟨fun b o v h=>h,fun b x h=>?_⟩;simp only[C4]at h;split at h
 ·rename_i es clk e;cases h;simpa using e
 ·cases h
mutual
def AG{H:Type}:DataW H->List I
 |.lit (.bool b)=>[.bool b]
 |.lit (.int k n)=>[.int k n]
 |.lit (.string s)=>[.str s]
 |.nil=>[.sl []]
 |.slice elems _=>[.sl (flatS elems)]
 |.agg parts=>flatA parts
 |_=>[.undef]
def flatS{H:Type}:List (DataW H)->List (List I)
 |[]=>[]
 |d::r=>AG d::flatS r
def flatA{H:Type}:List (DataW H)->List I
 |[]=>[]
 |d::r=>AG d++flatA r
end
theorem Yi{H:Type}:∀l:List (DataW H),flatS l=l.map AG
 |[]=>by simp[flatS]
 |d::r=>by simp[flatS,Yi r]
def OX(P:Program):List Field->Nat->Nat->Bool
 |[],s,tot=>s==tot
 |f::r,s,tot=>f.offset==s&&OX P r (s+P.cellsOf f.type) tot
def Lz(P:Program)(l:List TypeId):Bool:=l.all fun t=>match P.underlying t with
 |some .bool|some (.int _)|some .string=>true
 |some (.slice e)=>l.contains e&&decide (0<P.cellsOf e)
 |some (.struct fs)=>(fs.toList.all fun f=>l.contains f.type)&&OX P fs.toList 0 (P.cellsOf t)
 |_=>false
section
variable {H:Type}{enc:TypeId×Value->H}{P:Program}{w:World}{base:Nat}{spare:Nat->Bool}{held:Bool}
theorem Yj(h:a.spot=none)(n:Nat):a.add n=⟨a.block,a.off+n,none⟩:=by
 unfold Addr.add;split
 ·rename_i e;subst e;cases a;simp_all
 ·rfl
theorem Yk {α β:Type}{f:α->Option β}:∀{l:List α} {r:List β},l.mapM f=some r->r.length=l.length/\∀i (h:i<l.length) (h':i<r.length),f l[i]=some r[i]
 |[],r,h=>by grind
 |x::l,r,h=>by
  rw[Zey]at h;cases hx:f x with
  |none=>simp[hx]at h
  |some y=>
   cases hl:l.mapM f with
   |none=>simp[hx,hl]at h
   |some ys=>simp[hx,hl]at h;subst h;obtain⟨h1,h2⟩:=Yk hl;grind
theorem Yl{n:Nat}{cs:List Value}(h:w.cells? base a n=some cs):cs.length=n/\∀j (hj:j<cs.length),w.cell? (a.add j)=some cs[j]:=by
 unfold World.cells? at h;split at h
 ·obtain⟨h1,h2⟩:=Yk h;grind
 ·cases h
theorem mb{v:Value}(h:w.cell? a=some v):a.spot=none:=by
 unfold World.cell? at h;split at h
 all_goals simp_all
theorem Ak.struct{M:Mem}(pl:TypeId->Prop){tot:Nat}:∀(fs:List Field) (ds:List (DataW H)) (s:Nat) (cs:List Value),OX P fs s tot=true->cs.length=tot->ds.length=fs.length->
  (∀i (h:i<fs.length) (h':i<ds.length),Ak M (AG ds[i]) ((cs.drop fs[i].offset).take (P.cellsOf fs[i].type)))->Ak M (flatA ds) (cs.drop s)
 |[],[],s,cs,ho,hl,_,_=>by grind[OX,flatA,Ak.nil]
 |[],d::ds,s,cs,_,_,h,_=>by simp at h
 |f::fs,[],s,cs,_,_,h,_=>by simp at h
 |f::fs,d::ds,s,cs,ho,hl,hd,hf=>by
  simp only[OX,Zbz,Zas]at ho;have h0:=hf 0 (by simp) (by simp);simp only[Zed,ho.1]at h0;have hr:=Ak.struct pl fs ds (s+P.cellsOf f.type) cs ho.2 hl (by simpa using hd) (fun i h h'=>by have:=hf (i+1) (by simpa using h) (by simpa using h');simpa using this)
  have e:cs.drop s=(cs.drop s).take (P.cellsOf f.type)++cs.drop (s+P.cellsOf f.type):=by rw[<-Zc7,Zga]
  rw[e];exact h0.append hr
theorem Ym{l:List TypeId}(vz:Lz P l=true):∀(fuel:Nat) (t:TypeId) (cs:List Value) (x:DataW H×List MemPlace),l.contains t=true->DataW.trod enc P w base spare held fuel t cs=some x->Ak (C4 w) (AG x.1) cs:=by
 intro fuel
 induction fuel with
 |zero=>intro t cs x _ h;simp[DataW.trod]at h
 |succ n ih=>
  intro t cs x ht h;have hp:=vz;simp only[Lz,Zcu]at hp;have hp:=hp t (Zc4.1 ht);split at hp
  ·rename_i hu;obtain⟨b,rfl,rfl⟩:=DataW.trod_bool hu h;exact Ak.cons (.bool b) (Ak.nil _)
  ·rename_i k hu;obtain⟨m,rfl,rfl,_⟩:=DataW.trod_int hu h;exact Ak.cons (.int k m) (Ak.nil _)
  ·rename_i hu;obtain⟨s,rfl,rfl,_⟩:=DataW.trod_string hu h;refine Ak.cons ?_ (Ak.nil _);have:=Rep.str (M:=C4 w) s.data.toList;exact this
  ·rename_i e hu;rw[Zbz,Za0]at hp;rcases DataW.trod_slice hu h with⟨rfl,rfl⟩|⟨a,len,cap,elems,rest,m,hm,rfl,rfl,_,hlc,_,w9,ki,_⟩
   ·exact Ak.cons .slnil (Ak.nil _)
   ·have hm':n=m:=by omega
    subst hm';refine Ak.cons ?_ (Ak.nil _);have jv:∀i (hi:i<elems.length),∃cs',w.cells? base (a.add (i*P.cellsOf e)) (P.cellsOf e)=some cs'/\Ak (C4 w) (AG elems[i].1) cs':=fun i hi=>by have:=ki i (by omega);rw[Zd2 hi]at this;obtain⟨cs',h1,h2⟩:=Zhd.1 this;exact⟨cs',h1,ih e cs' _ hp.1 h2⟩
    by_cases h0:len=0
    ·subst h0;have:elems=[]:=Zeo.1 w9;subst this;exact Rep.slempty a cap
    ·have hsp:a.spot=none:=by obtain⟨cs',h1,_⟩:=jv 0 (by omega);obtain⟨q1,q2⟩:=Yl h1;have:=mb (q2 0 (by omega));simpa[Addr.add]using this
     have ha:a=⟨a.block,a.off,none⟩:=by cases a;simp_all
     have key:∀i (hi:i<elems.length),(AG elems[i].1).length=P.cellsOf e/\∀j (hj:j<(AG elems[i].1).length),∃v,w.cell? ⟨a.block,a.off+i*P.cellsOf e+j,none⟩=some v/\Rep (C4 w) ((AG elems[i].1)[j]) v:=fun i hi=>by obtain⟨cs',h1,h2⟩:=jv i hi;obtain⟨q1,q2⟩:=Yl h1;have e1:=h2.1;refine⟨by omega,fun j hj=>⟨cs'[j],?_,h2.2 j hj (by omega)⟩⟩;have:=q2 j (by omega);rw[Yj hsp,Yj rfl]at this;exact this
     have vn:flatS (elems.map (·.1))=elems.map fun y=>AG y.1:=by rw[Yi,Ze4];rfl
     show Rep (C4 w) (.sl (flatS (elems.map (·.1)))) (.slice (some a) len cap);rw[vn,ha];have hlr:(elems.map fun y=>AG y.1).length=len:=by simpa using w9
     have:=Rep.sl (M:=C4 w) (elems.map fun y=>AG y.1) (P.cellsOf e) a.block a.off cap (fun i j=>(w.cell? ⟨a.block,a.off+i*P.cellsOf e+j,none⟩).getD Go.undef)
      (fun r hr=>by obtain⟨y,hy,rfl⟩:=Zfh.1 hr;obtain⟨i,hi,rfl⟩:=Zeh hy;exact(key i hi).1) (by rw[hlr];exact hlc)
      (fun i hi j hj=>by
       have ja:i<elems.length:=by simpa using hi
       rw[Zee]at hj;obtain⟨v,hv,_⟩:=(key i ja).2 j hj;show w.cell? _=_;rw[hv];rfl)
      (fun i hi j hj=>by
       have ja:i<elems.length:=by simpa using hi
       have jp:j<(AG elems[i].1).length:=by simpa using hj
       obtain⟨v,hv,hr⟩:=(key i ja).2 j jp;simp only[hv,Zhh,Zee];exact hr)
     rw[hlr]at this;exact this
  ·rename_i fs hu;rw[Zbz]at hp;obtain⟨xs,m,hm,rfl,hl,je,ki⟩:=DataW.trod_struct hu h;have hm':n=m:=by omega
   subst hm';simp only[AG];have:=Ak.struct (M:=C4 w) (P:=P) (fun _=>True) fs.toList (xs.map (·.1)) 0 cs hp.2 hl (by simpa using je) (fun i h1 h2=>by have hf:=ki i fs[i] (by simp at h1;simp[h1]);rw[Zd2 (by simpa using h2)]at hf;have hc:=hp.1;rw[Zcu]at hc;have:=ih _ _ _ (hc fs.toList[i] (Zef h1)) (by simpa using hf);simpa using this)
   simpa using this
  ·cases hp
end
end Go.Dl
end
section
namespace Go.Dl
open Go Go.RowKit Go.ChangeShapes Go.WideShapes
section
variable {H:Type}{enc:TypeId×Value->H}{P:Program}{W:World}
theorem OY{GL:List (Nat×List I)}{f:FuncId}{args:List I}{y:I}{vs:Array Value}(ku:Ck P f=true)(h:MC P GL f (args.map D.i) [] [] (fd y))(hg:H2 GL (C4 W))(hr:Ak (C4 W) args vs.toList):
  Calls P f vs W fun e W'=>∃v M',e=.returned v/\Rep M' y v/\Below W.heap.size W W':=by
 let μ:Place:=fun _=>Go.undef
 have hn:∀nm,¬names [] nm:=fun nm hn=>by grind[names,Aa]
 have h0:StoOk (AL μ [] W) (C4 W) μ [] W:=⟨ma W,fun nm b hb=>by simp[Aa]at hb,fun nm nm' k k' _ h=>absurd h (hn nm),fun b hb=>hb.1⟩;have hD:Db (C4 W) μ (names []) (args.map D.i) vs.toList:=⟨by simpa using hr.1,fun j a b=>by rw[Zee];exact hr.2 j (by simpa using a) b⟩
 rcases h (C4 W) μ W vs h0 hg hD with⟨_,h2⟩|⟨_,row,h1,_⟩|⟨_,v,w',h1,_⟩|⟨h1,_⟩
 ·refine h2.mono ?_;rintro e W' ⟨v,rfl,r,sto',M',μ',⟨rfl,rfl⟩,_,hv,_,hk,_⟩;exact⟨v,M',rfl,hv,hk.os,hk.tape,hk.output,hk.size,fun k qe=>hk.block k ⟨qe,fun nm h=>absurd h (hn nm)⟩⟩
 ·rw[J6 ku]at h1;cases h1
 ·rw[J6 ku]at h1;cases h1
 ·unfold Ck at ku;rw[h1]at ku;cases ku
def C5(P:Program)(t:TypeId)(cs:List I):I:=match P.underlying t with
 |some (.struct _)=>.agg cs
 |_=>cs.headD .undef
def GV(P:Program):List TypeId->List (DataW H)->List I
 |t::ts,d::ds=>C5 P t (AG d)::GV P ts ds
 |_,_=>[]
theorem mc{l:List TypeId}(vz:Lz P l=true){r:Reach}{b0:Nat}{base:Nat}{spare:Nat->Bool}{held:Bool}{t:TypeId}{v:Value}{d:DataW H}{ps:List MemPlace}(ht:l.contains t=true)(hv:Value.okWide P W r b0 t v)(h:DataW.Trod enc P W base spare held t v d ps):
  Rep (C4 W) (C5 P t (AG d)) v:=by
 obtain⟨n,hn⟩:=h;have hR:=Ym vz n t _ _ ht hn;have hp:=vz;simp only[Lz,Zcu]at hp;have hp:=hp t (Zc4.1 ht);have one:∀x:I,(∀fs,P.underlying t≠some (.struct fs))->v.cells.toList=[v]->Ak (C4 W) (AG d) v.cells.toList->Rep (C4 W) (C5 P t (AG d)) v:=fun x jg hc hR=>by
  rw[hc]at hR;have e:C5 P t (AG d)=(AG d).headD .undef:=by simp[C5]
  rw[e];have hl:=hR.1;cases hf:AG d with
  |nil=>rw[hf]at hl;simp at hl
  |cons a r=>have:=hR.2 0 (by rw[hf];simp) (by simp);simp only[hf,Zed]at this;exact this
 split at hp
 ·rename_i hu;obtain⟨b,rfl⟩:=okWide_bool hu hv;exact one .undef (fun fs e=>by rw[hu]at e;cases e) rfl hR
 ·rename_i k hu;obtain⟨m,rfl⟩:=okWide_int hu hv;exact one .undef (fun fs e=>by rw[hu]at e;cases e) rfl hR
 ·rename_i hu;obtain⟨s,rfl⟩:=okWide_string hu hv;exact one .undef (fun fs e=>by rw[hu]at e;cases e) rfl hR
 ·rename_i e hu;obtain⟨a,ln,cp,rfl⟩:=okWide_slice hu hv;exact one .undef (fun fs e=>by rw[hu]at e;cases e) rfl hR
 ·rename_i fs hu;obtain⟨cs,rfl,_⟩:=okWide_struct hu hv;unfold C5;rw[hu];exact Rep.agg' hR
 ·cases hp
theorem MZ{l:List TypeId}(vz:Lz P l=true){r:Reach}{b0:Nat}{base:Nat}{spare:Nat->Bool}{held:Bool}:∀{ts:List TypeId} {vs:List Value} {ds:List (DataW H)} {ps:List MemPlace},(∀t∈ts,l.contains t=true)->
  (∀(j:Nat) t v,ts[j]? =some t->vs[j]? =some v->Value.okWide P W r b0 t v)->DataW.TrodAll enc P W base spare held ts vs ds ps->Ak (C4 W) (GV P ts ds) vs
 |[],[],[],_,_,_,_=>Ak.nil _
 |t::ts,v::vs,d::ds,ps,ht,hv,⟨p,q,h1,h2,_⟩=>Ak.cons (mc vz (ht t (by simp)) (hv 0 t v rfl rfl) h1) (MZ vz (fun t' h'=>ht t' (by simp[h'])) (fun j t' v' a b=>hv (j+1) t' v' a b) h2)
theorem Yn(hl:laidOutB P=true){W':World}{sp:Nat->Bool}(hb:Below W.heap.size W W'):∀{ts:List TypeId} {vs:List Value} {ds:List (DataW H)} {ps:List MemPlace},(ts.all fun t=>P.readableRec t&&decide (t<P.types.size))=true->
  DataW.TrodAll enc P W 0 (fun _=>true) true ts vs ds ps->(∀p∈ps,p.block<W.heap.size)->(∀p∈ps,sp p.block=true)->DataW.TrodAll enc P W' 0 sp true ts vs ds ps
 |[],[],[],_,_,h,_,_=>h
 |t::ts,v::vs,d::ds,ps,ht,⟨p,q,h1,h2,e⟩,jn,hs=>by simp only[Zct,Zbz,Za0]at ht;refine⟨p,q,WideElems.Trod_stays hl ht.1.1 ht.1.2 h1 (fun x hx=>hb.same (jn x (by rw[e];simp[hx]))) (fun x hx=>hs x (by rw[e];simp[hx])),Yn hl hb ht.2 h2 (fun x hx=>jn x (by rw[e];simp[hx])) (fun x hx=>hs x (by rw[e];simp[hx])),e⟩
theorem OZ{f:Func}{s:ChangeSpec}{apart fresh handsOn again:Bool}{W':World}{args:Array Value}{tb:TypeId}{ds gs:List (DataW H)}{before:List MemPlace}(hl:laidOutB P=true)(ht:(f.params.toList.all fun t=>P.readableRec t&&decide (t<P.types.size))=true)
  (hvars:s.vars=[])(hrt:f.resultTypes=#[tb])(hub:P.underlying tb=some .bool)(hfn:∀xs:List (DataW H),xs.length=f.params.size->s.fn H xs={results:=[.lit (.bool true)],args:=xs})
  (hW:DataW.Whole enc P f.params.toList s.vars apart W args.toList ds gs before)(hb:Below W.heap.size W W'):s.post enc P f apart fresh handsOn again W args (.bool true) W':=by
 have hWlt:∀p∈before,p.block<W.heap.size:=fun p hp=>by simpa using hW.lt p hp
 have hW0:=hW;obtain⟨p,q,hA,hV,rfl,hfz,hnd⟩:=hW;rw[hvars]at hV;obtain⟨rfl,rfl⟩:=trodVars_none hV;have je:∀{ts:List TypeId} {vs:List Value} {ds:List (DataW H)} {ps:List MemPlace},DataW.TrodAll enc P W 0 (fun _=>true) true ts vs ds ps->ds.length=ts.length:=by
  intro ts
  induction ts with
  |nil=>intro vs ds ps h;obtain⟨_,rfl,_⟩:=trodAll_nil h;rfl
  |cons t ts ih=>intro vs ds ps h;obtain⟨v,vs',d,ds',a,b,rfl,rfl,rfl,_,h2⟩:=trodAll_cons h;simp[ih h2]
 have hf:=hfn ds (by rw[je hA];simp);have hA':∀sp:Nat->Bool,(∀x∈p,sp x.block=true)->DataW.TrodAll enc P W' 0 sp true f.params.toList args.toList ds p:=fun sp hs=>Yn hl hb ht hA (fun x hx=>hWlt x (by simp[hx])) hs
 have wm:∀x∈p,(fun b=>decide (b<W.heap.size)) x.block=true:=fun x hx=>by grind
 have j8:∀(b:Nat) (sp:Nat->Bool) (hd:Bool),DataW.TrodAll enc P W' b sp hd f.resultTypes.toList ((Value.bool true).resultList f.resultTypes.size) [.lit (.bool true)] []:=fun b sp hd=>by rw[hrt];exact trodAll_cons_mk (shut_bool hub _) trodAll_mk0
 refine⟨ds,[],p++[],[],p,[],by rw[hvars]at hW0⊢;exact hW0,?_,?_,?_,World.keptBut_mono (fun x hx=>hx) (hb.frame _),fun _=>?_⟩
 ·rw[Zc1,hf];exact j8 _ _ _
 ·rw[Zc1,hf];exact hA' _ wm
 ·rw[Zc1,hf,hvars];rfl
 ·refine⟨ok_one hrt rfl (okWide_bool_mk hub _),[.lit (.bool true)]++ds,[],([]++p)++[],⟨[]++p,[],trodAll_append (hA' (fun _=>true) fun _ _=>rfl) (j8 _ _ _),by rw[hvars];rfl,rfl,?_,?_⟩,?_⟩
  ·intro b off hp;have hp':MemPlace.cell b off∈p:=by grind
   have:=hWlt _ (show MemPlace.cell b off∈p++[] by simpa using hp');rw[hb.frozen (p:=⟨b,off,none⟩) this];exact hfz b off (by simpa using hp')
  ·intro ha;have:=hnd ha;simpa using this
  ·intro x hx _;simpa using hx
end
end Go.Dl
end
section
namespace Go.Dl
open Go Go.RowKit Go.ChangeShapes Go.WideShapes
variable{α:Type}
mutual
def Ba{H:Type}:DataW H->Nat
 |.lit (.string bytes)=>bytes.length+1
 |.lit _=>1
 |.nil=>1
 |.ptr d=>Ba d+1
 |.slice elems spare=>bulkL elems+bulkL spare+1
 |.agg parts=>bulkL parts+1
 |.iface _ d=>Ba d+1
 |.map entries=>bulkE entries+1
 |.held _=>1
def bulkL{H:Type}:List (DataW H)->Nat
 |[]=>0
 |d::r=>Ba d+bulkL r
def bulkE{H:Type}:List (Lit×DataW H)->Nat
 |[]=>0
 |x::r=>bulk1 x+bulkE r
def bulk1{H:Type}:Lit×DataW H->Nat
 |(.string bytes,d)=>bytes.length+Ba d+1
 |(_,d)=>Ba d+1
end
section
variable {H:Type}(P:Program)
def Rd(n:Nat)(t:TypeId)(d:DataW H):Prop:=∃(enc:TypeId×Value->H) (W:World) (base:Nat) (sp:Nat->Bool) (held:Bool) (cs:List Value) (ps:List MemPlace),DataW.trod enc P W base sp held n t cs=some (d,ps)
def KM(n:Nat):List TypeId->List (DataW H)->Prop
 |[],[]=>True
 |t::ts,d::ds=>Rd P n t d/\KM n ts ds
 |_,_=>False
variable {P}{n:Nat}{t e:TypeId}{d:DataW H}
theorem Rd.bool(ht:P.underlying t=some .bool)(h:Rd P n t d):∃b,d=.lit (.bool b):=by obtain⟨enc,W,base,sp,held,cs,ps,h⟩:=h;obtain⟨b,_,h2⟩:=DataW.trod_bool ht h;grind
theorem Rd.int{k:IntKind}(ht:P.underlying t=some (.int k))(h:Rd P n t d):∃m,d=.lit (.int k m)/\(Lit.int k m).wf=true:=by obtain⟨enc,W,base,sp,held,cs,ps,h⟩:=h;obtain⟨m,_,h2,h3⟩:=DataW.trod_int ht h;grind
theorem Rd.str(ht:P.underlying t=some .string)(h:Rd P n t d):∃s:List UInt8,d=.lit (.string s):=by obtain⟨enc,W,base,sp,held,cs,ps,h⟩:=h;obtain⟨s,_,h2,_⟩:=DataW.trod_string ht h;grind
theorem md{l:List α}{f:Nat->Option α}(h:∀i,i<l.length->f i=l[i]?){y:α}(hy:y∈l):∃i,f i=some y:=by obtain⟨i,hi,rfl⟩:=Zeh hy;grind
theorem Rd.slice(ht:P.underlying t=some (.slice e))(h:Rd P n t d):d=.nil\/∃elems rest m,n=m+1/\d=.slice elems rest/\∀y∈elems,Rd P m e y:=by
 obtain⟨enc,W,base,sp,held,cs,ps,h⟩:=h;rcases DataW.trod_slice ht h with⟨_,h2⟩|⟨a,len,cap,elems,rest,m,hm,_,h2,_,_,_,w9,ki,_⟩
 ·exact .inl (Zae Prod.fst h2)
 ·refine .inr ⟨_,_,m,hm,Zae Prod.fst h2,fun y hy=>?_⟩;obtain⟨z,hz,rfl⟩:=Zfh.1 hy;obtain⟨i,hi⟩:=md (fun i hi=>ki i (by omega)) hz;obtain⟨cs',_,h3⟩:=Zhd.1 hi;exact⟨enc,W,base,sp,held,cs',z.2,h3⟩
theorem Rd.struct{fs:Array Field}(ht:P.underlying t=some (.struct fs))(h:Rd P n t d):∃parts m,n=m+1/\d=.agg parts/\KM P m (fs.toList.map (·.type)) parts:=by
 obtain⟨enc,W,base,sp,held,cs,ps,h⟩:=h;obtain⟨xs,m,hm,h2,_,hl,ki⟩:=DataW.trod_struct ht h;refine⟨_,m,hm,Zae Prod.fst h2,?_⟩;have key:∀(fl:List Field) (ys:List (DataW H×List MemPlace)),ys.length=fl.length->(∀(i:Nat) (f:Field),fl[i]? =some f->∃cs',DataW.trod enc P W base sp held m f.type cs'=ys[i]?)->KM P m (fl.map (·.type)) (ys.map (·.1)):=by
  intro fl
  induction fl with
  |nil=>intro ys hl _;have:ys=[]:=Zeo.1 hl;subst this;trivial
  |cons f fl ih=>
   intro ys hl hg;cases ys with
   |nil=>simp at hl
   |cons y ys=>obtain⟨cs',h0⟩:=hg 0 f rfl;refine⟨⟨enc,W,base,sp,held,cs',y.2,h0⟩,ih ys (by simpa using hl) fun i g hi=>?_⟩;exact hg (i+1) g hi
 grind
theorem Yo{α:Type}{R:DataW H->α->Prop}:∀{l:List (DataW H)},(∀y∈l,∃x,R y x)->∃xs:List α,xs.length=l.length/\∀i (h:i<l.length) (h':i<xs.length),R l[i] xs[i]
 |[],_=>⟨[],rfl,fun i h=>by simp at h⟩
 |y::r,h=>by
  obtain⟨x,hx⟩:=h y (by simp);obtain⟨xs,h1,h2⟩:=Yo (l:=r) fun z hz=>h z (by simp[hz])
  refine⟨x::xs,by simp[h1],fun i a b=>?_⟩;grind
theorem Rd.list{f:α->List I}{b:α->Nat}{bs:List α->Nat}(hb0:bs []=0)(k6:∀x l,bs (x::l)=b x+bs l){Q:α->Prop}(ht:P.underlying t=some (.slice e))(h:Rd P n t d)(w9:∀(m:Nat) (y:DataW H),m<n->Rd P m e y->∃x,AG y=f x/\b x<=Ba y/\Q x):
  ∃xs:List α,AG d=[.sl (xs.map f)]/\bs xs+1<=Ba d/\∀x∈xs,Q x:=by
 rcases h.slice ht with rfl|⟨elems,rest,m,rfl,rfl,h2⟩
 ·exact⟨[],rfl,by rw[hb0];simp[Ba],fun x hx=>by simp at hx⟩
 ·obtain⟨xs,h3,h4⟩:=Yo (R:=fun y x=>AG y=f x/\b x<=Ba y/\Q x) fun y hy=>w9 m y (by omega) (h2 y hy)
  have key:∀(l:List (DataW H)) (xs:List α),xs.length=l.length->(∀i (h:i<l.length) (h':i<xs.length),AG l[i]=f xs[i]/\b xs[i]<=Ba l[i]/\Q xs[i])->flatS l=xs.map f/\bs xs<=bulkL l/\∀x∈xs,Q x:=by
   intro l
   induction l with
   |nil=>intro xs hl _;have:xs=[]:=Zeo.1 hl;subst this;exact⟨rfl,by rw[hb0];exact Zg9 _,fun x hx=>by simp at hx⟩
   |cons y l ih=>
    intro xs hl hh;cases xs with
    |nil=>simp at hl
    |cons x xs=>
     obtain⟨k1,k2,k3⟩:=hh 0 (by simp) (by simp);obtain⟨j1,j2,j3⟩:=ih xs (by simpa using hl) fun i a b=>hh (i+1) (by simpa using a) (by simpa using b)
     grind[flatS,bulkL]
  obtain⟨k1,k2,k3⟩:=key elems xs h3 h4;refine⟨xs,by simp only[AG,k1],?_,k3⟩;simp only[Ba];omega
end
section
variable {H:Type}{P:Program}
theorem M0{enc:TypeId×Value->H}{W:World}{base:Nat}{sp:Nat->Bool}{held:Bool}:∀{ts:List TypeId} {vs:List Value} {ds:List (DataW H)} {ps:List MemPlace},DataW.TrodAll enc P W base sp held ts vs ds ps->ds.length=ts.length/\∀i (h:i<ts.length) (h':i<ds.length),∃n,Rd P n ts[i] ds[i]
 |[],[],[],_,_=>⟨rfl,fun i h=>by simp at h⟩
 |t::ts,v::vs,d::ds,ps,⟨p,q,⟨n,h1⟩,h2,_⟩=>by
  obtain⟨k1,k2⟩:=M0 h2;refine⟨by simp[k1],fun i a b=>?_⟩;cases i with
  |zero=>exact⟨n,enc,W,base,sp,held,_,p,h1⟩
  |succ i=>exact k2 i (by simpa using a) (by simpa using b)
end
end Go.Dl
end
