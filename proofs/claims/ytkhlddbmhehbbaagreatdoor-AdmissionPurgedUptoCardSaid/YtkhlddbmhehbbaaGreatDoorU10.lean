/-Lemmas.-/
import Derived.Test.YtkhlddbmhehbbaaGreatDoorU9
import Derived.ChangeArms
import Derived.Deep.Slices
import Derived.Carry
import Derived.OpenShut
import Derived.Deep.DeepHandedRow
set_option linter.all false
section
namespace Go.Dl
open Go Go.RowKit
variable{nm e k:Nat}{mv:List Nat}{sto l:List (Nat×Blk)}{b b':Blk}{f:FuncId}{args:List D}{R:D->List (Nat×Blk)->Prop}{μ:Place}{w:World}
def YL(r:Option (List (List I)))(l:Nat):Option (Nat×List (List I)):=match r with|some r=>some (l,r)|none=>none
def EA(W:(Exit->St->Prop)->St->Prop)(K:Exit->St->Prop):Exit->St->Prop
 |.normal,s=>W K s
 |_,_=>False
section
variable {P:Program}{GL:List (Nat×List I)}
def V40:=cj @step.eq_54 (cj @step.eq_55 (cj @step.eq_56 (cj @step.eq_57 (cj @step.eq_58 (cj @step.eq_59 (cj @step.eq_60 (cj @step.eq_61 (cj @step.eq_62 (cj @step.eq_64 (cj @step.eq_63 @step.eq_32))))))))))
theorem V41(st:St):
  (∀d ls,AC GL (.mkgm d ls) st=[])/\(∀d x q z ok ls,AC GL (.lookg d x q z ok ls) st=[])/\(∀x q v ls,AC GL (.mupdg x q v ls) st=[])/\(∀d x q z ls e k,AC GL (.ment d x q z ls e k) st=[])/\(∀x s v,AC GL (.ests x s v) st=[])/\(∀d x,AC GL (.cap d x) st=[])/\
  (∀d x y e k,AC GL (.cpy d x y e k) st=[])/\(∀d x z,AC GL (.clr d x z) st=[])/\(∀d e k b z n,AC GL (.mksl d e k b z n) st=[])/\(∀d x lo hi mx,AC GL (.slc3 d x lo hi mx) st=[])/\(∀d e k b x n z,AC GL (.appz d e k b x n z) st=[])/\(∀d f e k os,AC GL (.calln d f e k os) st=[]):=by
 and_intros<;>intros<;>rfl
theorem mY (st:St)(K:St->Prop):
  (∀x key z ok ls d,Jk (.i x) key z ok ls d st K=Fj (.i x) key z ok ls d st K)/\(∀ls' es ls q z ok d,Jj (some (.map ls' es)) ls q z ok d st K=HE (some (.map ls' es)) ls q z ok d st K)/\(∀v z d,ES false (some v) z d st K=K (st.put d v))/\(∀z d,ES false none z d st K=K (st.put d (.i z)))/\(∀z d,ES true none z d st K=K (st.put d (.i (.tup [z,.bool false]))))/\(∀x z d,ES true (some (.i x)) z d st K=K (st.put d (.tup [.i x,.i (.bool true)])))/\(∀r z d,ES true (some (.ref r)) z d st K=K (st.put d (.tup [.ref r,.i (.bool true)]))):=by
 and_intros<;>intros<;>rfl
def V42:=cj @LJ.eq_1 (cj @Jk.eq_1 (cj @Jj.eq_1 (cj @LL.eq_1 (cj @Jl.eq_1 (cj @Jl.eq_2 (cj @Kl.eq_1 (cj @LM.eq_1 (cj @Km.eq_1 (cj @LN.eq_1 (cj @Kn.eq_1 (cj @LR.eq_1 (cj @Ko.eq_1 (cj @LS.eq_1 (cj @Jp.eq_1 (cj @Jp.eq_2 (cj @Nh.eq_1 (cj @Kp.eq_1 (cj @Kp.eq_2 (cj @LU.eq_1 (cj @Kt.eq_1 (cj @Jf.eq_2 (cj @MZ.eq_1 @mY))))))))))))))))))))))
theorem mZ:
  (∀σ nm k lo hi top,Im σ (.ref (.sl nm k lo hi)) top=YL (LO (σ nm) k lo (min hi (lo+top))) (hi-lo))/\(∀e k rs,inM (some (.arr e k rs))=[]):=by
 and_intros<;>intros<;>rfl
def V43:=cj @HF.eq_1 (cj @Ni.eq_1 (cj @G2.eq_1 (cj @G2.eq_2 (cj @Im.eq_1 (cj @YL.eq_1 (cj @LO.eq_1 (cj @LO.eq_2 (cj @EA.eq_1 (cj @FL.eq_3 (cj @FL.eq_4 (cj @FL.eq_2 (cj @inM.eq_3 (cj @inM.eq_2 (cj @D.nms.eq_3 (cj @EP.eq_3 @mZ)))))))))))))))
theorem m5:
  (∀d e k rs,EO d (.arr e k rs)=.arr e k rs)/\(∀f e k rs,MR f (.arr e k rs)=.arr e k rs):=by
 and_intros<;>intros<;>rfl
def V44:=cj @EO.eq_3 (cj @EO.eq_2 (cj @Df.eq_3 (cj @MR.eq_3 (cj @MR.eq_2 (cj @J8.eq_3 @m5)))))
attribute [go_sem] V40 V41 V42 V43 V44
end
@[congr] theorem aKh{a b c d e f}(h:a=b):LJ a c d e f=LJ b c d e f:=h▸rfl
@[congr] theorem aKi{a b c d e f g i j l}(h:a=b)(k:c=d):Jk a c e f g i j l=Jk b d e f g i j l:=h▸k▸rfl
@[congr] theorem aKj{a b c d e f g i j l}(h:a=b)(k:d=e):Jj a c d f g i j l=Jj b c e f g i j l:=h▸k▸rfl
@[congr] theorem aKk{a b c d e f g}(h:b=c):ES a b d e f g=ES a c d e f g:=h▸rfl
@[congr] theorem aKl{a b c d e f g i j}(h:a=b)(k:c=d)(H:e=f):LL a c e g i j=LL b d f g i j:=h▸k▸H▸rfl
@[congr] theorem aKm{a b c d e f g i j l}(h:a=b)(k:e=f)(H:g=i):Jl a c d e g j l=Jl b c d f i j l:=h▸k▸H▸rfl
@[congr] theorem aKn{a b c d e f g i j l m}(h:a=b)(k:c=d):Kl a c e f g i j l m=Kl b d e f g i j l m:=h▸k▸rfl
@[congr] theorem aKo{a b c d e f g i j l m n}(h:a=b)(k:f=g):Kk a c d e f i j l m n=Kk b c d e g i j l m n:=h▸k▸rfl
@[congr] theorem aKp{a b c d e f g i}(h:a=b)(k:c=d)(H:e=f):LM a c e g i=LM b d f g i:=h▸k▸H▸rfl
@[congr] theorem aKq{a b c d e f g i j}(h:a=b)(k:d=e)(H:f=g):Km a c d f i j=Km b c e g i j:=h▸k▸H▸rfl
@[congr] theorem aKr{a b c d e}(h:a=b):LN a c d e=LN b c d e:=h▸rfl
@[congr] theorem aKs{a b c d e f g i j}(h:a=b)(k:c=d)(H:e=f):Kn a c e g i j=Kn b d f g i j:=h▸k▸H▸rfl
@[congr] theorem aKt{a b c d e f g i j}(h:a=b)(k:c=d):LR a c e f g i j=LR b d e f g i j:=h▸k▸rfl
@[congr] theorem aKu{a b c d e f g i j l m n o p q}(h:a=b)(k:e=f)(H:g=i)(I:j=l):Ko a c d e g j m n o p q=Ko b c d f i l m n o p q:=h▸k▸H▸I▸rfl
@[congr] theorem aKv{a b c d e f}(h:a=b):LS a c d e f=LS b c d e f:=h▸rfl
@[congr] theorem aKw{a b c d e f g i j l m n}(h:a=b)(k:e=f)(H:g=i):Jp a c d e g j l m n=Jp b c d f i j l m n:=h▸k▸H▸rfl
@[congr] theorem aKx{a b c d e f g i j l m}(h:a=b)(k:c=d):Nh a c e f g i j l m=Nh b d e f g i j l m:=h▸k▸rfl
@[congr] theorem aKy{a b c d e f g i j l m}(h:a=b)(k:c=d)(H:e=f)(I:g=i):Kp a c e g j l m=Kp b d f i j l m:=h▸k▸H▸I▸rfl
@[congr] theorem aKz{a b c d e f g i j l m n o p q r s t u}(h:a=b)(k:c=d)(H:i=j)(I:l=m)(h0:n=o):Ks a c e f g i l n p q r s t u=Ks b d e f g j m o p q r s t u:=h▸k▸H▸I▸h0▸rfl
@[congr] theorem aL0{a b c d e f g i j l m n o p q r s t u v}(h:a=b)(k:e=f)(H:j=l)(I:m=n)(h0:s=t):TU a c d e g i j m o p q r s u v=TU b c d f g i l n o p q r t u v:=h▸k▸H▸I▸h0▸rfl
@[congr] theorem aL1{a b c d e f g i j l m}(h:a=b)(k:c=d):LU a c e f g i j l m=LU b d e f g i j l m:=h▸k▸rfl
@[congr] theorem aL2{a b c d e f g i j l m n o p q r s t u}(h:a=b)(k:c=d)(H:g=i)(I:j=l)(h0:q=r):Kt a c e f g j m n o p q s t u=Kt b d e f i l m n o p r s t u:=h▸k▸H▸I▸h0▸rfl
@[congr] theorem aL3{a b c d e f g i j l m}(h:c=d):MZ a b c e f g i j l m=MZ a b d e f g i j l m:=h▸rfl
@[congr] theorem aL4{a b c d e}(h:d=e):EA a b c d=EA a b c e:=h▸rfl
section
variable {P:Program}{GL:List (Nat×List I)}
theorem Rh{n:Nat}{og:O}{ps:List Nat}{a b:J}{K:Exit->St->Prop}{st:St}{gf:FuncId}{caps:List I}{xs:List (List I)}(hg:A8 GL st og=.i (.fn gf [] caps))(k8:De P gf=true)(hq:Np P GL gf caps xs)
  (f:List (Nat×Nat))(L:List D)(m:Nat->List (Nat×Blk))(mv:List Nat)(N:Nat)(jm:Jm)(h1:N<=xs.length/\(jm=.none->N=xs.length)/\(jm≠.none->0<N))(h2:okV mv=true)(h3:∀j,j<=N->SK mv (m j)=true/\KG (m j)=true/\okL (m j) L=true/\(m j).map (·.1)=(m 0).map (·.1))
  (h4:L.length=n)(h5:Iu f 0 L st.env)(h6:MS f 5499=5499)(h7:Br (J5 (J6 f) (m 0)) st.sto)
  (h8:∀j,j<N->(xs.getD j []).length=ps.length/\W2 P GL a (EA (W2 P GL b) (lv (m (j+1)) (if j+1=N then jm else .none))) ⟨.l (Fm ps (xs.getD j []) (Eg 0 L)),m j⟩)
  (h9:TB st (mv.map (J6 f)) (J5 (J6 f) (m 0)) (J5 (J6 f) (m N)) (K jm.ex)):W2 P GL (.rf n og ps a b) K st:=
 ⟨gf,caps,Nat,0,_,_,hg,k8,hq.g,f,L,fun j=>m (min j N),mv,fun j=>if N<=j then jm else .none,by
  show(if N<=0 then jm else Jm.none)=.none;split
  ·cases hj:jm with
   |none=>rfl
   |_=>have:=h1.2.2 (by rw[hj];simp);omega
  ·rfl,h2,fun j=>by have q:=h3 _ (Nat.min_le_right j N);exact⟨q.1,q.2.1,q.2.2.1,by simp only[Nat.zero_min];exact q.2.2.2⟩,h4,h5,h6,by simp only[Nat.zero_min];exact h7,fun j x j' ⟨v6,hx2,hx3⟩ hj=>by
   have hjN:j<N:=by grind
   subst hx2;subst hx3;have e1:min j N=j:=by omega
   have e2:min (j+1) N=j+1:=by omega
   have e3:(if N<=j+1 then jm else Jm.none)=if j+1=N then jm else .none:=by grind
   simp only[e1,e2,e3];exact⟨(h8 j hjN).1,Ei a (h8 j hjN).2 fun e s hs=>by
    cases e with
    |normal=>exact⟨_,.inl rfl,hs⟩
    |_=>exact hs⟩,fun j hj=>by
   have hjN:N<=j:=by grind
   simp only[if_pos hjN,Nat.zero_min,Nat.min_eq_right hjN];exact h9⟩
theorem m6{n:Nat}{og:O}{ps:List Nat}{a b:J}{K:Exit->St->Prop}{st:St}{gf:FuncId}{caps:List I}{ι:Type}{i0:ι}{Nx:ι->List I->ι->Prop}{Fin:ι->Prop}(hg:A8 GL st og=.i (.fn gf [] caps))(k8:De P gf=true)(hq:Jx P GL gf caps ι i0 Nx Fin)
  (f:List (Nat×Nat))(L:List D)(m:ι->List (Nat×Blk))(mv:List Nat)(jm:ι->Jm)(h1:jm i0=.none)(h2:okV mv=true)(h3:∀i,SK mv (m i)=true/\KG (m i)=true/\okL (m i) L=true/\(m i).map (·.1)=(m i0).map (·.1))
  (h4:L.length=n)(h5:Iu f 0 L st.env)(h6:MS f 5499=5499)(h7:Br (J5 (J6 f) (m i0)) st.sto)
  (h8:∀i x i',Nx i x i'->jm i=.none->x.length=ps.length/\W2 P GL a (EA (W2 P GL b) (lv (m i') (jm i'))) ⟨.l (Fm ps x (Eg 0 L)),m i⟩)
  (h9:∀i,(jm i≠.none\/Fin i)->TB st (mv.map (J6 f)) (J5 (J6 f) (m i0)) (J5 (J6 f) (m i)) (K (jm i).ex)):W2 P GL (.rf n og ps a b) K st:=
 ⟨gf,caps,ι,i0,Nx,Fin,hg,k8,hq,f,L,m,mv,jm,h1,h2,h3,h4,h5,h6,h7,fun i x i' hx hi=>⟨(h8 i x i' hx hi).1,Ei a (h8 i x i' hx hi).2 fun e s hs=>by
  cases e with
  |normal=>exact⟨_,.inl rfl,hs⟩
  |_=>exact hs⟩,h9⟩
theorem Pl{mv:List Nat}:∀{l:List (Nat×Blk)},Ep (l.map (·.1))=true->∀s,(∀m b,Aa l m=some b->Aa s m=some b)->Br l s
 |[],_,s,_=>trivial
 |(k,b)::r,h,s,hs=>by obtain⟨h1,h2⟩:=Tz h;refine⟨hs k b (by simp[Aa]),Pl (mv:=mv) h2 s fun m c hm=>hs m c ?_⟩;grind[Aa,CE,names]
def T0(l:List (Nat×Blk)):Bool:=(l.map (·.1)).all (fun q=>Nat.blt q 5000)&&Ep (l.map (·.1))&&l.all fun p=>OL l p.2.nms
theorem m7{c:Cp}(h:∀q∈c.nms,q<5000)(hn:5000<=nm):gn nm (.iter none []) c=c:=by
 cases c with
 |ref r=>simp only[gn,WD];rw[if_neg];have:=h r.nm (by simp[Cp.nms]);omega
 |_=>rfl
theorem YM{l:List Cp}(h:∀q∈l.flatMap Cp.nms,q<5000)(hn:5000<=nm):l.map (gn nm (.iter none []))=l:=by
 conv=>rhs;rw[<-List.map_id l]
 exact List.map_congr_left fun c hc=>m7 (fun q hq=>h q (List.mem_flatMap.2 ⟨c,hc,hq⟩)) hn
theorem T1{d:D}(h:∀q∈d.nms,q<5000)(hn:5000<=nm):Qq nm (.iter none []) d=d:=by
 cases d with
 |ref r=>have:=h r.nm (by simp[D.nms]);simp only[Qq,WD];rw[if_neg (by omega)];rfl
 |fn f x y=>simp_all[D.nms,Qq,YM]
 |tup cs=>simp only[Qq];rw[YM h hn]
 |_=>rfl
theorem YN{d:D}(h:∀q∈d.nms,q<5000):∀{l:List Nat},(∀nm∈l,5000<=nm)->MY l d=d
 |[],_=>rfl
 |nm::r,hl=>by simp only[MY];rw[T1 h (hl nm List.mem_cons_self)];exact YN h fun q hq=>hl q (List.mem_cons_of_mem _ hq)
theorem m8(h:∀q∈b.nms,q<5000)(hn:5000<=nm):gj nm (.iter none []) b=b:=by
 have go:∀l:List D,(∀q∈l.flatMap D.nms,q<5000)->l.map (Qq nm (.iter none []))=l:=fun l hl=>by
  conv=>rhs;rw[<-List.map_id l]
  exact List.map_congr_left fun c hc=>T1 (fun q hq=>hl q (List.mem_flatMap.2 ⟨c,hc,hq⟩)) hn
 cases b with
 |cells cs=>simp only[gj];rw[go cs h]
 |lp l q cs=>simp only[gj];rw[go cs h]
 |gmap ls clk es=>
  simp only[gj];congr 1
  conv=>rhs;rw[<-List.map_id es]
  exact List.map_congr_left fun e he=>by simp only[id_eq];rw[T1 (fun q hq=>h q (List.mem_flatMap.2 ⟨e,he,hq⟩)) hn]
 |_=>rfl
theorem YO{b:Blk}(h:∀q∈b.nms,q<5000):∀{l:List Nat},(∀nm∈l,5000<=nm)->OJ l b=b
 |[],_=>rfl
 |nm::r,hl=>by simp only[OJ];rw[m8 h (hl nm List.mem_cons_self)];exact YO h fun q hq=>hl q (List.mem_cons_of_mem _ hq)
theorem Iz(h:SK mv l=true):∀q,names l q->5000<=q/\q<6000:=fun q hq=>by simp only[SK,Bool.and_eq_true,List.all_eq_true]at h;have:=h.1.1 q (CE.2 hq);simp only[Bool.or_eq_true,Bool.and_eq_true,Nat.ble_eq,Nat.blt_eq]at this;omega
theorem YP{d:Nat}(hd:d<1000){x:D}(h:∀q∈x.nms,5000<=q/\q<6000):Df d x=x:=by
 have rn:∀q,5000<=q/\q<6000->ren d q=q:=fun q hq=>by grind[ren]
 have rR:∀r:Ref,5000<=r.nm/\r.nm<6000->Kd d r=r:=fun r hr=>by cases r<;>simp only[Ref.nm]at hr<;>simp only[Kd,rn _ hr]
 have rC:∀c:Cp,(∀q∈c.nms,5000<=q/\q<6000)->Ke d c=c:=fun c hc=>by
  cases c with
  |ref r=>simp only[Ke];rw[rR r (hc r.nm (by simp[Cp.nms]))]
  |_=>rfl
 have rCs:∀l:List Cp,(∀q∈l.flatMap Cp.nms,5000<=q/\q<6000)->l.map (Ke d)=l:=fun l hl=>by
  conv=>rhs;rw[<-List.map_id l]
  exact List.map_congr_left fun c hc=>rC c fun q hq=>hl q (List.mem_flatMap.2 ⟨c,hc,hq⟩)
 cases x with
 |ref r=>simp only[Df];rw[rR r (h r.nm (by simp[D.nms]))]
 |fn f x y=>simp only[D.nms,List.mem_append]at h;simp only[Df];rw[rCs x (fun q hq=>h q (.inl hq)),rCs y (fun q hq=>h q (.inr hq))]
 |tup cs=>simp only[Df];rw[rCs cs h]
 |_=>rfl
theorem m9{d:Nat}(hd:d<1000){b:Blk}(h:∀q∈b.nms,5000<=q/\q<6000):EO d b=b:=by
 have go:∀l:List D,(∀q∈l.flatMap D.nms,5000<=q/\q<6000)->l.map (Df d)=l:=fun l hl=>by
  conv=>rhs;rw[<-List.map_id l]
  exact List.map_congr_left fun c hc=>YP hd fun q hq=>hl q (List.mem_flatMap.2 ⟨c,hc,hq⟩)
 cases b with
 |cells cs=>simp only[EO];rw[go cs h]
 |lp l q cs=>simp only[EO];rw[go cs h]
 |gmap ls clk es=>
  simp only[EO];congr 1
  conv=>rhs;rw[<-List.map_id es]
  exact List.map_congr_left fun e he=>by simp only[id_eq];rw[YP hd (fun q hq=>h q (List.mem_flatMap.2 ⟨e,he,hq⟩))]
 |_=>rfl
theorem YQ{d:Nat}(hd:d<1000):∀{l:List (Nat×Blk)},(∀p∈l,(5000<=p.1/\p.1<6000)/\∀q∈p.2.nms,5000<=q/\q<6000)->Bj d l=l
 |[],_=>rfl
 |(k,b)::r,h=>by simp only[Bj];have h0:=h _ List.mem_cons_self;simp only at h0;rw[m9 hd h0.2,YQ hd fun p hp=>h p (List.mem_cons_of_mem _ hp)];grind[ren]
theorem T2{T:List (Nat×Blk)}(h:Qo T l=true):∀p∈l,∀q∈p.2.nms,names T q:=by
 induction l with
 |nil=>intro p hp;simp at hp
 |cons x r ih=>obtain⟨k,b⟩:=x;simp only[Qo,Bool.and_eq_true]at h;intro p hp q hq;grind[Fl]
theorem nc(h:SK mv l=true){d:Nat}(hd:d<1000):Bj d l=l:=by refine YQ hd fun p hp=>⟨Iz h p.1 (CE.1 (List.mem_map.2 ⟨p,hp,rfl⟩)),fun q hq=>Iz h q (T2 (Fo h) p hp q hq)⟩
theorem YR{r:List (Nat×Blk)}{m:Nat}(h:Aa l m=none):Aa (l++r) m=Aa r m:=by rw[Kf,h]
theorem T3{mk:List (Nat×Blk)}{get:St->Option (FuncId×List D)}{E0:Env}{own mj:List (Nat×Blk)}{d:Option Nat}{K:St->Prop}{y:FuncId}{xs:List I}{r0:I}(hy:MC P GL y (xs.map .i) mj mv (fun r s=>r=.i r0/\s=mk))(hd:∀s,d=some s->s<999)
  (ka:get ⟨E0,own++mj⟩=some (y,xs.map .i))(hj:SK mv mj=true)(hk:SK mv mk=true)(hn:mk.map (·.1)=mj.map (·.1))(hV:okV mv=true)(ho:T0 own=true)(ks:List Nat){E:List (Nat×D)}(hE:Ey E0 ks=E)(hl:(E.all fun p=>OL own p.2.nms)=true)
  (k:K (putO ⟨.l E,own++mk⟩ d (.i r0))):Ah P GL get ⟨E0,own++mj⟩ d K:=by
 have hd9:d.getD 999<1000:=by
  cases d with
  |none=>simp
  |some s=>have:=hd s rfl;simp only[Option.getD_some];omega
 simp only[T0,Bool.and_eq_true]at ho;obtain⟨⟨ho1,ho2⟩,ho3⟩:=ho;have olow:∀q,names own q->q<5000:=fun q hq=>by rw[List.all_eq_true]at ho1;have:=ho1 q (CE.2 hq);simpa using this
 have dis:∀q,names own q->Aa mj q=none:=fun q hq=>by
  cases hg:Aa mj q with
  |none=>rfl
  |some b=>have:=Iz hj q (by simp[names,hg]);have:=olow q hq;omega
 have dis':∀q,names mj q->Aa own q=none:=fun q hq=>by
  cases hg:Aa own q with
  |none=>rfl
  |some b=>have:=Iz hj q hq;have:=olow q (by simp[names,hg]);omega
 have dis2:∀q,names mk q->Aa own q=none:=fun q hq=>by
  cases hg:Aa own q with
  |none=>rfl
  |some b=>have:=Iz hk q hq;have:=olow q (by simp[names,hg]);omega
 have okn:∀{l:List (Nat×Blk)},SK mv l=true->Ep (l.map (·.1))=true:=fun h=>by simp only[SK,Bool.and_eq_true]at h;exact h.2
 refine⟨[],?_⟩;show match get ⟨E0,own++mj⟩with|some (f,ds)=>_|none=>False
 rw[ka];refine .inr (.inr ⟨mj,mv,_,hy,?_,Fo hj,?_,?_,?_⟩)
 ·refine Pl (mv:=mv) (okn hj) _ fun m b hm=>?_
  show Aa (own++mj) m=some b;rw[YR (dis' m (by simp[names,hm]))];exact hm
 ·rw[List.all_eq_true];intro x hx;obtain⟨z,_,rfl⟩:=List.mem_map.1 hx;rfl
 ·rw[List.all_eq_true];intro q hq;unfold okV at hV;rw[List.all_eq_true]at hV;have:=hV q hq;simp only[Bool.and_eq_true,Nat.ble_eq,Nat.blt_eq]at this;simp only[Bool.or_eq_true,Nat.blt_eq,Nat.ble_eq];omega
 ·rintro r s ⟨rfl,hs⟩;have hs:=hs.symm;subst hs;have hren:=nc hk hd9;refine⟨fun nm hm=>?_,fun nm hm _=>?_,r0,⟨.l E,own++mk⟩,rfl,?_,k⟩
  ·rw[hren,hn]at hm;exact .inl (CE.1 hm)
  ·have h1:=Iz hj nm (CE.1 hm);unfold ren;rw[if_neg (by omega),if_neg (by omega),if_neg (by omega),if_neg (by omega)]
  ·have hgone:∀q∈Ls mj mk mv,5000<=q:=fun q hq=>by unfold Ls at hq;exact(Iz hj q (CE.1 (List.mem_filter.1 hq).1)).1
   have hap:∀q,names own q->names (own++mk) q:=fun q hq=>by obtain⟨b,hb⟩:=Option.isSome_iff_exists.1 hq;simp only[names,Kf,hb,Option.isSome_some]
   have hap2:∀q,names mk q->names (own++mk) q:=fun q hq=>by simp only[names,YR (dis2 q hq)];exact hq
   simp only[DN,hren,frzNs];refine⟨?_,?_,?_,?_⟩
   ·subst hE;clear k
    induction ks with
    |nil=>trivial
    |cons s r ih=>simp only[Ey,List.all_cons,Bool.and_eq_true]at hl;refine⟨?_,ih hl.2⟩;rw[SQ];exact YN (fun q hq=>olow q (Fl hl.1 q hq)) hgone
   ·refine Pl (mv:=mv) ?_ _ fun m b hm=>?_
    ·have h1:∀x∈own.map (·.1),x∉mk.map (·.1):=fun x hx hx'=>by have:=dis2 x (CE.1 hx');have:=CE.1 hx;simp_all[names]
     have nd:∀{l r:List Nat},Ep l=true->Ep r=true->(∀x∈l,x∉r)->Ep (l++r)=true:=fun{l r}=>by
      induction l with
      |nil=>intro _ h _;exact h
      |cons a l ih=>
       intro ha hb hc;obtain⟨a1,a2⟩:=Tz ha;simp only[List.cons_append,Ep,Bool.and_eq_true,Bool.not_eq_true'];refine⟨?_,ih a2 hb fun x hx=>hc x (List.mem_cons_of_mem _ hx)⟩;cases hcc:(l++r).contains a with
       |false=>rfl
       |true=>
        rcases List.mem_append.1 (List.contains_iff_mem.1 hcc)with q|q
        ·exact(a1 q).elim
        ·exact(hc a List.mem_cons_self q).elim
     rw[List.map_append];exact nd ho2 (okn hk) h1
    ·rw[Kf]at hm⊢;cases ho:Aa own m with
     |some c=>
      rw[ho]at hm;cases hm;have qb:names own m:=by simp[names,ho]
      have vk:Aa mk m=none:=by
       cases hg:Aa mk m with
       |none=>rfl
       |some b'=>have:=dis2 m (by simp[names,hg]);rw[this]at ho;cases ho
      rw[vk];simp only;rw[Qv,Qw,if_neg (fun hc=>by have:=dis' m (CE.1 hc);rw[this]at ho;cases ho),Kf,ho]
      simp only[Option.map_some,Option.some.injEq];refine YO (fun q hq=>olow q ?_) hgone;rw[List.all_eq_true]at ho3;have kl:∃p∈own,p.2=b:=by
       clear hl hE ka k ho1 ho2 ho3 olow dis dis' dis2 hap hap2 qb
       induction own with
       |nil=>cases ho
       |cons x r ih=>
        obtain⟨k0,b0⟩:=x;simp only[Aa]at ho;split at ho
        ·cases ho;exact⟨_,List.mem_cons_self,rfl⟩
        ·obtain⟨p,hp,e⟩:=ih ho;exact⟨p,List.mem_cons_of_mem _ hp,e⟩
      obtain⟨p,hp,rfl⟩:=kl;exact Fl (ho3 p hp) q hq
     |none=>rw[ho]at hm;simp only at hm;rw[hm]
   ·have go:∀l:List (Nat×D),(l.all fun p=>OL own p.2.nms)=true->clE (own++mk) l=true:=fun l=>by
     induction l with
     |nil=>intro _;rfl
     |cons x l ih=>obtain⟨s,z⟩:=x;intro h;simp only[List.all_cons,Bool.and_eq_true]at h;simp only[clE,Bool.and_eq_true];refine⟨?_,ih h.2⟩;simp only[OL,List.all_eq_true];intro q hq;exact hap q (Fl h.1 q hq)
    exact go E hl
   ·have go:∀l:List (Nat×Blk),(∀p∈l,∀q∈p.2.nms,names (own++mk) q)->Qo (own++mk) l=true:=fun l=>by
     induction l with
     |nil=>intro _;rfl
     |cons x l ih=>obtain⟨s,z⟩:=x;intro h;simp only[Qo,Bool.and_eq_true];refine⟨?_,ih fun p hp=>h p (List.mem_cons_of_mem _ hp)⟩;simp only[OL,List.all_eq_true];intro q hq;exact h _ List.mem_cons_self q hq
    refine go _ fun p hp q hq=>?_
    rcases List.mem_append.1 hp with hp|hp
    ·rw[List.all_eq_true]at ho3;exact hap q (Fl (ho3 p hp) q hq)
    ·exact hap2 q (T2 (Fo hk) p hp q hq)
theorem JB:names ((nm,b)::sto)=names ((nm,b')::sto):=by grind[names,Aa]
theorem StoOk.conv{S:Nat->Prop}{M:Mem}(h:StoOk S M μ ((nm,b)::sto) w)(hb:AQ S M μ (names ((nm,b)::sto)) w nm b->AQ S M μ (names ((nm,b)::sto)) w nm b'):StoOk S M μ ((nm,b')::sto) w where
 sub:=h.sub
 blk:=fun m x hx=>by
  rw[<-JB (b:=b)];simp only[Aa]at hx;by_cases e:nm=m
  ·subst e;rw[if_pos rfl]at hx;cases hx;exact hb (h.blk nm b (by simp[Aa]))
  ·rw[if_neg e]at hx;exact h.blk m x (by simp only[Aa];rw[if_neg e];exact hx)
 sep:=fun m m' k k' ji h1 h2=>h.sep m m' k k' ji (by rw[JB (b':=b')];exact h1) (by rw[JB (b':=b')];exact h2)
 low:=h.low
theorem Ri:AN μ ((nm,b)::sto) w=AN μ ((nm,b')::sto) w:=by unfold AN;rw[JB (b':=b')]
theorem T4{rs:List (List I)}(h:∀c,MC P GL f args ((nm,.arr e k (rs.map some++List.replicate c none))::sto) mv R):
  MC P GL f args ((nm,.rows e k rs)::sto) mv R:=by
 intro M μ w vs ki qg jp;obtain⟨a,cap,hμ,hh⟩:=ki.blk nm (.rows e k rs) (by simp[Aa]);have hrc:rs.length<=cap:=by grind
 have hl:(rs.map some++List.replicate (cap-rs.length) (none:Option (List I))).length=cap:=by simp;omega
 have h1:=ki.conv (b':=.arr e k (rs.map some++List.replicate (cap-rs.length) none)) fun _=>⟨a,by rw[hl];exact hμ,by
  rcases hh with⟨rfl,rfl⟩|⟨b,o,cur,rfl,hc,ho,q1,q2,q3,q4⟩
  ·exact .inl rfl
  ·refine .inr ⟨b,o,cur,rfl,fun e=>by rw[e]at hl;simp at hl;omega,ho,by rw[hl];exact q1,by rw[hl];exact q2,fun i r hr=>?_⟩;by_cases hi:i<rs.length
   ·rw[List.getElem?_append_left (by simpa using hi)]at hr;exact QI.1 q4 i r hr
   ·rw[List.getElem?_append_right (by simpa using hi),List.getElem?_replicate]at hr;split at hr<;>cases hr⟩
 have:=h (cap-rs.length) M μ w vs (by rw[Ri (b':=.rows e k rs)];exact h1) qg (by rw[JB (b':=.rows e k rs)];exact jp);rw[Ri (b':=.rows e k rs),JB (b':=.rows e k rs)]at this;exact this
theorem AQ.rowsOf{S:Nat->Prop}{M:Mem}{N:Nat->Prop}{rows:List (List I)}{j:List (Option (List I))}(hb:AQ S M μ N w nm (.arr e k (rows.map some++j))):AQ S M μ N w nm (.rows e k rows):=by
 obtain⟨a,hμ,hh⟩:=hb;refine⟨a,_,hμ,?_⟩;rcases hh with hh|⟨b,o,cur,rfl,ji,ho,q1,q2,q3⟩
 ·have h1:=congrArg List.length hh;simp at h1;exact .inl ⟨by simp[h1.1,h1.2],h1.1⟩
 ·refine .inr ⟨b,o,cur,rfl,by cases hx:(rows.map some++j)<;>simp_all,ho,q1,q2,by simp,QI.2 fun i r hr=>?_⟩;have hi:i<rows.length:=by have:=(List.getElem?_eq_some_iff.1 hr).1;simpa using this
  exact q3 i r (by rw[List.getElem?_append_left (by simpa using hi)];exact hr)
theorem MC.arrIn{rs:List (List I)}(h:MC P GL f args ((nm,.rows e k rs)::sto) mv R)(j:List (Option (List I))):
  MC P GL f args ((nm,.arr e k (rs.map some++j))::sto) mv R:=by
 intro M μ w vs ki qg jp;have h1:=ki.conv (b':=.rows e k rs) AQ.rowsOf
 have:=h M μ w vs (by rw[Ri (b':=.arr e k (rs.map some++j))];exact h1) qg (by rw[JB (b':=.arr e k (rs.map some++j))];exact jp);rw[Ri (b':=.arr e k (rs.map some++j)),JB (b':=.arr e k (rs.map some++j))]at this;exact this
theorem MC.rowsOut{R':D->List (Nat×Blk)->Prop}(h:MC P GL f args sto mv R)
  (hR:∀r s,R r s->∃nm e k rows j s0,s=(nm,Blk.arr e k (List.map some rows++j))::s0/\R' r ((nm,.rows e k rows)::s0)):MC P GL f args sto mv R':=by
 intro M μ w vs ki qg jp;refine(h M μ w vs ki qg jp).mono ?_;rintro v w' ⟨r,s,M',μ',hr,q1,q2,q3⟩;obtain⟨nm,e,k,rows,j,s0,rfl,vj⟩:=hR r s hr;exact⟨r,_,M',μ',vj,q1.conv AQ.rowsOf,by rw[JB (b':=.arr e k (rows.map some++j))];exact q2,q3⟩
theorem MC.frz{R':D->List (Nat×Blk)->Prop}(h:MC P GL f args sto mv R)
  (hR:∀r s,R r s->∃l,R' (Aj (frzNs l ⟨.l [(0,r)],s⟩).env 0) (frzNs l ⟨.l [(0,r)],s⟩).sto):MC P GL f args sto mv R':=by
 intro M μ w vs ki qg jp;refine(h M μ w vs ki qg jp).mono ?_;rintro v w' ⟨r,s,M',μ',hr,q1,q2,q3,q4,q5⟩;obtain⟨l,hl⟩:=hR r s hr;have h0:Rel GL 1 {(AN μ sto w)with q:=μ'} M' μ' ⟨.l [(0,r)],s⟩ {tmps:=#[v],defers:=(AN μ sto w).ds} w':=
  {toStoOk:=q1,small:=by decide,pin:=fun _ _=>rfl,defers:=rfl,size:=rfl,glob:=qg.mono q3.le,env:=fun t=>by
    simp only[Aj,CW];split
    ·rename_i e;subst e;exact q2
    ·trivial}
 obtain⟨M2,h2,m2⟩:=h0.frzNs l;exact⟨_,_,M2,μ',hl,h2.toStoOk,h2.env 0,q3.trans m2,q4,q5⟩
theorem MC.sl{n:Nat}{rows:List (List I)}(h:MC P GL f args [] [] fun r s=>r=.ref (.sl 6000 k 0 n)/\s=[(6000,.rows e k rows)])(hn:n=rows.length:=by simp):MC P GL f args [] [] (gu (.sl rows)):=
 h.frz fun r s ⟨h1,h2⟩=>⟨[6000],by
  subst h1 h2 hn;simp[frzNs,St.frzN,St.frz,Aa,FL,Aj,CW,Qq,Yy,cpR,Ref.nm,SL,Cs,gu,Cp.toD]⟩
end
end Go.Dl
end
section
namespace Go.Dl
open Go Go.RowKit
variable{K:St->Prop}{d:Nat}{st:St}{R:D->List (Nat×Blk)->Prop}{mv:List Nat}
@[go_sem] theorem aL5:(∀neg,CN .sl neg (.i .nilsl) d st K=K (st.put d (.i (.bool (true !=neg)))))/\Je (.i .nilsl) d st K=K (st.put d (.i (.int .i64 0))):=⟨fun _=>rfl,rfl⟩
class Sx(p:Prop)(a b:outParam Prop):Prop where
 s:a->b->p
class Sz(p:Prop)(a:outParam Prop):Prop where
 s:a->p
section
variable {P:Program}{GL:List (Nat×List I)}
instance {s b w i r st K}:Sx (ma P GL s (.i (.bool b)) w i r st K) (b=true->ma P GL s (.i (.bool true)) w i r st K) (b=false->ma P GL s (.i (.bool false)) w i r st K):=⟨md⟩
instance {s b w sn i r st K}:Sx (mc P GL s (.i (.bool b)) w sn i r st K) (b=true->mc P GL s (.i (.bool true)) w sn i r st K) (b=false->mc P GL s (.i (.bool false)) w sn i r st K):=⟨mf⟩
instance {b a c K st}:Sx (Hb P GL (.i (.bool b)) a c K st) (b=true->Hb P GL (.i (.bool true)) a c K st) (b=false->Hb P GL (.i (.bool false)) a c K st):=⟨Pk⟩
instance {b d A C st K}:Sx (Er (.i (.bool b)) d A C st K) (b=true->Er (.i (.bool true)) d A C st K) (b=false->Er (.i (.bool false)) d A C st K):=⟨mh⟩
instance {f os st d K}:Sx (Ah P GL (Fi GL f os) st d K) ((os.all fun o=>Ja (A8 GL (frzNs (oN GL st os) st) o))=true) (Ai P GL f (os.map fun o=>Ii (A8 GL (frzNs (oN GL st os) st) o)) (frzNs (oN GL st os) st) d K):=⟨Pj⟩
instance {f os st d K}:Sx (Et P GL (Fi GL f os) os d st K) ((os.all fun o=>Ja (A8 GL (frzNs (oN GL st os) st) o))=true) (Ai P GL f (os.map fun o=>Ii (A8 GL (frzNs (oN GL st os) st) o)) (frzNs (oN GL st os) st) d K):=⟨mw⟩
instance {fo os st d K}:Sx (Et P GL (DZ GL fo os) (fo::os) d st K) (((fo::os).all fun o=>Ja (A8 GL (frzNs (oN GL st (fo::os)) st) o))=true) (HM P GL (A8 GL (frzNs (oN GL st (fo::os)) st) fo) (os.map fun o=>Ii (A8 GL (frzNs (oN GL st (fo::os)) st) o)) (frzNs (oN GL st (fo::os)) st) d K):=⟨my⟩
instance {rs given mv y st}:Sz (FY rs given mv (gu y) st) (Nv (gu y) (Iw (frzNs (rsN rs st) st) rs)):=⟨Gw⟩
theorem AD{s:Nat}{b w v:Bool}{i:Ins}{r blk r':List GI}{R:O}{e:Env}{so:List (Nat×Blk)}(h1:b=w->Dl.evD P GL [] (DC s w blk) ⟨e,so⟩ (fun st'=>A8 GL st' R=.i (.bool v)))(h2:∀f,Dl.ev P GL r' ((C6 f 0 (CH blk) ⟨e,so⟩).put d (.i (.bool (scV w b v)))) K)
  (hsp:Ha s w (⟨some (s,w),i⟩::r)=some (blk,R,d,r'):=by exact rfl)(kg:Fp s w [] blk=true:=by exact rfl)(hs:Aj e s=.i (.bool b):=by simp only[V0,V1,Nat.reduceEqDiff,reduceIte]):ma P GL s (.i (.bool b)) w i r ⟨e,so⟩ K:=mE hsp kg hs h1 h2
theorem Dr{sn:List Nat}{s:Nat}{b w v:Bool}{i:Ins}{r blk r':List GI}{R:O}{e:Env}{so:List (Nat×Blk)}(h1:b=w->Dl.evD P GL sn (DC s w blk) ⟨e,so⟩ (fun st'=>A8 GL st' R=.i (.bool v)))(h2:∀f,Dl.evD P GL sn r' ((C6 f 0 (CH blk) ⟨e,so⟩).put d (.i (.bool (scV w b v)))) K)
  (hsp:Ha s w (⟨some (s,w),i⟩::r)=some (blk,R,d,r'):=by exact rfl)(kg:Fp s w [] blk=true:=by exact rfl)(hs:Aj e s=.i (.bool b):=by simp only[V0,V1,Nat.reduceEqDiff,reduceIte]):mc P GL s (.i (.bool b)) w sn i r ⟨e,so⟩ K:=mF hsp kg hs h1 h2
theorem EW{f:FuncId}{os:List O}{d:Option Nat}{ds:List D}{sto:List (Nat×Blk)}(h:MC P GL f ds sto mv R)(wu:os.map (A8 GL st)=ds)
  (k:∀r sto',R r sto'->((Bj (d.getD 999) sto').map (·.1)).all (fun nm=>(Aa sto nm).isSome||((Aa st.sto nm).isNone&&Nat.blt nm 5000))=true/\(sto.map (·.1)).all (fun nm=>(Aa sto' nm).isNone||ren (d.getD 999) nm==nm)=true/\K (putO (DN st sto sto' mv (d.getD 999)) d (Df (d.getD 999) r)))
  (h1:Br sto st.sto:=by simp[V0,V1,V2,I9,V8,L9,Ref.nm])(h2:(Qo sto sto&&(ds.all fun x=>OL sto x.nms)&&(mv.all fun m=>Nat.blt m 5000||Nat.ble 5500 m))=true:=by simp[V0,V1,V2,I9,V8,L9,Ref.nm]):Ah P GL (Fi GL f os) st d K:=Iy h wu h1 h2 k
theorem HO{f:FuncId}{os:List O}{ds:List D}(h:MC P GL f ds [] [] R)(wu:os.map (A8 GL st)=ds)
  (k:∀r sto',R r sto'->((Bj d sto').map (·.1)).all (fun nm=>(Aa st.sto nm).isNone&&Nat.blt nm 5000)=true/\K ((⟨st.env,Bj d sto'++st.sto⟩:St).put d (Df d r)))(hI:(ds.all Ja)=true:=by exact rfl):Nu P GL f os d st K:=Q6 h wu hI k
abbrev YS(P:Program)(GL:List (Nat×List I))(i:Nat)(h:List (Nat×List (List Nat)))(d:FD):Prop:=((P.funcs[i]?).bind fun f=>some (f.ntmps,f.body.bind (comp P GL f.ntmps d.a true d.b h),f.results.toList.mapM (Iv P),f.name != "runtime.NumGoroutine",Nat.blt i 1000000000,Nat.ble f.ntmps 999))=some (d.n,some d.c.ir,some d.l,true,true,true)
structure FP(P Q:Program)(G:Int->List (Nat×List I))(i:Nat) where
 d:FD
 e:List (Nat×List (List Nat))
 h:∀mx,YS P (G mx) i e d
def FP.of{P Q:Program}{G:Int->List (Nat×List I)}{i:Nat}(f:Func)(a:List Nat:=[])(b:List (Nat×Nat):=[])(h:List (Nat×List (List Nat)):=[]){y:FD}(_e:mkF Q (G 0) f a b h=some y:=by conv=>lhs;cbv)(k:∀mx,YS P (G mx) i h y:=by intro;show _=_;kernel_rfl):FP P Q G i:=⟨y,h,k⟩
theorem MX{Q:Program}{G:Int->List (Nat×List I)}{mx:Int}{i n:Nat}{a:List Nat}{b:List (Nat×Nat)}{l:List RV}{c:J}{sto:List (Nat×Blk)}{args:List D}(F:FP P Q G i)
  (hw:W2 P (G mx) c (L7 l (sto.map (·.1)) mv R) ⟨.l (Eg 0 args),sto⟩)(hd:F.d=⟨n,a,b,l,c⟩:=by conv=>lhs;whnf)
  (jz:Nat.ble args.length n=true:=by exact rfl)(hpin:((sto.map (·.1)).all fun m=>(Nat.ble 5000 m&&Nat.blt m 5500)||mv.contains m)=true:=by exact rfl):MC P (G mx) i args sto mv R:=by
 have h:=F.h mx;rw[hd]at h;obtain⟨f,hf,e⟩:=Option.bind_eq_some_iff.1 h;simp only[Option.some.injEq,Prod.mk.injEq]at e;obtain⟨e1,e2,e3,e4,e5,e6⟩:=e;rw[e1]at e2 e6;exact l9 hf e4 e1 jz e6 e2 e3 hpin hw e5
theorem EX{rs:List RV}{given:List Nat}(ks:List (Nat×Nat)){x:D}{s':List (Nat×Blk)}(h3:R (J8 (kf ks) x) (J5 (kf ks) s'))(hx:Iw st rs=some x:=by(simp only[go_sem,simprocAttr,V10];rfl))(hs:CG (ks.map (·.1)) st.sto=s':=by(simp[YI];rfl))
  (h1:Pf given mv ks=true:=by decide)(h2:(OL s' x.nms&&Qo s' s')=true:=by simp[V0,V1,V2,I9,V8,L9,Ref.nm]):FY rs given mv R st:=Ez ks hx hs h1 h2 h3
end
end Go.Dl
end
section
namespace Go.Dl
open Go Go.RowKit Go.As
variable{p q A:Prop}{P:Program}{GL:List (Nat×List I)}
theorem lT{body:J}{K:Exit->St->Prop}{e:Env}{s:List (Nat×Blk)}{ι:Type}(ks:List Nat){bs:List (Nat×D)}(C:ι->List (Nat×D))(B:ι->List (Nat×Blk))(I:ι->Prop)(m:ι->Nat)(k:ι)
  (round:∀i,I i->W2 P GL body (Ma (fun i=>⟨.l (C i++bs),B i⟩) I m i K) ⟨.l (C i++bs),B i⟩)(hi:I k:=by first|omega|simp)(hb:Ey e ks=bs:=by(simp only[V0,V1,V2,MQ,reduceIte,Nat.reduceEqDiff];rfl))(h0:Sub ⟨.l (C k++bs),B k⟩ ⟨e,s⟩:=by simp[V0,V1,V2,I9,V8,L9,Ref.nm,D.nms,OL];try exact⟨rfl,rfl⟩):W2 P GL (.lp body) K ⟨e,s⟩:=BG ks hb C B I m k hi h0 round
theorem lS{body:J}{K:Exit->St->Prop}{e:Env}{s:List (Nat×Blk)}(ks:List Nat){bs:List (Nat×D)}(C:Nat->List (Nat×D))(B:Nat->List (Nat×Blk))(I:Nat->Prop)(n:Nat)
  (round:∀i,i<=n->I i->W2 P GL body (L8 (fun i=>⟨.l (C i++bs),B i⟩) I n i K) ⟨.l (C i++bs),B i⟩)(hi:I 0:=by first|omega|simp)(hb:Ey e ks=bs:=by(simp only[V0,V1,V2,MQ,reduceIte,Nat.reduceEqDiff];rfl))(h0:Sub ⟨.l (C 0++bs),B 0⟩ ⟨e,s⟩:=by simp[V0,V1,V2,I9,V8,L9,Ref.nm,D.nms,OL];try exact⟨rfl,rfl⟩):W2 P GL (.lp body) K ⟨e,s⟩:=DQ ks hb C B I n 0 (Nat.zero_le _) hi h0 round
structure Kq(q:Prop):Prop where
 o:q
def Tg(_:Unit)(c:Prop):Prop:=c
theorem Tg.mk(m:Unit){c:Prop}(h:c):Tg m c:=h
theorem tgU(p:Prop):(Unit->p)=p:=propext ⟨fun h=>h (),fun h _=>h⟩
theorem Ky(k:Kq q)(h:q->p:=by
 intro k
 with_reducible (repeat first|exact And.left k|exact k|replace k:=And.right k)
 done):p:=h k.o
theorem Kx{f:FuncId}{xs:List I}{y:I}{st:St}{d:Option Nat}{K:St->Prop}(a:A)(k:K (putO st d (.i y)))(h:A->Is1 P GL f (xs.map .i) y:=by
 intro b
 (repeat first|(apply And.left b<;>first|assumption|omega|exact AA (by omega))|(apply b<;>first|assumption|omega|exact AA (by omega))|replace b:=@And.right _ _ b)
 done):Ai P GL f xs st d K:=Ab (h a) k
theorem Ka(a:A)(k:q)(h:A->Unit->Kq q->p:=by
 intro a m k
 repeat' first
  |exact Av _
  |with_reducible rfl
  |simp(disch:=omega)only[go_sem,simprocAttr,a]
  |refine' AD (fun hq=>?_) (fun f=>?_)<;>try(have je:=hq;try simp only[HB]at je)
  |refine' Dr (fun hq=>?_) (fun f=>?_)<;>try(have je:=hq;try simp only[HB]at je)
  |refine Sx.s ?_ ?_<;>try(intro h;have h':=h;(try simp only[HB]at h');have h1:=Tg.mk m h;have h1':=Tg.mk m h';try rewrite [h];try simp only[h])
  |refine Kx @a ?_
  |refine Ae ?_
  |refine Ix ?_ ?_
  |refine AG ?_
  |refine Sz.s ?_
  |(refine And.intro ?_ ?_;focus omega)
  |omega
  |fail
 all_goals first
  |(clear m;exact Ky k)
  |(revert m;simp only[Tg,tgU];exact Ky k)):p:=h a () ⟨k⟩
theorem Kas(a:A)(k:q)(h:A->Unit->Kq q->p:=by
 intro a m k
 repeat' first
  |exact Av _
  |with_reducible rfl
  |simp(disch:=omega)only[go_sem,simprocAttr,ne_eq,not_true_eq_false,not_false_eq_true,decide_true,decide_false,Nat.sub_zero,Nat.zero_add,List.map_nil,List.map_cons,List.length_map,beq_self_eq_true,if_true,if_false,Bool.false_eq_true,a]
  |refine' AD (fun hq=>?_) (fun f=>?_)<;>try(have je:=hq;try simp only[HB]at je)
  |refine' Dr (fun hq=>?_) (fun f=>?_)<;>try(have je:=hq;try simp only[HB]at je)
  |refine Sx.s ?_ ?_<;>try(intro h;have h':=h;(try simp only[HB]at h');have h1:=Tg.mk m h;have h1':=Tg.mk m h';try rewrite [h];try simp only[h])
  |refine Kx @a ?_
  |refine Ae ?_
  |refine Ix ?_ ?_
  |refine AG ?_
  |refine Sz.s ?_
  |(refine And.intro ?_ ?_;focus omega)
  |omega
  |fail
 all_goals first
  |(clear m;exact Ky k)
  |(revert m;simp only[Tg,tgU];exact Ky k)):p:=h a () ⟨k⟩
theorem Kb(k:q)(h:Unit->Kq q->p:=by
 intro m k
 repeat' first
  |exact Av _
  |with_reducible rfl
  |simp(disch:=omega)only[go_sem,simprocAttr]
  |refine' AD (fun hq=>?_) (fun f=>?_)<;>try(have je:=hq;try simp only[HB]at je)
  |refine' Dr (fun hq=>?_) (fun f=>?_)<;>try(have je:=hq;try simp only[HB]at je)
  |refine Sx.s ?_ ?_<;>try(intro h;have h':=h;(try simp only[HB]at h');have h1:=Tg.mk m h;have h1':=Tg.mk m h';try rewrite [h];try simp only[h])
  |refine Ae ?_
  |refine Ix ?_ ?_
  |refine AG ?_
  |refine Sz.s ?_
  |(refine And.intro ?_ ?_;focus omega)
  |omega
  |fail
 all_goals first
  |(clear m;exact Ky k)
  |(revert m;simp only[Tg,tgU];exact Ky k)):p:=h () ⟨k⟩
theorem Dp(a:A)(k:q)(h:A->Unit->Kq q->p:=by
 intro a m k
 repeat' first
  |exact Av _
  |with_reducible rfl
  |simp(disch:=omega)only[go_sem,simprocAttr,a]
  |refine' AD (fun hq=>?_) (fun f=>?_)<;>try(have je:=hq;try simp only[HB]at je)
  |refine' Dr (fun hq=>?_) (fun f=>?_)<;>try(have je:=hq;try simp only[HB]at je)
  |refine Sx.s ?_ ?_<;>try(intro h;have h':=h;(try simp only[HB]at h');have h1:=Tg.mk m h;have h1':=Tg.mk m h';try rewrite [h];try simp only[h])
  |refine Kx @a ?_
  |refine Ae ?_
  |refine Ix ?_ ?_
  |refine AG ?_
  |refine Sz.s ?_
  |fail
 all_goals first
  |(clear m;exact Ky k)
  |(revert m;simp only[Tg,tgU];exact Ky k)):p:=h a () ⟨k⟩
theorem A4(a:A)(k:q)(h:A->Unit->Kq q->p:=by
 intro a m k
 repeat' first
  |exact Av _
  |with_reducible rfl
  |simp(disch:=omega)only[go_sem,simprocAttr,ne_eq,not_true_eq_false,not_false_eq_true,decide_true,decide_false,Nat.sub_zero,Nat.zero_add,List.map_nil,List.map_cons,List.length_map,beq_self_eq_true,if_true,if_false,Bool.false_eq_true,a]
  |refine' AD (fun hq=>?_) (fun f=>?_)<;>try(have je:=hq;try simp only[HB]at je)
  |refine' Dr (fun hq=>?_) (fun f=>?_)<;>try(have je:=hq;try simp only[HB]at je)
  |refine Sx.s ?_ ?_<;>try(intro h;have h':=h;(try simp only[HB]at h');have h1:=Tg.mk m h;have h1':=Tg.mk m h';try rewrite [h];try simp only[h])
  |refine Kx @a ?_
  |refine Ae ?_
  |refine Ix ?_ ?_
  |refine AG ?_
  |refine Sz.s ?_
  |fail
 all_goals first
  |(clear m;exact Ky k)
  |(revert m;simp only[Tg,tgU];exact Ky k)):p:=h a () ⟨k⟩
theorem WB(k:q)(h:Unit->Kq q->p:=by
 intro m k
 repeat' first
  |exact Av _
  |with_reducible rfl
  |simp(disch:=omega)only[go_sem,simprocAttr]
  |refine' AD (fun hq=>?_) (fun f=>?_)<;>try(have je:=hq;try simp only[HB]at je)
  |refine' Dr (fun hq=>?_) (fun f=>?_)<;>try(have je:=hq;try simp only[HB]at je)
  |refine Sx.s ?_ ?_<;>try(intro h;have h':=h;(try simp only[HB]at h');have h1:=Tg.mk m h;have h1':=Tg.mk m h';try rewrite [h];try simp only[h])
  |refine Ae ?_
  |refine Ix ?_ ?_
  |refine AG ?_
  |refine Sz.s ?_
  |fail
 all_goals first
  |(clear m;exact Ky k)
  |(revert m;simp only[Tg,tgU];exact Ky k)):p:=h () ⟨k⟩
theorem La(a:A)(k:q)(h:A->Unit->Kq q->p:=by
 intro a m k
 repeat' first
  |exact Av _
  |with_reducible rfl
  |simp(disch:=omega)only[go_sem,simprocAttr,a]
  |refine Kx @a ?_
  |refine Ae ?_
  |refine AG ?_
  |refine Sz.s ?_
  |(refine And.intro ?_ ?_;focus omega)
  |omega
  |fail
 all_goals first
  |(clear m;exact Ky k)
  |(revert m;simp only[Tg,tgU];exact Ky k)):p:=h a () ⟨k⟩
theorem ne(a:A)(k:q)(h:A->Unit->Kq q->p:=by
 intro a m k
 repeat' first
  |exact Av _
  |with_reducible rfl
  |simp(disch:=omega)only[go_sem,simprocAttr,ne_eq,not_true_eq_false,not_false_eq_true,decide_true,decide_false,Nat.sub_zero,Nat.zero_add,List.map_nil,List.map_cons,List.length_map,beq_self_eq_true,if_true,if_false,Bool.false_eq_true,a]
  |refine Kx @a ?_
  |refine Ae ?_
  |refine AG ?_
  |refine Sz.s ?_
  |(refine And.intro ?_ ?_;focus omega)
  |omega
  |fail
 all_goals first
  |(clear m;exact Ky k)
  |(revert m;simp only[Tg,tgU];exact Ky k)):p:=h a () ⟨k⟩
theorem Hw(a:A)(k:q)(h:A->Unit->Kq q->p:=by
 intro a m k
 repeat' first
  |exact Av _
  |with_reducible rfl
  |simp(disch:=omega)only[go_sem,simprocAttr,a]
  |refine Kx @a ?_
  |refine Ae ?_
  |refine AG ?_
  |refine Sz.s ?_
  |fail
 all_goals first
  |(clear m;exact Ky k)
  |(revert m;simp only[Tg,tgU];exact Ky k)):p:=h a () ⟨k⟩
theorem By(a:A)(k:q)(h:A->Unit->Kq q->p:=by
 intro a m k
 repeat' first
  |exact Av _
  |with_reducible rfl
  |simp(disch:=omega)only[go_sem,simprocAttr,ne_eq,not_true_eq_false,not_false_eq_true,decide_true,decide_false,Nat.sub_zero,Nat.zero_add,List.map_nil,List.map_cons,List.length_map,beq_self_eq_true,if_true,if_false,Bool.false_eq_true,a]
  |refine Kx @a ?_
  |refine Ae ?_
  |refine AG ?_
  |refine Sz.s ?_
  |fail
 all_goals first
  |(clear m;exact Ky k)
  |(revert m;simp only[Tg,tgU];exact Ky k)):p:=h a () ⟨k⟩
theorem Lbn(k:q)(h:Unit->Kq q->p:=by
 intro m k
 repeat' first
  |exact Av _
  |with_reducible rfl
  |simp(disch:=omega)only[go_sem,simprocAttr]
  |refine Ae ?_
  |refine AG ?_
  |refine Sz.s ?_
  |fail
 all_goals first
  |(clear m;exact Ky k)
  |(revert m;simp only[Tg,tgU];exact Ky k)):p:=h () ⟨k⟩
theorem YT(k:q)(h:Unit->Kq q->p:=by
 intro m k
 repeat' first
  |exact Av _
  |with_reducible rfl
  |simp(disch:=omega)only[go_sem,simprocAttr,ne_eq,not_true_eq_false,not_false_eq_true,decide_true,decide_false,Nat.sub_zero,Nat.zero_add,List.map_nil,List.map_cons,List.length_map,beq_self_eq_true,if_true,if_false,Bool.false_eq_true]
  |refine Ae ?_
  |refine AG ?_
  |refine Sz.s ?_
  |fail
 all_goals first
  |(clear m;exact Ky k)
  |(revert m;simp only[Tg,tgU];exact Ky k)):p:=h () ⟨k⟩
theorem Man(a:A)(k:q)(h:A->Unit->Kq q->p:=by
 intro a m k
 repeat' first
  |exact Av _
  |with_reducible rfl
  |simp(disch:=omega)only[go_sem,simprocAttr,a]
  |fail
 all_goals first
  |(clear m;exact Ky k)
  |(revert m;simp only[Tg,tgU];exact Ky k)):p:=h a () ⟨k⟩
theorem Pm(a:A)(k:q)(h:A->Unit->Kq q->p:=by
 intro a m k
 repeat' first
  |exact Av _
  |with_reducible rfl
  |simp(disch:=omega)only[go_sem,simprocAttr,ne_eq,not_true_eq_false,not_false_eq_true,decide_true,decide_false,Nat.sub_zero,Nat.zero_add,List.map_nil,List.map_cons,List.length_map,beq_self_eq_true,if_true,if_false,Bool.false_eq_true,a]
  |fail
 all_goals first
  |(clear m;exact Ky k)
  |(revert m;simp only[Tg,tgU];exact Ky k)):p:=h a () ⟨k⟩
theorem OG(k:q)(h:Unit->Kq q->p:=by
 intro m k
 repeat' first
  |exact Av _
  |with_reducible rfl
  |simp(disch:=omega)only[go_sem,simprocAttr]
  |fail
 all_goals first
  |(clear m;exact Ky k)
  |(revert m;simp only[Tg,tgU];exact Ky k)):p:=h () ⟨k⟩
end Go.Dl
end
section
namespace Go.As
open Go Go.Dl
structure Fid where
 source:AT
 seq:Int
deriving DecidableEq,Inhabited
structure Fct where
 id:Fid
 kind:Int
 ref:Int
 table:AT
 key:AT
 event:Int
 fields:List Val
deriving Inhabited
structure Ers where
 kind:Int
 entity:AT
 key:AT
 id:Fid
deriving DecidableEq,Inhabited
structure Chg where
 kind:Int
 table:Tbl
 feature:Ftr
 name:AT
deriving Inhabited
structure Ent where
 no:Int
 tick:Int
 kind:Int
 fact:Fct
 erasure:Ers
 change:Chg
deriving Inhabited
structure Rw where
 id:Fid
 table:AT
 key:AT
 event:Int
 fields:List Val
 no:Int
 tick:Int
deriving Inhabited
theorem Pn:∀x:Xpr,eE x=[.int .i64 x.kind,.str x.op,.str x.name,.str x.table,.int .i64 x.val.kind,.int .i64 x.val.n,.str x.val.s,.sl (x.unit.map Aw),.int .i64 x.param,.int .i64 x.win.kind,.int .i64 x.win.size,.sl (x.args.map eE)]:=fun x=>by cases x;simp[eE,Re,Xpr.kind,Xpr.op,Xpr.name,Xpr.table,Xpr.val,Xpr.unit,Xpr.param,Xpr.win,Xpr.args]
def Ao(x:Fid):List I:=[.str x.source,.int .i64 x.seq]
def Ap(x:Fct):List I:=Ao x.id++[.int .i64 x.kind,.int .i64 x.ref,.str x.table,.str x.key,.int .i64 x.event,.sl (x.fields.map Bn)]
def BL(x:Ers):List I:=[.int .i64 x.kind,.str x.entity,.str x.key]++Ao x.id
def AE(x:Chg):List I:=[.int .i64 x.kind]++AR x.table++Ag x.feature++[.str x.name]
def Ac(x:Ent):List I:=[.int .i64 x.no,.int .i64 x.tick,.int .i64 x.kind]++Ap x.fact++BL x.erasure++AE x.change
def SN(x:Rw):List I:=Ao x.id++[.str x.table,.str x.key,.int .i64 x.event,.sl (x.fields.map Bn),.int .i64 x.no,.int .i64 x.tick]
theorem YU(x:Fid):Ao x=[.str x.source,.int .i64 x.seq]:=by rfl
theorem KM(x:Fct):Ap x=[.str x.id.source,.int .i64 x.id.seq,.int .i64 x.kind,.int .i64 x.ref,.str x.table,.str x.key,.int .i64 x.event,.sl (x.fields.map Bn)]:=by rfl
theorem T5(x:Ers):BL x=[.int .i64 x.kind,.str x.entity,.str x.key,.str x.id.source,.int .i64 x.id.seq]:=by rfl
theorem Bw(x:Chg):AE x=[.int .i64 x.kind,.str x.table.name,.str x.table.entity,.sl (x.table.fields.map Cc),.int .i64 x.table.keep,.str x.feature.name,.str x.feature.entity,.int .i64 x.feature.typ.kind,.sl (x.feature.typ.unit.map Aw),.str x.feature.typ.of,.int .i64 x.feature.body.kind,.str x.feature.body.op,.str x.feature.body.name,.str x.feature.body.table,.int .i64 x.feature.body.val.kind,.int .i64 x.feature.body.val.n,.str x.feature.body.val.s,.sl (x.feature.body.unit.map Aw),.int .i64 x.feature.body.param,.int .i64 x.feature.body.win.kind,.int .i64 x.feature.body.win.size,.sl (x.feature.body.args.map eE),.int .i64 x.feature.version,.str x.name]:=by simp[AE,AR,Ag,Ar,Pn]
theorem AV(x:Ent):Ac x=[.int .i64 x.no,.int .i64 x.tick,.int .i64 x.kind,.str x.fact.id.source,.int .i64 x.fact.id.seq,.int .i64 x.fact.kind,.int .i64 x.fact.ref,.str x.fact.table,.str x.fact.key,.int .i64 x.fact.event,.sl (x.fact.fields.map Bn),.int .i64 x.erasure.kind,.str x.erasure.entity,.str x.erasure.key,.str x.erasure.id.source,.int .i64 x.erasure.id.seq,.int .i64 x.change.kind,.str x.change.table.name,.str x.change.table.entity,.sl (x.change.table.fields.map Cc),.int .i64 x.change.table.keep,.str x.change.feature.name,.str x.change.feature.entity,.int .i64 x.change.feature.typ.kind,.sl (x.change.feature.typ.unit.map Aw),.str x.change.feature.typ.of,.int .i64 x.change.feature.body.kind,.str x.change.feature.body.op,.str x.change.feature.body.name,.str x.change.feature.body.table,.int .i64 x.change.feature.body.val.kind,.int .i64 x.change.feature.body.val.n,.str x.change.feature.body.val.s,.sl (x.change.feature.body.unit.map Aw),.int .i64 x.change.feature.body.param,.int .i64 x.change.feature.body.win.kind,.int .i64 x.change.feature.body.win.size,.sl (x.change.feature.body.args.map eE),.int .i64 x.change.feature.version,.str x.change.name]:=by simp only[Ao,Ap,BL,AE,Ac,AR,Ag,Ar,Pn,List.cons_append,List.nil_append]
theorem eRw_eq(x:Rw):SN x=[.str x.id.source,.int .i64 x.id.seq,.str x.table,.str x.key,.int .i64 x.event,.sl (x.fields.map Bn),.int .i64 x.no,.int .i64 x.tick]:=by rfl
theorem YV:(∀x,(Ao x).length=2)/\(∀x,(Ap x).length=8)/\(∀x,(BL x).length=5)/\(∀x,(AE x).length=24)/\(∀x,(Ac x).length=40)/\(∀x,(SN x).length=8):=by simp[YU,KM,T5,Bw,AV,eRw_eq]
theorem ng:
  (∀x,pk false (Ao x) 0 1=.str x.source)/\
  (∀x,pk false (Ao x) 1 1=.int .i64 x.seq)/\
  (∀x,pk true (Ao x) 0 2=.agg (Ao x)):=by
 and_intros<;>intro x<;>simp only[Ao]<;>rfl
theorem nh:
  (∀x,pk true (Ap x) 0 2=.agg (Ao x.id))/\
  (∀x,pk false (Ap x) 0 1=.str x.id.source)/\
  (∀x,pk false (Ap x) 1 1=.int .i64 x.id.seq)/\
  (∀x,pk false (Ap x) 2 1=.int .i64 x.kind)/\
  (∀x,pk false (Ap x) 3 1=.int .i64 x.ref)/\
  (∀x,pk false (Ap x) 4 1=.str x.table)/\
  (∀x,pk false (Ap x) 5 1=.str x.key)/\
  (∀x,pk false (Ap x) 6 1=.int .i64 x.event)/\
  (∀x,pk false (Ap x) 7 1=.sl (x.fields.map Bn))/\
  (∀x,pk true (Ap x) 0 8=.agg (Ap x)):=by
 and_intros<;>intro x<;>simp only[Ao,Ap,List.cons_append,List.nil_append]<;>rfl
theorem ni:
  (∀x,pk false (BL x) 0 1=.int .i64 x.kind)/\
  (∀x,pk false (BL x) 1 1=.str x.entity)/\
  (∀x,pk false (BL x) 2 1=.str x.key)/\
  (∀x,pk true (BL x) 3 2=.agg (Ao x.id))/\
  (∀x,pk false (BL x) 3 1=.str x.id.source)/\
  (∀x,pk false (BL x) 4 1=.int .i64 x.id.seq)/\
  (∀x,pk true (BL x) 0 5=.agg (BL x)):=by
 and_intros<;>intro x<;>simp only[Ao,BL,List.cons_append,List.nil_append]<;>rfl
theorem nj:
  (∀x,pk false (AE x) 0 1=.int .i64 x.kind)/\
  (∀x,pk true (AE x) 1 4=.agg (AR x.table))/\
  (∀x,pk false (AE x) 1 1=.str x.table.name)/\
  (∀x,pk false (AE x) 2 1=.str x.table.entity)/\
  (∀x,pk false (AE x) 3 1=.sl (x.table.fields.map Cc))/\
  (∀x,pk false (AE x) 4 1=.int .i64 x.table.keep)/\
  (∀x,pk true (AE x) 5 18=.agg (Ag x.feature))/\
  (∀x,pk false (AE x) 5 1=.str x.feature.name)/\
  (∀x,pk false (AE x) 6 1=.str x.feature.entity)/\
  (∀x,pk true (AE x) 7 3=.agg (Ar x.feature.typ))/\
  (∀x,pk false (AE x) 7 1=.int .i64 x.feature.typ.kind)/\
  (∀x,pk false (AE x) 8 1=.sl (x.feature.typ.unit.map Aw))/\
  (∀x,pk false (AE x) 9 1=.str x.feature.typ.of)/\
  (∀x,pk true (AE x) 10 12=.agg (eE x.feature.body))/\
  (∀x,pk false (AE x) 10 1=.int .i64 x.feature.body.kind)/\
  (∀x,pk false (AE x) 11 1=.str x.feature.body.op)/\
  (∀x,pk false (AE x) 12 1=.str x.feature.body.name)/\
  (∀x,pk false (AE x) 13 1=.str x.feature.body.table)/\
  (∀x,pk true (AE x) 14 3=.agg (Bn x.feature.body.val))/\
  (∀x,pk false (AE x) 14 1=.int .i64 x.feature.body.val.kind)/\
  (∀x,pk false (AE x) 15 1=.int .i64 x.feature.body.val.n)/\
  (∀x,pk false (AE x) 16 1=.str x.feature.body.val.s)/\
  (∀x,pk false (AE x) 17 1=.sl (x.feature.body.unit.map Aw))/\
  (∀x,pk false (AE x) 18 1=.int .i64 x.feature.body.param)/\
  (∀x,pk true (AE x) 19 2=.agg (Gx x.feature.body.win))/\
  (∀x,pk false (AE x) 19 1=.int .i64 x.feature.body.win.kind)/\
  (∀x,pk false (AE x) 20 1=.int .i64 x.feature.body.win.size)/\
  (∀x,pk false (AE x) 21 1=.sl (x.feature.body.args.map eE))/\
  (∀x,pk false (AE x) 22 1=.int .i64 x.feature.version)/\
  (∀x,pk false (AE x) 23 1=.str x.name)/\
  (∀x,pk true (AE x) 0 24=.agg (AE x)):=by
 and_intros<;>intro x<;>simp only[AE,AR,Ag,Ar,Bn,Gx,Pn,List.cons_append,List.nil_append]<;>rfl
theorem nk:
  (∀x,pk false (Ac x) 0 1=.int .i64 x.no)/\
  (∀x,pk false (Ac x) 1 1=.int .i64 x.tick)/\
  (∀x,pk false (Ac x) 2 1=.int .i64 x.kind)/\
  (∀x,pk true (Ac x) 3 8=.agg (Ap x.fact))/\
  (∀x,pk true (Ac x) 3 2=.agg (Ao x.fact.id))/\
  (∀x,pk false (Ac x) 3 1=.str x.fact.id.source)/\
  (∀x,pk false (Ac x) 4 1=.int .i64 x.fact.id.seq)/\
  (∀x,pk false (Ac x) 5 1=.int .i64 x.fact.kind)/\
  (∀x,pk false (Ac x) 6 1=.int .i64 x.fact.ref)/\
  (∀x,pk false (Ac x) 7 1=.str x.fact.table)/\
  (∀x,pk false (Ac x) 8 1=.str x.fact.key)/\
  (∀x,pk false (Ac x) 9 1=.int .i64 x.fact.event)/\
  (∀x,pk false (Ac x) 10 1=.sl (x.fact.fields.map Bn))/\
  (∀x,pk true (Ac x) 11 5=.agg (BL x.erasure))/\
  (∀x,pk false (Ac x) 11 1=.int .i64 x.erasure.kind)/\
  (∀x,pk false (Ac x) 12 1=.str x.erasure.entity)/\
  (∀x,pk false (Ac x) 13 1=.str x.erasure.key)/\
  (∀x,pk true (Ac x) 14 2=.agg (Ao x.erasure.id))/\
  (∀x,pk false (Ac x) 14 1=.str x.erasure.id.source)/\
  (∀x,pk false (Ac x) 15 1=.int .i64 x.erasure.id.seq)/\
  (∀x,pk true (Ac x) 16 24=.agg (AE x.change))/\
  (∀x,pk false (Ac x) 16 1=.int .i64 x.change.kind)/\
  (∀x,pk true (Ac x) 17 4=.agg (AR x.change.table))/\
  (∀x,pk false (Ac x) 17 1=.str x.change.table.name)/\
  (∀x,pk false (Ac x) 18 1=.str x.change.table.entity)/\
  (∀x,pk false (Ac x) 19 1=.sl (x.change.table.fields.map Cc))/\
  (∀x,pk false (Ac x) 20 1=.int .i64 x.change.table.keep)/\
  (∀x,pk true (Ac x) 21 18=.agg (Ag x.change.feature))/\
  (∀x,pk false (Ac x) 21 1=.str x.change.feature.name)/\
  (∀x,pk false (Ac x) 22 1=.str x.change.feature.entity)/\
  (∀x,pk true (Ac x) 23 3=.agg (Ar x.change.feature.typ))/\
  (∀x,pk false (Ac x) 23 1=.int .i64 x.change.feature.typ.kind)/\
  (∀x,pk false (Ac x) 24 1=.sl (x.change.feature.typ.unit.map Aw))/\
  (∀x,pk false (Ac x) 25 1=.str x.change.feature.typ.of)/\
  (∀x,pk true (Ac x) 26 12=.agg (eE x.change.feature.body))/\
  (∀x,pk false (Ac x) 26 1=.int .i64 x.change.feature.body.kind)/\
  (∀x,pk false (Ac x) 27 1=.str x.change.feature.body.op)/\
  (∀x,pk false (Ac x) 28 1=.str x.change.feature.body.name)/\
  (∀x,pk false (Ac x) 29 1=.str x.change.feature.body.table)/\
  (∀x,pk true (Ac x) 30 3=.agg (Bn x.change.feature.body.val))/\
  (∀x,pk false (Ac x) 30 1=.int .i64 x.change.feature.body.val.kind)/\
  (∀x,pk false (Ac x) 31 1=.int .i64 x.change.feature.body.val.n)/\
  (∀x,pk false (Ac x) 32 1=.str x.change.feature.body.val.s)/\
  (∀x,pk false (Ac x) 33 1=.sl (x.change.feature.body.unit.map Aw))/\
  (∀x,pk false (Ac x) 34 1=.int .i64 x.change.feature.body.param)/\
  (∀x,pk true (Ac x) 35 2=.agg (Gx x.change.feature.body.win))/\
  (∀x,pk false (Ac x) 35 1=.int .i64 x.change.feature.body.win.kind)/\
  (∀x,pk false (Ac x) 36 1=.int .i64 x.change.feature.body.win.size)/\
  (∀x,pk false (Ac x) 37 1=.sl (x.change.feature.body.args.map eE))/\
  (∀x,pk false (Ac x) 38 1=.int .i64 x.change.feature.version)/\
  (∀x,pk false (Ac x) 39 1=.str x.change.name)/\
  (∀x,pk true (Ac x) 0 40=.agg (Ac x)):=by
 and_intros<;>intro x<;>simp only[Ao,Ap,BL,AE,Ac,AR,Ag,Ar,Bn,Gx,Pn,List.cons_append,List.nil_append]<;>rfl
theorem nl:
  (∀x,pk true (SN x) 0 2=.agg (Ao x.id))/\
  (∀x,pk false (SN x) 0 1=.str x.id.source)/\
  (∀x,pk false (SN x) 1 1=.int .i64 x.id.seq)/\
  (∀x,pk false (SN x) 2 1=.str x.table)/\
  (∀x,pk false (SN x) 3 1=.str x.key)/\
  (∀x,pk false (SN x) 4 1=.int .i64 x.event)/\
  (∀x,pk false (SN x) 5 1=.sl (x.fields.map Bn))/\
  (∀x,pk false (SN x) 6 1=.int .i64 x.no)/\
  (∀x,pk false (SN x) 7 1=.int .i64 x.tick)/\
  (∀x,pk true (SN x) 0 8=.agg (SN x)):=by
 and_intros<;>intro x<;>simp only[Ao,SN,List.cons_append,List.nil_append]<;>rfl
theorem YW:(∀x,(Ao x).all I.one=true)/\(∀x,(Ap x).all I.one=true)/\(∀x,(BL x).all I.one=true)/\(∀x,(AE x).all I.one=true)/\(∀x,(Ac x).all I.one=true)/\(∀x,(SN x).all I.one=true):=by refine⟨?_,?_,?_,?_,?_,?_⟩<;>intro x<;>simp only[YU,KM,T5,Bw,AV,eRw_eq]<;>rfl
attribute [go_sem] YV YW ng nh ni nj nk nl Ao BL
end Go.As
end
section
namespace Go.Dl
open Go Go.RowKit
variable{a:Addr}
def Ds(w:World):Mem:=⟨fun b o=>w.cell? ⟨b,o,none⟩,fun b=>match w.heap[b]? with|some (.map es clk)=>some (es.toList,clk)|_=>none⟩
theorem nq(w:World):(Ds w).Sub w:=by
 refine⟨fun b o v h=>h,fun b x h=>?_⟩;simp only[Ds]at h;split at h
 ·rename_i es clk e;cases h;simpa using e
 ·cases h
mutual
def Aq{H:Type}:DataW H->List I
 |.lit (.bool b)=>[.bool b]
 |.lit (.int k n)=>[.int k n]
 |.lit (.string s)=>[.str s]
 |.nil=>[.sl []]
 |.slice elems _=>[.sl (flatS elems)]
 |.agg parts=>flatA parts
 |_=>[.undef]
def flatS{H:Type}:List (DataW H)->List (List I)
 |[]=>[]
 |d::r=>Aq d::flatS r
def flatA{H:Type}:List (DataW H)->List I
 |[]=>[]
 |d::r=>Aq d++flatA r
end
theorem YX{H:Type}:∀l:List (DataW H),flatS l=l.map Aq
 |[]=>by simp[flatS]
 |d::r=>by simp[flatS,YX r]
def Po(P:Program):List Field->Nat->Nat->Bool
 |[],s,tot=>s==tot
 |f::r,s,tot=>f.offset==s&&Po P r (s+P.cellsOf f.type) tot
def Me(P:Program)(l:List TypeId):Bool:=l.all fun t=>match P.underlying t with
 |some .bool|some (.int _)|some .string=>true
 |some (.slice e)=>l.contains e&&decide (0<P.cellsOf e)
 |some (.struct fs)=>(fs.toList.all fun f=>l.contains f.type)&&Po P fs.toList 0 (P.cellsOf t)
 |_=>false
section
variable {H:Type}{enc:TypeId×Value->H}{P:Program}{w:World}{base:Nat}{spare:Nat->Bool}{held:Bool}
theorem YY(h:a.spot=none)(n:Nat):a.add n=⟨a.block,a.off+n,none⟩:=by
 unfold Addr.add;split
 ·rename_i e;subst e;cases a;simp_all
 ·rfl
theorem YZ {α β:Type}{f:α->Option β}:∀{l:List α} {r:List β},l.mapM f=some r->r.length=l.length/\∀i (h:i<l.length) (h':i<r.length),f l[i]=some r[i]
 |[],r,h=>by grind
 |x::l,r,h=>by
  rw[List.mapM_cons]at h;cases hx:f x with
  |none=>simp[hx]at h
  |some y=>
   cases hl:l.mapM f with
   |none=>simp[hx,hl]at h
   |some ys=>simp[hx,hl]at h;subst h;obtain⟨h1,h2⟩:=YZ hl;grind
theorem Y0{n:Nat}{cs:List Value}(h:w.cells? base a n=some cs):cs.length=n/\∀j (hj:j<cs.length),w.cell? (a.add j)=some cs[j]:=by
 unfold World.cells? at h;split at h
 ·obtain⟨h1,h2⟩:=YZ h;grind
 ·cases h
theorem nr{v:Value}(h:w.cell? a=some v):a.spot=none:=by
 unfold World.cell? at h;split at h
 all_goals simp_all
theorem Ak.struct{M:Mem}(pl:TypeId->Prop){tot:Nat}:∀(fs:List Field) (ds:List (DataW H)) (s:Nat) (cs:List Value),Po P fs s tot=true->cs.length=tot->ds.length=fs.length->
  (∀i (h:i<fs.length) (h':i<ds.length),Ak M (Aq ds[i]) ((cs.drop fs[i].offset).take (P.cellsOf fs[i].type)))->Ak M (flatA ds) (cs.drop s)
 |[],[],s,cs,ho,hl,_,_=>by grind[Po,flatA,Ak.nil]
 |[],d::ds,s,cs,_,_,h,_=>by simp at h
 |f::fs,[],s,cs,_,_,h,_=>by simp at h
 |f::fs,d::ds,s,cs,ho,hl,hd,hf=>by
  simp only[Po,Bool.and_eq_true,beq_iff_eq]at ho;have h0:=hf 0 (by simp) (by simp);simp only[List.getElem_cons_zero,ho.1]at h0;have hr:=Ak.struct pl fs ds (s+P.cellsOf f.type) cs ho.2 hl (by simpa using hd) (fun i h h'=>by have:=hf (i+1) (by simpa using h) (by simpa using h');simpa using this)
  have e:cs.drop s=(cs.drop s).take (P.cellsOf f.type)++cs.drop (s+P.cellsOf f.type):=by rw[<-List.drop_drop,List.take_append_drop]
  rw[e];exact h0.append hr
theorem Y1{l:List TypeId}(vp:Me P l=true):∀(fuel:Nat) (t:TypeId) (cs:List Value) (x:DataW H×List MemPlace),l.contains t=true->DataW.trod enc P w base spare held fuel t cs=some x->Ak (Ds w) (Aq x.1) cs:=by
 intro fuel
 induction fuel with
 |zero=>intro t cs x _ h;simp[DataW.trod]at h
 |succ n ih=>
  intro t cs x ht h;have hp:=vp;simp only[Me,List.all_eq_true]at hp;have hp:=hp t (List.contains_iff_mem.1 ht);split at hp
  ·rename_i hu;obtain⟨b,rfl,rfl⟩:=DataW.trod_bool hu h;exact Ak.cons (.bool b) (Ak.nil _)
  ·rename_i k hu;obtain⟨m,rfl,rfl,_⟩:=DataW.trod_int hu h;exact Ak.cons (.int k m) (Ak.nil _)
  ·rename_i hu;obtain⟨s,rfl,rfl,_⟩:=DataW.trod_string hu h;refine Ak.cons ?_ (Ak.nil _);have:=Rep.str (M:=Ds w) s.data.toList;exact this
  ·rename_i e hu;rw[Bool.and_eq_true,decide_eq_true_eq]at hp;rcases DataW.trod_slice hu h with⟨rfl,rfl⟩|⟨a,len,cap,elems,rest,m,hm,rfl,rfl,_,hlc,_,wq,ka,_⟩
   ·exact Ak.cons .slnil (Ak.nil _)
   ·have hm':n=m:=by omega
    subst hm';refine Ak.cons ?_ (Ak.nil _);have ju:∀i (hi:i<elems.length),∃cs',w.cells? base (a.add (i*P.cellsOf e)) (P.cellsOf e)=some cs'/\Ak (Ds w) (Aq elems[i].1) cs':=fun i hi=>by have:=ka i (by omega);rw[List.getElem?_eq_getElem hi]at this;obtain⟨cs',h1,h2⟩:=Option.bind_eq_some_iff.1 this;exact⟨cs',h1,ih e cs' _ hp.1 h2⟩
    by_cases h0:len=0
    ·subst h0;have:elems=[]:=List.length_eq_zero_iff.1 wq;subst this;exact Rep.slempty a cap
    ·have hsp:a.spot=none:=by obtain⟨cs',h1,_⟩:=ju 0 (by omega);obtain⟨q1,q2⟩:=Y0 h1;have:=nr (q2 0 (by omega));simpa[Addr.add]using this
     have ha:a=⟨a.block,a.off,none⟩:=by cases a;simp_all
     have key:∀i (hi:i<elems.length),(Aq elems[i].1).length=P.cellsOf e/\∀j (hj:j<(Aq elems[i].1).length),∃v,w.cell? ⟨a.block,a.off+i*P.cellsOf e+j,none⟩=some v/\Rep (Ds w) ((Aq elems[i].1)[j]) v:=fun i hi=>by obtain⟨cs',h1,h2⟩:=ju i hi;obtain⟨q1,q2⟩:=Y0 h1;have e1:=h2.1;refine⟨by omega,fun j hj=>⟨cs'[j],?_,h2.2 j hj (by omega)⟩⟩;have:=q2 j (by omega);rw[YY hsp,YY rfl]at this;exact this
     have hfl:flatS (elems.map (·.1))=elems.map fun y=>Aq y.1:=by rw[YX,List.map_map];rfl
     show Rep (Ds w) (.sl (flatS (elems.map (·.1)))) (.slice (some a) len cap);rw[hfl,ha];have hlr:(elems.map fun y=>Aq y.1).length=len:=by simpa using wq
     have:=Rep.sl (M:=Ds w) (elems.map fun y=>Aq y.1) (P.cellsOf e) a.block a.off cap (fun i j=>(w.cell? ⟨a.block,a.off+i*P.cellsOf e+j,none⟩).getD Go.undef)
      (fun r hr=>by obtain⟨y,hy,rfl⟩:=List.mem_map.1 hr;obtain⟨i,hi,rfl⟩:=List.getElem_of_mem hy;exact(key i hi).1) (by rw[hlr];exact hlc)
      (fun i hi j hj=>by
       have ja:i<elems.length:=by simpa using hi
       rw[List.getElem_map]at hj;obtain⟨v,hv,_⟩:=(key i ja).2 j hj;show w.cell? _=_;rw[hv];rfl)
      (fun i hi j hj=>by
       have ja:i<elems.length:=by simpa using hi
       have jq:j<(Aq elems[i].1).length:=by simpa using hj
       obtain⟨v,hv,hr⟩:=(key i ja).2 j jq;simp only[hv,Option.getD_some,List.getElem_map];exact hr)
     rw[hlr]at this;exact this
  ·rename_i fs hu;rw[Bool.and_eq_true]at hp;obtain⟨xs,m,hm,rfl,hl,jd,ka⟩:=DataW.trod_struct hu h;have hm':n=m:=by omega
   subst hm';simp only[Aq];have:=Ak.struct (M:=Ds w) (P:=P) (fun _=>True) fs.toList (xs.map (·.1)) 0 cs hp.2 hl (by simpa using jd) (fun i h1 h2=>by have hf:=ka i fs[i] (by simp at h1;simp[h1]);rw[List.getElem?_eq_getElem (by simpa using h2)]at hf;have hc:=hp.1;rw[List.all_eq_true]at hc;have:=ih _ _ _ (hc fs.toList[i] (List.getElem_mem h1)) (by simpa using hf);simpa using this)
   simpa using this
  ·cases hp
end
end Go.Dl
end
section
namespace Go.Dl
open Go Go.RowKit Go.ChangeShapes Go.WideShapes
section
variable {H:Type}{enc:TypeId×Value->H}{P:Program}{W:World}
theorem Mf{GL:List (Nat×List I)}{f:FuncId}{args:List I}{y:I}{vs:Array Value}(k8:De P f=true)(h:MC P GL f (args.map D.i) [] [] (gu y))(hg:Ij GL (Ds W))(hr:Ak (Ds W) args vs.toList):
  Calls P f vs W fun e W'=>∃v M',e=.returned v/\Rep M' y v/\Below W.heap.size W W':=by
 let μ:Place:=fun _=>Go.undef
 have hn:∀nm,¬names [] nm:=fun nm hn=>by grind[names,Aa]
 have h0:StoOk (AN μ [] W) (Ds W) μ [] W:=⟨nq W,fun nm b hb=>by simp[Aa]at hb,fun nm nm' k k' _ h=>absurd h (hn nm),fun b hb=>hb.1⟩;have hD:Dq (Ds W) μ (names []) (args.map D.i) vs.toList:=⟨by simpa using hr.1,fun j a b=>by rw[List.getElem_map];exact hr.2 j (by simpa using a) b⟩
 rcases h (Ds W) μ W vs h0 hg hD with⟨_,h2⟩|⟨_,row,h1,_⟩|⟨_,v,w',h1,_⟩|⟨h1,_⟩
 ·refine h2.mono ?_;rintro e W' ⟨v,rfl,r,sto',M',μ',⟨rfl,rfl⟩,_,hv,_,hk,_⟩;exact⟨v,M',rfl,hv,hk.os,hk.tape,hk.output,hk.size,fun k qo=>hk.block k ⟨qo,fun nm h=>absurd h (hn nm)⟩⟩
 ·rw[Kw k8]at h1;cases h1
 ·rw[Kw k8]at h1;cases h1
 ·unfold De at k8;rw[h1]at k8;cases k8
def Bx(P:Program)(t:TypeId)(cs:List I):I:=match P.underlying t with
 |some (.struct _)=>.agg cs
 |_=>cs.headD .undef
def EY(P:Program):List TypeId->List (DataW H)->List I
 |t::ts,d::ds=>Bx P t (Aq d)::EY P ts ds
 |_,_=>[]
theorem nt{l:List TypeId}(vp:Me P l=true){r:Reach}{b0:Nat}{base:Nat}{spare:Nat->Bool}{held:Bool}{t:TypeId}{v:Value}{d:DataW H}{ps:List MemPlace}(ht:l.contains t=true)(hv:Value.okWide P W r b0 t v)(h:DataW.Trod enc P W base spare held t v d ps):
  Rep (Ds W) (Bx P t (Aq d)) v:=by
 obtain⟨n,hn⟩:=h;have hR:=Y1 vp n t _ _ ht hn;have hp:=vp;simp only[Me,List.all_eq_true]at hp;have hp:=hp t (List.contains_iff_mem.1 ht);have one:∀x:I,(∀fs,P.underlying t≠some (.struct fs))->v.cells.toList=[v]->Ak (Ds W) (Aq d) v.cells.toList->Rep (Ds W) (Bx P t (Aq d)) v:=fun x ji hc hR=>by
  rw[hc]at hR;have e:Bx P t (Aq d)=(Aq d).headD .undef:=by simp[Bx]
  rw[e];have hl:=hR.1;cases hf:Aq d with
  |nil=>rw[hf]at hl;simp at hl
  |cons a r=>have:=hR.2 0 (by rw[hf];simp) (by simp);simp only[hf,List.getElem_cons_zero]at this;exact this
 split at hp
 ·rename_i hu;obtain⟨b,rfl⟩:=okWide_bool hu hv;exact one .undef (fun fs e=>by rw[hu]at e;cases e) rfl hR
 ·rename_i k hu;obtain⟨m,rfl⟩:=okWide_int hu hv;exact one .undef (fun fs e=>by rw[hu]at e;cases e) rfl hR
 ·rename_i hu;obtain⟨s,rfl⟩:=okWide_string hu hv;exact one .undef (fun fs e=>by rw[hu]at e;cases e) rfl hR
 ·rename_i e hu;obtain⟨a,ln,cp,rfl⟩:=okWide_slice hu hv;exact one .undef (fun fs e=>by rw[hu]at e;cases e) rfl hR
 ·rename_i fs hu;obtain⟨cs,rfl,_⟩:=okWide_struct hu hv;unfold Bx;rw[hu];exact Rep.agg' hR
 ·cases hp
theorem KN{l:List TypeId}(vp:Me P l=true){r:Reach}{b0:Nat}{base:Nat}{spare:Nat->Bool}{held:Bool}:∀{ts:List TypeId} {vs:List Value} {ds:List (DataW H)} {ps:List MemPlace},(∀t∈ts,l.contains t=true)->
  (∀(j:Nat) t v,ts[j]? =some t->vs[j]? =some v->Value.okWide P W r b0 t v)->DataW.TrodAll enc P W base spare held ts vs ds ps->Ak (Ds W) (EY P ts ds) vs
 |[],[],[],_,_,_,_=>Ak.nil _
 |t::ts,v::vs,d::ds,ps,ht,hv,⟨p,q,h1,h2,_⟩=>Ak.cons (nt vp (ht t (by simp)) (hv 0 t v rfl rfl) h1) (KN vp (fun t' h'=>ht t' (by simp[h'])) (fun j t' v' a b=>hv (j+1) t' v' a b) h2)
theorem Y2(hl:laidOutB P=true){W':World}{sp:Nat->Bool}(hb:Below W.heap.size W W'):∀{ts:List TypeId} {vs:List Value} {ds:List (DataW H)} {ps:List MemPlace},(ts.all fun t=>P.readableRec t&&decide (t<P.types.size))=true->
  DataW.TrodAll enc P W 0 (fun _=>true) true ts vs ds ps->(∀p∈ps,p.block<W.heap.size)->(∀p∈ps,sp p.block=true)->DataW.TrodAll enc P W' 0 sp true ts vs ds ps
 |[],[],[],_,_,h,_,_=>h
 |t::ts,v::vs,d::ds,ps,ht,⟨p,q,h1,h2,e⟩,jn,hs=>by simp only[List.all_cons,Bool.and_eq_true,decide_eq_true_eq]at ht;refine⟨p,q,WideElems.Trod_stays hl ht.1.1 ht.1.2 h1 (fun x hx=>hb.same (jn x (by rw[e];simp[hx]))) (fun x hx=>hs x (by rw[e];simp[hx])),Y2 hl hb ht.2 h2 (fun x hx=>jn x (by rw[e];simp[hx])) (fun x hx=>hs x (by rw[e];simp[hx])),e⟩
theorem Mg{f:Func}{s:ChangeSpec}{apart fresh handsOn again:Bool}{W':World}{args:Array Value}{tb:TypeId}{ds gs:List (DataW H)}{before:List MemPlace}(hl:laidOutB P=true)(ht:(f.params.toList.all fun t=>P.readableRec t&&decide (t<P.types.size))=true)
  (hvars:s.vars=[])(hrt:f.resultTypes=#[tb])(hub:P.underlying tb=some .bool)(hfn:∀xs:List (DataW H),xs.length=f.params.size->s.fn H xs={results:=[.lit (.bool true)],args:=xs})
  (hW:DataW.Whole enc P f.params.toList s.vars apart W args.toList ds gs before)(hb:Below W.heap.size W W'):s.post enc P f apart fresh handsOn again W args (.bool true) W':=by
 have hWlt:∀p∈before,p.block<W.heap.size:=fun p hp=>by simpa using hW.lt p hp
 have hW0:=hW;obtain⟨p,q,hA,hV,rfl,hfz,hnd⟩:=hW;rw[hvars]at hV;obtain⟨rfl,rfl⟩:=trodVars_none hV;have jd:∀{ts:List TypeId} {vs:List Value} {ds:List (DataW H)} {ps:List MemPlace},DataW.TrodAll enc P W 0 (fun _=>true) true ts vs ds ps->ds.length=ts.length:=by
  intro ts
  induction ts with
  |nil=>intro vs ds ps h;obtain⟨_,rfl,_⟩:=trodAll_nil h;rfl
  |cons t ts ih=>intro vs ds ps h;obtain⟨v,vs',d,ds',a,b,rfl,rfl,rfl,_,h2⟩:=trodAll_cons h;simp[ih h2]
 have hf:=hfn ds (by rw[jd hA];simp);have hA':∀sp:Nat->Bool,(∀x∈p,sp x.block=true)->DataW.TrodAll enc P W' 0 sp true f.params.toList args.toList ds p:=fun sp hs=>Y2 hl hb ht hA (fun x hx=>hWlt x (by simp[hx])) hs
 have wg:∀x∈p,(fun b=>decide (b<W.heap.size)) x.block=true:=fun x hx=>by grind
 have j8:∀(b:Nat) (sp:Nat->Bool) (hd:Bool),DataW.TrodAll enc P W' b sp hd f.resultTypes.toList ((Value.bool true).resultList f.resultTypes.size) [.lit (.bool true)] []:=fun b sp hd=>by rw[hrt];exact trodAll_cons_mk (shut_bool hub _) trodAll_mk0
 refine⟨ds,[],p++[],[],p,[],by rw[hvars]at hW0⊢;exact hW0,?_,?_,?_,World.keptBut_mono (fun x hx=>hx) (hb.frame _),fun _=>?_⟩
 ·rw[List.append_nil,hf];exact j8 _ _ _
 ·rw[List.append_nil,hf];exact hA' _ wg
 ·rw[List.append_nil,hf,hvars];rfl
 ·refine⟨ok_one hrt rfl (okWide_bool_mk hub _),[.lit (.bool true)]++ds,[],([]++p)++[],⟨[]++p,[],trodAll_append (hA' (fun _=>true) fun _ _=>rfl) (j8 _ _ _),by rw[hvars];rfl,rfl,?_,?_⟩,?_⟩
  ·intro b off hp;have hp':MemPlace.cell b off∈p:=by grind
   have:=hWlt _ (show MemPlace.cell b off∈p++[] by simpa using hp');rw[hb.frozen (p:=⟨b,off,none⟩) this];exact hfz b off (by simpa using hp')
  ·intro ha;have:=hnd ha;simpa using this
  ·intro x hx _;simpa using hx
end
end Go.Dl
end
section
namespace Go.Dl
open Go Go.RowKit Go.ChangeShapes Go.WideShapes
variable{α:Type}
mutual
def A9{H:Type}:DataW H->Nat
 |.lit (.string bytes)=>bytes.length+1
 |.lit _=>1
 |.nil=>1
 |.ptr d=>A9 d+1
 |.slice elems spare=>bulkL elems+bulkL spare+1
 |.agg parts=>bulkL parts+1
 |.iface _ d=>A9 d+1
 |.map entries=>bulkE entries+1
 |.held _=>1
def bulkL{H:Type}:List (DataW H)->Nat
 |[]=>0
 |d::r=>A9 d+bulkL r
def bulkE{H:Type}:List (Lit×DataW H)->Nat
 |[]=>0
 |x::r=>bulk1 x+bulkE r
def bulk1{H:Type}:Lit×DataW H->Nat
 |(.string bytes,d)=>bytes.length+A9 d+1
 |(_,d)=>A9 d+1
end
section
variable {H:Type}(P:Program)
def Rd(n:Nat)(t:TypeId)(d:DataW H):Prop:=∃(enc:TypeId×Value->H) (W:World) (base:Nat) (sp:Nat->Bool) (held:Bool) (cs:List Value) (ps:List MemPlace),DataW.trod enc P W base sp held n t cs=some (d,ps)
def J7(n:Nat):List TypeId->List (DataW H)->Prop
 |[],[]=>True
 |t::ts,d::ds=>Rd P n t d/\J7 n ts ds
 |_,_=>False
variable {P}{n:Nat}{t e:TypeId}{d:DataW H}
theorem Rd.bool(ht:P.underlying t=some .bool)(h:Rd P n t d):∃b,d=.lit (.bool b):=by obtain⟨enc,W,base,sp,held,cs,ps,h⟩:=h;obtain⟨b,_,h2⟩:=DataW.trod_bool ht h;grind
theorem Rd.int{k:IntKind}(ht:P.underlying t=some (.int k))(h:Rd P n t d):∃m,d=.lit (.int k m)/\(Lit.int k m).wf=true:=by obtain⟨enc,W,base,sp,held,cs,ps,h⟩:=h;obtain⟨m,_,h2,h3⟩:=DataW.trod_int ht h;grind
theorem Rd.str(ht:P.underlying t=some .string)(h:Rd P n t d):∃s:List UInt8,d=.lit (.string s):=by obtain⟨enc,W,base,sp,held,cs,ps,h⟩:=h;obtain⟨s,_,h2,_⟩:=DataW.trod_string ht h;grind
theorem nu{l:List α}{f:Nat->Option α}(h:∀i,i<l.length->f i=l[i]?){y:α}(hy:y∈l):∃i,f i=some y:=by obtain⟨i,hi,rfl⟩:=List.getElem_of_mem hy;grind
theorem Rd.slice(ht:P.underlying t=some (.slice e))(h:Rd P n t d):d=.nil\/∃elems rest m,n=m+1/\d=.slice elems rest/\∀y∈elems,Rd P m e y:=by
 obtain⟨enc,W,base,sp,held,cs,ps,h⟩:=h;rcases DataW.trod_slice ht h with⟨_,h2⟩|⟨a,len,cap,elems,rest,m,hm,_,h2,_,_,_,wq,ka,_⟩
 ·exact .inl (congrArg Prod.fst h2)
 ·refine .inr ⟨_,_,m,hm,congrArg Prod.fst h2,fun y hy=>?_⟩;obtain⟨z,hz,rfl⟩:=List.mem_map.1 hy;obtain⟨i,hi⟩:=nu (fun i hi=>ka i (by omega)) hz;obtain⟨cs',_,h3⟩:=Option.bind_eq_some_iff.1 hi;exact⟨enc,W,base,sp,held,cs',z.2,h3⟩
theorem Rd.struct{fs:Array Field}(ht:P.underlying t=some (.struct fs))(h:Rd P n t d):∃parts m,n=m+1/\d=.agg parts/\J7 P m (fs.toList.map (·.type)) parts:=by
 obtain⟨enc,W,base,sp,held,cs,ps,h⟩:=h;obtain⟨xs,m,hm,h2,_,hl,ka⟩:=DataW.trod_struct ht h;refine⟨_,m,hm,congrArg Prod.fst h2,?_⟩;have key:∀(fl:List Field) (ys:List (DataW H×List MemPlace)),ys.length=fl.length->(∀(i:Nat) (f:Field),fl[i]? =some f->∃cs',DataW.trod enc P W base sp held m f.type cs'=ys[i]?)->J7 P m (fl.map (·.type)) (ys.map (·.1)):=by
  intro fl
  induction fl with
  |nil=>intro ys hl _;have:ys=[]:=List.length_eq_zero_iff.1 hl;subst this;trivial
  |cons f fl ih=>
   intro ys hl hg;cases ys with
   |nil=>simp at hl
   |cons y ys=>obtain⟨cs',h0⟩:=hg 0 f rfl;refine⟨⟨enc,W,base,sp,held,cs',y.2,h0⟩,ih ys (by simpa using hl) fun i g hi=>?_⟩;exact hg (i+1) g hi
 grind
theorem Y3{α:Type}{R:DataW H->α->Prop}:∀{l:List (DataW H)},(∀y∈l,∃x,R y x)->∃xs:List α,xs.length=l.length/\∀i (h:i<l.length) (h':i<xs.length),R l[i] xs[i]
 |[],_=>⟨[],rfl,fun i h=>by simp at h⟩
 |y::r,h=>by
  obtain⟨x,hx⟩:=h y (by simp);obtain⟨xs,h1,h2⟩:=Y3 (l:=r) fun z hz=>h z (by simp[hz])
  refine⟨x::xs,by simp[h1],fun i a b=>?_⟩;grind
theorem Rd.list{f:α->List I}{b:α->Nat}{bs:List α->Nat}(hb0:bs []=0)(qe:∀x l,bs (x::l)=b x+bs l){Q:α->Prop}(ht:P.underlying t=some (.slice e))(h:Rd P n t d)(wq:∀(m:Nat) (y:DataW H),m<n->Rd P m e y->∃x,Aq y=f x/\b x<=A9 y/\Q x):
  ∃xs:List α,Aq d=[.sl (xs.map f)]/\bs xs+1<=A9 d/\∀x∈xs,Q x:=by
 rcases h.slice ht with rfl|⟨elems,rest,m,rfl,rfl,h2⟩
 ·exact⟨[],rfl,by rw[hb0];simp[A9],fun x hx=>by simp at hx⟩
 ·obtain⟨xs,h3,h4⟩:=Y3 (R:=fun y x=>Aq y=f x/\b x<=A9 y/\Q x) fun y hy=>wq m y (by omega) (h2 y hy)
  have key:∀(l:List (DataW H)) (xs:List α),xs.length=l.length->(∀i (h:i<l.length) (h':i<xs.length),Aq l[i]=f xs[i]/\b xs[i]<=A9 l[i]/\Q xs[i])->flatS l=xs.map f/\bs xs<=bulkL l/\∀x∈xs,Q x:=by
   intro l
   induction l with
   |nil=>intro xs hl _;have:xs=[]:=List.length_eq_zero_iff.1 hl;subst this;exact⟨rfl,by rw[hb0];exact Nat.zero_le _,fun x hx=>by simp at hx⟩
   |cons y l ih=>
    intro xs hl hh;cases xs with
    |nil=>simp at hl
    |cons x xs=>
     obtain⟨k1,k2,k3⟩:=hh 0 (by simp) (by simp);obtain⟨j1,j2,j3⟩:=ih xs (by simpa using hl) fun i a b=>hh (i+1) (by simpa using a) (by simpa using b)
     grind[flatS,bulkL]
  obtain⟨k1,k2,k3⟩:=key elems xs h3 h4;refine⟨xs,by simp only[Aq,k1],?_,k3⟩;simp only[A9];omega
end
section
variable {H:Type}{P:Program}
theorem KO{enc:TypeId×Value->H}{W:World}{base:Nat}{sp:Nat->Bool}{held:Bool}:∀{ts:List TypeId} {vs:List Value} {ds:List (DataW H)} {ps:List MemPlace},DataW.TrodAll enc P W base sp held ts vs ds ps->ds.length=ts.length/\∀i (h:i<ts.length) (h':i<ds.length),∃n,Rd P n ts[i] ds[i]
 |[],[],[],_,_=>⟨rfl,fun i h=>by simp at h⟩
 |t::ts,v::vs,d::ds,ps,⟨p,q,⟨n,h1⟩,h2,_⟩=>by
  obtain⟨k1,k2⟩:=KO h2;refine⟨by simp[k1],fun i a b=>?_⟩;cases i with
  |zero=>exact⟨n,enc,W,base,sp,held,_,p,h1⟩
  |succ i=>exact k2 i (by simpa using a) (by simpa using b)
end
end Go.Dl
end
