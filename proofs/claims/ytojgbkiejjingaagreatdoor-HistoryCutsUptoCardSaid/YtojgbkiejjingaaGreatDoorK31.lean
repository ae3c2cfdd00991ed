/-
  Lemmas, no statement.
-/
import Derived.Test.YtojgbkiejjingaaGreatDoorK30
set_option linter.all false
namespace Go.Dl
open Go Go.RowKit
variable{K:Exit->St->Prop}{st:St}{s:List (Nat×Blk)}
inductive J where
 |skip
 |rg (gs:List GI)
 |dr (sn:List Nat) (fz:List O) (gs:List GI) (post:List Nat)
 |sq (ks:List Nat) (a b:J)
 |ct (ks:List Nat) (a b:J)
 |cond (c:O) (a b:J)
 |block (id:Nat) (c:J)
 |lp (c:J)
 |exit (id:Nat)
 |ret
 |rf (n:Nat) (og:O) (ps:List Nat) (a b:J)
def J.ir:J->IR
 |.skip=>.skip
 |.rg gs=>.reg gs
 |.dr sn _ gs post=>.dreg sn gs post
 |.sq _ a b=>.cut a.ir b.ir
 |.ct _ a b=>.cut a.ir b.ir
 |.cond c a b=>.cond c a.ir b.ir
 |.block id c=>.block id c.ir
 |.lp c=>.loop c.ir
 |.exit id=>.exit id
 |.ret=>.ret
 |.rf n og ps a b=>.rf n og ps a.ir b.ir
def HE(ks:List Nat)(W:(Exit->St->Prop)->St->Prop)(K:Exit->St->Prop):Exit->St->Prop
 |.normal,s=>W K (prn ks s)
 |e,s=>K e s
section
variable (P:Program)(GL:List (Nat×List I))
def W2:J->(Exit->St->Prop)->St->Prop
 |.skip,K,st=>K .normal st
 |.rg gs,K,st=>ev P GL gs st (K .normal)
 |.dr sn _ gs post,K,st=>∃l,evD P GL sn gs (frzNs l st) fun s=>K .normal (frzNs (Df post s) s)
 |.sq ks a b,K,st=>W2 a (HE ks (W2 b) K) st
 |.ct _ a b,K,st=>W2 a (FV (W2 b) K) st
 |.cond c a b,K,st=>match AL GL st c with
  |.i (.bool t)=>br t (W2 a K st) (W2 b K st)
  |_=>False
 |.block id c,K,st=>W2 c (C5 id K) st
 |.lp c,K,st=>∃(ι:Type) (F:ι->St) (m:ι->Nat) (i₀:ι),Sub (F i₀) st/\∀i,W2 c (Ub F m (m i) K) (F i)
 |.exit id,K,st=>K (.exit id) st
 |.ret,K,st=>K .ret st
 |.rf n og ps a b,K,st=>wK P GL n og ps (W2 a) (W2 b) K st
def FA(gs:List GI)(st:St)(K:St->Prop):Prop:=ev P GL gs st K
def UX(sn:List Nat)(gs:List GI)(post:List Nat)(K:Exit->St->Prop)(st:St):Prop:=Mq P GL sn gs post K st
def Ff(v:D)(a c:J)(K:Exit->St->Prop)(st:St):Prop:=match v with
 |.i (.bool t)=>br t (W2 P GL a K st) (W2 P GL c K st)
 |_=>False
end
section
variable {P:Program}{GL:List (Nat×List I)}
theorem DK:∀(c:J) {st:St} {K K':Exit->St->Prop},W2 P GL c K st->(∀e s,K e s->K' e s)->W2 P GL c K' st
 |.skip,st,K,K',h,hk=>hk _ _ h
 |.rg gs,st,K,K',h,hk=>Qe h (hk _)
 |.dr sn _ gs post,st,K,K',h,hk=>by obtain⟨l,h⟩:=h;exact⟨l,Mj h (fun s hs=>hk _ _ hs)⟩
 |.sq ks a b,st,K,K',h,hk=>DK a h (fun e s hs=>by
   cases e with
   |normal=>exact DK b hs hk
   |_=>exact hk _ _ hs)
 |.ct _ a b,st,K,K',h,hk=>DK a h (fun e s hs=>by
   cases e with
   |normal=>exact hs.elim (fun q=>.inl (DK b q hk)) (fun q=>q.elim (fun⟨S,q1,q2⟩=>.inr (.inl ⟨S,q1,DK b q2 hk⟩)) (fun⟨ks,q⟩=>.inr (.inr ⟨ks,DK b q hk⟩)))
   |_=>exact hk _ _ hs)
 |.cond c a b,st,K,K',h,hk=>by
  simp only[W2]at h⊢;split at h
  ·exact N1 h (fun hh=>DK a hh hk) (fun hh=>DK b hh hk)
  ·exact h
 |.block id c,st,K,K',h,hk=>DK c h (fun e s hs=>by
   cases e with
   |exit id'=>simp only[C5]at hs⊢;split at hs;rename_i e;rw[if_pos e];exact hk _ _ hs;rename_i e;rw[if_neg e];exact hk _ _ hs
   |_=>exact hk _ _ hs)
 |.lp c,st,K,K',h,hk=>by
  obtain⟨ι,F,m,i0,h0,hr⟩:=h;refine⟨ι,F,m,i0,h0,fun i=>DK c (hr i) (fun e s hs=>?_)⟩;cases e with
  |normal=>exact hs
  |_=>exact hk _ _ hs
 |.exit id,st,K,K',h,hk=>hk _ _ h
 |.ret,st,K,K',h,hk=>hk _ _ h
 |.rf n og ps a b,st,K,K',h,hk=>Qb P GL h (fun q1 q2=>DK a q1 q2) (fun q=>q) hk
theorem EJ:∀(c:J) {st:St} {K:Exit->St->Prop},W2 P GL c K st->W P GL c.ir K st
 |.skip,st,K,h=>h
 |.rg gs,st,K,h=>h
 |.dr sn _ gs post,st,K,h=>h
 |.sq ks a b,st,K,h=>Eo a.ir (EJ a h) (fun e s hs=>by
   cases e with
   |normal=>exact .inr (.inr ⟨ks,EJ b hs⟩)
   |_=>exact hs)
 |.ct _ a b,st,K,h=>Eo a.ir (EJ a h) (fun e s hs=>by
   cases e with
   |normal=>exact hs.elim (fun q=>.inl (EJ b q)) (fun q=>q.elim (fun⟨S,q1,q2⟩=>.inr (.inl ⟨S,q1,EJ b q2⟩)) (fun⟨ks,q⟩=>.inr (.inr ⟨ks,EJ b q⟩)))
   |_=>exact hs)
 |.cond c a b,st,K,h=>by
  simp only[W2]at h;simp only[J.ir,W];split at h
  ·rename_i e;rw[e];exact N1 h (fun hh=>EJ a hh) (fun hh=>EJ b hh)
  ·exact h.elim
 |.block id c,st,K,h=>EJ c h
 |.lp c,st,K,h=>by obtain⟨ι,F,m,i0,h0,hr⟩:=h;exact⟨ι,F,m,i0,h0,fun i=>EJ c (hr i)⟩
 |.exit id,st,K,h=>h
 |.ret,st,K,h=>h
 |.rf n og ps a b,st,K,h=>Qb P GL h (fun q1 q2=>Eo a.ir (EJ a q1) q2) (fun q=>EJ b q) (fun _ _ q=>q)
theorem KX{b:Bool}{a c:J}(h:b=true->Ff P GL (.i (.bool true)) a c K st)(k:b=false->Ff P GL (.i (.bool false)) a c K st):Ff P GL (.i (.bool b)) a c K st:=by
 cases b
 ·exact k rfl
 ·exact h rfl
theorem xK(K:Exit->St->Prop)(st:St):(W2 P GL .skip K st=K .normal st)/\(∀gs,W2 P GL (.rg gs) K st=FA P GL gs st (K .normal))/\(∀ks a b,W2 P GL (.sq ks a b) K st=W2 P GL a (HE ks (W2 P GL b) K) st)/\(∀c a b,W2 P GL (.cond c a b) K st=Ff P GL (AL GL st c) a b K st)/\
  (∀id c,W2 P GL (.block id c) K st=W2 P GL c (C5 id K) st)/\(∀id,W2 P GL (.exit id) K st=K (.exit id) st)/\(W2 P GL .ret K st=K .ret st)/\(∀a c,Ff P GL (.i (.bool true)) a c K st=W2 P GL a K st)/\(∀a c,Ff P GL (.i (.bool false)) a c K st=W2 P GL c K st):=by
 and_intros<;>intros<;>first|rfl|(simp[Ff,br];done)
theorem G4:(∀e,C6 e []=[])/\(∀e s r,C6 e (s::r)=(s,Af e s)::C6 e r)/\(∀ks W K e s,HE ks W K .normal ⟨e,s⟩=W K ⟨.l (C6 e ks),s⟩)/\(∀ks W K id s,HE ks W K (.exit id) s=K (.exit id) s)/\(∀ks W K s,HE ks W K .ret s=K .ret s)/\
  (∀ks e s,prn ks ⟨e,s⟩=⟨.l (C6 e ks),s⟩):=by
 and_intros<;>intros<;>rfl
theorem xL(st:St):(∀g r Q,FA P GL (g::r) st Q=ev P GL (g::r) st Q)/\(∀Q,FA P GL [] st Q=Q st):=⟨fun _ _ _=>rfl,fun _=>rfl⟩
theorem Am{sn:List Nat}{fz:List O}{gs:List GI}{post:List Nat}(h:Mq P GL sn gs post K (frzNs (oN GL st fz++dN GL gs st) st)):W2 P GL (.dr sn fz gs post) K st:=⟨_,h⟩
theorem Aa{ks:List Nat}{a b:J}(h:W2 P GL a (HE ks (W2 P GL b) K) st):W2 P GL (.ct ks a b) K st:=
 DK a h fun e s hs=>by
  cases e with
  |normal=>exact .inr (.inr ⟨ks,hs⟩)
  |_=>exact hs
def JW{ι:Type}(F:ι->St)(I:ι->Prop)(m:ι->Nat)(i:ι)(K:Exit->St->Prop):Exit->St->Prop
 |.normal,s=>∃i',I i'/\m i'<m i/\Sub (F i') s
 |e,s=>K e s
theorem xM(K:Exit->St->Prop)(st:St):(∀(ι:Type) (F:ι->St) I m i,JW F I m i K .normal st=∃i',I i'/\m i'<m i/\Sub (F i') st)/\(∀(ι:Type) (F:ι->St) I m i id,JW F I m i K (.exit id) st=K (.exit id) st)/\(∀(ι:Type) (F:ι->St) I m i,JW F I m i K .ret st=K .ret st):=by and_intros<;>intros<;>rfl
theorem AA{body:J}{e:Env}{ι:Type}(ks:List Nat){bs:List (Nat×D)}(hb:C6 e ks=bs)(C:ι->List (Nat×D))(B:ι->List (Nat×Blk))(I:ι->Prop)(m:ι->Nat)(k:ι)
  (hi:I k)(h0:Sub ⟨.l (C k++bs),B k⟩ ⟨e,s⟩)(round:∀i,I i->W2 P GL body (JW (fun i=>⟨.l (C i++bs),B i⟩) I m i K) ⟨.l (C i++bs),B i⟩):W2 P GL (.lp body) K ⟨e,s⟩:=by
 refine⟨{i:ι//I i},fun i=>⟨.l (C i.1++bs),B i.1⟩,fun i=>m i.1,⟨k,hi⟩,h0,fun i=>DK _ (round i.1 i.2) ?_⟩;intro e s h;cases e with
 |normal=>obtain⟨j,h1,h2,h3⟩:=h;exact⟨⟨j,h1⟩,h2,h3⟩
 |_=>exact h
theorem CP{body:J}{e:Env}(ks:List Nat){bs:List (Nat×D)}(hb:C6 e ks=bs)(C:Nat->List (Nat×D))(B:Nat->List (Nat×Blk))(I:Nat->Prop)(n k:Nat)
  (hk:k<=n)(hi:I k)(h0:Sub ⟨.l (C k++bs),B k⟩ ⟨e,s⟩)(round:∀i,i<=n->I i->W2 P GL body (JV (fun i=>⟨.l (C i++bs),B i⟩) I n i K) ⟨.l (C i++bs),B i⟩):W2 P GL (.lp body) K ⟨e,s⟩:=
 AA ks hb C B (fun i=>i<=n/\I i) (fun i=>n-i) k ⟨hk,hi⟩ h0 fun i hh=>DK _ (round i hh.1 hh.2) fun e s h=>by
  cases e with
  |normal=>exact⟨i+1,⟨h.1,h.2.1⟩,by show n-(i+1)<n-i;have:=h.1;omega,h.2.2⟩
  |_=>exact h
theorem cutS{ks0:List Nat}{a b:J}{e:Env}(ks:List Nat){bs:List (Nat×D)}(hb:C6 e ks=bs)(C:List (Nat×D))(B:List (Nat×Blk))(φ:Prop)(ha:W2 P GL a (KV φ ⟨.l (C++bs),B⟩ K) ⟨e,s⟩)(h:φ->W2 P GL b K ⟨.l (C++bs),B⟩):
  W2 P GL (.ct ks0 a b) K ⟨e,s⟩:=
 DK a ha fun e s hs=>by
  cases e with
  |normal=>exact .inr (.inl ⟨_,hs.2,h hs.1⟩)
  |_=>exact hs
theorem bY{n:Nat}{sto:List (Nat×Blk)}{f:FuncId}{fn:Func}{mu:List Nat}{rt:List (Nat×Nat)}{c c':J}{args:List D}{mv:List Nat}{R:D->List (Nat×Blk)->Prop}{rs:List RV}(hf:P.funcs[f]? =some fn)(ws:(fn.name != "runtime.NumGoroutine")=true)
  (hn:fn.ntmps=n)(ke:Nat.ble args.length n=true)(h999:Nat.ble n 999=true)(hbc:fn.body.bind (comp P GL n mu rt)=some c.ir)(hrs:fn.results.toList.mapM (FY P)=some rs)
  (hpin:((sto.map (·.1)).all fun m=>(Nat.ble 5000 m&&Nat.blt m 5500)||mv.contains m)=true)(hc:c=c')
  (hw:W2 P GL c' (IZ rs (sto.map (·.1)) mv R) ⟨.l (C3 0 args),sto⟩)(xh:Nat.blt f 1000000000=true:=by first|rfl|assumption):MC P GL f args sto mv R:=
 bH hf ws hn ke h999 hbc hrs hpin (EJ c (hc▸hw)) xh
end
section
variable {P:Program}{GL:List (Nat×List I)}
theorem JX{f:FuncId}{os:List O}{d:Option Nat}{K:St->Prop}{ds:List D}{sto:List (Nat×Blk)}{mv:List Nat}{R:D->List (Nat×Blk)->Prop}(h:MC P GL f ds sto mv R)(zz:os.map (AL GL st)=ds)(h1:Bl sto st.sto)
  (h2:(Ps sto sto&&(ds.all fun x=>Pq sto x.nms)&&(mv.all fun m=>Nat.blt m 5000||Nat.ble 5500 m))=true)(k:∀r sto',R r sto'->((AY (d.getD 999) sto').map (·.1)).all (fun nm=>(Ac sto nm).isSome||((Ac st.sto nm).isNone&&Nat.blt nm 5000))=true/\
   (sto.map (·.1)).all (fun nm=>(Ac sto' nm).isNone||ren (d.getD 999) nm==nm)=true/\K (putO (C0 st sto sto' mv (d.getD 999)) d (Ca (d.getD 999) r))):Ah P GL (DX GL f os) st d K:=by
 subst zz;rw[Bool.and_eq_true,Bool.and_eq_true]at h2;refine⟨[],.inl ⟨sto,mv,R,h,h1,h2.1.1,h2.1.2,h2.2,fun r s hr=>?_⟩⟩;obtain⟨k1,k2,k3⟩:=k r s hr;rw[List.all_eq_true]at k1 k2;refine⟨fun nm hm=>?_,fun nm hm hs=>?_,k3⟩
 ·have:=k1 nm hm;rw[Bool.or_eq_true,Bool.and_eq_true]at this;rcases this with e|⟨e1,e2⟩
  ·exact .inl e
  ·exact .inr ⟨by show Ac st.sto nm=none;simpa using e1,by simpa using e2⟩
 ·have:=k2 nm hm;rw[Bool.or_eq_true]at this;rcases this with e|e
  ·cases hg:Ac s nm<;>simp[hg]at e hs
  ·simpa using e
theorem Mv{α:Type}{l:List α}{f:α->I×I}{c:Option (I×I)}{nm d:Nat}{K:St->Prop}(h0:l=[]->K (st.put d (.i (.tup [.bool false]))))(h1:∀q (h:q<l.length),K ((st.setB nm (.iter (some (f l[q])) ((l.eraseIdx q).map f))).put d (.i (.tup [.bool true,(f l[q]).1,(f l[q]).2])))):
  JA (some (.iter c (l.map f))) nm d st K:=by
 refine⟨fun e=>h0 (List.map_eq_nil_iff.1 e),fun i hi=>?_⟩;have ja:i<l.length:=by simpa using hi
 have:=h1 i ja;have e:∀(l:List α) (i:Nat),(l.map f).eraseIdx i=(l.eraseIdx i).map f:=fun l=>by
  induction l with
  |nil=>intro i;rfl
  |cons a l ih=>intro i;cases i with
   |zero=>rfl
   |succ i=>simp[ih]
 rw[List.getElem_map,e];exact this
theorem xN:(∀st sto sto' mv d,C0 st sto sto' mv d=⟨Ik (Hb sto sto' mv) st.env,AY d sto'++G9 (Hb sto sto' mv) (Ha st.sto (sto.map (·.1)))⟩)/\(∀e,Ik [] e=e)/\(∀nm r e,Ik (nm::r) e=Ik r (.sb nm (.iter none []) e))/\(∀s,G9 [] s=s)/\(∀nm r s,G9 (nm::r) s=G9 r (Pt nm (.iter none []) s))/\
  (∀s,Ha s []=s)/\(∀s nm r,Ha s (nm::r)=Ha (BC s nm) r)/\(∀d,AY d []=[])/\(∀d m x r,AY d ((m,x)::r)=(ren d m,Do d x)::AY d r)/\(∀d e k rs,Do d (.rows e k rs)=.rows e k rs)/\(∀d ls es,Do d (.map ls es)=.map ls es)/\(∀d c r,Do d (.iter c r)=.iter c r)/\(∀d cs,Do d (.cells cs)=.cells (cs.map (Ca d)))/\
  (∀d x,Ca d (.i x)=.i x)/\(∀d,Ca d .any=.any)/\(∀d r,Ca d (.ref r)=.ref (G7 d r))/\(∀d nm o,G7 d (.loc nm o)=.loc (ren d nm) o)/\(∀d nm k a b,G7 d (.sl nm k a b)=.sl (ren d nm) k a b)/\(∀d nm,G7 d (.mp nm)=.mp (ren d nm))/\
  (∀d n,ren d n=if n=6000 then d else if n=d then 6000 else if n=6001 then d+1000 else if n=d+1000 then 6001 else n)/\(∀sto sto' mv,Hb sto sto' mv=(sto.map (·.1)).filter fun nm=>mv.contains nm||(Ac sto' nm).isNone):=by
 and_intros<;>intros<;>rfl
end
@[congr] theorem sd{P_0 GL_1 z2_2 z3_3 z4_4}:@ev P_0 GL_1 z2_2 z3_3 z4_4=@ev P_0 GL_1 z2_2 z3_3 z4_4:=by rfl
@[congr] theorem se{P_0 GL_1 r_2 K_3 st_4 st_4'}(h4:st_4=st_4'):@rK P_0 GL_1 r_2 K_3 st_4=@rK P_0 GL_1 r_2 K_3 st_4':=by subst h4;rfl
@[congr] theorem sf{P_0 GL_1 i_2 r_3 K_4 l_5 l_5' st_6 st_6'}(h5:l_5=l_5')(h6:st_6=st_6'):@rS P_0 GL_1 i_2 r_3 K_4 l_5 st_6=@rS P_0 GL_1 i_2 r_3 K_4 l_5' st_6':=by subst h5 h6;rfl
@[congr] theorem sg{P_0 GL_1 ins_2 st_3 K_4}:@step P_0 GL_1 ins_2 st_3 K_4=@step P_0 GL_1 ins_2 st_3 K_4:=by rfl
@[congr] theorem si{P_0 GL_1 s_2 v_3 v_3' w_4 i_5 r_6 st_7 K_8}(h3:v_3=v_3'):@bI P_0 GL_1 s_2 v_3 w_4 i_5 r_6 st_7 K_8=@bI P_0 GL_1 s_2 v_3' w_4 i_5 r_6 st_7 K_8:=by subst h3;rfl
@[congr] theorem sj{P_0 GL_1 sn_2 z3_3 z4_4 z5_5}:@evD P_0 GL_1 sn_2 z3_3 z4_4 z5_5=@evD P_0 GL_1 sn_2 z3_3 z4_4 z5_5:=by rfl
@[congr] theorem sk{P_0 GL_1 sn_2 r_3 K_4 st_5 st_5'}(h5:st_5=st_5'):@FZ P_0 GL_1 sn_2 r_3 K_4 st_5=@FZ P_0 GL_1 sn_2 r_3 K_4 st_5':=by subst h5;rfl
@[congr] theorem sm{P_0 GL_1 sn_2 ins_3 st_4 K_5}:@Ae P_0 GL_1 sn_2 ins_3 st_4 K_5=@Ae P_0 GL_1 sn_2 ins_3 st_4 K_5:=by rfl
@[congr] theorem sr{P_0 GL_1 s_2 v_3 v_3' w_4 sn_5 i_6 r_7 st_8 K_9}(h3:v_3=v_3'):@bJ P_0 GL_1 s_2 v_3 w_4 sn_5 i_6 r_7 st_8 K_9=@bJ P_0 GL_1 s_2 v_3' w_4 sn_5 i_6 r_7 st_8 K_9:=by subst h3;rfl
@[congr] theorem su{v_0 v_0' d_1 A_2 A_2' C_3 C_3' st_4 K_5}(h0:v_0=v_0')(h2:A_2=A_2')(h3:C_3=C_3'):@Db v_0 d_1 A_2 C_3 st_4 K_5=@Db v_0' d_1 A_2' C_3' st_4 K_5:=by subst h0 h2 h3;rfl
@[congr] theorem sv{b_0 b_0' d_1 e_2 k_3 st_4 K_5}(h0:b_0=b_0'):@Im b_0 d_1 e_2 k_3 st_4 K_5=@Im b_0' d_1 e_2 k_3 st_4 K_5:=by subst h0;rfl
@[congr] theorem sx{v_0 v_0' d_1 st_2 K_3}(h0:v_0=v_0'):@Jt v_0 d_1 st_2 K_3=@Jt v_0' d_1 st_2 K_3:=by subst h0;rfl
@[congr] theorem sy{b_0 b_0' d_1 cs_2 cs_2' st_3 K_4}(h0:b_0=b_0')(h2:cs_2=cs_2'):@Ee b_0 d_1 cs_2 st_3 K_4=@Ee b_0' d_1 cs_2' st_3 K_4:=by subst h0 h2;rfl
@[congr] theorem sz{b_0 b_0' d_1 e_2 k_3 st_4 K_5}(h0:b_0=b_0'):@Oa b_0 d_1 e_2 k_3 st_4 K_5=@Oa b_0' d_1 e_2 k_3 st_4 K_5:=by subst h0;rfl
@[congr] theorem sA{b_0 b_0' d_1 e_2 k_3 rows_4 rows_4' st_5 K_6}(h0:b_0=b_0')(h4:rows_4=rows_4'):@Iz b_0 d_1 e_2 k_3 rows_4 st_5 K_6=@Iz b_0' d_1 e_2 k_3 rows_4' st_5 K_6:=by subst h0 h4;rfl
@[congr] theorem sB{v_0 v_0' d_1 k_2 ag_3 st_4 K_5}(h0:v_0=v_0'):@Gm v_0 d_1 k_2 ag_3 st_4 K_5=@Gm v_0' d_1 k_2 ag_3 st_4 K_5:=by subst h0;rfl
@[congr] theorem sC{b_0 b_0' d_1 off_2 off_2' k_3 ag_4 st_5 K_6}(h0:b_0=b_0')(h2:off_2=off_2'):@Hd b_0 d_1 off_2 k_3 ag_4 st_5 K_6=@Hd b_0' d_1 off_2' k_3 ag_4 st_5 K_6:=by subst h0 h2;rfl
@[congr] theorem sD{b_0 b_0' d_1 kk_2 kk_2' row_3 row_3' off_4 off_4' k_5 ag_6 st_7 K_8}(h0:b_0=b_0')(h2:kk_2=kk_2')(h3:row_3=row_3')(h4:off_4=off_4'):@Ju b_0 d_1 kk_2 row_3 off_4 k_5 ag_6 st_7 K_8=@Ju b_0' d_1 kk_2' row_3' off_4' k_5 ag_6 st_7 K_8:=by subst h0 h2 h3 h4;rfl
@[congr] theorem sE{x_0 x_0' v_1 v_1' k_2 st_3 K_4}(h0:x_0=x_0')(h1:v_1=v_1'):@E2 x_0 v_1 k_2 st_3 K_4=@E2 x_0' v_1' k_2 st_3 K_4:=by subst h0 h1;rfl
@[congr] theorem sF{b_0 b_0' nm_1 off_2 off_2' k_3 v_4 v_4' st_5 K_6}(h0:b_0=b_0')(h2:off_2=off_2')(h4:v_4=v_4'):@He b_0 nm_1 off_2 k_3 v_4 st_5 K_6=@He b_0' nm_1 off_2' k_3 v_4' st_5 K_6:=by subst h0 h2 h4;rfl
@[congr] theorem sG{b_0 b_0' nm_1 kk_2 kk_2' row_3 row_3' off_4 off_4' k_5 v_6 v_6' st_7 K_8}(h0:b_0=b_0')(h2:kk_2=kk_2')(h3:row_3=row_3')(h4:off_4=off_4')(h6:v_6=v_6'):@Jv b_0 nm_1 kk_2 row_3 off_4 k_5 v_6 st_7 K_8=@Jv b_0' nm_1 kk_2' row_3' off_4' k_5 v_6' st_7 K_8:=by subst h0 h2 h3 h4 h6;rfl
@[congr] theorem sH{x_0 x_0' v_1 v_1' k_2 st_3 K_4}(h0:x_0=x_0')(h1:v_1=v_1'):@Jx x_0 v_1 k_2 st_3 K_4=@Jx x_0' v_1' k_2 st_3 K_4:=by subst h0 h1;rfl
@[congr] theorem sI{b_0 b_0' nm_1 off_2 off_2' k_3 v_4 v_4' st_5 K_6}(h0:b_0=b_0')(h2:off_2=off_2')(h4:v_4=v_4'):@Jw b_0 nm_1 off_2 k_3 v_4 st_5 K_6=@Jw b_0' nm_1 off_2' k_3 v_4' st_5 K_6:=by subst h0 h2 h4;rfl
@[congr] theorem sJ{v_0 v_0' d_1 off_2 off_2' st_3 K_4}(h0:v_0=v_0')(h2:off_2=off_2'):@rI v_0 d_1 off_2 st_3 K_4=@rI v_0' d_1 off_2' st_3 K_4:=by subst h0 h2;rfl
@[congr] theorem sK{s_0 s_0' i_1 i_1' d_2 k_3 st_4 K_5}(h0:s_0=s_0')(h1:i_1=i_1'):@rP s_0 i_1 d_2 k_3 st_4 K_5=@rP s_0' i_1' d_2 k_3 st_4 K_5:=by subst h0 h1;rfl
@[congr] theorem sL{b_0 b_0' nm_1 d_2 k_3 z4_4 lo_5 lo_5' hi_6 hi_6' n_7 n_7' st_8 K_9}(h0:b_0=b_0')(h5:lo_5=lo_5')(h6:hi_6=hi_6')(h7:n_7=n_7'):@vP b_0 nm_1 d_2 k_3 z4_4 lo_5 hi_6 n_7 st_8 K_9=@vP b_0' nm_1 d_2 k_3 z4_4 lo_5' hi_6' n_7' st_8 K_9:=by subst h0 h5 h6 h7;rfl
@[congr] theorem sM{s_0 s_0' i_1 i_1' d_2 st_3 K_4}(h0:s_0=s_0')(h1:i_1=i_1'):@In s_0 i_1 d_2 st_3 K_4=@In s_0' i_1' d_2 st_3 K_4:=by subst h0 h1;rfl
@[congr] theorem sN{op_0 x_1 x_1' y_2 y_2' d_3 st_4 K_5}(h1:x_1=x_1')(h2:y_2=y_2'):@Io op_0 x_1 y_2 d_3 st_4 K_5=@Io op_0 x_1' y_2' d_3 st_4 K_5:=by subst h1 h2;rfl
@[congr] theorem sO{op_0 x_1 x_1' y_2 y_2' d_3 st_4 K_5}(h1:x_1=x_1')(h2:y_2=y_2'):@rV op_0 x_1 y_2 d_3 st_4 K_5=@rV op_0 x_1' y_2' d_3 st_4 K_5:=by subst h1 h2;rfl
@[congr] theorem sP{neg_0 ls_1 x_2 x_2' y_3 y_3' d_4 st_5 K_6}(h2:x_2=x_2')(h3:y_3=y_3'):@Iq neg_0 ls_1 x_2 y_3 d_4 st_5 K_6=@Iq neg_0 ls_1 x_2' y_3' d_4 st_5 K_6:=by subst h2 h3;rfl
@[congr] theorem sR{r_0 r_0' neg_1 d_2 st_3 K_4}(h0:r_0=r_0'):@Ip r_0 neg_1 d_2 st_3 K_4=@Ip r_0' neg_1 d_2 st_3 K_4:=by subst h0;rfl
@[congr] theorem sS{neg_0 x_1 x_1' y_2 y_2' d_3 st_4 K_5}(h1:x_1=x_1')(h2:y_2=y_2'):@Hf neg_0 x_1 y_2 d_3 st_4 K_5=@Hf neg_0 x_1' y_2' d_3 st_4 K_5:=by subst h1 h2;rfl
@[congr] theorem sU{q_0 neg_1 x_2 x_2' d_3 st_4 K_5}(h2:x_2=x_2'):@B4 q_0 neg_1 x_2 d_3 st_4 K_5=@B4 q_0 neg_1 x_2' d_3 st_4 K_5:=by subst h2;rfl
@[congr] theorem sV{op_0 x_1 x_1' d_2 st_3 K_4}(h1:x_1=x_1'):@rJ op_0 x_1 d_2 st_3 K_4=@rJ op_0 x_1' d_2 st_3 K_4:=by subst h1;rfl
@[congr] theorem sW{x_0 x_0' d_1 st_2 K_3}(h0:x_0=x_0'):@Ir x_0 d_1 st_2 K_3=@Ir x_0' d_1 st_2 K_3:=by subst h0;rfl
@[congr] theorem sY{x_0 x_0' d_1 st_2 K_3}(h0:x_0=x_0'):@Gp x_0 d_1 st_2 K_3=@Gp x_0' d_1 st_2 K_3:=by subst h0;rfl
@[congr] theorem sZ{x_0 x_0' i_1 d_2 st_3 K_4}(h0:x_0=x_0'):@Gq x_0 i_1 d_2 st_3 K_4=@Gq x_0' i_1 d_2 st_3 K_4:=by subst h0;rfl
@[congr] theorem s4{f_0 first_1 first_1' caps_2 caps_2' d_3 st_4 K_5}(h1:first_1=first_1')(h2:caps_2=caps_2'):@It f_0 first_1 caps_2 d_3 st_4 K_5=@It f_0 first_1' caps_2' d_3 st_4 K_5:=by subst h1 h2;rfl
@[congr] theorem s5{mx_0 x_1 x_1' y_2 y_2' d_3 st_4 K_5}(h1:x_1=x_1')(h2:y_2=y_2'):@Ef mx_0 x_1 y_2 d_3 st_4 K_5=@Ef mx_0 x_1' y_2' d_3 st_4 K_5:=by subst h1 h2;rfl
@[congr] theorem s6{k_0 x_1 x_1' d_2 st_3 K_4}(h1:x_1=x_1'):@Iu k_0 x_1 d_2 st_3 K_4=@Iu k_0 x_1' d_2 st_3 K_4:=by subst h1;rfl
@[congr] theorem s7{x_0 x_0' y_1 y_1' d_2 e_3 k_4 b_5 st_6 K_7}(h0:x_0=x_0')(h1:y_1=y_1'):@Gu x_0 y_1 d_2 e_3 k_4 b_5 st_6 K_7=@Gu x_0' y_1' d_2 e_3 k_4 b_5 st_6 K_7:=by subst h0 h1;rfl
@[congr] theorem s8{bl_0 bl_0' nm_1 z2_2 lo_3 lo_3' hi_4 hi_4' d_5 e_6 k_7 b_8 rows_9 rows_9' st_10 K_11}(h0:bl_0=bl_0')(h3:lo_3=lo_3')(h4:hi_4=hi_4')(h9:rows_9=rows_9'):@Iv bl_0 nm_1 z2_2 lo_3 hi_4 d_5 e_6 k_7 b_8 rows_9 st_10 K_11=@Iv bl_0' nm_1 z2_2 lo_3' hi_4' d_5 e_6 k_7 b_8 rows_9' st_10 K_11:=by subst h0 h3 h4 h9;rfl
@[congr] theorem s9{x_0 x_0' l_1 l_1' h_2 h_2' d_3 k_4 st_5 K_6}(h0:x_0=x_0')(h1:l_1=l_1')(h2:h_2=h_2'):@Iw x_0 l_1 h_2 d_3 k_4 st_5 K_6=@Iw x_0' l_1' h_2' d_3 k_4 st_5 K_6:=by subst h0 h1 h2;rfl
@[congr] theorem ta{lo_0 lo_0' hi_1 hi_1' top_2 top_2' K_3}(h0:lo_0=lo_0')(h1:hi_1=hi_1')(h2:top_2=top_2'):@DH lo_0 hi_1 top_2 K_3=@DH lo_0' hi_1' top_2' K_3:=by subst h0 h1 h2;rfl
@[congr] theorem tc{b_0 b_0' nm_1 z2_2 lo_3 lo_3' hi_4 hi_4' d_5 k_6 l_7 l_7' h_8 h_8' st_9 K_10}(h0:b_0=b_0')(h3:lo_3=lo_3')(h4:hi_4=hi_4')(h7:l_7=l_7')(h8:h_8=h_8'):@Jy b_0 nm_1 z2_2 lo_3 hi_4 d_5 k_6 l_7 h_8 st_9 K_10=@Jy b_0' nm_1 z2_2 lo_3' hi_4' d_5 k_6 l_7' h_8' st_9 K_10:=by subst h0 h3 h4 h7 h8;rfl
@[congr] theorem td{b_0 b_0' d_1 ls_2 st_3 K_4}(h0:b_0=b_0'):@Ix b_0 d_1 ls_2 st_3 K_4=@Ix b_0' d_1 ls_2 st_3 K_4:=by subst h0;rfl
@[congr] theorem te{x_0 x_0' key_1 key_1' zero_2 ok_3 ls_4 d_5 st_6 K_7}(h0:x_0=x_0')(h1:key_1=key_1'):@DY x_0 key_1 zero_2 ok_3 ls_4 d_5 st_6 K_7=@DY x_0' key_1' zero_2 ok_3 ls_4 d_5 st_6 K_7:=by subst h0 h1;rfl
@[congr] theorem tf{b_0 b_0' ls_1 key_2 key_2' zero_3 ok_4 d_5 st_6 K_7}(h0:b_0=b_0')(h2:key_2=key_2'):@E3 b_0 ls_1 key_2 zero_3 ok_4 d_5 st_6 K_7=@E3 b_0' ls_1 key_2' zero_3 ok_4 d_5 st_6 K_7:=by subst h0 h2;rfl
@[congr] theorem tg{x_0 x_0' key_1 key_1' v_2 v_2' ls_3 st_4 K_5}(h0:x_0=x_0')(h1:key_1=key_1')(h2:v_2=v_2'):@Gr x_0 key_1 v_2 ls_3 st_4 K_5=@Gr x_0' key_1' v_2' ls_3 st_4 K_5:=by subst h0 h1 h2;rfl
@[congr] theorem th{b_0 b_0' nm_1 ls_2 key_3 key_3' v_4 v_4' st_5 K_6}(h0:b_0=b_0')(h3:key_3=key_3')(h4:v_4=v_4'):@Hg b_0 nm_1 ls_2 key_3 v_4 st_5 K_6=@Hg b_0' nm_1 ls_2 key_3' v_4' st_5 K_6:=by subst h0 h3 h4;rfl
@[congr] theorem ti{b_0 b_0' d_1 st_2 K_3}(h0:b_0=b_0'):@KH b_0 d_1 st_2 K_3=@KH b_0' d_1 st_2 K_3:=by subst h0;rfl
@[congr] theorem tj{b_0 b_0' x_1 x_1' d_2 st_3 K_4}(h0:b_0=b_0')(h1:x_1=x_1'):@Iy b_0 x_1 d_2 st_3 K_4=@Iy b_0' x_1' d_2 st_3 K_4:=by subst h0 h1;rfl
@[congr] theorem tl{x_0 x_0' d_1 st_2 K_3}(h0:x_0=x_0'):@JB x_0 d_1 st_2 K_3=@JB x_0' d_1 st_2 K_3:=by subst h0;rfl
@[congr] theorem tm{b_0 b_0' nm_1 d_2 st_3 K_4}(h0:b_0=b_0'):@JA b_0 nm_1 d_2 st_3 K_4=@JA b_0' nm_1 d_2 st_3 K_4:=by subst h0;rfl
@[congr] theorem tn{x_0 x_0' d_1 st_2 K_3}(h0:x_0=x_0'):@JD x_0 d_1 st_2 K_3=@JD x_0' d_1 st_2 K_3:=by subst h0;rfl
@[congr] theorem tp{b_0 b_0' d_1 st_2 K_3}(h0:b_0=b_0'):@JC b_0 d_1 st_2 K_3=@JC b_0' d_1 st_2 K_3:=by subst h0;rfl
@[congr] theorem tq{x_0 x_0' d_1 st_2 K_3}(h0:x_0=x_0'):@IA x_0 d_1 st_2 K_3=@IA x_0' d_1 st_2 K_3:=by subst h0;rfl
@[congr] theorem tu{l_0 l_0' d_1 st_2 K_3}(h0:l_0=l_0'):@KI l_0 d_1 st_2 K_3=@KI l_0' d_1 st_2 K_3:=by subst h0;rfl
@[congr] theorem tv{P_0 GL_1 get_2 st_3 d_4 K_5}:@Ah P_0 GL_1 get_2 st_3 d_4 K_5=@Ah P_0 GL_1 get_2 st_3 d_4 K_5:=by rfl
@[congr] theorem tw{P_0 GL_1 f_2 xs_3 xs_3' st_4 st_4' d_5 K_6}(h3:xs_3=xs_3')(h4:st_4=st_4'):@Aj P_0 GL_1 f_2 xs_3 st_4 d_5 K_6=@Aj P_0 GL_1 f_2 xs_3' st_4' d_5 K_6:=by subst h3 h4;rfl
@[congr] theorem tx{P_0 GL_1 fv_2 fv_2' xs_3 xs_3' st_4 st_4' d_5 K_6}(h2:fv_2=fv_2')(h3:xs_3=xs_3')(h4:st_4=st_4'):@F0 P_0 GL_1 fv_2 xs_3 st_4 d_5 K_6=@F0 P_0 GL_1 fv_2' xs_3' st_4' d_5 K_6:=by subst h2 h3 h4;rfl
@[congr] theorem tz{P_0 GL_1 sn_2 gs_3 post_4 K_5 st_6 st_6'}(h6:st_6=st_6'):@Mq P_0 GL_1 sn_2 gs_3 post_4 K_5 st_6=@Mq P_0 GL_1 sn_2 gs_3 post_4 K_5 st_6':=by subst h6;rfl
@[congr] theorem tC{post_0 K_1 s_2 s_2'}(h2:s_2=s_2'):@Mp post_0 K_1 s_2=@Mp post_0 K_1 s_2':=by subst h2;rfl
@[congr] theorem tD{W_0 K_1 z2_2 z3_3 z3_3'}(h3:z3_3=z3_3'):@JO W_0 K_1 z2_2 z3_3=@JO W_0 K_1 z2_2 z3_3':=by subst h3;rfl
@[congr] theorem tE{id_0 K_1 z2_2 z3_3 z3_3'}(h3:z3_3=z3_3'):@C5 id_0 K_1 z2_2 z3_3=@C5 id_0 K_1 z2_2 z3_3':=by subst h3;rfl
@[congr] theorem tF{z0_0 S_1 K_2 z3_3 z4_4 z4_4'}(h4:z4_4=z4_4'):@KV z0_0 S_1 K_2 z3_3 z4_4=@KV z0_0 S_1 K_2 z3_3 z4_4':=by subst h4;rfl
@[congr] theorem tG{F_0 I_1 n_2 i_3 K_4 z5_5 z6_6 z6_6'}(h6:z6_6=z6_6'):@JV F_0 I_1 n_2 i_3 K_4 z5_5 z6_6=@JV F_0 I_1 n_2 i_3 K_4 z5_5 z6_6':=by subst h6;rfl
@[congr] theorem tH{z0_0 F_1 m_2 i_3 K_4 z5_5 z6_6 z6_6'}(h6:z6_6=z6_6'):@Mu z0_0 F_1 m_2 i_3 K_4 z5_5 z6_6=@Mu z0_0 F_1 m_2 i_3 K_4 z5_5 z6_6':=by subst h6;rfl
@[congr] theorem tI{R_0 x_1 x_1'}(h1:x_1=x_1'):@KU R_0 x_1=@KU R_0 x_1':=by subst h1;rfl
@[congr] theorem tJ{rs_0 given_1 mv_2 R_3 z4_4 z5_5 z5_5'}(h5:z5_5=z5_5'):@IZ rs_0 given_1 mv_2 R_3 z4_4 z5_5=@IZ rs_0 given_1 mv_2 R_3 z4_4 z5_5':=by subst h5;rfl
@[congr] theorem tK{rs_0 given_1 mv_2 R_3 st_4}:@DJ rs_0 given_1 mv_2 R_3 st_4=@DJ rs_0 given_1 mv_2 R_3 st_4:=by rfl
@[congr] theorem tL{sn_0 x_1 x_1' v_2 v_2' k_3 st_4 K_5}(h1:x_1=x_1')(h2:v_2=v_2'):@Ms sn_0 x_1 v_2 k_3 st_4 K_5=@Ms sn_0 x_1' v_2' k_3 st_4 K_5:=by subst h1 h2;rfl
@[congr] theorem tM{rows_0 rows_0' d_1 st_2 K_3 a_4 a_4' c_5 c_5'}(h0:rows_0=rows_0')(h4:a_4=a_4')(h5:c_5=c_5'):@Ob rows_0 d_1 st_2 K_3 a_4 c_5=@Ob rows_0' d_1 st_2 K_3 a_4' c_5':=by subst h0 h4 h5;rfl
@[congr] theorem tN{nm_0 k_1 lo_2 lo_2' d_3 st_4 K_5 a_6 a_6' c_7 c_7'}(h2:lo_2=lo_2')(h6:a_6=a_6')(h7:c_7=c_7'):@Oc nm_0 k_1 lo_2 d_3 st_4 K_5 a_6 c_7=@Oc nm_0 k_1 lo_2' d_3 st_4 K_5 a_6' c_7':=by subst h2 h6 h7;rfl
@[congr] theorem tO{s_0 s_0' d_1 st_2 K_3 a_4 a_4' c_5 c_5'}(h0:s_0=s_0')(h4:a_4=a_4')(h5:c_5=c_5'):@Od s_0 d_1 st_2 K_3 a_4 c_5=@Od s_0' d_1 st_2 K_3 a_4' c_5':=by subst h0 h4 h5;rfl
@[congr] theorem tP{P GL gs st K}:FA P GL gs st K=FA P GL gs st K:=rfl
@[congr] theorem tQ{P GL sn gs post K st st'}(h2:st=st'):UX P GL sn gs post K st=UX P GL sn gs post K st':=by subst h2;rfl
@[congr] theorem tU{P GL c K st st'}(h:st=st'):W2 P GL c K st=W2 P GL c K st':=by subst h;rfl
@[congr] theorem tV{ks W K e st st'}(h:st=st'):HE ks W K e st=HE ks W K e st':=by subst h;rfl
@[congr] theorem tW{P GL v v' a c K st}(h:v=v'):Ff P GL v a c K st=Ff P GL v' a c K st:=by subst h;rfl
@[congr] theorem tX{ι F I m i K e st st'}(h:st=st'):@JW ι F I m i K e st=@JW ι F I m i K e st':=by subst h;rfl
@[congr] theorem tY{GL i st}:Av GL i st=Av GL i st:=rfl
def bZ:Ins->List O
 |.box _ x|.boxm _ x|.isnil _ _ _ x|.slc0 _ _ _ x|.rng _ x|.nxt _ x|.ent _ x|.cap _ x|.clr _ x _|.mksl _ _ _ _ _ x=>[x]
 |.stfrz x y _|.app _ _ _ _ x y|.cpy _ x y _ _|.appz _ _ _ _ x y _|.lookg _ x y _ _ _|.ment _ x y _ _ _ _=>[x,y]
 |.bsl _ _ _ ps|.bso _ _ _ ps|.calln _ _ _ _ ps=>ps
 |.mupdg x q v _|.ests x q v=>[x,q,v]
 |.slc3 _ x lo y z=>x::(lo.toList++[y,z])
 |i=>Bm i
def Og(x:Nat):List Nat->List Nat
 |[]=>[x]
 |y::r=>if Nat.blt x y then x::y::r else if Nat.beq x y then y::r else y::Og x r
def KY:List Nat->List Nat->List Nat
 |[],l=>l
 |x::r,l=>KY r (Og x l)
def Oh(x:Nat):List Nat->List Nat
 |[]=>[]
 |y::r=>if Nat.beq x y then r else y::Oh x r
def QA(x:Nat):List Nat->Bool
 |[]=>false
 |y::r=>Nat.beq x y||QA x r
def JY:List O->List Nat->List Nat
 |[],l=>l
 |.t n::r,l=>JY r (Og n l)
 |_::r,l=>JY r l
def Oi:List GI->List Nat->List Nat
 |[],l=>l
 |g::r,l=>JY (bZ g.ins) (KY (Gz g) (match g.ins.dst with|some d=>Oh d (Oi r l)|none=>Oi r l))
def I1(k:Nat):List (Nat×List Nat)->List Nat
 |[]=>[]
 |p::r=>if Nat.beq p.1 k then p.2 else I1 k r
def QB(f:List Nat->List Nat):Nat->List Nat->List Nat
 |0,l=>l
 |n+1,l=>QB f n (KY (f l) l)
def DL:IR->List (Nat×List Nat)->List Nat
 |.skip,K=>I1 0 K
 |.ret,K=>I1 1 K
 |.exit i,K=>I1 (i+2) K
 |.reg gs,K=>Oi gs (I1 0 K)
 |.dreg _ gs _,K=>Oi gs (I1 0 K)
 |.seq a b,K=>DL a ((0,DL b K)::K)
 |.cut a b,K=>DL a ((0,DL b K)::K)
 |.cond c a b,K=>JY [c] (KY (DL a K) (DL b K))
 |.block i c,K=>DL c ((i+2,I1 0 K)::K)
 |.loop c,K=>QB (fun l=>DL c ((0,l)::K)) 3 []
 |.rf _ og ps a b,K=>JY [og] (KY ((DL a [(0,DL b [])]).filter fun x=>!QA x ps) (K.foldr (fun p l=>KY p.2 l) []))
def Mw:IR->Bool
 |.cond _ _ _=>true
 |.seq a b|.cut a b=>Mw a||Mw b
 |.block _ c=>Mw c
 |_=>false
def b8:Ins->List O
 |.call _ _ ps|.bsl _ _ _ ps|.bsn _ _ _ ps|.callo _ _ ps=>ps
 |.callv _ f ps=>f::ps
 |.build _ _ ps=>ps.map (·.2.2)
 |.ofb _ x|.app _ _ _ _ _ x=>[x]
 |.mupd _ q v _=>[q,v]
 |_=>[]
def cd(i:Ins)(w:List Nat):List Nat:=JY (b8 i) (match i.dst with
 |some d=>if QA d w then(match i with|.mov _ x=>JY [x] (Oh d w)|_=>Oh d w)else w
 |none=>w)
def UY:List GI->List Nat
 |[]=>[]
 |g::r=>cd g.ins (UY r)
def F2:IR->List (Nat×List Nat)->J
 |.skip,_=>.skip
 |.ret,_=>.ret
 |.exit i,_=>.exit i
 |.reg gs,_=>.rg gs
 |.dreg sn gs post,_=>.dr sn ((UY gs).map .t) gs post
 |.seq a b,K=>(if Mw a then J.ct else J.sq) (DL b K) (F2 a ((0,DL b K)::K)) (F2 b K)
 |.cut a b,K=>(if Mw a then J.ct else J.sq) (DL b K) (F2 a ((0,DL b K)::K)) (F2 b K)
 |.cond c a b,K=>.cond c (F2 a K) (F2 b K)
 |.block i c,K=>.block i (F2 c ((i+2,I1 0 K)::K))
 |.loop c,K=>.lp (F2 c ((0,QB (fun l=>DL c ((0,l)::K)) 3 [])::K))
 |.rf n og ps a b,_=>.rf n og ps (F2 a [(0,DL b [])]) (F2 b [])
structure FD where
 n:Nat
 a:List Nat
 b:List (Nat×Nat)
 l:List RV
 c:J
def ce(mu:List Nat)(rt:List (Nat×Nat))(gs gs':List GI)(p0 p1:Nat):List Nat->IR
 |[]=>.dreg (IS rt ((gs.take p1).drop p0)) ((gs.take p1).drop p0) (IT mu rt ((gs.take p1).drop p0))
 |0::_=>.reg [Sd gs' p0]
 |k::l=>.dreg ((l.drop k).map (·+FS)) ((Sg (l.take k) p0 p1).map (Sd gs)++(YP (l.take k) p0 p1).map (gF gs')) []
def UZ(mu:List Nat)(rt:List (Nat×Nat))(gs gs':List GI):List (List Nat)->Nat->IR
 |[]::_,p0=>.reg (gs'.drop p0)
 |(p1::l)::r,p0=>.cut (ce mu rt gs gs' p0 p1 l) (UZ mu rt gs gs' r p1)
 |[],_=>.skip
def U0(k:Nat):List (Nat×List (List Nat))->List (List Nat)
 |[]=>[]
 |p::r=>if Nat.beq p.1 k then p.2 else U0 k r
def HF(P:Program)(GL:List (Nat×List I))(n:Nat)(mu:List Nat)(rt:List (Nat×Nat))(h:List (Nat×List (List Nat))):Code->Option IR
 |.skip=>some .skip
 |.region i ops draw=>match(if draw then U0 i h else[])with
  |[]=>(C4 P GL n mu ops).map .reg
  |hs=>match C4 P GL n (xr n mu) ops,C4 P GL n mu ops with
   |some gs,some gs'=>some (match hs with
    |[[0]]=>.dreg (IS rt gs) gs (IT mu rt gs)
    |_=>UZ mu rt gs gs' hs 0)
   |_,_=>none
 |.seq a b=>match HF P GL n mu rt h a,HF P GL n mu rt h b with|some x,some y=>some (.cut x y)|_,_=>none
 |.cond c a b=>match cO GL c,HF P GL n mu rt h a,HF P GL n mu rt h b with|some oc,some x,some y=>some (.cond oc x y)|_,_,_=>none
 |.block id c=>(HF P GL n mu rt h c).map (.block id)
 |.loop c=>(HF P GL n mu rt h c).map .loop
 |.exit id=>some (.exit id)
 |.ret=>some .ret
 |.rangeFunc g ps x y=>match cO GL g,HF P GL n mu rt h x,HF P GL n mu rt h y with
  |some og,some ix,some iy=>some (.rf n og ps.toList ix iy)
  |_,_,_=>none
 |_=>none
def xO(P:Program)(GL:List (Nat×List I))(f:Func)(a:List Nat)(b:List (Nat×Nat))(h:List (Nat×List (List Nat))):Option FD:=
 match f.results.toList.mapM (FY P),f.body.bind (HF P GL f.ntmps a b h)with
 |some l,some ir=>some ⟨f.ntmps,a,b,l,F2 ir (let r:=l.foldr (fun x l=>Og (match x with|.tmp t=>t|.cell t _ _=>t) l) [];[(0,r),(1,r)])⟩
 |_,_=>none
end Go.Dl
