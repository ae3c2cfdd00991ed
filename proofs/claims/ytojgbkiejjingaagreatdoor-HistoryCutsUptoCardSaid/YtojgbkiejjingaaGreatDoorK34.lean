/-
  Lemmas, no statement.
-/
import Derived.Test.YtojgbkiejjingaaGreatDoorK33
set_option linter.all false
namespace Go.Dl
open Go Go.RowKit
variable{nm:Nat}{mv:List Nat}{sto l:List (Nat×Blk)}{b b':Blk}{μ:Place}{w:World}{f:FuncId}{args:List D}{R:D->List (Nat×Blk)->Prop}
def U5(r:Option (List (List I)))(l:Nat):Option (Nat×List (List I)):=match r with|some r=>some (l,r)|none=>none
def Dw(W:(Exit->St->Prop)->St->Prop)(K:Exit->St->Prop):Exit->St->Prop
 |.normal,s=>W K s
 |_,_=>False
section
variable {P:Program}{GL:List (Nat×List I)}
theorem xT(st:St)(K:St->Prop):
  (∀d ls,step P GL (.mkgm d ls) st K=IB (Ac st.sto d) d ls st K)/\(∀d x q z ok ls,step P GL (.lookg d x q z ok ls) st K=Hi (AL GL st x) (AL GL st q) z ok ls d st K)/\(∀x q v ls,step P GL (.mupdg x q v ls) st K=NE (AL GL st x) (AL GL st q) (AL GL st v) ls st K)/\
  (∀d x q z ls e k,step P GL (.ment d x q z ls e k) st K=Hm (AL GL st x) (AL GL st q) z ls e k d st K)/\(∀x s v,step P GL (.ests x s v) st K=ID (AL GL st x) (AL GL st s) (AL GL st v) st K)/\(∀d x,step P GL (.cap d x) st K=IE (AL GL st x) d st K)/\
  (∀d x y e k,step P GL (.cpy d x y e k) st K=IH (AL GL st x) (AL GL st y) d e k st K)/\(∀d x z,step P GL (.clr d x z) st K=II (AL GL st x) z d st K)/\(∀d e k b z n,step P GL (.mksl d e k b z n) st K=JG (Ac st.sto d) (AL GL st n) d e k b z st K)/\
  (∀d x lo hi mx,step P GL (.slc3 d x lo hi mx) st K=KK (AL GL st x) (lo.map (AL GL st)) (AL GL st hi) (AL GL st mx) d st K)/\(∀d e k b x n z,step P GL (.appz d e k b x n z) st K=IJ (AL GL st x) (AL GL st n) d e k b z st K)/\(∀d f e k os,step P GL (.calln d f e k os) st K=Js P GL (Ac st.sto (d+2000)) d f e k os st K):=by
 and_intros<;>intros<;>rfl
theorem xU(st:St):
  (∀d ls,Av GL (.mkgm d ls) st=[])/\(∀d x q z ok ls,Av GL (.lookg d x q z ok ls) st=[])/\(∀x q v ls,Av GL (.mupdg x q v ls) st=[])/\(∀d x q z ls e k,Av GL (.ment d x q z ls e k) st=[])/\(∀x s v,Av GL (.ests x s v) st=[])/\(∀d x,Av GL (.cap d x) st=[])/\
  (∀d x y e k,Av GL (.cpy d x y e k) st=[])/\(∀d x z,Av GL (.clr d x z) st=[])/\(∀d e k b z n,Av GL (.mksl d e k b z n) st=[])/\(∀d x lo hi mx,Av GL (.slc3 d x lo hi mx) st=[])/\(∀d e k b x n z,Av GL (.appz d e k b x n z) st=[])/\(∀d f e k os,Av GL (.calln d f e k os) st=[]):=by
 and_intros<;>intros<;>rfl
theorem xV(st:St)(K:St->Prop):
  (∀d ls,IB none d ls st K=K ((st.bind d (.gmap ls 0 [])).put d (.ref (.mp d))))/\(∀nm q z ok ls d,Hi (.ref (.mp nm)) (.i q) z ok ls d st K=(Au ls q=true/\Gs (Ac st.sto nm) ls q z ok d st K))/\(∀x key z ok ls d,Hi (.i x) key z ok ls d st K=DY (.i x) key z ok ls d st K)/\
  (∀ls' clk es ls q z ok d,Gs (some (.gmap ls' clk es)) ls q z ok d st K=(ls'=ls/\Ds ok (IC es q) z d st K))/\(∀ls' es ls q z ok d,Gs (some (.map ls' es)) ls q z ok d st K=E3 (some (.map ls' es)) ls q z ok d st K)/\
  (∀v z d,Ds false (some v) z d st K=K (st.put d v))/\(∀z d,Ds false none z d st K=K (st.put d (.i z)))/\(∀z d,Ds true none z d st K=K (st.put d (.i (.tup [z,.bool false]))))/\(∀x z d,Ds true (some (.i x)) z d st K=K (st.put d (.tup [.i x,.i (.bool true)])))/\(∀r z d,Ds true (some (.ref r)) z d st K=K (st.put d (.tup [.ref r,.i (.bool true)])))/\
  (∀nm q v ls,NE (.ref (.mp nm)) (.i q) v ls st K=(Au ls q=true/\JF (Ac st.sto nm) nm ls q v st K))/\(∀ls' clk es nm ls q v,JF (some (.gmap ls' clk es)) nm ls q v st K=(ls'=ls/\K (st.setB nm (Sy ls clk es q v))))/\(∀ls' es nm ls q u,JF (some (.map ls' es)) nm ls q (.i u) st K=(ls'=ls/\K (st.setB nm (.map ls (Dp es q u)))))/\
  (∀nm q z ls e k d,Hm (.ref (.mp nm)) (.i q) z ls e k d st K=(Au ls q=true/\Hl (Ac st.sto nm) nm d ls q z e k st K))/\(∀nm q s v,ID (.ref (.mp nm)) (.i (.int q s)) v st K=Hn (Ac st.sto nm) nm s v st K)/\
  (∀ls clk es nm s v,Hn (some (.gmap ls clk es)) nm s v st K=((es.any fun e=>(e.2.1:Int)==s)=true/\K (st.setB nm (.gmap ls clk (es.map fun e=>if((e.2.1:Int)==s)=true then(e.1,e.2.1,v)else e)))))/\
  (∀nm k lo hi d,IE (.ref (.sl nm k lo hi)) d st K=Ho (Ac st.sto nm) lo hi d st K)/\(∀e k rs lo hi d,Ho (some (.arr e k rs)) lo hi d st K=K (st.put d (.i (.int .i64 ((rs.length-lo:Nat):Int)))))/\
  (∀nm k0 lo hi y d e k,IH (.ref (.sl nm k0 lo hi)) y d e k st K=Hp (Ac st.sto nm) nm k0 lo hi (FH (Ac st.sto) y (hi-lo)) d e k st K)/\
  (∀e' k' rs nm k0 lo hi len ys d e k,Hp (some (.arr e' k' rs)) nm k0 lo hi (some (len,ys)) d e k st K=(e'=e/\k'=k/\k0=k/\hi<=rs.length/\IG k ys/\K (putO (st.setB nm (.arr e k (setL rs lo (ys.map some)))) d (.i (.int .i64 ((min len (hi-lo):Nat):Int))))))/\
  (∀nm k0 lo hi z d,II (.ref (.sl nm k0 lo hi)) z d st K=Gt (Ac st.sto nm) nm k0 lo hi z d st K)/\(∀e k rs nm k0 lo hi z d,Gt (some (.rows e k rs)) nm k0 lo hi z d st K=(k0=k/\z.length=k/\hi<=rs.length/\K (putO (st.setB nm (.rows e k (setL rs lo (List.replicate (hi-lo) z)))) d (.i (.tup [])))))/\
  (∀e k rs nm k0 lo hi z d,Gt (some (.arr e k rs)) nm k0 lo hi z d st K=(k0=k/\z.length=k/\hi<=rs.length/\K (putO (st.setB nm (.arr e k (setL rs lo (List.replicate (hi-lo) (some z))))) d (.i (.tup [])))))/\
  (∀q m d e k bb z,JG none (.i (.int q m)) d e k bb z st K=(0<=m/\m<=140737488355328/\(bb:Int)*m<=140737488355328/\K ((st.bind d (.rows e k (List.replicate m.toNat z))).put d (.ref (.sl d k 0 m.toNat)))))/\
  (∀rows l h m d,KK (.i (.sl rows)) l h m d st K=(KJ rows.length (YK l) (FI h) (FI m)/\K (st.put d .any)))/\(∀nm k lo hi l h m d,KK (.ref (.sl nm k lo hi)) l h m d st K=(KJ (hi-lo) (YK l) (FI h) (FI m)/\K (st.put d .any)))/\
  (∀nm k0 lo hi q m d e k b z,IJ (.ref (.sl nm k0 lo hi)) (.i (.int q m)) d e k b z st K=Hs (Ac st.sto nm) (Ac st.sto d) nm k0 lo hi d e k b m z st K)/\(∀e' k' rs fr nm k0 lo hi d e k bb m z,Hs (some (.arr e' k' rs)) fr nm k0 lo hi d e k bb m z st K=(0<=m/\m<=140737488355328/\m*(bb:Int)<=140737488355328/\Hq fr e' k' rs nm k0 lo hi d e k bb (List.replicate m.toNat z) st K))/\(∀cs i d,Gq (.tup cs) i d st K=(i<cs.length/\K (st.put d (cs.getD i .any).toD)))/\(∀d f e k os,Js P GL none d f e k os st K=Ah P GL (KG GL f (d+2000) k os) (st.bind (d+2000) (.arr e k [])) (some d) K):=by
 and_intros<;>intros<;>rfl
theorem xW:(∀q n,FI (.i (.int q n))=some n)/\(∀len l h m,KJ len (some l) (some h) (some m)=(0<=l/\l<=h/\h<=m/\m<=(len:Int)))/\(∀σ rows,E5 σ (.i (.sl rows))=some rows)/\(∀σ nm k lo hi,E5 σ (.ref (.sl nm k lo hi))=IF (σ nm) k lo hi)/\(∀σ rows top,FH σ (.i (.sl rows)) top=some (rows.length,rows.take top))/\(∀σ nm k lo hi top,FH σ (.ref (.sl nm k lo hi)) top=U5 (IF (σ nm) k lo (min hi (lo+top))) (hi-lo))/\(∀r l,U5 (some r) l=some (l,r))/\
  (∀e k rs k0 lo hi,IF (some (.rows e k rs)) k0 lo hi=if k=k0/\hi<=rs.length then some ((rs.take hi).drop lo)else none)/\(∀e k rs k0 lo hi,IF (some (.arr e k rs)) k0 lo hi=if k=k0/\hi<=rs.length then E4 ((rs.take hi).drop lo)else none)/\
  (∀W K s,Dw W K .normal s=W K s)/\(∀e k rs,Ec (.arr e k rs)=false)/\(∀ls clk es,Ec (.gmap ls clk es)=es.all fun e=>G5 e.2.2)/\(∀l q cs,Ec (.lp l q cs)=false)/\(∀e k rs,rF (some (.arr e k rs))=[])/\(∀ls clk es,rF (some (.gmap ls clk es))=es.flatMap fun e=>e.2.2.nms)/\
  (∀l q cs,rF (some (.lp l q cs))=cs.flatMap D.nms)/\(∀cs,D.nms (.tup cs)=cs.flatMap Cp.nms)/\(∀cs,Da (.tup cs)=false):=by
 and_intros<;>intros<;>rfl
theorem xX:(∀d e k rs,Do d (.arr e k rs)=.arr e k rs)/\(∀d ls clk es,Do d (.gmap ls clk es)=.gmap ls clk (es.map fun e=>(e.1,e.2.1,Ca d e.2.2)))/\(∀d l q cs,Do d (.lp l q cs)=.lp l q (cs.map (Ca d)))/\(∀d cs,Ca d (.tup cs)=.tup (cs.map (G8 d)))/\
  (∀f e k rs,KC f (.arr e k rs)=.arr e k rs)/\(∀f ls clk es,KC f (.gmap ls clk es)=.gmap ls clk (es.map fun e=>(e.1,e.2.1,If f e.2.2)))/\(∀f l q cs,KC f (.lp l q cs)=.lp l q (cs.map (If f)))/\(∀f cs,If f (.tup cs)=.tup (cs.map (ri f))):=by
 and_intros<;>intros<;>rfl
attribute [go_sem] xT xU xV xW xX
end
@[congr] theorem tZ{b_0 b_0' d_1 ls_2 st_3 K_4}(h0:b_0=b_0'):@IB b_0 d_1 ls_2 st_3 K_4=@IB b_0' d_1 ls_2 st_3 K_4:=by subst h0;rfl
@[congr] theorem t6{x_0 x_0' key_1 key_1' zero_2 ok_3 ls_4 d_5 st_6 K_7}(h0:x_0=x_0')(h1:key_1=key_1'):@Hi x_0 key_1 zero_2 ok_3 ls_4 d_5 st_6 K_7=@Hi x_0' key_1' zero_2 ok_3 ls_4 d_5 st_6 K_7:=by grind
@[congr] theorem t7{b_0 b_0' ls_1 q_2 q_2' zero_3 ok_4 d_5 st_6 K_7}(h0:b_0=b_0')(h2:q_2=q_2'):@Gs b_0 ls_1 q_2 zero_3 ok_4 d_5 st_6 K_7=@Gs b_0' ls_1 q_2' zero_3 ok_4 d_5 st_6 K_7:=by grind
@[congr] theorem t8{ok_0 r_1 r_1' zero_2 d_3 st_4 K_5}(h1:r_1=r_1'):@Ds ok_0 r_1 zero_2 d_3 st_4 K_5=@Ds ok_0 r_1' zero_2 d_3 st_4 K_5:=by subst h1;rfl
@[congr] theorem ua{b_0 b_0' nm_1 ls_2 q_3 q_3' v_4 v_4' st_5 K_6}(h0:b_0=b_0')(h3:q_3=q_3')(h4:v_4=v_4'):@JF b_0 nm_1 ls_2 q_3 v_4 st_5 K_6=@JF b_0' nm_1 ls_2 q_3' v_4' st_5 K_6:=by grind
@[congr] theorem ub{x_0 x_0' key_1 key_1' zero_2 ls_3 e_4 k_5 d_6 st_7 K_8}(h0:x_0=x_0')(h1:key_1=key_1'):@Hm x_0 key_1 zero_2 ls_3 e_4 k_5 d_6 st_7 K_8=@Hm x_0' key_1' zero_2 ls_3 e_4 k_5 d_6 st_7 K_8:=by grind
@[congr] theorem ud{b_0 b_0' nm_1 d_2 ls_3 q_4 q_4' zero_5 e_6 k_7 st_8 K_9}(h0:b_0=b_0')(h4:q_4=q_4'):@Hl b_0 nm_1 d_2 ls_3 q_4 zero_5 e_6 k_7 st_8 K_9=@Hl b_0' nm_1 d_2 ls_3 q_4' zero_5 e_6 k_7 st_8 K_9:=by grind
@[congr] theorem ue{x_0 x_0' stamp_1 stamp_1' v_2 v_2' st_3 K_4}(h0:x_0=x_0')(h1:stamp_1=stamp_1')(h2:v_2=v_2'):@ID x_0 stamp_1 v_2 st_3 K_4=@ID x_0' stamp_1' v_2' st_3 K_4:=by grind
@[congr] theorem uf{b_0 b_0' nm_1 s_2 s_2' v_3 v_3' st_4 K_5}(h0:b_0=b_0')(h2:s_2=s_2')(h3:v_3=v_3'):@Hn b_0 nm_1 s_2 v_3 st_4 K_5=@Hn b_0' nm_1 s_2' v_3' st_4 K_5:=by grind
@[congr] theorem ug{x_0 x_0' d_1 st_2 K_3}(h0:x_0=x_0'):@IE x_0 d_1 st_2 K_3=@IE x_0' d_1 st_2 K_3:=by subst h0;rfl
@[congr] theorem uh{b_0 b_0' lo_1 lo_1' hi_2 hi_2' d_3 st_4 K_5}(h0:b_0=b_0')(h1:lo_1=lo_1')(h2:hi_2=hi_2'):@Ho b_0 lo_1 hi_2 d_3 st_4 K_5=@Ho b_0' lo_1' hi_2' d_3 st_4 K_5:=by grind
@[congr] theorem ui{x_0 x_0' y_1 y_1' d_2 e_3 k_4 st_5 K_6}(h0:x_0=x_0')(h1:y_1=y_1'):@IH x_0 y_1 d_2 e_3 k_4 st_5 K_6=@IH x_0' y_1' d_2 e_3 k_4 st_5 K_6:=by grind
@[congr] theorem uj{b_0 b_0' nm_1 k0_2 lo_3 lo_3' hi_4 hi_4' src_5 src_5' d_6 e_7 k_8 st_9 K_10}(h0:b_0=b_0')(h3:lo_3=lo_3')(h4:hi_4=hi_4')(h5:src_5=src_5'):@Hp b_0 nm_1 k0_2 lo_3 hi_4 src_5 d_6 e_7 k_8 st_9 K_10=@Hp b_0' nm_1 k0_2 lo_3' hi_4' src_5' d_6 e_7 k_8 st_9 K_10:=by grind
@[congr] theorem uk{x_0 x_0' z_1 d_2 st_3 K_4}(h0:x_0=x_0'):@II x_0 z_1 d_2 st_3 K_4=@II x_0' z_1 d_2 st_3 K_4:=by subst h0;rfl
@[congr] theorem ul{b_0 b_0' nm_1 k0_2 lo_3 lo_3' hi_4 hi_4' z_5 d_6 st_7 K_8}(h0:b_0=b_0')(h3:lo_3=lo_3')(h4:hi_4=hi_4'):@Gt b_0 nm_1 k0_2 lo_3 hi_4 z_5 d_6 st_7 K_8=@Gt b_0' nm_1 k0_2 lo_3' hi_4' z_5 d_6 st_7 K_8:=by grind
@[congr] theorem um{b_0 b_0' x_1 x_1' d_2 e_3 k_4 bb_5 z_6 st_7 K_8}(h0:b_0=b_0')(h1:x_1=x_1'):@JG b_0 x_1 d_2 e_3 k_4 bb_5 z_6 st_7 K_8=@JG b_0' x_1' d_2 e_3 k_4 bb_5 z_6 st_7 K_8:=by grind
@[congr] theorem uo{bl_0 bl_0' fr_1 fr_1' sg_2 nm_3 k0_4 lo_5 lo_5' hi_6 hi_6' y_7 y_7' d_8 e_9 k_10 b_11 st_12 K_13}(h0:bl_0=bl_0')(h1:fr_1=fr_1')(h5:lo_5=lo_5')(h6:hi_6=hi_6')(h7:y_7=y_7'):@Hr bl_0 fr_1 sg_2 nm_3 k0_4 lo_5 hi_6 y_7 d_8 e_9 k_10 b_11 st_12 K_13=@Hr bl_0' fr_1' sg_2 nm_3 k0_4 lo_5' hi_6' y_7' d_8 e_9 k_10 b_11 st_12 K_13:=by grind
@[congr] theorem uq{fr_0 fr_0' ee_1 kk_2 rs_3 rs_3' nm_4 k0_5 lo_6 lo_6' hi_7 hi_7' d_8 e_9 k_10 b_11 ys_12 ys_12' st_13 K_14}(h0:fr_0=fr_0')(h3:rs_3=rs_3')(h6:lo_6=lo_6')(h7:hi_7=hi_7')(h12:ys_12=ys_12'):@Qx fr_0 ee_1 kk_2 rs_3 nm_4 k0_5 lo_6 hi_7 d_8 e_9 k_10 b_11 ys_12 st_13 K_14=@Qx fr_0' ee_1 kk_2 rs_3' nm_4 k0_5 lo_6' hi_7' d_8 e_9 k_10 b_11 ys_12' st_13 K_14:=by grind
@[congr] theorem ur{x_0 x_0' n_1 n_1' d_2 e_3 k_4 b_5 z_6 st_7 K_8}(h0:x_0=x_0')(h1:n_1=n_1'):@IJ x_0 n_1 d_2 e_3 k_4 b_5 z_6 st_7 K_8=@IJ x_0' n_1' d_2 e_3 k_4 b_5 z_6 st_7 K_8:=by grind
@[congr] theorem ut{b_0 b_0' fr_1 fr_1' nm_2 k0_3 lo_4 lo_4' hi_5 hi_5' d_6 e_7 k_8 bb_9 m_10 m_10' z_11 st_12 K_13}(h0:b_0=b_0')(h1:fr_1=fr_1')(h4:lo_4=lo_4')(h5:hi_5=hi_5')(h10:m_10=m_10'):@Hs b_0 fr_1 nm_2 k0_3 lo_4 hi_5 d_6 e_7 k_8 bb_9 m_10 z_11 st_12 K_13=@Hs b_0' fr_1' nm_2 k0_3 lo_4' hi_5' d_6 e_7 k_8 bb_9 m_10' z_11 st_12 K_13:=by grind
@[congr] theorem uu{P_0 GL_1 b_2 b_2' d_3 f_4 e_5 k_6 os_7 st_8 K_9}(h2:b_2=b_2'):@Js P_0 GL_1 b_2 d_3 f_4 e_5 k_6 os_7 st_8 K_9=@Js P_0 GL_1 b_2' d_3 f_4 e_5 k_6 os_7 st_8 K_9:=by subst h2;rfl
@[congr] theorem uv{W_0 K_1 e_2 st_3 st_3'}(h3:st_3=st_3'):@Dw W_0 K_1 e_2 st_3=@Dw W_0 K_1 e_2 st_3':=by subst h3;rfl
section
variable {P:Program}{GL:List (Nat×List I)}
theorem K0{n:Nat}{og:O}{ps:List Nat}{a b:J}{K:Exit->St->Prop}{st:St}{gf:FuncId}{caps:List I}{xs:List (List I)}(hg:AL GL st og=.i (.fn gf [] caps))(ku:B9 P gf=true)(hq:Em P GL gf caps xs)
  (f:List (Nat×Nat))(L:List D)(m:Nat->List (Nat×Blk))(mv:List Nat)(N:Nat)(jm:Jm)(h1:N<=xs.length/\(jm=.none->N=xs.length)/\(jm≠.none->0<N))(h2:vS mv=true)(h3:∀j,j<=N->Pu mv (m j)=true/\JP (m j)=true/\rQ (m j) L=true/\(m j).map (·.1)=(m 0).map (·.1))
  (h4:L.length=n)(h5:GA f 0 L st.env)(h6:LL f 5499=5499)(h7:Bl (Ig (Ih f) (m 0)) st.sto)
  (h8:∀j,j<N->(xs.getD j []).length=ps.length/\W2 P GL a (Dw (W2 P GL b) (aT (m (j+1)) (if j+1=N then jm else .none))) ⟨.l (D0 ps (xs.getD j []) (C3 0 L)),m j⟩)
  (h9:Uf st (mv.map (Ih f)) (Ig (Ih f) (m 0)) (Ig (Ih f) (m N)) (K jm.ex)):W2 P GL (.rf n og ps a b) K st:=
 ⟨gf,caps,Nat,0,_,_,hg,ku,hq.g,f,L,fun j=>m (min j N),mv,fun j=>if N<=j then jm else .none,by
  show(if N<=0 then jm else Jm.none)=.none;split
  ·cases hj:jm with
   |none=>rfl
   |_=>have:=h1.2.2 (by rw[hj];simp);omega
  ·rfl,h2,fun j=>by have q:=h3 _ (Nat.min_le_right j N);exact⟨q.1,q.2.1,q.2.2.1,by simp only[Nat.zero_min];exact q.2.2.2⟩,h4,h5,h6,by simp only[Nat.zero_min];exact h7,fun j x j' ⟨hx1,hx2,hx3⟩ hj=>by
   have hjN:j<N:=by grind
   subst hx2;subst hx3;have e1:min j N=j:=by omega
   have e2:min (j+1) N=j+1:=by omega
   have e3:(if N<=j+1 then jm else Jm.none)=if j+1=N then jm else .none:=by grind
   simp only[e1,e2,e3];exact⟨(h8 j hjN).1,DK a (h8 j hjN).2 fun e s hs=>by
    cases e with
    |normal=>exact .inl hs
    |_=>exact hs⟩,fun j hj=>by
   have hjN:N<=j:=by grind
   simp only[if_pos hjN,Nat.zero_min,Nat.min_eq_right hjN];exact h9⟩
theorem My{mv:List Nat}:∀{l:List (Nat×Blk)},Dq (l.map (·.1))=true->∀s,(∀m b,Ac l m=some b->Ac s m=some b)->Bl l s
 |[],_,s,_=>trivial
 |(k,b)::r,h,s,hs=>by obtain⟨h1,h2⟩:=P8 h;refine⟨hs k b (by simp[Ac]),My (mv:=mv) h2 s fun m c hm=>hs m c ?_⟩;grind[Ac,BX,names]
def QG(l:List (Nat×Blk)):Bool:=(l.map (·.1)).all (fun q=>Nat.blt q 5000)&&Dq (l.map (·.1))&&l.all fun p=>Pq l p.2.nms
theorem cu{c:Cp}(h:∀q∈c.nms,q<5000)(hn:5000<=nm):YN nm (.iter none []) c=c:=by
 cases c with
 |ref r=>simp only[YN,Sj];rw[if_neg];have:=h r.nm (by simp[Cp.nms]);omega
 |_=>rfl
theorem U6{l:List Cp}(h:∀q∈l.flatMap Cp.nms,q<5000)(hn:5000<=nm):l.map (YN nm (.iter none []))=l:=by
 conv=>rhs;rw[<-List.map_id l]
 exact List.map_congr_left fun c hc=>cu (fun q hq=>h q (List.mem_flatMap.2 ⟨c,hc,hq⟩)) hn
theorem QH{d:D}(h:∀q∈d.nms,q<5000)(hn:5000<=nm):Pp nm (.iter none []) d=d:=by
 cases d with
 |ref r=>have:=h r.nm (by simp[D.nms]);simp only[Pp,Sj];rw[if_neg (by omega)];rfl
 |fn f x y=>simp_all[D.nms,Pp,U6]
 |tup cs=>simp only[Pp];rw[U6 h hn]
 |_=>rfl
theorem U7{d:D}(h:∀q∈d.nms,q<5000):∀{l:List Nat},(∀nm∈l,5000<=nm)->KF l d=d
 |[],_=>rfl
 |nm::r,hl=>by simp only[KF];rw[QH h (hl nm List.mem_cons_self)];exact U7 h fun q hq=>hl q (List.mem_cons_of_mem _ hq)
theorem cv(h:∀q∈b.nms,q<5000)(hn:5000<=nm):YO nm (.iter none []) b=b:=by
 have go:∀l:List D,(∀q∈l.flatMap D.nms,q<5000)->l.map (Pp nm (.iter none []))=l:=fun l hl=>by
  conv=>rhs;rw[<-List.map_id l]
  exact List.map_congr_left fun c hc=>QH (fun q hq=>hl q (List.mem_flatMap.2 ⟨c,hc,hq⟩)) hn
 cases b with
 |cells cs=>simp only[YO];rw[go cs h]
 |lp l q cs=>simp only[YO];rw[go cs h]
 |gmap ls clk es=>
  simp only[YO];congr 1
  conv=>rhs;rw[<-List.map_id es]
  exact List.map_congr_left fun e he=>by simp only[id_eq];rw[QH (fun q hq=>h q (List.mem_flatMap.2 ⟨e,he,hq⟩)) hn]
 |_=>rfl
theorem U8{b:Blk}(h:∀q∈b.nms,q<5000):∀{l:List Nat},(∀nm∈l,5000<=nm)->LO l b=b
 |[],_=>rfl
 |nm::r,hl=>by simp only[LO];rw[cv h (hl nm List.mem_cons_self)];exact U8 h fun q hq=>hl q (List.mem_cons_of_mem _ hq)
theorem GH(h:Pu mv l=true):∀q,names l q->5000<=q/\q<6000:=fun q hq=>by simp only[Pu,Bool.and_eq_true,List.all_eq_true]at h;have:=h.1.1 q (BX.2 hq);simp only[Bool.or_eq_true,Bool.and_eq_true,Nat.ble_eq,Nat.blt_eq]at this;omega
theorem U9{d:Nat}(hd:d<1000){x:D}(h:∀q∈x.nms,5000<=q/\q<6000):Ca d x=x:=by
 have rn:∀q,5000<=q/\q<6000->ren d q=q:=fun q hq=>by grind[ren]
 have rR:∀r:Ref,5000<=r.nm/\r.nm<6000->G7 d r=r:=fun r hr=>by cases r<;>simp only[Ref.nm]at hr<;>simp only[G7,rn _ hr]
 have rC:∀c:Cp,(∀q∈c.nms,5000<=q/\q<6000)->G8 d c=c:=fun c hc=>by
  cases c with
  |ref r=>simp only[G8];rw[rR r (hc r.nm (by simp[Cp.nms]))]
  |_=>rfl
 have rCs:∀l:List Cp,(∀q∈l.flatMap Cp.nms,5000<=q/\q<6000)->l.map (G8 d)=l:=fun l hl=>by
  conv=>rhs;rw[<-List.map_id l]
  exact List.map_congr_left fun c hc=>rC c fun q hq=>hl q (List.mem_flatMap.2 ⟨c,hc,hq⟩)
 cases x with
 |ref r=>simp only[Ca];rw[rR r (h r.nm (by simp[D.nms]))]
 |fn f x y=>simp only[D.nms,List.mem_append]at h;simp only[Ca];rw[rCs x (fun q hq=>h q (.inl hq)),rCs y (fun q hq=>h q (.inr hq))]
 |tup cs=>simp only[Ca];rw[rCs cs h]
 |_=>rfl
theorem cw{d:Nat}(hd:d<1000){b:Blk}(h:∀q∈b.nms,5000<=q/\q<6000):Do d b=b:=by
 have go:∀l:List D,(∀q∈l.flatMap D.nms,5000<=q/\q<6000)->l.map (Ca d)=l:=fun l hl=>by
  conv=>rhs;rw[<-List.map_id l]
  exact List.map_congr_left fun c hc=>U9 hd fun q hq=>hl q (List.mem_flatMap.2 ⟨c,hc,hq⟩)
 cases b with
 |cells cs=>simp only[Do];rw[go cs h]
 |lp l q cs=>simp only[Do];rw[go cs h]
 |gmap ls clk es=>
  simp only[Do];congr 1
  conv=>rhs;rw[<-List.map_id es]
  exact List.map_congr_left fun e he=>by simp only[id_eq];rw[U9 hd (fun q hq=>h q (List.mem_flatMap.2 ⟨e,he,hq⟩))]
 |_=>rfl
theorem Va{d:Nat}(hd:d<1000):∀{l:List (Nat×Blk)},(∀p∈l,(5000<=p.1/\p.1<6000)/\∀q∈p.2.nms,5000<=q/\q<6000)->AY d l=l
 |[],_=>rfl
 |(k,b)::r,h=>by simp only[AY];have h0:=h _ List.mem_cons_self;simp only at h0;rw[cw hd h0.2,Va hd fun p hp=>h p (List.mem_cons_of_mem _ hp)];grind[ren]
theorem QI{T:List (Nat×Blk)}(h:Ps T l=true):∀p∈l,∀q∈p.2.nms,names T q:=by
 induction l with
 |nil=>intro p hp;simp at hp
 |cons x r ih=>obtain⟨k,b⟩:=x;simp only[Ps,Bool.and_eq_true]at h;intro p hp q hq;grind[DZ]
theorem cx(h:Pu mv l=true){d:Nat}(hd:d<1000):AY d l=l:=by refine Va hd fun p hp=>⟨GH h p.1 (BX.1 (List.mem_map.2 ⟨p,hp,rfl⟩)),fun q hq=>GH h q (QI (Ep h) p hp q hq)⟩
theorem Vb{r:List (Nat×Blk)}{m:Nat}(h:Ac l m=none):Ac (l++r) m=Ac r m:=by rw[Il,h]
theorem QJ{mk:List (Nat×Blk)}{get:St->Option (FuncId×List D)}{E0:Env}{own mj:List (Nat×Blk)}{d:Option Nat}{K:St->Prop}{y:FuncId}{xs:List I}{r0:I}(hy:MC P GL y (xs.map .i) mj mv (fun r s=>r=.i r0/\s=mk))(hd:∀s,d=some s->s<999)
  (jv:get ⟨E0,own++mj⟩=some (y,xs.map .i))(hj:Pu mv mj=true)(hk:Pu mv mk=true)(hn:mk.map (·.1)=mj.map (·.1))(hV:vS mv=true)(ho:QG own=true)(ks:List Nat){E:List (Nat×D)}(hE:C6 E0 ks=E)(hl:(E.all fun p=>Pq own p.2.nms)=true)
  (k:K (putO ⟨.l E,own++mk⟩ d (.i r0))):Ah P GL get ⟨E0,own++mj⟩ d K:=by
 have hd9:d.getD 999<1000:=by
  cases d with
  |none=>simp
  |some s=>have:=hd s rfl;simp only[Option.getD_some];omega
 simp only[QG,Bool.and_eq_true]at ho;obtain⟨⟨ho1,ho2⟩,ho3⟩:=ho;have olow:∀q,names own q->q<5000:=fun q hq=>by rw[List.all_eq_true]at ho1;have:=ho1 q (BX.2 hq);simpa using this
 have dis:∀q,names own q->Ac mj q=none:=fun q hq=>by
  cases hg:Ac mj q with
  |none=>rfl
  |some b=>have:=GH hj q (by simp[names,hg]);have:=olow q hq;omega
 have dis':∀q,names mj q->Ac own q=none:=fun q hq=>by
  cases hg:Ac own q with
  |none=>rfl
  |some b=>have:=GH hj q hq;have:=olow q (by simp[names,hg]);omega
 have dis2:∀q,names mk q->Ac own q=none:=fun q hq=>by
  cases hg:Ac own q with
  |none=>rfl
  |some b=>have:=GH hk q hq;have:=olow q (by simp[names,hg]);omega
 have okn:∀{l:List (Nat×Blk)},Pu mv l=true->Dq (l.map (·.1))=true:=fun h=>by simp only[Pu,Bool.and_eq_true]at h;exact h.2
 refine⟨[],?_⟩;show match get ⟨E0,own++mj⟩with|some (f,ds)=>_|none=>False
 rw[jv];refine .inr (.inr ⟨mj,mv,_,hy,?_,Ep hj,?_,?_,?_⟩)
 ·refine My (mv:=mv) (okn hj) _ fun m b hm=>?_
  show Ac (own++mj) m=some b;rw[Vb (dis' m (by simp[names,hm]))];exact hm
 ·rw[List.all_eq_true];intro x hx;obtain⟨z,_,rfl⟩:=List.mem_map.1 hx;rfl
 ·rw[List.all_eq_true];intro q hq;unfold vS at hV;rw[List.all_eq_true]at hV;have:=hV q hq;simp only[Bool.and_eq_true,Nat.ble_eq,Nat.blt_eq]at this;simp only[Bool.or_eq_true,Nat.blt_eq,Nat.ble_eq];omega
 ·rintro r s ⟨rfl,hs⟩;have hs:=hs.symm;subst hs;have hren:=cx hk hd9;refine⟨fun nm hm=>?_,fun nm hm _=>?_,r0,⟨.l E,own++mk⟩,rfl,?_,k⟩
  ·rw[hren,hn]at hm;exact .inl (BX.1 hm)
  ·have h1:=GH hj nm (BX.1 hm);unfold ren;rw[if_neg (by omega),if_neg (by omega),if_neg (by omega),if_neg (by omega)]
  ·have hgone:∀q∈Hb mj mk mv,5000<=q:=fun q hq=>by unfold Hb at hq;exact(GH hj q (BX.1 (List.mem_filter.1 hq).1)).1
   have hap:∀q,names own q->names (own++mk) q:=fun q hq=>by obtain⟨b,hb⟩:=Option.isSome_iff_exists.1 hq;simp only[names,Il,hb,Option.isSome_some]
   have hap2:∀q,names mk q->names (own++mk) q:=fun q hq=>by simp only[names,Vb (dis2 q hq)];exact hq
   simp only[C0,hren,frzNs];refine⟨?_,?_,?_,?_⟩
   ·subst hE;clear k
    induction ks with
    |nil=>trivial
    |cons s r ih=>simp only[C6,List.all_cons,Bool.and_eq_true]at hl;refine⟨?_,ih hl.2⟩;rw[Px];exact U7 (fun q hq=>olow q (DZ hl.1 q hq)) hgone
   ·refine My (mv:=mv) ?_ _ fun m b hm=>?_
    ·have h1:∀x∈own.map (·.1),x∉mk.map (·.1):=fun x hx hx'=>by have:=dis2 x (BX.1 hx');have:=BX.1 hx;simp_all[names]
     have nd:∀{l r:List Nat},Dq l=true->Dq r=true->(∀x∈l,x∉r)->Dq (l++r)=true:=fun{l r}=>by
      induction l with
      |nil=>intro _ h _;exact h
      |cons a l ih=>
       intro ha hb hc;obtain⟨a1,a2⟩:=P8 ha;simp only[List.cons_append,Dq,Bool.and_eq_true,Bool.not_eq_true'];refine⟨?_,ih a2 hb fun x hx=>hc x (List.mem_cons_of_mem _ hx)⟩;cases hcc:(l++r).contains a with
       |false=>rfl
       |true=>
        rcases List.mem_append.1 (List.contains_iff_mem.1 hcc)with q|q
        ·exact(a1 q).elim
        ·exact(hc a List.mem_cons_self q).elim
     rw[List.map_append];exact nd ho2 (okn hk) h1
    ·rw[Il]at hm⊢;cases ho:Ac own m with
     |some c=>
      rw[ho]at hm;cases hm;have hno:names own m:=by simp[names,ho]
      have vn:Ac mk m=none:=by
       cases hg:Ac mk m with
       |none=>rfl
       |some b'=>have:=dis2 m (by simp[names,hg]);rw[this]at ho;cases ho
      rw[vn];simp only;rw[Nz,NA,if_neg (fun hc=>by have:=dis' m (BX.1 hc);rw[this]at ho;cases ho),Il,ho]
      simp only[Option.map_some,Option.some.injEq];refine U8 (fun q hq=>olow q ?_) hgone;rw[List.all_eq_true]at ho3;have kh:∃p∈own,p.2=b:=by
       clear hl hE jv k ho1 ho2 ho3 olow dis dis' dis2 hap hap2 hno
       induction own with
       |nil=>cases ho
       |cons x r ih=>
        obtain⟨k0,b0⟩:=x;simp only[Ac]at ho;split at ho
        ·cases ho;exact⟨_,List.mem_cons_self,rfl⟩
        ·obtain⟨p,hp,e⟩:=ih ho;exact⟨p,List.mem_cons_of_mem _ hp,e⟩
      obtain⟨p,hp,rfl⟩:=kh;exact DZ (ho3 p hp) q hq
     |none=>rw[ho]at hm;simp only at hm;rw[hm]
   ·have go:∀l:List (Nat×D),(l.all fun p=>Pq own p.2.nms)=true->rH (own++mk) l=true:=fun l=>by
     induction l with
     |nil=>intro _;rfl
     |cons x l ih=>obtain⟨s,z⟩:=x;intro h;simp only[List.all_cons,Bool.and_eq_true]at h;simp only[rH,Bool.and_eq_true];refine⟨?_,ih h.2⟩;simp only[Pq,List.all_eq_true];intro q hq;exact hap q (DZ h.1 q hq)
    exact go E hl
   ·have go:∀l:List (Nat×Blk),(∀p∈l,∀q∈p.2.nms,names (own++mk) q)->Ps (own++mk) l=true:=fun l=>by
     induction l with
     |nil=>intro _;rfl
     |cons x l ih=>obtain⟨s,z⟩:=x;intro h;simp only[Ps,Bool.and_eq_true];refine⟨?_,ih fun p hp=>h p (List.mem_cons_of_mem _ hp)⟩;simp only[Pq,List.all_eq_true];intro q hq;exact h _ List.mem_cons_self q hq
    refine go _ fun p hp q hq=>?_
    rcases List.mem_append.1 hp with hp|hp
    ·rw[List.all_eq_true]at ho3;exact hap q (DZ (ho3 p hp) q hq)
    ·exact hap2 q (QI (Ep hk) p hp q hq)
theorem HG:names ((nm,b)::sto)=names ((nm,b')::sto):=by grind[names,Ac]
theorem StoOk.conv{S:Nat->Prop}{M:Mem}(h:StoOk S M μ ((nm,b)::sto) w)(hb:AI S M μ (names ((nm,b)::sto)) w nm b->AI S M μ (names ((nm,b)::sto)) w nm b'):StoOk S M μ ((nm,b')::sto) w where
 sub:=h.sub
 blk:=fun m x hx=>by
  rw[<-HG (b:=b)];simp only[Ac]at hx;by_cases e:nm=m
  ·subst e;rw[if_pos rfl]at hx;cases hx;exact hb (h.blk nm b (by simp[Ac]))
  ·rw[if_neg e]at hx;exact h.blk m x (by simp only[Ac];rw[if_neg e];exact hx)
 sep:=fun m m' k k' jh h1 h2=>h.sep m m' k k' jh (by rw[HG (b':=b')];exact h1) (by rw[HG (b':=b')];exact h2)
 low:=h.low
theorem Ok:AH μ ((nm,b)::sto) w=AH μ ((nm,b')::sto) w:=by unfold AH;rw[HG (b':=b')]
theorem cz{e k:Nat}{rs:List (List I)}(h:∀c,MC P GL f args ((nm,.arr e k (rs.map some++List.replicate c none))::sto) mv R):
  MC P GL f args ((nm,.rows e k rs)::sto) mv R:=by
 intro M μ w vs kp vz j7;obtain⟨a,cap,hμ,hh⟩:=kp.blk nm (.rows e k rs) (by simp[Ac]);have hrc:rs.length<=cap:=by grind
 have hl:(rs.map some++List.replicate (cap-rs.length) (none:Option (List I))).length=cap:=by simp;omega
 have h1:=kp.conv (b':=.arr e k (rs.map some++List.replicate (cap-rs.length) none)) fun _=>⟨a,by rw[hl];exact hμ,by
  rcases hh with⟨rfl,rfl⟩|⟨b,o,cur,rfl,hc,ho,q1,q2,q3,q4⟩
  ·exact .inl rfl
  ·refine .inr ⟨b,o,cur,rfl,fun e=>by rw[e]at hl;simp at hl;omega,ho,by rw[hl];exact q1,by rw[hl];exact q2,fun i r hr=>?_⟩;by_cases hi:i<rs.length
   ·rw[List.getElem?_append_left (by simpa using hi)]at hr;exact NM.1 q4 i r hr
   ·rw[List.getElem?_append_right (by simpa using hi),List.getElem?_replicate]at hr;split at hr<;>cases hr⟩
 have:=h (cap-rs.length) M μ w vs (by rw[Ok (b':=.rows e k rs)];exact h1) vz (by rw[HG (b':=.rows e k rs)];exact j7);rw[Ok (b':=.rows e k rs),HG (b':=.rows e k rs)]at this;exact this
theorem AI.rowsOf{S:Nat->Prop}{M:Mem}{N:Nat->Prop}{e k:Nat}{rows:List (List I)}{j:List (Option (List I))}(hb:AI S M μ N w nm (.arr e k (rows.map some++j))):AI S M μ N w nm (.rows e k rows):=by
 obtain⟨a,hμ,hh⟩:=hb;refine⟨a,_,hμ,?_⟩;rcases hh with hh|⟨b,o,cur,rfl,jh,ho,q1,q2,q3⟩
 ·have h1:=congrArg List.length hh;simp at h1;exact .inl ⟨by simp[h1.1,h1.2],h1.1⟩
 ·refine .inr ⟨b,o,cur,rfl,by cases hx:(rows.map some++j)<;>simp_all,ho,q1,q2,by simp,NM.2 fun i r hr=>?_⟩;have hi:i<rows.length:=by have:=(List.getElem?_eq_some_iff.1 hr).1;simpa using this
  exact q3 i r (by rw[List.getElem?_append_left (by simpa using hi)];exact hr)
theorem MC.arrIn{e k:Nat}{rs:List (List I)}(h:MC P GL f args ((nm,.rows e k rs)::sto) mv R)(j:List (Option (List I))):
  MC P GL f args ((nm,.arr e k (rs.map some++j))::sto) mv R:=by
 intro M μ w vs kp vz j7;have h1:=kp.conv (b':=.rows e k rs) AI.rowsOf
 have:=h M μ w vs (by rw[Ok (b':=.arr e k (rs.map some++j))];exact h1) vz (by rw[HG (b':=.arr e k (rs.map some++j))];exact j7);rw[Ok (b':=.arr e k (rs.map some++j)),HG (b':=.arr e k (rs.map some++j))]at this;exact this
theorem MC.rowsOut{R':D->List (Nat×Blk)->Prop}(h:MC P GL f args sto mv R)
  (hR:∀r s,R r s->∃nm e k rows j s0,s=(nm,Blk.arr e k (List.map some rows++j))::s0/\R' r ((nm,.rows e k rows)::s0)):MC P GL f args sto mv R':=by
 intro M μ w vs kp vz j7;refine(h M μ w vs kp vz j7).mono ?_;rintro v w' ⟨r,s,M',μ',hr,q1,q2,q3⟩;obtain⟨nm,e,k,rows,j,s0,rfl,wb⟩:=hR r s hr;exact⟨r,_,M',μ',wb,q1.conv AI.rowsOf,by rw[HG (b':=.arr e k (rows.map some++j))];exact q2,q3⟩
end
end Go.Dl
