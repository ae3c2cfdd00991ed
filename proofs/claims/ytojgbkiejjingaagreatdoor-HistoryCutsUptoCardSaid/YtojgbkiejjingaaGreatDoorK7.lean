/-
  Lemmas, no statement.
-/
import Derived.Test.YtojgbkiejjingaaGreatDoorK6
set_option linter.all false
namespace Go.Dl
open Go Go.RowKit
variable{t e:TypeId}{N:Nat->Prop}
theorem PA(s:List UInt8):(BR s).toList=s:=by rw[ByteArray.toList_eq]<;>rfl
theorem SC(s:List UInt8):(BR s).size=s.length:=rfl
theorem Zn(s t:List UInt8):BR s++BR t=BR (s++t):=by rfl
section
variable {P:Program}{GL:List (Nat×List I)}{n:Nat}{S:Sh}{M:Mem}{μ:Place}{st:St}{a:Act}{w:World}{K:St->Prop}{Q:Exit->Act->World->Prop}{o:Oper}{d:Nat}
theorem SD(h:Rel GL n S M μ st a w){op:BinOp}{t t':TypeId}{x y:Operand}{ox oy:O}(ho:o.op=.binOp op t x y t')(hd:o.dst=some d)(hn:d<n)
  (hx:cO GL x=some ox)(hy:cO GL y=some oy)(hs:step P GL (.bin d op ox oy) st K):o.wpX P a w (Ar GL n S M w K) Q:=by
 have hr:=AB h hx;have wb:=AB h hy;simp only[step,Io]at hs;split at hs
 ·rename_i u v e1 e2;rw[e1]at hr;rw[e2]at wb;have hr:=AK hr;have wb:=AK wb;obtain⟨kc,hs⟩:=hs;obtain⟨k,i,k',j,rfl,rfl⟩|⟨s1,s2,rfl,rfl⟩:(∃k i k' j,u=.int k i/\v=.int k' j)\/(∃s1 s2,u=.str s1/\v=.str s2):=by cases u<;>cases v<;>first|exact kc.elim|exact .inl ⟨_,_,_,_,rfl,rfl⟩|exact .inr ⟨_,_,rfl,rfl⟩
  ·clear e1 e2;obtain⟨rfl,kc⟩:=kc;have e3:=CC hr;have e4:=CC wb;have hg:(eqGuard op t x y (.int k i) (.int k j)).run P w=.ok () w:=by cases op<;>simp[eqGuard]
   have qh:∀V,(binOp op t (.int k i) (.int k j)).run P w=.ok V w->(execOp a.eval o).run P w=.ok (.value V) w:=fun V hV=>by simp only[execOp,ho,e3,e4,Sem.run_bind,hg,hV,Result.andThen_ok,Sem.run_pure]
   cases op<;>simp only[B3,Sv]at hs<;>first
    |exact kc.elim
    |(refine A2 h hd hn (qh _ ?_) (AG (.int _ _)) hs
      simp[binOp,Op.intArith,Op.intDiv,Op.intBits,kc])
    |(refine A2 h hd hn (qh _ ?_) (AG (.bool _)) hs
      simp[binOp,Op.intCmp])
  ·have e3:=FJ hr;have e4:=FJ wb;have hg:(eqGuard op t x y (.string (BR s1)) (.string (BR s2))).run P w=.ok () w:=by cases op<;>simp[eqGuard]
   have qh:∀V,(binOp op t (.string (BR s1)) (.string (BR s2))).run P w=.ok V w->(execOp a.eval o).run P w=.ok (.value V) w:=fun V hV=>by simp only[execOp,ho,e3,e4,Sem.run_bind,hg,hV,Result.andThen_ok,Sem.run_pure]
   cases op<;>simp only[B3]at hs<;>first
    |exact kc.elim
    |(refine A2 h hd hn (qh _ ?_) (AG (.bool _)) hs
      simp[binOp,Op.stringOp,PA])
    |(refine A2 h hd hn (qh _ ?_) (AG (.str _)) hs
      have hok':s1.length+s2.length<=9223372036854775807:=kc;have:¬((9223372036854775807:Int)<(s1.length:Int)+(s2.length:Int)):=by omega
      simp[binOp,Op.stringOp,SC,this,Zn])
 ·exact hs.elim
theorem SE(h:Rel GL n S M μ st a w){op:BinOp}(xg:op=.shl\/op=.shr){t t':TypeId}{x y:Operand}{ox oy:O}(ho:o.op=.binOp op t x y t')(hd:o.dst=some d)(hn:d<n)
  (hx:cO GL x=some ox)(hy:cO GL y=some oy)(hs:step P GL (.sh d op ox oy) st K):o.wpX P a w (Ar GL n S M w K) Q:=by
 have hr:=AB h hx;have wb:=AB h hy;simp only[step,rV]at hs;split at hs
 ·rename_i k i k' j e1 e2;rw[e1]at hr;rw[e2]at wb;have e3:=CC (AK hr);have e4:=CC (AK wb);obtain⟨hb,hs⟩:=hs;have hg:(eqGuard op t x y (.int k i) (.int k' j)).run P w=.ok () w:=by rcases xg with rfl|rfl<;>simp[eqGuard]
  have hnb:¬j<0:=by omega
  rcases xg with rfl|rfl
  ·refine A2 h hd hn (v:=.int k (k.wrap (i*2 ^ (Nat.min j.toNat k.bits)))) ?_ (AG (.int _ _)) hs;simp only[execOp,ho,e3,e4,Sem.run_bind,hg,Result.andThen_ok,binOp,Op.shift,if_neg hnb,Sem.run_pure]
   try rfl
  ·refine A2 h hd hn (v:=.int k (i.fdiv (2 ^ (Nat.min j.toNat k.bits)))) ?_ (AG (.int _ _)) hs;simp only[execOp,ho,e3,e4,Sem.run_bind,hg,Result.andThen_ok,binOp,Op.shift,if_neg hnb,Sem.run_pure]
   try rfl
 ·exact hs.elim
theorem SF(h:Rel GL n S M μ st a w){neg:Bool}{t t':TypeId}{x y:Operand}{ox oy:O}(ho:o.op=.binOp (if neg then .neq else .eql) t x y t')(hd:o.dst=some d)(hn:d<n)
  (hx:cO GL x=some ox)(hy:cO GL y=some oy)(hu:P.underlying t=some .bool)(hs:step P GL (.eqb d neg ox oy) st K):o.wpX P a w (Ar GL n S M w K) Q:=by
 have hr:=AB h hx;have wb:=AB h hy;simp only[step,Hf]at hs;split at hs
 ·rename_i u v e1 e2;rw[e1]at hr;rw[e2]at wb;have e3:=E6 (AK hr);have e4:=E6 (AK wb);refine A2 h hd hn ?_ (AG (.bool _)) hs;cases neg<;>simp only[Bool.false_eq_true,if_true,if_false]at ho⊢
  ·have hg:(eqGuard .eql t x y (.bool u) (.bool v)).run P w=.ok () w:=by simp[eqGuard]
   simp only[execOp,ho,e3,e4,Sem.run_bind,hg,Result.andThen_ok,run_eql_bool w t u v hu,Sem.run_pure]
  ·have hg:(eqGuard .neq t x y (.bool u) (.bool v)).run P w=.ok () w:=by simp[eqGuard]
   simp only[execOp,ho,e3,e4,Sem.run_bind,hg,Result.andThen_ok,run_neq_bool w t u v hu,Sem.run_pure]
 ·exact hs.elim
theorem Zo(hu:P.underlying t=some (.slice e))(a:Option Addr)(l c:Nat):(Op.equal t (.slice a l c) (.slice none 0 0)).run P w=.ok a.isNone w:=by
 have h:∀q:Nat,(Op.equalIn (q+1) t (.slice a l c) (.slice none 0 0)).run P w=.ok a.isNone w:=fun q=>by cases a<;>simp[Op.equalIn,run_underlying hu]
 exact h 9999
theorem Zp{k:TypeId}(hu:P.underlying t=some (.map k e))(a:Option Nat):(Op.equal t (.map a) (.map none)).run P w=.ok a.isNone w:=by
 have h:∀q:Nat,(Op.equalIn (q+1) t (.map a) (.map none)).run P w=.ok a.isNone w:=fun q=>by cases a<;>simp[Op.equalIn,run_underlying hu]
 exact h 9999
theorem Zq(hu:P.underlying t=some (.pointer e))(a:Option Addr):(Op.equal t (.pointer a) (.pointer none)).run P w=.ok a.isNone w:=by
 have h:∀q:Nat,(Op.equalIn (q+1) t (.pointer a) (.pointer none)).run P w=.ok a.isNone w:=fun q=>by cases a<;>simp[Op.equalIn,run_underlying hu]
 exact h 9999
theorem SG{ps rs:Array TypeId}{vr:Bool}(hu:P.underlying t=some (.func ps rs vr))(f:Fn)(x y:Array Value):(Op.equal t (.func f x y) .nilFunc).run P w=.ok false w:=by
 have h:∀q:Nat,(Op.equalIn (q+1) t (.func f x y) .nilFunc).run P w=.ok false w:=fun q=>by simp[Op.equalIn,run_underlying hu]
 exact h 9999
theorem Zr{ps rs:Array TypeId}{vr:Bool}(hu:P.underlying t=some (.func ps rs vr)):(Op.equal t .nilFunc .nilFunc).run P w=.ok true w:=by
 have h:∀q:Nat,(Op.equalIn (q+1) t .nilFunc .nilFunc).run P w=.ok true w:=fun q=>by simp[Op.equalIn,run_underlying hu]
 exact h 9999
def PB(dsc:TypeDesc)(y:Operand):Option NK:=match dsc,y with
 |.slice _,.const (.slice none 0 0)=>some .sl
 |.map _ _,.const (.map none)=>some .mp
 |.func _ _ _,.const .nilFunc=>some .fn
 |.pointer _,.const (.pointer none)=>some .pt
 |_,_=>none
theorem Zs{neg:Bool}{t':TypeId}{x y:Operand}(ho:o.op=.binOp (if neg then .neq else .eql) t x y t'){X Y:Value}(hX:a.eval x=X)(hY:a.eval y=Y){b:Bool}(hv:(Op.equal t X Y).run P w=.ok b w)
  (hyk:Y=.slice none 0 0\/Y=.map none\/Y=.nilFunc\/Y=.pointer none)(k1:∀i k,X≠.int i k)(k2:∀cs,X≠.agg cs)(k3:X≠.nilIface):(execOp a.eval o).run P w=.ok (.value (.bool (b !=neg))) w:=by
 have hg:∀op:BinOp,(eqGuard op t x y X Y).run P w=.ok () w:=fun op=>by unfold eqGuard;simp_all
 cases neg<;>simp only[Bool.false_eq_true,if_true,if_false]at ho
 ·have hb:(binOp .eql t X Y).run P w=.ok (.bool b) w:=by
   have:binOp .eql t X Y=(do pure (.bool (<-Op.equal t X Y)):Sem Value):=by cases X<;>rcases hyk with rfl|rfl|rfl|rfl<;>first|rfl|(exact absurd rfl (k1 _ _))
   simp_all
  simp only[execOp,ho,hX,hY,Sem.run_bind,hg,hb,Result.andThen_ok,Sem.run_pure];cases b<;>rfl
 ·have hb:(binOp .neq t X Y).run P w=.ok (.bool (!b)) w:=by
   have:binOp .neq t X Y=(do pure (.bool (!(<-Op.equal t X Y))):Sem Value):=by cases X<;>rcases hyk with rfl|rfl|rfl|rfl<;>first|rfl|(exact absurd rfl (k1 _ _))
   simp_all
  simp only[execOp,ho,hX,hY,Sem.run_bind,hg,hb,Result.andThen_ok,Sem.run_pure];cases b<;>rfl
theorem SH(h:Rel GL n S M μ st a w){neg:Bool}{t t':TypeId}{x y:Operand}{ox:O}{dsc:TypeDesc}{q:NK}(ho:o.op=.binOp (if neg then .neq else .eql) t x y t')(hd:o.dst=some d)(hn:d<n)
  (hx:cO GL x=some ox)(hu:P.underlying t=some dsc)(hy:PB dsc y=some q)(hs:step P GL (.isnil d q neg ox) st K):o.wpX P a w (Ar GL n S M w K) Q:=by
 have hr:=AB h hx;simp only[step]at hs;generalize AL GL st ox=V at hr hs;generalize hX:a.eval x=X at hr;have put:∀{b:Bool} {Y:Value},a.eval y=Y->(Op.equal t X Y).run P w=.ok b w->(Y=.slice none 0 0\/Y=.map none\/Y=.nilFunc\/Y=.pointer none)->(∀i k,X≠.int i k)->(∀cs,X≠.agg cs)->X≠.nilIface->
   K (st.put d (.i (.bool (b !=neg))))->o.wpX P a w (Ar GL n S M w K) Q:=fun hY hv hyk k1 k2 k3 hk=>A2 h hd hn (Zs ho hX hY hv hyk k1 k2 k3) (AG (.bool _)) hk
 unfold PB at hy;split at hy<;>cases hy
 ·
  have sl:∀aa l c,X=.slice aa l c->K (st.put d (.i (.bool (aa.isNone !=neg))))->o.wpX P a w (Ar GL n S M w K) Q:=fun aa l c e hk=>by subst e;exact put (Y:=.slice none 0 0) rfl (Zo hu aa l c) (.inl rfl) (fun _ _=>by simp) (fun _=>by simp) (by simp) hk
  cases V with
  |i z=>
   cases z with
   |sl rows=>
    have hr:=AK hr;cases rows with
    |nil=>
     simp only[B4,Gn]at hs;cases hr with
     |slnil=>exact sl _ _ _ rfl (hs _)
     |slempty=>exact sl _ _ _ rfl (hs _)
     |sl=>exact sl _ _ _ rfl (hs _)
    |cons r rs=>
     simp only[B4,Gn]at hs;cases hr with
     |sl=>exact sl _ _ _ rfl hs
   |nilsl=>have hr:=AK hr;cases hr;exact sl _ _ _ rfl hs
   |_=>exact hs.elim
  |ref r=>
   cases r with
   |sl nm k lo hi=>
    simp only[B4,Gn]at hs;obtain⟨_,aa,cap,_,_,_,hh⟩:=hr;rcases hh with⟨_,a',rfl⟩|⟨_,_,_,rfl⟩
    ·exact sl _ _ _ rfl (hs _)
    ·exact sl _ _ _ rfl (hs _)
   |_=>exact hs.elim
  |_=>exact hs.elim
 ·have mp:∀aa,X=.map aa->K (st.put d (.i (.bool (aa.isNone !=neg))))->o.wpX P a w (Ar GL n S M w K) Q:=fun aa e hk=>by subst e;exact put (Y:=.map none) rfl (Zp hu aa) (.inr (.inl rfl)) (fun _ _=>by simp) (fun _=>by simp) (by simp) hk
  cases V with
  |i z=>
   cases z<;>simp only[B4,Gn]at hs
   ·have hr:=AK hr;cases hr;exact mp _ rfl hs
   ·have hr:=AK hr;cases hr;exact mp _ rfl hs
  |ref r=>cases r<;>simp only[B4,Gn]at hs;obtain⟨_,b,_,rfl⟩:=hr;exact mp _ rfl hs
  |_=>exact hs.elim
 ·cases V with
  |i z=>
   cases z<;>simp only[B4,Gn]at hs
   ·have hr:=AK hr;cases hr;exact put (Y:=.nilFunc) rfl (Zr hu) (.inr (.inr (.inl rfl))) (fun _ _=>by simp) (fun _=>by simp) (by simp) hs
   ·have hr:=AK hr;cases hr;exact put (Y:=.nilFunc) rfl (SG hu _ _ _) (.inr (.inr (.inl rfl))) (fun _ _=>by simp) (fun _=>by simp) (by simp) hs
  |fn f first caps=>simp only[B4,Gn]at hs;obtain⟨va,vb,rfl,_⟩:=hr;exact put (Y:=.nilFunc) rfl (SG hu _ _ _) (.inr (.inr (.inl rfl))) (fun _ _=>by simp) (fun _=>by simp) (by simp) hs
  |ref r=>cases r<;>exact hs.elim
  |any=>exact hs.elim
  |tup cs=>exact hs.elim
 ·have pt:∀aa,X=.pointer aa->K (st.put d (.i (.bool (aa.isNone !=neg))))->o.wpX P a w (Ar GL n S M w K) Q:=fun aa e hk=>by subst e;exact put (Y:=.pointer none) rfl (Zq hu aa) (.inr (.inr (.inr rfl))) (fun _ _=>by simp) (fun _=>by simp) (by simp) hk
  cases V with
  |i z=>
   cases z<;>simp only[B4,Gn]at hs
   ·have hr:=AK hr;cases hr;exact pt _ rfl hs
   ·have hr:=AK hr;cases hr;exact pt _ rfl hs
  |ref r=>
   cases r<;>simp only[B4,Gn]at hs
   ·obtain⟨_,b,_,rfl⟩:=hr;exact pt _ rfl hs
   ·obtain⟨_,b,_,_,_,_,rfl⟩:=hr;exact pt _ rfl hs
  |_=>exact hs.elim
theorem Zt(h:Rel GL n S M μ st a w){op:UnOp}{t:TypeId}{x:Operand}{ox:O}(ho:o.op=.unOp op t x)(hd:o.dst=some d)(hn:d<n)
  (hx:cO GL x=some ox)(hs:step P GL (.un d op ox) st K):o.wpX P a w (Ar GL n S M w K) Q:=by
 have hr:=AB h hx;simp only[step,rJ]at hs;split at hs
 ·rename_i u e1;rw[e1]at hr;have e3:=E6 (AK hr);exact A2 h hd hn (by simp[execOp,ho,e3,Op.unary]) (AG (.bool _)) hs
 ·rename_i k i e1;rw[e1]at hr;have e3:=CC (AK hr);exact A2 h hd hn (by simp[execOp,ho,e3,Op.unary,Op.intArith]) (AG (.int _ _)) hs
 ·exact hs.elim
theorem SI{b:Builtin}{x:Operand}{V:Value}(ho:o.op=.call {callee:=.builtin b,args:=#[x],argTypes:=#[t]})(hb:b=.len)
  (hv:(Builtin.len_ #[t] o.type #[a.eval x]).run P w=.ok V w):(execOp a.eval o).run P w=.ok (.value V) w:=by
 subst hb;simp only[execOp,ho,resolve,Sem.run_bind,Sem.run_pure,Result.andThen_ok,invoke,builtin,List.map_toArray,List.map_cons,List.map_nil,hv]
theorem Zu(h:Rel GL n S M μ st a w){t:TypeId}{x:Operand}{ox:O}(ho:o.op=.call {callee:=.builtin .len,args:=#[x],argTypes:=#[t]})(hd:o.dst=some d)(hn:d<n)
  (hx:cO GL x=some ox)(hu:P.underlying t=some .string)(hs:step P GL (.lens d ox) st K):o.wpX P a w (Ar GL n S M w K) Q:=by
 have hr:=AB h hx;simp only[step,Ir]at hs;split at hs
 ·rename_i s e1;rw[e1]at hr;have e3:=FJ (AK hr);refine A2 h hd hn (SI ho rfl ?_) (AG (.int .i64 s.length)) hs;rw[e3];simp[Builtin.len_,run_underlying hu w,goInt,SC]
 ·exact hs.elim
theorem Zv(h:Rel GL n S M μ st a w){t e:TypeId}{x:Operand}{ox:O}(ho:o.op=.call {callee:=.builtin .len,args:=#[x],argTypes:=#[t]})(hd:o.dst=some d)(hn:d<n)
  (hx:cO GL x=some ox)(hu:P.underlying t=some (.slice e))(hs:step P GL (.lenl d ox) st K):o.wpX P a w (Ar GL n S M w K) Q:=by
 have hr:=AB h hx;have qh:∀b l c,a.eval x=.slice b l c->(execOp a.eval o).run P w=.ok (.value (.int .i64 l)) w:=fun b l c e3=>by refine SI ho rfl ?_;rw[e3];simp[Builtin.len_,run_underlying hu w,goInt]
 simp only[step,Gp]at hs;split at hs
 ·rename_i rows e1;rw[e1]at hr;have hr:=AK hr;refine A2 h hd hn (v:=.int .i64 rows.length) ?_ (AG (.int .i64 rows.length)) hs;generalize hv:a.eval x=vx at hr;cases hr with
  |slnil=>exact qh _ _ _ hv
  |slempty=>exact qh _ _ _ hv
  |sl=>exact qh _ _ _ hv
 ·rename_i nm k lo hi e1;rw[e1]at hr;obtain⟨_,aa,cap,_,h1,h2,hh⟩:=hr;refine A2 h hd hn (v:=.int .i64 ((hi-lo:Nat):Int)) ?_ (AG (.int .i64 _)) hs;rcases hh with⟨rfl,a',e3⟩|⟨_,_,_,e3⟩
  ·have:hi-cap=0:=by omega
   rw[this];exact qh _ _ _ e3
  ·exact qh _ _ _ e3
 ·rename_i e1;rw[e1]at hr;have hr:=AK hr;generalize hv:a.eval x=vx at hr;cases hr;exact A2 h hd hn (v:=.int .i64 0) (qh _ _ _ hv) (AG (.int .i64 0)) hs
 ·exact hs.elim
theorem Zw(h:Rel GL n S M μ st a w){x:Operand}{ox:O}{i:Nat}(ho:o.op=.extract x i)(hd:o.dst=some d)(hn:d<n)
  (hx:cO GL x=some ox)(hs:step P GL (.ext d ox i) st K):o.wpX P a w (Ar GL n S M w K) Q:=by
 have hr:=AB h hx;simp only[step,Gq]at hs;split at hs
 ·rename_i vs e1;rw[e1]at hr;obtain⟨us,e3,hl⟩:=(AK hr).tup_inv;obtain⟨hi,hs⟩:=hs;have ja:i<us.size:=by have:=hl.1;simp at this;omega
  have e:vs.getD i .undef=vs[i]:=by grind
  rw[e]at hs;refine A2 h hd hn (v:=us[i]) ?_ (AG ?_) hs
  ·simp[execOp,ho,e3,Instr.extract,ja]
  ·have:=hl.2 i hi (by simpa using ja);simpa using this
 ·rename_i cs e1;rw[e1]at hr;obtain⟨us,e3,hl⟩:=hr;obtain⟨hi,hs⟩:=hs;have ja:i<us.size:=by have:=hl.1;simp at this;omega
  have e:cs.getD i .any=cs[i]:=by grind
  rw[e]at hs;refine A2 h hd hn (v:=us[i]) ?_ ?_ hs
  ·simp[execOp,ho,e3,Instr.extract,ja]
  ·have:=(hl.2 i hi (by simpa using ja)).toD;simpa using this
 ·exact hs.elim
theorem SJ(h:Rel GL n S M μ st a w){mx:Bool}{t t':TypeId}{x y:Operand}{ox oy:O}(ho:o.op=.call {callee:=.builtin (if mx then .max else .min),args:=#[x,y],argTypes:=#[t,t']})(hd:o.dst=some d)(hn:d<n)
  (hx:cO GL x=some ox)(hy:cO GL y=some oy)(hs:Ef mx (AL GL st ox) (AL GL st oy) d st K):o.wpX P a w (Ar GL n S M w K) Q:=by
 have hr:=AB h hx;have wb:=AB h hy;unfold Ef at hs;split at hs
 ·rename_i k i k' j e1 e2;rw[e1]at hr;rw[e2]at wb;have e3:=CC (AK hr);have e4:=CC (AK wb);refine A2 h hd hn ?_ (AG (.int _ _)) hs;cases mx<;>simp only[Bool.false_eq_true,if_true,if_false]at ho⊢
  ·simp only[execOp,ho,resolve,Sem.run_bind,Sem.run_pure,Result.andThen_ok,invoke,builtin,List.map_toArray,List.map_cons,List.map_nil,e3,e4,run_min_int2]
  ·simp only[execOp,ho,resolve,Sem.run_bind,Sem.run_pure,Result.andThen_ok,invoke,builtin,List.map_toArray,List.map_cons,List.map_nil,e3,e4,run_max_int2]
 ·exact hs.elim
theorem Zx(h:Rel GL n S M μ st a w){t t':TypeId}{x:Operand}{ox:O}{k:IntKind}{ds:TypeDesc}(ho:o.op=.convert t t' x)(hd:o.dst=some d)(hn:d<n)
  (hx:cO GL x=some ox)(hu:P.underlying t=some ds)(hu':P.underlying t'=some (.int k))(hs:step P GL (.conv d k ox) st K):o.wpX P a w (Ar GL n S M w K) Q:=by
 have hr:=AB h hx;simp only[step,Iu]at hs;split at hs
 ·rename_i k' i e1;rw[e1]at hr;have e3:=CC (AK hr);refine A2 h hd hn ?_ (AG (.int _ _)) hs;simp only[execOp,ho,convert,Sem.run_bind,run_underlying hu w,run_underlying hu' w,Result.andThen_ok,e3,Conv.intToInt,Sem.run_pure]
 ·exact hs.elim
theorem PC{x:D}{c:Cp}{v:Value}(h:Az M μ N x v)(hc:BE x=some c):BJ M μ N c v:=by cases x<;>simp[BE]at hc<;>subst hc<;>exact h
theorem PD{N:Nat->Prop}:∀{xs:List D} {cs:List Cp} {vs:List Value},CL M μ N xs vs->xs.mapM BE=some cs->C9 M μ N cs vs
 |[],cs,vs,h,hc=>by simp at hc;subst hc;exact⟨h.1,fun j hj=>by simp at hj⟩
 |x::xs,cs,vs,h,hc=>by
  rw[List.mapM_cons]at hc;cases h1:BE x with
  |none=>simp[h1]at hc
  |some c=>
   cases h2:xs.mapM BE with
   |none=>simp[h1,h2]at hc
   |some cs'=>
    simp[h1,h2]at hc;subst hc;obtain⟨q1,q2⟩:=h;cases vs with
    |nil=>simp at q1
    |cons v vs=>
     have:=PD (vs:=vs) ⟨by simpa using q1,fun j a b=>by have:=q2 (j+1) (by simp;omega) (by simp;omega);exact this⟩ h2;refine⟨by simpa using this.1,fun j a b=>?_⟩;cases j with
     |zero=>exact PC (q2 0 (by simp) (by simp)) h1
     |succ j=>exact this.2 j (by simpa using a) (by simpa using b)
theorem SK{cs:List Cp}{vs:List Value}(h:C9 M μ N cs vs)(hi:cs.all rG=true):Ai M (cs.map wB) vs:=by
 refine⟨by simpa using h.1,fun j a b=>?_⟩;rw[List.getElem_map];have:=h.2 j (by simpa using a) b;have hj:rG (cs[j]'(by simpa using a))=true:=by grind
 revert this hj;generalize cs[j]'(by simpa using a)=c;intro this hj;cases c<;>simp[rG]at hj;exact this
theorem Zy(h:Rel GL n S M μ st a w){f:FuncId}{first caps:Array Operand}{of oc:List O}(xh:Nat.blt f 1000000000=true)(ho:o.op=.makeFunc (.func f) first caps)(hd:o.dst=some d)(hn:d<n)
  (hf:first.toList.mapM (cO GL)=some of)(hc:caps.toList.mapM (cO GL)=some oc)(hs:step P GL (.mkfn d f of oc) st K):o.wpX P a w (Ar GL n S M w K) Q:=by
 simp only[step,It]at hs;split at hs
 ·rename_i x y e1 e2;have e1':(of.map (AL GL st)).mapM BE=some x:=by rw[List.mapM_map];exact e1
  have e2':(oc.map (AL GL st)).mapM BE=some y:=by rw[List.mapM_map];exact e2
  have r1:=PD (KL h hf) e1';have r2:=PD (KL h hc) e2';refine A2 h hd hn (v:=.func (.func f) (first.map a.eval) (caps.map a.eval)) ?_ ?_ hs
  ·simp[execOp,ho,Instr.makeFunc]
  ·unfold wC;split
   ·rename_i jj;rw[Bool.and_eq_true]at jj;exact Rep.fn' xh (by simpa using SK r1 jj.1) (by simpa using SK r2 jj.2)
   ·exact⟨_,_,by rw[EA,if_pos xh],.inl xh,by simpa using r1,by simpa using r2⟩
 ·exact hs.elim
def C1(P:Program)(t:TypeId)(cs:Array Value):Value:=if Eh P t=some true then .agg cs else cs.getD 0 Go.undef
theorem PE{k off:Nat}{cs:Array Value}{ag:Bool}(hk:Pr P t=some k)(ha:Eh P t=some ag)(h1:ag=false->k=1)(kl:off+k<=cs.size)(w:World):
  (part t cs off).run P w=.ok (C1 P t (cs.extract off (off+k))) w:=by
 unfold part C1;cases ag with
 |true=>simp only[Sem.run_bind,NF ha,Result.andThen_ok,if_true,EF hk,Sem.run_pure,ha]
 |false=>
  obtain rfl:=h1 rfl;have jl:off<cs.size:=by omega
  simp only[Sem.run_bind,NF ha,Result.andThen_ok,Bool.false_eq_true,if_false,ha,Option.some.injEq];have:off<off+1:=by omega
  simp[jl,Array.getD_eq_getD_getElem?,show 0<min (off+1) cs.size-off by omega]
theorem Ai.slice{cs:List I}{vs:Array Value}(h:Ai M cs vs.toList)(off k:Nat)(kl:off+k<=cs.length):Ai M ((cs.drop off).take k) (vs.extract off (off+k)).toList:=by have e:=h.1;simp at e;refine⟨by simp;omega,fun j a b=>?_⟩;simp at a b;have:=h.2 (off+j) (by omega) (by simp;omega);grind
end
end Go.Dl
