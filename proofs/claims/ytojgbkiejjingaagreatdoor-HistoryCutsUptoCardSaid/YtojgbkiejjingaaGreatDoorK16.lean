/-
  Lemmas, no statement.
-/
import Derived.Test.YtojgbkiejjingaaGreatDoorK15
import Derived.Lib.ConvBytes
import Derived.Laws.BytesString
set_option linter.all false
namespace Go.Dl
open Go Go.RowKit
section
variable {P:Program}{GL:List (Nat×List I)}{n:Nat}{S:Sh}{M:Mem}{μ:Place}{st:St}{a:Act}{w:World}{K:St->Prop}{Q:Exit->Act->World->Prop}{o:Oper}{d:Nat}
theorem Z2(h:Rel GL n S M μ st a w){t e:TypeId}{len k:Nat}{parts:Array (Nat×Operand)}{i:TypeInfo}{z:Value}{zi:I}{qs:List (Nat×Nat×O)}
  (ho:o.op=.build t parts)(hd:o.dst=some d)(hn:d<n)(hi:P.info? t=some i)(hz:i.zero=some z)(hc:Cb z=some zi)(hu:P.underlying t=some (.array len e))(hk:Pr P e=some k)
  (hq:IN GL (fun j=>some (j*k,k)) (cellsI zi).length parts.toList=some qs)(hs:step P GL (.build d (cellsI zi) qs) st K):o.wpX P a w (Ar GL n S M w K) Q:=by
 obtain⟨jj,hs⟩:=hs;have hrz:Ai M (cellsI zi) z.cells.toList:=(Eg hc).cellsI;obtain⟨ps,e1,e2,e3⟩:=L5 h parts.toList qs (fun j=>some (j*k,k)) (cellsI zi).length hq jj;obtain⟨cells',e4,e5⟩:=L4 (place:=fun j=>some (j*k,k)) ps (cellsI zi) z.cells hrz e3;rw[e2]at e5;refine A2 h hd hn (v:=.agg cells') ?_ (AG (Rep.agg' e5)) hs;rw[e1]at e4;have e4':Instr.fill (fun x=>some (x*k,k)) z.cells ((parts.map fun(i,x)=>(i,a.eval x)).toList)=some cells':=by simp_all
 simp only[execOp,ho,Instr.build,Sem.run_bind,zeroValue,typeInfo,hi,hz,run_program,Result.andThen_ok,Sem.run_pure,run_underlying hu w,EF hk,e4']
theorem PX(s:List UInt8)(i:Nat)(h:i<(rowsB s).length):(rowsB s)[i]=[.int .u8 ((s[i]'(by simpa[rowsB]using h)).toNat:Int)]:=by simp[rowsB]
theorem Z3(h:Rel GL n S M μ st a w){t t' e:TypeId}{x:Operand}{ox:O}{u:TypeDesc}(ho:o.op=.convert t t' x)(hd:o.dst=some d)(hn:d<n)(hx:cO GL x=some ox)
  (hu:P.underlying t=some u)(hu':P.underlying t'=some (.slice e))(he:P.underlying e=some (.int .u8))(hs:step P GL (.bytes d ox) st K):o.wpX P a w (Ar GL n S M w K) Q:=by
 have hr:=AB h hx;simp only[step,IA]at hs;split at hs
 ·rename_i s e1;rw[e1]at hr;have hv:=FJ (AK hr);have qh:(execOp a.eval o).run P w=.ok (.value (.slice (some ⟨w.heap.size,0,none⟩) (BR s).size (grownCap w (BR s).size 0 e))) (Lib.bytesWorld w e (BR s)):=by simp only[execOp,ho,hv,Sem.run_bind,Lib.run_convert_string_bytes w t t' e (BR s) hu hu' he,Result.andThen_ok,Sem.run_pure]
  have je:(BR s).size=s.length:=by rfl
  have kd:s.length<=grownCap w s.length 0 e:=by exact grownCap_ge w s.length 0 e
  have hM:M.le (M.with w.heap.size (Lib.bytesCells w e (BR s))):=Mem.le_with (Mem.unk_new h.sub (Nat.le_refl _));have h1:StoOk S.p M μ st.sto (Lib.bytesWorld w e (BR s)):=h.toStoOk.world (by rw[Lib.bytesWorld_size];omega) fun k hk=>Lib.bytesWorld_at_old w e _ k hk
  have h2:StoOk S.p (M.with w.heap.size (Lib.bytesCells w e (BR s))) μ st.sto (Lib.bytesWorld w e (BR s)):=
   h1.know hM (h1.sub.with (Lib.bytesWorld_at_new w e _)) fun m k hm hk=>Mem.with_same (by have:=h.toStoOk.lt hm hk;omega)
  have h3:Rel GL n S (M.with w.heap.size (Lib.bytesCells w e (BR s))) μ st a (Lib.bytesWorld w e (BR s)):=h.of h2 hM fun s v hv=>hv.mono hM fun _ k=>k
  have j7:Rep (M.with w.heap.size (Lib.bytesCells w e (BR s))) (.sl (rowsB s)) (.slice (some ⟨w.heap.size,0,none⟩) s.length (grownCap w s.length 0 e)):=by
   have hl:(rowsB s).length=s.length:=by simp[rowsB]
   have:=Rep.sl (M:=M.with w.heap.size (Lib.bytesCells w e (BR s))) (rowsB s) 1 w.heap.size 0 (grownCap w s.length 0 e) (fun i _=>.int .u8 ((s.getD i 0).toNat:Int)) (fun r hr=>by
     obtain⟨b,_,rfl⟩:=List.mem_map.1 hr;rfl) (by rw[hl];exact kd) (fun i hi j hj=>by
     rw[PX s i hi]at hj;have hj0:j=0:=by grind
     subst hj0;have ja:i<s.length:=by omega
     simp[Mem.with,Lib.bytesCells,BR,Array.getElem?_append,ja]) (fun i hi j hj=>by
     have jt:=hj;rw[PX s i hi]at jt;have hj0:j=0:=by grind
     subst hj0;have ja:i<s.length:=by omega
     simp only[PX s i hi,List.getElem_cons_zero];have:s.getD i 0=s[i]:=by grind
     rw[this];exact .int _ _)
   grind
  rw[je]at qh;refine BK qh ⟨_,hs,_,μ,by rw[hd];exact h3.put hn (AG j7),⟨hM,fun b hb=>Mem.with_same (by have:=h.low b hb;omega)⟩,⟨?_,?_,?_,?_,?_,?_⟩⟩
  ·rfl
  ·rfl
  ·rfl
  ·rw[Lib.bytesWorld_size];omega
  ·exact fun k hk=>Lib.bytesWorld_at_old w e _ k (h.low k hk)
  ·exact(by unfold Lib.bytesWorld;first|exact Nat.le_refl _|exact Nat.le_succ _|simp)
 ·exact hs.elim
end
end Go.Dl
