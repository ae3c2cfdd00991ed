/- A part of the proofs of WorkersExclude and WorkersMatchesSteps: A6. -/
import Derived.Test.YtcgjldimifeffaaGreatDoorA5
set_option linter.unusedVariables false
namespace Go.Dl
open Go Go.RowKit
def const1 : Value → Option I
  | .bool b => some (.bool b)
  | .int k n => some (.int k n)
  | .string s => some (.str s.data.toList)
  | .pointer none => some .nilp
  | .slice none 0 0 => some (.sl [])
  | .nilFunc => some .nilfn
  | .map none => some .nilmap
  | .nilIface => some .nilif
  | _ => none
def constI : Value → Option I
  | .agg cs => (cs.toList.mapM const1).map .agg
  | v => const1 v
theorem const1_rep {M : Mem} {v : Value} {x : I} (h : const1 v = some x) : Rep M x v := by
  unfold const1 at h
  split at h <;> simp at h <;> subst h
  · exact .bool _
  · exact .int _ _
  · rename_i s; exact Rep.str (M := M) s.data.toList
  · exact .nilp
  · exact .slnil
  · exact .nilfn
  · exact .nilmap
  · exact .nilif
theorem mapM_rep {M : Mem} : ∀ {vs : List Value} {xs : List I}, vs.mapM const1 = some xs → RepL M xs vs
  | [], xs, h => by grind [RepL.nil]
  | v :: vs, xs, h => by
    rw [List.mapM_cons] at h
    cases h1 : const1 v with
    | none => simp [h1] at h
    | some x =>
      cases h2 : vs.mapM const1 with
      | none => simp [h1, h2] at h
      | some ys =>
        simp [h1, h2] at h
        subst h
        exact RepL.cons (const1_rep h1) (mapM_rep h2)
theorem constI_rep {M : Mem} {v : Value} {x : I} (h : constI v = some x) : Rep M x v := by
  unfold constI at h
  split at h
  · rename_i cs
    cases h2 : cs.toList.mapM const1 with
    | none => simp [h2] at h
    | some ys => simp [h2] at h; subst h; exact Rep.agg' (mapM_rep h2)
  · exact const1_rep h
def cO (GL : List (Nat × List I)) : Operand → Option O
  | .tmp t => some (.t t)
  | .const v => (constI v).map .c
  | .func f => if Nat.blt f 1000000000 = true then some (.f f) else none
  | .global g => if hasG GL g then some (.g g) else none
theorem getG_mem {GL : List (Nat × List I)} {g : Nat} (h : hasG GL g = true) : (g, getG GL g) ∈ GL := by
  induction GL with
  | nil => simp [hasG] at h
  | cons x r ih =>
    grind [hasG,getG]
def szT (P : Program) (t : TypeId) : Option Nat := (P.info? t).map (·.size)
def aggT (P : Program) (t : TypeId) : Option Bool :=
  match P.underlying t with
  | some (.struct _) | some (.array _ _) => some true
  | some _ => some false
  | none => none
theorem add_zero_spot (b o j : Nat) : (⟨b, o, none⟩ : Addr).add j = ⟨b, o + j, none⟩ := by unfold Addr.add; split <;> simp_all
section
variable {P : Program} {GL : List (Nat × List I)} {n : Nat} {S : Sh} {M : Mem} {μ : Place} {st : St} {a : Act} {w : World} {K : St → Prop} {Q : Exit → Act → World → Prop} {o : Oper} {d : Nat}
theorem opv_rep (h : Rel GL n S M μ st a w) {x : Operand} {o : O} (hc : cO GL x = some o) : RepD M μ (names st.sto) (opv GL st o) (a.eval x) := by
  cases x with
  | tmp t => simp [cO] at hc; subst hc; exact h.env t
  | const v =>
    simp only [cO, Option.map_eq_some_iff] at hc
    obtain ⟨y, hy, rfl⟩ := hc
    exact constI_rep hy
  | global g =>
    simp only [cO] at hc
    split at hc
    · simp at hc; subst hc
      exact h.glob _ _ (getG_mem ‹_›)
    · simp at hc
  | func f =>
    simp only [cO] at hc
    split at hc
    · rename_i hy; cases hc; exact Rep.fn' hy (RepL.nil M) (RepL.nil M)
    · cases hc
theorem opvs_repD (h : Rel GL n S M μ st a w) : ∀ {xs : List Operand} {os : List O}, xs.mapM (cO GL) = some os → RepDs M μ (names st.sto) (os.map (opv GL st)) (xs.map a.eval)
  | [], os, hc => by simp at hc; subst hc; exact ⟨rfl, fun j hj => by simp at hj⟩
  | x :: xs, os, hc => by
    rw [List.mapM_cons] at hc
    cases h1 : cO GL x with
    | none => simp [h1] at hc
    | some o =>
      cases h2 : xs.mapM (cO GL) with
      | none => simp [h1, h2] at hc
      | some os' =>
        simp [h1, h2] at hc
        subst hc
        obtain ⟨q1, q2⟩ := opvs_repD h h2
        refine ⟨by simp at q1 ⊢; exact q1, fun j hj hj' => ?_⟩
        grind [opv_rep]
theorem rep_of_isI {x : D} {v : Value} {N : Nat → Prop} (h : RepD M μ N x v) (hi : isI x = true) : Rep M (unI x) v := by
  cases x <;> simp [isI] at hi
  exact h
theorem opvs_rep (h : Rel GL n S M μ st a w) {xs : List Operand} {os : List O} (hc : xs.mapM (cO GL) = some os) (hi : (os.all fun o => isI (opv GL st o)) = true) : RepL M (os.map fun o => unI (opv GL st o)) (xs.map a.eval) := by
  obtain ⟨q1, q2⟩ := opvs_repD h hc
  refine ⟨by simpa using q1, fun j hj hj' => ?_⟩
  grind [rep_of_isI]
abbrev Goal (GL : List (Nat × List I)) (n : Nat) (S : Sh) (M : Mem) (w : World) (K : St → Prop) : Act → World → Prop := fun a' w' => ∃ st', K st' ∧ Res GL n S M w st' a' w'
def _root_.Go.Oper.wpX (P : Program) (o : Oper) (a : Act) (w : World) (next : Act → World → Prop) (Q : Exit → Act → World → Prop) : Prop :=
  o.uponIn Fence.wide 0 P a next Q ((execOp a.eval o).run P w)
theorem wp_value {v : Value} {w' : World} (hr : (execOp a.eval o).run P w = .ok (.value v) w') (h : Goal GL n S M w K (a.put o.dst v) w') : o.wpX P a w (Goal GL n S M w K) Q := by
  unfold Oper.wpX
  rw [hr]
  exact h
theorem wp_skipped {w' : World} (hr : (execOp a.eval o).run P w = .ok .skip w') (h : Goal GL n S M w K (a.put o.dst Go.undef) w') : o.wpX P a w (Goal GL n S M w K) Q := by
  unfold Oper.wpX
  rw [hr]
  exact h
theorem wp_put {v : Value} {x : D} (h : Rel GL n S M μ st a w) (hd : o.dst = some d) (hn : d < n) (hr : (execOp a.eval o).run P w = .ok (.value v) w) (hx : RepD M μ (names st.sto) x v) (hk : K (st.put d x)) : o.wpX P a w (Goal GL n S M w K) Q :=
  wp_value hr ⟨_, hk, M, μ, by rw [hd]; exact h.put hn hx, MExt.refl _ _, Keeps.refl _ _⟩
theorem run_sizeOf' {t : TypeId} {k : Nat} (h : szT P t = some k) (w : World) : (sizeOf t).run P w = .ok k w := by
  unfold szT at h
  cases hi : P.info? t with
  | none => simp [hi] at h
  | some i => simp [hi] at h; subst h; simp [sizeOf, typeInfo, hi]
theorem run_isAgg' {t : TypeId} {b : Bool} (h : aggT P t = some b) (w : World) : (isAgg t).run P w = .ok b w := by
  unfold aggT at h
  unfold isAgg
  rw [Sem.run_bind]
  split at h <;> rename_i hu <;> first
    | (cases h; done)
    | (simp only [Option.some.injEq] at h; subst h
       rw [run_underlying hu w]; first | rfl | (simp only [Result.andThen_ok]; rfl))
theorem run_loadVar {t : TypeId} {k : Nat} {ag : Bool} {b oo : Nat} (hk : szT P t = some k) (ha : aggT P t = some ag) (hk1 : ag = false → k = 1) {f : Nat → Value} (hc : ∀ j, j < k → w.cell? ⟨b, oo + j, none⟩ = some (f j)) :
    (loadVar t ⟨b, oo, none⟩).run P w = .ok (if ag then .agg ((List.range k).map f).toArray else f 0) w := by
  cases ag with
  | true =>
    have hl : (loadCells ⟨b, oo, none⟩ k).run P w = .ok ((List.range k).map f).toArray w := run_loadCells w _ k _ fun j hj => by grind [add_zero_spot]
    simp only [loadVar, Sem.run_bind, run_isAgg' ha, Result.andThen_ok, if_true, run_sizeOf' hk, hl, Sem.run_pure]
  | false =>
    obtain rfl := hk1 rfl
    have := hc 0 (by omega)
    rw [Nat.add_zero] at this
    simp only [loadVar, Sem.run_bind, run_isAgg' ha, Result.andThen_ok, run_load, this, if_false, Bool.false_eq_true]
theorem rep_pk {cs : List I} {off k : Nat} {ag : Bool} {f : Nat → Value} (hk1 : ag = false → k = 1) (hle : off + k ≤ cs.length) (hf : ∀ j (h : j < k), Rep M (cs[off + j]'(by omega)) (f j)) :
    Rep M (pk ag cs off k) (if ag then .agg ((List.range k).map f).toArray else f 0) := by
  cases ag with
  | true =>
    simp only [pk, if_true]
    refine Rep.agg' ⟨by simp; omega, fun j h1 h2 => ?_⟩
    simp at h1 h2 ⊢
    exact hf _ (by omega)
  | false =>
    obtain rfl := hk1 rfl
    simp only [pk, Bool.false_eq_true, if_false]
    have : cs.getD off .undef = cs[off]'(by omega) := by grind
    rw [this]; exact hf 0 (by omega)
theorem row_cells (h : Rel GL n S M μ st a w) {nm : Nat} {et kk : TypeId} {rs : List (List I)} (hg : getS st.sto nm = some (.rows et kk rs)) {b oo cap row : Nat} (hμ : μ nm = .slice (some ⟨b, oo, none⟩) 0 cap) (hrow : row < rs.length) :
    ∃ f : Nat → Value, ∀ j (hj : j < rs[row].length), w.cell? ⟨b, oo + row * kk + j, none⟩ = some (f j) ∧ Rep M (rs[row][j]) (f j) := by
  obtain ⟨aa, cap', e1, hh⟩ := h.blk nm _ hg
  rw [hμ] at e1; injection e1 with e1 _ e2
  subst e1; subst e2
  rcases hh with ⟨_, rfl⟩ | ⟨b', o', cur, e3, hc, ho, q1, q2, q3, q4⟩
  · simp at hrow
  · injection e3 with e3; injection e3 with e4 e5; subst e4; subst e5
    refine ⟨fun j => cur.getD (oo + row * kk + j) Go.undef, fun j hj => ?_⟩
    obtain ⟨v, hv, hr⟩ := q4.2 row hrow j hj
    have : cur.getD (oo + row * kk + j) Go.undef = v := by simp_all
    simp only [this]
    exact ⟨by simp [World.cell?, ho.heap, hv], hr⟩
theorem snd_load (h : Rel GL n S M μ st a w) {t : TypeId} {x : Operand} {ox : O} {k : Nat} {ag : Bool} (ho : o.op = .load t x) (hd : o.dst = some d) (hn : d < n) (hx : cO GL x = some ox)
    (hk : szT P t = some k) (ha : aggT P t = some ag) (hk1 : (ag || k == 1) = true) (hs : step P GL (.load d ox k ag) st K) : o.wpX P a w (Goal GL n S M w K) Q := by
  replace hk1 : ag = false → k = 1 := fun e => by subst e; simpa using hk1
  have hr := opv_rep h hx
  have hexec : ∀ b oo, a.eval x = .pointer (some ⟨b, oo, none⟩) → ∀ V, (loadVar t ⟨b, oo, none⟩).run P w = .ok V w → (execOp a.eval o).run P w = .ok (.value V) w := fun b oo e V hV => by simp only [execOp, ho, e, Sem.run_bind, Instr.loadAt, Instr.sureAddr, Sem.run_pure, Result.andThen_ok, hV]
  simp only [step, loadE] at hs
  split at hs
  · rename_i cs off e
    rw [e] at hr
    obtain ⟨hle, hs⟩ := hs
    have hr := repD_i_inv hr
    generalize hv : a.eval x = vx at hr
    cases hr with
    | elt _ _ b oo v hm hvv =>
      refine wp_put h hd hn (hexec _ _ hv _ (run_loadVar hk ha hk1 (f := fun j => v (off + j)) fun j hj => ?_)) (repD_i (rep_pk hk1 hle fun j hj => hvv _ (by omega))) hs
      rw [Nat.add_assoc]
      exact h.sub.1 _ _ _ (hm _ (by omega))
  · rename_i nm off e
    rw [e] at hr
    obtain ⟨hN, b, hμ, hxv⟩ := hr
    unfold loadB at hs
    split at hs
    · rename_i cs hcs
      obtain ⟨hle, hall, hs⟩ := hs
      obtain ⟨b', vs, ty, hμ', hown, hsz, hv⟩ := h.blk nm _ hcs
      obtain rfl : b' = b := by grind
      have hcell : ∀ j (hj : j < vs.size), w.cell? ⟨b', j, none⟩ = some vs[j] := fun j hj => by simp [World.cell?, hown.heap, hj]
      refine wp_put h hd hn (hexec _ _ hxv _ (run_loadVar hk ha hk1 (f := fun j => vs.getD (off + j) Go.undef) fun j hj => ?_)) ?_ hs
      · rw [hcell _ (by omega)]; simp [show off + j < vs.size by omega]
      · cases ag with
        | true =>
          simp only [pkD, if_true]
          show Rep M _ _
          refine Rep.agg' ⟨by simp; omega, fun j h1 h2 => ?_⟩
          have hj : j < k := by grind
          have hi : isI (cs[off + j]'(by omega)) = true := by
            have := hall rfl
            simp only [allI, List.all_eq_true] at this
            exact this _ (List.mem_iff_getElem.2 ⟨j, by simp; omega, by simp⟩)
          have := rep_of_isI (hv (off + j) (by omega) (by omega)) hi
          simp [show off + j < vs.size by omega]
          exact this
        | false =>
          obtain rfl := hk1 rfl
          simp only [pkD, Bool.false_eq_true, if_false, Nat.add_zero]
          have : cs.getD off .any = cs[off]'(by omega) := by grind
          rw [this]
          have := hv off (by omega) (by omega)
          simpa [show off < vs.size by omega] using this
    · exact hs.elim
  · rename_i nm kk row off e
    rw [e] at hr
    obtain ⟨hN, b, oo, c, hμ, hrc, hxv⟩ := hr
    unfold loadR at hs
    split at hs
    · rename_i et k' rs hcs
      obtain ⟨rfl, hrow, hle, hs⟩ := hs
      have hrow' : rs.getD row [] = rs[row] := by grind
      rw [hrow'] at hle hs
      obtain ⟨f, hf⟩ := row_cells h hcs hμ hrow
      refine wp_put h hd hn (hexec _ _ hxv _ (run_loadVar hk ha hk1 (f := fun j => f (off + j)) fun j hj => ?_)) (repD_i (rep_pk hk1 hle fun j hj => (hf _ (by omega)).2)) hs
      rw [Nat.add_assoc]; exact (hf _ (by omega)).1
    · exact hs.elim
  · exact hs.elim
theorem Rep.cellsI {x : I} {v : Value} (h : Rep M x v) : RepL M (cellsI x) v.cells.toList := by
  cases h with
  | agg cs vs h hr => exact ⟨by simpa [Dl.cellsI, Value.cells] using h, fun j a b => by have := hr j a; rw [← Array.getElem_toList] at this; exact this⟩
  | _ => exact RepL.cons (by constructor <;> assumption) (RepL.nil M)
theorem snd_mov (h : Rel GL n S M μ st a w) {x : Operand} {ox : O} (ho : o.op = .move x ∨ o.op = .assign x) (hd : o.dst = some d) (hn : d < n) (hx : cO GL x = some ox)
    (hs : step P GL (.mov d ox) st K) : o.wpX P a w (Goal GL n S M w K) Q := by
  refine wp_put h hd hn (v := a.eval x) ?_ (opv_rep h hx) hs
  rcases ho with ho | ho <;> simp [execOp, ho]
theorem bool_inv {b : Bool} {v : Value} (h : Rep M (.bool b) v) : v = .bool b := by cases h; rfl
theorem int_inv {k : IntKind} {i : Int} {v : Value} (h : Rep M (.int k i) v) : v = .int k i := by cases h; rfl
theorem str_inv {s : List UInt8} {v : Value} (h : Rep M (.str s) v) : v = .string (bytesOf s) := by cases h; rfl
theorem snd_pick (h : Rel GL n S M μ st a w) {c x y : Operand} {oc ox oy : O} (ho : o.op = .pick c x y) (hd : o.dst = some d) (hn : d < n) (hc : cO GL c = some oc) (hx : cO GL x = some ox) (hy : cO GL y = some oy)
    (hs : step P GL (.pick d oc ox oy) st K) : o.wpX P a w (Goal GL n S M w K) Q := by
  have hr := opv_rep h hc
  simp only [step, pickE] at hs
  split at hs
  · rename_i t e
    rw [e] at hr
    have hb := bool_inv (repD_i_inv hr)
    cases t with
    | true => exact wp_put h hd hn (v := a.eval x) (by simp [execOp, ho, hb, asBool]) (opv_rep h hx) (hs.1 rfl)
    | false => exact wp_put h hd hn (v := a.eval y) (by simp [execOp, ho, hb, asBool]) (opv_rep h hy) (hs.2 rfl)
  · exact hs.elim
theorem Rel.bindEmpty (h : Rel GL n S M μ st a w) (hnm : getS st.sto d = none) (hlt : d < n) (aa : Option Addr) (e k : Nat) : Rel GL n S M (updP μ d (.slice aa 0 0)) (st.bind d (.rows e k [])) a w := by
  refine h.bindName hnm hlt ⟨aa, 0, updP_self _ _ _, .inl ⟨rfl, rfl⟩⟩ fun m k _ _ => ?_
  cases aa <;> simp [blockOf]
theorem Rel.bindEmptyN (h : Rel GL n S M μ st a w) {nm : Nat} (hnm : getS st.sto nm = none) (hp : ¬ pinned nm) (aa : Option Addr) (e k : Nat) : Rel GL n S M (updP μ nm (.slice aa 0 0)) (st.bind nm (.rows e k [])) a w := by
  refine h.bindNameN hnm hp ⟨aa, 0, updP_self _ _ _, .inl ⟨rfl, rfl⟩⟩ fun m k _ _ => ?_
  cases aa <;> simp [blockOf]
theorem Rel.bindEmptyA (h : Rel GL n S M μ st a w) {nm : Nat} (hnm : getS st.sto nm = none) (hp : ¬ pinned nm) (aa : Option Addr) (e k : Nat) : Rel GL n S M (updP μ nm (.slice aa 0 0)) (st.bind nm (.arr e k [])) a w := by
  refine h.bindNameN hnm hp ⟨aa, updP_self _ _ _, .inl rfl⟩ fun m k _ _ => ?_
  cases aa <;> simp [blockOf]
theorem slAt_empty (aa : Option Addr) (k : Nat) : SlAt (.slice aa 0 0) k 0 0 (.slice aa 0 0) := ⟨aa, 0, rfl, Nat.le_refl _, Nat.le_refl _, .inl ⟨rfl, aa, rfl⟩⟩
theorem snd_nils (h : Rel GL n S M μ st a w) {e k : Nat} (ho : o.op = .move (.const (.slice none 0 0)) ∨ o.op = .assign (.const (.slice none 0 0))) (hd : o.dst = some d) (hn : d < n)
    (hs : step P GL (.nils d e k) st K) : o.wpX P a w (Goal GL n S M w K) Q := by
  have hex : (execOp a.eval o).run P w = .ok (.value (.slice none 0 0)) w := by rcases ho with ho | ho <;> simp [execOp, ho, Act.eval]
  simp only [step, nilsE] at hs
  split at hs
  · rename_i hnm
    exact wp_value hex ⟨_, hs, M, _, by rw [hd]; exact (h.bindEmpty hnm hn none e k).put hn ⟨names_self, by rw [updP_self]; exact slAt_empty _ _⟩, MExt.refl _ _, Keeps.refl _ _⟩
  · rename_i b hb
    have hd2 : Rel GL n S M μ (st.frz d (.iter none [])) a w := h.drop (by simp [names, hb])
    have hnm : getS (st.frz d (.iter none [])).sto d = none := by simp [St.frz, getS_delS]
    exact wp_value hex ⟨_, hs, M, _, by rw [hd]; exact (hd2.bindEmpty hnm hn none e k).put hn ⟨names_self, by rw [updP_self]; exact slAt_empty _ _⟩, MExt.refl _ _, Keeps.refl _ _⟩
theorem snd_box (h : Rel GL n S M μ st a w) {t : TypeId} {x : Operand} {ox : O} (ho : o.op = .box t x) (hd : o.dst = some d) (hn : d < n) (hx : cO GL x = some ox)
    (hs : step P GL (.box d ox) st K) : o.wpX P a w (Goal GL n S M w K) Q := by
  have hr := opv_rep h hx
  simp only [step, boxE] at hs
  split at hs
  · rename_i y e
    rw [e] at hr
    have hr : Rep M y (a.eval x) := hr
    obtain ⟨h2, hm, hb⟩ := h.allocKnown (a.eval x).cells t
    have hp : Rep (M.with w.heap.size (a.eval x).cells) (.elt (cellsI y) 0) (.pointer (some ⟨w.heap.size, 0, none⟩)) := by
      have hc := hr.cellsI.mono hm.le
      refine Rep.elt _ 0 w.heap.size 0 (fun j => (a.eval x).cells.getD j Go.undef) (fun j hj => ?_) (fun j hj => ?_)
      · have : j < (a.eval x).cells.size := by have := hc.1; simp at this; omega
        simp [Mem.with, this]
      · have hl : j < (a.eval x).cells.size := by have := hc.1; simp at this; omega
        have := hc.2 j hj (by simpa using hl)
        simp_all
    refine wp_value (v := .pointer (some ⟨w.heap.size, 0, none⟩)) (w' := w.alloc (.cells (a.eval x).cells t)) ?_ ⟨_, hs, _, μ, by rw [hd]; exact h2.put hn (repD_i hp), hm, hb⟩
    simp only [execOp, ho, Instr.box, newVar, newRow, Sem.run_bind, run_newObj, Result.andThen_ok, Sem.run_pure]
    rfl
  · exact hs.elim
theorem cells_one {v : Value} (h : v.oneCell' = true) : v.cells = #[v] := by cases v <;> simp_all [Value.cells, Value.oneCell']
theorem cellsD_rep {x : D} {v : Value} {N : Nat → Prop} (h : RepD M μ N x v) (h1 : (cellsD x).all oneD = true) :
    v.cells.size = (cellsD x).length ∧ (∀ j (hj : j < (cellsD x).length) (h' : j < v.cells.size), RepD M μ N ((cellsD x)[j]) (v.cells[j])) ∧ ∀ u ∈ v.cells.toList, u.oneCell' = true := by
  have one : ∀ y : D, cellsD y = [y] → v.cells = #[v] → v.oneCell' = true → RepD M μ N y v →
      v.cells.size = (cellsD y).length ∧ (∀ j (hj : j < (cellsD y).length) (h' : j < v.cells.size), RepD M μ N ((cellsD y)[j]) (v.cells[j])) ∧ ∀ u ∈ v.cells.toList, u.oneCell' = true := fun y e1 e2 e3 hy => by
    refine ⟨by rw [e1, e2]; rfl, fun j hj h' => ?_, by rw [e2]; simp [e3]⟩
    have : j = 0 := by grind
    subst this
    simp only [e1, e2]; exact hy
  cases x with
  | any => simp [cellsD, oneD] at h1
  | tup cs => simp [cellsD, oneD] at h1
  | i y =>
    have h : Rep M y v := h
    cases y with
    | agg cs =>
      obtain ⟨vs, rfl, hl⟩ := h.agg_inv
      simp only [cellsD, List.all_map, List.all_eq_true] at h1
      refine ⟨by simpa [Value.cells, cellsD] using hl.1, fun j hj h' => ?_, fun u hu => ?_⟩
      · simp only [cellsD, List.getElem_map, Value.cells]
        have := hl.2 j (by simpa [cellsD] using hj) (by simpa [Value.cells] using h')
        exact repD_i (by simpa using this)
      · simp only [Value.cells] at hu
        obtain ⟨j, hj, rfl⟩ := List.mem_iff_getElem.1 hu
        have hj' : j < cs.length := by have := hl.1; omega
        exact (hl.2 j hj' hj).oneCell (h1 _ (List.getElem_mem hj'))
    | _ =>
      have ho := h.oneCell (by simpa [cellsD, oneD] using h1)
      exact one _ rfl (cells_one ho) ho h
  | ref r =>
    refine one (.ref r) rfl ?_ ?_ h
    · cases r with
      | sl nm k lo hi => obtain ⟨_, a', c', _, _, _, h | h⟩ := h; obtain ⟨_, a'', rfl⟩ := h; rfl; obtain ⟨_, _, _, rfl⟩ := h; rfl
      | loc nm off => obtain ⟨_, b, _, rfl⟩ := h; rfl
      | lel nm k row off => obtain ⟨_, b, _, _, _, _, rfl⟩ := h; rfl
      | mp nm => obtain ⟨_, b, _, rfl⟩ := h; rfl
      | it nm => obtain ⟨_, b, _, rfl⟩ := h; rfl
    · cases r with
      | sl nm k lo hi => obtain ⟨_, a', c', _, _, _, h | h⟩ := h; obtain ⟨_, a'', rfl⟩ := h; rfl; obtain ⟨_, _, _, rfl⟩ := h; rfl
      | loc nm off => obtain ⟨_, b, _, rfl⟩ := h; rfl
      | lel nm k row off => obtain ⟨_, b, _, _, _, _, rfl⟩ := h; rfl
      | mp nm => obtain ⟨_, b, _, rfl⟩ := h; rfl
      | it nm => obtain ⟨_, b, _, rfl⟩ := h; rfl
  | fn f first caps =>
    have h' := h
    obtain ⟨va, vb, rfl, _⟩ := h
    exact one (.fn f first caps) rfl rfl rfl h'
theorem snd_boxm (h : Rel GL n S M μ st a w) {t : TypeId} {x : Operand} {ox : O} (ho : o.op = .box t x) (hd : o.dst = some d) (hn : d < n) (hx : cO GL x = some ox)
    (hs : step P GL (.boxm d ox) st K) : o.wpX P a w (Goal GL n S M w K) Q := by
  have hr := opv_rep h hx
  simp only [step, newE] at hs
  split at hs
  · rename_i hnm
    obtain ⟨h1, hs⟩ := hs
    obtain ⟨c1, c2, c3⟩ := cellsD_rep hr h1
    obtain ⟨h2, hb⟩ := h.allocMut hnm hn (cellsD (opv GL st ox)) (a.eval x).cells t c1 c2
    refine wp_value (v := .pointer (some ⟨w.heap.size, 0, none⟩)) (w' := w.alloc (.cells (a.eval x).cells t)) ?_
      ⟨_, hs, M, _, by rw [hd]; exact h2.put hn ⟨names_self, w.heap.size, updP_self _ _ _, rfl⟩, MExt.refl _ _, hb⟩
    simp only [execOp, ho, Instr.box, newVar, newRow, Sem.run_bind, run_newObj, Result.andThen_ok, Sem.run_pure]
    rfl
  · exact hs.elim
theorem snd_alloc (h : Rel GL n S M μ st a w) {t : TypeId} {i : TypeInfo} {z : Value} {zi : I} (ho : o.op = .alloc t) (hd : o.dst = some d) (hn : d < n) (hi : P.info? t = some i) (hz : i.zero = some z)
    (hc : constI z = some zi) (hs : step P GL (.alloc d (cellsI zi)) st K) : o.wpX P a w (Goal GL n S M w K) Q := by
  simp only [step, newE] at hs
  split at hs
  · rename_i hnm
    obtain ⟨_, hs⟩ := hs
    have hr : Rep M zi z := constI_rep hc
    have hcs := hr.cellsI
    obtain ⟨h2, hb⟩ := h.allocMut hnm hn ((cellsI zi).map .i) z.cells t (by simpa using hcs.1) (fun j h1 h2 => by
      rw [List.getElem_map]
      have := hcs.2 j (by simpa using h1) (by simpa using h2)
      exact repD_i (by simpa using this))
    refine wp_value (v := .pointer (some ⟨w.heap.size, 0, none⟩)) (w' := w.alloc (.cells z.cells t)) ?_
      ⟨_, hs, M, _, by rw [hd]; exact h2.put hn ⟨names_self, w.heap.size, updP_self _ _ _, rfl⟩, MExt.refl _ _, hb⟩
    simp only [execOp, ho, Instr.alloc, zeroValue, typeInfo, hi, hz, newVar, newRow, Sem.run_bind, run_newObj, Result.andThen_ok, Sem.run_pure, run_program]
    rfl
  · exact hs.elim
theorem snd_fa (h : Rel GL n S M μ st a w) {t : TypeId} {x : Operand} {ox : O} {f off : Nat} {fs : Array Field} {fl : Field} {k : Nat} (ho : o.op = .fieldAddr t x f) (hd : o.dst = some d) (hn : d < n)
    (hx : cO GL x = some ox) (hu : P.underlying t = some (.struct fs)) (hf : fs[f]? = some fl) (hk : szT P fl.type = some k) (hk0 : k ≠ 0) (hoff : fl.offset = off)
    (hs : step P GL (.fa d ox off) st K) : o.wpX P a w (Goal GL n S M w K) Q := by
  have hr := opv_rep h hx
  subst hoff
  have hex : ∀ b oo, a.eval x = .pointer (some ⟨b, oo, none⟩) → (execOp a.eval o).run P w = .ok (.value (.pointer (some ⟨b, oo + fl.offset, none⟩))) w := fun b oo e => by simp only [execOp, ho, e, Instr.fieldAt, Sem.run_bind, run_underlying hu w, Result.andThen_ok, hf, Instr.sureAddr, Sem.run_pure, fieldPlace, run_sizeOf' hk, if_neg hk0, add_zero_spot]
  simp only [step, faE] at hs
  split at hs
  · rename_i cs oo e
    rw [e] at hr
    have hr := repD_i_inv hr
    generalize hv : a.eval x = vx at hr
    cases hr with
    | elt _ _ b o' v hm hvv =>
      refine wp_put h hd hn (hex _ _ hv) (repD_i ?_) hs
      rw [Nat.add_assoc]
      exact .elt _ _ _ _ _ hm hvv
  · rename_i nm oo e
    rw [e] at hr
    obtain ⟨hN, b, hμ, hv⟩ := hr
    exact wp_put h hd hn (x := .ref (.loc nm (oo + fl.offset))) (hex _ _ hv) ⟨hN, b, hμ, rfl⟩ hs
  · rename_i nm kk row oo e
    rw [e] at hr
    obtain ⟨hN, b, o', c, hμ, hrc, hv⟩ := hr
    exact wp_put h hd hn (x := .ref (.lel nm kk row (oo + fl.offset))) (hex _ _ hv) ⟨hN, b, o', c, hμ, hrc, by rw [Nat.add_assoc]⟩ hs
  · exact hs.elim
theorem snd_ia (h : Rel GL n S M μ st a w) {t e : TypeId} {x ix : Operand} {ox oi : O} {k : Nat} (ho : o.op = .indexAddr t x ix) (hd : o.dst = some d) (hn : d < n)
    (hx : cO GL x = some ox) (hi : cO GL ix = some oi) (hu : P.underlying t = some (.slice e)) (hk : szT P e = some k)
    (hs : step P GL (.ia d ox oi k) st K) : o.wpX P a w (Goal GL n S M w K) Q := by
  have hr := opv_rep h hx
  have hri := opv_rep h hi
  have hex : ∀ kk (i : Int) b oo len cap, a.eval x = .slice (some ⟨b, oo, none⟩) len cap → a.eval ix = .int kk i → 0 ≤ i ∧ i < len →
      (execOp a.eval o).run P w = .ok (.value (.pointer (some ⟨b, oo + i.toNat * k, none⟩))) w := fun kk i b oo len cap e1 e2 hb => by
    simp only [execOp, ho, e1, e2, Instr.indexAt, asIntOf, Sem.run_bind, run_underlying hu w, Result.andThen_ok, Sem.run_pure, hb, and_self, if_true, run_sizeOf' hk, add_zero_spot]
  simp only [step, iaE] at hs
  split at hs
  · rename_i rows kk i e1 e2
    rw [e1] at hr; rw [e2] at hri
    have hri := int_inv (repD_i_inv hri)
    have hr := repD_i_inv hr
    obtain ⟨hb, hlen, hs⟩ := hs
    generalize hv : a.eval x = vx at hr
    cases hr with
    | slnil => simp at hb; omega
    | slempty => simp at hb; omega
    | sl _ k' b oo cap v hk' hc hm hvv =>
      have hrow : i.toNat < rows.length := by omega
      have e : rows.getD i.toNat [] = rows[i.toNat] := by grind
      rw [e] at hs hlen
      obtain rfl : k' = k := by grind
      refine wp_put h hd hn (hex _ _ _ _ _ _ hv hri hb) (repD_i ?_) hs
      exact Rep.elt _ 0 b (oo + i.toNat * k') (v i.toNat) (fun j hj => hm i.toNat hrow j hj) (fun j hj => hvv i.toNat hrow j hj)
  · rename_i nm k0 lo hi' kk i e1 e2
    rw [e1] at hr; rw [e2] at hri
    have hri := int_inv (repD_i_inv hri)
    obtain ⟨hN, aa, cap, e3, hlo, hcap, hsl⟩ := hr
    unfold iaR at hs
    split at hs
    · rename_i et k' rs hg
      obtain ⟨rfl, rfl, hb, hs⟩ := hs
      rcases hsl with ⟨rfl, _⟩ | ⟨b, o', rfl, hv⟩
      · omega
      · refine wp_put h hd hn (x := .ref (.lel nm k0 (lo + i.toNat) 0)) (hex _ _ _ _ _ _ hv hri hb) ⟨hN, b, o', cap, e3, by omega, ?_⟩ hs
        rw [Nat.add_mul]; simp [Nat.add_assoc]
    · exact hs.elim
  · exact hs.elim
theorem bytes_get (l : List UInt8) (i : Nat) (h : i < l.length) : (bytesOf l)[i]? = some l[i] := by
  have : (bytesOf l)[i]? = l[i]? := by
    unfold bytesOf
    rw [getElem?_def]
    split
    · rename_i hh; rw [List.getElem?_eq_getElem h]; rfl
    · rename_i hh; exact absurd h hh
  grind
theorem snd_idx (h : Rel GL n S M μ st a w) {t : TypeId} {x ix : Operand} {ox oi : O} (ho : o.op = .index t x ix) (hd : o.dst = some d) (hn : d < n)
    (hx : cO GL x = some ox) (hi : cO GL ix = some oi) (hu : P.underlying t = some .string)
    (hs : step P GL (.idx d ox oi) st K) : o.wpX P a w (Goal GL n S M w K) Q := by
  have hr := opv_rep h hx
  have hri := opv_rep h hi
  simp only [step, idxE] at hs
  split at hs
  · rename_i l kk i e1 e2
    rw [e1] at hr; rw [e2] at hri
    have hri := int_inv (repD_i_inv hri)
    have hr := str_inv (repD_i_inv hr)
    obtain ⟨hb, hs⟩ := hs
    have hlt : i.toNat < l.length := by omega
    have hget := bytes_get l i.toNat hlt
    have e : l.getD i.toNat 0 = l[i.toNat] := by grind
    rw [e] at hs
    refine wp_put h hd hn (v := .int .u8 (l[i.toNat]).toNat) ?_ (repD_i (.int _ _)) hs
    simp only [execOp, ho, hr, hri, Instr.index, asIntOf, Sem.run_bind, run_underlying hu w, Result.andThen_ok, Sem.run_pure, hb.1, if_true, hget]
  · exact hs.elim
end
end Go.Dl
