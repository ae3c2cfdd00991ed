/- A part of the proofs of WorkersExclude and WorkersMatchesSteps: A9. -/
import Derived.Test.YtcgjldimifeffaaGreatDoorA8
set_option linter.unusedVariables false
namespace Go.Dl
open Go Go.RowKit
theorem getElem_setL {α : Type} (l : List α) (off : Nat) (us : List α) (h : off + us.length ≤ l.length) (j : Nat) : (setL l off us)[j]? = if off ≤ j ∧ j < off + us.length then us[j - off]? else l[j]? := by
  simp only [setL, List.getElem?_append, List.length_append, List.length_take, List.getElem?_take, List.getElem?_drop, Nat.min_eq_left (show off ≤ l.length by omega)]
  grind
theorem length_setL {α : Type} (l : List α) (off : Nat) (us : List α) (h : off + us.length ≤ l.length) : (setL l off us).length = l.length := by grind [setL]
section
variable {P : Program} {GL : List (Nat × List I)} {n : Nat} {S : Sh} {M : Mem} {μ : Place} {st : St} {a : Act} {w : World} {K : St → Prop} {Q : Exit → Act → World → Prop} {o : Oper} {d : Nat}
theorem run_storeAt {t : TypeId} {k b off : Nat} {vs : Array Value} {ty : TypeId} {v : Value} (hk : szT P t = some k) (hheap : w.heap[b]? = some (.cells vs ty (0, 0))) (hv : v.cells.size = k) (hfit : off + k ≤ vs.size)
    (h1 : ∀ u ∈ v.cells.toList, u.oneCell' = true) : (Instr.storeAt t (.pointer (some ⟨b, off, none⟩)) v).run P w = .ok () (w.setRow b (setL vs.toList off v.cells.toList).toArray) := by
  have hst := run_storeCells_at P b off ty v.cells.toList 0 vs w hheap (by simp; omega) h1
  simp only [Nat.add_zero] at hst
  simp only [Instr.storeAt, Instr.sureAddr, Sem.run_bind, Sem.run_pure, Result.andThen_ok, storeVar, run_sizeOf' hk, hv, ne_eq, not_true, if_false, hst, setL]
theorem run_store_op {t : TypeId} {x v : Operand} {w' : World} (ho : o.op = .store t x v) (h : (Instr.storeAt t (a.eval x) (a.eval v)).run P w = .ok () w') : (execOp a.eval o).run P w = .ok .skip w' := by simp only [execOp, ho, Sem.run_bind, h, Result.andThen_ok, Sem.run_pure]
theorem Rel.storeLoc (h : Rel GL n S M μ st a w) {nm off : Nat} {cs ds : List D} {v : Value} {b : Nat} {vs : Array Value} {ty : TypeId} (hg : getS st.sto nm = some (.cells cs)) (hμ : μ nm = .pointer (some ⟨b, 0, none⟩))
    (hown : Owns S M w b (.cells vs ty (0, 0))) (hsz : vs.size = cs.length) (hv : ∀ j (h : j < cs.length) (h' : j < vs.size), RepD M μ (names st.sto) (cs[j]) (vs[j]))
    (c1 : v.cells.size = ds.length) (c2 : ∀ j (hj : j < ds.length) (h' : j < v.cells.size), RepD M μ (names st.sto) (ds[j]) (v.cells[j])) (hfit : off + ds.length ≤ cs.length) :
    Rel GL n S M μ (st.setB nm (.cells (setL cs off ds))) a (w.setRow b (setL vs.toList off v.cells.toList).toArray) ∧ Keeps S w (w.setRow b (setL vs.toList off v.cells.toList).toArray) := by
  have hb := keeps_setRow w b (setL vs.toList off v.cells.toList).toArray hown.low
  refine ⟨h.setBlk hg (by rw [hμ]; rfl) hb.size (fun k hk _ => setRow_other w b k _ hk) ⟨b, _, ty, hμ, ⟨hown.low, setRow_heap w b vs _ ty _ hown.heap, hown.unk⟩, ?_, fun j h1 h2 => ?_⟩, hb⟩
  · simp only [List.size_toArray]
    rw [length_setL _ _ _ (by simp; omega), length_setL _ _ _ (by omega)]
    simpa using hsz
  · rw [names_setS]
    have h1' : j < cs.length := by grind [length_setL]
    have e1 : (setL cs off ds)[j]? = some ((setL cs off ds)[j]) := List.getElem?_eq_getElem h1
    have e2 : (setL vs.toList off v.cells.toList)[j]? = some ((setL vs.toList off v.cells.toList)[j]'(by simpa using h2)) := List.getElem?_eq_getElem _
    rw [getElem_setL _ _ _ (by omega)] at e1
    rw [getElem_setL _ _ _ (by simp; omega)] at e2
    have hl : v.cells.toList.length = ds.length := by omega
    rw [hl] at e2
    by_cases hc : off ≤ j ∧ j < off + ds.length
    · rw [if_pos hc] at e1 e2
      have q1 : j - off < ds.length := by omega
      have q2 : j - off < v.cells.size := by omega
      rw [List.getElem?_eq_getElem q1] at e1
      rw [List.getElem?_eq_getElem (by simpa using q2)] at e2
      simp only [List.getElem_toArray]
      rw [← Option.some.inj e1, ← Option.some.inj e2]
      simpa using c2 (j - off) q1 q2
    · rw [if_neg hc] at e1 e2
      have q2 : j < vs.size := by omega
      rw [List.getElem?_eq_getElem h1'] at e1
      rw [List.getElem?_eq_getElem (by simpa using q2)] at e2
      simp only [List.getElem_toArray]
      rw [← Option.some.inj e1, ← Option.some.inj e2]
      simpa using hv j h1' q2
theorem cellsD_i (y : I) : cellsD (.i y) = (cellsI y).map .i := by cases y <;> rfl
theorem getS_setS_self {sto : List (Nat × Blk)} {nm : Nat} {b b' : Blk} (h : getS sto nm = some b) : getS (setS sto nm b') nm = some b' := by simp [getS_setS, h]
theorem delS_setS (l : List (Nat × Blk)) (nm : Nat) (b : Blk) (c : Blk) : delS (sbS nm c (setS l nm b)) nm = delS (sbS nm c l) nm := by
  induction l with
  | nil => rfl
  | cons x r ih =>
    grind [setS,sbS,delS]
theorem snd_stfrz (h : Rel GL n S M μ st a w) {t : TypeId} {x v : Operand} {ox ov : O} {k : Nat} (ho : o.op = .store t x v) (hd : o.dst = none) (hx : cO GL x = some ox) (hv : cO GL v = some ov) (hk : szT P t = some k)
    (hs : step P GL (.stfrz ox ov k) st K) : o.wpX P a w (Goal GL n S M w K) Q := by
  have hr := opv_rep h hx
  have hrv := opv_rep h hv
  simp only [step, stfrzE] at hs
  split at hs
  · rename_i nm off e
    rw [e] at hr
    obtain ⟨hN, b, hμ, hxv⟩ := hr
    unfold stfrzB at hs
    split at hs
    · rename_i cs hg
      obtain ⟨rfl, hlen, hi, hkv, hone, hs⟩ := hs
      obtain ⟨b', vs, ty, hμ', hown, hsz, hcv⟩ := h.blk nm _ hg
      obtain rfl : b' = b := by grind
      generalize opv GL st ov = dv at hrv hi hkv hone hs
      cases dv with
      | i y =>
        simp only [unI] at hkv hone hs
        have hone' : (cellsD (.i y)).all oneD = true := by grind [cellsD_i,oneD]
        obtain ⟨c1, c2, c3⟩ := cellsD_rep hrv hone'
        have hlk : (cellsD (.i y)).length = k := by grind [cellsD_i]
        obtain ⟨h2, hb⟩ := h.storeLoc (off := 0) hg hμ hown hsz hcv c1 c2 (by omega)
        have hall : setL cs 0 (cellsD (.i y)) = (cellsI y).map .i := by grind [setL,cellsD_i]
        rw [hall] at h2
        have hg2 : getS (st.setB nm (.cells ((cellsI y).map .i))).sto nm = some (.cells ((cellsI y).map .i)) := getS_setS_self hg
        obtain ⟨M', h3, hm⟩ := h2.freeze hg2 (by simp [frzOk, allI, isI])
        have e3 : (st.setB nm (.cells ((cellsI y).map .i))).frz nm (.cells ((cellsI y).map .i)) = st.frz nm (.cells ((cellsI y).map .i)) := by simp [St.frz, St.setB, delS_setS]
        rw [e3] at h3
        exact wp_skipped (run_store_op ho (by rw [hxv]; exact run_storeAt hk hown.heap (by omega) (by omega) c3)) ⟨_, hs, M', μ, by rw [hd]; exact h3, hm, hb⟩
      | _ => simp [isI] at hi
    · exact hs.elim
  · exact hs.elim
theorem flat_index {rs : List (List I)} {k : Nat} (hk : ∀ r ∈ rs, r.length = k) {p : Nat} (hp : p < rs.length * k) : ∃ i j, ∃ (hi : i < rs.length), j < rs[i].length ∧ p = i * k + j := by
  have hk0 : 0 < k := Nat.pos_of_ne_zero fun h => by subst h; simp at hp
  have hi : p / k < rs.length := by rw [Nat.div_lt_iff_lt_mul hk0]; exact hp
  refine ⟨p / k, p % k, hi, ?_, ?_⟩
  · rw [hk _ (List.getElem_mem hi)]; exact Nat.mod_lt _ hk0
  · rw [Nat.mul_comm]; exact (Nat.div_add_mod p k).symm
theorem RowsAt.set {cur : Array Value} {o k row off : Nat} {rs : List (List I)} {cs : List I} {us : List Value} (h : RowsAt M cur o k rs) (hrow : row < rs.length) (hc : RepL M cs us) (hfit : off + cs.length ≤ k) (hsz : o + rs.length * k ≤ cur.size) :
    RowsAt M (setL cur.toList (o + row * k + off) us).toArray o k (rs.set row (setL rs[row] off cs)) := by
  have hul := hc.1
  have hrk : rs[row].length = k := h.1 _ (List.getElem_mem hrow)
  have hle : (row + 1) * k ≤ rs.length * k := Nat.mul_le_mul_right _ hrow
  rw [Nat.add_mul] at hle
  have hfit2 : o + row * k + off + us.length ≤ cur.toList.length := by simp; omega
  refine ⟨fun r hr => ?_, fun i hi j hj => ?_⟩
  · rcases List.mem_or_eq_of_mem_set hr with h1 | h1
    · exact h.1 r h1
    · rw [h1, length_setL _ _ _ (by omega)]; exact hrk
  · have hi' : i < rs.length := by simpa using hi
    simp only [List.getElem?_toArray]
    rw [getElem_setL _ _ _ hfit2]
    by_cases hir : row = i
    · subst hir
      have hj' : j < k := by grind [length_setL]
      have e8 : (setL rs[row] off cs)[j]? = some ((setL rs[row] off cs)[j]'(by rw [length_setL _ _ _ (by omega)]; omega)) := List.getElem?_eq_getElem _
      rw [getElem_setL _ _ _ (by omega)] at e8
      by_cases hcc : off ≤ j ∧ j < off + cs.length
      · rw [if_pos hcc] at e8
        rw [if_pos (by omega)]
        have q1 : j - off < cs.length := by omega
        rw [List.getElem?_eq_getElem q1] at e8
        refine ⟨us[j - off]'(by omega), ?_, ?_⟩
        · rw [show o + row * k + j - (o + row * k + off) = j - off by omega]; exact List.getElem?_eq_getElem _
        · have := hc.2 (j - off) q1 (by omega)
          have e9 : (rs.set row (setL rs[row] off cs))[row][j] = (setL rs[row] off cs)[j]'(by rw [length_setL _ _ _ (by omega)]; omega) := by simp
          rw [e9, ← Option.some.inj e8]; exact this
      · rw [if_neg hcc] at e8
        rw [if_neg (by omega)]
        have q1 : j < rs[row].length := by omega
        rw [List.getElem?_eq_getElem q1] at e8
        obtain ⟨v, hv, hr⟩ := h.2 row hrow j q1
        refine ⟨v, by simpa using hv, ?_⟩
        have e9 : (rs.set row (setL rs[row] off cs))[row][j] = (setL rs[row] off cs)[j]'(by rw [length_setL _ _ _ (by omega)]; omega) := by simp
        rw [e9, ← Option.some.inj e8]; exact hr
    · have e8 : (rs.set row (setL rs[row] off cs))[i] = rs[i] := by rw [List.getElem_set]; rw [if_neg hir]
      have hj' : j < rs[i].length := by grind
      have hji : j < k := by rw [← h.1 _ (List.getElem_mem hi')]; exact hj'
      obtain ⟨v, hv, hr⟩ := h.2 i hi' j hj'
      rw [if_neg]
      · refine ⟨v, by simpa using hv, ?_⟩
        simp only [e8]; exact hr
      · intro hcc
        rcases Nat.lt_or_gt_of_ne hir with h1 | h1
        · have : (row + 1) * k ≤ i * k := Nat.mul_le_mul_right _ h1
          rw [Nat.add_mul] at this; omega
        · have : (i + 1) * k ≤ row * k := Nat.mul_le_mul_right _ h1
          rw [Nat.add_mul] at this; omega
theorem rows_blk (h : Rel GL n S M μ st a w) {nm : Nat} {et k : Nat} {rs : List (List I)} (hg : getS st.sto nm = some (.rows et k rs)) {b oo cap : Nat} (hμ : μ nm = .slice (some ⟨b, oo, none⟩) 0 cap) (hcap : 0 < cap) :
    ∃ cur, Owns S M w b (.cells cur et (0, 0)) ∧ cap ≤ maxLen ∧ cur.size = oo + cap * k ∧ rs.length ≤ cap ∧ RowsAt M cur oo k rs := by
  obtain ⟨aa, cap', e1, hh⟩ := h.blk nm _ hg
  rw [hμ] at e1; injection e1 with e1 _ e2
  subst e1; subst e2
  rcases hh with ⟨rfl, _⟩ | ⟨b', o', cur, e3, hc, ho, q⟩
  · omega
  · injection e3 with e3; injection e3 with e4 e5; subst e4; subst e5
    exact ⟨cur, ho, q⟩
theorem snd_store (h : Rel GL n S M μ st a w) {t : TypeId} {x v : Operand} {ox ov : O} {k : Nat} (ho : o.op = .store t x v) (hd : o.dst = none) (hx : cO GL x = some ox) (hv : cO GL v = some ov) (hk : szT P t = some k)
    (hs : step P GL (.store ox ov k) st K) : o.wpX P a w (Goal GL n S M w K) Q := by
  have hr := opv_rep h hx
  have hrv := opv_rep h hv
  simp only [step, storeE] at hs
  split at hs
  · rename_i nm off e
    rw [e] at hr
    obtain ⟨hN, b, hμ, hxv⟩ := hr
    unfold storeB at hs
    split at hs
    · rename_i cs hg
      obtain ⟨hlen, hone, hfit, hs⟩ := hs
      obtain ⟨b', vs, ty, hμ', hown, hsz, hcv⟩ := h.blk nm _ hg
      obtain rfl : b' = b := by grind
      obtain ⟨c1, c2, c3⟩ := cellsD_rep hrv hone
      obtain ⟨h2, hb⟩ := h.storeLoc (off := off) hg hμ hown hsz hcv c1 c2 (by omega)
      exact wp_skipped (run_store_op ho (by rw [hxv]; exact run_storeAt hk hown.heap (by omega) (by omega) c3)) ⟨_, hs, M, μ, by rw [hd]; exact h2, MExt.refl _ _, hb⟩
    · exact hs.elim
  · rename_i nm kk row off e
    rw [e] at hr
    obtain ⟨hN, b, oo, cap, hμ, hrc, hxv⟩ := hr
    unfold storeR at hs
    split at hs
    · rename_i et k' rs hg
      obtain ⟨rfl, hrow, hi, hkv, hone, hfit, hs⟩ := hs
      obtain ⟨cur, hown, q1, q2, q3, q4⟩ := rows_blk h hg hμ (by omega)
      have hrow' : rs.getD row [] = rs[row] := by grind
      rw [hrow'] at hfit hs
      have hrk : rs[row].length = kk := q4.1 _ (List.getElem_mem hrow)
      have hrep := (rep_of_isI hrv hi).cellsI
      have hsz : (a.eval v).cells.size = k := by have := hrep.1; simp at this; omega
      have hones : ∀ u ∈ (a.eval v).cells.toList, u.oneCell' = true := fun u hu => by
        obtain ⟨j, hj, rfl⟩ := List.mem_iff_getElem.1 hu
        have hj' : j < (cellsI (unI (opv GL st ov))).length := by grind
        exact (hrep.2 j hj' hj).oneCell (by simp only [List.all_eq_true] at hone; exact hone _ (List.getElem_mem hj'))
      have hm1 : rs.length * kk ≤ cap * kk := Nat.mul_le_mul_right _ q3
      have hm2 : (row + 1) * kk ≤ rs.length * kk := Nat.mul_le_mul_right _ hrow
      rw [Nat.add_mul] at hm2
      have hb := keeps_setRow w b (setL cur.toList (oo + row * kk + off) (a.eval v).cells.toList).toArray hown.low
      refine wp_skipped (run_store_op ho (by rw [hxv]; exact run_storeAt hk hown.heap hsz (by omega) hones)) ⟨_, hs, M, μ, ?_, MExt.refl _ _, hb⟩
      rw [hd]
      refine h.setBlk hg (by rw [hμ]; simp only [blockOf]; rw [if_neg (by omega)]) hb.size (fun q hq _ => setRow_other w b q _ hq) ⟨_, cap, hμ, .inr ⟨b, oo, _, rfl, by omega, ⟨hown.low, setRow_heap w b cur _ et _ hown.heap, hown.unk⟩, q1, ?_, by simpa using q3, q4.set hrow hrep (by omega) (by omega)⟩⟩
      simp only [List.size_toArray]; rw [length_setL _ _ _ (by simp; omega)]; simpa using q2
    · exact hs.elim
  · exact hs.elim
end
end Go.Dl
