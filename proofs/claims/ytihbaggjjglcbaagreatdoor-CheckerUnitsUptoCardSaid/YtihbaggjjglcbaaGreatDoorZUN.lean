/-
  Proved here: CheckerUnits of asoflaw10 returns true, and leaves its arguments as they were, for every input whose values and letters, counted each time they are reached, are together at most 1048576, in a world where the three package-level lists of the checker hold what the program text lays.
-/
import Derived.Test.YtihbaggjjglcbaaGreatDoorK37
set_option linter.unusedVariables false
set_option linter.unusedSimpArgs false

section
set_option maxRecDepth 100000
set_option maxHeartbeats 8000000
set_option linter.unusedVariables false
set_option linter.unusedSimpArgs false
namespace Go.Proofs.YtihbaggjjglcbaaGreatDoor
open Go Go.Dl Go.As Go.Proofs
variable {mx : Int}
attribute [local irreducible] callG callL MC W W2 evT ev evD step stepD

theorem units_facts (a b : Typ) (ha : isNum a = true) (hb : isNum b = true) :
    (ruleBin [42] a b = if (prodU a.unit b.unit 1).2 ≠ 0 then (noTyp, 70) else (⟨if a.kind = 2 ∧ b.kind = 2 then 2 else 3, (prodU a.unit b.unit 1).1, []⟩, 0)) ∧
    (ruleBin [47] a b = if (prodU a.unit b.unit (-1)).2 ≠ 0 then (noTyp, 70) else (⟨3, (prodU a.unit b.unit (-1)).1, []⟩, 0)) ∧
    (ruleBin [45] a b = if a.unit ≠ b.unit then (noTyp, 70) else (⟨if a.kind = 2 ∧ b.kind = 2 then 2 else 3, a.unit, []⟩, 0)) ∧
    (ruleBin [60] a b = if a.unit ≠ b.unit then (noTyp, 70) else (boolT, 0)) := by
  have hk : max a.kind b.kind = if a.kind = 2 ∧ b.kind = 2 then 2 else 3 := by
    simp only [isNum, Bool.or_eq_true, beq_iff_eq] at ha hb
    split <;> omega
  simp [ruleBin, ha, hb, hk]
theorem law_units (c : Cat) (ent : Str) (x y : Xpr) (hb : bCat c + bX x + bX y ≤ 1048576) : Is mx 3 [.agg (eCat c), .str ent, .agg (eE x), .agg (eE y)] (.bool true) := by
  have hcB := catB_of (c := c) (by omega)
  have hIx := Infer_is (mx := mx) c ent x hcB (by omega)
  have hIy := Infer_is (mx := mx) c ent y hcB (by omega)
  have hux := inferTop_uB hcB (ent := ent) (x := x) (by omega)
  have huy := inferTop_uB hcB (ent := ent) (x := y) (by omega)
  have hbin : ∀ op : Str, op.length ≤ 2 → bX (binX op x y) ≤ 1073741824 := fun op h => by
    rw [bX_eq]; simp only [binX, Xpr.op, Xpr.name, Xpr.table, Xpr.val, Xpr.unit, Xpr.args, bVal, bSum, List.length_nil]; omega
  have hS0 := Shape_is (mx := mx) (binX [42] x y) (hbin _ (by decide))
  have hI1 := Infer_is (mx := mx) c ent (binX [42] x y) hcB (hbin _ (by decide))
  have hI2 := Infer_is (mx := mx) c ent (binX [47] x y) hcB (hbin _ (by decide))
  have hI3 := Infer_is (mx := mx) c ent (binX [45] x y) hcB (hbin _ (by decide))
  have hI4 := Infer_is (mx := mx) c ent (binX [60] x y) hcB (hbin _ (by decide))
  have hB1 := binE_is (mx := mx) [42] x y
  have hB2 := binE_is (mx := mx) [47] x y
  have hB3 := binE_is (mx := mx) [45] x y
  have hB4 := binE_is (mx := mx) [60] x y
  have hnx := num10_is (mx := mx) (inferTop c ent x).1
  have hny := num10_is (mx := mx) (inferTop c ent y).1
  by_cases hc : (inferTop c ent x).2 = 0 ∧ (inferTop c ent y).2 = 0 ∧ isNum (inferTop c ent x).1 = true ∧ isNum (inferTop c ent y).1 = true ∧ shapeX (binX [42] x y) = 0
  · obtain ⟨kc1, kc2, kc3, kc4, kc5⟩ := hc
    have s2 : shapeX (binX [47] x y) = 0 := by rw [← kc5]; exact shape_bin rfl rfl
    have s3 : shapeX (binX [45] x y) = 0 := by rw [← kc5]; exact shape_bin rfl rfl
    have s4 : shapeX (binX [60] x y) = 0 := by rw [← kc5]; exact shape_bin rfl rfl
    obtain ⟨f1, f2, f3, f4⟩ := units_facts _ _ kc3 kc4
    rw [infer_bin kc5 kc1 kc2, f1] at hI1
    rw [infer_bin s2 kc1 kc2, f2] at hI2
    rw [infer_bin s3 kc1 kc2, f3] at hI3
    rw [infer_bin s4 kc1 kc2, f4] at hI4
    clear f1 f2 f3 f4
    simp only [eRes, kc1, kc2] at hIx hIy
    rw [kc3] at hnx
    rw [kc4] at hny
    rw [kc5] at hS0
    generalize (inferTop c ent x).1 = a at *
    generalize (inferTop c ent y).1 = b at *
    have kz : decide ((0 : Int) ≠ 0) = false := rfl
    have hT := Times_is (mx := mx) a.unit b.unit hux huy
    have hO := Over_is (mx := mx) a.unit b.unit hux huy
    have hE := Same_is (mx := mx) a.unit b.unit (by unfold uB at hux; omega)
    have hpl := prodU_len a.unit b.unit 1
    have hol := prodU_len a.unit b.unit (-1)
    generalize prodU a.unit b.unit 1 = p at *
    generalize prodU a.unit b.unit (-1) = q at *
    simp only [eUn] at hT hO
    have hk : ∃ k : Int, k = if a.kind = 2 ∧ b.kind = 2 then 2 else 3 := ⟨_, rfl⟩
    obtain ⟨k, hk⟩ := hk
    rw [← hk] at hI1 hI3
    have key : ∀ (t1 t2 t3 t4 : Typ) (e1 e2 e3 e4 : Int), (if p.2 ≠ 0 then (noTyp, 70) else ((⟨k, p.1, []⟩ : Typ), 0)) = (t1, e1) → (if q.2 ≠ 0 then (noTyp, 70) else ((⟨3, q.1, []⟩ : Typ), 0)) = (t2, e2) →
        (if a.unit ≠ b.unit then (noTyp, 70) else ((⟨k, a.unit, []⟩ : Typ), 0)) = (t3, e3) → (if a.unit ≠ b.unit then (noTyp, 70) else (boolT, 0)) = (t4, e4) → Is mx 3 [.agg (eCat c), .str ent, .agg (eE x), .agg (eE y)] (.bool true) := by
      intro t1 t2 t3 t4 e1 e2 e3 e4 q1 q2 q3 q4
      rw [q1] at hI1; rw [q2] at hI2; rw [q3] at hI3; rw [q4] at hI4
      simp only [eRes] at hI1 hI2 hI3 hI4
      have u1 : uB t1 ∧ (p.2 = 0 ∧ e1 = 0 ∧ t1 = ⟨k, p.1, []⟩ ∨ p.2 ≠ 0 ∧ e1 = 70) := by
        by_cases hh : p.2 = 0
        · rw [if_neg (not_not_intro hh)] at q1; cases q1; exact ⟨by unfold uB; show p.1.length ≤ _; omega, .inl ⟨hh, rfl, rfl⟩⟩
        · rw [if_pos hh] at q1; cases q1; exact ⟨uB_no, .inr ⟨hh, rfl⟩⟩
      have u2 : uB t2 ∧ (q.2 = 0 ∧ e2 = 0 ∧ t2 = ⟨3, q.1, []⟩ ∨ q.2 ≠ 0 ∧ e2 = 70) := by
        by_cases hh : q.2 = 0
        · rw [if_neg (not_not_intro hh)] at q2; cases q2; exact ⟨by unfold uB; show q.1.length ≤ _; omega, .inl ⟨hh, rfl, rfl⟩⟩
        · rw [if_pos hh] at q2; cases q2; exact ⟨uB_no, .inr ⟨hh, rfl⟩⟩
      have u3 : uB t3 ∧ (a.unit = b.unit ∧ e3 = 0 ∧ t3 = ⟨k, a.unit, []⟩ ∨ a.unit ≠ b.unit ∧ e3 = 70) := by
        by_cases hh : a.unit = b.unit
        · rw [if_neg (not_not_intro hh)] at q3; cases q3; exact ⟨hux, .inl ⟨hh, rfl, rfl⟩⟩
        · rw [if_pos hh] at q3; cases q3; exact ⟨uB_no, .inr ⟨hh, rfl⟩⟩
      have u4 : (a.unit = b.unit ∧ e4 = 0 ∧ t4.kind = 1 ∨ a.unit ≠ b.unit ∧ e4 = 70) := by
        by_cases hh : a.unit = b.unit
        · rw [if_neg (not_not_intro hh)] at q4; cases q4; exact .inl ⟨hh, rfl, rfl⟩
        · rw [if_pos hh] at q4; cases q4; exact .inr ⟨hh, rfl⟩
      have hS1 := SameType_is (mx := mx) t1 ⟨k, p.1, []⟩ u1.1 (by show p.1.length ≤ _; omega)
      have hS2 := SameType_is (mx := mx) t2 ⟨3, q.1, []⟩ u2.1 (by show q.1.length ≤ _; omega)
      have hS3 := SameType_is (mx := mx) t3 ⟨k, a.unit, []⟩ u3.1 hux
      clear q1 q2 q3 q4
      refine MC_of_J Tryz.func3 (by kernel_rfl) Tryz.ntmps3 rfl rfl comp3 rv3 rfl c3.eq_1 ?_
      (repeat' first
| exact hole _
| simp (maxSteps := 9999999) (disch := omega) only [go_sem, reduceCtorEq, Int.reduceToNat, Int.reduceNeg, Int.reduceLT, Int.reduceLE, Int.reduceEq, Int.reduceAdd, Int.reduceSub, Int.reduceMul, Nat.reduceAdd, Nat.reduceSub, Nat.reduceMul, Nat.reduceEqDiff, Nat.reduceBEq, Nat.reduceBneDiff, Nat.reduceLeDiff, Nat.reduceLT, reduceIte, R3, kz]
| refine' gdV_sc' rfl rfl (by simp only [V0, V1, Nat.reduceEqDiff, reduceIte]) (fun hq => ?_) (fun f => ?_) <;> try (have hq' := hq; try simp only [HB] at hq')
| refine' gdD_sc' rfl rfl (by simp only [V0, V1, Nat.reduceEqDiff, reduceIte]) (fun hq => ?_) (fun f => ?_) <;> try (have hq' := hq; try simp only [HB] at hq')
| refine gdV_intro (fun h => ?_) (fun h => ?_) <;> (have h' := h; try simp only [HB] at h'; try rewrite [h]; try simp only [h])
| refine condJ_intro (fun h => ?_) (fun h => ?_) <;> (have h' := h; try simp only [HB] at h'; try rewrite [h]; try simp only [h])
| refine pickE_intro (fun h => ?_) (fun h => ?_) <;> (have h' := h; try simp only [HB] at h'; try rewrite [h]; try simp only [h])
| refine gdD_intro (fun h => ?_) (fun h => ?_) <;> (have h' := h; try simp only [HB] at h'; try rewrite [h]; try simp only [h])
| refine callL_of (example_is) ?_
| refine callL_of (hIx) ?_
| refine callL_of (hIy) ?_
| refine callL_of (hnx) ?_
| refine callL_of (hny) ?_
| refine callL_of (hB1) ?_
| refine callL_of (hS0) ?_
| refine callG_I ?_ ?_
| refine callG_Iv ?_ ?_
| refine drJ_I (by simp only [R3]; rfl) ?_
| refine ret_I (R := isR _) ?_
| refine nxt_I (fun hr => ?_) (fun q hq => ?_)
| refine isnil_I (fun hnil b => ?_) (fun hnil => ?_)
| (refine And.intro ?_ ?_; focus omega))
      refine cutS [1, 4, 6, 7, 9, 10, 12] (by simp only [V0, V1, V2, V25, reduceIte, Nat.reduceEqDiff]; rfl) [] [] True ?_ (fun _ => ?_)
      · (repeat' first
| exact hole _
| simp (maxSteps := 9999999) (disch := omega) only [go_sem, reduceCtorEq, Int.reduceToNat, Int.reduceNeg, Int.reduceLT, Int.reduceLE, Int.reduceEq, Int.reduceAdd, Int.reduceSub, Int.reduceMul, Nat.reduceAdd, Nat.reduceSub, Nat.reduceMul, Nat.reduceEqDiff, Nat.reduceBEq, Nat.reduceBneDiff, Nat.reduceLeDiff, Nat.reduceLT, reduceIte, R3, kz]
| refine' gdV_sc' rfl rfl (by simp only [V0, V1, Nat.reduceEqDiff, reduceIte]) (fun hq => ?_) (fun f => ?_) <;> try (have hq' := hq; try simp only [HB] at hq')
| refine' gdD_sc' rfl rfl (by simp only [V0, V1, Nat.reduceEqDiff, reduceIte]) (fun hq => ?_) (fun f => ?_) <;> try (have hq' := hq; try simp only [HB] at hq')
| refine gdV_intro (fun h => ?_) (fun h => ?_) <;> (have h' := h; try simp only [HB] at h'; try rewrite [h]; try simp only [h])
| refine condJ_intro (fun h => ?_) (fun h => ?_) <;> (have h' := h; try simp only [HB] at h'; try rewrite [h]; try simp only [h])
| refine pickE_intro (fun h => ?_) (fun h => ?_) <;> (have h' := h; try simp only [HB] at h'; try rewrite [h]; try simp only [h])
| refine gdD_intro (fun h => ?_) (fun h => ?_) <;> (have h' := h; try simp only [HB] at h'; try rewrite [h]; try simp only [h])
| refine callL_of (hnx) ?_
| refine callL_of (hny) ?_
| refine callL_of (hB1) ?_
| refine callL_of (hS0) ?_
| refine ct_I ?_
| refine callG_I ?_ ?_
| refine callG_Iv ?_ ?_
| refine drJ_I (by simp only [R3]; rfl) ?_
| refine ret_I (R := isR _) ?_
| refine nxt_I (fun hr => ?_) (fun q hq => ?_)
| refine isnil_I (fun hnil b => ?_) (fun hnil => ?_)
| (refine And.intro ?_ ?_; focus omega))
      (repeat' first
| exact hole _
| simp (maxSteps := 9999999) (disch := omega) only [go_sem, reduceCtorEq, Int.reduceToNat, Int.reduceNeg, Int.reduceLT, Int.reduceLE, Int.reduceEq, Int.reduceAdd, Int.reduceSub, Int.reduceMul, Nat.reduceAdd, Nat.reduceSub, Nat.reduceMul, Nat.reduceEqDiff, Nat.reduceBEq, Nat.reduceBneDiff, Nat.reduceLeDiff, Nat.reduceLT, reduceIte, R3]
| refine' gdV_sc' rfl rfl (by simp only [V0, V1, Nat.reduceEqDiff, reduceIte]) (fun hq => ?_) (fun f => ?_) <;> try (have hq' := hq; try simp only [HB] at hq')
| refine' gdD_sc' rfl rfl (by simp only [V0, V1, Nat.reduceEqDiff, reduceIte]) (fun hq => ?_) (fun f => ?_) <;> try (have hq' := hq; try simp only [HB] at hq')
| refine gdV_intro (fun h => ?_) (fun h => ?_) <;> (have h' := h; try simp only [HB] at h'; try rewrite [h]; try simp only [h])
| refine condJ_intro (fun h => ?_) (fun h => ?_) <;> (have h' := h; try simp only [HB] at h'; try rewrite [h]; try simp only [h])
| refine pickE_intro (fun h => ?_) (fun h => ?_) <;> (have h' := h; try simp only [HB] at h'; try rewrite [h]; try simp only [h])
| refine gdD_intro (fun h => ?_) (fun h => ?_) <;> (have h' := h; try simp only [HB] at h'; try rewrite [h]; try simp only [h])
| refine callL_of (hnx) ?_
| refine callG_I ?_ ?_
| refine callG_Iv ?_ ?_
| refine drJ_I (by simp only [R3]; rfl) ?_
| refine ret_I (R := isR _) ?_
| refine nxt_I (fun hr => ?_) (fun q hq => ?_)
| refine isnil_I (fun hnil b => ?_) (fun hnil => ?_)
| (refine And.intro ?_ ?_; focus omega))
      refine cutS [1, 4, 6, 7, 9, 10, 12] (by simp only [V0, V1, V2, V25, reduceIte, Nat.reduceEqDiff]; rfl) [(14, .i (iI k))] [] True ?_ (fun _ => ?_)
      · by_cases hk2 : a.kind = 2 ∧ b.kind = 2
        · rw [if_pos hk2] at hk
          (repeat' first
| exact hole _
| simp (maxSteps := 9999999) (disch := omega) only [go_sem, reduceCtorEq, Int.reduceToNat, Int.reduceNeg, Int.reduceLT, Int.reduceLE, Int.reduceEq, Int.reduceAdd, Int.reduceSub, Int.reduceMul, Nat.reduceAdd, Nat.reduceSub, Nat.reduceMul, Nat.reduceEqDiff, Nat.reduceBEq, Nat.reduceBneDiff, Nat.reduceLeDiff, Nat.reduceLT, reduceIte, R3, hk, hk2.1, hk2.2]
| refine' gdV_sc' rfl rfl (by simp only [V0, V1, Nat.reduceEqDiff, reduceIte]) (fun hq => ?_) (fun f => ?_) <;> try (have hq' := hq; try simp only [HB] at hq')
| refine' gdD_sc' rfl rfl (by simp only [V0, V1, Nat.reduceEqDiff, reduceIte]) (fun hq => ?_) (fun f => ?_) <;> try (have hq' := hq; try simp only [HB] at hq')
| refine gdV_intro (fun h => ?_) (fun h => ?_) <;> (have h' := h; try simp only [HB] at h'; try rewrite [h]; try simp only [h])
| refine condJ_intro (fun h => ?_) (fun h => ?_) <;> (have h' := h; try simp only [HB] at h'; try rewrite [h]; try simp only [h])
| refine pickE_intro (fun h => ?_) (fun h => ?_) <;> (have h' := h; try simp only [HB] at h'; try rewrite [h]; try simp only [h])
| refine gdD_intro (fun h => ?_) (fun h => ?_) <;> (have h' := h; try simp only [HB] at h'; try rewrite [h]; try simp only [h])
| refine callL_of (hnx) ?_
| refine ct_I ?_
| refine callG_I ?_ ?_
| refine callG_Iv ?_ ?_
| refine drJ_I (by simp only [R3]; rfl) ?_
| refine ret_I (R := isR _) ?_
| refine nxt_I (fun hr => ?_) (fun q hq => ?_)
| refine isnil_I (fun hnil b => ?_) (fun hnil => ?_)
| (refine And.intro ?_ ?_; focus omega))
        · rw [if_neg hk2] at hk
          have hd : (decide (a.kind = 2) && decide (b.kind = 2)) = false := by rw [← Bool.decide_and]; exact decide_eq_false hk2
          (repeat' first
| exact hole _
| simp (maxSteps := 9999999) (disch := omega) only [go_sem, reduceCtorEq, Int.reduceToNat, Int.reduceNeg, Int.reduceLT, Int.reduceLE, Int.reduceEq, Int.reduceAdd, Int.reduceSub, Int.reduceMul, Nat.reduceAdd, Nat.reduceSub, Nat.reduceMul, Nat.reduceEqDiff, Nat.reduceBEq, Nat.reduceBneDiff, Nat.reduceLeDiff, Nat.reduceLT, reduceIte, R3, hk, hd]
| refine' gdV_sc' rfl rfl (by simp only [V0, V1, Nat.reduceEqDiff, reduceIte]) (fun hq => ?_) (fun f => ?_) <;> try (have hq' := hq; try simp only [HB] at hq')
| refine' gdD_sc' rfl rfl (by simp only [V0, V1, Nat.reduceEqDiff, reduceIte]) (fun hq => ?_) (fun f => ?_) <;> try (have hq' := hq; try simp only [HB] at hq')
| refine gdV_intro (fun h => ?_) (fun h => ?_) <;> (have h' := h; try simp only [HB] at h'; try rewrite [h]; try simp only [h])
| refine condJ_intro (fun h => ?_) (fun h => ?_) <;> (have h' := h; try simp only [HB] at h'; try rewrite [h]; try simp only [h])
| refine pickE_intro (fun h => ?_) (fun h => ?_) <;> (have h' := h; try simp only [HB] at h'; try rewrite [h]; try simp only [h])
| refine gdD_intro (fun h => ?_) (fun h => ?_) <;> (have h' := h; try simp only [HB] at h'; try rewrite [h]; try simp only [h])
| refine callL_of (hnx) ?_
| refine ct_I ?_
| refine callG_I ?_ ?_
| refine callG_Iv ?_ ?_
| refine drJ_I (by simp only [R3]; rfl) ?_
| refine ret_I (R := isR _) ?_
| refine nxt_I (fun hr => ?_) (fun q hq => ?_)
| refine isnil_I (fun hnil b => ?_) (fun hnil => ?_)
| (refine And.intro ?_ ?_; focus omega))
      (repeat' first
| exact hole _
| simp (maxSteps := 9999999) (disch := omega) only [go_sem, reduceCtorEq, Int.reduceToNat, Int.reduceNeg, Int.reduceLT, Int.reduceLE, Int.reduceEq, Int.reduceAdd, Int.reduceSub, Int.reduceMul, Nat.reduceAdd, Nat.reduceSub, Nat.reduceMul, Nat.reduceEqDiff, Nat.reduceBEq, Nat.reduceBneDiff, Nat.reduceLeDiff, Nat.reduceLT, reduceIte, R3]
| refine' gdV_sc' rfl rfl (by simp only [V0, V1, Nat.reduceEqDiff, reduceIte]) (fun hq => ?_) (fun f => ?_) <;> try (have hq' := hq; try simp only [HB] at hq')
| refine' gdD_sc' rfl rfl (by simp only [V0, V1, Nat.reduceEqDiff, reduceIte]) (fun hq => ?_) (fun f => ?_) <;> try (have hq' := hq; try simp only [HB] at hq')
| refine gdV_intro (fun h => ?_) (fun h => ?_) <;> (have h' := h; try simp only [HB] at h'; try rewrite [h]; try simp only [h])
| refine condJ_intro (fun h => ?_) (fun h => ?_) <;> (have h' := h; try simp only [HB] at h'; try rewrite [h]; try simp only [h])
| refine pickE_intro (fun h => ?_) (fun h => ?_) <;> (have h' := h; try simp only [HB] at h'; try rewrite [h]; try simp only [h])
| refine gdD_intro (fun h => ?_) (fun h => ?_) <;> (have h' := h; try simp only [HB] at h'; try rewrite [h]; try simp only [h])
| refine callL_of (hT) ?_
| refine callL_of (hO) ?_
| refine callL_of (hE) ?_
| refine callL_of (hB1) ?_
| refine callL_of (hB2) ?_
| refine callL_of (hB3) ?_
| refine callL_of (hB4) ?_
| refine callL_of (hI1) ?_
| refine callL_of (hI2) ?_
| refine callL_of (hI3) ?_
| refine callL_of (hI4) ?_
| refine callL_of (hS1) ?_
| refine callL_of (hS2) ?_
| refine callL_of (hS3) ?_
| refine ct_I ?_
| refine callG_I ?_ ?_
| refine callG_Iv ?_ ?_
| refine drJ_I (by simp only [R3]; rfl) ?_
| refine ret_I (R := isR _) ?_
| refine nxt_I (fun hr => ?_) (fun q hq => ?_)
| refine isnil_I (fun hnil b => ?_) (fun hnil => ?_)
| (refine And.intro ?_ ?_; focus omega))
      · rcases u1.2 with ⟨z1, z2, z3⟩ | ⟨z1, z2⟩
        · simp [z1, z2, z3] at h'
        · simp [z1, z2] at h'
      · rcases u2.2 with ⟨z1, z2, z3⟩ | ⟨z1, z2⟩
        · simp [z1, z2, z3] at h'
        · simp [z1, z2] at h'
      · rcases u3.2 with ⟨z1, z2, z3⟩ | ⟨z1, z2⟩
        · exact absurd z1 h'
        · rcases u4 with ⟨y1, y2, y3⟩ | ⟨y1, y2⟩
          · exact absurd y1 h'
          · rw [z2, y2]; rfl
      · rcases u3.2 with ⟨z1, z2, z3⟩ | ⟨z1, z2⟩
        · rcases u4 with ⟨y1, y2, y3⟩ | ⟨y1, y2⟩
          · rw [z2, y2, z3, y3]; simp
          · exact absurd h' y1
        · exact absurd h' z1
    exact key _ _ _ _ _ _ _ _ rfl rfl rfl rfl
  · simp only [eRes] at hIx hIy
    have hneg : (decide ((inferTop c ent x).2 ≠ 0) || decide ((inferTop c ent y).2 ≠ 0) || !isNum (inferTop c ent x).1 || !isNum (inferTop c ent y).1 || decide (shapeX (binX [42] x y) ≠ 0)) = true := by
      cases hh : (decide ((inferTop c ent x).2 ≠ 0) || decide ((inferTop c ent y).2 ≠ 0) || !isNum (inferTop c ent x).1 || !isNum (inferTop c ent y).1 || decide (shapeX (binX [42] x y) ≠ 0)) with
      | true => rfl
      | false =>
        simp only [Bool.or_eq_false_iff, decide_eq_false_iff_not, Decidable.not_not, Bool.not_eq_false'] at hh
        exact absurd ⟨hh.1.1.1.1, hh.1.1.1.2, hh.1.1.2, hh.1.2, hh.2⟩ hc
    refine MC_of_J Tryz.func3 (by kernel_rfl) Tryz.ntmps3 rfl rfl comp3 rv3 rfl c3.eq_1 ?_
    (repeat' first
| exact hole _
| simp (maxSteps := 9999999) (disch := omega) only [go_sem, reduceCtorEq, Int.reduceToNat, Int.reduceNeg, Int.reduceLT, Int.reduceLE, Int.reduceEq, Int.reduceAdd, Int.reduceSub, Int.reduceMul, Nat.reduceAdd, Nat.reduceSub, Nat.reduceMul, Nat.reduceEqDiff, Nat.reduceBEq, Nat.reduceBneDiff, Nat.reduceLeDiff, Nat.reduceLT, reduceIte, R3, hneg]
| refine' gdV_sc' rfl rfl (by simp only [V0, V1, Nat.reduceEqDiff, reduceIte]) (fun hq => ?_) (fun f => ?_) <;> try (have hq' := hq; try simp only [HB] at hq')
| refine' gdD_sc' rfl rfl (by simp only [V0, V1, Nat.reduceEqDiff, reduceIte]) (fun hq => ?_) (fun f => ?_) <;> try (have hq' := hq; try simp only [HB] at hq')
| refine gdV_intro (fun h => ?_) (fun h => ?_) <;> (have h' := h; try simp only [HB] at h'; try rewrite [h]; try simp only [h])
| refine condJ_intro (fun h => ?_) (fun h => ?_) <;> (have h' := h; try simp only [HB] at h'; try rewrite [h]; try simp only [h])
| refine pickE_intro (fun h => ?_) (fun h => ?_) <;> (have h' := h; try simp only [HB] at h'; try rewrite [h]; try simp only [h])
| refine gdD_intro (fun h => ?_) (fun h => ?_) <;> (have h' := h; try simp only [HB] at h'; try rewrite [h]; try simp only [h])
| refine callL_of (example_is) ?_
| refine callL_of (hIx) ?_
| refine callL_of (hIy) ?_
| refine callL_of (hnx) ?_
| refine callL_of (hny) ?_
| refine callL_of (hB1) ?_
| refine callL_of (hS0) ?_
| refine ct_I ?_
| refine callG_I ?_ ?_
| refine callG_Iv ?_ ?_
| refine drJ_I (by simp only [R3]; rfl) ?_
| refine ret_I (R := isR _) ?_
| refine nxt_I (fun hr => ?_) (fun q hq => ?_)
| refine isnil_I (fun hnil b => ?_) (fun hnil => ?_)
| (refine And.intro ?_ ?_; focus omega))

end Go.Proofs.YtihbaggjjglcbaaGreatDoor
end

section
set_option maxRecDepth 100000
set_option maxHeartbeats 8000000
set_option linter.unusedVariables false
set_option linter.unusedSimpArgs false
namespace Go.Proofs.YtihbaggjjglcbaaGreatDoor
open Go Go.Dl Go.As Go.RowKit Go.ChangeShapes Go.WideShapes
/-- CheckerUnits: the call, in a world, at arguments of bulk at most the bound. -/
theorem contract_checkerUnits (H : Type) (enc : TypeId × Value → H) (W : World) (base : Nat) (args : Array Value) (ds gs : List (DataW H)) (before : List MemPlace)
    (hval : ∀ (j : Nat) t v, Tryz.f3.params[j]? = some t → args[j]? = some v → Value.okWide Tryz.prog W .any base t v)
    (hW : DataW.Whole enc Tryz.prog Tryz.f3.params.toList Rows.checkerUnitsSpec.vars false W args.toList ds gs before) (hk : Rows.uptoSmall H (ds ++ gs) = true) (hL : laidMetH Tryz.prog laidL W) (hsh : W.ShapedOpen Tryz.prog) :
    Calls Tryz.prog 3 args W fun e W' => ∃ v, e = .returned v ∧ Rows.checkerUnitsSpec.post enc Tryz.prog Tryz.f3 false true false false W args v W' := by
  have hW' := hW
  obtain ⟨p, q, hA0, hV, rfl, _, _⟩ := hW
  obtain ⟨rfl, rfl⟩ := trodVars_none hV
  have hA : DataW.TrodAll enc Tryz.prog W 0 (fun _ => true) true [25, 9, 33, 33] args.toList ds p := hA0
  obtain ⟨hlen, hrd⟩ := rdAll hA
  have hb : Rows.uptoBulkAll (ds ++ []) ≤ 1048576 := of_decide_eq_true hk
  rw [List.append_nil, bulks_eq] at hb
  obtain ⟨d1, d2, d3, d4, rfl⟩ : ∃ d1 d2 d3 d4, ds = [d1, d2, d3, d4] := by
    match ds, hlen with
    | [d1, d2, d3, d4], _ => exact ⟨d1, d2, d3, d4, rfl⟩
  obtain ⟨n1, r1⟩ := hrd 0 (by simp) (by simp)
  replace r1 : Rd Tryz.prog n1 25 d1 := r1
  obtain ⟨n2, r2⟩ := hrd 1 (by simp) (by simp)
  replace r2 : Rd Tryz.prog n2 9 d2 := r2
  obtain ⟨n3, r3⟩ := hrd 2 (by simp) (by simp)
  replace r3 : Rd Tryz.prog n3 33 d3 := r3
  obtain ⟨n4, r4⟩ := hrd 3 (by simp) (by simp)
  replace r4 : Rd Tryz.prog n4 33 d4 := r4
  obtain ⟨x1, f1, b1, _⟩ := cat_rd r1
  obtain ⟨x2, e2⟩ := r2.str (by kernel_rfl)
  have f2 : flatD d2 = [.str x2] := by rw [e2]; rfl
  have b2 : x2.length + 1 = bulkD d2 := by rw [e2]; rfl
  obtain ⟨x3, f3, b3, _⟩ := expr_rd _ _ r3
  obtain ⟨x4, f4, b4, _⟩ := expr_rd _ _ r4
  simp only [bulkL] at hb
  obtain ⟨mx, hg⟩ := glob_ok hL hsh
  have hrep := args_rep plainLok (ts := [25, 9, 33, 33]) (ds := [d1, d2, d3, d4]) (by decide) (fun j t v h1 h2 => hval j t v (by simpa using h1) (by simpa using h2)) hA
  have g1 : argI Tryz.prog 25 (flatD d1) = .agg (eCat x1) := by rw [f1]; exact argI_S Tryz.underlying25
  have g2 : argI Tryz.prog 9 (flatD d2) = .str x2 := by rw [f2]; exact argI_1 (by rw [Tryz.underlying9]; intro fs h; cases h)
  have g3 : argI Tryz.prog 33 (flatD d3) = .agg (eE x3) := by rw [f3]; exact argI_S Tryz.underlying33
  have g4 : argI Tryz.prog 33 (flatD d4) = .agg (eE x4) := by rw [f4]; exact argI_S Tryz.underlying33
  have he : argsI Tryz.prog [25, 9, 33, 33] [d1, d2, d3, d4] = [.agg (eCat x1), .str x2, .agg (eE x3), .agg (eE x4)] := by simp only [argsI, g1, g2, g3, g4]
  rw [he] at hrep
  have hc := calls_of_MC (by kernel_rfl) (law_units (mx := mx) x1 x2 x3 x4 (by omega)) hg hrep
  refine hc.mono ?_
  rintro e W' ⟨v, M', rfl, hv, hbl⟩
  obtain rfl : v = .bool true := by cases hv; rfl
  refine ⟨_, rfl, post_true laidOutP (by kernel_rfl) rfl rfl Tryz.underlying4 (fun ys hy => ?_) hW' hbl⟩
  match ys, hy with
  | [y0, y1, y2, y3], _ => rfl
theorem witness_checkerUnits (os : Os) {H : Type} (enc : TypeId × Value → H) :
    (Rows.OpenSpec.upto Rows.checkerUnitsSpec).preRow enc Tryz.prog Tryz.f3 Rows.checkerUnitsUptoRow.domain false Rows.checkerUnitsUptoRow.laid ((laidWorld os).forCall (fun _ _ => 0) ⟨#[], #[.agg #[.slice none 0 0, .slice none 0 0, .slice none 0 0, .slice none 0 0], .string ⟨#[]⟩, .agg #[.int .i64 0, .string ⟨#[]⟩, .string ⟨#[]⟩, .string ⟨#[]⟩, .int .i64 0, .int .i64 0, .string ⟨#[]⟩, .slice none 0 0, .int .i64 0, .int .i64 0, .int .i64 0, .slice none 0 0], .agg #[.int .i64 0, .string ⟨#[]⟩, .string ⟨#[]⟩, .string ⟨#[]⟩, .int .i64 0, .int .i64 0, .string ⟨#[]⟩, .slice none 0 0, .int .i64 0, .int .i64 0, .int .i64 0, .slice none 0 0]], []⟩).memory #[.agg #[.slice none 0 0, .slice none 0 0, .slice none 0 0, .slice none 0 0], .string ⟨#[]⟩, .agg #[.int .i64 0, .string ⟨#[]⟩, .string ⟨#[]⟩, .string ⟨#[]⟩, .int .i64 0, .int .i64 0, .string ⟨#[]⟩, .slice none 0 0, .int .i64 0, .int .i64 0, .int .i64 0, .slice none 0 0], .agg #[.int .i64 0, .string ⟨#[]⟩, .string ⟨#[]⟩, .string ⟨#[]⟩, .int .i64 0, .int .i64 0, .string ⟨#[]⟩, .slice none 0 0, .int .i64 0, .int .i64 0, .int .i64 0, .slice none 0 0]] := by
  have hw : (DataW.whole enc Tryz.prog ((laidWorld os).forCall (fun _ _ => 0) ⟨#[], #[.agg #[.slice none 0 0, .slice none 0 0, .slice none 0 0, .slice none 0 0], .string ⟨#[]⟩, .agg #[.int .i64 0, .string ⟨#[]⟩, .string ⟨#[]⟩, .string ⟨#[]⟩, .int .i64 0, .int .i64 0, .string ⟨#[]⟩, .slice none 0 0, .int .i64 0, .int .i64 0, .int .i64 0, .slice none 0 0], .agg #[.int .i64 0, .string ⟨#[]⟩, .string ⟨#[]⟩, .string ⟨#[]⟩, .int .i64 0, .int .i64 0, .string ⟨#[]⟩, .slice none 0 0, .int .i64 0, .int .i64 0, .int .i64 0, .slice none 0 0]], []⟩).memory Tryz.f3.params.toList (Rows.OpenSpec.upto Rows.checkerUnitsSpec).vars false (#[.agg #[.slice none 0 0, .slice none 0 0, .slice none 0 0, .slice none 0 0], .string ⟨#[]⟩, .agg #[.int .i64 0, .string ⟨#[]⟩, .string ⟨#[]⟩, .string ⟨#[]⟩, .int .i64 0, .int .i64 0, .string ⟨#[]⟩, .slice none 0 0, .int .i64 0, .int .i64 0, .int .i64 0, .slice none 0 0], .agg #[.int .i64 0, .string ⟨#[]⟩, .string ⟨#[]⟩, .string ⟨#[]⟩, .int .i64 0, .int .i64 0, .string ⟨#[]⟩, .slice none 0 0, .int .i64 0, .int .i64 0, .int .i64 0, .slice none 0 0]] : Array Value).toList 12).map (fun x => (x.1, x.2.1)) =
      some ([.agg [.nil, .nil, .nil, .nil], .lit (.string []), .agg [.lit (.int .i64 0), .lit (.string []), .lit (.string []), .lit (.string []), .agg [.lit (.int .i64 0), .lit (.int .i64 0), .lit (.string [])], .nil, .lit (.int .i64 0), .agg [.lit (.int .i64 0), .lit (.int .i64 0)], .nil], .agg [.lit (.int .i64 0), .lit (.string []), .lit (.string []), .lit (.string []), .agg [.lit (.int .i64 0), .lit (.int .i64 0), .lit (.string [])], .nil, .lit (.int .i64 0), .agg [.lit (.int .i64 0), .lit (.int .i64 0)], .nil]], []) := by kernel_rfl
  obtain ⟨⟨x1, x2, x3⟩, hx, hx1⟩ := Option.map_eq_some_iff.1 hw
  simp only [Prod.mk.injEq] at hx1
  obtain ⟨rfl, rfl⟩ := hx1
  exact OpenSpec.preRow_of_cond 12 hx (by kernel_rfl) (fun k hk => by cases hk; kernel_rfl) (by kernel_rfl) (laid_met os _)
theorem lifted_checkerUnits (os : Os) (started : os.Started) (H : Type) (enc : TypeId × Value → H) (F : Stop.Interp) :
    ReturnsInHanded {} Tryz.checked os 3 .any ((Rows.OpenSpec.upto Rows.checkerUnitsSpec).preRow enc Tryz.prog Tryz.f3 Rows.checkerUnitsUptoRow.domain false Rows.checkerUnitsUptoRow.laid) (((Rows.OpenSpec.upto Rows.checkerUnitsSpec).at F).post enc Tryz.prog Tryz.f3 false true false false) := by
  refine returnsInHanded_of_row (C := Tryz.checked) (s := Rows.OpenSpec.upto Rows.checkerUnitsSpec) own started (by kernel_rfl) Tryz.func3
    (witness_row_atRef (enc := enc) (C := Tryz.checked) false (laidWorld os) #[.agg #[.slice none 0 0, .slice none 0 0, .slice none 0 0, .slice none 0 0], .string ⟨#[]⟩, .agg #[.int .i64 0, .string ⟨#[]⟩, .string ⟨#[]⟩, .string ⟨#[]⟩, .int .i64 0, .int .i64 0, .string ⟨#[]⟩, .slice none 0 0, .int .i64 0, .int .i64 0, .int .i64 0, .slice none 0 0], .agg #[.int .i64 0, .string ⟨#[]⟩, .string ⟨#[]⟩, .string ⟨#[]⟩, .int .i64 0, .int .i64 0, .string ⟨#[]⟩, .slice none 0 0, .int .i64 0, .int .i64 0, .int .i64 0, .slice none 0 0]] rfl (by kernel_rfl) (by kernel_rfl) (by kernel_rfl) (witness_checkerUnits os enc)) ?_
  intro W base args ds gs before hval hW _ hcond _ hL hsh _
  exact contract_checkerUnits H enc W base args ds gs before hval hW (hcond _ rfl) hL hsh
theorem said_checkerUnits : Rows.CheckerUnitsUptoSaid :=
  OpenClaim.holds_of_cond 3 Tryz.f3 rfl rfl rfl rfl rfl rfl rfl ⟨rfl, rfl, rfl, rfl, rfl⟩ rfl rfl rfl rfl rfl (by kernel_rfl) Tryz.func3 (by kernel_rfl)
    (of_decide_eq_true (by kernel_rfl)) (by unfold Func.isWrapper; first | (rw [if_pos (by decide +kernel)]; kernel_rfl) | (rw [if_neg (by decide +kernel)]; exact ⟨rfl, rfl⟩))
    (fun os started H enc _ F => by rw [OpenClaim.pre_eq_preRow]; exact lifted_checkerUnits os started H enc F)
theorem plain_checkerUnits (f : FuncId) (fn : Func) (hf : Tryz.pinned.checked.prog.funcNamed "asof/asoflaw10.CheckerUnits" = some f) (hfn : Tryz.pinned.checked.prog.funcs[f]? = some fn) :
    false = Tryz.pinned.checked.prog.looks [] ∧ ∀ (j : Nat) t, fn.params[j]? = some t → Tryz.pinned.checked.prog.wantsStandIn t = false := by
  obtain rfl : f = 3 := Option.some.inj ((show Tryz.prog.funcNamed "asof/asoflaw10.CheckerUnits" = some 3 by kernel_rfl).symm.trans hf) |>.symm
  obtain rfl : fn = Tryz.f3 := (Option.some.inj (Tryz.func3.symm.trans hfn)).symm
  refine ⟨by kernel_rfl, fun j t ht => ?_⟩
  have hm := Array.mem_of_getElem? ht
  have hall : (Tryz.f3.params.toList.all fun t => !Tryz.prog.wantsStandIn t) = true := by kernel_rfl
  have := List.all_eq_true.1 hall t (by simpa using hm)
  show Tryz.prog.wantsStandIn t = false
  simpa using this
/-- The card of CheckerUnits, second form. -/
theorem card_checkerUnits : Rows.CheckerUnitsUptoCardSaid :=
  Claim7.holds_tied_plain_at .later [] _ _ _ _ said_checkerUnits (fun _ h => by cases h) (by kernel_rfl) (fun _ h => by cases h) checkerUnitsUpto_row_tie rfl ⟨rfl, rfl⟩ (by kernel_rfl) rfl plain_checkerUnits (by kernel_rfl)
end Go.Proofs.YtihbaggjjglcbaaGreatDoor
end
