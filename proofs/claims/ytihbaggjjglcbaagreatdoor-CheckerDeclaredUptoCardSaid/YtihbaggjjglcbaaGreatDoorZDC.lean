/-
  Proved here: CheckerDeclared of asoflaw10 returns true, and leaves its arguments as they were, for every input whose values and letters, counted each time they are reached, are together at most 1048576, in a world where the three package-level lists of the checker hold what the program text lays.
-/
import Derived.Test.YtihbaggjjglcbaaGreatDoorJ36
set_option linter.unusedVariables false
set_option linter.unusedSimpArgs false

section
set_option maxRecDepth 100000
set_option maxHeartbeats 8000000
set_option linter.unusedVariables false
set_option linter.unusedSimpArgs false
namespace Go.Proofs.YtihbaggjjglcbaaGreatDoor
open Go Go.Dl Go.As Go.Proofs
variable {mx : Int}
attribute [local irreducible] callG callL MC W W2 evT ev evD step stepD

theorem bCat_more (c : Cat) (ts : List Tbl) (fs : List Ftr) : bCat (more c ts fs) = bCat c + bSum bTbl ts + bSum bFtr fs := by
  simp only [bCat, more, bSum_append]; omega
theorem take_len {α : Type} (f : α → List I) (l : List α) : List.take l.length (List.map f l) = List.map f l := by rw [List.take_of_length_le]; simp
theorem take_len2 {α : Type} (f : α → List I) (l r : List α) : List.take (l.length + r.length) (List.map f l ++ List.map f r) = List.map f l ++ List.map f r := by rw [List.take_of_length_le]; simp
theorem law_weakening (c : Cat) (ent : Str) (x : Xpr) (ts : List Tbl) (fs : List Ftr) (hb : bCat c + bX x + bSum bTbl ts + bSum bFtr fs ≤ 1048576) :
    Is mx 5 [.agg (eCat c), .str ent, .agg (eE x), .sl (ts.map eTbl), .sl (fs.map eFtr)] (.bool true) := by
  have hcB := catB_of (c := c) (by omega)
  have hdB := catB_of (c := more c ts fs) (by rw [bCat_more]; omega)
  have hI := Infer_is (mx := mx) c ent x hcB (by omega)
  have hJ := Infer_is (mx := mx) (more c ts fs) ent x hdB (by omega)
  have hu := inferTop_uB hcB (ent := ent) (x := x) (by omega)
  have hW := weakening (c := c) (ts := ts) (fs := fs) (ent := ent) (x := x)
  have hlc : c.tables.length ≤ 1048576 ∧ c.features.length ≤ 1048576 ∧ ts.length ≤ 1048576 ∧ fs.length ≤ 1048576 := by
    have h1 := bSum_len (b := bTbl) (fun x => by unfold bTbl; omega) c.tables
    have h2 := bSum_len (b := bFtr) (fun x => by unfold bFtr; omega) c.features
    have h3 := bSum_len (b := bTbl) (fun x => by unfold bTbl; omega) ts
    have h4 := bSum_len (b := bFtr) (fun x => by unfold bFtr; omega) fs
    unfold bCat at hb; omega
  have hF : ∀ f ∈ c.features, Is mx 22 [.agg (eCat c), .agg (eFtr f)] (iI (featureT c f)) ∧ Is mx 22 [.agg (eCat (more c ts fs)), .agg (eFtr f)] (iI (featureT (more c ts fs) f)) := fun f hf => by
    have h1 := bSum_mem (b := bFtr) hf
    have h2 : bFtr f ≤ 1073741824 := by unfold bCat at hb; omega
    have h3 := bTyp_unit f.typ
    unfold bFtr at h2
    exact ⟨Feature_is c f hcB (by unfold uB; omega) (by omega), Feature_is _ f hdB (by unfold uB; omega) (by omega)⟩
  have hM := fun f => feature_more (c := c) (ts := ts) (fs := fs) (f := f)
  simp only [eCat, more, List.map_append, eRes] at hI hJ hF
  simp only [more] at hW hM
  by_cases h0 : (inferTop c ent x).2 = 0
  · rw [hW h0, h0] at hJ
    rw [h0] at hI
    have hS := SameType_is (mx := mx) (inferTop c ent x).1 (inferTop c ent x).1 hu hu
    generalize (inferTop c ent x).1 = a at hI hJ hS hu
    have r1 := rows_ok (f := eTbl) (k := 4) c.tables (fun _ => rfl) (fun _ => rfl)
    have r2 := rows_ok (f := eTbl) (k := 4) ts (fun _ => rfl) (fun _ => rfl)
    have r3 := rows_ok (f := eFtr) (k := 18) c.features ETl.2.2.2.2.2.2.2.1 EOne.2.2.2.2.2.1
    have r4 := rows_ok (f := eFtr) (k := 18) fs ETl.2.2.2.2.2.2.2.1 EOne.2.2.2.2.2.1
    refine MC_of_J Tryz.func5 (by kernel_rfl) Tryz.ntmps5 rfl rfl comp5 rv5 rfl c5.eq_1 ?_
    (repeat' first
| exact hole _
| simp (maxSteps := 9999999) (disch := omega) only [go_sem, reduceCtorEq, Int.reduceToNat, Int.reduceNeg, Int.reduceLT, Int.reduceLE, Int.reduceEq, Int.reduceAdd, Int.reduceSub, Int.reduceMul, Nat.reduceAdd, Nat.reduceSub, Nat.reduceMul, Nat.reduceEqDiff, Nat.reduceBEq, Nat.reduceBneDiff, Nat.reduceLeDiff, Nat.reduceLT, reduceIte, R5, eq_true r1.1, eq_true r1.2, eq_true r2.1, eq_true r2.2, eq_true r3.1, eq_true r3.2, eq_true r4.1, eq_true r4.2, Nat.zero_add, Nat.sub_zero, take_len, take_len2, ne_eq, not_true_eq_false]
| refine' gdV_sc' rfl rfl (by simp only [V0, V1, Nat.reduceEqDiff, reduceIte]) (fun hq => ?_) (fun f => ?_) <;> try (have hq' := hq; try simp only [HB] at hq')
| refine' gdD_sc' rfl rfl (by simp only [V0, V1, Nat.reduceEqDiff, reduceIte]) (fun hq => ?_) (fun f => ?_) <;> try (have hq' := hq; try simp only [HB] at hq')
| refine gdV_intro (fun h => ?_) (fun h => ?_) <;> (have h' := h; try simp only [HB] at h'; try rewrite [h]; try simp only [h])
| refine condJ_intro (fun h => ?_) (fun h => ?_) <;> (have h' := h; try simp only [HB] at h'; try rewrite [h]; try simp only [h])
| refine pickE_intro (fun h => ?_) (fun h => ?_) <;> (have h' := h; try simp only [HB] at h'; try rewrite [h]; try simp only [h])
| refine gdD_intro (fun h => ?_) (fun h => ?_) <;> (have h' := h; try simp only [HB] at h'; try rewrite [h]; try simp only [h])
| refine callL_of (example_is) ?_
| refine callL_of (hI) ?_
| refine callL_of (hJ) ?_
| refine callL_of (hS) ?_
| refine ct_I ?_
| refine callG_I ?_ ?_
| refine callG_Iv ?_ ?_
| refine drJ_I (by simp only [R5]; rfl) ?_
| refine ret_I (R := isR _) ?_
| refine nxt_I (fun hr => ?_) (fun q hq => ?_)
| refine isnil_I (fun hnil b => ?_) (fun hnil => ?_)
| (refine And.intro ?_ ?_; focus omega))
    refine loopS (L5_0.eq_1 0) [5, 11, 14] (by simp only [V0, V1, V2, V25, reduceIte, Nat.reduceEqDiff]; rfl) (fun i => [(17, .i (iI i))]) (fun _ => [(14, .cells [.i (.sl (List.map eTbl c.tables ++ List.map eTbl ts)), .i (.sl (List.map eFtr c.features ++ List.map eFtr fs)), .i (.sl (List.map eFtr c.drafts)), .i (.sl (List.map eFtr c.past))])]) (fun _ => True) c.features.length 0 (by omega) trivial (by simp [V0, V1, V2, V11, V8, V15, Ref.nm, D.nms, inS, names]) ?_
    intro i hi _
    by_cases hi' : i < c.features.length
    · obtain ⟨k1, k2⟩ := hF _ (getD_mem hi')
      have k3 := hM (c.features.getD i default)
      (repeat' first
| exact hole _
| simp (maxSteps := 9999999) (disch := omega) only [go_sem, reduceCtorEq, Int.reduceToNat, Int.reduceNeg, Int.reduceLT, Int.reduceLE, Int.reduceEq, Int.reduceAdd, Int.reduceSub, Int.reduceMul, Nat.reduceAdd, Nat.reduceSub, Nat.reduceMul, Nat.reduceEqDiff, Nat.reduceBEq, Nat.reduceBneDiff, Nat.reduceLeDiff, Nat.reduceLT, reduceIte, R5, ltT hi']
| refine' gdV_sc' rfl rfl (by simp only [V0, V1, Nat.reduceEqDiff, reduceIte]) (fun hq => ?_) (fun f => ?_) <;> try (have hq' := hq; try simp only [HB] at hq')
| refine' gdD_sc' rfl rfl (by simp only [V0, V1, Nat.reduceEqDiff, reduceIte]) (fun hq => ?_) (fun f => ?_) <;> try (have hq' := hq; try simp only [HB] at hq')
| refine gdV_intro (fun h => ?_) (fun h => ?_) <;> (have h' := h; try simp only [HB] at h'; try rewrite [h]; try simp only [h])
| refine condJ_intro (fun h => ?_) (fun h => ?_) <;> (have h' := h; try simp only [HB] at h'; try rewrite [h]; try simp only [h])
| refine pickE_intro (fun h => ?_) (fun h => ?_) <;> (have h' := h; try simp only [HB] at h'; try rewrite [h]; try simp only [h])
| refine gdD_intro (fun h => ?_) (fun h => ?_) <;> (have h' := h; try simp only [HB] at h'; try rewrite [h]; try simp only [h])
| refine callL_of (k1) ?_
| refine callL_of (k2) ?_
| refine ct_I ?_
| refine callG_I ?_ ?_
| refine callG_Iv ?_ ?_
| refine drJ_I (by simp only [R5]; rfl) ?_
| refine ret_I (R := isR _) ?_
| refine nxt_I (fun hr => ?_) (fun q hq => ?_)
| refine isnil_I (fun hnil b => ?_) (fun hnil => ?_)
| (refine And.intro ?_ ?_; focus omega))
      · exact absurd (k3 h'.1) h'.2
      · exact hi'
    · (repeat' first
| exact hole _
| simp (maxSteps := 9999999) (disch := omega) only [go_sem, reduceCtorEq, Int.reduceToNat, Int.reduceNeg, Int.reduceLT, Int.reduceLE, Int.reduceEq, Int.reduceAdd, Int.reduceSub, Int.reduceMul, Nat.reduceAdd, Nat.reduceSub, Nat.reduceMul, Nat.reduceEqDiff, Nat.reduceBEq, Nat.reduceBneDiff, Nat.reduceLeDiff, Nat.reduceLT, reduceIte, R5, ltF hi']
| refine' gdV_sc' rfl rfl (by simp only [V0, V1, Nat.reduceEqDiff, reduceIte]) (fun hq => ?_) (fun f => ?_) <;> try (have hq' := hq; try simp only [HB] at hq')
| refine' gdD_sc' rfl rfl (by simp only [V0, V1, Nat.reduceEqDiff, reduceIte]) (fun hq => ?_) (fun f => ?_) <;> try (have hq' := hq; try simp only [HB] at hq')
| refine gdV_intro (fun h => ?_) (fun h => ?_) <;> (have h' := h; try simp only [HB] at h'; try rewrite [h]; try simp only [h])
| refine condJ_intro (fun h => ?_) (fun h => ?_) <;> (have h' := h; try simp only [HB] at h'; try rewrite [h]; try simp only [h])
| refine pickE_intro (fun h => ?_) (fun h => ?_) <;> (have h' := h; try simp only [HB] at h'; try rewrite [h]; try simp only [h])
| refine gdD_intro (fun h => ?_) (fun h => ?_) <;> (have h' := h; try simp only [HB] at h'; try rewrite [h]; try simp only [h])
| refine callL_of (hI) ?_
| refine ct_I ?_
| refine callG_I ?_ ?_
| refine callG_Iv ?_ ?_
| refine drJ_I (by simp only [R5]; rfl) ?_
| refine ret_I (R := isR _) ?_
| refine nxt_I (fun hr => ?_) (fun q hq => ?_)
| refine isnil_I (fun hnil b => ?_) (fun hnil => ?_)
| (refine And.intro ?_ ?_; focus omega))
  · refine MC_of_J Tryz.func5 (by kernel_rfl) Tryz.ntmps5 rfl rfl comp5 rv5 rfl c5.eq_1 ?_
    (repeat' first
| exact hole _
| simp (maxSteps := 9999999) (disch := omega) only [go_sem, reduceCtorEq, Int.reduceToNat, Int.reduceNeg, Int.reduceLT, Int.reduceLE, Int.reduceEq, Int.reduceAdd, Int.reduceSub, Int.reduceMul, Nat.reduceAdd, Nat.reduceSub, Nat.reduceMul, Nat.reduceEqDiff, Nat.reduceBEq, Nat.reduceBneDiff, Nat.reduceLeDiff, Nat.reduceLT, reduceIte, R5, eq_false h0, ne_eq, not_false_eq_true]
| refine' gdV_sc' rfl rfl (by simp only [V0, V1, Nat.reduceEqDiff, reduceIte]) (fun hq => ?_) (fun f => ?_) <;> try (have hq' := hq; try simp only [HB] at hq')
| refine' gdD_sc' rfl rfl (by simp only [V0, V1, Nat.reduceEqDiff, reduceIte]) (fun hq => ?_) (fun f => ?_) <;> try (have hq' := hq; try simp only [HB] at hq')
| refine gdV_intro (fun h => ?_) (fun h => ?_) <;> (have h' := h; try simp only [HB] at h'; try rewrite [h]; try simp only [h])
| refine condJ_intro (fun h => ?_) (fun h => ?_) <;> (have h' := h; try simp only [HB] at h'; try rewrite [h]; try simp only [h])
| refine pickE_intro (fun h => ?_) (fun h => ?_) <;> (have h' := h; try simp only [HB] at h'; try rewrite [h]; try simp only [h])
| refine gdD_intro (fun h => ?_) (fun h => ?_) <;> (have h' := h; try simp only [HB] at h'; try rewrite [h]; try simp only [h])
| refine callL_of (example_is) ?_
| refine callL_of (hI) ?_
| refine ct_I ?_
| refine callG_I ?_ ?_
| refine callG_Iv ?_ ?_
| refine drJ_I (by simp only [R5]; rfl) ?_
| refine ret_I (R := isR _) ?_
| refine nxt_I (fun hr => ?_) (fun q hq => ?_)
| refine isnil_I (fun hnil b => ?_) (fun hnil => ?_)
| (refine And.intro ?_ ?_; focus omega))

end Go.Proofs.YtihbaggjjglcbaaGreatDoor
end

section
set_option maxRecDepth 100000
set_option maxHeartbeats 8000000
set_option linter.unusedVariables false
set_option linter.unusedSimpArgs false
namespace Go.Proofs.YtihbaggjjglcbaaGreatDoor
open Go Go.Dl Go.As Go.Proofs
variable {mx : Int}
attribute [local irreducible] callG callL MC W W2 evT ev evD step stepD

theorem ownE_none (d e k : Nat) (rows : List (List I)) (st : St) (K : St → Prop) : ownE none d e k rows st K = K ((st.bind d (.rows e k rows)).put d (.ref (.sl d k 0 rows.length))) := rfl
theorem law_declared (c : Cat) (f : Ftr) (hb : bCat c + bFtr f ≤ 1048576) : Is mx 6 [.agg (eCat c), .agg (eFtr f)] (.bool true) := by
  have hcB := catB_of (c := c) (by omega)
  have hd2 : bCat ⟨c.tables, f :: c.features, c.drafts, c.past⟩ = bCat c + bFtr f := by simp only [bCat, bSum]; omega
  have hdB := catB_of (c := ⟨c.tables, f :: c.features, c.drafts, c.past⟩) (by rw [hd2]; omega)
  have hlc : c.features.length ≤ 1048576 := by
    have h2 := bSum_len (b := bFtr) (fun x => by unfold bFtr; omega) c.features
    unfold bCat at hb; omega
  have hbf : f.name.length + f.entity.length + bTyp f.typ + bX f.body + 1 ≤ 1048576 := by unfold bFtr at hb; omega
  have hut := bTyp_unit f.typ
  have hI := Infer_is (mx := mx) c f.entity f.body hcB (by omega)
  have hu := inferTop_uB hcB (ent := f.entity) (x := f.body) (by omega)
  have hF := Feature_is (mx := mx) c f hcB (by unfold uB; omega) (by omega)
  have hT := Type_is (mx := mx) f.typ (by omega)
  have hS := SameType_is (mx := mx) (inferTop c f.entity f.body).1 f.typ hu (by omega)
  have hS2 := SameType_is (mx := mx) f.typ f.typ (by omega) (by omega)
  have hE := featureE_is (mx := mx) f.name
  have hbx : bX (featX f.name) ≤ 1073741824 := by rw [bX_eq]; simp only [featX, Xpr.op, Xpr.name, Xpr.table, Xpr.val, Xpr.unit, Xpr.args, bVal, bSum, List.length_nil]; omega
  have hJ := Infer_is (mx := mx) ⟨c.tables, f :: c.features, c.drafts, c.past⟩ f.entity (featX f.name) hdB hbx
  have hK := Infer_is (mx := mx) ⟨c.tables, f :: c.features, c.drafts, c.past⟩ (f.entity ++ [120]) (featX f.name) hdB hbx
  have hok := featureT_ok (c := c) (f := f)
  have e1 : nameOk f.name = true → inferTop ⟨c.tables, f :: c.features, c.drafts, c.past⟩ f.entity (featX f.name) = (f.typ, 0) := fun h => by
    rw [infer_feat h]; simp [namedT]
  have e2 : nameOk f.name = true → inferTop ⟨c.tables, f :: c.features, c.drafts, c.past⟩ (f.entity ++ [120]) (featX f.name) = (noTyp, 5) := fun h => by
    rw [infer_feat h]; simp [namedT]
  simp only [eCat, List.map_cons, eRes] at hI hJ hK
  have hb1 : (!(true == true)) = false := rfl
  have hb2 : (!(false == false)) = false := rfl
  have hb3 : decide ((0 : Int) = 0) = true := rfl
  have r3 := rows_ok (f := eFtr) (k := 18) c.features ETl.2.2.2.2.2.2.2.1 EOne.2.2.2.2.2.1
  have tk : List.take (1 + c.features.length) (eFtr f :: List.map eFtr c.features) = eFtr f :: List.map eFtr c.features := by rw [List.take_of_length_le]; simp; omega
  have hle : (1 + c.features.length ≤ c.features.length + 1) = True := eq_true (by omega)
  refine MC_of_J Tryz.func6 (by kernel_rfl) Tryz.ntmps6 rfl rfl comp6 rv6 rfl c6.eq_1 ?_
  by_cases h0 : featureT c f = 0
  · obtain ⟨p1, p2, p3, p4, p5, p6⟩ := hok.1 h0
    rw [e1 p1] at hJ
    rw [e2 p1] at hK
    rw [p5, p6] at hI
    rw [p6] at hS
    (repeat' first
| exact hole _
| simp (maxSteps := 9999999) (disch := omega) only [go_sem, reduceCtorEq, Int.reduceToNat, Int.reduceNeg, Int.reduceLT, Int.reduceLE, Int.reduceEq, Int.reduceAdd, Int.reduceSub, Int.reduceMul, Nat.reduceAdd, Nat.reduceSub, Nat.reduceMul, Nat.reduceEqDiff, Nat.reduceBEq, Nat.reduceBneDiff, Nat.reduceLeDiff, Nat.reduceLT, reduceIte, R6, h0, p1, p2, eq_true p3, p4, hb1, hb3, ownE_none, eq_true r3.1, eq_true r3.2, tk, hle, Nat.zero_add, Nat.sub_zero, List.length_cons, List.length_nil]
| refine' gdV_sc' rfl rfl (by simp only [V0, V1, Nat.reduceEqDiff, reduceIte]) (fun hq => ?_) (fun f => ?_) <;> try (have hq' := hq; try simp only [HB] at hq')
| refine' gdD_sc' rfl rfl (by simp only [V0, V1, Nat.reduceEqDiff, reduceIte]) (fun hq => ?_) (fun f => ?_) <;> try (have hq' := hq; try simp only [HB] at hq')
| refine gdV_intro (fun h => ?_) (fun h => ?_) <;> (have h' := h; try simp only [HB] at h'; try rewrite [h]; try simp only [h])
| refine condJ_intro (fun h => ?_) (fun h => ?_) <;> (have h' := h; try simp only [HB] at h'; try rewrite [h]; try simp only [h])
| refine pickE_intro (fun h => ?_) (fun h => ?_) <;> (have h' := h; try simp only [HB] at h'; try rewrite [h]; try simp only [h])
| refine gdD_intro (fun h => ?_) (fun h => ?_) <;> (have h' := h; try simp only [HB] at h'; try rewrite [h]; try simp only [h])
| refine callL_of (example_is) ?_
| refine callL_of (hI) ?_
| refine callL_of (hF) ?_
| refine callL_of (hT) ?_
| refine callL_of (hS) ?_
| refine callL_of (hS2) ?_
| refine callL_of (hE) ?_
| refine callL_of (hJ) ?_
| refine callL_of (hK) ?_
| refine callL_of (Name_is _) ?_
| refine ct_I ?_
| refine callG_I ?_ ?_
| refine callG_Iv ?_ ?_
| refine drJ_I (by simp only [R6]; rfl) ?_
| refine ret_I (R := isR _) ?_
| refine nxt_I (fun hr => ?_) (fun q hq => ?_)
| refine isnil_I (fun hnil b => ?_) (fun hnil => ?_)
| (refine And.intro ?_ ?_; focus omega))
  · have hno : (nameOk f.name && nameOk f.entity && decide (0 ≤ f.version) && decide (typeOk f.typ = 0) && decide ((inferTop c f.entity f.body).2 = 0) && decide ((inferTop c f.entity f.body).1 = f.typ)) = false := by
      rw [Bool.eq_false_iff]; intro hh
      simp only [Bool.and_eq_true, decide_eq_true_eq] at hh
      exact h0 (hok.2 ⟨hh.1.1.1.1.1, hh.1.1.1.1.2, hh.1.1.1.2, hh.1.1.2, hh.1.2, hh.2⟩)
    (repeat' first
| exact hole _
| simp (maxSteps := 9999999) (disch := omega) only [go_sem, reduceCtorEq, Int.reduceToNat, Int.reduceNeg, Int.reduceLT, Int.reduceLE, Int.reduceEq, Int.reduceAdd, Int.reduceSub, Int.reduceMul, Nat.reduceAdd, Nat.reduceSub, Nat.reduceMul, Nat.reduceEqDiff, Nat.reduceBEq, Nat.reduceBneDiff, Nat.reduceLeDiff, Nat.reduceLT, reduceIte, R6, eq_false h0, hno, hb2]
| refine' gdV_sc' rfl rfl (by simp only [V0, V1, Nat.reduceEqDiff, reduceIte]) (fun hq => ?_) (fun f => ?_) <;> try (have hq' := hq; try simp only [HB] at hq')
| refine' gdD_sc' rfl rfl (by simp only [V0, V1, Nat.reduceEqDiff, reduceIte]) (fun hq => ?_) (fun f => ?_) <;> try (have hq' := hq; try simp only [HB] at hq')
| refine gdV_intro (fun h => ?_) (fun h => ?_) <;> (have h' := h; try simp only [HB] at h'; try rewrite [h]; try simp only [h])
| refine condJ_intro (fun h => ?_) (fun h => ?_) <;> (have h' := h; try simp only [HB] at h'; try rewrite [h]; try simp only [h])
| refine pickE_intro (fun h => ?_) (fun h => ?_) <;> (have h' := h; try simp only [HB] at h'; try rewrite [h]; try simp only [h])
| refine gdD_intro (fun h => ?_) (fun h => ?_) <;> (have h' := h; try simp only [HB] at h'; try rewrite [h]; try simp only [h])
| refine callL_of (example_is) ?_
| refine callL_of (hI) ?_
| refine callL_of (hF) ?_
| refine callL_of (hT) ?_
| refine callL_of (hS) ?_
| refine callL_of (hE) ?_
| refine callL_of (Name_is _) ?_
| refine ct_I ?_
| refine callG_I ?_ ?_
| refine callG_Iv ?_ ?_
| refine drJ_I (by simp only [R6]; rfl) ?_
| refine ret_I (R := isR _) ?_
| refine nxt_I (fun hr => ?_) (fun q hq => ?_)
| refine isnil_I (fun hnil b => ?_) (fun hnil => ?_)
| (refine And.intro ?_ ?_; focus omega))

end Go.Proofs.YtihbaggjjglcbaaGreatDoor
end

section
set_option maxRecDepth 100000
set_option maxHeartbeats 8000000
set_option linter.unusedVariables false
set_option linter.unusedSimpArgs false
namespace Go.Proofs.YtihbaggjjglcbaaGreatDoor
open Go Go.Dl Go.As Go.RowKit Go.ChangeShapes Go.WideShapes
/-- CheckerDeclared: the call, in a world, at arguments of bulk at most the bound. -/
theorem contract_checkerDeclared (H : Type) (enc : TypeId × Value → H) (W : World) (base : Nat) (args : Array Value) (ds gs : List (DataW H)) (before : List MemPlace)
    (hval : ∀ (j : Nat) t v, Tryz.f6.params[j]? = some t → args[j]? = some v → Value.okWide Tryz.prog W .any base t v)
    (hW : DataW.Whole enc Tryz.prog Tryz.f6.params.toList Rows.checkerDeclaredSpec.vars false W args.toList ds gs before) (hk : Rows.uptoSmall H (ds ++ gs) = true) (hL : laidMetH Tryz.prog laidL W) (hsh : W.ShapedOpen Tryz.prog) :
    Calls Tryz.prog 6 args W fun e W' => ∃ v, e = .returned v ∧ Rows.checkerDeclaredSpec.post enc Tryz.prog Tryz.f6 false true false false W args v W' := by
  have hW' := hW
  obtain ⟨p, q, hA0, hV, rfl, _, _⟩ := hW
  obtain ⟨rfl, rfl⟩ := trodVars_none hV
  have hA : DataW.TrodAll enc Tryz.prog W 0 (fun _ => true) true [25, 58] args.toList ds p := hA0
  obtain ⟨hlen, hrd⟩ := rdAll hA
  have hb : Rows.uptoBulkAll (ds ++ []) ≤ 1048576 := of_decide_eq_true hk
  rw [List.append_nil, bulks_eq] at hb
  obtain ⟨d1, d2, rfl⟩ : ∃ d1 d2, ds = [d1, d2] := by
    match ds, hlen with
    | [d1, d2], _ => exact ⟨d1, d2, rfl⟩
  obtain ⟨n1, r1⟩ := hrd 0 (by simp) (by simp)
  replace r1 : Rd Tryz.prog n1 25 d1 := r1
  obtain ⟨n2, r2⟩ := hrd 1 (by simp) (by simp)
  replace r2 : Rd Tryz.prog n2 58 d2 := r2
  obtain ⟨x1, f1, b1, _⟩ := cat_rd r1
  obtain ⟨x2, f2, b2, _⟩ := ftr_rd r2
  simp only [bulkL] at hb
  obtain ⟨mx, hg⟩ := glob_ok hL hsh
  have hrep := args_rep plainLok (ts := [25, 58]) (ds := [d1, d2]) (by decide) (fun j t v h1 h2 => hval j t v (by simpa using h1) (by simpa using h2)) hA
  have g1 : argI Tryz.prog 25 (flatD d1) = .agg (eCat x1) := by rw [f1]; exact argI_S Tryz.underlying25
  have g2 : argI Tryz.prog 58 (flatD d2) = .agg (eFtr x2) := by rw [f2]; exact argI_S Tryz.underlying58
  have he : argsI Tryz.prog [25, 58] [d1, d2] = [.agg (eCat x1), .agg (eFtr x2)] := by simp only [argsI, g1, g2]
  rw [he] at hrep
  have hc := calls_of_MC (by kernel_rfl) (law_declared (mx := mx) x1 x2 (by omega)) hg hrep
  refine hc.mono ?_
  rintro e W' ⟨v, M', rfl, hv, hbl⟩
  obtain rfl : v = .bool true := by cases hv; rfl
  refine ⟨_, rfl, post_true laidOutP (by kernel_rfl) rfl rfl Tryz.underlying4 (fun ys hy => ?_) hW' hbl⟩
  match ys, hy with
  | [y0, y1], _ => rfl
theorem witness_checkerDeclared (os : Os) {H : Type} (enc : TypeId × Value → H) :
    (Rows.OpenSpec.upto Rows.checkerDeclaredSpec).preRow enc Tryz.prog Tryz.f6 Rows.checkerDeclaredUptoRow.domain false Rows.checkerDeclaredUptoRow.laid ((laidWorld os).forCall (fun _ _ => 0) ⟨#[], #[.agg #[.slice none 0 0, .slice none 0 0, .slice none 0 0, .slice none 0 0], .agg #[.string ⟨#[]⟩, .string ⟨#[]⟩, .int .i64 0, .slice none 0 0, .string ⟨#[]⟩, .int .i64 0, .string ⟨#[]⟩, .string ⟨#[]⟩, .string ⟨#[]⟩, .int .i64 0, .int .i64 0, .string ⟨#[]⟩, .slice none 0 0, .int .i64 0, .int .i64 0, .int .i64 0, .slice none 0 0, .int .i64 0]], []⟩).memory #[.agg #[.slice none 0 0, .slice none 0 0, .slice none 0 0, .slice none 0 0], .agg #[.string ⟨#[]⟩, .string ⟨#[]⟩, .int .i64 0, .slice none 0 0, .string ⟨#[]⟩, .int .i64 0, .string ⟨#[]⟩, .string ⟨#[]⟩, .string ⟨#[]⟩, .int .i64 0, .int .i64 0, .string ⟨#[]⟩, .slice none 0 0, .int .i64 0, .int .i64 0, .int .i64 0, .slice none 0 0, .int .i64 0]] := by
  have hw : (DataW.whole enc Tryz.prog ((laidWorld os).forCall (fun _ _ => 0) ⟨#[], #[.agg #[.slice none 0 0, .slice none 0 0, .slice none 0 0, .slice none 0 0], .agg #[.string ⟨#[]⟩, .string ⟨#[]⟩, .int .i64 0, .slice none 0 0, .string ⟨#[]⟩, .int .i64 0, .string ⟨#[]⟩, .string ⟨#[]⟩, .string ⟨#[]⟩, .int .i64 0, .int .i64 0, .string ⟨#[]⟩, .slice none 0 0, .int .i64 0, .int .i64 0, .int .i64 0, .slice none 0 0, .int .i64 0]], []⟩).memory Tryz.f6.params.toList (Rows.OpenSpec.upto Rows.checkerDeclaredSpec).vars false (#[.agg #[.slice none 0 0, .slice none 0 0, .slice none 0 0, .slice none 0 0], .agg #[.string ⟨#[]⟩, .string ⟨#[]⟩, .int .i64 0, .slice none 0 0, .string ⟨#[]⟩, .int .i64 0, .string ⟨#[]⟩, .string ⟨#[]⟩, .string ⟨#[]⟩, .int .i64 0, .int .i64 0, .string ⟨#[]⟩, .slice none 0 0, .int .i64 0, .int .i64 0, .int .i64 0, .slice none 0 0, .int .i64 0]] : Array Value).toList 12).map (fun x => (x.1, x.2.1)) =
      some ([.agg [.nil, .nil, .nil, .nil], .agg [.lit (.string []), .lit (.string []), .agg [.lit (.int .i64 0), .nil, .lit (.string [])], .agg [.lit (.int .i64 0), .lit (.string []), .lit (.string []), .lit (.string []), .agg [.lit (.int .i64 0), .lit (.int .i64 0), .lit (.string [])], .nil, .lit (.int .i64 0), .agg [.lit (.int .i64 0), .lit (.int .i64 0)], .nil], .lit (.int .i64 0)]], []) := by kernel_rfl
  obtain ⟨⟨x1, x2, x3⟩, hx, hx1⟩ := Option.map_eq_some_iff.1 hw
  simp only [Prod.mk.injEq] at hx1
  obtain ⟨rfl, rfl⟩ := hx1
  exact OpenSpec.preRow_of_cond 12 hx (by kernel_rfl) (fun k hk => by cases hk; kernel_rfl) (by kernel_rfl) (laid_met os _)
theorem lifted_checkerDeclared (os : Os) (started : os.Started) (H : Type) (enc : TypeId × Value → H) (F : Stop.Interp) :
    ReturnsInHanded {} Tryz.checked os 6 .any ((Rows.OpenSpec.upto Rows.checkerDeclaredSpec).preRow enc Tryz.prog Tryz.f6 Rows.checkerDeclaredUptoRow.domain false Rows.checkerDeclaredUptoRow.laid) (((Rows.OpenSpec.upto Rows.checkerDeclaredSpec).at F).post enc Tryz.prog Tryz.f6 false true false false) := by
  refine returnsInHanded_of_row (C := Tryz.checked) (s := Rows.OpenSpec.upto Rows.checkerDeclaredSpec) own started (by kernel_rfl) Tryz.func6
    (witness_row_atRef (enc := enc) (C := Tryz.checked) false (laidWorld os) #[.agg #[.slice none 0 0, .slice none 0 0, .slice none 0 0, .slice none 0 0], .agg #[.string ⟨#[]⟩, .string ⟨#[]⟩, .int .i64 0, .slice none 0 0, .string ⟨#[]⟩, .int .i64 0, .string ⟨#[]⟩, .string ⟨#[]⟩, .string ⟨#[]⟩, .int .i64 0, .int .i64 0, .string ⟨#[]⟩, .slice none 0 0, .int .i64 0, .int .i64 0, .int .i64 0, .slice none 0 0, .int .i64 0]] rfl (by kernel_rfl) (by kernel_rfl) (by kernel_rfl) (witness_checkerDeclared os enc)) ?_
  intro W base args ds gs before hval hW _ hcond _ hL hsh _
  exact contract_checkerDeclared H enc W base args ds gs before hval hW (hcond _ rfl) hL hsh
theorem said_checkerDeclared : Rows.CheckerDeclaredUptoSaid :=
  OpenClaim.holds_of_cond 6 Tryz.f6 rfl rfl rfl rfl rfl rfl rfl ⟨rfl, rfl, rfl, rfl, rfl⟩ rfl rfl rfl rfl rfl (by kernel_rfl) Tryz.func6 (by kernel_rfl)
    (of_decide_eq_true (by kernel_rfl)) (by unfold Func.isWrapper; first | (rw [if_pos (by decide +kernel)]; kernel_rfl) | (rw [if_neg (by decide +kernel)]; exact ⟨rfl, rfl⟩))
    (fun os started H enc _ F => by rw [OpenClaim.pre_eq_preRow]; exact lifted_checkerDeclared os started H enc F)
theorem plain_checkerDeclared (f : FuncId) (fn : Func) (hf : Tryz.pinned.checked.prog.funcNamed "asof/asoflaw10.CheckerDeclared" = some f) (hfn : Tryz.pinned.checked.prog.funcs[f]? = some fn) :
    false = Tryz.pinned.checked.prog.looks [] ∧ ∀ (j : Nat) t, fn.params[j]? = some t → Tryz.pinned.checked.prog.wantsStandIn t = false := by
  obtain rfl : f = 6 := Option.some.inj ((show Tryz.prog.funcNamed "asof/asoflaw10.CheckerDeclared" = some 6 by kernel_rfl).symm.trans hf) |>.symm
  obtain rfl : fn = Tryz.f6 := (Option.some.inj (Tryz.func6.symm.trans hfn)).symm
  refine ⟨by kernel_rfl, fun j t ht => ?_⟩
  have hm := Array.mem_of_getElem? ht
  have hall : (Tryz.f6.params.toList.all fun t => !Tryz.prog.wantsStandIn t) = true := by kernel_rfl
  have := List.all_eq_true.1 hall t (by simpa using hm)
  show Tryz.prog.wantsStandIn t = false
  simpa using this
/-- The card of CheckerDeclared, second form. -/
theorem card_checkerDeclared : Rows.CheckerDeclaredUptoCardSaid :=
  Claim7.holds_tied_plain_at .later [] _ _ _ _ said_checkerDeclared (fun _ h => by cases h) (by kernel_rfl) (fun _ h => by cases h) checkerDeclaredUpto_row_tie rfl ⟨rfl, rfl⟩ (by kernel_rfl) rfl plain_checkerDeclared (by kernel_rfl)
end Go.Proofs.YtihbaggjjglcbaaGreatDoor
end
