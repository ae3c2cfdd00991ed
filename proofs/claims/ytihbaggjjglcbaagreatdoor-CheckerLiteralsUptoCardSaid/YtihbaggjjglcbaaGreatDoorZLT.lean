/-
  Proved here: CheckerLiterals of asoflaw10 returns true, and leaves its arguments as they were, for every input whose values and letters, counted each time they are reached, are together at most 1048576, in a world where the three package-level lists of the checker hold what the program text lays.
-/
import Derived.Test.YtihbaggjjglcbaaGreatDoorK37
set_option linter.unusedVariables false
set_option linter.unusedSimpArgs false

section
set_option maxRecDepth 100000
set_option maxHeartbeats 8000000
set_option linter.unusedVariables false
set_option linter.unusedSimpArgs false
namespace Go.Proofs.YtihbaggjjglcbaaGreatDoor
open Go Go.Dl Go.As Go.Proofs
variable {mx : Int}
attribute [local irreducible] callG callL MC W W2 evT ev evD step stepD

theorem litOk_right (v : Val) (u : List Fac) (of : Str) : litOk (litX v u of) = (decide (valCheck v = 0) && decide (v.kind ≠ 0) && decide (0 ≤ v.n) &&
    (if v.kind = 2 ∨ v.kind = 3 then decide (of = []) && decide (unitCheck u = 0) && u.all (fun f => nameOk f.name) else if v.kind = 5 then decide (u.length = 0) && nameOk of else decide (u.length = 0) && decide (of = []))) := by
  have e1 : (litX v u of).val = v := rfl
  have e2 : (litX v u of).unit = u := rfl
  have e3 : (litX v u of).name = of := rfl
  have hn : nameOk [] = false := rfl
  have hall : u.any (fun f => !nameOk f.name) = !u.all (fun f => nameOk f.name) := List.not_all_eq_any_not.symm
  have hn0 : decide (v.n < 0) = !decide (0 ≤ v.n) := by rw [Bool.eq_iff_iff]; simp
  have hu0 : u.length = 0 → u = [] := List.length_eq_zero_iff.1
  have hq0 : u.length = 0 → u.all (fun f => nameOk f.name) = true := fun h => by rw [hu0 h]; rfl
  have hz0 : u.length = 0 → unitCheck u = 0 := fun h => by rw [hu0 h]; rfl
  simp only [litOk, e1, e2, e3, typeOk, ty1, ty2, ty3, isNum, hall, hn0]
  generalize u.all (fun f => nameOk f.name) = q at hq0 ⊢
  generalize unitCheck u = z at hz0 ⊢
  generalize u.length = n at hq0 hz0 ⊢
  clear hall hu0
  by_cases hv : valCheck v = 0
  · have hk : 0 ≤ v.kind ∧ v.kind ≤ 5 := by
      simp only [valCheck] at hv
      split at hv
      · cases hv
      · rename_i h; simp only [Bool.or_eq_true, decide_eq_true_eq, not_or] at h; omega
    have hk' : v.kind = 0 ∨ v.kind = 1 ∨ v.kind = 2 ∨ v.kind = 3 ∨ v.kind = 4 ∨ v.kind = 5 := by omega
    generalize decide (0 ≤ v.n) = nn
    rw [hv]
    by_cases h0 : n = 0
    · rw [hq0 h0, hz0 h0, h0]
      by_cases ho : of = []
      · subst ho
        rcases hk' with e | e | e | e | e | e <;> simp [e, hn]
      · rcases hk' with e | e | e | e | e | e <;> simp [e, ho]
        all_goals (generalize nameOk of = b; cases b <;> cases nn <;> rfl)
    · have hp : 0 < n := by omega
      by_cases ho : of = []
      · subst ho
        rcases hk' with e | e | e | e | e | e <;> simp [e, hn, h0, hp]
        all_goals (cases q <;> cases nn <;> by_cases hz : z = 0 <;> simp [hz])
      · rcases hk' with e | e | e | e | e | e <;> simp [e, ho, h0, hp]
  · simp [hv]

end Go.Proofs.YtihbaggjjglcbaaGreatDoor
end

section
set_option maxRecDepth 100000
set_option maxHeartbeats 8000000
set_option linter.unusedVariables false
set_option linter.unusedSimpArgs false
namespace Go.Proofs.YtihbaggjjglcbaaGreatDoor
open Go Go.Dl Go.As Go.Proofs
variable {mx : Int}
attribute [local irreducible] callG callL MC W W2 evT ev evD step stepD

def litA (v : Val) : Bool := decide (valCheck v = 0) && decide (v.kind ≠ 0) && decide (0 ≤ v.n)
theorem lenZ (u : List Fac) : decide ((u.length : Int) = 0) = decide (u.length = 0) := by rw [Bool.eq_iff_iff, decide_eq_true_eq, decide_eq_true_eq]; omega
theorem all_take_eq {α : Type} [Inhabited α] (p : α → Bool) (l : List α) (i : Nat) (hi : i < l.length) : (l.take (i + 1)).all p = ((l.take i).all p && p (l.getD i default)) := by
  rw [List.take_succ_eq_append_getElem hi, List.all_append, getD_lt hi]; simp
theorem law_literals (v : Val) (u : List Fac) (of : Str) (hb : bVal v + bSum bFac u + of.length ≤ 1048576) : Is mx 4 [.agg (eVal v), .sl (u.map eFac), .str of] (.bool true) := by
  have hul : u.length ≤ 1048576 := by have := bFac_len u; omega
  have hbx : bX (litX v u of) ≤ 1073741824 := by rw [bX_eq]; simp only [litX, Xpr.op, Xpr.name, Xpr.table, Xpr.val, Xpr.unit, Xpr.args, bSum, List.length_nil]; omega
  have hI := Infer_is (mx := mx) ⟨[], [], [], []⟩ sUser (litX v u of) (catB_of (by decide)) hbx
  rw [infer_lit] at hI
  have hV := valCheck_is (mx := mx) v
  have hU := unitCheck_is (mx := mx) u (by omega)
  have hT := Type_is (mx := mx) ⟨v.kind, u, of⟩ (by show u.length ≤ _; omega)
  have hH := valHas_is (mx := mx) v ⟨v.kind, u, of⟩
  have hS := SameType_is (mx := mx) ⟨v.kind, u, of⟩ ⟨v.kind, u, of⟩ (by show u.length ≤ _; omega) (by show u.length ≤ _; omega)
  have hR := litOk_right v u of
  have hok : litOk (litX v u of) = true → typeOk ⟨v.kind, u, of⟩ = 0 ∧ valHas v ⟨v.kind, u, of⟩ = true := fun h => by
    simp only [litOk, Bool.and_eq_true, decide_eq_true_eq] at h
    refine ⟨h.2, ?_⟩
    have h1 : valCheck v = 0 := h.1.1
    simp [valHas, h1]
  have hcells : eE (litX v u of) = [.int .i64 1, .str [], .str of, .str [], .int .i64 v.kind, .int .i64 v.n, .str v.s, .sl (u.map eFac), .int .i64 0, .int .i64 0, .int .i64 0, .sl []] := rfl
  simp only [eCat, List.map_nil, hcells] at hI
  generalize litOk (litX v u of) = R at hI hR hok
  have hI2 : ∃ (t : Typ) (e : Int), (if R = true then ((⟨v.kind, u, of⟩ : Typ), (0 : Int)) else (noTyp, 3)) = (t, e) := ⟨_, _, rfl⟩
  obtain ⟨t, e, hte⟩ := hI2
  rw [hte] at hI
  simp only [eRes] at hI
  refine MC_of_J Tryz.func4 (by kernel_rfl) Tryz.ntmps4 rfl rfl comp4 rv4 rfl c4.eq_1 ?_
  (repeat' first
| exact hole _
| simp (maxSteps := 9999999) (disch := omega) only [go_sem, reduceCtorEq, Int.reduceToNat, Int.reduceNeg, Int.reduceLT, Int.reduceLE, Int.reduceEq, Int.reduceAdd, Int.reduceSub, Int.reduceMul, Nat.reduceAdd, Nat.reduceSub, Nat.reduceMul, Nat.reduceEqDiff, Nat.reduceBEq, Nat.reduceBneDiff, Nat.reduceLeDiff, Nat.reduceLT, reduceIte, R4]
| refine' gdV_sc' rfl rfl (by simp only [V0, V1, Nat.reduceEqDiff, reduceIte]) (fun hq => ?_) (fun f => ?_) <;> try (have hq' := hq; try simp only [HB] at hq')
| refine' gdD_sc' rfl rfl (by simp only [V0, V1, Nat.reduceEqDiff, reduceIte]) (fun hq => ?_) (fun f => ?_) <;> try (have hq' := hq; try simp only [HB] at hq')
| refine gdV_intro (fun h => ?_) (fun h => ?_) <;> (have h' := h; try simp only [HB] at h'; try rewrite [h]; try simp only [h])
| refine condJ_intro (fun h => ?_) (fun h => ?_) <;> (have h' := h; try simp only [HB] at h'; try rewrite [h]; try simp only [h])
| refine pickE_intro (fun h => ?_) (fun h => ?_) <;> (have h' := h; try simp only [HB] at h'; try rewrite [h]; try simp only [h])
| refine gdD_intro (fun h => ?_) (fun h => ?_) <;> (have h' := h; try simp only [HB] at h'; try rewrite [h]; try simp only [h])
| refine callL_of (example_is) ?_
| refine callL_of (hI) ?_
| refine callL_of (hV) ?_
| refine callG_I ?_ ?_
| refine callG_Iv ?_ ?_
| refine drJ_I (by simp only [R4]; rfl) ?_
| refine ret_I (R := isR _) ?_
| refine nxt_I (fun hr => ?_) (fun q hq => ?_)
| refine isnil_I (fun hnil b => ?_) (fun hnil => ?_)
| (refine And.intro ?_ ?_; focus omega))
  refine cutS [1, 2, 3, 7, 9, 10] (by simp only [V0, V1, V2, V25, reduceIte, Nat.reduceEqDiff]; rfl) [(11, .i (.bool R))] [] True ?_ (fun _ => ?_)
  · by_cases h23 : v.kind = 2 ∨ v.kind = 3
    · have hR2 : R = (decide (valCheck v = 0) && decide (v.kind ≠ 0) && decide (0 ≤ v.n) && (decide (of = []) && decide (unitCheck u = 0) && u.all (fun f => nameOk f.name))) := by rw [hR, if_pos h23]
      have d49 : decide (v.kind = 2) = true ∨ (decide (v.kind = 2) = false ∧ decide (v.kind = 3) = true) := by
        rcases h23 with h | h
        · exact .inl (decide_eq_true h)
        · exact .inr ⟨decide_eq_false (by omega), decide_eq_true h⟩
      rcases d49 with d | ⟨d, d'⟩
      · (repeat' first
| exact hole _
| simp (maxSteps := 9999999) (disch := omega) only [go_sem, reduceCtorEq, Int.reduceToNat, Int.reduceNeg, Int.reduceLT, Int.reduceLE, Int.reduceEq, Int.reduceAdd, Int.reduceSub, Int.reduceMul, Nat.reduceAdd, Nat.reduceSub, Nat.reduceMul, Nat.reduceEqDiff, Nat.reduceBEq, Nat.reduceBneDiff, Nat.reduceLeDiff, Nat.reduceLT, reduceIte, R4, d]
| refine' gdV_sc' rfl rfl (by simp only [V0, V1, Nat.reduceEqDiff, reduceIte]) (fun hq => ?_) (fun f => ?_) <;> try (have hq' := hq; try simp only [HB] at hq')
| refine' gdD_sc' rfl rfl (by simp only [V0, V1, Nat.reduceEqDiff, reduceIte]) (fun hq => ?_) (fun f => ?_) <;> try (have hq' := hq; try simp only [HB] at hq')
| refine gdV_intro (fun h => ?_) (fun h => ?_) <;> (have h' := h; try simp only [HB] at h'; try rewrite [h]; try simp only [h])
| refine condJ_intro (fun h => ?_) (fun h => ?_) <;> (have h' := h; try simp only [HB] at h'; try rewrite [h]; try simp only [h])
| refine pickE_intro (fun h => ?_) (fun h => ?_) <;> (have h' := h; try simp only [HB] at h'; try rewrite [h]; try simp only [h])
| refine gdD_intro (fun h => ?_) (fun h => ?_) <;> (have h' := h; try simp only [HB] at h'; try rewrite [h]; try simp only [h])
| refine callL_of (hU) ?_
| refine ct_I ?_
| refine callG_I ?_ ?_
| refine callG_Iv ?_ ?_
| refine drJ_I (by simp only [R4]; rfl) ?_
| refine ret_I (R := isR _) ?_
| refine nxt_I (fun hr => ?_) (fun q hq => ?_)
| refine isnil_I (fun hnil b => ?_) (fun hnil => ?_)
| (refine And.intro ?_ ?_; focus omega))
        refine loopS (L4_0.eq_1 0) [1, 2, 3, 7, 9, 10] (by simp only [V0, V1, V2, V25, reduceIte, Nat.reduceEqDiff]; rfl) (fun i => [(11, .i (.bool (decide (valCheck v = 0) && decide (v.kind ≠ 0) && decide (0 ≤ v.n) && decide (of = []) && decide (unitCheck u = 0) && (u.take i).all fun f => nameOk f.name))), (12, .i (iI i))]) (fun _ => []) (fun _ => True) u.length 0 (by omega) trivial (by simp [V0, V2, V11, V8, V15]) ?_
        intro i hi _
        by_cases hi' : i < u.length
        · have hat := all_take_eq (fun f : Fac => nameOk f.name) u i hi'
          (repeat' first
| exact hole _
| simp (maxSteps := 9999999) (disch := omega) only [go_sem, reduceCtorEq, Int.reduceToNat, Int.reduceNeg, Int.reduceLT, Int.reduceLE, Int.reduceEq, Int.reduceAdd, Int.reduceSub, Int.reduceMul, Nat.reduceAdd, Nat.reduceSub, Nat.reduceMul, Nat.reduceEqDiff, Nat.reduceBEq, Nat.reduceBneDiff, Nat.reduceLeDiff, Nat.reduceLT, reduceIte, R4, ltT hi']
| refine' gdV_sc' rfl rfl (by simp only [V0, V1, Nat.reduceEqDiff, reduceIte]) (fun hq => ?_) (fun f => ?_) <;> try (have hq' := hq; try simp only [HB] at hq')
| refine' gdD_sc' rfl rfl (by simp only [V0, V1, Nat.reduceEqDiff, reduceIte]) (fun hq => ?_) (fun f => ?_) <;> try (have hq' := hq; try simp only [HB] at hq')
| refine gdV_intro (fun h => ?_) (fun h => ?_) <;> (have h' := h; try simp only [HB] at h'; try rewrite [h]; try simp only [h])
| refine condJ_intro (fun h => ?_) (fun h => ?_) <;> (have h' := h; try simp only [HB] at h'; try rewrite [h]; try simp only [h])
| refine pickE_intro (fun h => ?_) (fun h => ?_) <;> (have h' := h; try simp only [HB] at h'; try rewrite [h]; try simp only [h])
| refine gdD_intro (fun h => ?_) (fun h => ?_) <;> (have h' := h; try simp only [HB] at h'; try rewrite [h]; try simp only [h])
| refine callL_of (Name_is (u.getD i default).name) ?_
| refine ct_I ?_
| refine callG_I ?_ ?_
| refine callG_Iv ?_ ?_
| refine drJ_I (by simp only [R4]; rfl) ?_
| refine ret_I (R := isR _) ?_
| refine nxt_I (fun hr => ?_) (fun q hq => ?_)
| refine isnil_I (fun hnil b => ?_) (fun hnil => ?_)
| (refine And.intro ?_ ?_; focus omega))
          rw [hat]; simp only [Bool.and_assoc]
        · have e' : i = u.length := by omega
          subst e'
          (repeat' first
| exact hole _
| simp (maxSteps := 9999999) (disch := omega) only [go_sem, reduceCtorEq, Int.reduceToNat, Int.reduceNeg, Int.reduceLT, Int.reduceLE, Int.reduceEq, Int.reduceAdd, Int.reduceSub, Int.reduceMul, Nat.reduceAdd, Nat.reduceSub, Nat.reduceMul, Nat.reduceEqDiff, Nat.reduceBEq, Nat.reduceBneDiff, Nat.reduceLeDiff, Nat.reduceLT, reduceIte, R4, ltF hi', List.take_length]
| refine' gdV_sc' rfl rfl (by simp only [V0, V1, Nat.reduceEqDiff, reduceIte]) (fun hq => ?_) (fun f => ?_) <;> try (have hq' := hq; try simp only [HB] at hq')
| refine' gdD_sc' rfl rfl (by simp only [V0, V1, Nat.reduceEqDiff, reduceIte]) (fun hq => ?_) (fun f => ?_) <;> try (have hq' := hq; try simp only [HB] at hq')
| refine gdV_intro (fun h => ?_) (fun h => ?_) <;> (have h' := h; try simp only [HB] at h'; try rewrite [h]; try simp only [h])
| refine condJ_intro (fun h => ?_) (fun h => ?_) <;> (have h' := h; try simp only [HB] at h'; try rewrite [h]; try simp only [h])
| refine pickE_intro (fun h => ?_) (fun h => ?_) <;> (have h' := h; try simp only [HB] at h'; try rewrite [h]; try simp only [h])
| refine gdD_intro (fun h => ?_) (fun h => ?_) <;> (have h' := h; try simp only [HB] at h'; try rewrite [h]; try simp only [h])
| refine callL_of (hU) ?_
| refine ct_I ?_
| refine callG_I ?_ ?_
| refine callG_Iv ?_ ?_
| refine drJ_I (by simp only [R4]; rfl) ?_
| refine ret_I (R := isR _) ?_
| refine nxt_I (fun hr => ?_) (fun q hq => ?_)
| refine isnil_I (fun hnil b => ?_) (fun hnil => ?_)
| (refine And.intro ?_ ?_; focus omega))
          rw [hR2]; simp only [Bool.and_assoc]
      · (repeat' first
| exact hole _
| simp (maxSteps := 9999999) (disch := omega) only [go_sem, reduceCtorEq, Int.reduceToNat, Int.reduceNeg, Int.reduceLT, Int.reduceLE, Int.reduceEq, Int.reduceAdd, Int.reduceSub, Int.reduceMul, Nat.reduceAdd, Nat.reduceSub, Nat.reduceMul, Nat.reduceEqDiff, Nat.reduceBEq, Nat.reduceBneDiff, Nat.reduceLeDiff, Nat.reduceLT, reduceIte, R4, d, d']
| refine' gdV_sc' rfl rfl (by simp only [V0, V1, Nat.reduceEqDiff, reduceIte]) (fun hq => ?_) (fun f => ?_) <;> try (have hq' := hq; try simp only [HB] at hq')
| refine' gdD_sc' rfl rfl (by simp only [V0, V1, Nat.reduceEqDiff, reduceIte]) (fun hq => ?_) (fun f => ?_) <;> try (have hq' := hq; try simp only [HB] at hq')
| refine gdV_intro (fun h => ?_) (fun h => ?_) <;> (have h' := h; try simp only [HB] at h'; try rewrite [h]; try simp only [h])
| refine condJ_intro (fun h => ?_) (fun h => ?_) <;> (have h' := h; try simp only [HB] at h'; try rewrite [h]; try simp only [h])
| refine pickE_intro (fun h => ?_) (fun h => ?_) <;> (have h' := h; try simp only [HB] at h'; try rewrite [h]; try simp only [h])
| refine gdD_intro (fun h => ?_) (fun h => ?_) <;> (have h' := h; try simp only [HB] at h'; try rewrite [h]; try simp only [h])
| refine callL_of (hU) ?_
| refine ct_I ?_
| refine callG_I ?_ ?_
| refine callG_Iv ?_ ?_
| refine drJ_I (by simp only [R4]; rfl) ?_
| refine ret_I (R := isR _) ?_
| refine nxt_I (fun hr => ?_) (fun q hq => ?_)
| refine isnil_I (fun hnil b => ?_) (fun hnil => ?_)
| (refine And.intro ?_ ?_; focus omega))
        refine loopS (L4_0.eq_1 0) [1, 2, 3, 7, 9, 10] (by simp only [V0, V1, V2, V25, reduceIte, Nat.reduceEqDiff]; rfl) (fun i => [(11, .i (.bool (decide (valCheck v = 0) && decide (v.kind ≠ 0) && decide (0 ≤ v.n) && decide (of = []) && decide (unitCheck u = 0) && (u.take i).all fun f => nameOk f.name))), (12, .i (iI i))]) (fun _ => []) (fun _ => True) u.length 0 (by omega) trivial (by simp [V0, V2, V11, V8, V15]) ?_
        intro i hi _
        by_cases hi' : i < u.length
        · have hat := all_take_eq (fun f : Fac => nameOk f.name) u i hi'
          (repeat' first
| exact hole _
| simp (maxSteps := 9999999) (disch := omega) only [go_sem, reduceCtorEq, Int.reduceToNat, Int.reduceNeg, Int.reduceLT, Int.reduceLE, Int.reduceEq, Int.reduceAdd, Int.reduceSub, Int.reduceMul, Nat.reduceAdd, Nat.reduceSub, Nat.reduceMul, Nat.reduceEqDiff, Nat.reduceBEq, Nat.reduceBneDiff, Nat.reduceLeDiff, Nat.reduceLT, reduceIte, R4, ltT hi']
| refine' gdV_sc' rfl rfl (by simp only [V0, V1, Nat.reduceEqDiff, reduceIte]) (fun hq => ?_) (fun f => ?_) <;> try (have hq' := hq; try simp only [HB] at hq')
| refine' gdD_sc' rfl rfl (by simp only [V0, V1, Nat.reduceEqDiff, reduceIte]) (fun hq => ?_) (fun f => ?_) <;> try (have hq' := hq; try simp only [HB] at hq')
| refine gdV_intro (fun h => ?_) (fun h => ?_) <;> (have h' := h; try simp only [HB] at h'; try rewrite [h]; try simp only [h])
| refine condJ_intro (fun h => ?_) (fun h => ?_) <;> (have h' := h; try simp only [HB] at h'; try rewrite [h]; try simp only [h])
| refine pickE_intro (fun h => ?_) (fun h => ?_) <;> (have h' := h; try simp only [HB] at h'; try rewrite [h]; try simp only [h])
| refine gdD_intro (fun h => ?_) (fun h => ?_) <;> (have h' := h; try simp only [HB] at h'; try rewrite [h]; try simp only [h])
| refine callL_of (Name_is (u.getD i default).name) ?_
| refine ct_I ?_
| refine callG_I ?_ ?_
| refine callG_Iv ?_ ?_
| refine drJ_I (by simp only [R4]; rfl) ?_
| refine ret_I (R := isR _) ?_
| refine nxt_I (fun hr => ?_) (fun q hq => ?_)
| refine isnil_I (fun hnil b => ?_) (fun hnil => ?_)
| (refine And.intro ?_ ?_; focus omega))
          rw [hat]; simp only [Bool.and_assoc]
        · have e' : i = u.length := by omega
          subst e'
          (repeat' first
| exact hole _
| simp (maxSteps := 9999999) (disch := omega) only [go_sem, reduceCtorEq, Int.reduceToNat, Int.reduceNeg, Int.reduceLT, Int.reduceLE, Int.reduceEq, Int.reduceAdd, Int.reduceSub, Int.reduceMul, Nat.reduceAdd, Nat.reduceSub, Nat.reduceMul, Nat.reduceEqDiff, Nat.reduceBEq, Nat.reduceBneDiff, Nat.reduceLeDiff, Nat.reduceLT, reduceIte, R4, ltF hi', List.take_length]
| refine' gdV_sc' rfl rfl (by simp only [V0, V1, Nat.reduceEqDiff, reduceIte]) (fun hq => ?_) (fun f => ?_) <;> try (have hq' := hq; try simp only [HB] at hq')
| refine' gdD_sc' rfl rfl (by simp only [V0, V1, Nat.reduceEqDiff, reduceIte]) (fun hq => ?_) (fun f => ?_) <;> try (have hq' := hq; try simp only [HB] at hq')
| refine gdV_intro (fun h => ?_) (fun h => ?_) <;> (have h' := h; try simp only [HB] at h'; try rewrite [h]; try simp only [h])
| refine condJ_intro (fun h => ?_) (fun h => ?_) <;> (have h' := h; try simp only [HB] at h'; try rewrite [h]; try simp only [h])
| refine pickE_intro (fun h => ?_) (fun h => ?_) <;> (have h' := h; try simp only [HB] at h'; try rewrite [h]; try simp only [h])
| refine gdD_intro (fun h => ?_) (fun h => ?_) <;> (have h' := h; try simp only [HB] at h'; try rewrite [h]; try simp only [h])
| refine callL_of (hU) ?_
| refine ct_I ?_
| refine callG_I ?_ ?_
| refine callG_Iv ?_ ?_
| refine drJ_I (by simp only [R4]; rfl) ?_
| refine ret_I (R := isR _) ?_
| refine nxt_I (fun hr => ?_) (fun q hq => ?_)
| refine isnil_I (fun hnil b => ?_) (fun hnil => ?_)
| (refine And.intro ?_ ?_; focus omega))
          rw [hR2]; simp only [Bool.and_assoc]
    · by_cases h5 : v.kind = 5
      · have hR2 : R = (decide (valCheck v = 0) && decide (v.kind ≠ 0) && decide (0 ≤ v.n) && (decide (u.length = 0) && nameOk of)) := by rw [hR, if_neg h23, if_pos h5]
        have d2 : decide (v.kind = 2) = false := decide_eq_false (by omega)
        have d3 : decide (v.kind = 3) = false := decide_eq_false (by omega)
        have d5 : decide (v.kind = 5) = true := decide_eq_true h5
        (repeat' first
| exact hole _
| simp (maxSteps := 9999999) (disch := omega) only [go_sem, reduceCtorEq, Int.reduceToNat, Int.reduceNeg, Int.reduceLT, Int.reduceLE, Int.reduceEq, Int.reduceAdd, Int.reduceSub, Int.reduceMul, Nat.reduceAdd, Nat.reduceSub, Nat.reduceMul, Nat.reduceEqDiff, Nat.reduceBEq, Nat.reduceBneDiff, Nat.reduceLeDiff, Nat.reduceLT, reduceIte, R4, d2, d3, d5]
| refine' gdV_sc' rfl rfl (by simp only [V0, V1, Nat.reduceEqDiff, reduceIte]) (fun hq => ?_) (fun f => ?_) <;> try (have hq' := hq; try simp only [HB] at hq')
| refine' gdD_sc' rfl rfl (by simp only [V0, V1, Nat.reduceEqDiff, reduceIte]) (fun hq => ?_) (fun f => ?_) <;> try (have hq' := hq; try simp only [HB] at hq')
| refine gdV_intro (fun h => ?_) (fun h => ?_) <;> (have h' := h; try simp only [HB] at h'; try rewrite [h]; try simp only [h])
| refine condJ_intro (fun h => ?_) (fun h => ?_) <;> (have h' := h; try simp only [HB] at h'; try rewrite [h]; try simp only [h])
| refine pickE_intro (fun h => ?_) (fun h => ?_) <;> (have h' := h; try simp only [HB] at h'; try rewrite [h]; try simp only [h])
| refine gdD_intro (fun h => ?_) (fun h => ?_) <;> (have h' := h; try simp only [HB] at h'; try rewrite [h]; try simp only [h])
| refine callL_of (Name_is of) ?_
| refine ct_I ?_
| refine callG_I ?_ ?_
| refine callG_Iv ?_ ?_
| refine drJ_I (by simp only [R4]; rfl) ?_
| refine ret_I (R := isR _) ?_
| refine nxt_I (fun hr => ?_) (fun q hq => ?_)
| refine isnil_I (fun hnil b => ?_) (fun hnil => ?_)
| (refine And.intro ?_ ?_; focus omega))
        rw [hR2, lenZ u]
        simp only [Bool.and_assoc]
      · have hR2 : R = (decide (valCheck v = 0) && decide (v.kind ≠ 0) && decide (0 ≤ v.n) && (decide (u.length = 0) && decide (of = []))) := by rw [hR, if_neg h23, if_neg h5]
        have d2 : decide (v.kind = 2) = false := decide_eq_false (by omega)
        have d3 : decide (v.kind = 3) = false := decide_eq_false (by omega)
        have d5 : decide (v.kind = 5) = false := decide_eq_false h5
        (repeat' first
| exact hole _
| simp (maxSteps := 9999999) (disch := omega) only [go_sem, reduceCtorEq, Int.reduceToNat, Int.reduceNeg, Int.reduceLT, Int.reduceLE, Int.reduceEq, Int.reduceAdd, Int.reduceSub, Int.reduceMul, Nat.reduceAdd, Nat.reduceSub, Nat.reduceMul, Nat.reduceEqDiff, Nat.reduceBEq, Nat.reduceBneDiff, Nat.reduceLeDiff, Nat.reduceLT, reduceIte, R4, d2, d3, d5]
| refine' gdV_sc' rfl rfl (by simp only [V0, V1, Nat.reduceEqDiff, reduceIte]) (fun hq => ?_) (fun f => ?_) <;> try (have hq' := hq; try simp only [HB] at hq')
| refine' gdD_sc' rfl rfl (by simp only [V0, V1, Nat.reduceEqDiff, reduceIte]) (fun hq => ?_) (fun f => ?_) <;> try (have hq' := hq; try simp only [HB] at hq')
| refine gdV_intro (fun h => ?_) (fun h => ?_) <;> (have h' := h; try simp only [HB] at h'; try rewrite [h]; try simp only [h])
| refine condJ_intro (fun h => ?_) (fun h => ?_) <;> (have h' := h; try simp only [HB] at h'; try rewrite [h]; try simp only [h])
| refine pickE_intro (fun h => ?_) (fun h => ?_) <;> (have h' := h; try simp only [HB] at h'; try rewrite [h]; try simp only [h])
| refine gdD_intro (fun h => ?_) (fun h => ?_) <;> (have h' := h; try simp only [HB] at h'; try rewrite [h]; try simp only [h])
| refine callL_of (hV) ?_
| refine ct_I ?_
| refine callG_I ?_ ?_
| refine callG_Iv ?_ ?_
| refine drJ_I (by simp only [R4]; rfl) ?_
| refine ret_I (R := isR _) ?_
| refine nxt_I (fun hr => ?_) (fun q hq => ?_)
| refine isnil_I (fun hnil b => ?_) (fun hnil => ?_)
| (refine And.intro ?_ ?_; focus omega))
        rw [hR2, lenZ u]
        simp only [Bool.and_assoc]
  · cases R with
    | true =>
      obtain ⟨o1, o2⟩ := hok rfl
      simp only [if_true, Prod.mk.injEq] at hte
      obtain ⟨rfl, rfl⟩ := hte
      rw [o1] at hT; rw [o2] at hH
      (repeat' first
| exact hole _
| simp (maxSteps := 9999999) (disch := omega) only [go_sem, reduceCtorEq, Int.reduceToNat, Int.reduceNeg, Int.reduceLT, Int.reduceLE, Int.reduceEq, Int.reduceAdd, Int.reduceSub, Int.reduceMul, Nat.reduceAdd, Nat.reduceSub, Nat.reduceMul, Nat.reduceEqDiff, Nat.reduceBEq, Nat.reduceBneDiff, Nat.reduceLeDiff, Nat.reduceLT, reduceIte, R4]
| refine' gdV_sc' rfl rfl (by simp only [V0, V1, Nat.reduceEqDiff, reduceIte]) (fun hq => ?_) (fun f => ?_) <;> try (have hq' := hq; try simp only [HB] at hq')
| refine' gdD_sc' rfl rfl (by simp only [V0, V1, Nat.reduceEqDiff, reduceIte]) (fun hq => ?_) (fun f => ?_) <;> try (have hq' := hq; try simp only [HB] at hq')
| refine gdV_intro (fun h => ?_) (fun h => ?_) <;> (have h' := h; try simp only [HB] at h'; try rewrite [h]; try simp only [h])
| refine condJ_intro (fun h => ?_) (fun h => ?_) <;> (have h' := h; try simp only [HB] at h'; try rewrite [h]; try simp only [h])
| refine pickE_intro (fun h => ?_) (fun h => ?_) <;> (have h' := h; try simp only [HB] at h'; try rewrite [h]; try simp only [h])
| refine gdD_intro (fun h => ?_) (fun h => ?_) <;> (have h' := h; try simp only [HB] at h'; try rewrite [h]; try simp only [h])
| refine callL_of (hS) ?_
| refine callL_of (hT) ?_
| refine callL_of (hH) ?_
| refine ct_I ?_
| refine callG_I ?_ ?_
| refine callG_Iv ?_ ?_
| refine drJ_I (by simp only [R4]; rfl) ?_
| refine ret_I (R := isR _) ?_
| refine nxt_I (fun hr => ?_) (fun q hq => ?_)
| refine isnil_I (fun hnil b => ?_) (fun hnil => ?_)
| (refine And.intro ?_ ?_; focus omega))
        | false =>
      simp only [Bool.false_eq_true, if_false, Prod.mk.injEq] at hte
      obtain ⟨rfl, rfl⟩ := hte
      (repeat' first
| exact hole _
| simp (maxSteps := 9999999) (disch := omega) only [go_sem, reduceCtorEq, Int.reduceToNat, Int.reduceNeg, Int.reduceLT, Int.reduceLE, Int.reduceEq, Int.reduceAdd, Int.reduceSub, Int.reduceMul, Nat.reduceAdd, Nat.reduceSub, Nat.reduceMul, Nat.reduceEqDiff, Nat.reduceBEq, Nat.reduceBneDiff, Nat.reduceLeDiff, Nat.reduceLT, reduceIte, R4]
| refine' gdV_sc' rfl rfl (by simp only [V0, V1, Nat.reduceEqDiff, reduceIte]) (fun hq => ?_) (fun f => ?_) <;> try (have hq' := hq; try simp only [HB] at hq')
| refine' gdD_sc' rfl rfl (by simp only [V0, V1, Nat.reduceEqDiff, reduceIte]) (fun hq => ?_) (fun f => ?_) <;> try (have hq' := hq; try simp only [HB] at hq')
| refine gdV_intro (fun h => ?_) (fun h => ?_) <;> (have h' := h; try simp only [HB] at h'; try rewrite [h]; try simp only [h])
| refine condJ_intro (fun h => ?_) (fun h => ?_) <;> (have h' := h; try simp only [HB] at h'; try rewrite [h]; try simp only [h])
| refine pickE_intro (fun h => ?_) (fun h => ?_) <;> (have h' := h; try simp only [HB] at h'; try rewrite [h]; try simp only [h])
| refine gdD_intro (fun h => ?_) (fun h => ?_) <;> (have h' := h; try simp only [HB] at h'; try rewrite [h]; try simp only [h])
| refine callL_of (hS) ?_
| refine ct_I ?_
| refine callG_I ?_ ?_
| refine callG_Iv ?_ ?_
| refine drJ_I (by simp only [R4]; rfl) ?_
| refine ret_I (R := isR _) ?_
| refine nxt_I (fun hr => ?_) (fun q hq => ?_)
| refine isnil_I (fun hnil b => ?_) (fun hnil => ?_)
| (refine And.intro ?_ ?_; focus omega))
    
end Go.Proofs.YtihbaggjjglcbaaGreatDoor
end

section
set_option maxRecDepth 100000
set_option maxHeartbeats 8000000
set_option linter.unusedVariables false
set_option linter.unusedSimpArgs false
namespace Go.Proofs.YtihbaggjjglcbaaGreatDoor
open Go Go.Dl Go.As Go.RowKit Go.ChangeShapes Go.WideShapes
/-- CheckerLiterals: the call, in a world, at arguments of bulk at most the bound. -/
theorem contract_checkerLiterals (H : Type) (enc : TypeId × Value → H) (W : World) (base : Nat) (args : Array Value) (ds gs : List (DataW H)) (before : List MemPlace)
    (hval : ∀ (j : Nat) t v, Tryz.f4.params[j]? = some t → args[j]? = some v → Value.okWide Tryz.prog W .any base t v)
    (hW : DataW.Whole enc Tryz.prog Tryz.f4.params.toList Rows.checkerLiteralsSpec.vars false W args.toList ds gs before) (hk : Rows.uptoSmall H (ds ++ gs) = true) (hL : laidMetH Tryz.prog laidL W) (hsh : W.ShapedOpen Tryz.prog) :
    Calls Tryz.prog 4 args W fun e W' => ∃ v, e = .returned v ∧ Rows.checkerLiteralsSpec.post enc Tryz.prog Tryz.f4 false true false false W args v W' := by
  have hW' := hW
  obtain ⟨p, q, hA0, hV, rfl, _, _⟩ := hW
  obtain ⟨rfl, rfl⟩ := trodVars_none hV
  have hA : DataW.TrodAll enc Tryz.prog W 0 (fun _ => true) true [27, 28, 9] args.toList ds p := hA0
  obtain ⟨hlen, hrd⟩ := rdAll hA
  have hb : Rows.uptoBulkAll (ds ++ []) ≤ 1048576 := of_decide_eq_true hk
  rw [List.append_nil, bulks_eq] at hb
  obtain ⟨d1, d2, d3, rfl⟩ : ∃ d1 d2 d3, ds = [d1, d2, d3] := by
    match ds, hlen with
    | [d1, d2, d3], _ => exact ⟨d1, d2, d3, rfl⟩
  obtain ⟨n1, r1⟩ := hrd 0 (by simp) (by simp)
  replace r1 : Rd Tryz.prog n1 27 d1 := r1
  obtain ⟨n2, r2⟩ := hrd 1 (by simp) (by simp)
  replace r2 : Rd Tryz.prog n2 28 d2 := r2
  obtain ⟨n3, r3⟩ := hrd 2 (by simp) (by simp)
  replace r3 : Rd Tryz.prog n3 9 d3 := r3
  obtain ⟨x1, f1, b1, _⟩ := val_rd r1
  obtain ⟨x2, f2, b2, _⟩ := facs_rd r2
  obtain ⟨x3, e3⟩ := r3.str (by kernel_rfl)
  have f3 : flatD d3 = [.str x3] := by rw [e3]; rfl
  have b3 : x3.length + 1 = bulkD d3 := by rw [e3]; rfl
  simp only [bulkL] at hb
  obtain ⟨mx, hg⟩ := glob_ok hL hsh
  have hrep := args_rep plainLok (ts := [27, 28, 9]) (ds := [d1, d2, d3]) (by decide) (fun j t v h1 h2 => hval j t v (by simpa using h1) (by simpa using h2)) hA
  have g1 : argI Tryz.prog 27 (flatD d1) = .agg (eVal x1) := by rw [f1]; exact argI_S Tryz.underlying27
  have g2 : argI Tryz.prog 28 (flatD d2) = .sl (x2.map eFac) := by rw [f2]; exact argI_1 (by rw [Tryz.underlying28]; intro fs h; cases h)
  have g3 : argI Tryz.prog 9 (flatD d3) = .str x3 := by rw [f3]; exact argI_1 (by rw [Tryz.underlying9]; intro fs h; cases h)
  have he : argsI Tryz.prog [27, 28, 9] [d1, d2, d3] = [.agg (eVal x1), .sl (x2.map eFac), .str x3] := by simp only [argsI, g1, g2, g3]
  rw [he] at hrep
  have hc := calls_of_MC (by kernel_rfl) (law_literals (mx := mx) x1 x2 x3 (by omega)) hg hrep
  refine hc.mono ?_
  rintro e W' ⟨v, M', rfl, hv, hbl⟩
  obtain rfl : v = .bool true := by cases hv; rfl
  refine ⟨_, rfl, post_true laidOutP (by kernel_rfl) rfl rfl Tryz.underlying4 (fun ys hy => ?_) hW' hbl⟩
  match ys, hy with
  | [y0, y1, y2], _ => rfl
theorem witness_checkerLiterals (os : Os) {H : Type} (enc : TypeId × Value → H) :
    (Rows.OpenSpec.upto Rows.checkerLiteralsSpec).preRow enc Tryz.prog Tryz.f4 Rows.checkerLiteralsUptoRow.domain false Rows.checkerLiteralsUptoRow.laid ((laidWorld os).forCall (fun _ _ => 0) ⟨#[], #[.agg #[.int .i64 0, .int .i64 0, .string ⟨#[]⟩], .slice none 0 0, .string ⟨#[]⟩], []⟩).memory #[.agg #[.int .i64 0, .int .i64 0, .string ⟨#[]⟩], .slice none 0 0, .string ⟨#[]⟩] := by
  have hw : (DataW.whole enc Tryz.prog ((laidWorld os).forCall (fun _ _ => 0) ⟨#[], #[.agg #[.int .i64 0, .int .i64 0, .string ⟨#[]⟩], .slice none 0 0, .string ⟨#[]⟩], []⟩).memory Tryz.f4.params.toList (Rows.OpenSpec.upto Rows.checkerLiteralsSpec).vars false (#[.agg #[.int .i64 0, .int .i64 0, .string ⟨#[]⟩], .slice none 0 0, .string ⟨#[]⟩] : Array Value).toList 12).map (fun x => (x.1, x.2.1)) =
      some ([.agg [.lit (.int .i64 0), .lit (.int .i64 0), .lit (.string [])], .nil, .lit (.string [])], []) := by kernel_rfl
  obtain ⟨⟨x1, x2, x3⟩, hx, hx1⟩ := Option.map_eq_some_iff.1 hw
  simp only [Prod.mk.injEq] at hx1
  obtain ⟨rfl, rfl⟩ := hx1
  exact OpenSpec.preRow_of_cond 12 hx (by kernel_rfl) (fun k hk => by cases hk; kernel_rfl) (by kernel_rfl) (laid_met os _)
theorem lifted_checkerLiterals (os : Os) (started : os.Started) (H : Type) (enc : TypeId × Value → H) (F : Stop.Interp) :
    ReturnsInHanded {} Tryz.checked os 4 .any ((Rows.OpenSpec.upto Rows.checkerLiteralsSpec).preRow enc Tryz.prog Tryz.f4 Rows.checkerLiteralsUptoRow.domain false Rows.checkerLiteralsUptoRow.laid) (((Rows.OpenSpec.upto Rows.checkerLiteralsSpec).at F).post enc Tryz.prog Tryz.f4 false true false false) := by
  refine returnsInHanded_of_row (C := Tryz.checked) (s := Rows.OpenSpec.upto Rows.checkerLiteralsSpec) own started (by kernel_rfl) Tryz.func4
    (witness_row_atRef (enc := enc) (C := Tryz.checked) false (laidWorld os) #[.agg #[.int .i64 0, .int .i64 0, .string ⟨#[]⟩], .slice none 0 0, .string ⟨#[]⟩] rfl (by kernel_rfl) (by kernel_rfl) (by kernel_rfl) (witness_checkerLiterals os enc)) ?_
  intro W base args ds gs before hval hW _ hcond _ hL hsh _
  exact contract_checkerLiterals H enc W base args ds gs before hval hW (hcond _ rfl) hL hsh
theorem said_checkerLiterals : Rows.CheckerLiteralsUptoSaid :=
  OpenClaim.holds_of_cond 4 Tryz.f4 rfl rfl rfl rfl rfl rfl rfl ⟨rfl, rfl, rfl, rfl, rfl⟩ rfl rfl rfl rfl rfl (by kernel_rfl) Tryz.func4 (by kernel_rfl)
    (of_decide_eq_true (by kernel_rfl)) (by unfold Func.isWrapper; first | (rw [if_pos (by decide +kernel)]; kernel_rfl) | (rw [if_neg (by decide +kernel)]; exact ⟨rfl, rfl⟩))
    (fun os started H enc _ F => by rw [OpenClaim.pre_eq_preRow]; exact lifted_checkerLiterals os started H enc F)
theorem plain_checkerLiterals (f : FuncId) (fn : Func) (hf : Tryz.pinned.checked.prog.funcNamed "asof/asoflaw10.CheckerLiterals" = some f) (hfn : Tryz.pinned.checked.prog.funcs[f]? = some fn) :
    false = Tryz.pinned.checked.prog.looks [] ∧ ∀ (j : Nat) t, fn.params[j]? = some t → Tryz.pinned.checked.prog.wantsStandIn t = false := by
  obtain rfl : f = 4 := Option.some.inj ((show Tryz.prog.funcNamed "asof/asoflaw10.CheckerLiterals" = some 4 by kernel_rfl).symm.trans hf) |>.symm
  obtain rfl : fn = Tryz.f4 := (Option.some.inj (Tryz.func4.symm.trans hfn)).symm
  refine ⟨by kernel_rfl, fun j t ht => ?_⟩
  have hm := Array.mem_of_getElem? ht
  have hall : (Tryz.f4.params.toList.all fun t => !Tryz.prog.wantsStandIn t) = true := by kernel_rfl
  have := List.all_eq_true.1 hall t (by simpa using hm)
  show Tryz.prog.wantsStandIn t = false
  simpa using this
/-- The card of CheckerLiterals, second form. -/
theorem card_checkerLiterals : Rows.CheckerLiteralsUptoCardSaid :=
  Claim7.holds_tied_plain_at .later [] _ _ _ _ said_checkerLiterals (fun _ h => by cases h) (by kernel_rfl) (fun _ h => by cases h) checkerLiteralsUpto_row_tie rfl ⟨rfl, rfl⟩ (by kernel_rfl) rfl plain_checkerLiterals (by kernel_rfl)
end Go.Proofs.YtihbaggjjglcbaaGreatDoor
end
