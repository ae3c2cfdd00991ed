/-
  Proved here: CheckerOperands of asoflaw10 returns true, and leaves its arguments as they were, for every input whose values and letters, counted each time they are reached, are together at most 1048576, in a world where the three package-level lists of the checker hold what the program text lays.
-/
import Derived.Test.YtihbaggjjglcbaaDoorK36
set_option linter.unusedVariables false
set_option linter.unusedSimpArgs false

section
set_option maxRecDepth 100000
set_option maxHeartbeats 8000000
set_option linter.unusedVariables false
set_option linter.unusedSimpArgs false
namespace Go.Proofs.YtihbaggjjglcbaaDoor
open Go Go.Dl Go.As Go.Proofs
variable {mx : Int}
attribute [local irreducible] callG callL MC W W2 evT ev evD step stepD

theorem law_operands (c : Cat) (ent : Str) (x : Xpr) (hb : bCat c + bX x ≤ 1048576) : Is mx 3 [.agg (eCat c), .str ent, .agg (eE x)] (.bool true) := by
  have hcB := catB_of (c := c) (by omega)
  have hI := Infer_is (mx := mx) c ent x hcB (by omega)
  have hsz := sizeX_bX x
  have hS := Size_is (mx := mx) _ x (Nat.le_refl _) (by omega)
  have hD := Depth_is (mx := mx) _ x (Nat.le_refl _) (by omega)
  have hds := depth_size x
  have hlen := bX_len x
  have hop := fun a h1 h2 => operand_infer (c := c) (ent := ent) (x := x) (a := a) h1 h2
  simp only [eRes] at hI
  generalize inferTop c ent x = r at hI hop
  have e0 : decide (((sizeX x : Nat) : Int) < ((depthX x : Nat) : Int)) = false := by rw [decide_eq_false_iff_not]; omega
  refine MC_of_J Tryd.func3 (by kernel_rfl) Tryd.ntmps3 rfl rfl comp3 rv3 rfl c3.eq_1 ?_
  (repeat' first
| exact hole _
| simp (maxSteps := 9999999) (disch := omega) only [go_sem, reduceCtorEq, Int.reduceToNat, Int.reduceNeg, Int.reduceLT, Int.reduceLE, Int.reduceEq, Int.reduceAdd, Int.reduceSub, Int.reduceMul, Nat.reduceAdd, Nat.reduceSub, Nat.reduceMul, Nat.reduceEqDiff, Nat.reduceBEq, Nat.reduceBneDiff, Nat.reduceLeDiff, Nat.reduceLT, reduceIte, R3, e0]
| refine' gdV_sc' rfl rfl (by simp only [V0, V1, Nat.reduceEqDiff, reduceIte]) (fun hq => ?_) (fun f => ?_) <;> try (have hq' := hq; try simp only [HB] at hq')
| refine' gdD_sc' rfl rfl (by simp only [V0, V1, Nat.reduceEqDiff, reduceIte]) (fun hq => ?_) (fun f => ?_) <;> try (have hq' := hq; try simp only [HB] at hq')
| refine gdV_intro (fun h => ?_) (fun h => ?_) <;> (have h' := h; try simp only [HB] at h'; try rewrite [h]; try simp only [h])
| refine condJ_intro (fun h => ?_) (fun h => ?_) <;> (have h' := h; try simp only [HB] at h'; try rewrite [h]; try simp only [h])
| refine pickE_intro (fun h => ?_) (fun h => ?_) <;> (have h' := h; try simp only [HB] at h'; try rewrite [h]; try simp only [h])
| refine gdD_intro (fun h => ?_) (fun h => ?_) <;> (have h' := h; try simp only [HB] at h'; try rewrite [h]; try simp only [h])
| refine callL_of (example_is) ?_
| refine callL_of (hI) ?_
| refine callL_of (hS) ?_
| refine callL_of (hD) ?_
| refine ct_I ?_
| refine callG_I ?_ ?_
| refine callG_Iv ?_ ?_
| refine drJ_I (by simp only [R3]; rfl) ?_
| refine ret_I (R := isR _) ?_
| refine nxt_I (fun hr => ?_) (fun q hq => ?_)
| refine isnil_I (fun hnil b => ?_) (fun hnil => ?_)
| (refine And.intro ?_ ?_; focus omega))
  refine loopS (L3_0.eq_1 0) [1, 3, 5, 7, 9] (by simp only [V0, V1, V2, V25, reduceIte, Nat.reduceEqDiff]; rfl) (fun i => [(10, .i (iI i))]) (fun _ => []) (fun _ => True) x.args.length 0 (by omega) trivial (by simp [V0, V1, V2, V11, V8, V15, Ref.nm]) ?_
  intro i hi _
  by_cases hi' : i < x.args.length
  · have hm := getD_mem hi'
    have hbm := bX_arg hm
    have hs1 := size_arg hm
    have hd1 := depth_arg hm
    have hs2 := depth_size (x.args.getD i default)
    have hA := Infer_is (mx := mx) c ent (x.args.getD i default) hcB (by omega)
    have hS2 := Size_is (mx := mx) _ (x.args.getD i default) (Nat.le_refl _) (by omega)
    have hD2 := Depth_is (mx := mx) _ (x.args.getD i default) (Nat.le_refl _) (by omega)
    have hk := hop (x.args.getD i default)
    have hex : ∃ p, inferTop c ent (x.args.getD i default) = p := ⟨_, rfl⟩
    obtain ⟨p, hp⟩ := hex
    rw [hp] at hA hk
    simp only [eRes] at hA
    have e1 : decide (((sizeX x : Nat) : Int) ≤ ((sizeX (x.args.getD i default) : Nat) : Int)) = false := by rw [decide_eq_false_iff_not]; omega
    have e2 : decide (((depthX x : Nat) : Int) ≤ ((depthX (x.args.getD i default) : Nat) : Int)) = false := by rw [decide_eq_false_iff_not]; omega
    by_cases hc : r.2 = 0 ∧ x.kind ≠ 5
    · have hc1 : decide (r.2 ≠ 0) = false := decide_eq_false (not_not_intro hc.1)
      have hc2 : decide (x.kind = 5) = false := decide_eq_false hc.2
      have hz : decide (p.2 ≠ 0) = false := decide_eq_false (not_not_intro (hk hc.1 hc.2 hm))
      (repeat' first
| exact hole _
| simp (maxSteps := 9999999) (disch := omega) only [go_sem, reduceCtorEq, Int.reduceToNat, Int.reduceNeg, Int.reduceLT, Int.reduceLE, Int.reduceEq, Int.reduceAdd, Int.reduceSub, Int.reduceMul, Nat.reduceAdd, Nat.reduceSub, Nat.reduceMul, Nat.reduceEqDiff, Nat.reduceBEq, Nat.reduceBneDiff, Nat.reduceLeDiff, Nat.reduceLT, reduceIte, R3, ltT hi', e1, e2, hc1, hc2, hz]
| refine' gdV_sc' rfl rfl (by simp only [V0, V1, Nat.reduceEqDiff, reduceIte]) (fun hq => ?_) (fun f => ?_) <;> try (have hq' := hq; try simp only [HB] at hq')
| refine' gdD_sc' rfl rfl (by simp only [V0, V1, Nat.reduceEqDiff, reduceIte]) (fun hq => ?_) (fun f => ?_) <;> try (have hq' := hq; try simp only [HB] at hq')
| refine gdV_intro (fun h => ?_) (fun h => ?_) <;> (have h' := h; try simp only [HB] at h'; try rewrite [h]; try simp only [h])
| refine condJ_intro (fun h => ?_) (fun h => ?_) <;> (have h' := h; try simp only [HB] at h'; try rewrite [h]; try simp only [h])
| refine pickE_intro (fun h => ?_) (fun h => ?_) <;> (have h' := h; try simp only [HB] at h'; try rewrite [h]; try simp only [h])
| refine gdD_intro (fun h => ?_) (fun h => ?_) <;> (have h' := h; try simp only [HB] at h'; try rewrite [h]; try simp only [h])
| refine callL_of (hS2) ?_
| refine callL_of (hS) ?_
| refine callL_of (hD2) ?_
| refine callL_of (hD) ?_
| refine callL_of (hA) ?_
| refine ct_I ?_
| refine callG_I ?_ ?_
| refine callG_Iv ?_ ?_
| refine drJ_I (by simp only [R3]; rfl) ?_
| refine ret_I (R := isR _) ?_
| refine nxt_I (fun hr => ?_) (fun q hq => ?_)
| refine isnil_I (fun hnil b => ?_) (fun hnil => ?_)
| (refine And.intro ?_ ?_; focus omega))
      exact hi'
    · have hc3 : (decide (r.2 ≠ 0) || decide (x.kind = 5)) = true := by
        by_cases h1 : r.2 = 0
        · have : x.kind = 5 := Decidable.byContradiction fun h => hc ⟨h1, h⟩
          simp [this]
        · simp [h1]
      (repeat' first
| exact hole _
| simp (maxSteps := 9999999) (disch := omega) only [go_sem, reduceCtorEq, Int.reduceToNat, Int.reduceNeg, Int.reduceLT, Int.reduceLE, Int.reduceEq, Int.reduceAdd, Int.reduceSub, Int.reduceMul, Nat.reduceAdd, Nat.reduceSub, Nat.reduceMul, Nat.reduceEqDiff, Nat.reduceBEq, Nat.reduceBneDiff, Nat.reduceLeDiff, Nat.reduceLT, reduceIte, R3, ltT hi', e1, e2, hc3]
| refine' gdV_sc' rfl rfl (by simp only [V0, V1, Nat.reduceEqDiff, reduceIte]) (fun hq => ?_) (fun f => ?_) <;> try (have hq' := hq; try simp only [HB] at hq')
| refine' gdD_sc' rfl rfl (by simp only [V0, V1, Nat.reduceEqDiff, reduceIte]) (fun hq => ?_) (fun f => ?_) <;> try (have hq' := hq; try simp only [HB] at hq')
| refine gdV_intro (fun h => ?_) (fun h => ?_) <;> (have h' := h; try simp only [HB] at h'; try rewrite [h]; try simp only [h])
| refine condJ_intro (fun h => ?_) (fun h => ?_) <;> (have h' := h; try simp only [HB] at h'; try rewrite [h]; try simp only [h])
| refine pickE_intro (fun h => ?_) (fun h => ?_) <;> (have h' := h; try simp only [HB] at h'; try rewrite [h]; try simp only [h])
| refine gdD_intro (fun h => ?_) (fun h => ?_) <;> (have h' := h; try simp only [HB] at h'; try rewrite [h]; try simp only [h])
| refine callL_of (hS2) ?_
| refine callL_of (hS) ?_
| refine callL_of (hD2) ?_
| refine callL_of (hD) ?_
| refine callL_of (hA) ?_
| refine ct_I ?_
| refine callG_I ?_ ?_
| refine callG_Iv ?_ ?_
| refine drJ_I (by simp only [R3]; rfl) ?_
| refine ret_I (R := isR _) ?_
| refine nxt_I (fun hr => ?_) (fun q hq => ?_)
| refine isnil_I (fun hnil b => ?_) (fun hnil => ?_)
| (refine And.intro ?_ ?_; focus omega))
      exact hi'
  · (repeat' first
| exact hole _
| simp (maxSteps := 9999999) (disch := omega) only [go_sem, reduceCtorEq, Int.reduceToNat, Int.reduceNeg, Int.reduceLT, Int.reduceLE, Int.reduceEq, Int.reduceAdd, Int.reduceSub, Int.reduceMul, Nat.reduceAdd, Nat.reduceSub, Nat.reduceMul, Nat.reduceEqDiff, Nat.reduceBEq, Nat.reduceBneDiff, Nat.reduceLeDiff, Nat.reduceLT, reduceIte, R3, ltF hi']
| refine' gdV_sc' rfl rfl (by simp only [V0, V1, Nat.reduceEqDiff, reduceIte]) (fun hq => ?_) (fun f => ?_) <;> try (have hq' := hq; try simp only [HB] at hq')
| refine' gdD_sc' rfl rfl (by simp only [V0, V1, Nat.reduceEqDiff, reduceIte]) (fun hq => ?_) (fun f => ?_) <;> try (have hq' := hq; try simp only [HB] at hq')
| refine gdV_intro (fun h => ?_) (fun h => ?_) <;> (have h' := h; try simp only [HB] at h'; try rewrite [h]; try simp only [h])
| refine condJ_intro (fun h => ?_) (fun h => ?_) <;> (have h' := h; try simp only [HB] at h'; try rewrite [h]; try simp only [h])
| refine pickE_intro (fun h => ?_) (fun h => ?_) <;> (have h' := h; try simp only [HB] at h'; try rewrite [h]; try simp only [h])
| refine gdD_intro (fun h => ?_) (fun h => ?_) <;> (have h' := h; try simp only [HB] at h'; try rewrite [h]; try simp only [h])
| refine callL_of (hS) ?_
| refine ct_I ?_
| refine callG_I ?_ ?_
| refine callG_Iv ?_ ?_
| refine drJ_I (by simp only [R3]; rfl) ?_
| refine ret_I (R := isR _) ?_
| refine nxt_I (fun hr => ?_) (fun q hq => ?_)
| refine isnil_I (fun hnil b => ?_) (fun hnil => ?_)
| (refine And.intro ?_ ?_; focus omega))

end Go.Proofs.YtihbaggjjglcbaaDoor
end

section
set_option maxRecDepth 100000
set_option maxHeartbeats 8000000
set_option linter.unusedVariables false
set_option linter.unusedSimpArgs false
namespace Go.Proofs.YtihbaggjjglcbaaDoor
open Go Go.Dl Go.As Go.RowKit Go.ChangeShapes Go.WideShapes
/-- CheckerOperands: the call, in a world, at arguments of bulk at most the bound. -/
theorem contract_checkerOperands (H : Type) (enc : TypeId × Value → H) (W : World) (base : Nat) (args : Array Value) (ds gs : List (DataW H)) (before : List MemPlace)
    (hval : ∀ (j : Nat) t v, Tryd.f3.params[j]? = some t → args[j]? = some v → Value.okWide Tryd.prog W .any base t v)
    (hW : DataW.Whole enc Tryd.prog Tryd.f3.params.toList Rows.checkerOperandsSpec.vars false W args.toList ds gs before) (hk : Rows.uptoSmall H (ds ++ gs) = true) (hL : laidMetH Tryd.prog laidL W) (hsh : W.ShapedOpen Tryd.prog) :
    Calls Tryd.prog 3 args W fun e W' => ∃ v, e = .returned v ∧ Rows.checkerOperandsSpec.post enc Tryd.prog Tryd.f3 false true false false W args v W' := by
  have hW' := hW
  obtain ⟨p, q, hA0, hV, rfl, _, _⟩ := hW
  obtain ⟨rfl, rfl⟩ := trodVars_none hV
  have hA : DataW.TrodAll enc Tryd.prog W 0 (fun _ => true) true [25, 9, 33] args.toList ds p := hA0
  obtain ⟨hlen, hrd⟩ := rdAll hA
  have hb : Rows.uptoBulkAll (ds ++ []) ≤ 1048576 := of_decide_eq_true hk
  rw [List.append_nil, bulks_eq] at hb
  obtain ⟨d1, d2, d3, rfl⟩ : ∃ d1 d2 d3, ds = [d1, d2, d3] := by
    match ds, hlen with
    | [d1, d2, d3], _ => exact ⟨d1, d2, d3, rfl⟩
  obtain ⟨n1, r1⟩ := hrd 0 (by simp) (by simp)
  replace r1 : Rd Tryd.prog n1 25 d1 := r1
  obtain ⟨n2, r2⟩ := hrd 1 (by simp) (by simp)
  replace r2 : Rd Tryd.prog n2 9 d2 := r2
  obtain ⟨n3, r3⟩ := hrd 2 (by simp) (by simp)
  replace r3 : Rd Tryd.prog n3 33 d3 := r3
  obtain ⟨x1, f1, b1, _⟩ := cat_rd r1
  obtain ⟨x2, e2⟩ := r2.str (by kernel_rfl)
  have f2 : flatD d2 = [.str x2] := by rw [e2]; rfl
  have b2 : x2.length + 1 = bulkD d2 := by rw [e2]; rfl
  obtain ⟨x3, f3, b3, _⟩ := expr_rd _ _ r3
  simp only [bulkL] at hb
  obtain ⟨mx, hg⟩ := glob_ok hL hsh
  have hrep := args_rep plainLok (ts := [25, 9, 33]) (ds := [d1, d2, d3]) (by decide) (fun j t v h1 h2 => hval j t v (by simpa using h1) (by simpa using h2)) hA
  have g1 : argI Tryd.prog 25 (flatD d1) = .agg (eCat x1) := by rw [f1]; exact argI_S Tryd.underlying25
  have g2 : argI Tryd.prog 9 (flatD d2) = .str x2 := by rw [f2]; exact argI_1 (by rw [Tryd.underlying9]; intro fs h; cases h)
  have g3 : argI Tryd.prog 33 (flatD d3) = .agg (eE x3) := by rw [f3]; exact argI_S Tryd.underlying33
  have he : argsI Tryd.prog [25, 9, 33] [d1, d2, d3] = [.agg (eCat x1), .str x2, .agg (eE x3)] := by simp only [argsI, g1, g2, g3]
  rw [he] at hrep
  have hc := calls_of_MC (by kernel_rfl) (law_operands (mx := mx) x1 x2 x3 (by omega)) hg hrep
  refine hc.mono ?_
  rintro e W' ⟨v, M', rfl, hv, hbl⟩
  obtain rfl : v = .bool true := by cases hv; rfl
  refine ⟨_, rfl, post_true laidOutP (by kernel_rfl) rfl rfl Tryd.underlying4 (fun ys hy => ?_) hW' hbl⟩
  match ys, hy with
  | [y0, y1, y2], _ => rfl
theorem witness_checkerOperands (os : Os) {H : Type} (enc : TypeId × Value → H) :
    (Rows.OpenSpec.upto Rows.checkerOperandsSpec).preRow enc Tryd.prog Tryd.f3 Rows.checkerOperandsUptoRow.domain false Rows.checkerOperandsUptoRow.laid ((laidWorld os).forCall (fun _ _ => 0) ⟨#[], #[.agg #[.slice none 0 0, .slice none 0 0, .slice none 0 0, .slice none 0 0], .string ⟨#[]⟩, .agg #[.int .i64 0, .string ⟨#[]⟩, .string ⟨#[]⟩, .string ⟨#[]⟩, .int .i64 0, .int .i64 0, .string ⟨#[]⟩, .slice none 0 0, .int .i64 0, .int .i64 0, .int .i64 0, .slice none 0 0]], []⟩).memory #[.agg #[.slice none 0 0, .slice none 0 0, .slice none 0 0, .slice none 0 0], .string ⟨#[]⟩, .agg #[.int .i64 0, .string ⟨#[]⟩, .string ⟨#[]⟩, .string ⟨#[]⟩, .int .i64 0, .int .i64 0, .string ⟨#[]⟩, .slice none 0 0, .int .i64 0, .int .i64 0, .int .i64 0, .slice none 0 0]] := by
  have hw : (DataW.whole enc Tryd.prog ((laidWorld os).forCall (fun _ _ => 0) ⟨#[], #[.agg #[.slice none 0 0, .slice none 0 0, .slice none 0 0, .slice none 0 0], .string ⟨#[]⟩, .agg #[.int .i64 0, .string ⟨#[]⟩, .string ⟨#[]⟩, .string ⟨#[]⟩, .int .i64 0, .int .i64 0, .string ⟨#[]⟩, .slice none 0 0, .int .i64 0, .int .i64 0, .int .i64 0, .slice none 0 0]], []⟩).memory Tryd.f3.params.toList (Rows.OpenSpec.upto Rows.checkerOperandsSpec).vars false (#[.agg #[.slice none 0 0, .slice none 0 0, .slice none 0 0, .slice none 0 0], .string ⟨#[]⟩, .agg #[.int .i64 0, .string ⟨#[]⟩, .string ⟨#[]⟩, .string ⟨#[]⟩, .int .i64 0, .int .i64 0, .string ⟨#[]⟩, .slice none 0 0, .int .i64 0, .int .i64 0, .int .i64 0, .slice none 0 0]] : Array Value).toList 12).map (fun x => (x.1, x.2.1)) =
      some ([.agg [.nil, .nil, .nil, .nil], .lit (.string []), .agg [.lit (.int .i64 0), .lit (.string []), .lit (.string []), .lit (.string []), .agg [.lit (.int .i64 0), .lit (.int .i64 0), .lit (.string [])], .nil, .lit (.int .i64 0), .agg [.lit (.int .i64 0), .lit (.int .i64 0)], .nil]], []) := by kernel_rfl
  obtain ⟨⟨x1, x2, x3⟩, hx, hx1⟩ := Option.map_eq_some_iff.1 hw
  simp only [Prod.mk.injEq] at hx1
  obtain ⟨rfl, rfl⟩ := hx1
  exact OpenSpec.preRow_of_cond 12 hx (by kernel_rfl) (fun k hk => by cases hk; kernel_rfl) (by kernel_rfl) (laid_met os _)
theorem lifted_checkerOperands (os : Os) (started : os.Started) (H : Type) (enc : TypeId × Value → H) (F : Stop.Interp) :
    ReturnsInHanded {} Tryd.checked os 3 .any ((Rows.OpenSpec.upto Rows.checkerOperandsSpec).preRow enc Tryd.prog Tryd.f3 Rows.checkerOperandsUptoRow.domain false Rows.checkerOperandsUptoRow.laid) (((Rows.OpenSpec.upto Rows.checkerOperandsSpec).at F).post enc Tryd.prog Tryd.f3 false true false false) := by
  refine returnsInHanded_of_row (C := Tryd.checked) (s := Rows.OpenSpec.upto Rows.checkerOperandsSpec) own started (by kernel_rfl) Tryd.func3
    (witness_row_atRef (enc := enc) (C := Tryd.checked) false (laidWorld os) #[.agg #[.slice none 0 0, .slice none 0 0, .slice none 0 0, .slice none 0 0], .string ⟨#[]⟩, .agg #[.int .i64 0, .string ⟨#[]⟩, .string ⟨#[]⟩, .string ⟨#[]⟩, .int .i64 0, .int .i64 0, .string ⟨#[]⟩, .slice none 0 0, .int .i64 0, .int .i64 0, .int .i64 0, .slice none 0 0]] rfl (by kernel_rfl) (by kernel_rfl) (by kernel_rfl) (witness_checkerOperands os enc)) ?_
  intro W base args ds gs before hval hW _ hcond _ hL hsh _
  exact contract_checkerOperands H enc W base args ds gs before hval hW (hcond _ rfl) hL hsh
theorem said_checkerOperands : Rows.CheckerOperandsUptoSaid :=
  OpenClaim.holds_of_cond 3 Tryd.f3 rfl rfl rfl rfl rfl rfl rfl ⟨rfl, rfl, rfl, rfl, rfl⟩ rfl rfl rfl rfl rfl (by kernel_rfl) Tryd.func3 (by kernel_rfl)
    (of_decide_eq_true (by kernel_rfl)) (by unfold Func.isWrapper; first | (rw [if_pos (by decide +kernel)]; kernel_rfl) | (rw [if_neg (by decide +kernel)]; exact ⟨rfl, rfl⟩))
    (fun os started H enc _ F => by rw [OpenClaim.pre_eq_preRow]; exact lifted_checkerOperands os started H enc F)
theorem plain_checkerOperands (f : FuncId) (fn : Func) (hf : Tryd.pinned.checked.prog.funcNamed "asof/asoflaw10.CheckerOperands" = some f) (hfn : Tryd.pinned.checked.prog.funcs[f]? = some fn) :
    false = Tryd.pinned.checked.prog.looks [] ∧ ∀ (j : Nat) t, fn.params[j]? = some t → Tryd.pinned.checked.prog.wantsStandIn t = false := by
  obtain rfl : f = 3 := Option.some.inj ((show Tryd.prog.funcNamed "asof/asoflaw10.CheckerOperands" = some 3 by kernel_rfl).symm.trans hf) |>.symm
  obtain rfl : fn = Tryd.f3 := (Option.some.inj (Tryd.func3.symm.trans hfn)).symm
  refine ⟨by kernel_rfl, fun j t ht => ?_⟩
  have hm := Array.mem_of_getElem? ht
  have hall : (Tryd.f3.params.toList.all fun t => !Tryd.prog.wantsStandIn t) = true := by kernel_rfl
  have := List.all_eq_true.1 hall t (by simpa using hm)
  show Tryd.prog.wantsStandIn t = false
  simpa using this
/-- The card of CheckerOperands, second form. -/
theorem card_checkerOperands : Rows.CheckerOperandsUptoCardSaid :=
  Claim7.holds_tied_plain_at .later [] _ _ _ _ said_checkerOperands (fun _ h => by cases h) (by kernel_rfl) (fun _ h => by cases h) checkerOperandsUpto_row_tie rfl ⟨rfl, rfl⟩ (by kernel_rfl) rfl plain_checkerOperands (by kernel_rfl)
end Go.Proofs.YtihbaggjjglcbaaDoor
end
