/-
  Proved here: CheckerMatchesTables of asoflaw10 returns true, and leaves its arguments as they were, for every input whose values and letters, counted each time they are reached, are together at most 1048576, in a world where the three package-level lists of the checker hold what the program text lays.
-/
import Derived.Test.YtihbaggjjglcbaaGreatDoorK37
set_option linter.unusedVariables false
set_option linter.unusedSimpArgs false

section
set_option maxRecDepth 100000
set_option maxHeartbeats 8000000
set_option linter.unusedVariables false
set_option linter.unusedSimpArgs false
namespace Go.Proofs.YtihbaggjjglcbaaGreatDoor
open Go Go.Dl Go.As Go.Proofs
variable {mx : Int}
attribute [local irreducible] callG callL MC W W2 evT ev evD step stepD

theorem law_tables (a : Typ) (t : Tbl) (ha : bTyp a ≤ 1073741824) (ht : bTbl t ≤ 1073741824) : Is mx 7 [.agg (eTyp a), .agg (eTbl t)] (.bool true) := by
  have hu := bTyp_unit a
  have hl : t.fields.length ≤ bSum bFld t.fields := bSum_len (fun x => by unfold bFld; omega) t.fields
  have hfl : ∀ x ∈ t.fields, bTyp x.typ ≤ 1073741824 := fun x hx => by have h1 := bSum_mem (b := bFld) hx; have h2 := bTbl_eq t; have h3 := bFld_eq x; omega
  have h1 := Type_is (mx := mx) a (by omega)
  have h2 := Type10_is (mx := mx) a (by omega) (fun x hx => by have h1 := bSum_mem (b := bFac) hx; have h2 : bTyp a = bSum bFac a.unit + a.of.length + 1 := rfl; have h3 : bFac x = x.name.length + 1 := rfl; omega)
  have h3 := Table_is (mx := mx) t (fun x hx => by have := hfl x hx; have := bTyp_unit x.typ; unfold uB; omega) (by unfold bTbl at ht; omega)
  have h4 := Table10_is (mx := mx) t hfl (by unfold bTbl at ht; omega)
  rw [typeR_ok] at h2
  rw [tableR_ok] at h4
  generalize typeOk a = r1 at h1 h2
  generalize tableT t = r2 at h3 h4
  refine MC_of_J Tryz.func7 (by kernel_rfl) Tryz.ntmps7 rfl rfl comp7 rv7 rfl c7.eq_1 ?_
  (repeat' first
| exact hole _
| simp (maxSteps := 9999999) (disch := omega) only [go_sem, reduceCtorEq, Int.reduceToNat, Int.reduceNeg, Int.reduceLT, Int.reduceLE, Int.reduceEq, Int.reduceAdd, Int.reduceSub, Int.reduceMul, Nat.reduceAdd, Nat.reduceSub, Nat.reduceMul, Nat.reduceEqDiff, Nat.reduceBEq, Nat.reduceBneDiff, Nat.reduceLeDiff, Nat.reduceLT, reduceIte, R7]
| refine' gdV_sc' rfl rfl (by simp only [V0, V1, Nat.reduceEqDiff, reduceIte]) (fun hq => ?_) (fun f => ?_) <;> try (have hq' := hq; try simp only [HB] at hq')
| refine' gdD_sc' rfl rfl (by simp only [V0, V1, Nat.reduceEqDiff, reduceIte]) (fun hq => ?_) (fun f => ?_) <;> try (have hq' := hq; try simp only [HB] at hq')
| refine gdV_intro (fun h => ?_) (fun h => ?_) <;> (have h' := h; try simp only [HB] at h'; try rewrite [h]; try simp only [h])
| refine condJ_intro (fun h => ?_) (fun h => ?_) <;> (have h' := h; try simp only [HB] at h'; try rewrite [h]; try simp only [h])
| refine pickE_intro (fun h => ?_) (fun h => ?_) <;> (have h' := h; try simp only [HB] at h'; try rewrite [h]; try simp only [h])
| refine gdD_intro (fun h => ?_) (fun h => ?_) <;> (have h' := h; try simp only [HB] at h'; try rewrite [h]; try simp only [h])
| refine callL_of (example_is) ?_
| refine callL_of (h1) ?_
| refine callL_of (h2) ?_
| refine callL_of (h3) ?_
| refine callL_of (h4) ?_
| refine ct_I ?_
| refine callG_I ?_ ?_
| refine callG_Iv ?_ ?_
| refine drJ_I (by simp only [R7]; rfl) ?_
| refine ret_I (R := isR _) ?_
| refine nxt_I (fun hr => ?_) (fun q hq => ?_)
| refine isnil_I (fun hnil b => ?_) (fun hnil => ?_)
| (refine And.intro ?_ ?_; focus omega))

end Go.Proofs.YtihbaggjjglcbaaGreatDoor
end

section
set_option maxRecDepth 100000
set_option maxHeartbeats 8000000
set_option linter.unusedVariables false
set_option linter.unusedSimpArgs false
namespace Go.Proofs.YtihbaggjjglcbaaGreatDoor
open Go Go.Dl Go.As Go.RowKit Go.ChangeShapes Go.WideShapes
/-- CheckerMatchesTables: the call, in a world, at arguments of bulk at most the bound. -/
theorem contract_checkerMatchesTables (H : Type) (enc : TypeId × Value → H) (W : World) (base : Nat) (args : Array Value) (ds gs : List (DataW H)) (before : List MemPlace)
    (hval : ∀ (j : Nat) t v, Tryz.f7.params[j]? = some t → args[j]? = some v → Value.okWide Tryz.prog W .any base t v)
    (hW : DataW.Whole enc Tryz.prog Tryz.f7.params.toList Rows.checkerMatchesTablesSpec.vars false W args.toList ds gs before) (hk : Rows.uptoSmall H (ds ++ gs) = true) (hL : laidMetH Tryz.prog laidL W) (hsh : W.ShapedOpen Tryz.prog) :
    Calls Tryz.prog 7 args W fun e W' => ∃ v, e = .returned v ∧ Rows.checkerMatchesTablesSpec.post enc Tryz.prog Tryz.f7 false true false false W args v W' := by
  have hW' := hW
  obtain ⟨p, q, hA0, hV, rfl, _, _⟩ := hW
  obtain ⟨rfl, rfl⟩ := trodVars_none hV
  have hA : DataW.TrodAll enc Tryz.prog W 0 (fun _ => true) true [36, 64] args.toList ds p := hA0
  obtain ⟨hlen, hrd⟩ := rdAll hA
  have hb : Rows.uptoBulkAll (ds ++ []) ≤ 1048576 := of_decide_eq_true hk
  rw [List.append_nil, bulks_eq] at hb
  obtain ⟨d1, d2, rfl⟩ : ∃ d1 d2, ds = [d1, d2] := by
    match ds, hlen with
    | [d1, d2], _ => exact ⟨d1, d2, rfl⟩
  obtain ⟨n1, r1⟩ := hrd 0 (by simp) (by simp)
  replace r1 : Rd Tryz.prog n1 36 d1 := r1
  obtain ⟨n2, r2⟩ := hrd 1 (by simp) (by simp)
  replace r2 : Rd Tryz.prog n2 64 d2 := r2
  obtain ⟨x1, f1, b1, _⟩ := typ_rd r1
  obtain ⟨x2, f2, b2, _⟩ := tbl_rd r2
  simp only [bulkL] at hb
  obtain ⟨mx, hg⟩ := glob_ok hL hsh
  have hrep := args_rep plainLok (ts := [36, 64]) (ds := [d1, d2]) (by decide) (fun j t v h1 h2 => hval j t v (by simpa using h1) (by simpa using h2)) hA
  have g1 : argI Tryz.prog 36 (flatD d1) = .agg (eTyp x1) := by rw [f1]; exact argI_S Tryz.underlying36
  have g2 : argI Tryz.prog 64 (flatD d2) = .agg (eTbl x2) := by rw [f2]; exact argI_S Tryz.underlying64
  have he : argsI Tryz.prog [36, 64] [d1, d2] = [.agg (eTyp x1), .agg (eTbl x2)] := by simp only [argsI, g1, g2]
  rw [he] at hrep
  have hc := calls_of_MC (by kernel_rfl) (law_tables (mx := mx) x1 x2 (by omega) (by omega)) hg hrep
  refine hc.mono ?_
  rintro e W' ⟨v, M', rfl, hv, hbl⟩
  obtain rfl : v = .bool true := by cases hv; rfl
  refine ⟨_, rfl, post_true laidOutP (by kernel_rfl) rfl rfl Tryz.underlying4 (fun ys hy => ?_) hW' hbl⟩
  match ys, hy with
  | [y0, y1], _ => rfl
theorem witness_checkerMatchesTables (os : Os) {H : Type} (enc : TypeId × Value → H) :
    (Rows.OpenSpec.upto Rows.checkerMatchesTablesSpec).preRow enc Tryz.prog Tryz.f7 Rows.checkerMatchesTablesUptoRow.domain false Rows.checkerMatchesTablesUptoRow.laid ((laidWorld os).forCall (fun _ _ => 0) ⟨#[], #[.agg #[.int .i64 0, .slice none 0 0, .string ⟨#[]⟩], .agg #[.string ⟨#[]⟩, .string ⟨#[]⟩, .slice none 0 0, .int .i64 0]], []⟩).memory #[.agg #[.int .i64 0, .slice none 0 0, .string ⟨#[]⟩], .agg #[.string ⟨#[]⟩, .string ⟨#[]⟩, .slice none 0 0, .int .i64 0]] := by
  have hw : (DataW.whole enc Tryz.prog ((laidWorld os).forCall (fun _ _ => 0) ⟨#[], #[.agg #[.int .i64 0, .slice none 0 0, .string ⟨#[]⟩], .agg #[.string ⟨#[]⟩, .string ⟨#[]⟩, .slice none 0 0, .int .i64 0]], []⟩).memory Tryz.f7.params.toList (Rows.OpenSpec.upto Rows.checkerMatchesTablesSpec).vars false (#[.agg #[.int .i64 0, .slice none 0 0, .string ⟨#[]⟩], .agg #[.string ⟨#[]⟩, .string ⟨#[]⟩, .slice none 0 0, .int .i64 0]] : Array Value).toList 12).map (fun x => (x.1, x.2.1)) =
      some ([.agg [.lit (.int .i64 0), .nil, .lit (.string [])], .agg [.lit (.string []), .lit (.string []), .nil, .lit (.int .i64 0)]], []) := by kernel_rfl
  obtain ⟨⟨x1, x2, x3⟩, hx, hx1⟩ := Option.map_eq_some_iff.1 hw
  simp only [Prod.mk.injEq] at hx1
  obtain ⟨rfl, rfl⟩ := hx1
  exact OpenSpec.preRow_of_cond 12 hx (by kernel_rfl) (fun k hk => by cases hk; kernel_rfl) (by kernel_rfl) (laid_met os _)
theorem lifted_checkerMatchesTables (os : Os) (started : os.Started) (H : Type) (enc : TypeId × Value → H) (F : Stop.Interp) :
    ReturnsInHanded {} Tryz.checked os 7 .any ((Rows.OpenSpec.upto Rows.checkerMatchesTablesSpec).preRow enc Tryz.prog Tryz.f7 Rows.checkerMatchesTablesUptoRow.domain false Rows.checkerMatchesTablesUptoRow.laid) (((Rows.OpenSpec.upto Rows.checkerMatchesTablesSpec).at F).post enc Tryz.prog Tryz.f7 false true false false) := by
  refine returnsInHanded_of_row (C := Tryz.checked) (s := Rows.OpenSpec.upto Rows.checkerMatchesTablesSpec) own started (by kernel_rfl) Tryz.func7
    (witness_row_atRef (enc := enc) (C := Tryz.checked) false (laidWorld os) #[.agg #[.int .i64 0, .slice none 0 0, .string ⟨#[]⟩], .agg #[.string ⟨#[]⟩, .string ⟨#[]⟩, .slice none 0 0, .int .i64 0]] rfl (by kernel_rfl) (by kernel_rfl) (by kernel_rfl) (witness_checkerMatchesTables os enc)) ?_
  intro W base args ds gs before hval hW _ hcond _ hL hsh _
  exact contract_checkerMatchesTables H enc W base args ds gs before hval hW (hcond _ rfl) hL hsh
theorem said_checkerMatchesTables : Rows.CheckerMatchesTablesUptoSaid :=
  OpenClaim.holds_of_cond 7 Tryz.f7 rfl rfl rfl rfl rfl rfl rfl ⟨rfl, rfl, rfl, rfl, rfl⟩ rfl rfl rfl rfl rfl (by kernel_rfl) Tryz.func7 (by kernel_rfl)
    (of_decide_eq_true (by kernel_rfl)) (by unfold Func.isWrapper; first | (rw [if_pos (by decide +kernel)]; kernel_rfl) | (rw [if_neg (by decide +kernel)]; exact ⟨rfl, rfl⟩))
    (fun os started H enc _ F => by rw [OpenClaim.pre_eq_preRow]; exact lifted_checkerMatchesTables os started H enc F)
theorem plain_checkerMatchesTables (f : FuncId) (fn : Func) (hf : Tryz.pinned.checked.prog.funcNamed "asof/asoflaw10.CheckerMatchesTables" = some f) (hfn : Tryz.pinned.checked.prog.funcs[f]? = some fn) :
    false = Tryz.pinned.checked.prog.looks [] ∧ ∀ (j : Nat) t, fn.params[j]? = some t → Tryz.pinned.checked.prog.wantsStandIn t = false := by
  obtain rfl : f = 7 := Option.some.inj ((show Tryz.prog.funcNamed "asof/asoflaw10.CheckerMatchesTables" = some 7 by kernel_rfl).symm.trans hf) |>.symm
  obtain rfl : fn = Tryz.f7 := (Option.some.inj (Tryz.func7.symm.trans hfn)).symm
  refine ⟨by kernel_rfl, fun j t ht => ?_⟩
  have hm := Array.mem_of_getElem? ht
  have hall : (Tryz.f7.params.toList.all fun t => !Tryz.prog.wantsStandIn t) = true := by kernel_rfl
  have := List.all_eq_true.1 hall t (by simpa using hm)
  show Tryz.prog.wantsStandIn t = false
  simpa using this
/-- The card of CheckerMatchesTables, second form. -/
theorem card_checkerMatchesTables : Rows.CheckerMatchesTablesUptoCardSaid :=
  Claim7.holds_tied_plain_at .later [] _ _ _ _ said_checkerMatchesTables (fun _ h => by cases h) (by kernel_rfl) (fun _ h => by cases h) checkerMatchesTablesUpto_row_tie rfl ⟨rfl, rfl⟩ (by kernel_rfl) rfl plain_checkerMatchesTables (by kernel_rfl)
end Go.Proofs.YtihbaggjjglcbaaGreatDoor
end
