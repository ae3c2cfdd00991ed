/-
  What the laws of this seat share, part 36: no statement of its own.
-/
import Derived.Test.YtihbaggjjglcbaaGreatDoorJ35
import Derived.Test.YtihbaggjjglcbaaGreatDoorCards
import Derived.Test.YtihbaggjjglcbaaGreatDoorTie
import Derived.Deep.DeepWitnessRowRef
import Derived.Lib.LaidIn
set_option linter.unusedVariables false
set_option linter.unusedSimpArgs false

section
set_option maxRecDepth 100000
set_option maxHeartbeats 8000000
set_option linter.unusedVariables false
set_option linter.unusedSimpArgs false
namespace Go.Proofs.YtihbaggjjglcbaaGreatDoor
open Go Go.Dl Go.As Go.Proofs
variable {mx : Int}
attribute [local irreducible] callG callL MC W W2 evT ev evD step stepD

abbrev boolT : Typ := ⟨1, [], []⟩
def sDistinct : Str := [100, 105, 115, 116, 105, 110, 99, 116]
def sFirst : Str := [102, 105, 114, 115, 116]
def sLast : Str := [108, 97, 115, 116]
def sMin : Str := [109, 105, 110]
def sMax : Str := [109, 97, 120]
def sMean : Str := [109, 101, 97, 110]
def sMinus : Str := [45]
def sNull : Str := [110, 117, 108, 108]
def sNot : Str := [110, 111, 116]
def ruleAgg (op : Str) (a b : Typ) : Typ × Int :=
  if b.kind ≠ 1 then (noTyp, 5) else if op = sCount ∨ op = sDistinct then (⟨2, [], []⟩, 0) else if op = sFirst ∨ op = sLast then (a, 0)
  else if (op = sMin ∨ op = sMax) ∧ a.kind = 4 then (a, 0) else if isNum a = false then (noTyp, 5) else if op = sMean ∨ op = sDecay then (⟨3, a.unit, []⟩, 0) else (a, 0)
def ruleUn (op : Str) (a : Typ) : Typ × Int :=
  if op = sMinus ∧ isNum a = true then (a, 0) else if op = sNull ∨ (op = sNot ∧ a.kind = 1) then (boolT, 0) else (noTyp, 5)
theorem literal_is (c : Cat) (e0 : Str) (fld : I) (x : Xpr) (l : List Typ) : Is mx 68 [.agg (eScp c e0 fld), .agg (eE x), .sl (l.map eTyp)] (eRes (⟨x.val.kind, x.unit, x.name⟩, 0)) := by
  refine MC_of_J Tryz.func68 (by kernel_rfl) Tryz.ntmps68 rfl rfl comp68 rv68 rfl c68.eq_1 ?_
  (repeat' first
| exact hole _
| simp (maxSteps := 9999999) (disch := omega) only [go_sem, reduceCtorEq, Int.reduceToNat, Int.reduceNeg, Int.reduceLT, Int.reduceLE, Int.reduceEq, Int.reduceAdd, Int.reduceSub, Int.reduceMul, Nat.reduceAdd, Nat.reduceSub, Nat.reduceMul, Nat.reduceEqDiff, Nat.reduceBEq, Nat.reduceBneDiff, Nat.reduceLeDiff, Nat.reduceLT, reduceIte, R68, eRes]
| refine' gdV_sc' rfl rfl (by simp only [V0, V1, Nat.reduceEqDiff, reduceIte]) (fun hq => ?_) (fun f => ?_) <;> try (have hq' := hq; try simp only [HB] at hq')
| refine' gdD_sc' rfl rfl (by simp only [V0, V1, Nat.reduceEqDiff, reduceIte]) (fun hq => ?_) (fun f => ?_) <;> try (have hq' := hq; try simp only [HB] at hq')
| refine gdV_intro (fun h => ?_) (fun h => ?_) <;> (have h' := h; try simp only [HB] at h'; try rewrite [h]; try simp only [h])
| refine condJ_intro (fun h => ?_) (fun h => ?_) <;> (have h' := h; try simp only [HB] at h'; try rewrite [h]; try simp only [h])
| refine pickE_intro (fun h => ?_) (fun h => ?_) <;> (have h' := h; try simp only [HB] at h'; try rewrite [h]; try simp only [h])
| refine gdD_intro (fun h => ?_) (fun h => ?_) <;> (have h' := h; try simp only [HB] at h'; try rewrite [h]; try simp only [h])
| refine ct_I ?_
| refine callG_I ?_ ?_
| refine callG_Iv ?_ ?_
| refine drJ_I (by simp only [R68]; rfl) ?_
| refine ret_I (R := isR _) ?_
| refine nxt_I (fun hr => ?_) (fun q hq => ?_)
| refine isnil_I (fun hnil b => ?_) (fun hnil => ?_)
| (refine And.intro ?_ ?_; focus omega))
theorem fieldOf_is (c : Cat) (e0 : Str) (t : Tbl) (x : Xpr) (l : List Typ) (ht : t.fields.length ≤ 1073741824) : Is mx 69 [.agg (eScp c e0 (.fn 54 [] [.elt (eTbl t) 0])), .agg (eE x), .sl (l.map eTyp)] (eRes (fieldT t x.name)) := by
  refine MC_of_J Tryz.func69 (by kernel_rfl) Tryz.ntmps69 rfl rfl comp69 rv69 rfl c69.eq_1 ?_
  (repeat' first
| exact hole _
| simp (maxSteps := 9999999) (disch := omega) only [go_sem, reduceCtorEq, Int.reduceToNat, Int.reduceNeg, Int.reduceLT, Int.reduceLE, Int.reduceEq, Int.reduceAdd, Int.reduceSub, Int.reduceMul, Nat.reduceAdd, Nat.reduceSub, Nat.reduceMul, Nat.reduceEqDiff, Nat.reduceBEq, Nat.reduceBneDiff, Nat.reduceLeDiff, Nat.reduceLT, reduceIte, R69, eRes]
| refine' gdV_sc' rfl rfl (by simp only [V0, V1, Nat.reduceEqDiff, reduceIte]) (fun hq => ?_) (fun f => ?_) <;> try (have hq' := hq; try simp only [HB] at hq')
| refine' gdD_sc' rfl rfl (by simp only [V0, V1, Nat.reduceEqDiff, reduceIte]) (fun hq => ?_) (fun f => ?_) <;> try (have hq' := hq; try simp only [HB] at hq')
| refine gdV_intro (fun h => ?_) (fun h => ?_) <;> (have h' := h; try simp only [HB] at h'; try rewrite [h]; try simp only [h])
| refine condJ_intro (fun h => ?_) (fun h => ?_) <;> (have h' := h; try simp only [HB] at h'; try rewrite [h]; try simp only [h])
| refine pickE_intro (fun h => ?_) (fun h => ?_) <;> (have h' := h; try simp only [HB] at h'; try rewrite [h]; try simp only [h])
| refine gdD_intro (fun h => ?_) (fun h => ?_) <;> (have h' := h; try simp only [HB] at h'; try rewrite [h]; try simp only [h])
| refine callL_of (infer2_is _ _ ht) ?_
| refine ct_I ?_
| refine callG_I ?_ ?_
| refine callG_Iv ?_ ?_
| refine drJ_I (by simp only [R69]; rfl) ?_
| refine ret_I (R := isR _) ?_
| refine nxt_I (fun hr => ?_) (fun q hq => ?_)
| refine isnil_I (fun hnil b => ?_) (fun hnil => ?_)
| (refine And.intro ?_ ?_; focus omega))
theorem feature_is (c : Cat) (e0 : Str) (fld : I) (x : Xpr) (l : List Typ) (hc : c.features.length ≤ 1073741824) : Is mx 70 [.agg (eScp c e0 fld), .agg (eE x), .sl (l.map eTyp)] (eRes (namedT c.features x.name e0)) := by
  refine MC_of_J Tryz.func70 (by kernel_rfl) Tryz.ntmps70 rfl rfl comp70 rv70 rfl c70.eq_1 ?_
  (repeat' first
| exact hole _
| simp (maxSteps := 9999999) (disch := omega) only [go_sem, reduceCtorEq, Int.reduceToNat, Int.reduceNeg, Int.reduceLT, Int.reduceLE, Int.reduceEq, Int.reduceAdd, Int.reduceSub, Int.reduceMul, Nat.reduceAdd, Nat.reduceSub, Nat.reduceMul, Nat.reduceEqDiff, Nat.reduceBEq, Nat.reduceBneDiff, Nat.reduceLeDiff, Nat.reduceLT, reduceIte, R70, eRes]
| refine' gdV_sc' rfl rfl (by simp only [V0, V1, Nat.reduceEqDiff, reduceIte]) (fun hq => ?_) (fun f => ?_) <;> try (have hq' := hq; try simp only [HB] at hq')
| refine' gdD_sc' rfl rfl (by simp only [V0, V1, Nat.reduceEqDiff, reduceIte]) (fun hq => ?_) (fun f => ?_) <;> try (have hq' := hq; try simp only [HB] at hq')
| refine gdV_intro (fun h => ?_) (fun h => ?_) <;> (have h' := h; try simp only [HB] at h'; try rewrite [h]; try simp only [h])
| refine condJ_intro (fun h => ?_) (fun h => ?_) <;> (have h' := h; try simp only [HB] at h'; try rewrite [h]; try simp only [h])
| refine pickE_intro (fun h => ?_) (fun h => ?_) <;> (have h' := h; try simp only [HB] at h'; try rewrite [h]; try simp only [h])
| refine gdD_intro (fun h => ?_) (fun h => ?_) <;> (have h' := h; try simp only [HB] at h'; try rewrite [h]; try simp only [h])
| refine callL_of (named_is c _ _ _ _ hc) ?_
| refine ct_I ?_
| refine callG_I ?_ ?_
| refine callG_Iv ?_ ?_
| refine drJ_I (by simp only [R70]; rfl) ?_
| refine ret_I (R := isR _) ?_
| refine nxt_I (fun hr => ?_) (fun q hq => ?_)
| refine isnil_I (fun hnil b => ?_) (fun hnil => ?_)
| (refine And.intro ?_ ?_; focus omega))
theorem lookup_is (c : Cat) (e0 : Str) (fld : I) (x : Xpr) (l : List Typ) (hc : c.features.length ≤ 1073741824) (hl : 0 < l.length) : Is mx 71 [.agg (eScp c e0 fld), .agg (eE x), .sl (l.map eTyp)] (eRes (if (l.getD 0 default).kind ≠ 5 then (noTyp, 5) else namedT c.features x.name (l.getD 0 default).of)) := by
  refine MC_of_J Tryz.func71 (by kernel_rfl) Tryz.ntmps71 rfl rfl comp71 rv71 rfl c71.eq_1 ?_
  have hl2 : (0 : Int) < l.length := by omega
  (repeat' first
| exact hole _
| simp (maxSteps := 9999999) (disch := omega) only [go_sem, reduceCtorEq, Int.reduceToNat, Int.reduceNeg, Int.reduceLT, Int.reduceLE, Int.reduceEq, Int.reduceAdd, Int.reduceSub, Int.reduceMul, Nat.reduceAdd, Nat.reduceSub, Nat.reduceMul, Nat.reduceEqDiff, Nat.reduceBEq, Nat.reduceBneDiff, Nat.reduceLeDiff, Nat.reduceLT, reduceIte, R71, eRes]
| refine' gdV_sc' rfl rfl (by simp only [V0, V1, Nat.reduceEqDiff, reduceIte]) (fun hq => ?_) (fun f => ?_) <;> try (have hq' := hq; try simp only [HB] at hq')
| refine' gdD_sc' rfl rfl (by simp only [V0, V1, Nat.reduceEqDiff, reduceIte]) (fun hq => ?_) (fun f => ?_) <;> try (have hq' := hq; try simp only [HB] at hq')
| refine gdV_intro (fun h => ?_) (fun h => ?_) <;> (have h' := h; try simp only [HB] at h'; try rewrite [h]; try simp only [h])
| refine condJ_intro (fun h => ?_) (fun h => ?_) <;> (have h' := h; try simp only [HB] at h'; try rewrite [h]; try simp only [h])
| refine pickE_intro (fun h => ?_) (fun h => ?_) <;> (have h' := h; try simp only [HB] at h'; try rewrite [h]; try simp only [h])
| refine gdD_intro (fun h => ?_) (fun h => ?_) <;> (have h' := h; try simp only [HB] at h'; try rewrite [h]; try simp only [h])
| refine callL_of (named_is c _ _ _ _ hc) ?_
| refine callL_of (fail_is _) ?_
| refine ct_I ?_
| refine callG_I ?_ ?_
| refine callG_Iv ?_ ?_
| refine drJ_I (by simp only [R71]; rfl) ?_
| refine ret_I (R := isR _) ?_
| refine nxt_I (fun hr => ?_) (fun q hq => ?_)
| refine isnil_I (fun hnil b => ?_) (fun hnil => ?_)
| (refine And.intro ?_ ?_; focus omega))
  all_goals grind [eRes, eTyp]
theorem unary_is (c : Cat) (e0 : Str) (fld : I) (x : Xpr) (l : List Typ) (hl : 0 < l.length) : Is mx 73 [.agg (eScp c e0 fld), .agg (eE x), .sl (l.map eTyp)] (eRes (ruleUn x.op (l.getD 0 default))) := by
  refine MC_of_J Tryz.func73 (by kernel_rfl) Tryz.ntmps73 rfl rfl comp73 rv73 rfl c73.eq_1 ?_
  have hl2 : (0 : Int) < l.length := by omega
  (repeat' first
| exact hole _
| simp (maxSteps := 9999999) (disch := omega) only [go_sem, reduceCtorEq, Int.reduceToNat, Int.reduceNeg, Int.reduceLT, Int.reduceLE, Int.reduceEq, Int.reduceAdd, Int.reduceSub, Int.reduceMul, Nat.reduceAdd, Nat.reduceSub, Nat.reduceMul, Nat.reduceEqDiff, Nat.reduceBEq, Nat.reduceBneDiff, Nat.reduceLeDiff, Nat.reduceLT, reduceIte, R73]
| refine' gdV_sc' rfl rfl (by simp only [V0, V1, Nat.reduceEqDiff, reduceIte]) (fun hq => ?_) (fun f => ?_) <;> try (have hq' := hq; try simp only [HB] at hq')
| refine' gdD_sc' rfl rfl (by simp only [V0, V1, Nat.reduceEqDiff, reduceIte]) (fun hq => ?_) (fun f => ?_) <;> try (have hq' := hq; try simp only [HB] at hq')
| refine gdV_intro (fun h => ?_) (fun h => ?_) <;> (have h' := h; try simp only [HB] at h'; try rewrite [h]; try simp only [h])
| refine condJ_intro (fun h => ?_) (fun h => ?_) <;> (have h' := h; try simp only [HB] at h'; try rewrite [h]; try simp only [h])
| refine pickE_intro (fun h => ?_) (fun h => ?_) <;> (have h' := h; try simp only [HB] at h'; try rewrite [h]; try simp only [h])
| refine gdD_intro (fun h => ?_) (fun h => ?_) <;> (have h' := h; try simp only [HB] at h'; try rewrite [h]; try simp only [h])
| refine callL_of (fail_is _) ?_
| refine callL_of (isNumber_is (l.getD 0 default)) ?_
| refine ct_I ?_
| refine callG_I ?_ ?_
| refine callG_Iv ?_ ?_
| refine drJ_I (by simp only [R73]; rfl) ?_
| refine ret_I (R := isR _) ?_
| refine nxt_I (fun hr => ?_) (fun q hq => ?_)
| refine isnil_I (fun hnil b => ?_) (fun hnil => ?_)
| (refine And.intro ?_ ?_; focus omega))
  all_goals (simp only [ruleUn, ruleAgg, sMinus, sNull, sNot, sCount, sDistinct, sFirst, sLast, sMin, sMax, sMean, sDecay, boolT, noTyp]; grind [eRes, eTyp])
theorem aggregate_is (c : Cat) (e0 : Str) (fld : I) (x : Xpr) (l : List Typ) (hl : 1 < l.length) : Is mx 72 [.agg (eScp c e0 fld), .agg (eE x), .sl (l.map eTyp)] (eRes (ruleAgg x.op (l.getD 0 default) (l.getD 1 default))) := by
  refine MC_of_J Tryz.func72 (by kernel_rfl) Tryz.ntmps72 rfl rfl comp72 rv72 rfl c72.eq_1 ?_
  have hl2 : (1 : Int) < l.length := by omega
  (repeat' first
| exact hole _
| simp (maxSteps := 9999999) (disch := omega) only [go_sem, reduceCtorEq, Int.reduceToNat, Int.reduceNeg, Int.reduceLT, Int.reduceLE, Int.reduceEq, Int.reduceAdd, Int.reduceSub, Int.reduceMul, Nat.reduceAdd, Nat.reduceSub, Nat.reduceMul, Nat.reduceEqDiff, Nat.reduceBEq, Nat.reduceBneDiff, Nat.reduceLeDiff, Nat.reduceLT, reduceIte, R72]
| refine' gdV_sc' rfl rfl (by simp only [V0, V1, Nat.reduceEqDiff, reduceIte]) (fun hq => ?_) (fun f => ?_) <;> try (have hq' := hq; try simp only [HB] at hq')
| refine' gdD_sc' rfl rfl (by simp only [V0, V1, Nat.reduceEqDiff, reduceIte]) (fun hq => ?_) (fun f => ?_) <;> try (have hq' := hq; try simp only [HB] at hq')
| refine gdV_intro (fun h => ?_) (fun h => ?_) <;> (have h' := h; try simp only [HB] at h'; try rewrite [h]; try simp only [h])
| refine condJ_intro (fun h => ?_) (fun h => ?_) <;> (have h' := h; try simp only [HB] at h'; try rewrite [h]; try simp only [h])
| refine pickE_intro (fun h => ?_) (fun h => ?_) <;> (have h' := h; try simp only [HB] at h'; try rewrite [h]; try simp only [h])
| refine gdD_intro (fun h => ?_) (fun h => ?_) <;> (have h' := h; try simp only [HB] at h'; try rewrite [h]; try simp only [h])
| refine callL_of (fail_is _) ?_
| refine callL_of (isNumber_is (l.getD 0 default)) ?_
| refine ct_I ?_
| refine callG_I ?_ ?_
| refine callG_Iv ?_ ?_
| refine drJ_I (by simp only [R72]; rfl) ?_
| refine ret_I (R := isR _) ?_
| refine nxt_I (fun hr => ?_) (fun q hq => ?_)
| refine isnil_I (fun hnil b => ?_) (fun hnil => ?_)
| (refine And.intro ?_ ?_; focus omega))
  all_goals (simp only [ruleUn, ruleAgg, sMinus, sNull, sNot, sCount, sDistinct, sFirst, sLast, sMin, sMax, sMean, sDecay, boolT, noTyp]; grind [eRes, eTyp])
def ruleBin (op : Str) (a b : Typ) : Typ × Int :=
  if op = [97, 110, 100] ∨ op = [111, 114] then (if a.kind = 1 ∧ b.kind = 1 then (boolT, 0) else (noTyp, 5))
  else if op = [61, 61] ∨ op = [33, 61] ∨ op = [60] ∨ op = [60, 61] then
    (if (isNum a && isNum b) = true ∧ a.unit ≠ b.unit then (noTyp, 70)
     else if (isNum a && isNum b) = true ∨ (if op = [60] ∨ op = [60, 61] then a.kind = 4 ∧ b.kind = 4 else a.kind = b.kind ∧ a.of = b.of ∧ a.unit = b.unit) then (boolT, 0) else (noTyp, 5))
  else if (isNum a && isNum b) = false then (noTyp, 5)
  else if op = [42] then (if (prodU a.unit b.unit 1).2 ≠ 0 then (noTyp, 70) else (⟨max a.kind b.kind, (prodU a.unit b.unit 1).1, []⟩, 0))
  else if op = [47] then (if (prodU a.unit b.unit (-1)).2 ≠ 0 then (noTyp, 70) else (⟨3, (prodU a.unit b.unit (-1)).1, []⟩, 0))
  else if (op = [43] ∨ op = [45]) ∧ a.unit ≠ b.unit then (noTyp, 70) else (⟨max a.kind b.kind, a.unit, []⟩, 0)
theorem choice_is (c : Cat) (e0 : Str) (fld : I) (x : Xpr) (l : List Typ) (hl : 2 < l.length) (hu : (l.getD 1 default).unit.length ≤ 1073741824) : Is mx 75 [.agg (eScp c e0 fld), .agg (eE x), .sl (l.map eTyp)] (eRes (if (l.getD 0 default).kind ≠ 1 then (noTyp, 5) else sameT (l.getD 1 default) (l.getD 2 default))) := by
  refine MC_of_J Tryz.func75 (by kernel_rfl) Tryz.ntmps75 rfl rfl comp75 rv75 rfl c75.eq_1 ?_
  have hl2 : (2 : Int) < l.length := by omega
  (repeat' first
| exact hole _
| simp (maxSteps := 9999999) (disch := omega) only [go_sem, reduceCtorEq, Int.reduceToNat, Int.reduceNeg, Int.reduceLT, Int.reduceLE, Int.reduceEq, Int.reduceAdd, Int.reduceSub, Int.reduceMul, Nat.reduceAdd, Nat.reduceSub, Nat.reduceMul, Nat.reduceEqDiff, Nat.reduceBEq, Nat.reduceBneDiff, Nat.reduceLeDiff, Nat.reduceLT, reduceIte, R75, eRes]
| refine' gdV_sc' rfl rfl (by simp only [V0, V1, Nat.reduceEqDiff, reduceIte]) (fun hq => ?_) (fun f => ?_) <;> try (have hq' := hq; try simp only [HB] at hq')
| refine' gdD_sc' rfl rfl (by simp only [V0, V1, Nat.reduceEqDiff, reduceIte]) (fun hq => ?_) (fun f => ?_) <;> try (have hq' := hq; try simp only [HB] at hq')
| refine gdV_intro (fun h => ?_) (fun h => ?_) <;> (have h' := h; try simp only [HB] at h'; try rewrite [h]; try simp only [h])
| refine condJ_intro (fun h => ?_) (fun h => ?_) <;> (have h' := h; try simp only [HB] at h'; try rewrite [h]; try simp only [h])
| refine pickE_intro (fun h => ?_) (fun h => ?_) <;> (have h' := h; try simp only [HB] at h'; try rewrite [h]; try simp only [h])
| refine gdD_intro (fun h => ?_) (fun h => ?_) <;> (have h' := h; try simp only [HB] at h'; try rewrite [h]; try simp only [h])
| refine callL_of (same_is (l.getD 1 default) (l.getD 2 default) hu) ?_
| refine callL_of (fail_is _) ?_
| refine ct_I ?_
| refine callG_I ?_ ?_
| refine callG_Iv ?_ ?_
| refine drJ_I (by simp only [R75]; rfl) ?_
| refine ret_I (R := isR _) ?_
| refine nxt_I (fun hr => ?_) (fun q hq => ?_)
| refine isnil_I (fun hnil b => ?_) (fun hnil => ?_)
| (refine And.intro ?_ ?_; focus omega))
  all_goals grind [eRes, eTyp]
theorem fallback_is (c : Cat) (e0 : Str) (fld : I) (x : Xpr) (l : List Typ) (hl : 1 < l.length) (hu : (l.getD 0 default).unit.length ≤ 1073741824) : Is mx 76 [.agg (eScp c e0 fld), .agg (eE x), .sl (l.map eTyp)] (eRes (sameT (l.getD 0 default) (l.getD 1 default))) := by
  refine MC_of_J Tryz.func76 (by kernel_rfl) Tryz.ntmps76 rfl rfl comp76 rv76 rfl c76.eq_1 ?_
  have hl2 : (1 : Int) < l.length := by omega
  (repeat' first
| exact hole _
| simp (maxSteps := 9999999) (disch := omega) only [go_sem, reduceCtorEq, Int.reduceToNat, Int.reduceNeg, Int.reduceLT, Int.reduceLE, Int.reduceEq, Int.reduceAdd, Int.reduceSub, Int.reduceMul, Nat.reduceAdd, Nat.reduceSub, Nat.reduceMul, Nat.reduceEqDiff, Nat.reduceBEq, Nat.reduceBneDiff, Nat.reduceLeDiff, Nat.reduceLT, reduceIte, R76, eRes]
| refine' gdV_sc' rfl rfl (by simp only [V0, V1, Nat.reduceEqDiff, reduceIte]) (fun hq => ?_) (fun f => ?_) <;> try (have hq' := hq; try simp only [HB] at hq')
| refine' gdD_sc' rfl rfl (by simp only [V0, V1, Nat.reduceEqDiff, reduceIte]) (fun hq => ?_) (fun f => ?_) <;> try (have hq' := hq; try simp only [HB] at hq')
| refine gdV_intro (fun h => ?_) (fun h => ?_) <;> (have h' := h; try simp only [HB] at h'; try rewrite [h]; try simp only [h])
| refine condJ_intro (fun h => ?_) (fun h => ?_) <;> (have h' := h; try simp only [HB] at h'; try rewrite [h]; try simp only [h])
| refine pickE_intro (fun h => ?_) (fun h => ?_) <;> (have h' := h; try simp only [HB] at h'; try rewrite [h]; try simp only [h])
| refine gdD_intro (fun h => ?_) (fun h => ?_) <;> (have h' := h; try simp only [HB] at h'; try rewrite [h]; try simp only [h])
| refine callL_of (same_is (l.getD 0 default) (l.getD 1 default) hu) ?_
| refine ct_I ?_
| refine callG_I ?_ ?_
| refine callG_Iv ?_ ?_
| refine drJ_I (by simp only [R76]; rfl) ?_
| refine ret_I (R := isR _) ?_
| refine nxt_I (fun hr => ?_) (fun q hq => ?_)
| refine isnil_I (fun hnil b => ?_) (fun hnil => ?_)
| (refine And.intro ?_ ?_; focus omega))

end Go.Proofs.YtihbaggjjglcbaaGreatDoor
end

section
set_option maxRecDepth 100000
set_option maxHeartbeats 8000000
set_option linter.unusedVariables false
set_option linter.unusedSimpArgs false
namespace Go.Proofs.YtihbaggjjglcbaaGreatDoor
open Go Go.Dl Go.As Go.Proofs
variable {mx : Int}
attribute [local irreducible] callG callL MC W W2 evT ev evD step stepD

theorem binary_is (c : Cat) (e0 : Str) (fld : I) (x : Xpr) (l : List Typ) (hl : 1 < l.length) (h0 : (l.getD 0 default).unit.length ≤ 1073741824) (h1 : (l.getD 1 default).unit.length ≤ 1073741824) : Is mx 74 [.agg (eScp c e0 fld), .agg (eE x), .sl (l.map eTyp)] (eRes (ruleBin x.op (l.getD 0 default) (l.getD 1 default))) := by
  refine MC_of_J Tryz.func74 (by kernel_rfl) Tryz.ntmps74 rfl rfl comp74 rv74 rfl c74.eq_1 ?_
  have hl2 : (1 : Int) < l.length := by omega
  have hl3 : (0 : Int) < l.length := by omega
  (repeat' first
| exact hole _
| simp (maxSteps := 9999999) (disch := omega) only [go_sem, reduceCtorEq, Int.reduceToNat, Int.reduceNeg, Int.reduceLT, Int.reduceLE, Int.reduceEq, Int.reduceAdd, Int.reduceSub, Int.reduceMul, Nat.reduceAdd, Nat.reduceSub, Nat.reduceMul, Nat.reduceEqDiff, Nat.reduceBEq, Nat.reduceBneDiff, Nat.reduceLeDiff, Nat.reduceLT, reduceIte, R74]
| refine' gdV_sc' rfl rfl (by simp only [V0, V1, Nat.reduceEqDiff, reduceIte]) (fun hq => ?_) (fun f => ?_) <;> try (have hq' := hq; try simp only [HB] at hq')
| refine' gdD_sc' rfl rfl (by simp only [V0, V1, Nat.reduceEqDiff, reduceIte]) (fun hq => ?_) (fun f => ?_) <;> try (have hq' := hq; try simp only [HB] at hq')
| refine gdV_intro (fun h => ?_) (fun h => ?_) <;> (have h' := h; try simp only [HB] at h'; try rewrite [h]; try simp only [h])
| refine condJ_intro (fun h => ?_) (fun h => ?_) <;> (have h' := h; try simp only [HB] at h'; try rewrite [h]; try simp only [h])
| refine pickE_intro (fun h => ?_) (fun h => ?_) <;> (have h' := h; try simp only [HB] at h'; try rewrite [h]; try simp only [h])
| refine gdD_intro (fun h => ?_) (fun h => ?_) <;> (have h' := h; try simp only [HB] at h'; try rewrite [h]; try simp only [h])
| refine callL_of (isNumber_is (l.getD 0 default)) ?_
| refine callL_of (isNumber_is (l.getD 1 default)) ?_
| refine callL_of (Same_is _ _ (by omega)) ?_
| refine callG_I ?_ ?_
| refine callG_Iv ?_ ?_
| refine drJ_I (by simp only [R74]; rfl) ?_
| refine ret_I (R := isR _) ?_
| refine nxt_I (fun hr => ?_) (fun q hq => ?_)
| refine isnil_I (fun hnil b => ?_) (fun hnil => ?_)
| (refine And.intro ?_ ?_; focus omega))
  by_cases o0 : x.op = [97, 110, 100]
  · (repeat' first
| exact hole _
| simp (maxSteps := 9999999) (decide := true) (disch := omega) only [go_sem, reduceCtorEq, Int.reduceToNat, Int.reduceNeg, Int.reduceLT, Int.reduceLE, Int.reduceEq, Int.reduceAdd, Int.reduceSub, Int.reduceMul, Nat.reduceAdd, Nat.reduceSub, Nat.reduceMul, Nat.reduceEqDiff, Nat.reduceBEq, Nat.reduceBneDiff, Nat.reduceLeDiff, Nat.reduceLT, reduceIte, R74, eUn, o0]
| refine' gdV_sc' rfl rfl (by simp only [V0, V1, Nat.reduceEqDiff, reduceIte]) (fun hq => ?_) (fun f => ?_) <;> try (have hq' := hq; try simp only [HB] at hq')
| refine' gdD_sc' rfl rfl (by simp only [V0, V1, Nat.reduceEqDiff, reduceIte]) (fun hq => ?_) (fun f => ?_) <;> try (have hq' := hq; try simp only [HB] at hq')
| refine gdV_intro (fun h => ?_) (fun h => ?_) <;> (have h' := h; try simp only [HB] at h'; try rewrite [h]; try simp only [h])
| refine condJ_intro (fun h => ?_) (fun h => ?_) <;> (have h' := h; try simp only [HB] at h'; try rewrite [h]; try simp only [h])
| refine pickE_intro (fun h => ?_) (fun h => ?_) <;> (have h' := h; try simp only [HB] at h'; try rewrite [h]; try simp only [h])
| refine gdD_intro (fun h => ?_) (fun h => ?_) <;> (have h' := h; try simp only [HB] at h'; try rewrite [h]; try simp only [h])
| refine callL_of (isNumber_is (l.getD 0 default)) ?_
| refine callL_of (isNumber_is (l.getD 1 default)) ?_
| refine callL_of (Same_is _ _ (by omega)) ?_
| refine callL_of (fail_is _) ?_
| refine callL_of (Times_is _ _ h0 h1) ?_
| refine callL_of (Over_is _ _ h0 h1) ?_
| refine ct_I ?_
| refine callG_I ?_ ?_
| refine callG_Iv ?_ ?_
| refine drJ_I (by simp only [R74]; rfl) ?_
| refine ret_I (R := isR _) ?_
| refine nxt_I (fun hr => ?_) (fun q hq => ?_)
| refine isnil_I (fun hnil b => ?_) (fun hnil => ?_)
| (refine And.intro ?_ ?_; focus omega))
    all_goals (simp only [o0, ruleBin]; grind [eRes, eTyp])
  by_cases o1 : x.op = [111, 114]
  · (repeat' first
| exact hole _
| simp (maxSteps := 9999999) (decide := true) (disch := omega) only [go_sem, reduceCtorEq, Int.reduceToNat, Int.reduceNeg, Int.reduceLT, Int.reduceLE, Int.reduceEq, Int.reduceAdd, Int.reduceSub, Int.reduceMul, Nat.reduceAdd, Nat.reduceSub, Nat.reduceMul, Nat.reduceEqDiff, Nat.reduceBEq, Nat.reduceBneDiff, Nat.reduceLeDiff, Nat.reduceLT, reduceIte, R74, eUn, o1]
| refine' gdV_sc' rfl rfl (by simp only [V0, V1, Nat.reduceEqDiff, reduceIte]) (fun hq => ?_) (fun f => ?_) <;> try (have hq' := hq; try simp only [HB] at hq')
| refine' gdD_sc' rfl rfl (by simp only [V0, V1, Nat.reduceEqDiff, reduceIte]) (fun hq => ?_) (fun f => ?_) <;> try (have hq' := hq; try simp only [HB] at hq')
| refine gdV_intro (fun h => ?_) (fun h => ?_) <;> (have h' := h; try simp only [HB] at h'; try rewrite [h]; try simp only [h])
| refine condJ_intro (fun h => ?_) (fun h => ?_) <;> (have h' := h; try simp only [HB] at h'; try rewrite [h]; try simp only [h])
| refine pickE_intro (fun h => ?_) (fun h => ?_) <;> (have h' := h; try simp only [HB] at h'; try rewrite [h]; try simp only [h])
| refine gdD_intro (fun h => ?_) (fun h => ?_) <;> (have h' := h; try simp only [HB] at h'; try rewrite [h]; try simp only [h])
| refine callL_of (isNumber_is (l.getD 0 default)) ?_
| refine callL_of (isNumber_is (l.getD 1 default)) ?_
| refine callL_of (Same_is _ _ (by omega)) ?_
| refine callL_of (fail_is _) ?_
| refine callL_of (Times_is _ _ h0 h1) ?_
| refine callL_of (Over_is _ _ h0 h1) ?_
| refine ct_I ?_
| refine callG_I ?_ ?_
| refine callG_Iv ?_ ?_
| refine drJ_I (by simp only [R74]; rfl) ?_
| refine ret_I (R := isR _) ?_
| refine nxt_I (fun hr => ?_) (fun q hq => ?_)
| refine isnil_I (fun hnil b => ?_) (fun hnil => ?_)
| (refine And.intro ?_ ?_; focus omega))
    all_goals (simp only [o1, ruleBin]; grind [eRes, eTyp])
  by_cases o2 : x.op = [61, 61]
  · (repeat' first
| exact hole _
| simp (maxSteps := 9999999) (decide := true) (disch := omega) only [go_sem, reduceCtorEq, Int.reduceToNat, Int.reduceNeg, Int.reduceLT, Int.reduceLE, Int.reduceEq, Int.reduceAdd, Int.reduceSub, Int.reduceMul, Nat.reduceAdd, Nat.reduceSub, Nat.reduceMul, Nat.reduceEqDiff, Nat.reduceBEq, Nat.reduceBneDiff, Nat.reduceLeDiff, Nat.reduceLT, reduceIte, R74, eUn, o2]
| refine' gdV_sc' rfl rfl (by simp only [V0, V1, Nat.reduceEqDiff, reduceIte]) (fun hq => ?_) (fun f => ?_) <;> try (have hq' := hq; try simp only [HB] at hq')
| refine' gdD_sc' rfl rfl (by simp only [V0, V1, Nat.reduceEqDiff, reduceIte]) (fun hq => ?_) (fun f => ?_) <;> try (have hq' := hq; try simp only [HB] at hq')
| refine gdV_intro (fun h => ?_) (fun h => ?_) <;> (have h' := h; try simp only [HB] at h'; try rewrite [h]; try simp only [h])
| refine condJ_intro (fun h => ?_) (fun h => ?_) <;> (have h' := h; try simp only [HB] at h'; try rewrite [h]; try simp only [h])
| refine pickE_intro (fun h => ?_) (fun h => ?_) <;> (have h' := h; try simp only [HB] at h'; try rewrite [h]; try simp only [h])
| refine gdD_intro (fun h => ?_) (fun h => ?_) <;> (have h' := h; try simp only [HB] at h'; try rewrite [h]; try simp only [h])
| refine callL_of (isNumber_is (l.getD 0 default)) ?_
| refine callL_of (isNumber_is (l.getD 1 default)) ?_
| refine callL_of (Same_is _ _ (by omega)) ?_
| refine callL_of (fail_is _) ?_
| refine callL_of (Times_is _ _ h0 h1) ?_
| refine callL_of (Over_is _ _ h0 h1) ?_
| refine ct_I ?_
| refine callG_I ?_ ?_
| refine callG_Iv ?_ ?_
| refine drJ_I (by simp only [R74]; rfl) ?_
| refine ret_I (R := isR _) ?_
| refine nxt_I (fun hr => ?_) (fun q hq => ?_)
| refine isnil_I (fun hnil b => ?_) (fun hnil => ?_)
| (refine And.intro ?_ ?_; focus omega))
    all_goals (simp only [o2, ruleBin]; grind [eRes, eTyp])
  by_cases o3 : x.op = [33, 61]
  · (repeat' first
| exact hole _
| simp (maxSteps := 9999999) (decide := true) (disch := omega) only [go_sem, reduceCtorEq, Int.reduceToNat, Int.reduceNeg, Int.reduceLT, Int.reduceLE, Int.reduceEq, Int.reduceAdd, Int.reduceSub, Int.reduceMul, Nat.reduceAdd, Nat.reduceSub, Nat.reduceMul, Nat.reduceEqDiff, Nat.reduceBEq, Nat.reduceBneDiff, Nat.reduceLeDiff, Nat.reduceLT, reduceIte, R74, eUn, o3]
| refine' gdV_sc' rfl rfl (by simp only [V0, V1, Nat.reduceEqDiff, reduceIte]) (fun hq => ?_) (fun f => ?_) <;> try (have hq' := hq; try simp only [HB] at hq')
| refine' gdD_sc' rfl rfl (by simp only [V0, V1, Nat.reduceEqDiff, reduceIte]) (fun hq => ?_) (fun f => ?_) <;> try (have hq' := hq; try simp only [HB] at hq')
| refine gdV_intro (fun h => ?_) (fun h => ?_) <;> (have h' := h; try simp only [HB] at h'; try rewrite [h]; try simp only [h])
| refine condJ_intro (fun h => ?_) (fun h => ?_) <;> (have h' := h; try simp only [HB] at h'; try rewrite [h]; try simp only [h])
| refine pickE_intro (fun h => ?_) (fun h => ?_) <;> (have h' := h; try simp only [HB] at h'; try rewrite [h]; try simp only [h])
| refine gdD_intro (fun h => ?_) (fun h => ?_) <;> (have h' := h; try simp only [HB] at h'; try rewrite [h]; try simp only [h])
| refine callL_of (isNumber_is (l.getD 0 default)) ?_
| refine callL_of (isNumber_is (l.getD 1 default)) ?_
| refine callL_of (Same_is _ _ (by omega)) ?_
| refine callL_of (fail_is _) ?_
| refine callL_of (Times_is _ _ h0 h1) ?_
| refine callL_of (Over_is _ _ h0 h1) ?_
| refine ct_I ?_
| refine callG_I ?_ ?_
| refine callG_Iv ?_ ?_
| refine drJ_I (by simp only [R74]; rfl) ?_
| refine ret_I (R := isR _) ?_
| refine nxt_I (fun hr => ?_) (fun q hq => ?_)
| refine isnil_I (fun hnil b => ?_) (fun hnil => ?_)
| (refine And.intro ?_ ?_; focus omega))
    all_goals (simp only [o3, ruleBin]; grind [eRes, eTyp])
  by_cases o4 : x.op = [60]
  · (repeat' first
| exact hole _
| simp (maxSteps := 9999999) (decide := true) (disch := omega) only [go_sem, reduceCtorEq, Int.reduceToNat, Int.reduceNeg, Int.reduceLT, Int.reduceLE, Int.reduceEq, Int.reduceAdd, Int.reduceSub, Int.reduceMul, Nat.reduceAdd, Nat.reduceSub, Nat.reduceMul, Nat.reduceEqDiff, Nat.reduceBEq, Nat.reduceBneDiff, Nat.reduceLeDiff, Nat.reduceLT, reduceIte, R74, eUn, o4]
| refine' gdV_sc' rfl rfl (by simp only [V0, V1, Nat.reduceEqDiff, reduceIte]) (fun hq => ?_) (fun f => ?_) <;> try (have hq' := hq; try simp only [HB] at hq')
| refine' gdD_sc' rfl rfl (by simp only [V0, V1, Nat.reduceEqDiff, reduceIte]) (fun hq => ?_) (fun f => ?_) <;> try (have hq' := hq; try simp only [HB] at hq')
| refine gdV_intro (fun h => ?_) (fun h => ?_) <;> (have h' := h; try simp only [HB] at h'; try rewrite [h]; try simp only [h])
| refine condJ_intro (fun h => ?_) (fun h => ?_) <;> (have h' := h; try simp only [HB] at h'; try rewrite [h]; try simp only [h])
| refine pickE_intro (fun h => ?_) (fun h => ?_) <;> (have h' := h; try simp only [HB] at h'; try rewrite [h]; try simp only [h])
| refine gdD_intro (fun h => ?_) (fun h => ?_) <;> (have h' := h; try simp only [HB] at h'; try rewrite [h]; try simp only [h])
| refine callL_of (isNumber_is (l.getD 0 default)) ?_
| refine callL_of (isNumber_is (l.getD 1 default)) ?_
| refine callL_of (Same_is _ _ (by omega)) ?_
| refine callL_of (fail_is _) ?_
| refine callL_of (Times_is _ _ h0 h1) ?_
| refine callL_of (Over_is _ _ h0 h1) ?_
| refine ct_I ?_
| refine callG_I ?_ ?_
| refine callG_Iv ?_ ?_
| refine drJ_I (by simp only [R74]; rfl) ?_
| refine ret_I (R := isR _) ?_
| refine nxt_I (fun hr => ?_) (fun q hq => ?_)
| refine isnil_I (fun hnil b => ?_) (fun hnil => ?_)
| (refine And.intro ?_ ?_; focus omega))
    all_goals (simp only [o4, ruleBin]; grind [eRes, eTyp])
  by_cases o5 : x.op = [60, 61]
  · (repeat' first
| exact hole _
| simp (maxSteps := 9999999) (decide := true) (disch := omega) only [go_sem, reduceCtorEq, Int.reduceToNat, Int.reduceNeg, Int.reduceLT, Int.reduceLE, Int.reduceEq, Int.reduceAdd, Int.reduceSub, Int.reduceMul, Nat.reduceAdd, Nat.reduceSub, Nat.reduceMul, Nat.reduceEqDiff, Nat.reduceBEq, Nat.reduceBneDiff, Nat.reduceLeDiff, Nat.reduceLT, reduceIte, R74, eUn, o5]
| refine' gdV_sc' rfl rfl (by simp only [V0, V1, Nat.reduceEqDiff, reduceIte]) (fun hq => ?_) (fun f => ?_) <;> try (have hq' := hq; try simp only [HB] at hq')
| refine' gdD_sc' rfl rfl (by simp only [V0, V1, Nat.reduceEqDiff, reduceIte]) (fun hq => ?_) (fun f => ?_) <;> try (have hq' := hq; try simp only [HB] at hq')
| refine gdV_intro (fun h => ?_) (fun h => ?_) <;> (have h' := h; try simp only [HB] at h'; try rewrite [h]; try simp only [h])
| refine condJ_intro (fun h => ?_) (fun h => ?_) <;> (have h' := h; try simp only [HB] at h'; try rewrite [h]; try simp only [h])
| refine pickE_intro (fun h => ?_) (fun h => ?_) <;> (have h' := h; try simp only [HB] at h'; try rewrite [h]; try simp only [h])
| refine gdD_intro (fun h => ?_) (fun h => ?_) <;> (have h' := h; try simp only [HB] at h'; try rewrite [h]; try simp only [h])
| refine callL_of (isNumber_is (l.getD 0 default)) ?_
| refine callL_of (isNumber_is (l.getD 1 default)) ?_
| refine callL_of (Same_is _ _ (by omega)) ?_
| refine callL_of (fail_is _) ?_
| refine callL_of (Times_is _ _ h0 h1) ?_
| refine callL_of (Over_is _ _ h0 h1) ?_
| refine ct_I ?_
| refine callG_I ?_ ?_
| refine callG_Iv ?_ ?_
| refine drJ_I (by simp only [R74]; rfl) ?_
| refine ret_I (R := isR _) ?_
| refine nxt_I (fun hr => ?_) (fun q hq => ?_)
| refine isnil_I (fun hnil b => ?_) (fun hnil => ?_)
| (refine And.intro ?_ ?_; focus omega))
    all_goals (simp only [o5, ruleBin]; grind [eRes, eTyp])
  by_cases o6 : x.op = [42]
  · (repeat' first
| exact hole _
| simp (maxSteps := 9999999) (decide := true) (disch := omega) only [go_sem, reduceCtorEq, Int.reduceToNat, Int.reduceNeg, Int.reduceLT, Int.reduceLE, Int.reduceEq, Int.reduceAdd, Int.reduceSub, Int.reduceMul, Nat.reduceAdd, Nat.reduceSub, Nat.reduceMul, Nat.reduceEqDiff, Nat.reduceBEq, Nat.reduceBneDiff, Nat.reduceLeDiff, Nat.reduceLT, reduceIte, R74, eUn, o6]
| refine' gdV_sc' rfl rfl (by simp only [V0, V1, Nat.reduceEqDiff, reduceIte]) (fun hq => ?_) (fun f => ?_) <;> try (have hq' := hq; try simp only [HB] at hq')
| refine' gdD_sc' rfl rfl (by simp only [V0, V1, Nat.reduceEqDiff, reduceIte]) (fun hq => ?_) (fun f => ?_) <;> try (have hq' := hq; try simp only [HB] at hq')
| refine gdV_intro (fun h => ?_) (fun h => ?_) <;> (have h' := h; try simp only [HB] at h'; try rewrite [h]; try simp only [h])
| refine condJ_intro (fun h => ?_) (fun h => ?_) <;> (have h' := h; try simp only [HB] at h'; try rewrite [h]; try simp only [h])
| refine pickE_intro (fun h => ?_) (fun h => ?_) <;> (have h' := h; try simp only [HB] at h'; try rewrite [h]; try simp only [h])
| refine gdD_intro (fun h => ?_) (fun h => ?_) <;> (have h' := h; try simp only [HB] at h'; try rewrite [h]; try simp only [h])
| refine callL_of (isNumber_is (l.getD 0 default)) ?_
| refine callL_of (isNumber_is (l.getD 1 default)) ?_
| refine callL_of (Same_is _ _ (by omega)) ?_
| refine callL_of (fail_is _) ?_
| refine callL_of (Times_is _ _ h0 h1) ?_
| refine callL_of (Over_is _ _ h0 h1) ?_
| refine ct_I ?_
| refine callG_I ?_ ?_
| refine callG_Iv ?_ ?_
| refine drJ_I (by simp only [R74]; rfl) ?_
| refine ret_I (R := isR _) ?_
| refine nxt_I (fun hr => ?_) (fun q hq => ?_)
| refine isnil_I (fun hnil b => ?_) (fun hnil => ?_)
| (refine And.intro ?_ ?_; focus omega))
    all_goals (simp only [o6, ruleBin]; grind [eRes, eTyp])
  by_cases o7 : x.op = [47]
  · (repeat' first
| exact hole _
| simp (maxSteps := 9999999) (decide := true) (disch := omega) only [go_sem, reduceCtorEq, Int.reduceToNat, Int.reduceNeg, Int.reduceLT, Int.reduceLE, Int.reduceEq, Int.reduceAdd, Int.reduceSub, Int.reduceMul, Nat.reduceAdd, Nat.reduceSub, Nat.reduceMul, Nat.reduceEqDiff, Nat.reduceBEq, Nat.reduceBneDiff, Nat.reduceLeDiff, Nat.reduceLT, reduceIte, R74, eUn, o7]
| refine' gdV_sc' rfl rfl (by simp only [V0, V1, Nat.reduceEqDiff, reduceIte]) (fun hq => ?_) (fun f => ?_) <;> try (have hq' := hq; try simp only [HB] at hq')
| refine' gdD_sc' rfl rfl (by simp only [V0, V1, Nat.reduceEqDiff, reduceIte]) (fun hq => ?_) (fun f => ?_) <;> try (have hq' := hq; try simp only [HB] at hq')
| refine gdV_intro (fun h => ?_) (fun h => ?_) <;> (have h' := h; try simp only [HB] at h'; try rewrite [h]; try simp only [h])
| refine condJ_intro (fun h => ?_) (fun h => ?_) <;> (have h' := h; try simp only [HB] at h'; try rewrite [h]; try simp only [h])
| refine pickE_intro (fun h => ?_) (fun h => ?_) <;> (have h' := h; try simp only [HB] at h'; try rewrite [h]; try simp only [h])
| refine gdD_intro (fun h => ?_) (fun h => ?_) <;> (have h' := h; try simp only [HB] at h'; try rewrite [h]; try simp only [h])
| refine callL_of (isNumber_is (l.getD 0 default)) ?_
| refine callL_of (isNumber_is (l.getD 1 default)) ?_
| refine callL_of (Same_is _ _ (by omega)) ?_
| refine callL_of (fail_is _) ?_
| refine callL_of (Times_is _ _ h0 h1) ?_
| refine callL_of (Over_is _ _ h0 h1) ?_
| refine ct_I ?_
| refine callG_I ?_ ?_
| refine callG_Iv ?_ ?_
| refine drJ_I (by simp only [R74]; rfl) ?_
| refine ret_I (R := isR _) ?_
| refine nxt_I (fun hr => ?_) (fun q hq => ?_)
| refine isnil_I (fun hnil b => ?_) (fun hnil => ?_)
| (refine And.intro ?_ ?_; focus omega))
    all_goals (simp only [o7, ruleBin]; grind [eRes, eTyp])
  by_cases o8 : x.op = [43]
  · (repeat' first
| exact hole _
| simp (maxSteps := 9999999) (decide := true) (disch := omega) only [go_sem, reduceCtorEq, Int.reduceToNat, Int.reduceNeg, Int.reduceLT, Int.reduceLE, Int.reduceEq, Int.reduceAdd, Int.reduceSub, Int.reduceMul, Nat.reduceAdd, Nat.reduceSub, Nat.reduceMul, Nat.reduceEqDiff, Nat.reduceBEq, Nat.reduceBneDiff, Nat.reduceLeDiff, Nat.reduceLT, reduceIte, R74, eUn, o8]
| refine' gdV_sc' rfl rfl (by simp only [V0, V1, Nat.reduceEqDiff, reduceIte]) (fun hq => ?_) (fun f => ?_) <;> try (have hq' := hq; try simp only [HB] at hq')
| refine' gdD_sc' rfl rfl (by simp only [V0, V1, Nat.reduceEqDiff, reduceIte]) (fun hq => ?_) (fun f => ?_) <;> try (have hq' := hq; try simp only [HB] at hq')
| refine gdV_intro (fun h => ?_) (fun h => ?_) <;> (have h' := h; try simp only [HB] at h'; try rewrite [h]; try simp only [h])
| refine condJ_intro (fun h => ?_) (fun h => ?_) <;> (have h' := h; try simp only [HB] at h'; try rewrite [h]; try simp only [h])
| refine pickE_intro (fun h => ?_) (fun h => ?_) <;> (have h' := h; try simp only [HB] at h'; try rewrite [h]; try simp only [h])
| refine gdD_intro (fun h => ?_) (fun h => ?_) <;> (have h' := h; try simp only [HB] at h'; try rewrite [h]; try simp only [h])
| refine callL_of (isNumber_is (l.getD 0 default)) ?_
| refine callL_of (isNumber_is (l.getD 1 default)) ?_
| refine callL_of (Same_is _ _ (by omega)) ?_
| refine callL_of (fail_is _) ?_
| refine callL_of (Times_is _ _ h0 h1) ?_
| refine callL_of (Over_is _ _ h0 h1) ?_
| refine ct_I ?_
| refine callG_I ?_ ?_
| refine callG_Iv ?_ ?_
| refine drJ_I (by simp only [R74]; rfl) ?_
| refine ret_I (R := isR _) ?_
| refine nxt_I (fun hr => ?_) (fun q hq => ?_)
| refine isnil_I (fun hnil b => ?_) (fun hnil => ?_)
| (refine And.intro ?_ ?_; focus omega))
    all_goals (simp only [o8, ruleBin]; grind [eRes, eTyp])
  by_cases o9 : x.op = [45]
  · (repeat' first
| exact hole _
| simp (maxSteps := 9999999) (decide := true) (disch := omega) only [go_sem, reduceCtorEq, Int.reduceToNat, Int.reduceNeg, Int.reduceLT, Int.reduceLE, Int.reduceEq, Int.reduceAdd, Int.reduceSub, Int.reduceMul, Nat.reduceAdd, Nat.reduceSub, Nat.reduceMul, Nat.reduceEqDiff, Nat.reduceBEq, Nat.reduceBneDiff, Nat.reduceLeDiff, Nat.reduceLT, reduceIte, R74, eUn, o9]
| refine' gdV_sc' rfl rfl (by simp only [V0, V1, Nat.reduceEqDiff, reduceIte]) (fun hq => ?_) (fun f => ?_) <;> try (have hq' := hq; try simp only [HB] at hq')
| refine' gdD_sc' rfl rfl (by simp only [V0, V1, Nat.reduceEqDiff, reduceIte]) (fun hq => ?_) (fun f => ?_) <;> try (have hq' := hq; try simp only [HB] at hq')
| refine gdV_intro (fun h => ?_) (fun h => ?_) <;> (have h' := h; try simp only [HB] at h'; try rewrite [h]; try simp only [h])
| refine condJ_intro (fun h => ?_) (fun h => ?_) <;> (have h' := h; try simp only [HB] at h'; try rewrite [h]; try simp only [h])
| refine pickE_intro (fun h => ?_) (fun h => ?_) <;> (have h' := h; try simp only [HB] at h'; try rewrite [h]; try simp only [h])
| refine gdD_intro (fun h => ?_) (fun h => ?_) <;> (have h' := h; try simp only [HB] at h'; try rewrite [h]; try simp only [h])
| refine callL_of (isNumber_is (l.getD 0 default)) ?_
| refine callL_of (isNumber_is (l.getD 1 default)) ?_
| refine callL_of (Same_is _ _ (by omega)) ?_
| refine callL_of (fail_is _) ?_
| refine callL_of (Times_is _ _ h0 h1) ?_
| refine callL_of (Over_is _ _ h0 h1) ?_
| refine ct_I ?_
| refine callG_I ?_ ?_
| refine callG_Iv ?_ ?_
| refine drJ_I (by simp only [R74]; rfl) ?_
| refine ret_I (R := isR _) ?_
| refine nxt_I (fun hr => ?_) (fun q hq => ?_)
| refine isnil_I (fun hnil b => ?_) (fun hnil => ?_)
| (refine And.intro ?_ ?_; focus omega))
    all_goals (simp only [o9, ruleBin]; grind [eRes, eTyp])
  (repeat' first
| exact hole _
| simp (maxSteps := 9999999) (decide := true) (disch := omega) only [go_sem, reduceCtorEq, Int.reduceToNat, Int.reduceNeg, Int.reduceLT, Int.reduceLE, Int.reduceEq, Int.reduceAdd, Int.reduceSub, Int.reduceMul, Nat.reduceAdd, Nat.reduceSub, Nat.reduceMul, Nat.reduceEqDiff, Nat.reduceBEq, Nat.reduceBneDiff, Nat.reduceLeDiff, Nat.reduceLT, reduceIte, R74, eUn, eq_false o0, eq_false o1, eq_false o2, eq_false o3, eq_false o4, eq_false o5, eq_false o6, eq_false o7, eq_false o8, eq_false o9]
| refine' gdV_sc' rfl rfl (by simp only [V0, V1, Nat.reduceEqDiff, reduceIte]) (fun hq => ?_) (fun f => ?_) <;> try (have hq' := hq; try simp only [HB] at hq')
| refine' gdD_sc' rfl rfl (by simp only [V0, V1, Nat.reduceEqDiff, reduceIte]) (fun hq => ?_) (fun f => ?_) <;> try (have hq' := hq; try simp only [HB] at hq')
| refine gdV_intro (fun h => ?_) (fun h => ?_) <;> (have h' := h; try simp only [HB] at h'; try rewrite [h]; try simp only [h])
| refine condJ_intro (fun h => ?_) (fun h => ?_) <;> (have h' := h; try simp only [HB] at h'; try rewrite [h]; try simp only [h])
| refine pickE_intro (fun h => ?_) (fun h => ?_) <;> (have h' := h; try simp only [HB] at h'; try rewrite [h]; try simp only [h])
| refine gdD_intro (fun h => ?_) (fun h => ?_) <;> (have h' := h; try simp only [HB] at h'; try rewrite [h]; try simp only [h])
| refine callL_of (isNumber_is (l.getD 0 default)) ?_
| refine callL_of (isNumber_is (l.getD 1 default)) ?_
| refine callL_of (Same_is _ _ (by omega)) ?_
| refine callL_of (fail_is _) ?_
| refine callL_of (Times_is _ _ h0 h1) ?_
| refine callL_of (Over_is _ _ h0 h1) ?_
| refine ct_I ?_
| refine callG_I ?_ ?_
| refine callG_Iv ?_ ?_
| refine drJ_I (by simp only [R74]; rfl) ?_
| refine ret_I (R := isR _) ?_
| refine nxt_I (fun hr => ?_) (fun q hq => ?_)
| refine isnil_I (fun hnil b => ?_) (fun hnil => ?_)
| (refine And.intro ?_ ?_; focus omega))
  all_goals (simp only [ruleBin]; grind [eRes, eTyp])

end Go.Proofs.YtihbaggjjglcbaaGreatDoor
end

section
set_option maxRecDepth 100000
set_option maxHeartbeats 8000000
set_option linter.unusedVariables false
set_option linter.unusedSimpArgs false
namespace Go.Proofs.YtihbaggjjglcbaaGreatDoor
open Go Go.Dl Go.As Go.Proofs
variable {mx : Int}
attribute [local irreducible] callG callL MC W W2 evT ev evD step stepD

/-- The type of an expression of proper form. -/
def ruleX (c : Cat) (ent : Str) (t : Option Tbl) (x : Xpr) (l : List Typ) : Typ × Int :=
  if x.kind = 1 then (⟨x.val.kind, x.unit, x.name⟩, 0)
  else if x.kind = 2 then (match t with | some t => fieldT t x.name | none => (noTyp, 0))
  else if x.kind = 3 then namedT c.features x.name ent
  else if x.kind = 4 then (if (l.getD 0 default).kind ≠ 5 then (noTyp, 5) else namedT c.features x.name (l.getD 0 default).of)
  else if x.kind = 5 then ruleAgg x.op (l.getD 0 default) (l.getD 1 default)
  else if x.kind = 6 then ruleUn x.op (l.getD 0 default)
  else if x.kind = 7 then ruleBin x.op (l.getD 0 default) (l.getD 1 default)
  else if x.kind = 8 then (if (l.getD 0 default).kind ≠ 1 then (noTyp, 5) else sameT (l.getD 1 default) (l.getD 2 default))
  else sameT (l.getD 0 default) (l.getD 1 default)
def tblT (c : Cat) (ent : Str) (x : Xpr) : Except Int Tbl := match c.tables.find? (fun t => decide (t.name = x.table)) with
  | none => .error 4
  | some t => if t.entity ≠ ent then .error 5 else .ok t
mutual
def inferX (c : Cat) (ent : Str) : Option Tbl → Xpr → Typ × Int
  | t, .mk k o n tb v u p w a =>
    if k = 5 then match tblT c ent (.mk k o n tb v u p w a) with
      | .error e => (noTyp, e)
      | .ok t' => match inferXs c ent (some t') a with
        | .error e => (noTyp, e)
        | .ok l => ruleX c ent t (.mk k o n tb v u p w a) l
    else match inferXs c ent t a with
        | .error e => (noTyp, e)
        | .ok l => ruleX c ent t (.mk k o n tb v u p w a) l
def inferXs (c : Cat) (ent : Str) : Option Tbl → List Xpr → Except Int (List Typ)
  | _, [] => .ok []
  | t, x :: r => let y := inferX c ent t x
    if y.2 ≠ 0 then .error y.2 else match inferXs c ent t r with
      | .error e => .error e
      | .ok l => .ok (y.1 :: l)
end
def inT (c : Cat) (ent : Str) (t : Option Tbl) (x : Xpr) : Except Int (Option Tbl) := if x.kind = 5 then (match tblT c ent x with | .error e => .error e | .ok t' => .ok (some t')) else .ok t
theorem inferX_eq (c : Cat) (ent : Str) (t : Option Tbl) (x : Xpr) : inferX c ent t x = match inT c ent t x with
    | .error e => (noTyp, e)
    | .ok t' => match inferXs c ent t' x.args with
      | .error e => (noTyp, e)
      | .ok l => ruleX c ent t x l := by
  cases x with
  | mk k o n tb v u p w a =>
    simp only [inferX, inT, Xpr.kind, Xpr.args]
    by_cases h : k = 5
    · subst h
      simp only [if_true]
      cases tblT c ent (.mk 5 o n tb v u p w a) <;> rfl
    · simp only [h, if_false]
/-- The list of what came before the first error. -/
theorem inferXs_take (c : Cat) (ent : Str) (t : Option Tbl) : ∀ (a : List Xpr) (i : Nat) (l : List Typ) (h : i < a.length), inferXs c ent t (a.take i) = .ok l → inferXs c ent t (a.take (i + 1)) = if (inferX c ent t a[i]).2 ≠ 0 then .error (inferX c ent t a[i]).2 else .ok (l ++ [(inferX c ent t a[i]).1])
  | [], i, l, h, _ => by simp at h
  | x :: r, 0, l, h, hl => by
    simp only [List.take_zero, inferXs] at hl; cases hl
    simp only [Nat.zero_add, List.take_succ_cons, List.take_zero, inferXs, List.getElem_cons_zero, List.nil_append]
  | x :: r, i + 1, l, h, hl => by
    simp only [List.take_succ_cons, inferXs] at hl ⊢
    by_cases e : (inferX c ent t x).2 ≠ 0
    · rw [if_pos e] at hl; cases hl
    · rw [if_neg e] at hl ⊢
      cases hr : inferXs c ent t (r.take i) with
      | error q => rw [hr] at hl; cases hl
      | ok l' =>
        rw [hr] at hl; cases hl
        rw [inferXs_take c ent t r i l' (by simpa using h) hr]
        simp only [List.getElem_cons_succ]
        have hi : i < r.length := by simpa using h
        by_cases e2 : (inferX c ent t r[i]).2 ≠ 0
        · rw [if_pos e2, if_pos e2]
        · rw [if_neg e2, if_neg e2]; rfl
theorem inferXs_err (c : Cat) (ent : Str) (t : Option Tbl) : ∀ (a : List Xpr) (i : Nat) (e : Int), inferXs c ent t (a.take i) = .error e → inferXs c ent t a = .error e
  | [], i, e, h => by simp [inferXs] at h
  | x :: r, 0, e, h => by simp [inferXs] at h
  | x :: r, i + 1, e, h => by
    simp only [List.take_succ_cons, inferXs] at h ⊢
    by_cases e1 : (inferX c ent t x).2 ≠ 0
    · rw [if_pos e1] at h ⊢; exact h
    · rw [if_neg e1] at h ⊢
      cases hr : inferXs c ent t (r.take i) with
      | error q => rw [hr] at h; rw [inferXs_err c ent t r i q hr]; exact h
      | ok l' => rw [hr] at h; cases h
def ruleFn (k : Int) : Nat := if k = 1 then 68 else if k = 2 then 69 else if k = 3 then 70 else if k = 4 then 71 else if k = 5 then 72
  else if k = 6 then 73 else if k = 7 then 74 else if k = 8 then 75 else 76
theorem rule_is (c : Cat) (e0 : Str) (fld : I) (k : Int) (hk : 1 ≤ k ∧ k ≤ 9) : Is mx 57 [.agg (eScp c e0 fld), iI k] (.fn (ruleFn k) [.agg (eScp c e0 fld)] []) := by
  refine MC_of_J Tryz.func57 (by kernel_rfl) Tryz.ntmps57 rfl rfl comp57 rv57 rfl c57.eq_1 ?_
  have hk' : k = 1 ∨ k = 2 ∨ k = 3 ∨ k = 4 ∨ k = 5 ∨ k = 6 ∨ k = 7 ∨ k = 8 ∨ k = 9 := by omega
  (repeat' first
| exact hole _
| simp (maxSteps := 9999999) (disch := omega) only [go_sem, reduceCtorEq, Int.reduceToNat, Int.reduceNeg, Int.reduceLT, Int.reduceLE, Int.reduceEq, Int.reduceAdd, Int.reduceSub, Int.reduceMul, Nat.reduceAdd, Nat.reduceSub, Nat.reduceMul, Nat.reduceEqDiff, Nat.reduceBEq, Nat.reduceBneDiff, Nat.reduceLeDiff, Nat.reduceLT, reduceIte, R57]
| refine' gdV_sc' rfl rfl (by simp only [V0, V1, Nat.reduceEqDiff, reduceIte]) (fun hq => ?_) (fun f => ?_) <;> try (have hq' := hq; try simp only [HB] at hq')
| refine' gdD_sc' rfl rfl (by simp only [V0, V1, Nat.reduceEqDiff, reduceIte]) (fun hq => ?_) (fun f => ?_) <;> try (have hq' := hq; try simp only [HB] at hq')
| refine gdV_intro (fun h => ?_) (fun h => ?_) <;> (have h' := h; try simp only [HB] at h'; try rewrite [h]; try simp only [h])
| refine condJ_intro (fun h => ?_) (fun h => ?_) <;> (have h' := h; try simp only [HB] at h'; try rewrite [h]; try simp only [h])
| refine pickE_intro (fun h => ?_) (fun h => ?_) <;> (have h' := h; try simp only [HB] at h'; try rewrite [h]; try simp only [h])
| refine gdD_intro (fun h => ?_) (fun h => ?_) <;> (have h' := h; try simp only [HB] at h'; try rewrite [h]; try simp only [h])
| refine ct_I ?_
| refine callG_I ?_ ?_
| refine callG_Iv ?_ ?_
| refine drJ_I (by simp only [R57]; rfl) ?_
| refine ret_I (R := isR _) ?_
| refine nxt_I (fun hr => ?_) (fun q hq => ?_)
| refine isnil_I (fun hnil b => ?_) (fun hnil => ?_)
| (refine And.intro ?_ ?_; focus omega))
  rcases hk' with rfl | rfl | rfl | rfl | rfl | rfl | rfl | rfl | rfl <;> rfl

end Go.Proofs.YtihbaggjjglcbaaGreatDoor
end

section
set_option maxRecDepth 100000
set_option maxHeartbeats 8000000
set_option linter.unusedVariables false
set_option linter.unusedSimpArgs false
namespace Go.Proofs.YtihbaggjjglcbaaGreatDoor
open Go Go.Dl Go.As Go.Proofs
variable {mx : Int}
attribute [local irreducible] callG callL MC W W2 evT ev evD step stepD

def fldOf : Option Tbl → I
  | none => .nilfn
  | some t => .fn 54 [] [.elt (eTbl t) 0]
def uB (t : Typ) : Prop := t.unit.length ≤ 1073741824
/-- The lists of a catalog are not too long. -/
def catB (c : Cat) : Prop := c.features.length ≤ 1073741824 ∧ c.tables.length ≤ 1073741824 ∧ (∀ f ∈ c.features, uB f.typ) ∧ ∀ t ∈ c.tables, t.fields.length ≤ 1073741824 ∧ ∀ f ∈ t.fields, uB f.typ
def tblB (t : Option Tbl) : Prop := ∀ t', t = some t' → t'.fields.length ≤ 1073741824 ∧ ∀ f ∈ t'.fields, uB f.typ
theorem normL_len (m : List (Str × Int)) : ∀ ns u, (normL m ns u).1.length ≤ 4
  | [], u => by simp only [normL]; split <;> simp; omega
  | s :: r, u => by
    simp only [normL]
    split
    · simp
    · split
      · exact normL_len m r _
      · exact normL_len m r _
theorem normU_len (l : List Fac) : (normU l).1.length ≤ 4 := by
  unfold normU; split
  · exact normL_len _ _ _
  · simp
theorem prodU_len (a b : List Fac) (s : Int) : (prodU a b s).1.length ≤ 4 := by
  unfold prodU; split
  · simp
  · split
    · simp
    · exact normU_len _
theorem uB_no : uB noTyp := by simp [uB]
theorem ruleX_uB {c : Cat} (hc : catB c) {t : Option Tbl} (ht : tblB t) {ent : Str} {x : Xpr} {l : List Typ} (hx : bX x ≤ 1073741824) (hl : ∀ y ∈ l, uB y) : uB (ruleX c ent t x l).1 := by
  have hn : ∀ n e, uB (namedT c.features n e).1 := fun n e => by
    unfold namedT; split
    · exact uB_no
    · rename_i f hf
      split
      · exact uB_no
      · exact hc.2.2.1 f (List.mem_of_find?_eq_some hf)
  have hg : ∀ i, uB (l.getD i default) := fun i => by
    by_cases h : i < l.length
    · exact hl _ (getD_mem h)
    · have : l.getD i default = default := by simp [List.getD, List.getElem?_eq_none (Nat.le_of_not_lt h)]
      rw [this]; simp [uB]; decide
  have hs : ∀ a b, uB a → uB (sameT a b).1 := fun a b h => by
    unfold sameT; split
    · exact uB_no
    · split
      · exact uB_no
      · exact h
  have hp : ∀ a b s q, uB ⟨a, (prodU b s q).1, []⟩ := fun a b s q => by simp only [uB]; have := prodU_len b s q; omega
  unfold ruleX
  split
  · have := bX_unit x; simp only [uB]; omega
  split
  · cases t with
    | none => exact uB_no
    | some t' =>
      simp only [fieldT]; split
      · exact uB_no
      · rename_i f hf; exact (ht t' rfl).2 f (List.mem_of_find?_eq_some hf)
  split
  · exact hn _ _
  split
  · split
    · exact uB_no
    · exact hn _ _
  split
  · unfold ruleAgg
    repeat' split
    all_goals first | exact uB_no | exact hg 0 | (simp [uB]; done) | (have := hg 0; simpa [uB] using this)
  split
  · unfold ruleUn
    repeat' split
    all_goals first | exact uB_no | exact hg 0 | (simp [uB]; done)
  split
  · unfold ruleBin
    repeat' split
    all_goals first | exact uB_no | exact hg 0 | (simp [uB]; done) | exact hp _ _ _ _ | (have := hg 0; simpa [uB] using this)
  split
  · split
    · exact uB_no
    · exact hs _ _ (hg 1)
  · exact hs _ _ (hg 0)
theorem ruleCall_is (c : Cat) (ent : Str) (t : Option Tbl) (x : Xpr) (l : List Typ) (hk : 1 ≤ x.kind ∧ x.kind ≤ 9) (hl : (l.length : Int) = manyX x.kind) (hc : catB c) (ht : tblB t) (h2 : x.kind = 2 → t.isSome = true) (hu : ∀ y ∈ l, uB y) :
    Is mx (ruleFn x.kind) [.agg (eScp c ent (fldOf t)), .agg (eE x), .sl (l.map eTyp)] (eRes (ruleX c ent t x l)) := by
  have hg : ∀ i, i < l.length → (l.getD i default).unit.length ≤ 1073741824 := fun i h => hu _ (getD_mem h)
  have hk' : x.kind = 1 ∨ x.kind = 2 ∨ x.kind = 3 ∨ x.kind = 4 ∨ x.kind = 5 ∨ x.kind = 6 ∨ x.kind = 7 ∨ x.kind = 8 ∨ x.kind = 9 := by omega
  rcases hk' with h | h | h | h | h | h | h | h | h <;> simp [h, manyX] at hl <;> simp only [ruleFn, ruleX, h, Int.reduceEq, if_true, if_false]
  · exact literal_is c ent _ x l
  · cases t with
    | none => have := h2 h; simp at this
    | some t' => exact fieldOf_is c ent t' x l (ht t' rfl).1
  · exact feature_is c ent _ x l hc.1
  · exact lookup_is c ent _ x l hc.1 (by omega)
  · exact aggregate_is c ent _ x l (by omega)
  · exact unary_is c ent _ x l (by omega)
  · exact binary_is c ent _ x l (by omega) (hg 0 (by omega)) (hg 1 (by omega))
  · exact choice_is c ent _ x l (by omega) (hg 1 (by omega))
  · exact fallback_is c ent _ x l (by omega) (hg 0 (by omega))

end Go.Proofs.YtihbaggjjglcbaaGreatDoor
end

section
set_option maxRecDepth 100000
set_option maxHeartbeats 8000000
set_option linter.unusedVariables false
set_option linter.unusedSimpArgs false
namespace Go.Proofs.YtihbaggjjglcbaaGreatDoor
open Go Go.Dl Go.As Go.Proofs
variable {mx : Int}
attribute [local irreducible] callG callL MC W W2 evT ev evD step stepD

theorem inferXs_uB {c : Cat} (hc : catB c) {ent : Str} (n : Nat) (ih : ∀ (t : Option Tbl) (x : Xpr), tblB t → bX x ≤ n → bX x ≤ 1073741824 → uB (inferX c ent t x).1) : ∀ (t : Option Tbl) (a : List Xpr) (l : List Typ), tblB t → (∀ x ∈ a, bX x ≤ n ∧ bX x ≤ 1073741824) → inferXs c ent t a = .ok l → ∀ y ∈ l, uB y
  | t, [], l, ht, h, he, y, hy => by simp only [inferXs] at he; cases he; simp at hy
  | t, x :: r, l, ht, h, he, y, hy => by
    simp only [inferXs] at he
    split at he
    · cases he
    · split at he
      · cases he
      · rename_i l' hl'
        cases he
        rcases List.mem_cons.1 hy with e | e
        · subst e; exact ih t x ht (h x (by simp)).1 (h x (by simp)).2
        · exact inferXs_uB hc n ih t r l' ht (fun z hz => h z (by simp [hz])) hl' y e
theorem tblT_B {c : Cat} (hc : catB c) {ent : Str} {x : Xpr} {t' : Tbl} (h : tblT c ent x = .ok t') : tblB (some t') := by
  unfold tblT at h
  split at h
  · cases h
  · rename_i q hq
    split at h
    · cases h
    · cases h
      intro z hz; cases hz
      exact hc.2.2.2 _ (List.mem_of_find?_eq_some hq)
theorem inT_B {c : Cat} (hc : catB c) {ent : Str} {t : Option Tbl} (ht : tblB t) {x : Xpr} {t' : Option Tbl} (h : inT c ent t x = .ok t') : tblB t' := by
  unfold inT at h
  split at h
  · cases e : tblT c ent x with
    | error q => rw [e] at h; cases h
    | ok q => rw [e] at h; cases h; exact tblT_B hc e
  · cases h; exact ht
theorem inferX_uB {c : Cat} (hc : catB c) {ent : Str} : ∀ (n : Nat) (t : Option Tbl) (x : Xpr), tblB t → bX x ≤ n → bX x ≤ 1073741824 → uB (inferX c ent t x).1 := by
  intro n
  induction n with
  | zero => intro t x _ h; have := bX_eq x; omega
  | succ n ih =>
    intro t x ht hb hx
    rw [inferX_eq]
    cases e : inT c ent t x with
    | error q => exact uB_no
    | ok t' =>
      have ht' := inT_B hc ht e
      simp only
      cases e2 : inferXs c ent t' x.args with
      | error q => exact uB_no
      | ok l => exact ruleX_uB hc ht hx (inferXs_uB hc n (fun t x h1 h2 h3 => ih t x h1 h2 h3) t' x.args l ht' (fun y hy => by have := bX_arg hy; omega) e2)
theorem inferXs_len (c : Cat) (ent : Str) (t : Option Tbl) : ∀ (a : List Xpr) (l : List Typ), inferXs c ent t a = .ok l → l.length = a.length
  | [], l, h => by simp only [inferXs] at h; cases h; rfl
  | x :: r, l, h => by
    simp only [inferXs] at h
    split at h
    · cases h
    · split at h
      · cases h
      · rename_i l' hl'; cases h; simp [inferXs_len c ent t r l' hl']
theorem headOk_kind {x : Xpr} {i : Bool} (h : headOk x i = true) : 1 ≤ x.kind ∧ x.kind ≤ 9 ∧ (x.kind = 2 → i = true) := by
  unfold headOk at h
  by_cases h1 : x.kind = 1
  · omega
  rw [if_neg h1] at h
  by_cases h2 : x.kind = 2 ∨ x.kind = 3 ∨ x.kind = 4
  · rw [if_pos h2, Bool.and_eq_true] at h
    refine ⟨by omega, by omega, fun e => ?_⟩
    have := h.1
    simp only [e, decide_true, beq_iff_eq] at this; exact this
  rw [if_neg h2] at h
  by_cases h5 : x.kind = 5
  · omega
  rw [if_neg h5] at h
  by_cases h6 : x.kind = 6
  · omega
  rw [if_neg h6] at h
  by_cases h7 : x.kind = 7
  · omega
  rw [if_neg h7] at h
  simp only [Bool.or_eq_true, decide_eq_true_eq] at h
  omega
theorem infer_is (c : Cat) (ent : Str) (hc : catB c) : ∀ (n : Nat) (t : Option Tbl) (x : Xpr), tblB t → bX x ≤ n → bX x ≤ 1073741824 → properX x t.isSome = true →
    Is mx 34 [.agg (eScp c ent (fldOf t)), .agg (eE x)] (eRes (inferX c ent t x)) := by
  intro n
  induction n with
  | zero => intro t x _ h; have := bX_eq x; omega
  | succ n ih =>
    intro t x ht hb hx hpr
    rw [properX_eq] at hpr
    simp only [Bool.and_eq_true, decide_eq_true_eq] at hpr
    obtain ⟨⟨⟨⟨hh, hbare⟩, hlen⟩, hargs⟩, _⟩ := hpr
    obtain ⟨hk1, hk2, hk3⟩ := headOk_kind hh
    rw [properXs_all, List.all_eq_true] at hargs
    have hxl := bX_len x
    refine MC_of_J Tryz.func34 (by kernel_rfl) Tryz.ntmps34 rfl rfl comp34 rv34 rfl c34.eq_1 ?_
    (repeat' first
| exact hole _
| simp (maxSteps := 9999999) (disch := omega) only [go_sem, reduceCtorEq, Int.reduceToNat, Int.reduceNeg, Int.reduceLT, Int.reduceLE, Int.reduceEq, Int.reduceAdd, Int.reduceSub, Int.reduceMul, Nat.reduceAdd, Nat.reduceSub, Nat.reduceMul, Nat.reduceEqDiff, Nat.reduceBEq, Nat.reduceBneDiff, Nat.reduceLeDiff, Nat.reduceLT, reduceIte, R34]
| refine' gdV_sc' rfl rfl (by simp only [V0, V1, Nat.reduceEqDiff, reduceIte]) (fun hq => ?_) (fun f => ?_) <;> try (have hq' := hq; try simp only [HB] at hq')
| refine' gdD_sc' rfl rfl (by simp only [V0, V1, Nat.reduceEqDiff, reduceIte]) (fun hq => ?_) (fun f => ?_) <;> try (have hq' := hq; try simp only [HB] at hq')
| refine gdV_intro (fun h => ?_) (fun h => ?_) <;> (have h' := h; try simp only [HB] at h'; try rewrite [h]; try simp only [h])
| refine condJ_intro (fun h => ?_) (fun h => ?_) <;> (have h' := h; try simp only [HB] at h'; try rewrite [h]; try simp only [h])
| refine pickE_intro (fun h => ?_) (fun h => ?_) <;> (have h' := h; try simp only [HB] at h'; try rewrite [h]; try simp only [h])
| refine gdD_intro (fun h => ?_) (fun h => ?_) <;> (have h' := h; try simp only [HB] at h'; try rewrite [h]; try simp only [h])
| refine callG_I ?_ ?_
| refine callG_Iv ?_ ?_
| refine drJ_I (by simp only [R34]; rfl) ?_
| refine ret_I (R := isR _) ?_
| refine nxt_I (fun hr => ?_) (fun q hq => ?_)
| refine isnil_I (fun hnil b => ?_) (fun hnil => ?_)
| (refine And.intro ?_ ?_; focus omega))
    have hone : (fldOf t).one = true := by cases t <;> rfl
    have hIx := tblIdx_is (mx := mx) (fun t => decide (t.name = x.table)) c.tables 53 [] [.elt (eE x) 0] hc.2.1 (fun y _ => infer1_is y x)
    have hF := idx_find (fun t : Tbl => decide (t.name = x.table)) c.tables
    generalize idxOf (fun t : Tbl => decide (t.name = x.table)) c.tables = q at hIx hF
    refine ⟨hone, ?_⟩
    cases hT : inT c ent t x with
    | error e =>
      have h5 : x.kind = 5 := by unfold inT at hT; split at hT; assumption; cases hT
      have hR : inferX c ent t x = (noTyp, e) := by rw [inferX_eq, hT]
      have hT2 : tblT c ent x = .error e := by
        unfold inT at hT; rw [if_pos h5] at hT
        cases e2 : tblT c ent x with
        | error z => rw [e2] at hT; cases hT; rfl
        | ok z => rw [e2] at hT; cases hT
      unfold tblT at hT2
      rw [hR]
      rcases hF with ⟨hq, hf⟩ | ⟨hq, hlt, hf⟩
      · rw [hf] at hT2; cases hT2
        (repeat' first
| exact hole _
| simp (maxSteps := 9999999) (disch := omega) only [go_sem, reduceCtorEq, Int.reduceToNat, Int.reduceNeg, Int.reduceLT, Int.reduceLE, Int.reduceEq, Int.reduceAdd, Int.reduceSub, Int.reduceMul, Nat.reduceAdd, Nat.reduceSub, Nat.reduceMul, Nat.reduceEqDiff, Nat.reduceBEq, Nat.reduceBneDiff, Nat.reduceLeDiff, Nat.reduceLT, reduceIte, R34, h5, eq_true hq]
| refine' gdV_sc' rfl rfl (by simp only [V0, V1, Nat.reduceEqDiff, reduceIte]) (fun hq => ?_) (fun f => ?_) <;> try (have hq' := hq; try simp only [HB] at hq')
| refine' gdD_sc' rfl rfl (by simp only [V0, V1, Nat.reduceEqDiff, reduceIte]) (fun hq => ?_) (fun f => ?_) <;> try (have hq' := hq; try simp only [HB] at hq')
| refine gdV_intro (fun h => ?_) (fun h => ?_) <;> (have h' := h; try simp only [HB] at h'; try rewrite [h]; try simp only [h])
| refine condJ_intro (fun h => ?_) (fun h => ?_) <;> (have h' := h; try simp only [HB] at h'; try rewrite [h]; try simp only [h])
| refine pickE_intro (fun h => ?_) (fun h => ?_) <;> (have h' := h; try simp only [HB] at h'; try rewrite [h]; try simp only [h])
| refine gdD_intro (fun h => ?_) (fun h => ?_) <;> (have h' := h; try simp only [HB] at h'; try rewrite [h]; try simp only [h])
| refine callL_of (hIx) ?_
| refine callL_of (fail_is _) ?_
| refine ct_I ?_
| refine callG_I ?_ ?_
| refine callG_Iv ?_ ?_
| refine drJ_I (by simp only [R34]; rfl) ?_
| refine ret_I (R := isR _) ?_
| refine nxt_I (fun hr => ?_) (fun q hq => ?_)
| refine isnil_I (fun hnil b => ?_) (fun hnil => ?_)
| (refine And.intro ?_ ?_; focus omega))
        rfl
      · rw [hf] at hT2
        simp only at hT2
        split at hT2
        · rename_i hne
          cases hT2
          (repeat' first
| exact hole _
| simp (maxSteps := 9999999) (disch := omega) only [go_sem, reduceCtorEq, Int.reduceToNat, Int.reduceNeg, Int.reduceLT, Int.reduceLE, Int.reduceEq, Int.reduceAdd, Int.reduceSub, Int.reduceMul, Nat.reduceAdd, Nat.reduceSub, Nat.reduceMul, Nat.reduceEqDiff, Nat.reduceBEq, Nat.reduceBneDiff, Nat.reduceLeDiff, Nat.reduceLT, reduceIte, R34, h5, eq_false (Int.not_lt.2 hq), eq_false hne, not_false_eq_true, ne_eq]
| refine' gdV_sc' rfl rfl (by simp only [V0, V1, Nat.reduceEqDiff, reduceIte]) (fun hq => ?_) (fun f => ?_) <;> try (have hq' := hq; try simp only [HB] at hq')
| refine' gdD_sc' rfl rfl (by simp only [V0, V1, Nat.reduceEqDiff, reduceIte]) (fun hq => ?_) (fun f => ?_) <;> try (have hq' := hq; try simp only [HB] at hq')
| refine gdV_intro (fun h => ?_) (fun h => ?_) <;> (have h' := h; try simp only [HB] at h'; try rewrite [h]; try simp only [h])
| refine condJ_intro (fun h => ?_) (fun h => ?_) <;> (have h' := h; try simp only [HB] at h'; try rewrite [h]; try simp only [h])
| refine pickE_intro (fun h => ?_) (fun h => ?_) <;> (have h' := h; try simp only [HB] at h'; try rewrite [h]; try simp only [h])
| refine gdD_intro (fun h => ?_) (fun h => ?_) <;> (have h' := h; try simp only [HB] at h'; try rewrite [h]; try simp only [h])
| refine callL_of (hIx) ?_
| refine callL_of (fail_is _) ?_
| refine ct_I ?_
| refine callG_I ?_ ?_
| refine callG_Iv ?_ ?_
| refine drJ_I (by simp only [R34]; rfl) ?_
| refine ret_I (R := isR _) ?_
| refine nxt_I (fun hr => ?_) (fun q hq => ?_)
| refine isnil_I (fun hnil b => ?_) (fun hnil => ?_)
| (refine And.intro ?_ ?_; focus omega))
          rfl
        · cases hT2
    | ok t' =>
      have ht' := inT_B hc ht hT
      have hsome : t'.isSome = (t.isSome || decide (x.kind = 5)) := by
        unfold inT at hT; split at hT
        · rename_i h5
          cases e2 : tblT c ent x with
          | error z => rw [e2] at hT; cases hT
          | ok z => rw [e2] at hT; cases hT; simp [h5]
        · rename_i h5; cases hT; simp [h5]
      have hone' : (fldOf t').one = true := by cases t' <;> rfl
      refine cutS [2, 3, 4, 6] (by simp only [V0, V1, V2, V25, reduceIte, Nat.reduceEqDiff]; rfl) [] [(6, .cells ((eScp c ent (fldOf t')).map .i)), (4, .cells ((eTyp noTyp).map .i))] True ?_ (fun _ => ?_)
      · by_cases h5 : x.kind = 5
        · have hT2 : ∃ z, tblT c ent x = .ok z ∧ t' = some z := by
            unfold inT at hT; rw [if_pos h5] at hT
            cases e2 : tblT c ent x with
            | error z => rw [e2] at hT; cases hT
            | ok z => rw [e2] at hT; cases hT; exact ⟨z, rfl, rfl⟩
          obtain ⟨z, hz, rfl⟩ := hT2
          unfold tblT at hz
          rcases hF with ⟨hq, hf⟩ | ⟨hq, hlt, hf⟩
          · rw [hf] at hz; cases hz
          · rw [hf] at hz
            simp only at hz
            split at hz
            · cases hz
            · rename_i hne
              cases hz
              have hne' : (c.tables.getD q.toNat default).entity = ent := by simpa using hne
              (repeat' first
| exact hole _
| simp (maxSteps := 9999999) (disch := omega) only [go_sem, reduceCtorEq, Int.reduceToNat, Int.reduceNeg, Int.reduceLT, Int.reduceLE, Int.reduceEq, Int.reduceAdd, Int.reduceSub, Int.reduceMul, Nat.reduceAdd, Nat.reduceSub, Nat.reduceMul, Nat.reduceEqDiff, Nat.reduceBEq, Nat.reduceBneDiff, Nat.reduceLeDiff, Nat.reduceLT, reduceIte, R34, h5, eq_false (Int.not_lt.2 hq), hne', ne_eq, not_true_eq_false, fldOf, noTyp, List.map_cons, List.map_nil]
| refine' gdV_sc' rfl rfl (by simp only [V0, V1, Nat.reduceEqDiff, reduceIte]) (fun hq => ?_) (fun f => ?_) <;> try (have hq' := hq; try simp only [HB] at hq')
| refine' gdD_sc' rfl rfl (by simp only [V0, V1, Nat.reduceEqDiff, reduceIte]) (fun hq => ?_) (fun f => ?_) <;> try (have hq' := hq; try simp only [HB] at hq')
| refine gdV_intro (fun h => ?_) (fun h => ?_) <;> (have h' := h; try simp only [HB] at h'; try rewrite [h]; try simp only [h])
| refine condJ_intro (fun h => ?_) (fun h => ?_) <;> (have h' := h; try simp only [HB] at h'; try rewrite [h]; try simp only [h])
| refine pickE_intro (fun h => ?_) (fun h => ?_) <;> (have h' := h; try simp only [HB] at h'; try rewrite [h]; try simp only [h])
| refine gdD_intro (fun h => ?_) (fun h => ?_) <;> (have h' := h; try simp only [HB] at h'; try rewrite [h]; try simp only [h])
| refine callL_of (hIx) ?_
| refine ct_I ?_
| refine callG_I ?_ ?_
| refine callG_Iv ?_ ?_
| refine drJ_I (by simp only [R34]; rfl) ?_
| refine ret_I (R := isR _) ?_
| refine nxt_I (fun hr => ?_) (fun q hq => ?_)
| refine isnil_I (fun hnil b => ?_) (fun hnil => ?_)
| (refine And.intro ?_ ?_; focus omega))
        · have : t' = t := by unfold inT at hT; rw [if_neg h5] at hT; cases hT; rfl
          subst this
          (repeat' first
| exact hole _
| simp (maxSteps := 9999999) (disch := omega) only [go_sem, reduceCtorEq, Int.reduceToNat, Int.reduceNeg, Int.reduceLT, Int.reduceLE, Int.reduceEq, Int.reduceAdd, Int.reduceSub, Int.reduceMul, Nat.reduceAdd, Nat.reduceSub, Nat.reduceMul, Nat.reduceEqDiff, Nat.reduceBEq, Nat.reduceBneDiff, Nat.reduceLeDiff, Nat.reduceLT, reduceIte, R34, eq_false h5, noTyp, List.map_cons, List.map_nil]
| refine' gdV_sc' rfl rfl (by simp only [V0, V1, Nat.reduceEqDiff, reduceIte]) (fun hq => ?_) (fun f => ?_) <;> try (have hq' := hq; try simp only [HB] at hq')
| refine' gdD_sc' rfl rfl (by simp only [V0, V1, Nat.reduceEqDiff, reduceIte]) (fun hq => ?_) (fun f => ?_) <;> try (have hq' := hq; try simp only [HB] at hq')
| refine gdV_intro (fun h => ?_) (fun h => ?_) <;> (have h' := h; try simp only [HB] at h'; try rewrite [h]; try simp only [h])
| refine condJ_intro (fun h => ?_) (fun h => ?_) <;> (have h' := h; try simp only [HB] at h'; try rewrite [h]; try simp only [h])
| refine pickE_intro (fun h => ?_) (fun h => ?_) <;> (have h' := h; try simp only [HB] at h'; try rewrite [h]; try simp only [h])
| refine gdD_intro (fun h => ?_) (fun h => ?_) <;> (have h' := h; try simp only [HB] at h'; try rewrite [h]; try simp only [h])
| refine ct_I ?_
| refine callG_I ?_ ?_
| refine callG_Iv ?_ ?_
| refine drJ_I (by simp only [R34]; rfl) ?_
| refine ret_I (R := isR _) ?_
| refine nxt_I (fun hr => ?_) (fun q hq => ?_)
| refine isnil_I (fun hnil b => ?_) (fun hnil => ?_)
| (refine And.intro ?_ ?_; focus omega))
      · have hR : inferX c ent t x = match inferXs c ent t' x.args with | .error e => (noTyp, e) | .ok l => ruleX c ent t x l := by rw [inferX_eq, hT] <;> rfl
        (repeat' first
| exact hole _
| simp (maxSteps := 9999999) (disch := omega) only [go_sem, reduceCtorEq, Int.reduceToNat, Int.reduceNeg, Int.reduceLT, Int.reduceLE, Int.reduceEq, Int.reduceAdd, Int.reduceSub, Int.reduceMul, Nat.reduceAdd, Nat.reduceSub, Nat.reduceMul, Nat.reduceEqDiff, Nat.reduceBEq, Nat.reduceBneDiff, Nat.reduceLeDiff, Nat.reduceLT, reduceIte, R34, noTyp, List.map_cons, List.map_nil]
| refine' gdV_sc' rfl rfl (by simp only [V0, V1, Nat.reduceEqDiff, reduceIte]) (fun hq => ?_) (fun f => ?_) <;> try (have hq' := hq; try simp only [HB] at hq')
| refine' gdD_sc' rfl rfl (by simp only [V0, V1, Nat.reduceEqDiff, reduceIte]) (fun hq => ?_) (fun f => ?_) <;> try (have hq' := hq; try simp only [HB] at hq')
| refine gdV_intro (fun h => ?_) (fun h => ?_) <;> (have h' := h; try simp only [HB] at h'; try rewrite [h]; try simp only [h])
| refine condJ_intro (fun h => ?_) (fun h => ?_) <;> (have h' := h; try simp only [HB] at h'; try rewrite [h]; try simp only [h])
| refine pickE_intro (fun h => ?_) (fun h => ?_) <;> (have h' := h; try simp only [HB] at h'; try rewrite [h]; try simp only [h])
| refine gdD_intro (fun h => ?_) (fun h => ?_) <;> (have h' := h; try simp only [HB] at h'; try rewrite [h]; try simp only [h])
| refine ct_I ?_
| refine callG_I ?_ ?_
| refine callG_Iv ?_ ?_
| refine drJ_I (by simp only [R34]; rfl) ?_
| refine ret_I (R := isR _) ?_
| refine nxt_I (fun hr => ?_) (fun q hq => ?_)
| refine isnil_I (fun hnil b => ?_) (fun hnil => ?_)
| (refine And.intro ?_ ?_; focus omega))
        refine loopT (L34_0.eq_1 0) [2, 3, 4, 6, 45, 46] (by simp only [V0, V1, V2, V25, reduceIte, Nat.reduceEqDiff]; rfl) (fun g : Nat × List Typ => [(9, .ref (.sl 9 3 0 g.2.length)), (47, .i (iI g.1))]) (fun g => [(9, .rows 36 3 (g.2.map eTyp)), (6, .cells ((eScp c ent (fldOf t')).map .i)), (4, .cells ((eTyp noTyp).map .i))])
          (fun g => g.1 ≤ x.args.length ∧ inferXs c ent t' (x.args.take g.1) = .ok g.2 ∧ g.2.length = g.1) (fun g => x.args.length - g.1) (0, []) (by simp [inferXs]) (by simp [V0, V1, V2, V11, V8, V15, Ref.nm, eTyp, noTyp, D.nms, inS]) ?_
        rintro ⟨i, l⟩ ⟨hi, hl, hll⟩
        simp only at hi hl hll
        by_cases hi' : i < x.args.length
        · have hmem := getD_mem hi'
          have hba := bX_arg hmem
          have i1 := ih t' (x.args.getD i default) ht' (by omega) (by omega) (by rw [hsome]; exact hargs _ hmem)
          have htk := inferXs_take c ent t' x.args i l hi' hl
          rw [← getD_lt hi'] at htk
          generalize hy : inferX c ent t' (x.args.getD i default) = y at i1 htk
          (repeat' first
| exact hole _
| simp (maxSteps := 9999999) (disch := omega) only [go_sem, reduceCtorEq, Int.reduceToNat, Int.reduceNeg, Int.reduceLT, Int.reduceLE, Int.reduceEq, Int.reduceAdd, Int.reduceSub, Int.reduceMul, Nat.reduceAdd, Nat.reduceSub, Nat.reduceMul, Nat.reduceEqDiff, Nat.reduceBEq, Nat.reduceBneDiff, Nat.reduceLeDiff, Nat.reduceLT, reduceIte, R34, ltT hi', noTyp, List.map_cons, List.map_nil, eRes]
| refine' gdV_sc' rfl rfl (by simp only [V0, V1, Nat.reduceEqDiff, reduceIte]) (fun hq => ?_) (fun f => ?_) <;> try (have hq' := hq; try simp only [HB] at hq')
| refine' gdD_sc' rfl rfl (by simp only [V0, V1, Nat.reduceEqDiff, reduceIte]) (fun hq => ?_) (fun f => ?_) <;> try (have hq' := hq; try simp only [HB] at hq')
| refine gdV_intro (fun h => ?_) (fun h => ?_) <;> (have h' := h; try simp only [HB] at h'; try rewrite [h]; try simp only [h])
| refine condJ_intro (fun h => ?_) (fun h => ?_) <;> (have h' := h; try simp only [HB] at h'; try rewrite [h]; try simp only [h])
| refine pickE_intro (fun h => ?_) (fun h => ?_) <;> (have h' := h; try simp only [HB] at h'; try rewrite [h]; try simp only [h])
| refine gdD_intro (fun h => ?_) (fun h => ?_) <;> (have h' := h; try simp only [HB] at h'; try rewrite [h]; try simp only [h])
| refine callL_of (i1) ?_
| refine callL_of (fail_is _) ?_
| refine ct_I ?_
| refine callG_I ?_ ?_
| refine callG_Iv ?_ ?_
| refine drJ_I (by simp only [R34]; rfl) ?_
| refine ret_I (R := isR _) ?_
| refine nxt_I (fun hr => ?_) (fun q hq => ?_)
| refine isnil_I (fun hnil b => ?_) (fun hnil => ?_)
| (refine And.intro ?_ ?_; focus omega))
          · rw [if_pos h'] at htk
            have := inferXs_err c ent t' x.args (i + 1) _ htk
            rw [this] at hR
            rw [hR]; rfl
          · rw [if_neg (by omega)] at htk
            refine ⟨by simp [eTyp], by simp [eTyp, I.one], by omega, by omega, ⟨i + 1, l ++ [y.1]⟩, ⟨by omega, htk, by simp [hll]⟩, by show x.args.length - (i + 1) < _; omega, ⟨by simp, rfl⟩, ?_⟩
            simp [eTyp]
        · have e : i = x.args.length := by omega
          subst e
          rw [List.take_length] at hl
          have hul := inferXs_uB hc n (fun t x h1 h2 h3 => inferX_uB hc n t x h1 h2 h3) t' x.args l ht' (fun z hz => by have := bX_arg hz; omega) hl
          have hrc := ruleCall_is (mx := mx) c ent t x l ⟨hk1, hk2⟩ (by rw [hll]; exact hlen) hc ht hk3 hul
          have hrR : inferX c ent t x = ruleX c ent t x l := by rw [hR, hl]
          (repeat' first
| exact hole _
| simp (maxSteps := 9999999) (disch := omega) only [go_sem, reduceCtorEq, Int.reduceToNat, Int.reduceNeg, Int.reduceLT, Int.reduceLE, Int.reduceEq, Int.reduceAdd, Int.reduceSub, Int.reduceMul, Nat.reduceAdd, Nat.reduceSub, Nat.reduceMul, Nat.reduceEqDiff, Nat.reduceBEq, Nat.reduceBneDiff, Nat.reduceLeDiff, Nat.reduceLT, reduceIte, R34, ltF hi', noTyp, List.map_cons, List.map_nil, eRes]
| refine' gdV_sc' rfl rfl (by simp only [V0, V1, Nat.reduceEqDiff, reduceIte]) (fun hq => ?_) (fun f => ?_) <;> try (have hq' := hq; try simp only [HB] at hq')
| refine' gdD_sc' rfl rfl (by simp only [V0, V1, Nat.reduceEqDiff, reduceIte]) (fun hq => ?_) (fun f => ?_) <;> try (have hq' := hq; try simp only [HB] at hq')
| refine gdV_intro (fun h => ?_) (fun h => ?_) <;> (have h' := h; try simp only [HB] at h'; try rewrite [h]; try simp only [h])
| refine condJ_intro (fun h => ?_) (fun h => ?_) <;> (have h' := h; try simp only [HB] at h'; try rewrite [h]; try simp only [h])
| refine pickE_intro (fun h => ?_) (fun h => ?_) <;> (have h' := h; try simp only [HB] at h'; try rewrite [h]; try simp only [h])
| refine gdD_intro (fun h => ?_) (fun h => ?_) <;> (have h' := h; try simp only [HB] at h'; try rewrite [h]; try simp only [h])
| refine callL_of (rule_is c ent _ _ ⟨hk1, hk2⟩) ?_
| refine callL_of (hrc) ?_
| refine ct_I ?_
| refine callG_I ?_ ?_
| refine callG_Iv ?_ ?_
| refine drJ_I (by simp only [R34]; rfl) ?_
| refine ret_I (R := isR _) ?_
| refine nxt_I (fun hr => ?_) (fun q hq => ?_)
| refine isnil_I (fun hnil b => ?_) (fun hnil => ?_)
| (refine And.intro ?_ ?_; focus omega))

          rw [hrR]

end Go.Proofs.YtihbaggjjglcbaaGreatDoor
end

section
set_option maxRecDepth 100000
set_option maxHeartbeats 8000000
set_option linter.unusedVariables false
set_option linter.unusedSimpArgs false
namespace Go.Proofs.YtihbaggjjglcbaaGreatDoor
open Go Go.Dl Go.As Go.Proofs
variable {mx : Int}
attribute [local irreducible] callG callL MC W W2 evT ev evD step stepD

def inferTop (c : Cat) (ent : Str) (x : Xpr) : Typ × Int := if shapeX x ≠ 0 then (noTyp, shapeX x) else inferX c ent none x
theorem shape_proper {x : Xpr} (h : shapeX x = 0) : properX x false = true := by
  unfold shapeX at h; split at h
  · cases h
  · split at h
    · assumption
    · cases h
theorem tblB_none : tblB none := fun _ h => by cases h
theorem Infer_is (c : Cat) (ent : Str) (x : Xpr) (hc : catB c) (hx : bX x ≤ 1073741824) : Is mx 9 [.agg (eCat c), .str ent, .agg (eE x)] (eRes (inferTop c ent x)) := by
  refine MC_of_J Tryz.func9 (by kernel_rfl) Tryz.ntmps9 rfl rfl comp9 rv9 rfl c9.eq_1 ?_
  by_cases h0 : shapeX x = 0
  · have hI := infer_is (mx := mx) c ent hc _ none x tblB_none (Nat.le_refl _) hx (shape_proper h0)
    have hT : inferTop c ent x = inferX c ent none x := by unfold inferTop; rw [if_neg (by omega)]
    rw [hT]
    simp only [fldOf] at hI
    (repeat' first
| exact hole _
| simp (maxSteps := 9999999) (disch := omega) only [go_sem, reduceCtorEq, Int.reduceToNat, Int.reduceNeg, Int.reduceLT, Int.reduceLE, Int.reduceEq, Int.reduceAdd, Int.reduceSub, Int.reduceMul, Nat.reduceAdd, Nat.reduceSub, Nat.reduceMul, Nat.reduceEqDiff, Nat.reduceBEq, Nat.reduceBneDiff, Nat.reduceLeDiff, Nat.reduceLT, reduceIte, R9, h0, ne_eq, not_true_eq_false, eRes]
| refine' gdV_sc' rfl rfl (by simp only [V0, V1, Nat.reduceEqDiff, reduceIte]) (fun hq => ?_) (fun f => ?_) <;> try (have hq' := hq; try simp only [HB] at hq')
| refine' gdD_sc' rfl rfl (by simp only [V0, V1, Nat.reduceEqDiff, reduceIte]) (fun hq => ?_) (fun f => ?_) <;> try (have hq' := hq; try simp only [HB] at hq')
| refine gdV_intro (fun h => ?_) (fun h => ?_) <;> (have h' := h; try simp only [HB] at h'; try rewrite [h]; try simp only [h])
| refine condJ_intro (fun h => ?_) (fun h => ?_) <;> (have h' := h; try simp only [HB] at h'; try rewrite [h]; try simp only [h])
| refine pickE_intro (fun h => ?_) (fun h => ?_) <;> (have h' := h; try simp only [HB] at h'; try rewrite [h]; try simp only [h])
| refine gdD_intro (fun h => ?_) (fun h => ?_) <;> (have h' := h; try simp only [HB] at h'; try rewrite [h]; try simp only [h])
| refine callL_of (Shape_is x hx) ?_
| refine callL_of (hI) ?_
| refine ct_I ?_
| refine callG_I ?_ ?_
| refine callG_Iv ?_ ?_
| refine drJ_I (by simp only [R9]; rfl) ?_
| refine ret_I (R := isR _) ?_
| refine nxt_I (fun hr => ?_) (fun q hq => ?_)
| refine isnil_I (fun hnil b => ?_) (fun hnil => ?_)
| (refine And.intro ?_ ?_; focus omega))
  · have hT : inferTop c ent x = (noTyp, shapeX x) := by unfold inferTop; rw [if_pos h0]
    rw [hT]
    (repeat' first
| exact hole _
| simp (maxSteps := 9999999) (disch := omega) only [go_sem, reduceCtorEq, Int.reduceToNat, Int.reduceNeg, Int.reduceLT, Int.reduceLE, Int.reduceEq, Int.reduceAdd, Int.reduceSub, Int.reduceMul, Nat.reduceAdd, Nat.reduceSub, Nat.reduceMul, Nat.reduceEqDiff, Nat.reduceBEq, Nat.reduceBneDiff, Nat.reduceLeDiff, Nat.reduceLT, reduceIte, R9, eq_false h0, ne_eq, not_false_eq_true, eRes, noTyp]
| refine' gdV_sc' rfl rfl (by simp only [V0, V1, Nat.reduceEqDiff, reduceIte]) (fun hq => ?_) (fun f => ?_) <;> try (have hq' := hq; try simp only [HB] at hq')
| refine' gdD_sc' rfl rfl (by simp only [V0, V1, Nat.reduceEqDiff, reduceIte]) (fun hq => ?_) (fun f => ?_) <;> try (have hq' := hq; try simp only [HB] at hq')
| refine gdV_intro (fun h => ?_) (fun h => ?_) <;> (have h' := h; try simp only [HB] at h'; try rewrite [h]; try simp only [h])
| refine condJ_intro (fun h => ?_) (fun h => ?_) <;> (have h' := h; try simp only [HB] at h'; try rewrite [h]; try simp only [h])
| refine pickE_intro (fun h => ?_) (fun h => ?_) <;> (have h' := h; try simp only [HB] at h'; try rewrite [h]; try simp only [h])
| refine gdD_intro (fun h => ?_) (fun h => ?_) <;> (have h' := h; try simp only [HB] at h'; try rewrite [h]; try simp only [h])
| refine callL_of (Shape_is x hx) ?_
| refine callL_of (fail_is _) ?_
| refine ct_I ?_
| refine callG_I ?_ ?_
| refine callG_Iv ?_ ?_
| refine drJ_I (by simp only [R9]; rfl) ?_
| refine ret_I (R := isR _) ?_
| refine nxt_I (fun hr => ?_) (fun q hq => ?_)
| refine isnil_I (fun hnil b => ?_) (fun hnil => ?_)
| (refine And.intro ?_ ?_; focus omega))
theorem facSame_is (a b : List Fac) (ha : a.length ≤ 1073741824) (hb : b.length ≤ 1073741824) : Is mx 37 [.sl (a.map eFac), .sl (b.map eFac)] (.bool (decide (a = b))) := by
  refine MC_of_J Tryz.func37 (by kernel_rfl) Tryz.ntmps37 rfl rfl comp37 rv37 rfl c37.eq_1 ?_
  (repeat' first
| exact hole _
| simp (maxSteps := 9999999) (disch := omega) only [go_sem, reduceCtorEq, Int.reduceToNat, Int.reduceNeg, Int.reduceLT, Int.reduceLE, Int.reduceEq, Int.reduceAdd, Int.reduceSub, Int.reduceMul, Nat.reduceAdd, Nat.reduceSub, Nat.reduceMul, Nat.reduceEqDiff, Nat.reduceBEq, Nat.reduceBneDiff, Nat.reduceLeDiff, Nat.reduceLT, reduceIte, R37]
| refine' gdV_sc' rfl rfl (by simp only [V0, V1, Nat.reduceEqDiff, reduceIte]) (fun hq => ?_) (fun f => ?_) <;> try (have hq' := hq; try simp only [HB] at hq')
| refine' gdD_sc' rfl rfl (by simp only [V0, V1, Nat.reduceEqDiff, reduceIte]) (fun hq => ?_) (fun f => ?_) <;> try (have hq' := hq; try simp only [HB] at hq')
| refine gdV_intro (fun h => ?_) (fun h => ?_) <;> (have h' := h; try simp only [HB] at h'; try rewrite [h]; try simp only [h])
| refine condJ_intro (fun h => ?_) (fun h => ?_) <;> (have h' := h; try simp only [HB] at h'; try rewrite [h]; try simp only [h])
| refine pickE_intro (fun h => ?_) (fun h => ?_) <;> (have h' := h; try simp only [HB] at h'; try rewrite [h]; try simp only [h])
| refine gdD_intro (fun h => ?_) (fun h => ?_) <;> (have h' := h; try simp only [HB] at h'; try rewrite [h]; try simp only [h])
| refine ct_I ?_
| refine callG_I ?_ ?_
| refine callG_Iv ?_ ?_
| refine drJ_I (by simp only [R37]; rfl) ?_
| refine ret_I (R := isR _) ?_
| refine nxt_I (fun hr => ?_) (fun q hq => ?_)
| refine isnil_I (fun hnil b => ?_) (fun hnil => ?_)
| (refine And.intro ?_ ?_; focus omega))
  · refine congrArg I.bool ?_
    have : a ≠ b := fun e => by rw [e] at h'; omega
    simp [this]
  · refine loopS (L37_0.eq_1 0) [0, 1] (by simp only [V0, V1, V2, V25, reduceIte, Nat.reduceEqDiff]; rfl) (fun i => [(5, .i (iI i))]) (fun _ => []) (fun i => a.take i = b.take i) a.length 0 (by omega) (by simp) (by simp [V0, V1, V2, V11, V8, V15, Ref.nm]) ?_
    intro i hi hinv
    by_cases hi' : i < a.length
    · have hi2 : i < b.length := by omega
      (repeat' first
| exact hole _
| simp (maxSteps := 9999999) (disch := omega) only [go_sem, reduceCtorEq, Int.reduceToNat, Int.reduceNeg, Int.reduceLT, Int.reduceLE, Int.reduceEq, Int.reduceAdd, Int.reduceSub, Int.reduceMul, Nat.reduceAdd, Nat.reduceSub, Nat.reduceMul, Nat.reduceEqDiff, Nat.reduceBEq, Nat.reduceBneDiff, Nat.reduceLeDiff, Nat.reduceLT, reduceIte, R37, ltT hi']
| refine' gdV_sc' rfl rfl (by simp only [V0, V1, Nat.reduceEqDiff, reduceIte]) (fun hq => ?_) (fun f => ?_) <;> try (have hq' := hq; try simp only [HB] at hq')
| refine' gdD_sc' rfl rfl (by simp only [V0, V1, Nat.reduceEqDiff, reduceIte]) (fun hq => ?_) (fun f => ?_) <;> try (have hq' := hq; try simp only [HB] at hq')
| refine gdV_intro (fun h => ?_) (fun h => ?_) <;> (have h' := h; try simp only [HB] at h'; try rewrite [h]; try simp only [h])
| refine condJ_intro (fun h => ?_) (fun h => ?_) <;> (have h' := h; try simp only [HB] at h'; try rewrite [h]; try simp only [h])
| refine pickE_intro (fun h => ?_) (fun h => ?_) <;> (have h' := h; try simp only [HB] at h'; try rewrite [h]; try simp only [h])
| refine gdD_intro (fun h => ?_) (fun h => ?_) <;> (have h' := h; try simp only [HB] at h'; try rewrite [h]; try simp only [h])
| refine ct_I ?_
| refine callG_I ?_ ?_
| refine callG_Iv ?_ ?_
| refine drJ_I (by simp only [R37]; rfl) ?_
| refine ret_I (R := isR _) ?_
| refine nxt_I (fun hr => ?_) (fun q hq => ?_)
| refine isnil_I (fun hnil b => ?_) (fun hnil => ?_)
| (refine And.intro ?_ ?_; focus omega))
      · refine congrArg I.bool ?_
        have : a ≠ b := fun e => by subst e; simp at h
        simp [this]
      · refine take_succ_eq hinv hi' hi2 ?_
        simp only [Bool.not_eq_false', Bool.and_true, Bool.and_eq_true, beq_iff_eq] at h
        simp only [getD_lt hi', getD_lt hi2] at h
        exact fac_ext h.1 h.2
    · (repeat' first
| exact hole _
| simp (maxSteps := 9999999) (disch := omega) only [go_sem, reduceCtorEq, Int.reduceToNat, Int.reduceNeg, Int.reduceLT, Int.reduceLE, Int.reduceEq, Int.reduceAdd, Int.reduceSub, Int.reduceMul, Nat.reduceAdd, Nat.reduceSub, Nat.reduceMul, Nat.reduceEqDiff, Nat.reduceBEq, Nat.reduceBneDiff, Nat.reduceLeDiff, Nat.reduceLT, reduceIte, R37, ltF hi']
| refine' gdV_sc' rfl rfl (by simp only [V0, V1, Nat.reduceEqDiff, reduceIte]) (fun hq => ?_) (fun f => ?_) <;> try (have hq' := hq; try simp only [HB] at hq')
| refine' gdD_sc' rfl rfl (by simp only [V0, V1, Nat.reduceEqDiff, reduceIte]) (fun hq => ?_) (fun f => ?_) <;> try (have hq' := hq; try simp only [HB] at hq')
| refine gdV_intro (fun h => ?_) (fun h => ?_) <;> (have h' := h; try simp only [HB] at h'; try rewrite [h]; try simp only [h])
| refine condJ_intro (fun h => ?_) (fun h => ?_) <;> (have h' := h; try simp only [HB] at h'; try rewrite [h]; try simp only [h])
| refine pickE_intro (fun h => ?_) (fun h => ?_) <;> (have h' := h; try simp only [HB] at h'; try rewrite [h]; try simp only [h])
| refine gdD_intro (fun h => ?_) (fun h => ?_) <;> (have h' := h; try simp only [HB] at h'; try rewrite [h]; try simp only [h])
| refine ct_I ?_
| refine callG_I ?_ ?_
| refine callG_Iv ?_ ?_
| refine drJ_I (by simp only [R37]; rfl) ?_
| refine ret_I (R := isR _) ?_
| refine nxt_I (fun hr => ?_) (fun q hq => ?_)
| refine isnil_I (fun hnil b => ?_) (fun hnil => ?_)
| (refine And.intro ?_ ?_; focus omega))
      refine congrArg I.bool ?_
      have e : i = a.length := by omega
      rw [e] at hinv
      rw [List.take_length, List.take_of_length_le (by omega)] at hinv
      simp [hinv]
theorem SameType_is (a b : Typ) (ha : a.unit.length ≤ 1073741824) (hb : b.unit.length ≤ 1073741824) : Is mx 14 [.agg (eTyp a), .agg (eTyp b)] (.bool (decide (a = b))) := by
  refine MC_of_J Tryz.func14 (by kernel_rfl) Tryz.ntmps14 rfl rfl comp14 rv14 rfl c14.eq_1 ?_
  (repeat' first
| exact hole _
| simp (maxSteps := 9999999) (disch := omega) only [go_sem, reduceCtorEq, Int.reduceToNat, Int.reduceNeg, Int.reduceLT, Int.reduceLE, Int.reduceEq, Int.reduceAdd, Int.reduceSub, Int.reduceMul, Nat.reduceAdd, Nat.reduceSub, Nat.reduceMul, Nat.reduceEqDiff, Nat.reduceBEq, Nat.reduceBneDiff, Nat.reduceLeDiff, Nat.reduceLT, reduceIte, R14]
| refine' gdV_sc' rfl rfl (by simp only [V0, V1, Nat.reduceEqDiff, reduceIte]) (fun hq => ?_) (fun f => ?_) <;> try (have hq' := hq; try simp only [HB] at hq')
| refine' gdD_sc' rfl rfl (by simp only [V0, V1, Nat.reduceEqDiff, reduceIte]) (fun hq => ?_) (fun f => ?_) <;> try (have hq' := hq; try simp only [HB] at hq')
| refine gdV_intro (fun h => ?_) (fun h => ?_) <;> (have h' := h; try simp only [HB] at h'; try rewrite [h]; try simp only [h])
| refine condJ_intro (fun h => ?_) (fun h => ?_) <;> (have h' := h; try simp only [HB] at h'; try rewrite [h]; try simp only [h])
| refine pickE_intro (fun h => ?_) (fun h => ?_) <;> (have h' := h; try simp only [HB] at h'; try rewrite [h]; try simp only [h])
| refine gdD_intro (fun h => ?_) (fun h => ?_) <;> (have h' := h; try simp only [HB] at h'; try rewrite [h]; try simp only [h])
| refine callL_of (facSame_is _ _ ha hb) ?_
| refine ct_I ?_
| refine callG_I ?_ ?_
| refine callG_Iv ?_ ?_
| refine drJ_I (by simp only [R14]; rfl) ?_
| refine ret_I (R := isR _) ?_
| refine nxt_I (fun hr => ?_) (fun q hq => ?_)
| refine isnil_I (fun hnil b => ?_) (fun hnil => ?_)
| (refine And.intro ?_ ?_; focus omega))
  refine congrArg I.bool ?_
  rw [Bool.eq_iff_iff]
  simp only [Bool.and_eq_true, decide_eq_true_eq]
  constructor
  · rintro ⟨⟨h1, h2⟩, h3⟩; cases a; cases b; simp_all
  · rintro rfl; simp
def featureT (c : Cat) (f : Ftr) : Int :=
  if (!nameOk f.name || !nameOk f.entity || decide (f.version < 0)) = true then 3 else if typeOk f.typ ≠ 0 then typeOk f.typ
  else if (inferTop c f.entity f.body).2 ≠ 0 then (inferTop c f.entity f.body).2 else (sameT (inferTop c f.entity f.body).1 f.typ).2
theorem inferTop_uB {c : Cat} (hc : catB c) {ent : Str} {x : Xpr} (hx : bX x ≤ 1073741824) : uB (inferTop c ent x).1 := by
  unfold inferTop; split
  · exact uB_no
  · exact inferX_uB hc _ none x tblB_none (Nat.le_refl _) hx

end Go.Proofs.YtihbaggjjglcbaaGreatDoor
end

section
set_option maxRecDepth 100000
set_option maxHeartbeats 8000000
set_option linter.unusedVariables false
set_option linter.unusedSimpArgs false
namespace Go.Proofs.YtihbaggjjglcbaaGreatDoor
open Go Go.Dl Go.As Go.Proofs
variable {mx : Int}
attribute [local irreducible] callG callL MC W W2 evT ev evD step stepD

/-! The plain laws of the checker. -/
theorem shape_ok {x : Xpr} : shapeX x = 0 ↔ sizeX x ≤ 64 ∧ depthX x ≤ 12 ∧ properX x false = true := by
  unfold shapeX
  constructor
  · intro h
    split at h
    · cases h
    · split at h
      · exact ⟨by omega, by omega, by assumption⟩
      · cases h
  · rintro ⟨h1, h2, h3⟩; rw [if_neg (by omega), if_pos h3]
theorem inferTop_ok {c : Cat} {ent : Str} {x : Xpr} (h : (inferTop c ent x).2 = 0) : shapeX x = 0 ∧ (inferX c ent none x).2 = 0 := by
  unfold inferTop at h
  by_cases h0 : shapeX x = 0
  · rw [if_neg (by simp [h0])] at h; exact ⟨h0, h⟩
  · rw [if_pos h0] at h; exact absurd h h0
theorem inferTop_eq {c : Cat} {ent : Str} {x : Xpr} (h : shapeX x = 0) : inferTop c ent x = inferX c ent none x := by
  unfold inferTop; rw [if_neg (by simp [h])]
theorem sizeXs_mem : ∀ {l : List Xpr} {a : Xpr}, a ∈ l → sizeX a ≤ sizeXs l
  | x :: r, a, h => by
    simp only [sizeXs]
    rcases List.mem_cons.1 h with e | e
    · subst e; omega
    · have := sizeXs_mem e; omega
theorem depthXs_mem : ∀ {l : List Xpr} {a : Xpr}, a ∈ l → depthX a ≤ depthXs l
  | x :: r, a, h => by
    simp only [depthXs]
    rcases List.mem_cons.1 h with e | e
    · subst e; omega
    · have := depthXs_mem e; omega
theorem size_arg {x a : Xpr} (h : a ∈ x.args) : sizeX a < sizeX x := by have := sizeX_args x; have := sizeXs_mem h; omega
theorem depth_arg {x a : Xpr} (h : a ∈ x.args) : depthX a < depthX x := by have := depthX_args x; have := depthXs_mem h; omega
theorem inferXs_ok (c : Cat) (ent : Str) (t : Option Tbl) : ∀ (a : List Xpr), (∀ x ∈ a, (inferX c ent t x).2 = 0) → inferXs c ent t a = .ok (a.map fun x => (inferX c ent t x).1)
  | [], _ => rfl
  | x :: r, h => by
    simp only [inferXs]
    rw [if_neg (by simp [h x (by simp)]), inferXs_ok c ent t r fun y hy => h y (by simp [hy])]
    rfl
theorem inferXs_inv (c : Cat) (ent : Str) (t : Option Tbl) : ∀ (a : List Xpr) (l : List Typ), inferXs c ent t a = .ok l → (∀ x ∈ a, (inferX c ent t x).2 = 0) ∧ l = a.map fun x => (inferX c ent t x).1
  | [], l, h => by simp only [inferXs] at h; cases h; exact ⟨fun x hx => by simp at hx, rfl⟩
  | x :: r, l, h => by
    simp only [inferXs] at h
    split at h
    · cases h
    · rename_i h0
      split at h
      · cases h
      · rename_i l' hl'
        cases h
        obtain ⟨h1, h2⟩ := inferXs_inv c ent t r l' hl'
        refine ⟨fun y hy => ?_, by rw [h2]; rfl⟩
        rcases List.mem_cons.1 hy with e | e
        · subst e; simpa using h0
        · exact h1 y e
/-- What an expression with a type says. -/
theorem inferX_inv {c : Cat} {ent : Str} {t : Option Tbl} {x : Xpr} (h : (inferX c ent t x).2 = 0) (hn : ∀ e, inT c ent t x = .error e → e ≠ 0) (he : ∀ t' e, inT c ent t x = .ok t' → inferXs c ent t' x.args = .error e → e ≠ 0) :
    ∃ t', inT c ent t x = .ok t' ∧ (∀ y ∈ x.args, (inferX c ent t' y).2 = 0) ∧ inferX c ent t x = ruleX c ent t x (x.args.map fun y => (inferX c ent t' y).1) := by
  rw [inferX_eq] at h
  cases e1 : inT c ent t x with
  | error e => rw [e1] at h; exact absurd h (hn e e1)
  | ok t' =>
    rw [e1] at h
    cases e2 : inferXs c ent t' x.args with
    | error e => simp only [e2] at h; exact absurd h (he t' e e1 e2)
    | ok l =>
      obtain ⟨h1, h2⟩ := inferXs_inv _ _ _ _ _ e2
      refine ⟨t', rfl, h1, ?_⟩
      rw [inferX_eq, e1]; simp only [e2]; rw [h2]
theorem inT_err {c : Cat} {ent : Str} {t : Option Tbl} {x : Xpr} {e : Int} (h : inT c ent t x = .error e) : e ≠ 0 := by
  unfold inT tblT at h
  split at h
  · split at h
    · rename_i q hq
      cases h
      split at hq
      · cases hq; decide
      · split at hq
        · cases hq; decide
        · cases hq
    · cases h
  · cases h
theorem inferXs_ne (c : Cat) (ent : Str) (t : Option Tbl) : ∀ (a : List Xpr) (e : Int), inferXs c ent t a = .error e → e ≠ 0
  | [], e, h => by simp [inferXs] at h
  | x :: r, e, h => by
    simp only [inferXs] at h
    split at h
    · rename_i h0; cases h; exact h0
    · split at h
      · rename_i q hq; cases h; exact inferXs_ne c ent t r _ hq
      · cases h
theorem inferX_ok {c : Cat} {ent : Str} {t : Option Tbl} {x : Xpr} (h : (inferX c ent t x).2 = 0) :
    ∃ t', inT c ent t x = .ok t' ∧ (∀ y ∈ x.args, (inferX c ent t' y).2 = 0) ∧ inferX c ent t x = ruleX c ent t x (x.args.map fun y => (inferX c ent t' y).1) :=
  inferX_inv h (fun _ => inT_err) fun _ _ _ => inferXs_ne _ _ _ _ _
theorem inT_not {c : Cat} {ent : Str} {t : Option Tbl} {x : Xpr} (hk : x.kind ≠ 5) : inT c ent t x = .ok t := by unfold inT; rw [if_neg hk]
theorem proper_arg {x a : Xpr} (h : properX x false = true) (hk : x.kind ≠ 5) (ha : a ∈ x.args) : properX a false = true := by
  rw [properX_eq] at h
  simp only [Bool.and_eq_true] at h
  have := h.1.2
  rw [properXs_all, List.all_eq_true] at this
  simpa [hk] using this a ha
theorem shape_arg {x a : Xpr} (h : shapeX x = 0) (hk : x.kind ≠ 5) (ha : a ∈ x.args) : shapeX a = 0 := by
  rw [shape_ok] at h ⊢
  have := size_arg ha
  have := depth_arg ha
  exact ⟨by omega, by omega, proper_arg h.2.2 hk ha⟩
/-- LAW: the operands of an expression with a type have types. -/
theorem operand_infer {c : Cat} {ent : Str} {x a : Xpr} (h : (inferTop c ent x).2 = 0) (hk : x.kind ≠ 5) (ha : a ∈ x.args) : (inferTop c ent a).2 = 0 := by
  obtain ⟨h0, h1⟩ := inferTop_ok h
  obtain ⟨t', e, h2, _⟩ := inferX_ok h1
  rw [inT_not hk] at e; cases e
  rw [inferTop_eq (shape_arg h0 hk ha)]; exact h2 a ha
/-- An expression with other operands. -/
def withArgs (x : Xpr) (a : List Xpr) : Xpr := .mk x.kind x.op x.name x.table x.val x.unit x.param x.win a
theorem with_args (x : Xpr) (a : List Xpr) : (withArgs x a).args = a := rfl
/-- LAW: an operand is replaced by one of the same type. -/
theorem replaced {c : Cat} {ent : Str} {x y : Xpr} {i : Nat} (h : (inferTop c ent x).2 = 0) (hk : x.kind ≠ 5) (hi : i < x.args.length) (hy : (inferTop c ent y).2 = 0) (he : (inferTop c ent x.args[i]).1 = (inferTop c ent y).1) :
    if 64 < sizeX (withArgs x (x.args.set i y)) ∨ 12 < depthX (withArgs x (x.args.set i y)) then (inferTop c ent (withArgs x (x.args.set i y))).2 = 2 else inferTop c ent (withArgs x (x.args.set i y)) = inferTop c ent x := by
  split
  · rename_i hh
    have : shapeX (withArgs x (x.args.set i y)) = 2 := by unfold shapeX; rw [if_pos hh]
    unfold inferTop; rw [this, if_pos (by decide)]
  · rename_i hh
    obtain ⟨h0, h1⟩ := inferTop_ok h
    obtain ⟨y0, y1⟩ := inferTop_ok hy
    have hm : x.args[i] ∈ x.args := List.getElem_mem hi
    have hx := (shape_ok.1 h0).2.2
    have hz : properX (withArgs x (x.args.set i y)) false = true := by
      have hx' := hx
      rw [properX_eq] at hx' ⊢
      simp only [Bool.and_eq_true] at hx' ⊢
      obtain ⟨⟨⟨⟨p1, p2⟩, p3⟩, p4⟩, p5⟩ := hx'
      refine ⟨⟨⟨⟨p1, p2⟩, ?_⟩, ?_⟩, ?_⟩
      · rw [with_args, List.length_set]; exact p3
      · rw [properXs_all, List.all_eq_true] at p4 ⊢
        intro q hq
        rw [with_args] at hq
        rcases List.mem_or_eq_of_mem_set hq with e | e
        · exact p4 q e
        · subst e
          have e5 : decide ((withArgs x (x.args.set i q)).kind = 5) = false := decide_eq_false hk
          rw [e5]; exact (shape_ok.1 y0).2.2
      · have e5 : decide ((withArgs x (x.args.set i y)).kind = 5) = false := decide_eq_false hk
        rw [e5]; simp
    have hs : shapeX (withArgs x (x.args.set i y)) = 0 := shape_ok.2 ⟨by omega, by omega, hz⟩
    rw [inferTop_eq hs, inferTop_eq h0]
    rw [inferTop_eq y0, inferTop_eq (shape_arg h0 hk hm)] at he
    obtain ⟨t', e, h2, h3⟩ := inferX_ok h1
    rw [inT_not hk] at e; cases e
    rw [h3, inferX_eq, inT_not (x := withArgs x (x.args.set i y)) hk]
    have hl : ∀ q ∈ (withArgs x (x.args.set i y)).args, (inferX c ent none q).2 = 0 := fun q hq => by
      rw [with_args] at hq
      rcases List.mem_or_eq_of_mem_set hq with e | e
      · exact h2 q e
      · subst e; exact y1
    simp only [inferXs_ok _ _ _ _ hl]
    have : (withArgs x (x.args.set i y)).args.map (fun q => (inferX c ent none q).1) = x.args.map fun q => (inferX c ent none q).1 := by
      rw [with_args, List.map_set, ← he]
      have h9 : ∀ (l : List Typ) (k : Nat) (hk : k < l.length) (z : Typ), l[k] = z → l.set k z = l := fun l k hk z e => by subst e; exact List.set_getElem_self hk
      exact h9 _ i (by simpa using hi) _ (by rw [List.getElem_map])
    rw [this]; rfl
/-- A catalog with more tables and features behind its own. -/
def more (c : Cat) (ts : List Tbl) (fs : List Ftr) : Cat := ⟨c.tables ++ ts, c.features ++ fs, c.drafts, c.past⟩
theorem named_more {a b : List Ftr} {n e : Str} (h : (namedT a n e).2 = 0) : namedT (a ++ b) n e = namedT a n e := by
  unfold namedT at h ⊢
  rw [List.find?_append]
  cases hf : a.find? (fun f => decide (f.name = n)) with
  | none => rw [hf] at h; cases h
  | some f => rfl
theorem rule_more {c : Cat} {ts : List Tbl} {fs : List Ftr} {ent : Str} {t : Option Tbl} {x : Xpr} {l : List Typ} (h : (ruleX c ent t x l).2 = 0) : ruleX (more c ts fs) ent t x l = ruleX c ent t x l := by
  have hm : ∀ n e, (namedT c.features n e).2 = 0 → namedT (c.features ++ fs) n e = namedT c.features n e := fun n e h => named_more h
  unfold ruleX at h ⊢
  simp only [more]
  by_cases h1 : x.kind = 1
  · simp only [h1, if_true]
  by_cases h2 : x.kind = 2
  · simp only [h2, if_true, if_neg (show ¬ ((2 : Int) = 1) by decide)]
  by_cases h3 : x.kind = 3
  · simp only [h1, h2, h3, if_true, if_false] at h ⊢
    simp only [if_neg (show ¬ ((3 : Int) = 1) by decide), if_neg (show ¬ ((3 : Int) = 2) by decide)] at h ⊢
    exact hm _ _ h
  by_cases h4 : x.kind = 4
  · simp only [h4, if_neg (show ¬ ((4 : Int) = 1) by decide), if_neg (show ¬ ((4 : Int) = 2) by decide), if_neg (show ¬ ((4 : Int) = 3) by decide), if_true] at h ⊢
    split at h
    · cases h
    · rename_i hh; rw [if_neg hh, if_neg hh]; exact hm _ _ h
  · simp only [h1, h2, h3, h4, if_false]
theorem weak_X {c : Cat} {ts : List Tbl} {fs : List Ftr} {ent : Str} : ∀ (n : Nat) (t : Option Tbl) (x : Xpr), sizeX x ≤ n → (inferX c ent t x).2 = 0 → inferX (more c ts fs) ent t x = inferX c ent t x := by
  intro n
  induction n with
  | zero => intro t x h; have := sizeX_pos x; omega
  | succ n ih =>
    intro t x hn h
    obtain ⟨t', e, h2, h3⟩ := inferX_ok h
    have e' : inT (more c ts fs) ent t x = .ok t' := by
      unfold inT at e ⊢
      split
      · rename_i h5
        rw [if_pos h5] at e
        unfold tblT at e ⊢
        simp only [more, List.find?_append]
        cases hf : c.tables.find? (fun t => decide (t.name = x.table)) with
        | none => rw [hf] at e; cases e
        | some q => rw [hf] at e; exact e
      · rename_i h5; rw [if_neg h5] at e; exact e
    have hl : ∀ y ∈ x.args, inferX (more c ts fs) ent t' y = inferX c ent t' y := fun y hy => ih t' y (by have := size_arg hy; omega) (h2 y hy)
    rw [h3, inferX_eq, e']
    simp only [inferXs_ok _ _ _ _ fun y hy => (congrArg Prod.snd (hl y hy)).trans (h2 y hy)]
    have : (x.args.map fun y => (inferX (more c ts fs) ent t' y).1) = x.args.map fun y => (inferX c ent t' y).1 := List.map_congr_left fun y hy => by rw [hl y hy]
    rw [this]
    exact rule_more (by rw [← h3]; exact h)
/-- LAW: a larger catalog. -/
theorem weakening {c : Cat} {ts : List Tbl} {fs : List Ftr} {ent : Str} {x : Xpr} (h : (inferTop c ent x).2 = 0) : inferTop (more c ts fs) ent x = inferTop c ent x := by
  obtain ⟨h0, h1⟩ := inferTop_ok h
  rw [inferTop_eq h0, inferTop_eq h0]
  exact weak_X _ none x (Nat.le_refl _) h1
theorem sameT_ok {a b : Typ} : (sameT a b).2 = 0 ↔ a = b := by
  unfold sameT
  constructor
  · intro h
    split at h
    · cases h
    · split at h
      · cases h
      · cases a; cases b; simp_all
  · rintro rfl; simp
theorem featureT_ok {c : Cat} {f : Ftr} : featureT c f = 0 ↔ nameOk f.name = true ∧ nameOk f.entity = true ∧ 0 ≤ f.version ∧ typeOk f.typ = 0 ∧ (inferTop c f.entity f.body).2 = 0 ∧ (inferTop c f.entity f.body).1 = f.typ := by
  unfold featureT
  constructor
  · intro h
    split at h
    · cases h
    · rename_i h1
      simp only [Bool.or_eq_true, Bool.not_eq_true', decide_eq_true_eq, not_or, Bool.not_eq_false] at h1
      split at h
      · exact absurd h ‹_›
      · split at h
        · exact absurd h ‹_›
        · rename_i h2 h3
          exact ⟨h1.1.1, h1.1.2, by omega, by simpa using h2, by simpa using h3, sameT_ok.1 h⟩
  · rintro ⟨h1, h2, h3, h4, h5, h6⟩
    rw [if_neg (by simp [h1, h2]; omega), if_neg (by simp [h4]), if_neg (by simp [h5]), sameT_ok]; exact h6
theorem feature_more {c : Cat} {ts : List Tbl} {fs : List Ftr} {f : Ftr} (h : featureT c f = 0) : featureT (more c ts fs) f = 0 := by
  rw [featureT_ok] at h ⊢
  obtain ⟨h1, h2, h3, h4, h5, h6⟩ := h
  have := weakening (ts := ts) (fs := fs) h5
  exact ⟨h1, h2, h3, h4, by rw [this]; exact h5, by rw [this]; exact h6⟩
/-- An operation on two operands. -/
def binX (op : Str) (x y : Xpr) : Xpr := .mk 7 op [] [] noVal [] 0 noWin [x, y]
theorem proper_bin (op : Str) (x y : Xpr) : properX (binX op x y) false = (hasS names2 op && (properX x false && properX y false)) := by
  rw [properX_eq]
  have h1 : headOk (binX op x y) false = hasS names2 op := rfl
  have h2 : bareOk (binX op x y) = true := by simp [bareOk, bareEq, wantX, binX, Xpr.kind, Xpr.op, Xpr.name, Xpr.table, Xpr.val, Xpr.unit, Xpr.param, Xpr.win]
  have h3 : decide (((binX op x y).args.length : Int) = manyX (binX op x y).kind) = true := rfl
  have h4 : properXs (binX op x y).args (false || decide ((binX op x y).kind = 5)) = (properX x false && properX y false) := by
    have : (binX op x y).args = [x, y] := rfl
    rw [this, properXs_all]; simp [binX, Xpr.kind]
  rw [h1, h2, h3, h4]
  simp [binX, Xpr.kind]
theorem shape_bin {op op' : Str} {x y : Xpr} (h : hasS names2 op = true) (h' : hasS names2 op' = true) : shapeX (binX op x y) = shapeX (binX op' x y) := by
  unfold shapeX
  rw [proper_bin, proper_bin, h, h']
  have e1 : sizeX (binX op x y) = sizeX (binX op' x y) := rfl
  have e2 : depthX (binX op x y) = depthX (binX op' x y) := rfl
  rw [e1, e2]
theorem infer_bin {c : Cat} {ent : Str} {op : Str} {x y : Xpr} (h : shapeX (binX op x y) = 0) (hx : (inferTop c ent x).2 = 0) (hy : (inferTop c ent y).2 = 0) : inferTop c ent (binX op x y) = ruleBin op (inferTop c ent x).1 (inferTop c ent y).1 := by
  obtain ⟨x0, x1⟩ := inferTop_ok hx
  obtain ⟨y0, y1⟩ := inferTop_ok hy
  rw [inferTop_eq h, inferTop_eq x0, inferTop_eq y0, inferX_eq, inT_not (x := binX op x y) (show (7 : Int) ≠ 5 by decide)]
  have e : (binX op x y).args = [x, y] := rfl
  simp only [e]
  rw [inferXs_ok _ _ _ _ (by intro z hz; simp only [List.mem_cons, List.not_mem_nil, or_false] at hz; rcases hz with rfl | rfl <;> assumption)]
  simp [ruleX, binX, Xpr.kind, Xpr.op]
/-- A literal. -/
def litX (v : Val) (u : List Fac) (of : Str) : Xpr := .mk 1 [] of [] v u 0 noWin []
theorem shape_lit (v : Val) (u : List Fac) (of : Str) : shapeX (litX v u of) = if litOk (litX v u of) = true then 0 else 3 := by
  unfold shapeX
  have h : properX (litX v u of) false = litOk (litX v u of) := by
    rw [properX_eq]
    have h1 : headOk (litX v u of) false = litOk (litX v u of) := rfl
    have h2 : bareOk (litX v u of) = true := by simp [bareOk, bareEq, wantX, litX, Xpr.kind, Xpr.op, Xpr.name, Xpr.table, Xpr.val, Xpr.unit, Xpr.param, Xpr.win]
    rw [h1, h2]
    simp [litX, Xpr.kind, Xpr.args, properXs, manyX]
  have e1 : sizeX (litX v u of) = 1 := rfl
  have e2 : depthX (litX v u of) = 1 := rfl
  rw [h, e1, e2, if_neg (by decide)]
theorem infer_lit {c : Cat} {ent : Str} (v : Val) (u : List Fac) (of : Str) : inferTop c ent (litX v u of) = if litOk (litX v u of) = true then (⟨v.kind, u, of⟩, 0) else (noTyp, 3) := by
  unfold inferTop
  rw [shape_lit]
  by_cases h : litOk (litX v u of) = true
  · rw [if_pos h, if_pos h, if_neg (by decide), inferX_eq, inT_not (x := litX v u of) (show (1 : Int) ≠ 5 by decide)]
    rfl
  · rw [if_neg h, if_neg h, if_pos (by decide)]
/-- An expression that names a feature. -/
def featX (n : Str) : Xpr := .mk 3 [] n [] noVal [] 0 noWin []
theorem infer_feat {c : Cat} {ent n : Str} (h : nameOk n = true) : inferTop c ent (featX n) = namedT c.features n ent := by
  have hs : shapeX (featX n) = 0 := by
    rw [shape_ok]
    refine ⟨show (1 : Nat) ≤ 64 by decide, show (1 : Nat) ≤ 12 by decide, ?_⟩
    rw [properX_eq]
    have h1 : headOk (featX n) false = nameOk n := by simp [headOk, featX, Xpr.kind, Xpr.name]
    have h2 : bareOk (featX n) = true := by simp [bareOk, bareEq, wantX, featX, Xpr.kind, Xpr.op, Xpr.name, Xpr.table, Xpr.val, Xpr.unit, Xpr.param, Xpr.win]
    rw [h1, h2, h]
    simp [featX, Xpr.kind, Xpr.args, properXs, manyX]
  rw [inferTop_eq hs, inferX_eq, inT_not (x := featX n) (show (3 : Int) ≠ 5 by decide)]
  rfl

end Go.Proofs.YtihbaggjjglcbaaGreatDoor
end

section
set_option maxRecDepth 100000
set_option maxHeartbeats 8000000
set_option linter.unusedVariables false
set_option linter.unusedSimpArgs false
namespace Go.Proofs.YtihbaggjjglcbaaGreatDoor
open Go Go.Dl Go.As Go.Proofs
variable {mx : Int}
attribute [local irreducible] callG callL MC W W2 evT ev evD step stepD

/-! What is read, as the program's own data. -/
theorem RdF.cons {H : Type} {P : Program} {m : Nat} {t : TypeId} {ts : List TypeId} {l : List (DataW H)} (h : RdF P m (t :: ts) l) : ∃ d r, l = d :: r ∧ Rd P m t d ∧ RdF P m ts r := by
  cases l with
  | nil => exact h.elim
  | cons d r => exact ⟨d, r, rfl, h.1, h.2⟩
theorem RdF.nil {H : Type} {P : Program} {m : Nat} {l : List (DataW H)} (h : RdF P m [] l) : l = [] := by
  cases l with
  | nil => rfl
  | cons d r => exact h.elim
def bFld (f : Fld) : Nat := f.name.length + bTyp f.typ + 1
def bTbl (t : Tbl) : Nat := t.name.length + t.entity.length + bSum bFld t.fields + 1
def bFtr (f : Ftr) : Nat := f.name.length + f.entity.length + bTyp f.typ + bX f.body + 1
def bCat (c : Cat) : Nat := bSum bTbl c.tables + bSum bFtr c.features + bSum bFtr c.drafts + bSum bFtr c.past + 1
section
variable {H : Type} {n : Nat} {d : DataW H}
theorem fac_rd (h : Rd Tryz.prog n 52 d) : ∃ x : Fac, flatD d = eFac x ∧ bFac x ≤ bulkD d ∧ True := by
  obtain ⟨parts, m, hm, rfl, hp⟩ := h.struct Tryz.underlying52
  obtain ⟨d1, r1, rfl, h1, hp⟩ := RdF.cons hp
  obtain ⟨d2, r2, rfl, h2, hp⟩ := RdF.cons hp
  obtain rfl := RdF.nil hp
  obtain ⟨a1, rfl⟩ := h1.str (by kernel_rfl)
  obtain ⟨a2, rfl, _⟩ := h2.int (k := .i64) (by kernel_rfl)
  exact ⟨⟨a1, a2⟩, rfl, by simp only [bulkD, bulkL, bFac]; omega, trivial⟩
theorem val_rd (h : Rd Tryz.prog n 27 d) : ∃ x : Val, flatD d = eVal x ∧ bVal x ≤ bulkD d ∧ True := by
  obtain ⟨parts, m, hm, rfl, hp⟩ := h.struct Tryz.underlying27
  obtain ⟨d1, r1, rfl, h1, hp⟩ := RdF.cons hp
  obtain ⟨d2, r2, rfl, h2, hp⟩ := RdF.cons hp
  obtain ⟨d3, r3, rfl, h3, hp⟩ := RdF.cons hp
  obtain rfl := RdF.nil hp
  obtain ⟨a1, rfl, _⟩ := h1.int (k := .i64) (by kernel_rfl)
  obtain ⟨a2, rfl, _⟩ := h2.int (k := .i64) (by kernel_rfl)
  obtain ⟨a3, rfl⟩ := h3.str (by kernel_rfl)
  exact ⟨⟨a1, a2, a3⟩, rfl, by simp only [bulkD, bulkL, bVal]; omega, trivial⟩
theorem win_rd (h : Rd Tryz.prog n 30 d) : ∃ x : Win, flatD d = eWin x ∧ True := by
  obtain ⟨parts, m, hm, rfl, hp⟩ := h.struct Tryz.underlying30
  obtain ⟨d1, r1, rfl, h1, hp⟩ := RdF.cons hp
  obtain ⟨d2, r2, rfl, h2, hp⟩ := RdF.cons hp
  obtain rfl := RdF.nil hp
  obtain ⟨a1, rfl, _⟩ := h1.int (k := .i64) (by kernel_rfl)
  obtain ⟨a2, rfl, _⟩ := h2.int (k := .i64) (by kernel_rfl)
  exact ⟨⟨a1, a2⟩, rfl, trivial⟩
theorem facs_rd (h : Rd Tryz.prog n 28 d) : ∃ xs : List Fac, flatD d = [.sl (xs.map eFac)] ∧ bSum bFac xs + 1 ≤ bulkD d ∧ ∀ x ∈ xs, True :=
  h.list (f := eFac) (b := bFac) (bs := bSum bFac) rfl (fun _ _ => rfl) Tryz.underlying28 fun m y _ hy => fac_rd hy
theorem typ_rd (h : Rd Tryz.prog n 36 d) : ∃ x : Typ, flatD d = eTyp x ∧ bTyp x ≤ bulkD d ∧ True := by
  obtain ⟨parts, m, hm, rfl, hp⟩ := h.struct Tryz.underlying36
  obtain ⟨d1, r1, rfl, h1, hp⟩ := RdF.cons hp
  obtain ⟨d2, r2, rfl, h2, hp⟩ := RdF.cons hp
  obtain ⟨d3, r3, rfl, h3, hp⟩ := RdF.cons hp
  obtain rfl := RdF.nil hp
  obtain ⟨a1, rfl, _⟩ := h1.int (k := .i64) (by kernel_rfl)
  obtain ⟨a2, e2, b2, _⟩ := facs_rd h2
  obtain ⟨a3, rfl⟩ := h3.str (by kernel_rfl)
  exact ⟨⟨a1, a2, a3⟩, by simp only [flatD, flatA, e2]; rfl, by simp only [bulkD, bulkL, bTyp] at b2 ⊢; omega, trivial⟩
theorem expr_rd : ∀ (n : Nat) (d : DataW H), Rd Tryz.prog n 33 d → ∃ x : Xpr, flatD d = eE x ∧ bX x ≤ bulkD d ∧ True := by
  intro n
  induction n using Nat.strongRecOn with
  | ind n ih =>
  intro d h
  obtain ⟨parts, m, hm, rfl, hp⟩ := h.struct Tryz.underlying33
  obtain ⟨d1, r1, rfl, h1, hp⟩ := RdF.cons hp
  obtain ⟨d2, r2, rfl, h2, hp⟩ := RdF.cons hp
  obtain ⟨d3, r3, rfl, h3, hp⟩ := RdF.cons hp
  obtain ⟨d4, r4, rfl, h4, hp⟩ := RdF.cons hp
  obtain ⟨d5, r5, rfl, h5, hp⟩ := RdF.cons hp
  obtain ⟨d6, r6, rfl, h6, hp⟩ := RdF.cons hp
  obtain ⟨d7, r7, rfl, h7, hp⟩ := RdF.cons hp
  obtain ⟨d8, r8, rfl, h8, hp⟩ := RdF.cons hp
  obtain ⟨d9, r9, rfl, h9, hp⟩ := RdF.cons hp
  obtain rfl := RdF.nil hp
  obtain ⟨a1, rfl, _⟩ := h1.int (k := .i64) (by kernel_rfl)
  obtain ⟨a2, rfl⟩ := h2.str (by kernel_rfl)
  obtain ⟨a3, rfl⟩ := h3.str (by kernel_rfl)
  obtain ⟨a4, rfl⟩ := h4.str (by kernel_rfl)
  obtain ⟨a5, e5, b5, _⟩ := val_rd h5
  obtain ⟨a6, e6, b6, _⟩ := facs_rd h6
  obtain ⟨a7, rfl, _⟩ := h7.int (k := .i64) (by kernel_rfl)
  obtain ⟨a8, e8, _⟩ := win_rd h8
  obtain ⟨a9, e9, b9, _⟩ := h9.list (f := eE) (b := bX) (bs := bSum bX) (Q := fun _ => True) rfl (fun _ _ => rfl) Tryz.underlying31 fun k y hk hy => ih k (by omega) y hy
  refine ⟨.mk a1 a2 a3 a4 a5 a6 a7 a8 a9, ?_, ?_, trivial⟩
  · rw [eE_eq]; simp only [flatD, flatA, e5, e6, e8, e9]; rfl
  · rw [bX_eq]; simp only [bulkD, bulkL, Xpr.op, Xpr.name, Xpr.table, Xpr.val, Xpr.unit, Xpr.args] at *; omega
theorem fld_rd (h : Rd Tryz.prog n 84 d) : ∃ x : Fld, flatD d = eFld x ∧ bFld x ≤ bulkD d ∧ True := by
  obtain ⟨parts, m, hm, rfl, hp⟩ := h.struct Tryz.underlying84
  obtain ⟨d1, r1, rfl, h1, hp⟩ := RdF.cons hp
  obtain ⟨d2, r2, rfl, h2, hp⟩ := RdF.cons hp
  obtain rfl := RdF.nil hp
  obtain ⟨a1, rfl⟩ := h1.str (by kernel_rfl)
  obtain ⟨a2, e2, b2, _⟩ := typ_rd h2
  exact ⟨⟨a1, a2⟩, by simp only [flatD, flatA, e2]; rfl, by simp only [bulkD, bulkL, bFld] at b2 ⊢; omega, trivial⟩
theorem tbl_rd (h : Rd Tryz.prog n 64 d) : ∃ x : Tbl, flatD d = eTbl x ∧ bTbl x ≤ bulkD d ∧ True := by
  obtain ⟨parts, m, hm, rfl, hp⟩ := h.struct Tryz.underlying64
  obtain ⟨d1, r1, rfl, h1, hp⟩ := RdF.cons hp
  obtain ⟨d2, r2, rfl, h2, hp⟩ := RdF.cons hp
  obtain ⟨d3, r3, rfl, h3, hp⟩ := RdF.cons hp
  obtain ⟨d4, r4, rfl, h4, hp⟩ := RdF.cons hp
  obtain rfl := RdF.nil hp
  obtain ⟨a1, rfl⟩ := h1.str (by kernel_rfl)
  obtain ⟨a2, rfl⟩ := h2.str (by kernel_rfl)
  obtain ⟨a3, e3, b3, _⟩ := h3.list (f := eFld) (b := bFld) (bs := bSum bFld) (Q := fun _ => True) rfl (fun _ _ => rfl) Tryz.underlying62 fun m y _ hy => fld_rd hy
  obtain ⟨a4, rfl, _⟩ := h4.int (k := .i64) (by kernel_rfl)
  exact ⟨⟨a1, a2, a3, a4⟩, by simp only [flatD, flatA, e3]; rfl, by simp only [bulkD, bulkL, bTbl] at b3 ⊢; omega, trivial⟩
theorem ftr_rd (h : Rd Tryz.prog n 58 d) : ∃ x : Ftr, flatD d = eFtr x ∧ bFtr x ≤ bulkD d ∧ True := by
  obtain ⟨parts, m, hm, rfl, hp⟩ := h.struct Tryz.underlying58
  obtain ⟨d1, r1, rfl, h1, hp⟩ := RdF.cons hp
  obtain ⟨d2, r2, rfl, h2, hp⟩ := RdF.cons hp
  obtain ⟨d3, r3, rfl, h3, hp⟩ := RdF.cons hp
  obtain ⟨d4, r4, rfl, h4, hp⟩ := RdF.cons hp
  obtain ⟨d5, r5, rfl, h5, hp⟩ := RdF.cons hp
  obtain rfl := RdF.nil hp
  obtain ⟨a1, rfl⟩ := h1.str (by kernel_rfl)
  obtain ⟨a2, rfl⟩ := h2.str (by kernel_rfl)
  obtain ⟨a3, e3, b3, _⟩ := typ_rd h3
  obtain ⟨a4, e4, b4, _⟩ := expr_rd _ _ h4
  obtain ⟨a5, rfl, _⟩ := h5.int (k := .i64) (by kernel_rfl)
  exact ⟨⟨a1, a2, a3, a4, a5⟩, by simp only [flatD, flatA, e3, e4, eFtr, List.append_assoc, List.cons_append, List.nil_append, List.append_nil], by simp only [bulkD, bulkL, bFtr] at b3 b4 ⊢; omega, trivial⟩
theorem tbls_rd (h : Rd Tryz.prog n 22 d) : ∃ xs : List Tbl, flatD d = [.sl (xs.map eTbl)] ∧ bSum bTbl xs + 1 ≤ bulkD d ∧ ∀ x ∈ xs, True :=
  h.list (f := eTbl) (b := bTbl) (bs := bSum bTbl) rfl (fun _ _ => rfl) Tryz.underlying22 fun m y _ hy => tbl_rd hy
theorem ftrs_rd (h : Rd Tryz.prog n 23 d) : ∃ xs : List Ftr, flatD d = [.sl (xs.map eFtr)] ∧ bSum bFtr xs + 1 ≤ bulkD d ∧ ∀ x ∈ xs, True :=
  h.list (f := eFtr) (b := bFtr) (bs := bSum bFtr) rfl (fun _ _ => rfl) Tryz.underlying23 fun m y _ hy => ftr_rd hy
theorem cat_rd (h : Rd Tryz.prog n 25 d) : ∃ x : Cat, flatD d = eCat x ∧ bCat x ≤ bulkD d ∧ True := by
  obtain ⟨parts, m, hm, rfl, hp⟩ := h.struct Tryz.underlying25
  obtain ⟨d1, r1, rfl, h1, hp⟩ := RdF.cons hp
  obtain ⟨d2, r2, rfl, h2, hp⟩ := RdF.cons hp
  obtain ⟨d3, r3, rfl, h3, hp⟩ := RdF.cons hp
  obtain ⟨d4, r4, rfl, h4, hp⟩ := RdF.cons hp
  obtain rfl := RdF.nil hp
  obtain ⟨a1, e1, b1, _⟩ := tbls_rd h1
  obtain ⟨a2, e2, b2, _⟩ := ftrs_rd h2
  obtain ⟨a3, e3, b3, _⟩ := ftrs_rd h3
  obtain ⟨a4, e4, b4, _⟩ := ftrs_rd h4
  exact ⟨⟨a1, a2, a3, a4⟩, by simp only [flatD, flatA, e1, e2, e3, e4]; rfl, by simp only [bulkD, bulkL, bCat] at *; omega, trivial⟩
end
theorem bTyp_unit (t : Typ) : t.unit.length ≤ bTyp t := by have := bFac_len t.unit; unfold bTyp; omega

end Go.Proofs.YtihbaggjjglcbaaGreatDoor
end

section
set_option maxRecDepth 100000
set_option maxHeartbeats 8000000
set_option linter.unusedVariables false
set_option linter.unusedSimpArgs false
namespace Go.Proofs.YtihbaggjjglcbaaGreatDoor
open Go Go.Dl Go.As Go.Proofs
variable {mx : Int}
attribute [local irreducible] callG callL MC W W2 evT ev evD step stepD

theorem bFtr_eq (f : Ftr) : bFtr f = f.name.length + f.entity.length + bTyp f.typ + bX f.body + 1 := rfl
theorem bTbl_eq (t : Tbl) : bTbl t = t.name.length + t.entity.length + bSum bFld t.fields + 1 := rfl
theorem bFld_eq (f : Fld) : bFld f = f.name.length + bTyp f.typ + 1 := rfl
theorem bCat_eq (c : Cat) : bCat c = bSum bTbl c.tables + bSum bFtr c.features + bSum bFtr c.drafts + bSum bFtr c.past + 1 := rfl
theorem tbls_len (l : List Tbl) : l.length ≤ bSum bTbl l := bSum_len (fun x => by have := bTbl_eq x; omega) l
theorem ftrs_len (l : List Ftr) : l.length ≤ bSum bFtr l := bSum_len (fun x => by have := bFtr_eq x; omega) l
theorem flds_len (l : List Fld) : l.length ≤ bSum bFld l := bSum_len (fun x => by have := bFld_eq x; omega) l
theorem catB_of {c : Cat} (h : bCat c ≤ 1073741824) : catB c := by
  have h0 := bCat_eq c
  have h1 := tbls_len c.tables
  have h2 := ftrs_len c.features
  refine ⟨by omega, by omega, fun f hf => ?_, fun t ht => ?_⟩
  · have := bSum_mem (b := bFtr) hf
    have := bTyp_unit f.typ
    have := bFtr_eq f
    unfold uB; omega
  · have h3 := bSum_mem (b := bTbl) ht
    have h4 := flds_len t.fields
    have h5 := bTbl_eq t
    refine ⟨by omega, fun f hf => ?_⟩
    have h6 := bSum_mem (b := bFld) hf
    have h7 := bTyp_unit f.typ
    have h8 := bFld_eq f
    unfold uB; omega
def sEur : Str := [101, 117, 114]
def sUser : Str := [117, 115, 101, 114]
def sOrders : Str := [111, 114, 100, 101, 114, 115]
def sAmount : Str := [97, 109, 111, 117, 110, 116]
def sShop : Str := [115, 104, 111, 112]
def sRank : Str := [114, 97, 110, 107]
def sTotal : Str := [116, 111, 116, 97, 108]
def sSum : Str := [115, 117, 109]
def sPayments : Str := [112, 97, 121, 109, 101, 110, 116, 115]
abbrev eurU (e : Int) : List Fac := [⟨sEur, e⟩]
theorem eur_is (e : Int) : Is mx 29 [iI e] (.sl ((eurU e).map eFac)) := by
  refine MC_of_J Tryz.func29 (by kernel_rfl) Tryz.ntmps29 rfl rfl comp29 rv29 rfl c29.eq_1 ?_
  (repeat' first
| exact hole _
| simp (maxSteps := 9999999) (disch := omega) only [go_sem, reduceCtorEq, Int.reduceToNat, Int.reduceNeg, Int.reduceLT, Int.reduceLE, Int.reduceEq, Int.reduceAdd, Int.reduceSub, Int.reduceMul, Nat.reduceAdd, Nat.reduceSub, Nat.reduceMul, Nat.reduceEqDiff, Nat.reduceBEq, Nat.reduceBneDiff, Nat.reduceLeDiff, Nat.reduceLT, reduceIte, R29]
| refine' gdV_sc' rfl rfl (by simp only [V0, V1, Nat.reduceEqDiff, reduceIte]) (fun hq => ?_) (fun f => ?_) <;> try (have hq' := hq; try simp only [HB] at hq')
| refine' gdD_sc' rfl rfl (by simp only [V0, V1, Nat.reduceEqDiff, reduceIte]) (fun hq => ?_) (fun f => ?_) <;> try (have hq' := hq; try simp only [HB] at hq')
| refine gdV_intro (fun h => ?_) (fun h => ?_) <;> (have h' := h; try simp only [HB] at h'; try rewrite [h]; try simp only [h])
| refine condJ_intro (fun h => ?_) (fun h => ?_) <;> (have h' := h; try simp only [HB] at h'; try rewrite [h]; try simp only [h])
| refine pickE_intro (fun h => ?_) (fun h => ?_) <;> (have h' := h; try simp only [HB] at h'; try rewrite [h]; try simp only [h])
| refine gdD_intro (fun h => ?_) (fun h => ?_) <;> (have h' := h; try simp only [HB] at h'; try rewrite [h]; try simp only [h])
| refine ct_I ?_
| refine callG_I ?_ ?_
| refine callG_Iv ?_ ?_
| refine drJ_I (by simp only [R29]; rfl) ?_
| refine ret_I (R := isR _) ?_
| refine nxt_I (fun hr => ?_) (fun q hq => ?_)
| refine isnil_I (fun hnil b => ?_) (fun hnil => ?_)
| (refine And.intro ?_ ?_; focus omega))
  rfl
theorem featureE_is (n : Str) : Is mx 23 [.str n] (.agg (eE (featX n))) := by
  refine MC_of_J Tryz.func23 (by kernel_rfl) Tryz.ntmps23 rfl rfl comp23 rv23 rfl c23.eq_1 ?_
  (repeat' first
| exact hole _
| simp (maxSteps := 9999999) (disch := omega) only [go_sem, reduceCtorEq, Int.reduceToNat, Int.reduceNeg, Int.reduceLT, Int.reduceLE, Int.reduceEq, Int.reduceAdd, Int.reduceSub, Int.reduceMul, Nat.reduceAdd, Nat.reduceSub, Nat.reduceMul, Nat.reduceEqDiff, Nat.reduceBEq, Nat.reduceBneDiff, Nat.reduceLeDiff, Nat.reduceLT, reduceIte, R23]
| refine' gdV_sc' rfl rfl (by simp only [V0, V1, Nat.reduceEqDiff, reduceIte]) (fun hq => ?_) (fun f => ?_) <;> try (have hq' := hq; try simp only [HB] at hq')
| refine' gdD_sc' rfl rfl (by simp only [V0, V1, Nat.reduceEqDiff, reduceIte]) (fun hq => ?_) (fun f => ?_) <;> try (have hq' := hq; try simp only [HB] at hq')
| refine gdV_intro (fun h => ?_) (fun h => ?_) <;> (have h' := h; try simp only [HB] at h'; try rewrite [h]; try simp only [h])
| refine condJ_intro (fun h => ?_) (fun h => ?_) <;> (have h' := h; try simp only [HB] at h'; try rewrite [h]; try simp only [h])
| refine pickE_intro (fun h => ?_) (fun h => ?_) <;> (have h' := h; try simp only [HB] at h'; try rewrite [h]; try simp only [h])
| refine gdD_intro (fun h => ?_) (fun h => ?_) <;> (have h' := h; try simp only [HB] at h'; try rewrite [h]; try simp only [h])
| refine ct_I ?_
| refine callG_I ?_ ?_
| refine callG_Iv ?_ ?_
| refine drJ_I (by simp only [R23]; rfl) ?_
| refine ret_I (R := isR _) ?_
| refine nxt_I (fun hr => ?_) (fun q hq => ?_)
| refine isnil_I (fun hnil b => ?_) (fun hnil => ?_)
| (refine And.intro ?_ ?_; focus omega))
  rfl
abbrev numX (k n : Int) (u : List Fac) : Xpr := litX ⟨k, n, []⟩ u []
theorem numberE_is (k n : Int) (u : List Fac) : Is mx 30 [iI k, iI n, .sl (u.map eFac)] (.agg (eE (numX k n u))) := by
  refine MC_of_J Tryz.func30 (by kernel_rfl) Tryz.ntmps30 rfl rfl comp30 rv30 rfl c30.eq_1 ?_
  (repeat' first
| exact hole _
| simp (maxSteps := 9999999) (disch := omega) only [go_sem, reduceCtorEq, Int.reduceToNat, Int.reduceNeg, Int.reduceLT, Int.reduceLE, Int.reduceEq, Int.reduceAdd, Int.reduceSub, Int.reduceMul, Nat.reduceAdd, Nat.reduceSub, Nat.reduceMul, Nat.reduceEqDiff, Nat.reduceBEq, Nat.reduceBneDiff, Nat.reduceLeDiff, Nat.reduceLT, reduceIte, R30]
| refine' gdV_sc' rfl rfl (by simp only [V0, V1, Nat.reduceEqDiff, reduceIte]) (fun hq => ?_) (fun f => ?_) <;> try (have hq' := hq; try simp only [HB] at hq')
| refine' gdD_sc' rfl rfl (by simp only [V0, V1, Nat.reduceEqDiff, reduceIte]) (fun hq => ?_) (fun f => ?_) <;> try (have hq' := hq; try simp only [HB] at hq')
| refine gdV_intro (fun h => ?_) (fun h => ?_) <;> (have h' := h; try simp only [HB] at h'; try rewrite [h]; try simp only [h])
| refine condJ_intro (fun h => ?_) (fun h => ?_) <;> (have h' := h; try simp only [HB] at h'; try rewrite [h]; try simp only [h])
| refine pickE_intro (fun h => ?_) (fun h => ?_) <;> (have h' := h; try simp only [HB] at h'; try rewrite [h]; try simp only [h])
| refine gdD_intro (fun h => ?_) (fun h => ?_) <;> (have h' := h; try simp only [HB] at h'; try rewrite [h]; try simp only [h])
| refine ct_I ?_
| refine callG_I ?_ ?_
| refine callG_Iv ?_ ?_
| refine drJ_I (by simp only [R30]; rfl) ?_
| refine ret_I (R := isR _) ?_
| refine nxt_I (fun hr => ?_) (fun q hq => ?_)
| refine isnil_I (fun hnil b => ?_) (fun hnil => ?_)
| (refine And.intro ?_ ?_; focus omega))
  rfl
theorem binE_is (op : Str) (x y : Xpr) : Is mx 12 [.str op, .agg (eE x), .agg (eE y)] (.agg (eE (binX op x y))) := by
  refine MC_of_J Tryz.func12 (by kernel_rfl) Tryz.ntmps12 rfl rfl comp12 rv12 rfl c12.eq_1 ?_
  (repeat' first
| exact hole _
| simp (maxSteps := 9999999) (disch := omega) only [go_sem, reduceCtorEq, Int.reduceToNat, Int.reduceNeg, Int.reduceLT, Int.reduceLE, Int.reduceEq, Int.reduceAdd, Int.reduceSub, Int.reduceMul, Nat.reduceAdd, Nat.reduceSub, Nat.reduceMul, Nat.reduceEqDiff, Nat.reduceBEq, Nat.reduceBneDiff, Nat.reduceLeDiff, Nat.reduceLT, reduceIte, R12]
| refine' gdV_sc' rfl rfl (by simp only [V0, V1, Nat.reduceEqDiff, reduceIte]) (fun hq => ?_) (fun f => ?_) <;> try (have hq' := hq; try simp only [HB] at hq')
| refine' gdD_sc' rfl rfl (by simp only [V0, V1, Nat.reduceEqDiff, reduceIte]) (fun hq => ?_) (fun f => ?_) <;> try (have hq' := hq; try simp only [HB] at hq')
| refine gdV_intro (fun h => ?_) (fun h => ?_) <;> (have h' := h; try simp only [HB] at h'; try rewrite [h]; try simp only [h])
| refine condJ_intro (fun h => ?_) (fun h => ?_) <;> (have h' := h; try simp only [HB] at h'; try rewrite [h]; try simp only [h])
| refine pickE_intro (fun h => ?_) (fun h => ?_) <;> (have h' := h; try simp only [HB] at h'; try rewrite [h]; try simp only [h])
| refine gdD_intro (fun h => ?_) (fun h => ?_) <;> (have h' := h; try simp only [HB] at h'; try rewrite [h]; try simp only [h])
| refine ct_I ?_
| refine callG_I ?_ ?_
| refine callG_Iv ?_ ?_
| refine drJ_I (by simp only [R12]; rfl) ?_
| refine ret_I (R := isR _) ?_
| refine nxt_I (fun hr => ?_) (fun q hq => ?_)
| refine isnil_I (fun hnil b => ?_) (fun hnil => ?_)
| (refine And.intro ?_ ?_; focus omega))
  rfl
theorem trueE_is : Is mx 51 [] (.agg (eE trueX)) := by
  refine MC_of_J Tryz.func51 (by kernel_rfl) Tryz.ntmps51 rfl rfl comp51 rv51 rfl c51.eq_1 ?_
  (repeat' first
| exact hole _
| simp (maxSteps := 9999999) (disch := omega) only [go_sem, reduceCtorEq, Int.reduceToNat, Int.reduceNeg, Int.reduceLT, Int.reduceLE, Int.reduceEq, Int.reduceAdd, Int.reduceSub, Int.reduceMul, Nat.reduceAdd, Nat.reduceSub, Nat.reduceMul, Nat.reduceEqDiff, Nat.reduceBEq, Nat.reduceBneDiff, Nat.reduceLeDiff, Nat.reduceLT, reduceIte, R51]
| refine' gdV_sc' rfl rfl (by simp only [V0, V1, Nat.reduceEqDiff, reduceIte]) (fun hq => ?_) (fun f => ?_) <;> try (have hq' := hq; try simp only [HB] at hq')
| refine' gdD_sc' rfl rfl (by simp only [V0, V1, Nat.reduceEqDiff, reduceIte]) (fun hq => ?_) (fun f => ?_) <;> try (have hq' := hq; try simp only [HB] at hq')
| refine gdV_intro (fun h => ?_) (fun h => ?_) <;> (have h' := h; try simp only [HB] at h'; try rewrite [h]; try simp only [h])
| refine condJ_intro (fun h => ?_) (fun h => ?_) <;> (have h' := h; try simp only [HB] at h'; try rewrite [h]; try simp only [h])
| refine pickE_intro (fun h => ?_) (fun h => ?_) <;> (have h' := h; try simp only [HB] at h'; try rewrite [h]; try simp only [h])
| refine gdD_intro (fun h => ?_) (fun h => ?_) <;> (have h' := h; try simp only [HB] at h'; try rewrite [h]; try simp only [h])
| refine ct_I ?_
| refine callG_I ?_ ?_
| refine callG_Iv ?_ ?_
| refine drJ_I (by simp only [R51]; rfl) ?_
| refine ret_I (R := isR _) ?_
| refine nxt_I (fun hr => ?_) (fun q hq => ?_)
| refine isnil_I (fun hnil b => ?_) (fun hnil => ?_)
| (refine And.intro ?_ ?_; focus omega))
  rfl
def overX (op tb f : Str) : Xpr := .mk 5 op [] tb noVal [] 0 ⟨1, 0⟩ [.mk 2 [] f [] noVal [] 0 noWin [], trueX]
theorem overE_is (op tb f : Str) : Is mx 28 [.str op, .str tb, .str f] (.agg (eE (overX op tb f))) := by
  refine MC_of_J Tryz.func28 (by kernel_rfl) Tryz.ntmps28 rfl rfl comp28 rv28 rfl c28.eq_1 ?_
  (repeat' first
| exact hole _
| simp (maxSteps := 9999999) (disch := omega) only [go_sem, reduceCtorEq, Int.reduceToNat, Int.reduceNeg, Int.reduceLT, Int.reduceLE, Int.reduceEq, Int.reduceAdd, Int.reduceSub, Int.reduceMul, Nat.reduceAdd, Nat.reduceSub, Nat.reduceMul, Nat.reduceEqDiff, Nat.reduceBEq, Nat.reduceBneDiff, Nat.reduceLeDiff, Nat.reduceLT, reduceIte, R28]
| refine' gdV_sc' rfl rfl (by simp only [V0, V1, Nat.reduceEqDiff, reduceIte]) (fun hq => ?_) (fun f => ?_) <;> try (have hq' := hq; try simp only [HB] at hq')
| refine' gdD_sc' rfl rfl (by simp only [V0, V1, Nat.reduceEqDiff, reduceIte]) (fun hq => ?_) (fun f => ?_) <;> try (have hq' := hq; try simp only [HB] at hq')
| refine gdV_intro (fun h => ?_) (fun h => ?_) <;> (have h' := h; try simp only [HB] at h'; try rewrite [h]; try simp only [h])
| refine condJ_intro (fun h => ?_) (fun h => ?_) <;> (have h' := h; try simp only [HB] at h'; try rewrite [h]; try simp only [h])
| refine pickE_intro (fun h => ?_) (fun h => ?_) <;> (have h' := h; try simp only [HB] at h'; try rewrite [h]; try simp only [h])
| refine gdD_intro (fun h => ?_) (fun h => ?_) <;> (have h' := h; try simp only [HB] at h'; try rewrite [h]; try simp only [h])
| refine callL_of (trueE_is) ?_
| refine ct_I ?_
| refine callG_I ?_ ?_
| refine callG_Iv ?_ ?_
| refine drJ_I (by simp only [R28]; rfl) ?_
| refine ret_I (R := isR _) ?_
| refine nxt_I (fun hr => ?_) (fun q hq => ?_)
| refine isnil_I (fun hnil b => ?_) (fun hnil => ?_)
| (refine And.intro ?_ ?_; focus omega))
  rfl
def rankF : Ftr := ⟨sRank, sShop, ⟨2, [], []⟩, numX 2 1 [], 1⟩
def totalF : Ftr := ⟨sTotal, sUser, ⟨3, eurU 1, []⟩, overX sSum sOrders sAmount, 1⟩
def ordersT : Tbl := ⟨sOrders, sUser, [⟨sAmount, ⟨3, eurU 1, []⟩⟩, ⟨sShop, ⟨5, [], sShop⟩⟩], 0⟩
def shopC : Cat := ⟨[ordersT], [rankF, totalF], [], []⟩
abbrev xCells (k : Int) (o n t : Str) (vk vn : Int) (u : I) (wk : Int) (a : I) : List I := [.int .i64 k, .str o, .str n, .str t, .int .i64 vk, .int .i64 vn, .str [], u, .int .i64 0, .int .i64 wk, .int .i64 0, a]
theorem eE_num (k n : Int) (u : List Fac) : eE (numX k n u) = xCells 1 [] [] [] k n (.sl (u.map eFac)) 0 (.sl []) := rfl
theorem eE_over (op tb f : Str) : eE (overX op tb f) = xCells 5 op [] tb 0 0 (.sl []) 1 (.sl [xCells 2 [] f [] 0 0 (.sl []) 0 (.sl []), xCells 1 [] [] [] 1 1 (.sl []) 0 (.sl [])]) := rfl
theorem shop_is : Is mx 50 [] (.agg (eCat shopC)) := by
  have hN := numberE_is (mx := mx) 2 1 []
  simp only [List.map_nil, eE_num] at hN
  have hO := overE_is (mx := mx) sSum sOrders sAmount
  simp only [eE_over] at hO
  have hE := eur_is (mx := mx) 1
  refine MC_of_J Tryz.func50 (by kernel_rfl) Tryz.ntmps50 rfl rfl comp50 rv50 rfl c50.eq_1 ?_
  (repeat' first
| exact hole _
| simp (maxSteps := 9999999) (disch := omega) only [go_sem, reduceCtorEq, Int.reduceToNat, Int.reduceNeg, Int.reduceLT, Int.reduceLE, Int.reduceEq, Int.reduceAdd, Int.reduceSub, Int.reduceMul, Nat.reduceAdd, Nat.reduceSub, Nat.reduceMul, Nat.reduceEqDiff, Nat.reduceBEq, Nat.reduceBneDiff, Nat.reduceLeDiff, Nat.reduceLT, reduceIte, R50]
| refine' gdV_sc' rfl rfl (by simp only [V0, V1, Nat.reduceEqDiff, reduceIte]) (fun hq => ?_) (fun f => ?_) <;> try (have hq' := hq; try simp only [HB] at hq')
| refine' gdD_sc' rfl rfl (by simp only [V0, V1, Nat.reduceEqDiff, reduceIte]) (fun hq => ?_) (fun f => ?_) <;> try (have hq' := hq; try simp only [HB] at hq')
| refine gdV_intro (fun h => ?_) (fun h => ?_) <;> (have h' := h; try simp only [HB] at h'; try rewrite [h]; try simp only [h])
| refine condJ_intro (fun h => ?_) (fun h => ?_) <;> (have h' := h; try simp only [HB] at h'; try rewrite [h]; try simp only [h])
| refine pickE_intro (fun h => ?_) (fun h => ?_) <;> (have h' := h; try simp only [HB] at h'; try rewrite [h]; try simp only [h])
| refine gdD_intro (fun h => ?_) (fun h => ?_) <;> (have h' := h; try simp only [HB] at h'; try rewrite [h]; try simp only [h])
| refine callL_of (hE) ?_
| refine callL_of (hN) ?_
| refine callL_of (hO) ?_
| refine ct_I ?_
| refine callG_I ?_ ?_
| refine callG_Iv ?_ ?_
| refine drJ_I (by simp only [R50]; rfl) ?_
| refine ret_I (R := isR _) ?_
| refine nxt_I (fun hr => ?_) (fun q hq => ?_)
| refine isnil_I (fun hnil b => ?_) (fun hnil => ?_)
| (refine And.intro ?_ ?_; focus omega))
  rfl
def hasX (x : Xpr) (kind : Int) (unit : List Fac) (e : Int) : Bool := decide ((inferTop shopC sUser x).2 = e) && (decide (e ≠ 0) || decide ((inferTop shopC sUser x).1 = ⟨kind, unit, []⟩))
theorem shopB : catB shopC := catB_of (by decide)
theorem has_is (x : Xpr) (kind : Int) (unit : List Fac) (e : Int) (hx : bX x ≤ 1073741824) (hu : unit.length ≤ 1073741824) : Is mx 27 [.agg (eE x), iI kind, .sl (unit.map eFac), iI e] (.bool (hasX x kind unit e)) := by
  have hI := Infer_is (mx := mx) shopC sUser x shopB hx
  have hB := inferTop_uB shopB (ent := sUser) hx
  simp only [eRes] at hI
  have hq : ∀ r : Typ, r = (inferTop shopC sUser x).1 → Is mx 14 [.agg (eTyp r), .agg (eTyp ⟨kind, unit, []⟩)] (.bool (decide (r = ⟨kind, unit, []⟩))) := fun r hr => SameType_is r _ (by rw [hr]; exact hB) hu
  have hS := hq _ rfl
  unfold hasX
  generalize inferTop shopC sUser x = r at hI hS ⊢
  refine MC_of_J Tryz.func27 (by kernel_rfl) Tryz.ntmps27 rfl rfl comp27 rv27 rfl c27.eq_1 ?_
  (repeat' first
| exact hole _
| simp (maxSteps := 9999999) (disch := omega) only [go_sem, reduceCtorEq, Int.reduceToNat, Int.reduceNeg, Int.reduceLT, Int.reduceLE, Int.reduceEq, Int.reduceAdd, Int.reduceSub, Int.reduceMul, Nat.reduceAdd, Nat.reduceSub, Nat.reduceMul, Nat.reduceEqDiff, Nat.reduceBEq, Nat.reduceBneDiff, Nat.reduceLeDiff, Nat.reduceLT, reduceIte, R27]
| refine' gdV_sc' rfl rfl (by simp only [V0, V1, Nat.reduceEqDiff, reduceIte]) (fun hq => ?_) (fun f => ?_) <;> try (have hq' := hq; try simp only [HB] at hq')
| refine' gdD_sc' rfl rfl (by simp only [V0, V1, Nat.reduceEqDiff, reduceIte]) (fun hq => ?_) (fun f => ?_) <;> try (have hq' := hq; try simp only [HB] at hq')
| refine gdV_intro (fun h => ?_) (fun h => ?_) <;> (have h' := h; try simp only [HB] at h'; try rewrite [h]; try simp only [h])
| refine condJ_intro (fun h => ?_) (fun h => ?_) <;> (have h' := h; try simp only [HB] at h'; try rewrite [h]; try simp only [h])
| refine pickE_intro (fun h => ?_) (fun h => ?_) <;> (have h' := h; try simp only [HB] at h'; try rewrite [h]; try simp only [h])
| refine gdD_intro (fun h => ?_) (fun h => ?_) <;> (have h' := h; try simp only [HB] at h'; try rewrite [h]; try simp only [h])
| refine callL_of (shop_is) ?_
| refine callL_of (hI) ?_
| refine callL_of (hS) ?_
| refine ct_I ?_
| refine callG_I ?_ ?_
| refine callG_Iv ?_ ?_
| refine drJ_I (by simp only [R27]; rfl) ?_
| refine ret_I (R := isR _) ?_
| refine nxt_I (fun hr => ?_) (fun q hq => ?_)
| refine isnil_I (fun hnil b => ?_) (fun hnil => ?_)
| (refine And.intro ?_ ?_; focus omega))

end Go.Proofs.YtihbaggjjglcbaaGreatDoor
end

section
set_option maxRecDepth 100000
set_option maxHeartbeats 8000000
set_option linter.unusedVariables false
set_option linter.unusedSimpArgs false
namespace Go.Proofs.YtihbaggjjglcbaaGreatDoor
open Go Go.Dl Go.As Go.Proofs
variable {mx : Int}
attribute [local irreducible] callG callL MC W W2 evT ev evD step stepD

def sMeanX : Str := sMean
def lookX : Xpr := .mk 4 [] sRank [] noVal [] 0 noWin [overX sLast sOrders sShop]
def nullX : Xpr := .mk 6 sNull [] [] noVal [] 0 noWin [featX sTotal]
def choiceX : Xpr := .mk 8 [] [] [] noVal [] 0 noWin [binX [60] (featX sTotal) (numX 3 1000000 (eurU 1)), numX 2 1 [], nullX]
theorem ex1 : hasX (overX sSum sOrders sAmount) 3 (eurU 1) 0 = true := by decide +kernel
theorem ex2 : hasX (binX [47] (featX sTotal) (numX 2 2 [])) 3 (eurU 1) 0 = true := by decide +kernel
theorem ex3 : hasX (binX [42] (featX sTotal) (featX sTotal)) 3 (eurU 2) 0 = true := by decide +kernel
theorem ex4 : hasX (binX [43] (featX sTotal) (numX 2 1 [])) 0 [] 70 = true := by decide +kernel
theorem ex5 : hasX (featX sRank) 0 [] 5 = true := by decide +kernel
theorem ex6 : hasX (overX sMean sOrders sShop) 0 [] 5 = true := by decide +kernel
theorem ex7 : hasX (overX sSum sPayments sAmount) 0 [] 4 = true := by decide +kernel
theorem ex8 : hasX lookX 2 [] 0 = true := by decide +kernel
theorem ex9 : hasX choiceX 0 [] 5 = true := by decide +kernel
theorem ex10 : sizeX choiceX = 7 ∧ depthX choiceX = 3 := by decide +kernel
abbrev featCells (n : Str) : List I := [.int .i64 3, .str [], .str n, .str [], .int .i64 0, .int .i64 0, .str [], .sl [], .int .i64 0, .int .i64 0, .int .i64 0, .sl []]
theorem eE_feat (n : Str) : eE (featX n) = featCells n := rfl
theorem eE_bin (op : Str) (x y : Xpr) : eE (binX op x y) = xCells 7 op [] [] 0 0 (.sl []) 0 (.sl [eE x, eE y]) := rfl
theorem eE_look : eE lookX = xCells 4 [] sRank [] 0 0 (.sl []) 0 (.sl [xCells 5 sLast [] sOrders 0 0 (.sl []) 1 (.sl [xCells 2 [] sShop [] 0 0 (.sl []) 0 (.sl []), xCells 1 [] [] [] 1 1 (.sl []) 0 (.sl [])])]) := rfl
theorem eE_choice : eE choiceX = xCells 8 [] [] [] 0 0 (.sl []) 0 (.sl [xCells 7 [60] [] [] 0 0 (.sl []) 0 (.sl [featCells sTotal, xCells 1 [] [] [] 3 1000000 (.sl ((eurU 1).map eFac)) 0 (.sl [])]), xCells 1 [] [] [] 2 1 (.sl []) 0 (.sl []),
    xCells 6 sNull [] [] 0 0 (.sl []) 0 (.sl [featCells sTotal])]) := rfl
theorem example_is : Is mx 8 [] (.bool true) := by
  have hF := featureE_is (mx := mx) sTotal
  have hR := featureE_is (mx := mx) sRank
  have hO1 := overE_is (mx := mx) sSum sOrders sAmount
  have hO2 := overE_is (mx := mx) sMean sOrders sShop
  have hO3 := overE_is (mx := mx) sSum sPayments sAmount
  have hO4 := overE_is (mx := mx) sLast sOrders sShop
  have hN2 := numberE_is (mx := mx) 2 2 []
  have hN1 := numberE_is (mx := mx) 2 1 []
  have hNm := numberE_is (mx := mx) 3 1000000 (eurU 1)
  have hB2 := binE_is (mx := mx) [47] (featX sTotal) (numX 2 2 [])
  have hB3 := binE_is (mx := mx) [42] (featX sTotal) (featX sTotal)
  have hB4 := binE_is (mx := mx) [43] (featX sTotal) (numX 2 1 [])
  have hBc := binE_is (mx := mx) [60] (featX sTotal) (numX 3 1000000 (eurU 1))
  have h1 := has_is (mx := mx) (overX sSum sOrders sAmount) 3 (eurU 1) 0 (by decide +kernel) (by decide)
  have h2 := has_is (mx := mx) (binX [47] (featX sTotal) (numX 2 2 [])) 3 (eurU 1) 0 (by decide +kernel) (by decide)
  have h3 := has_is (mx := mx) (binX [42] (featX sTotal) (featX sTotal)) 3 (eurU 2) 0 (by decide +kernel) (by decide)
  have h4 := has_is (mx := mx) (binX [43] (featX sTotal) (numX 2 1 [])) 0 [] 70 (by decide +kernel) (by decide)
  have h5 := has_is (mx := mx) (featX sRank) 0 [] 5 (by decide +kernel) (by decide)
  have h6 := has_is (mx := mx) (overX sMean sOrders sShop) 0 [] 5 (by decide +kernel) (by decide)
  have h7 := has_is (mx := mx) (overX sSum sPayments sAmount) 0 [] 4 (by decide +kernel) (by decide)
  have h8 := has_is (mx := mx) lookX 2 [] 0 (by decide +kernel) (by decide)
  have h9 := has_is (mx := mx) choiceX 0 [] 5 (by decide +kernel) (by decide)
  have hS := Size_is (mx := mx) _ choiceX (Nat.le_refl _) (by rw [ex10.1]; decide)
  have hD := Depth_is (mx := mx) _ choiceX (Nat.le_refl _) (by rw [ex10.1]; decide)
  rw [ex1] at h1; rw [ex2] at h2; rw [ex3] at h3; rw [ex4] at h4; rw [ex5] at h5; rw [ex6] at h6; rw [ex7] at h7; rw [ex8] at h8; rw [ex9] at h9
  rw [ex10.1] at hS; rw [ex10.2] at hD
  have hE1 := eur_is (mx := mx) 1
  have hE2 := eur_is (mx := mx) 2
  simp only [List.map_nil, eE_feat, eE_num, eE_over, eE_bin, eE_look, eE_choice] at hF hR hO1 hO2 hO3 hO4 hN2 hN1 hNm hB2 hB3 hB4 hBc h1 h2 h3 h4 h5 h6 h7 h8 h9 hS hD
  refine MC_of_J Tryz.func8 (by kernel_rfl) Tryz.ntmps8 rfl rfl comp8 rv8 rfl c8.eq_1 ?_
  (repeat' first
| exact hole _
| simp (maxSteps := 9999999) (disch := omega) only [go_sem, reduceCtorEq, Int.reduceToNat, Int.reduceNeg, Int.reduceLT, Int.reduceLE, Int.reduceEq, Int.reduceAdd, Int.reduceSub, Int.reduceMul, Nat.reduceAdd, Nat.reduceSub, Nat.reduceMul, Nat.reduceEqDiff, Nat.reduceBEq, Nat.reduceBneDiff, Nat.reduceLeDiff, Nat.reduceLT, reduceIte, R8, xCells]
| refine' gdV_sc' rfl rfl (by simp only [V0, V1, Nat.reduceEqDiff, reduceIte]) (fun hq => ?_) (fun f => ?_) <;> try (have hq' := hq; try simp only [HB] at hq')
| refine' gdD_sc' rfl rfl (by simp only [V0, V1, Nat.reduceEqDiff, reduceIte]) (fun hq => ?_) (fun f => ?_) <;> try (have hq' := hq; try simp only [HB] at hq')
| refine gdV_intro (fun h => ?_) (fun h => ?_) <;> (have h' := h; try simp only [HB] at h'; try rewrite [h]; try simp only [h])
| refine condJ_intro (fun h => ?_) (fun h => ?_) <;> (have h' := h; try simp only [HB] at h'; try rewrite [h]; try simp only [h])
| refine pickE_intro (fun h => ?_) (fun h => ?_) <;> (have h' := h; try simp only [HB] at h'; try rewrite [h]; try simp only [h])
| refine gdD_intro (fun h => ?_) (fun h => ?_) <;> (have h' := h; try simp only [HB] at h'; try rewrite [h]; try simp only [h])
| refine callL_of (hF) ?_
| refine callL_of (hR) ?_
| refine callL_of (hE1) ?_
| refine callL_of (hE2) ?_
| refine callL_of (hO1) ?_
| refine callL_of (hO2) ?_
| refine callL_of (hO3) ?_
| refine callL_of (hO4) ?_
| refine callL_of (hN2) ?_
| refine callL_of (hN1) ?_
| refine callL_of (hNm) ?_
| refine callL_of (hB2) ?_
| refine callL_of (hB3) ?_
| refine callL_of (hB4) ?_
| refine callL_of (hBc) ?_
| refine callL_of (h1) ?_
| refine callL_of (h2) ?_
| refine callL_of (h3) ?_
| refine callL_of (h4) ?_
| refine callL_of (h5) ?_
| refine callL_of (h6) ?_
| refine callL_of (h7) ?_
| refine callL_of (h8) ?_
| refine callL_of (h9) ?_
| refine callL_of (hS) ?_
| refine callL_of (hD) ?_
| refine ct_I ?_
| refine callG_I ?_ ?_
| refine callG_Iv ?_ ?_
| refine drJ_I (by simp only [R8]; rfl) ?_
| refine ret_I (R := isR _) ?_
| refine nxt_I (fun hr => ?_) (fun q hq => ?_)
| refine isnil_I (fun hnil b => ?_) (fun hnil => ?_)
| (refine And.intro ?_ ?_; focus omega))
  rfl
theorem bSum_append {α : Type} (b : α → Nat) : ∀ l r : List α, bSum b (l ++ r) = bSum b l + bSum b r
  | [], r => by simp [bSum]
  | x :: l, r => by simp only [List.cons_append, bSum, bSum_append b l r]; omega

end Go.Proofs.YtihbaggjjglcbaaGreatDoor
end

section
set_option maxRecDepth 100000
set_option maxHeartbeats 8000000
set_option linter.unusedVariables false
set_option linter.unusedSimpArgs false
namespace Go.Proofs.YtihbaggjjglcbaaGreatDoor
open Go Go.Dl Go.As Go.Proofs
variable {mx : Int}
attribute [local irreducible] callG callL MC W W2 evT ev evD step stepD

theorem Feature_is (c : Cat) (ft : Ftr) (hc : catB c) (hf : uB ft.typ) (hx : bX ft.body ≤ 1073741824) : Is mx 22 [.agg (eCat c), .agg (eFtr ft)] (iI (featureT c ft)) := by
  refine MC_of_J Tryz.func22 (by kernel_rfl) Tryz.ntmps22 rfl rfl comp22 rv22 rfl c22.eq_1 ?_
  have hu := inferTop_uB hc (ent := ft.entity) hx
  (repeat' first
| exact hole _
| simp (maxSteps := 9999999) (disch := omega) only [go_sem, reduceCtorEq, Int.reduceToNat, Int.reduceNeg, Int.reduceLT, Int.reduceLE, Int.reduceEq, Int.reduceAdd, Int.reduceSub, Int.reduceMul, Nat.reduceAdd, Nat.reduceSub, Nat.reduceMul, Nat.reduceEqDiff, Nat.reduceBEq, Nat.reduceBneDiff, Nat.reduceLeDiff, Nat.reduceLT, reduceIte, R22, eRes]
| refine' gdV_sc' rfl rfl (by simp only [V0, V1, Nat.reduceEqDiff, reduceIte]) (fun hq => ?_) (fun f => ?_) <;> try (have hq' := hq; try simp only [HB] at hq')
| refine' gdD_sc' rfl rfl (by simp only [V0, V1, Nat.reduceEqDiff, reduceIte]) (fun hq => ?_) (fun f => ?_) <;> try (have hq' := hq; try simp only [HB] at hq')
| refine gdV_intro (fun h => ?_) (fun h => ?_) <;> (have h' := h; try simp only [HB] at h'; try rewrite [h]; try simp only [h])
| refine condJ_intro (fun h => ?_) (fun h => ?_) <;> (have h' := h; try simp only [HB] at h'; try rewrite [h]; try simp only [h])
| refine pickE_intro (fun h => ?_) (fun h => ?_) <;> (have h' := h; try simp only [HB] at h'; try rewrite [h]; try simp only [h])
| refine gdD_intro (fun h => ?_) (fun h => ?_) <;> (have h' := h; try simp only [HB] at h'; try rewrite [h]; try simp only [h])
| refine callL_of (Name_is _) ?_
| refine callL_of (Type_is ft.typ hf) ?_
| refine callL_of (Infer_is c _ _ hc hx) ?_
| refine callL_of (same_is _ _ hu) ?_
| refine ct_I ?_
| refine callG_I ?_ ?_
| refine callG_Iv ?_ ?_
| refine drJ_I (by simp only [R22]; rfl) ?_
| refine ret_I (R := isR _) ?_
| refine nxt_I (fun hr => ?_) (fun q hq => ?_)
| refine isnil_I (fun hnil b => ?_) (fun hnil => ?_)
| (refine And.intro ?_ ?_; focus omega))
  all_goals (refine congrArg (I.int .i64) ?_; simp only [featureT]; grind)
def fieldsT : List Fld → List Fld → Int
  | _, [] => 0
  | seen, f :: r => if (!nameOk f.name) = true then 3 else if (seen.any fun g => decide (g.name = f.name)) = true then 121 else if typeOk f.typ ≠ 0 then typeOk f.typ else fieldsT (seen ++ [f]) r
def tableT (t : Tbl) : Int :=
  if (!nameOk t.name || !nameOk t.entity || decide (t.keep < 0) || decide (1099511627776 < t.keep)) = true then 3 else if 8 < t.fields.length then 2 else fieldsT [] t.fields
theorem Table1_is (g : Fld) (f0 : List I) (name : Str) (h0 : f0.length = 4) (hn : f0.getD 0 .undef = .str name) : Is mx 49 [.agg (eFld g), .elt f0 0] (.bool (decide (g.name = name))) := by
  refine MC_of_J Tryz.func49 (by kernel_rfl) Tryz.ntmps49 rfl rfl comp49 rv49 rfl c49.eq_1 ?_
  have e1 : pk false f0 0 1 = .str name := by simp only [pk, Bool.false_eq_true, if_false]; exact hn
  (repeat' first
| exact hole _
| simp (maxSteps := 9999999) (disch := omega) only [go_sem, reduceCtorEq, Int.reduceToNat, Int.reduceNeg, Int.reduceLT, Int.reduceLE, Int.reduceEq, Int.reduceAdd, Int.reduceSub, Int.reduceMul, Nat.reduceAdd, Nat.reduceSub, Nat.reduceMul, Nat.reduceEqDiff, Nat.reduceBEq, Nat.reduceBneDiff, Nat.reduceLeDiff, Nat.reduceLT, reduceIte, R49, h0, e1]
| refine' gdV_sc' rfl rfl (by simp only [V0, V1, Nat.reduceEqDiff, reduceIte]) (fun hq => ?_) (fun f => ?_) <;> try (have hq' := hq; try simp only [HB] at hq')
| refine' gdD_sc' rfl rfl (by simp only [V0, V1, Nat.reduceEqDiff, reduceIte]) (fun hq => ?_) (fun f => ?_) <;> try (have hq' := hq; try simp only [HB] at hq')
| refine gdV_intro (fun h => ?_) (fun h => ?_) <;> (have h' := h; try simp only [HB] at h'; try rewrite [h]; try simp only [h])
| refine condJ_intro (fun h => ?_) (fun h => ?_) <;> (have h' := h; try simp only [HB] at h'; try rewrite [h]; try simp only [h])
| refine pickE_intro (fun h => ?_) (fun h => ?_) <;> (have h' := h; try simp only [HB] at h'; try rewrite [h]; try simp only [h])
| refine gdD_intro (fun h => ?_) (fun h => ?_) <;> (have h' := h; try simp only [HB] at h'; try rewrite [h]; try simp only [h])
| refine ct_I ?_
| refine callG_I ?_ ?_
| refine callG_Iv ?_ ?_
| refine drJ_I (by simp only [R49]; rfl) ?_
| refine ret_I (R := isR _) ?_
| refine nxt_I (fun hr => ?_) (fun q hq => ?_)
| refine isnil_I (fun hnil b => ?_) (fun hnil => ?_)
| (refine And.intro ?_ ?_; focus omega))
theorem fldAny_is (p : Fld → Bool) (l : List Fld) (fn : Nat) (fs cs : List I) (hl : l.length ≤ 1073741824) (hp : ∀ x ∈ l, Is mx fn (fs ++ [.agg (eFld x)] ++ cs) (.bool (p x))) :
    Is mx 48 [.sl (l.map eFld), .fn fn fs cs] (.bool (l.any p)) := by
  refine MC_of_J Tryz.func48 (by kernel_rfl) Tryz.ntmps48 rfl rfl comp48 rv48 rfl c48.eq_1 ?_
  (repeat' first
| exact hole _
| simp (maxSteps := 9999999) (disch := omega) only [go_sem, reduceCtorEq, Int.reduceToNat, Int.reduceNeg, Int.reduceLT, Int.reduceLE, Int.reduceEq, Int.reduceAdd, Int.reduceSub, Int.reduceMul, Nat.reduceAdd, Nat.reduceSub, Nat.reduceMul, Nat.reduceEqDiff, Nat.reduceBEq, Nat.reduceBneDiff, Nat.reduceLeDiff, Nat.reduceLT, reduceIte, R48]
| refine' gdV_sc' rfl rfl (by simp only [V0, V1, Nat.reduceEqDiff, reduceIte]) (fun hq => ?_) (fun f => ?_) <;> try (have hq' := hq; try simp only [HB] at hq')
| refine' gdD_sc' rfl rfl (by simp only [V0, V1, Nat.reduceEqDiff, reduceIte]) (fun hq => ?_) (fun f => ?_) <;> try (have hq' := hq; try simp only [HB] at hq')
| refine gdV_intro (fun h => ?_) (fun h => ?_) <;> (have h' := h; try simp only [HB] at h'; try rewrite [h]; try simp only [h])
| refine condJ_intro (fun h => ?_) (fun h => ?_) <;> (have h' := h; try simp only [HB] at h'; try rewrite [h]; try simp only [h])
| refine pickE_intro (fun h => ?_) (fun h => ?_) <;> (have h' := h; try simp only [HB] at h'; try rewrite [h]; try simp only [h])
| refine gdD_intro (fun h => ?_) (fun h => ?_) <;> (have h' := h; try simp only [HB] at h'; try rewrite [h]; try simp only [h])
| refine callL_of (fldIdx_is p _ _ _ _ hl hp) ?_
| refine ct_I ?_
| refine callG_I ?_ ?_
| refine callG_Iv ?_ ?_
| refine drJ_I (by simp only [R48]; rfl) ?_
| refine ret_I (R := isR _) ?_
| refine nxt_I (fun hr => ?_) (fun q hq => ?_)
| refine isnil_I (fun hnil b => ?_) (fun hnil => ?_)
| (refine And.intro ?_ ?_; focus omega))
  refine congrArg I.bool ?_
  have := @idx_ge _ p l
  rw [Bool.eq_iff_iff]; simpa using this
theorem Table_is (t : Tbl) (ht : ∀ x ∈ t.fields, uB x.typ) (hl : t.fields.length ≤ 1073741824) : Is mx 25 [.agg (eTbl t)] (iI (tableT t)) := by
  refine MC_of_J Tryz.func25 (by kernel_rfl) Tryz.ntmps25 rfl rfl comp25 rv25 rfl c25.eq_1 ?_
  (repeat' first
| exact hole _
| simp (maxSteps := 9999999) (disch := omega) only [go_sem, reduceCtorEq, Int.reduceToNat, Int.reduceNeg, Int.reduceLT, Int.reduceLE, Int.reduceEq, Int.reduceAdd, Int.reduceSub, Int.reduceMul, Nat.reduceAdd, Nat.reduceSub, Nat.reduceMul, Nat.reduceEqDiff, Nat.reduceBEq, Nat.reduceBneDiff, Nat.reduceLeDiff, Nat.reduceLT, reduceIte, R25]
| refine' gdV_sc' rfl rfl (by simp only [V0, V1, Nat.reduceEqDiff, reduceIte]) (fun hq => ?_) (fun f => ?_) <;> try (have hq' := hq; try simp only [HB] at hq')
| refine' gdD_sc' rfl rfl (by simp only [V0, V1, Nat.reduceEqDiff, reduceIte]) (fun hq => ?_) (fun f => ?_) <;> try (have hq' := hq; try simp only [HB] at hq')
| refine gdV_intro (fun h => ?_) (fun h => ?_) <;> (have h' := h; try simp only [HB] at h'; try rewrite [h]; try simp only [h])
| refine condJ_intro (fun h => ?_) (fun h => ?_) <;> (have h' := h; try simp only [HB] at h'; try rewrite [h]; try simp only [h])
| refine pickE_intro (fun h => ?_) (fun h => ?_) <;> (have h' := h; try simp only [HB] at h'; try rewrite [h]; try simp only [h])
| refine gdD_intro (fun h => ?_) (fun h => ?_) <;> (have h' := h; try simp only [HB] at h'; try rewrite [h]; try simp only [h])
| refine callL_of (Name_is _) ?_
| refine ct_I ?_
| refine callG_I ?_ ?_
| refine callG_Iv ?_ ?_
| refine drJ_I (by simp only [R25]; rfl) ?_
| refine ret_I (R := isR _) ?_
| refine nxt_I (fun hr => ?_) (fun q hq => ?_)
| refine isnil_I (fun hnil b => ?_) (fun hnil => ?_)
| (refine And.intro ?_ ?_; focus omega))
  · refine congrArg (I.int .i64) ?_; simp only [tableT]; grind
  · refine congrArg (I.int .i64) ?_; simp only [tableT]; grind
  have hT : tableT t = fieldsT [] t.fields := by simp only [tableT]; grind
  rw [hT]
  refine loopS (L25_0.eq_1 0) [1, 31, 32] (by simp only [V0, V1, V2, V25, reduceIte, Nat.reduceEqDiff]; rfl) (fun i => [(33, .i (iI i))]) (fun _ => []) (fun i => fieldsT (t.fields.take i) (t.fields.drop i) = fieldsT [] t.fields) t.fields.length 0 (by omega) (by simp) (by simp [V0, V1, V2, V11, V8, V15, Ref.nm]) ?_
  intro i hi hinv
  by_cases hi' : i < t.fields.length
  · have hmem := getD_mem hi'
    rw [List.drop_eq_getElem_cons hi', ← getD_lt hi'] at hinv
    simp only [fieldsT] at hinv
    have htk : t.fields.take (i + 1) = t.fields.take i ++ [t.fields.getD i default] := by rw [List.take_succ_eq_append_getElem hi', getD_lt hi']
    generalize hg : t.fields.getD i default = g at hinv hmem htk
    have hA := fldAny_is (mx := mx) (fun y => decide (y.name = g.name)) (t.fields.take i) 49 [] [.elt (eFld g) 0] (by simp; omega) (fun y _ => Table1_is y (eFld g) g.name rfl rfl)
    have hr : (∀ r ∈ t.fields.map eFld, r.length = 4) = True := eq_true (rows_ok (f := eFld) (k := 4) t.fields (fun _ => rfl) (fun _ => rfl)).1
    have hle : ((i : Int) ≤ (t.fields.length : Int)) = True := eq_true (by omega)
    have hmt : List.take i (List.map eFld t.fields) = List.map eFld (List.take i t.fields) := List.map_take.symm
    (repeat' first
| exact hole _
| simp (maxSteps := 9999999) (disch := omega) only [go_sem, reduceCtorEq, Int.reduceToNat, Int.reduceNeg, Int.reduceLT, Int.reduceLE, Int.reduceEq, Int.reduceAdd, Int.reduceSub, Int.reduceMul, Nat.reduceAdd, Nat.reduceSub, Nat.reduceMul, Nat.reduceEqDiff, Nat.reduceBEq, Nat.reduceBneDiff, Nat.reduceLeDiff, Nat.reduceLT, reduceIte, R25, ltT hi', hg, hr, hle, hmt]
| refine' gdV_sc' rfl rfl (by simp only [V0, V1, Nat.reduceEqDiff, reduceIte]) (fun hq => ?_) (fun f => ?_) <;> try (have hq' := hq; try simp only [HB] at hq')
| refine' gdD_sc' rfl rfl (by simp only [V0, V1, Nat.reduceEqDiff, reduceIte]) (fun hq => ?_) (fun f => ?_) <;> try (have hq' := hq; try simp only [HB] at hq')
| refine gdV_intro (fun h => ?_) (fun h => ?_) <;> (have h' := h; try simp only [HB] at h'; try rewrite [h]; try simp only [h])
| refine condJ_intro (fun h => ?_) (fun h => ?_) <;> (have h' := h; try simp only [HB] at h'; try rewrite [h]; try simp only [h])
| refine pickE_intro (fun h => ?_) (fun h => ?_) <;> (have h' := h; try simp only [HB] at h'; try rewrite [h]; try simp only [h])
| refine gdD_intro (fun h => ?_) (fun h => ?_) <;> (have h' := h; try simp only [HB] at h'; try rewrite [h]; try simp only [h])
| refine callL_of (Name_is _) ?_
| refine callL_of (hA) ?_
| refine callL_of (Type_is g.typ (ht g hmem)) ?_
| refine ct_I ?_
| refine callG_I ?_ ?_
| refine callG_Iv ?_ ?_
| refine drJ_I (by simp only [R25]; rfl) ?_
| refine ret_I (R := isR _) ?_
| refine nxt_I (fun hr => ?_) (fun q hq => ?_)
| refine isnil_I (fun hnil b => ?_) (fun hnil => ?_)
| (refine And.intro ?_ ?_; focus omega))
    · refine congrArg (I.int .i64) ?_; grind
    · refine congrArg (I.int .i64) ?_; grind
    · refine congrArg (I.int .i64) ?_; grind
    · rw [htk]; grind
  · have e : i = t.fields.length := by omega
    subst e
    rw [List.drop_length] at hinv
    (repeat' first
| exact hole _
| simp (maxSteps := 9999999) (disch := omega) only [go_sem, reduceCtorEq, Int.reduceToNat, Int.reduceNeg, Int.reduceLT, Int.reduceLE, Int.reduceEq, Int.reduceAdd, Int.reduceSub, Int.reduceMul, Nat.reduceAdd, Nat.reduceSub, Nat.reduceMul, Nat.reduceEqDiff, Nat.reduceBEq, Nat.reduceBneDiff, Nat.reduceLeDiff, Nat.reduceLT, reduceIte, R25, ltF hi']
| refine' gdV_sc' rfl rfl (by simp only [V0, V1, Nat.reduceEqDiff, reduceIte]) (fun hq => ?_) (fun f => ?_) <;> try (have hq' := hq; try simp only [HB] at hq')
| refine' gdD_sc' rfl rfl (by simp only [V0, V1, Nat.reduceEqDiff, reduceIte]) (fun hq => ?_) (fun f => ?_) <;> try (have hq' := hq; try simp only [HB] at hq')
| refine gdV_intro (fun h => ?_) (fun h => ?_) <;> (have h' := h; try simp only [HB] at h'; try rewrite [h]; try simp only [h])
| refine condJ_intro (fun h => ?_) (fun h => ?_) <;> (have h' := h; try simp only [HB] at h'; try rewrite [h]; try simp only [h])
| refine pickE_intro (fun h => ?_) (fun h => ?_) <;> (have h' := h; try simp only [HB] at h'; try rewrite [h]; try simp only [h])
| refine gdD_intro (fun h => ?_) (fun h => ?_) <;> (have h' := h; try simp only [HB] at h'; try rewrite [h]; try simp only [h])
| refine callL_of (Name_is _) ?_
| refine ct_I ?_
| refine callG_I ?_ ?_
| refine callG_Iv ?_ ?_
| refine drJ_I (by simp only [R25]; rfl) ?_
| refine ret_I (R := isR _) ?_
| refine nxt_I (fun hr => ?_) (fun q hq => ?_)
| refine isnil_I (fun hnil b => ?_) (fun hnil => ?_)
| (refine And.intro ?_ ?_; focus omega))
    rw [← hinv]; rfl

end Go.Proofs.YtihbaggjjglcbaaGreatDoor
end

section
set_option maxRecDepth 100000
set_option maxHeartbeats 8000000
set_option linter.unusedVariables false
set_option linter.unusedSimpArgs false
namespace Go.Proofs.YtihbaggjjglcbaaGreatDoor
open Go Go.Dl Go.As Go.RowKit Go.ChangeShapes Go.WideShapes
/-! The package's variables; a world that holds them; bulk. -/
theorem argI_S {P : Program} {t : TypeId} {cs : List I} {fs : Array Field} (h : P.underlying t = some (.struct fs)) : argI P t cs = .agg cs := by unfold argI; rw [h]
theorem argI_1 {P : Program} {t : TypeId} {x : I} (h : ∀ fs, P.underlying t ≠ some (.struct fs)) : argI P t [x] = x := by
  unfold argI
  split
  · rename_i fs e; exact absurd e (h fs)
  · rfl
theorem own : ownKnob Tryz.prog.godebug = none := by kernel_rfl
theorem laidOutP : laidOutB Tryz.prog = true := by kernel_rfl
def plainL : List TypeId := [3, 9, 4, 22, 23, 25, 27, 28, 30, 31, 33, 36, 52, 58, 62, 84, 64, 96]
theorem plainLok : plainT Tryz.prog plainL = true := by kernel_rfl
def laidL : List (String × DataW Unit) := [("asof/checker.aggregates", Rows.laid_asof_checker_aggregates), ("asof/checker.unary", Rows.laid_asof_checker_unary), ("asof/checker.binary", Rows.laid_asof_checker_binary)]
theorem glob_var {P : Program} {l : List TypeId} (hpl : plainT P l = true) {W : World} {nm : String} {g : Nat} {t : TypeId} {cs : Array Value} {fuel : Nat} {d : DataW Unit} {p : List MemPlace} {is : List I} (hg : P.globalNamed nm = some g) (hv : W.var? P nm = some cs) (ht : l.contains t = true)
    (hd : DataW.trod (fun _ => ()) P W 0 (fun _ => true) false fuel t cs.toList = some (d, p)) (he : flatD d = is) : Rep (fullM W) (.elt is 0) (.pointer (some ⟨g, 0, none⟩)) := by
  have hR := trod_flat hpl fuel t _ _ ht hd
  rw [he] at hR
  have := Rep.elt (M := fullM W) is 0 g 0 (fun j => cs.toList.getD j Go.undef) (fun j hj => by
    have hj' : j < cs.toList.length := by rw [hR.1]; exact hj
    show W.cell? ⟨g, 0 + j, none⟩ = _
    rw [Nat.zero_add, World.var?_cell hg hv j]
    simp only [List.getD, List.getElem?_eq_getElem hj', Option.getD_some]
    simp at hj'
    simp [hj']) (fun j hj => by
    have hj' : j < cs.toList.length := by rw [hR.1]; exact hj
    simp only [List.getD, List.getElem?_eq_getElem hj', Option.getD_some]
    exact hR.2 j hj hj')
  simpa using this
theorem int_of_shape {P : Program} {w : World} {g : Nat} {t : TypeId} {k : IntKind} {zero : Array Value} (h : w.ShapedOpen P) (hg : g < P.globals.size)
    (h0 : ((begin P (fun _ _ => 0) default).world.heap[g]?).bind Obj.row? = some (zero, t)) (hz : zero.size = 1)
    (hb : P.buildable t = true) (hc : P.cellTypes P.depth t = some [t]) (hu : P.underlying t = some (.int k)) : ∃ n, w.cell? ⟨g, 0, none⟩ = some (.int k n) := by
  obtain ⟨cs, hh, hs, hr⟩ := h.1 g zero t hg h0
  obtain ⟨ts, hts, _, hall⟩ := hr hb
  rw [hc] at hts
  cases hts
  have h1 : 0 < cs.size := by omega
  obtain ⟨u, hu', hok⟩ := hall 0 cs[0] (by simp [h1])
  have : u = t := by simpa using hu'.symm
  subst this
  have hcell : w.cell? ⟨g, 0, none⟩ = some cs[0] := by simp [World.cell?, hh, h1]
  rw [hcell]
  unfold Cell.ok at hok
  rw [hu] at hok
  cases hv : cs[0] <;> rw [hv] at hok <;> simp at hok
  obtain ⟨rfl, _⟩ := hok
  exact ⟨_, rfl⟩
theorem glob_ok {W : World} (hL : laidMetH Tryz.prog laidL W) (hS : W.ShapedOpen Tryz.prog) : ∃ mx, GlobOk (GLm mx) (fullM W) := by
  obtain ⟨mx, hm⟩ := int_of_shape (k := .i64) (t := 3) (g := 5) (zero := #[.int .i64 0]) hS (of_decide_eq_true (by kernel_rfl)) (by kernel_rfl) rfl (by kernel_rfl) (by kernel_rfl) (by kernel_rfl)
  have h : laidMet Tryz.prog laidL W := hL
  obtain ⟨ps, hv, _⟩ := h
  obtain ⟨g0, t0, cs0, f0, p0, q0, a1, a2, a3, a4, hv, _⟩ := hv
  obtain ⟨g1, t1, cs1, f1, p1, q1, b1, b2, b3, b4, hv, _⟩ := hv
  obtain ⟨g2, t2, cs2, f2, p2, q2, c1, c2, c3, c4, hv, _⟩ := hv
  obtain rfl : 0 = g0 := Option.some.inj ((show Tryz.prog.globalNamed "asof/checker.aggregates" = some 0 by kernel_rfl).symm.trans a1)
  obtain rfl : 1 = g1 := Option.some.inj ((show Tryz.prog.globalNamed "asof/checker.unary" = some 1 by kernel_rfl).symm.trans b1)
  obtain rfl : 2 = g2 := Option.some.inj ((show Tryz.prog.globalNamed "asof/checker.binary" = some 2 by kernel_rfl).symm.trans c1)
  obtain rfl : 96 = t0 := Option.some.inj ((show (Tryz.prog.globals[0]?).map (·.type) = some 96 by kernel_rfl).symm.trans a2)
  obtain rfl : 96 = t1 := Option.some.inj ((show (Tryz.prog.globals[1]?).map (·.type) = some 96 by kernel_rfl).symm.trans b2)
  obtain rfl : 96 = t2 := Option.some.inj ((show (Tryz.prog.globals[2]?).map (·.type) = some 96 by kernel_rfl).symm.trans c2)
  have k0 := glob_var plainLok (is := [.sl (names0.map fun s => [.str s])]) a1 a3 (by decide) a4 (by rfl)
  have k1 := glob_var plainLok (is := [.sl (names1.map fun s => [.str s])]) b1 b3 (by decide) b4 (by rfl)
  have k2 := glob_var plainLok (is := [.sl (names2.map fun s => [.str s])]) c1 c3 (by decide) c4 (by rfl)
  refine ⟨mx, fun g cs hg => ?_⟩
  simp only [GLm, List.mem_cons, List.not_mem_nil, or_false, Prod.mk.injEq] at hg
  rcases hg with ⟨rfl, rfl⟩ | ⟨rfl, rfl⟩ | ⟨rfl, rfl⟩ | ⟨rfl, rfl⟩
  · have := Rep.elt (M := fullM W) [.int .i64 mx] 0 5 0 (fun _ => .int .i64 mx) (fun j hj => by
      obtain rfl : j = 0 := by simpa using hj
      exact hm) (fun j hj => by
      obtain rfl : j = 0 := by simpa using hj
      exact .int _ _)
    exact this
  · exact k0
  · exact k1
  · exact k2
mutual
theorem bulk_eq {H : Type} : ∀ d : DataW H, Rows.uptoBulk d = bulkD d
  | .lit l => by cases l <;> rfl
  | .nil => rfl
  | .ptr d => by simp only [Rows.uptoBulk, bulkD, bulk_eq d]
  | .slice e s => by simp only [Rows.uptoBulk, bulkD, bulks_eq e, bulks_eq s]
  | .agg p => by simp only [Rows.uptoBulk, bulkD, bulks_eq p]
  | .iface _ d => by simp only [Rows.uptoBulk, bulkD, bulk_eq d]
  | .map es => by simp only [Rows.uptoBulk, bulkD, bulkes_eq es]
  | .held _ => rfl
theorem bulks_eq {H : Type} : ∀ l : List (DataW H), Rows.uptoBulkAll l = bulkL l
  | [] => rfl
  | d :: r => by simp only [Rows.uptoBulkAll, bulkL, bulk_eq d, bulks_eq r]
theorem bulkes_eq {H : Type} : ∀ l : List (Lit × DataW H), Rows.uptoBulkEntries l = bulkE l
  | [] => rfl
  | (k, d) :: r => by cases k <;> simp only [Rows.uptoBulkEntries, Rows.uptoBulkEntry, bulkE, bulk1, bulk_eq d, bulkes_eq r]
end
noncomputable def strCells (l : List (List UInt8)) : Array Value := (l.map fun s => Value.string ⟨s.toArray⟩).toArray
/-- The settled world, with the lists behind it. -/
noncomputable def laidWorld (os : Os) : World :=
  let N := (World.settled Tryz.prog os).heap.size
  let w0 := World.holding Tryz.prog os ⟨#[.cells (strCells names0) 9, .cells (strCells names1) 9, .cells (strCells names2) 9], #[], []⟩
  let put (h : Array Obj) (g : Nat) (cs : Array Value) : Array Obj := h.modify g fun
    | .cells _ t frozen => .cells cs t frozen
    | o => o
  let h0 := put w0.heap 0 #[.slice (some ⟨N, 0, none⟩) 10 10]
  let h1 := put h0 1 #[.slice (some ⟨N + 1, 0, none⟩) 3 3]
  let h2 := put h1 2 #[.slice (some ⟨N + 2, 0, none⟩) 10 10]
  { w0 with heap := h2 }
noncomputable abbrev N0 : Nat := (World.settled Tryz.prog default).heap.size
theorem laid_met (os : Os) (args : Array Value) : laidMet Tryz.prog laidL ((laidWorld os).forCall (fun _ _ => 0) ⟨#[], args, []⟩).memory :=
  (LaidIn.of_run (l := laidL) [0, 1, 2, N0, N0 + 1, N0 + 2] 8 (by kernel_rfl) (by kernel_rfl) (by kernel_rfl) (by kernel_rfl)).met
end Go.Proofs.YtihbaggjjglcbaaGreatDoor
end
