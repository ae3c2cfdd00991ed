/-
  What the laws of this seat share, part 35: no statement of its own.
-/
import Derived.Test.YtihbaggjjglcbaaGreatDoorJ34
import Derived.Shelf.Spec.BitsCarry
set_option linter.unusedVariables false
set_option linter.unusedSimpArgs false

section
set_option maxRecDepth 100000
set_option linter.unusedVariables false
set_option linter.unusedSimpArgs false
namespace Go.Proofs.YtihbaggjjglcbaaGreatDoor
open Go Go.Dl Go.As Go.Proofs
variable {mx : Int}
attribute [local irreducible] callG callL MC W W2 evT ev evD step stepD
abbrev Is(mx : Int) (f : Nat) (args : List I) (y : I) : Prop := MC Tryz.prog (GLm mx) f (args.map D.i) [] [] (isR y)
def isNum (t : Typ) : Bool := t.kind == 2 || t.kind == 3
theorem isNumber_is (t : Typ) : Is mx 42 [.agg (eTyp t)] (.bool (isNum t)) := by
  refine MC_of_J Tryz.func42 (by kernel_rfl) Tryz.ntmps42 rfl rfl comp42 rv42 rfl c42.eq_1 ?_
  (repeat' first
| exact hole _
| simp (maxSteps := 9999999) (disch := omega) only [go_sem, reduceCtorEq, Int.reduceToNat, Int.reduceNeg, Int.reduceLT, Int.reduceLE, Int.reduceEq, Int.reduceAdd, Int.reduceSub, Int.reduceMul, Nat.reduceAdd, Nat.reduceSub, Nat.reduceMul, Nat.reduceEqDiff, Nat.reduceBEq, Nat.reduceBneDiff, Nat.reduceLeDiff, Nat.reduceLT, reduceIte, R42]
| refine' gdV_sc' rfl rfl (by simp only [V0, V1, Nat.reduceEqDiff, reduceIte]) (fun hq => ?_) (fun f => ?_) <;> try (have hq' := hq; try simp only [HB] at hq')
| refine' gdD_sc' rfl rfl (by simp only [V0, V1, Nat.reduceEqDiff, reduceIte]) (fun hq => ?_) (fun f => ?_) <;> try (have hq' := hq; try simp only [HB] at hq')
| refine gdV_intro (fun h => ?_) (fun h => ?_) <;> (have h' := h; try simp only [HB] at h'; try rewrite [h]; try simp only [h])
| refine condJ_intro (fun h => ?_) (fun h => ?_) <;> (have h' := h; try simp only [HB] at h'; try rewrite [h]; try simp only [h])
| refine pickE_intro (fun h => ?_) (fun h => ?_) <;> (have h' := h; try simp only [HB] at h'; try rewrite [h]; try simp only [h])
| refine gdD_intro (fun h => ?_) (fun h => ?_) <;> (have h' := h; try simp only [HB] at h'; try rewrite [h]; try simp only [h])
| refine ct_I ?_
| refine callG_I ?_ ?_
| refine callG_Iv ?_ ?_
| refine drJ_I (by simp only [R42]; rfl) ?_
| refine ret_I (R := isR _) ?_
| refine nxt_I (fun hr => ?_) (fun q hq => ?_)
| refine isnil_I (fun hnil b => ?_) (fun hnil => ?_)
| (refine And.intro ?_ ?_; focus omega))
  all_goals (refine congrArg I.bool ?_; (try simp only [isNum]); (first | rfl | (simp_all; done) | (rw [Bool.eq_iff_iff]; simp_all; done) | (rw [Bool.eq_iff_iff]; simp_all; omega)))
theorem outside_is (n l : Int) (hl : 0 ≤ l ∧ l ≤ 1000) : Is mx 40 [iI n, iI l] (.bool (decide (n > l ∨ n < -l))) := by
  refine MC_of_J Tryz.func40 (by kernel_rfl) Tryz.ntmps40 rfl rfl comp40 rv40 rfl c40.eq_1 ?_
  have hw : IntKind.i64.wrap (0 - l) = -l := by rw [wrap64 (by omega) (by omega)]; omega
  (repeat' first
| exact hole _
| simp (maxSteps := 9999999) (disch := omega) only [go_sem, reduceCtorEq, Int.reduceToNat, Int.reduceNeg, Int.reduceLT, Int.reduceLE, Int.reduceEq, Int.reduceAdd, Int.reduceSub, Int.reduceMul, Nat.reduceAdd, Nat.reduceSub, Nat.reduceMul, Nat.reduceEqDiff, Nat.reduceBEq, Nat.reduceBneDiff, Nat.reduceLeDiff, Nat.reduceLT, reduceIte, R40, hw]
| refine' gdV_sc' rfl rfl (by simp only [V0, V1, Nat.reduceEqDiff, reduceIte]) (fun hq => ?_) (fun f => ?_) <;> try (have hq' := hq; try simp only [HB] at hq')
| refine' gdD_sc' rfl rfl (by simp only [V0, V1, Nat.reduceEqDiff, reduceIte]) (fun hq => ?_) (fun f => ?_) <;> try (have hq' := hq; try simp only [HB] at hq')
| refine gdV_intro (fun h => ?_) (fun h => ?_) <;> (have h' := h; try simp only [HB] at h'; try rewrite [h]; try simp only [h])
| refine condJ_intro (fun h => ?_) (fun h => ?_) <;> (have h' := h; try simp only [HB] at h'; try rewrite [h]; try simp only [h])
| refine pickE_intro (fun h => ?_) (fun h => ?_) <;> (have h' := h; try simp only [HB] at h'; try rewrite [h]; try simp only [h])
| refine gdD_intro (fun h => ?_) (fun h => ?_) <;> (have h' := h; try simp only [HB] at h'; try rewrite [h]; try simp only [h])
| refine ct_I ?_
| refine callG_I ?_ ?_
| refine callG_Iv ?_ ?_
| refine drJ_I (by simp only [R40]; rfl) ?_
| refine ret_I (R := isR _) ?_
| refine nxt_I (fun hr => ?_) (fun q hq => ?_)
| refine isnil_I (fun hnil b => ?_) (fun hnil => ?_)
| (refine And.intro ?_ ?_; focus omega))
  all_goals (refine congrArg I.bool ?_; (try simp only [gt_iff_lt]); (first | rfl | (simp_all; done) | (rw [Bool.eq_iff_iff]; simp_all; done) | (rw [Bool.eq_iff_iff]; simp_all; omega)))
theorem fail_is (e : Int) : Is mx 33 [iI e] (.tup [.agg (eTyp ⟨0, [], []⟩), iI e]) := by
  refine MC_of_J Tryz.func33 (by kernel_rfl) Tryz.ntmps33 rfl rfl comp33 rv33 rfl c33.eq_1 ?_
  (repeat' first
| exact hole _
| simp (maxSteps := 9999999) (disch := omega) only [go_sem, reduceCtorEq, Int.reduceToNat, Int.reduceNeg, Int.reduceLT, Int.reduceLE, Int.reduceEq, Int.reduceAdd, Int.reduceSub, Int.reduceMul, Nat.reduceAdd, Nat.reduceSub, Nat.reduceMul, Nat.reduceEqDiff, Nat.reduceBEq, Nat.reduceBneDiff, Nat.reduceLeDiff, Nat.reduceLT, reduceIte, R33]
| refine' gdV_sc' rfl rfl (by simp only [V0, V1, Nat.reduceEqDiff, reduceIte]) (fun hq => ?_) (fun f => ?_) <;> try (have hq' := hq; try simp only [HB] at hq')
| refine' gdD_sc' rfl rfl (by simp only [V0, V1, Nat.reduceEqDiff, reduceIte]) (fun hq => ?_) (fun f => ?_) <;> try (have hq' := hq; try simp only [HB] at hq')
| refine gdV_intro (fun h => ?_) (fun h => ?_) <;> (have h' := h; try simp only [HB] at h'; try rewrite [h]; try simp only [h])
| refine condJ_intro (fun h => ?_) (fun h => ?_) <;> (have h' := h; try simp only [HB] at h'; try rewrite [h]; try simp only [h])
| refine pickE_intro (fun h => ?_) (fun h => ?_) <;> (have h' := h; try simp only [HB] at h'; try rewrite [h]; try simp only [h])
| refine gdD_intro (fun h => ?_) (fun h => ?_) <;> (have h' := h; try simp only [HB] at h'; try rewrite [h]; try simp only [h])
| refine ct_I ?_
| refine callG_I ?_ ?_
| refine callG_Iv ?_ ?_
| refine drJ_I (by simp only [R33]; rfl) ?_
| refine ret_I (R := isR _) ?_
| refine nxt_I (fun hr => ?_) (fun q hq => ?_)
| refine isnil_I (fun hnil b => ?_) (fun hnil => ?_)
| (refine And.intro ?_ ?_; focus omega))
theorem take_succ_eq {α : Type} [DecidableEq α] {a b : List α} {i : Nat} (h : a.take i = b.take i) (ha : i < a.length) (hb : i < b.length) (e : a[i] = b[i]) : a.take (i + 1) = b.take (i + 1) := by
  rw [List.take_succ_eq_append_getElem ha, List.take_succ_eq_append_getElem hb, h, e]
theorem fac_ext {a b : Fac} (h : a.name = b.name) (k : a.exp = b.exp) : a = b := by
  cases a; cases b; simp_all
theorem facEqual_is (a b : List Fac) (h : a.length < 4611686018427387904) : Is mx 38 [.sl (a.map eFac), .sl (b.map eFac)] (.bool (decide (a = b))) := by
  refine MC_of_J Tryz.func38 (by kernel_rfl) Tryz.ntmps38 rfl rfl comp38 rv38 rfl c38.eq_1 ?_
  (repeat' first
| exact hole _
| simp (maxSteps := 9999999) (disch := omega) only [go_sem, reduceCtorEq, Int.reduceToNat, Int.reduceNeg, Int.reduceLT, Int.reduceLE, Int.reduceEq, Int.reduceAdd, Int.reduceSub, Int.reduceMul, Nat.reduceAdd, Nat.reduceSub, Nat.reduceMul, Nat.reduceEqDiff, Nat.reduceBEq, Nat.reduceBneDiff, Nat.reduceLeDiff, Nat.reduceLT, reduceIte, R38]
| refine' gdV_sc' rfl rfl (by simp only [V0, V1, Nat.reduceEqDiff, reduceIte]) (fun hq => ?_) (fun f => ?_) <;> try (have hq' := hq; try simp only [HB] at hq')
| refine' gdD_sc' rfl rfl (by simp only [V0, V1, Nat.reduceEqDiff, reduceIte]) (fun hq => ?_) (fun f => ?_) <;> try (have hq' := hq; try simp only [HB] at hq')
| refine gdV_intro (fun h => ?_) (fun h => ?_) <;> (have h' := h; try simp only [HB] at h'; try rewrite [h]; try simp only [h])
| refine condJ_intro (fun h => ?_) (fun h => ?_) <;> (have h' := h; try simp only [HB] at h'; try rewrite [h]; try simp only [h])
| refine pickE_intro (fun h => ?_) (fun h => ?_) <;> (have h' := h; try simp only [HB] at h'; try rewrite [h]; try simp only [h])
| refine gdD_intro (fun h => ?_) (fun h => ?_) <;> (have h' := h; try simp only [HB] at h'; try rewrite [h]; try simp only [h])
| refine ct_I ?_
| refine callG_I ?_ ?_
| refine callG_Iv ?_ ?_
| refine drJ_I (by simp only [R38]; rfl) ?_
| refine ret_I (R := isR _) ?_
| refine nxt_I (fun hr => ?_) (fun q hq => ?_)
| refine isnil_I (fun hnil b => ?_) (fun hnil => ?_)
| (refine And.intro ?_ ?_; focus omega))
  · refine congrArg I.bool ?_
    have : a ≠ b := fun e => by rw [e] at h'; omega
    simp [this]
  · refine loopS (L38_0.eq_1 0) [0, 1, 12] (by simp only [V0, V1, V2, V25, reduceIte, Nat.reduceEqDiff]; rfl) (fun i => [(13, .i (iI i))]) (fun _ => []) (fun i => a.take i = b.take i) a.length 0 (by omega) (by simp) ?_ ?_
    · simp [V0, V2, V11, V8, V15]
    · intro i hi hinv
      (repeat' first
| exact hole _
| simp (maxSteps := 9999999) (disch := omega) only [go_sem, reduceCtorEq, Int.reduceToNat, Int.reduceNeg, Int.reduceLT, Int.reduceLE, Int.reduceEq, Int.reduceAdd, Int.reduceSub, Int.reduceMul, Nat.reduceAdd, Nat.reduceSub, Nat.reduceMul, Nat.reduceEqDiff, Nat.reduceBEq, Nat.reduceBneDiff, Nat.reduceLeDiff, Nat.reduceLT, reduceIte, R38]
| refine' gdV_sc' rfl rfl (by simp only [V0, V1, Nat.reduceEqDiff, reduceIte]) (fun hq => ?_) (fun f => ?_) <;> try (have hq' := hq; try simp only [HB] at hq')
| refine' gdD_sc' rfl rfl (by simp only [V0, V1, Nat.reduceEqDiff, reduceIte]) (fun hq => ?_) (fun f => ?_) <;> try (have hq' := hq; try simp only [HB] at hq')
| refine gdV_intro (fun h => ?_) (fun h => ?_) <;> (have h' := h; try simp only [HB] at h'; try rewrite [h]; try simp only [h])
| refine condJ_intro (fun h => ?_) (fun h => ?_) <;> (have h' := h; try simp only [HB] at h'; try rewrite [h]; try simp only [h])
| refine pickE_intro (fun h => ?_) (fun h => ?_) <;> (have h' := h; try simp only [HB] at h'; try rewrite [h]; try simp only [h])
| refine gdD_intro (fun h => ?_) (fun h => ?_) <;> (have h' := h; try simp only [HB] at h'; try rewrite [h]; try simp only [h])
| refine ct_I ?_
| refine callG_I ?_ ?_
| refine callG_Iv ?_ ?_
| refine drJ_I (by simp only [R38]; rfl) ?_
| refine ret_I (R := isR _) ?_
| refine nxt_I (fun hr => ?_) (fun q hq => ?_)
| refine isnil_I (fun hnil b => ?_) (fun hnil => ?_)
| (refine And.intro ?_ ?_; focus omega))
      · rename_i h
        refine congrArg I.bool ?_
        have : a ≠ b := fun e => by subst e; simp at h
        simp [this]
      · rename_i hl h
        have hi' : i < a.length := by omega
        have hi2 : i < b.length := by omega
        refine take_succ_eq hinv hi' hi2 ?_
        simp only [if_true, Bool.not_eq_false', Bool.and_true, Bool.and_eq_true, beq_iff_eq] at h
        simp only [getD_lt hi', getD_lt hi2] at h
        exact fac_ext h.1 h.2
      · refine congrArg I.bool ?_
        have hi' : i = a.length := by omega
        rw [hi'] at hinv
        rw [List.take_length, List.take_of_length_le (by omega)] at hinv
        simp [hinv]
theorem Same_is (a b : List Fac) (h : a.length < 4611686018427387904) : Is mx 16 [.sl (a.map eFac), .sl (b.map eFac)] (.bool (decide (a = b))) := by
  refine MC_of_J Tryz.func16 (by kernel_rfl) Tryz.ntmps16 rfl rfl comp16 rv16 rfl c16.eq_1 ?_
  (repeat' first
| exact hole _
| simp (maxSteps := 9999999) (disch := omega) only [go_sem, reduceCtorEq, Int.reduceToNat, Int.reduceNeg, Int.reduceLT, Int.reduceLE, Int.reduceEq, Int.reduceAdd, Int.reduceSub, Int.reduceMul, Nat.reduceAdd, Nat.reduceSub, Nat.reduceMul, Nat.reduceEqDiff, Nat.reduceBEq, Nat.reduceBneDiff, Nat.reduceLeDiff, Nat.reduceLT, reduceIte, R16]
| refine' gdV_sc' rfl rfl (by simp only [V0, V1, Nat.reduceEqDiff, reduceIte]) (fun hq => ?_) (fun f => ?_) <;> try (have hq' := hq; try simp only [HB] at hq')
| refine' gdD_sc' rfl rfl (by simp only [V0, V1, Nat.reduceEqDiff, reduceIte]) (fun hq => ?_) (fun f => ?_) <;> try (have hq' := hq; try simp only [HB] at hq')
| refine gdV_intro (fun h => ?_) (fun h => ?_) <;> (have h' := h; try simp only [HB] at h'; try rewrite [h]; try simp only [h])
| refine condJ_intro (fun h => ?_) (fun h => ?_) <;> (have h' := h; try simp only [HB] at h'; try rewrite [h]; try simp only [h])
| refine pickE_intro (fun h => ?_) (fun h => ?_) <;> (have h' := h; try simp only [HB] at h'; try rewrite [h]; try simp only [h])
| refine gdD_intro (fun h => ?_) (fun h => ?_) <;> (have h' := h; try simp only [HB] at h'; try rewrite [h]; try simp only [h])
| refine callL_of (facEqual_is _ _ h) ?_
| refine ct_I ?_
| refine callG_I ?_ ?_
| refine callG_Iv ?_ ?_
| refine drJ_I (by simp only [R16]; rfl) ?_
| refine ret_I (R := isR _) ?_
| refine nxt_I (fun hr => ?_) (fun q hq => ?_)
| refine isnil_I (fun hnil b => ?_) (fun hnil => ?_)
| (refine And.intro ?_ ?_; focus omega))
def lc (b : UInt8) : Bool := decide (97 ≤ b.toNat ∧ b.toNat ≤ 122)
def wc (b : UInt8) : Bool := decide ((97 ≤ b.toNat ∧ b.toNat ≤ 122) ∨ (48 ≤ b.toNat ∧ b.toNat ≤ 57) ∨ b.toNat = 95)
def word (s : Str) : Bool := decide (s ≠ []) && decide (s.length ≤ 24) && lc (s.getD 0 0) && s.all wc
theorem word_is (s : Str) : Is mx 39 [.str s] (.bool (word s)) := by
  refine MC_of_J Tryz.func39 (by kernel_rfl) Tryz.ntmps39 rfl rfl comp39 rv39 rfl c39.eq_1 ?_
  (repeat' first
| exact hole _
| simp (maxSteps := 9999999) (disch := omega) only [go_sem, reduceCtorEq, Int.reduceToNat, Int.reduceNeg, Int.reduceLT, Int.reduceLE, Int.reduceEq, Int.reduceAdd, Int.reduceSub, Int.reduceMul, Nat.reduceAdd, Nat.reduceSub, Nat.reduceMul, Nat.reduceEqDiff, Nat.reduceBEq, Nat.reduceBneDiff, Nat.reduceLeDiff, Nat.reduceLT, reduceIte, R39]
| refine' gdV_sc' rfl rfl (by simp only [V0, V1, Nat.reduceEqDiff, reduceIte]) (fun hq => ?_) (fun f => ?_) <;> try (have hq' := hq; try simp only [HB] at hq')
| refine' gdD_sc' rfl rfl (by simp only [V0, V1, Nat.reduceEqDiff, reduceIte]) (fun hq => ?_) (fun f => ?_) <;> try (have hq' := hq; try simp only [HB] at hq')
| refine gdV_intro (fun h => ?_) (fun h => ?_) <;> (have h' := h; try simp only [HB] at h'; try rewrite [h]; try simp only [h])
| refine condJ_intro (fun h => ?_) (fun h => ?_) <;> (have h' := h; try simp only [HB] at h'; try rewrite [h]; try simp only [h])
| refine pickE_intro (fun h => ?_) (fun h => ?_) <;> (have h' := h; try simp only [HB] at h'; try rewrite [h]; try simp only [h])
| refine gdD_intro (fun h => ?_) (fun h => ?_) <;> (have h' := h; try simp only [HB] at h'; try rewrite [h]; try simp only [h])
| refine ct_I ?_
| refine callG_I ?_ ?_
| refine callG_Iv ?_ ?_
| refine drJ_I (by simp only [R39]; rfl) ?_
| refine ret_I (R := isR _) ?_
| refine nxt_I (fun hr => ?_) (fun q hq => ?_)
| refine isnil_I (fun hnil b => ?_) (fun hnil => ?_)
| (refine And.intro ?_ ?_; focus omega))
  · refine congrArg I.bool ?_
    have e : (decide (s ≠ []) && decide (s.length ≤ 24) && lc (s.getD 0 0)) = false := by
      rw [Bool.eq_false_iff]
      intro hh
      simp only [Bool.and_eq_true, decide_eq_true_eq, lc] at hh
      have : s.length ≠ 0 := fun e => hh.1.1 (List.length_eq_zero_iff.1 e)
      simp only [Bool.or_eq_true, decide_eq_true_eq] at h
      omega
    simp only [word, e, Bool.false_and]
  · have w0 : word s = s.all wc := by
      have e1 : lc (s.getD 0 0) = true := by simp only [lc, decide_eq_true_eq]; omega
      have e2 : s ≠ [] := fun e => by subst e; simp at h
      have e3 : s.length ≤ 24 := by omega
      simp only [word, e1, decide_eq_true e2, decide_eq_true e3, Bool.and_true, Bool.true_and]
    refine loopS (L39_0.eq_1 0) [0, 24] (by simp only [V0, V1, V2, V25, reduceIte, Nat.reduceEqDiff]; rfl) (fun i => [(25, .i (iI i))]) (fun _ => []) (fun i => (s.take i).all wc = true) s.length 0 (by omega) (by simp) ?_ ?_
    · simp [V0, V2, V11, V8, V15]
    · intro i hi hinv
      (repeat' first
| exact hole _
| simp (maxSteps := 9999999) (disch := omega) only [go_sem, reduceCtorEq, Int.reduceToNat, Int.reduceNeg, Int.reduceLT, Int.reduceLE, Int.reduceEq, Int.reduceAdd, Int.reduceSub, Int.reduceMul, Nat.reduceAdd, Nat.reduceSub, Nat.reduceMul, Nat.reduceEqDiff, Nat.reduceBEq, Nat.reduceBneDiff, Nat.reduceLeDiff, Nat.reduceLT, reduceIte, R39]
| refine' gdV_sc' rfl rfl (by simp only [V0, V1, Nat.reduceEqDiff, reduceIte]) (fun hq => ?_) (fun f => ?_) <;> try (have hq' := hq; try simp only [HB] at hq')
| refine' gdD_sc' rfl rfl (by simp only [V0, V1, Nat.reduceEqDiff, reduceIte]) (fun hq => ?_) (fun f => ?_) <;> try (have hq' := hq; try simp only [HB] at hq')
| refine gdV_intro (fun h => ?_) (fun h => ?_) <;> (have h' := h; try simp only [HB] at h'; try rewrite [h]; try simp only [h])
| refine condJ_intro (fun h => ?_) (fun h => ?_) <;> (have h' := h; try simp only [HB] at h'; try rewrite [h]; try simp only [h])
| refine pickE_intro (fun h => ?_) (fun h => ?_) <;> (have h' := h; try simp only [HB] at h'; try rewrite [h]; try simp only [h])
| refine gdD_intro (fun h => ?_) (fun h => ?_) <;> (have h' := h; try simp only [HB] at h'; try rewrite [h]; try simp only [h])
| refine ct_I ?_
| refine callG_I ?_ ?_
| refine callG_Iv ?_ ?_
| refine drJ_I (by simp only [R39]; rfl) ?_
| refine ret_I (R := isR _) ?_
| refine nxt_I (fun hr => ?_) (fun q hq => ?_)
| refine isnil_I (fun hnil b => ?_) (fun hnil => ?_)
| (refine And.intro ?_ ?_; focus omega))
      all_goals first
        | (exfalso; omega)
        | (refine congrArg I.bool ?_; rw [w0]; first
            | (exact (all_no (d := 0) (i := i) (by omega) (by simp only [wc, decide_eq_false_iff_not]; omega)).symm)
            | (have e : i = s.length := by omega
               rw [e, List.take_length] at hinv; exact hinv.symm))
        | (exact all_take (d := 0) hinv (by omega) (by simp only [wc, decide_eq_true_eq]; omega))
end Go.Proofs.YtihbaggjjglcbaaGreatDoor
end

section
set_option maxRecDepth 100000
set_option linter.unusedVariables false
set_option linter.unusedSimpArgs false
namespace Go.Proofs.YtihbaggjjglcbaaGreatDoor
open Go Go.Dl Go.As Go.Proofs
variable {mx : Int}
attribute [local irreducible] callG callL MC W W2 evT ev evD step stepD
def uc : Option Str → List Fac → Int
  | _, [] => 0
  | p, f :: r => if (!word f.name) = true then 1 else if (decide (f.exp = 0) || decide (f.exp > 8 ∨ f.exp < -8)) = true then 70 else
    if (match p with | some q => Op.bytesLess f.name q || decide (f.name = q) | none => false) = true then 3 else uc (some f.name) r
def uprev (u : List Fac) (i : Nat) : Option Str := if i = 0 then none else some (u.getD (i - 1) default).name
def unitCheck (u : List Fac) : Int := if u.length > 4 then 2 else uc none u
theorem uc_drop {u : List Fac} {i : Nat} (h : i < u.length) (p) : uc p (u.drop i) = if (!word (u.getD i default).name) = true then 1 else if (decide ((u.getD i default).exp = 0) || decide ((u.getD i default).exp > 8 ∨ (u.getD i default).exp < -8)) = true then 70 else
    if (match p with | some q => Op.bytesLess (u.getD i default).name q || decide ((u.getD i default).name = q) | none => false) = true then 3 else uc (some (u.getD i default).name) (u.drop (i + 1)) := by
  rw [getD_lt h, List.drop_eq_getElem_cons h]; simp only [uc]
theorem unitCheck_is (u : List Fac) (hu : u.length ≤ 1073741824) : Is mx 18 [.sl (u.map eFac)] (iI (unitCheck u)) := by
  refine MC_of_J Tryz.func18 (by kernel_rfl) Tryz.ntmps18 rfl rfl comp18 rv18 rfl c18.eq_1 ?_
  (repeat' first
| exact hole _
| simp (maxSteps := 9999999) (disch := omega) only [go_sem, reduceCtorEq, Int.reduceToNat, Int.reduceNeg, Int.reduceLT, Int.reduceLE, Int.reduceEq, Int.reduceAdd, Int.reduceSub, Int.reduceMul, Nat.reduceAdd, Nat.reduceSub, Nat.reduceMul, Nat.reduceEqDiff, Nat.reduceBEq, Nat.reduceBneDiff, Nat.reduceLeDiff, Nat.reduceLT, reduceIte, R18]
| refine' gdV_sc' rfl rfl (by simp only [V0, V1, Nat.reduceEqDiff, reduceIte]) (fun hq => ?_) (fun f => ?_) <;> try (have hq' := hq; try simp only [HB] at hq')
| refine' gdD_sc' rfl rfl (by simp only [V0, V1, Nat.reduceEqDiff, reduceIte]) (fun hq => ?_) (fun f => ?_) <;> try (have hq' := hq; try simp only [HB] at hq')
| refine gdV_intro (fun h => ?_) (fun h => ?_) <;> (have h' := h; try simp only [HB] at h'; try rewrite [h]; try simp only [h])
| refine condJ_intro (fun h => ?_) (fun h => ?_) <;> (have h' := h; try simp only [HB] at h'; try rewrite [h]; try simp only [h])
| refine pickE_intro (fun h => ?_) (fun h => ?_) <;> (have h' := h; try simp only [HB] at h'; try rewrite [h]; try simp only [h])
| refine gdD_intro (fun h => ?_) (fun h => ?_) <;> (have h' := h; try simp only [HB] at h'; try rewrite [h]; try simp only [h])
| refine ct_I ?_
| refine callG_I ?_ ?_
| refine callG_Iv ?_ ?_
| refine drJ_I (by simp only [R18]; rfl) ?_
| refine ret_I (R := isR _) ?_
| refine nxt_I (fun hr => ?_) (fun q hq => ?_)
| refine isnil_I (fun hnil b => ?_) (fun hnil => ?_)
| (refine And.intro ?_ ?_; focus omega))
  · simp only [unitCheck]; rw [if_pos (by omega)]
  · have e : unitCheck u = uc none u := by simp only [unitCheck]; rw [if_neg (by omega)]
    rw [e]
    refine loopS (L18_0.eq_1 0) [0, 8, 9] (by simp only [V0, V1, V2, V25, reduceIte, Nat.reduceEqDiff]; rfl) (fun i => [(10, .i (iI i))]) (fun _ => []) (fun i => uc none u = uc (uprev u i) (u.drop i)) u.length 0 (by omega) (by simp [uprev]) ?_ ?_
    · simp [V0, V2, V11, V8, V15]
    · intro i hi hinv
      (repeat' first
| exact hole _
| simp (maxSteps := 9999999) (disch := omega) only [go_sem, reduceCtorEq, Int.reduceToNat, Int.reduceNeg, Int.reduceLT, Int.reduceLE, Int.reduceEq, Int.reduceAdd, Int.reduceSub, Int.reduceMul, Nat.reduceAdd, Nat.reduceSub, Nat.reduceMul, Nat.reduceEqDiff, Nat.reduceBEq, Nat.reduceBneDiff, Nat.reduceLeDiff, Nat.reduceLT, reduceIte, R18]
| refine' gdV_sc' rfl rfl (by simp only [V0, V1, Nat.reduceEqDiff, reduceIte]) (fun hq => ?_) (fun f => ?_) <;> try (have hq' := hq; try simp only [HB] at hq')
| refine' gdD_sc' rfl rfl (by simp only [V0, V1, Nat.reduceEqDiff, reduceIte]) (fun hq => ?_) (fun f => ?_) <;> try (have hq' := hq; try simp only [HB] at hq')
| refine gdV_intro (fun h => ?_) (fun h => ?_) <;> (have h' := h; try simp only [HB] at h'; try rewrite [h]; try simp only [h])
| refine condJ_intro (fun h => ?_) (fun h => ?_) <;> (have h' := h; try simp only [HB] at h'; try rewrite [h]; try simp only [h])
| refine pickE_intro (fun h => ?_) (fun h => ?_) <;> (have h' := h; try simp only [HB] at h'; try rewrite [h]; try simp only [h])
| refine gdD_intro (fun h => ?_) (fun h => ?_) <;> (have h' := h; try simp only [HB] at h'; try rewrite [h]; try simp only [h])
| refine callL_of (word_is _) ?_
| refine callL_of (outside_is _ _ (by omega)) ?_
| refine ct_I ?_
| refine callG_I ?_ ?_
| refine callG_Iv ?_ ?_
| refine drJ_I (by simp only [R18]; rfl) ?_
| refine ret_I (R := isR _) ?_
| refine nxt_I (fun hr => ?_) (fun q hq => ?_)
| refine isnil_I (fun hnil b => ?_) (fun hnil => ?_)
| (refine And.intro ?_ ?_; focus omega))
      all_goals try
        (have hi' : i < u.length := by omega
         have hm : (match uprev u i with | some q => Op.bytesLess (u.getD i default).name q || decide ((u.getD i default).name = q) | none => false) = (decide (0 < (i : Int)) && (Op.bytesLess (u.getD i default).name (u.getD (↑i - 1 : Int).toNat default).name || decide ((u.getD i default).name = (u.getD (↑i - 1 : Int).toNat default).name))) := by
           have e1 : (↑i - 1 : Int).toNat = i - 1 := by omega
           by_cases h0 : i = 0
           · simp [uprev, h0]
           · have : 0 < (i : Int) := by omega
             simp only [uprev, h0, if_false, e1, decide_eq_true this, Bool.true_and]
         have hs : uprev u (i + 1) = some (u.getD i default).name := by simp [uprev]
         rw [hinv, uc_drop hi', hm]
         first
           | (rw [if_pos h]; done)
           | (rw [if_neg (by simp only [‹(!word (u.getD i default).name) = false›, Bool.false_eq_true, not_false_eq_true]), if_pos h]; done)
           | (rw [if_neg (by simp only [‹(!word (u.getD i default).name) = false›, Bool.false_eq_true, not_false_eq_true]), if_neg (by simp only [‹(decide ((u.getD i default).exp = 0) || decide ((u.getD i default).exp > 8 ∨ (u.getD i default).exp < -8)) = false›, Bool.false_eq_true, not_false_eq_true])]
              first
                | (rw [if_pos h]; done)
                | (rw [if_neg (by simp only [h, Bool.false_eq_true, not_false_eq_true]), hs]; done)))
      have e' : i = u.length := by omega
      rw [hinv, e', List.drop_length]; rfl
end Go.Proofs.YtihbaggjjglcbaaGreatDoor
end

section
set_option maxRecDepth 100000
set_option linter.unusedVariables false
set_option linter.unusedSimpArgs false
namespace Go.Proofs.YtihbaggjjglcbaaGreatDoor
open Go Go.Dl Go.As Go.Proofs
variable {mx : Int}
attribute [local irreducible] callG callL MC W W2 evT ev evD step stepD
theorem rep_str {M : Mem} {s : Str} {v : Value} (h : Rep M (.str s) v) : v = .string ⟨s.toArray⟩ := by
  cases h; rfl
theorem repl_two {M : Mem} {x y : I} {vs : Array Value} (h : RepL M [x, y] vs.toList) : ∃ v u, vs = #[v, u] ∧ Rep M x v ∧ Rep M y u := by
  obtain ⟨hl, hr⟩ := h
  obtain ⟨l⟩ := vs
  match l, hl with
  | [v, u], _ => exact ⟨v, u, rfl, hr 0 (by simp) (by simp), hr 1 (by simp) (by simp)⟩
theorem maxlen_of {M : Mem} {w : World} (h1 : ∀ b o v, M.c b o = some v → w.cell? ⟨b, o, none⟩ = some v) (h2 : GlobOk (GLm mx) M) : w.cell? ⟨5, 0, none⟩ = some (.int .i64 mx) := by
  have := h2 5 [.int .i64 mx] (by simp [GLm])
  generalize hp : Value.pointer (some ⟨5, 0, none⟩) = p at this
  generalize hx : I.elt [.int .i64 mx] 0 = x at this
  cases this <;> cases hx
  rename_i b o v h hr
  injection hp with hp; injection hp with hp
  injection hp with hb ho
  have e := h 0 (by simp)
  have r := hr 0 (by simp)
  simp only [List.getElem_cons_zero, Nat.add_zero] at r e ho
  subst hb; subst ho
  rw [h1 _ _ _ e]
  generalize hy : I.int .i64 mx = y at r
  generalize hz : v 0 = z at r
  cases r <;> cases hy
  first | exact congrArg some hz | simp_all
theorem Contains_is (s t : Str) (hs : s.length < 4294967281) : Is mx 62 [.str s, .str t] (.bool (Lib.contains s t)) := by
  refine MC_of_same (by kernel_rfl) fun M w vs h1 h2 h3 => ?_
  obtain ⟨v, u, rfl, hv, hu⟩ := repl_two h3
  rw [rep_str hv, rep_str hu]
  exact ⟨_, .bool _, Tryz.strings_Contains ⟨s.toArray⟩ ⟨t.toArray⟩ mx w hs (maxlen_of h1.1 h2)⟩
def kwords : Str := [32, 116, 97, 98, 108, 101, 32, 102, 101, 97, 116, 117, 114, 101, 32, 111, 102, 32, 107, 101, 101, 112, 32, 98, 111, 111, 108, 32, 116, 101, 120, 116, 32, 107, 101, 121, 32, 105, 110, 116, 32, 100, 101, 99, 32, 105, 102, 32, 116, 104, 101, 110, 32, 101, 108, 115, 101, 32, 100, 101, 102, 97, 117, 108, 116, 32, 111, 114, 32, 97, 110, 100, 32, 110, 111, 116, 32, 116, 114, 117, 101, 32, 102, 97, 108, 115, 101, 32, 110, 117, 108, 108, 32, 99, 111, 117, 110, 116, 32, 115, 117, 109, 32, 109, 101, 97, 110, 32, 109, 105, 110, 32, 109, 97, 120, 32, 102, 105, 114, 115, 116, 32, 108, 97, 115, 116, 32, 100, 105, 115, 116, 105, 110, 99, 116, 32, 113, 117, 97, 110, 116, 105, 108, 101, 32, 100, 101, 99, 97, 121, 32, 97, 108, 108, 32, 115, 108, 105, 100, 105, 110, 103, 32, 116, 117, 109, 98, 108, 105, 110, 103, 32, 115, 101, 115, 115, 105, 111, 110, 32, 119, 104, 101, 114, 101, 32]
def keyw (s : Str) : Bool := decide (s ≠ []) && !Lib.contains s [32] && Lib.contains kwords (32 :: (s ++ [32]))
theorem Keyword_is (s : Str) (hs : s.length ≤ 1073741824) : Is mx 41 [.str s] (.bool (keyw s)) := by
  refine MC_of_J Tryz.func41 (by kernel_rfl) Tryz.ntmps41 rfl rfl comp41 rv41 rfl c41.eq_1 ?_
  (repeat' first
| exact hole _
| simp (maxSteps := 9999999) (disch := omega) only [go_sem, reduceCtorEq, Int.reduceToNat, Int.reduceNeg, Int.reduceLT, Int.reduceLE, Int.reduceEq, Int.reduceAdd, Int.reduceSub, Int.reduceMul, Nat.reduceAdd, Nat.reduceSub, Nat.reduceMul, Nat.reduceEqDiff, Nat.reduceBEq, Nat.reduceBneDiff, Nat.reduceLeDiff, Nat.reduceLT, reduceIte, R41]
| refine' gdV_sc' rfl rfl (by simp only [V0, V1, Nat.reduceEqDiff, reduceIte]) (fun hq => ?_) (fun f => ?_) <;> try (have hq' := hq; try simp only [HB] at hq')
| refine' gdD_sc' rfl rfl (by simp only [V0, V1, Nat.reduceEqDiff, reduceIte]) (fun hq => ?_) (fun f => ?_) <;> try (have hq' := hq; try simp only [HB] at hq')
| refine gdV_intro (fun h => ?_) (fun h => ?_) <;> (have h' := h; try simp only [HB] at h'; try rewrite [h]; try simp only [h])
| refine condJ_intro (fun h => ?_) (fun h => ?_) <;> (have h' := h; try simp only [HB] at h'; try rewrite [h]; try simp only [h])
| refine pickE_intro (fun h => ?_) (fun h => ?_) <;> (have h' := h; try simp only [HB] at h'; try rewrite [h]; try simp only [h])
| refine gdD_intro (fun h => ?_) (fun h => ?_) <;> (have h' := h; try simp only [HB] at h'; try rewrite [h]; try simp only [h])
| refine callL_of (Contains_is _ _ (by omega)) ?_
| refine callL_of (Contains_is kwords _ (by decide)) ?_
| refine ct_I ?_
| refine callG_I ?_ ?_
| refine callG_Iv ?_ ?_
| refine drJ_I (by simp only [R41]; rfl) ?_
| refine ret_I (R := isR _) ?_
| refine nxt_I (fun hr => ?_) (fun q hq => ?_)
| refine isnil_I (fun hnil b => ?_) (fun hnil => ?_)
| (refine And.intro ?_ ?_; focus omega))
  all_goals (simp_all [keyw])
def nameOk (s : Str) : Bool := word s && !keyw s
theorem Name_is (s : Str) : Is mx 19 [.str s] (.bool (nameOk s)) := by
  refine MC_of_J Tryz.func19 (by kernel_rfl) Tryz.ntmps19 rfl rfl comp19 rv19 rfl c19.eq_1 ?_
  (repeat' first
| exact hole _
| simp (maxSteps := 9999999) (disch := omega) only [go_sem, reduceCtorEq, Int.reduceToNat, Int.reduceNeg, Int.reduceLT, Int.reduceLE, Int.reduceEq, Int.reduceAdd, Int.reduceSub, Int.reduceMul, Nat.reduceAdd, Nat.reduceSub, Nat.reduceMul, Nat.reduceEqDiff, Nat.reduceBEq, Nat.reduceBneDiff, Nat.reduceLeDiff, Nat.reduceLT, reduceIte, R19]
| refine' gdV_sc' rfl rfl (by simp only [V0, V1, Nat.reduceEqDiff, reduceIte]) (fun hq => ?_) (fun f => ?_) <;> try (have hq' := hq; try simp only [HB] at hq')
| refine' gdD_sc' rfl rfl (by simp only [V0, V1, Nat.reduceEqDiff, reduceIte]) (fun hq => ?_) (fun f => ?_) <;> try (have hq' := hq; try simp only [HB] at hq')
| refine gdV_intro (fun h => ?_) (fun h => ?_) <;> (have h' := h; try simp only [HB] at h'; try rewrite [h]; try simp only [h])
| refine condJ_intro (fun h => ?_) (fun h => ?_) <;> (have h' := h; try simp only [HB] at h'; try rewrite [h]; try simp only [h])
| refine pickE_intro (fun h => ?_) (fun h => ?_) <;> (have h' := h; try simp only [HB] at h'; try rewrite [h]; try simp only [h])
| refine gdD_intro (fun h => ?_) (fun h => ?_) <;> (have h' := h; try simp only [HB] at h'; try rewrite [h]; try simp only [h])
| refine callL_of (Keyword_is _ (by omega)) ?_
| refine ct_I ?_
| refine callG_I ?_ ?_
| refine callG_Iv ?_ ?_
| refine drJ_I (by simp only [R19]; rfl) ?_
| refine ret_I (R := isR _) ?_
| refine nxt_I (fun hr => ?_) (fun q hq => ?_)
| refine isnil_I (fun hnil b => ?_) (fun hnil => ?_)
| (refine And.intro ?_ ?_; focus omega))
  · refine congrArg I.bool ?_
    rcases h' with (e | e) | e
    · subst e; rfl
    · have : ¬ s.length ≤ 24 := by omega
      simp [nameOk, word, this]
    · simp [nameOk, e]
  · obtain ⟨⟨e2, e0⟩, hk'⟩ := h'
    have w0 : nameOk s = (lc (s.getD 0 0) && s.all wc) := by
      have e3 : s.length ≤ 24 := by omega
      simp only [nameOk, word, hk', decide_eq_true e3, decide_eq_true e2, Bool.not_false, Bool.and_true, Bool.true_and]
    refine loopS (L19_0.eq_1 0) [0, 17] (by simp only [V0, V1, V2, V25, reduceIte, Nat.reduceEqDiff]; rfl) (fun i => [(18, .i (iI i))]) (fun _ => []) (fun i => (s.take i).all wc = true ∧ (i ≠ 0 → lc (s.getD 0 0) = true)) s.length 0 (by omega) (by simp) ?_ ?_
    · simp [V0, V2, V11, V8, V15]
    · intro i hi hinv
      have hinv1 := hinv.1
      have hinv2 := hinv.2
      have hpos : 0 < s.length := by
        cases s with
        | nil => exact absurd rfl ‹¬ ([] : Str) = []›
        | cons _ _ => simp
      (repeat' first
| exact hole _
| simp (maxSteps := 9999999) (disch := omega) only [go_sem, reduceCtorEq, Int.reduceToNat, Int.reduceNeg, Int.reduceLT, Int.reduceLE, Int.reduceEq, Int.reduceAdd, Int.reduceSub, Int.reduceMul, Nat.reduceAdd, Nat.reduceSub, Nat.reduceMul, Nat.reduceEqDiff, Nat.reduceBEq, Nat.reduceBneDiff, Nat.reduceLeDiff, Nat.reduceLT, reduceIte, R19]
| refine' gdV_sc' rfl rfl (by simp only [V0, V1, Nat.reduceEqDiff, reduceIte]) (fun hq => ?_) (fun f => ?_) <;> try (have hq' := hq; try simp only [HB] at hq')
| refine' gdD_sc' rfl rfl (by simp only [V0, V1, Nat.reduceEqDiff, reduceIte]) (fun hq => ?_) (fun f => ?_) <;> try (have hq' := hq; try simp only [HB] at hq')
| refine gdV_intro (fun h => ?_) (fun h => ?_) <;> (have h' := h; try simp only [HB] at h'; try rewrite [h]; try simp only [h])
| refine condJ_intro (fun h => ?_) (fun h => ?_) <;> (have h' := h; try simp only [HB] at h'; try rewrite [h]; try simp only [h])
| refine pickE_intro (fun h => ?_) (fun h => ?_) <;> (have h' := h; try simp only [HB] at h'; try rewrite [h]; try simp only [h])
| refine gdD_intro (fun h => ?_) (fun h => ?_) <;> (have h' := h; try simp only [HB] at h'; try rewrite [h]; try simp only [h])
| refine ct_I ?_
| refine callG_I ?_ ?_
| refine callG_Iv ?_ ?_
| refine drJ_I (by simp only [R19]; rfl) ?_
| refine ret_I (R := isR _) ?_
| refine nxt_I (fun hr => ?_) (fun q hq => ?_)
| refine isnil_I (fun hnil b => ?_) (fun hnil => ?_)
| (refine And.intro ?_ ?_; focus omega))
      all_goals first
        | (exfalso; omega)
        | (refine congrArg I.bool ?_; rw [w0]; first
            | (have e : i = s.length := by omega
               rw [e, List.take_length] at hinv1
               rw [hinv1, hinv2 (by omega)]; rfl)
            | (by_cases h0 : i = 0
               · subst h0
                 have : lc (s.getD 0 0) = false := by simp only [lc, decide_eq_false_iff_not]; omega
                 rw [this]; rfl
               · have h1 : 0 < (i : Int) := by omega
                 have h2 := h' h1
                 rw [all_no (d := 0) (i := i) (by omega) (by simp only [wc, decide_eq_false_iff_not]; omega), Bool.and_false]))
        | (refine ⟨all_take (d := 0) hinv1 (by omega) (by simp only [wc, decide_eq_true_eq]; omega), fun _ => ?_⟩
           by_cases h0 : i = 0
           · subst h0; simp only [lc, decide_eq_true_eq]; omega
           · exact hinv2 h0)
end Go.Proofs.YtihbaggjjglcbaaGreatDoor
end

section
set_option maxRecDepth 100000
set_option maxHeartbeats 8000000
set_option linter.unusedVariables false
set_option linter.unusedSimpArgs false
namespace Go.Proofs.YtihbaggjjglcbaaGreatDoor
open Go Go.Dl Go.As Go.Proofs
variable {mx : Int}
attribute [local irreducible] callG callL MC W W2 evT ev evD step stepD
def idxOf {α : Type} (p : α → Bool) (l : List α) : Int := match l.findIdx? p with | some i => i | none => -1
theorem idx_at {α : Type} {p : α → Bool} {l : List α} {i : Nat} (hi : i < l.length) (hp : p l[i] = true) (hn : ∀ j (h : j < l.length), j < i → p l[j] = false) : idxOf p l = i := by
  have : l.findIdx? p = some i := List.findIdx?_eq_some_iff_getElem.2 ⟨hi, hp, fun j hj => by rw [hn j (by omega) hj]; simp⟩
  simp [idxOf, this]
theorem idx_no {α : Type} {p : α → Bool} {l : List α} (hn : ∀ j (h : j < l.length), p l[j] = false) : idxOf p l = -1 := by
  have : l.findIdx? p = none := List.findIdx?_eq_none_iff.2 fun x hx => by
    obtain ⟨j, hj, rfl⟩ := List.getElem_of_mem hx
    exact hn j hj
  simp [idxOf, this]
theorem idx_ge {α : Type} {p : α → Bool} {l : List α} : (0 ≤ idxOf p l) ↔ l.any p = true := by
  unfold idxOf
  cases h : l.findIdx? p with
  | none =>
    rw [List.findIdx?_eq_none_iff] at h
    simp only [List.any_eq_true, not_exists]
    refine ⟨fun h' => absurd h' (by decide), fun ⟨x, hx, hp⟩ => by simp [h x hx] at hp⟩
  | some i =>
    obtain ⟨hi, hp, _⟩ := List.findIdx?_eq_some_iff_getElem.1 h
    simp only [List.any_eq_true]
    exact ⟨fun _ => ⟨_, List.getElem_mem hi, hp⟩, fun _ => by simp⟩
theorem facIdx_is (p : Fac → Bool) (l : List Fac) (f : Nat) (fs cs : List I) (hl : l.length ≤ 1073741824) (hp : ∀ x ∈ l, Is mx f (fs ++ [.agg (eFac x)] ++ cs) (.bool (p x))) :
    Is mx 63 [.sl (l.map eFac), .fn f fs cs] (iI (idxOf p l)) := by
  refine MC_of_J Tryz.func63 (by kernel_rfl) Tryz.ntmps63 rfl rfl comp63 rv63 rfl c63.eq_1 ?_
  (repeat' first
| exact hole _
| simp (maxSteps := 9999999) (disch := omega) only [go_sem, reduceCtorEq, Int.reduceToNat, Int.reduceNeg, Int.reduceLT, Int.reduceLE, Int.reduceEq, Int.reduceAdd, Int.reduceSub, Int.reduceMul, Nat.reduceAdd, Nat.reduceSub, Nat.reduceMul, Nat.reduceEqDiff, Nat.reduceBEq, Nat.reduceBneDiff, Nat.reduceLeDiff, Nat.reduceLT, reduceIte, R63]
| refine' gdV_sc' rfl rfl (by simp only [V0, V1, Nat.reduceEqDiff, reduceIte]) (fun hq => ?_) (fun f => ?_) <;> try (have hq' := hq; try simp only [HB] at hq')
| refine' gdD_sc' rfl rfl (by simp only [V0, V1, Nat.reduceEqDiff, reduceIte]) (fun hq => ?_) (fun f => ?_) <;> try (have hq' := hq; try simp only [HB] at hq')
| refine gdV_intro (fun h => ?_) (fun h => ?_) <;> (have h' := h; try simp only [HB] at h'; try rewrite [h]; try simp only [h])
| refine condJ_intro (fun h => ?_) (fun h => ?_) <;> (have h' := h; try simp only [HB] at h'; try rewrite [h]; try simp only [h])
| refine pickE_intro (fun h => ?_) (fun h => ?_) <;> (have h' := h; try simp only [HB] at h'; try rewrite [h]; try simp only [h])
| refine gdD_intro (fun h => ?_) (fun h => ?_) <;> (have h' := h; try simp only [HB] at h'; try rewrite [h]; try simp only [h])
| refine ct_I ?_
| refine callG_I ?_ ?_
| refine callG_Iv ?_ ?_
| refine drJ_I (by simp only [R63]; rfl) ?_
| refine ret_I (R := isR _) ?_
| refine nxt_I (fun hr => ?_) (fun q hq => ?_)
| refine isnil_I (fun hnil b => ?_) (fun hnil => ?_)
| (refine And.intro ?_ ?_; focus omega))
  refine loopS (L63_0.eq_1 0) [0, 1, 7] (by simp only [V0, V1, V2, V25, reduceIte, Nat.reduceEqDiff]; rfl) (fun i => [(8, .i (iI i))]) (fun _ => []) (fun i => ∀ j (h : j < l.length), j < i → p l[j] = false) l.length 0 (by omega) (by simp) ?_ ?_
  · simp [V0, V2, V11, V8, V15]
  · intro i hi hinv
    (repeat' first
| exact hole _
| simp (maxSteps := 9999999) (disch := omega) only [go_sem, reduceCtorEq, Int.reduceToNat, Int.reduceNeg, Int.reduceLT, Int.reduceLE, Int.reduceEq, Int.reduceAdd, Int.reduceSub, Int.reduceMul, Nat.reduceAdd, Nat.reduceSub, Nat.reduceMul, Nat.reduceEqDiff, Nat.reduceBEq, Nat.reduceBneDiff, Nat.reduceLeDiff, Nat.reduceLT, reduceIte, R63]
| refine' gdV_sc' rfl rfl (by simp only [V0, V1, Nat.reduceEqDiff, reduceIte]) (fun hq => ?_) (fun f => ?_) <;> try (have hq' := hq; try simp only [HB] at hq')
| refine' gdD_sc' rfl rfl (by simp only [V0, V1, Nat.reduceEqDiff, reduceIte]) (fun hq => ?_) (fun f => ?_) <;> try (have hq' := hq; try simp only [HB] at hq')
| refine gdV_intro (fun h => ?_) (fun h => ?_) <;> (have h' := h; try simp only [HB] at h'; try rewrite [h]; try simp only [h])
| refine condJ_intro (fun h => ?_) (fun h => ?_) <;> (have h' := h; try simp only [HB] at h'; try rewrite [h]; try simp only [h])
| refine pickE_intro (fun h => ?_) (fun h => ?_) <;> (have h' := h; try simp only [HB] at h'; try rewrite [h]; try simp only [h])
| refine gdD_intro (fun h => ?_) (fun h => ?_) <;> (have h' := h; try simp only [HB] at h'; try rewrite [h]; try simp only [h])
| refine callL_of (hp (l.getD i default) (getD_mem (by omega))) ?_
| refine ct_I ?_
| refine callG_I ?_ ?_
| refine callG_Iv ?_ ?_
| refine drJ_I (by simp only [R63]; rfl) ?_
| refine ret_I (R := isR _) ?_
| refine nxt_I (fun hr => ?_) (fun q hq => ?_)
| refine isnil_I (fun hnil b => ?_) (fun hnil => ?_)
| (refine And.intro ?_ ?_; focus omega))
    · refine congrArg (I.int .i64) ?_
      exact (idx_at (by omega) (by rw [← getD_lt (by omega)]; assumption) hinv).symm
    · intro j hj hji
      by_cases e : j = i
      · subst e; rw [← getD_lt hj]; assumption
      · exact hinv j hj (by omega)
    · refine congrArg (I.int .i64) ?_
      exact (idx_no fun j hj => hinv j hj (by omega)).symm
theorem facAny_is (p : Fac → Bool) (l : List Fac) (f : Nat) (fs cs : List I) (hl : l.length ≤ 1073741824) (hp : ∀ x ∈ l, Is mx f (fs ++ [.agg (eFac x)] ++ cs) (.bool (p x))) :
    Is mx 43 [.sl (l.map eFac), .fn f fs cs] (.bool (l.any p)) := by
  refine MC_of_J Tryz.func43 (by kernel_rfl) Tryz.ntmps43 rfl rfl comp43 rv43 rfl c43.eq_1 ?_
  (repeat' first
| exact hole _
| simp (maxSteps := 9999999) (disch := omega) only [go_sem, reduceCtorEq, Int.reduceToNat, Int.reduceNeg, Int.reduceLT, Int.reduceLE, Int.reduceEq, Int.reduceAdd, Int.reduceSub, Int.reduceMul, Nat.reduceAdd, Nat.reduceSub, Nat.reduceMul, Nat.reduceEqDiff, Nat.reduceBEq, Nat.reduceBneDiff, Nat.reduceLeDiff, Nat.reduceLT, reduceIte, R43]
| refine' gdV_sc' rfl rfl (by simp only [V0, V1, Nat.reduceEqDiff, reduceIte]) (fun hq => ?_) (fun f => ?_) <;> try (have hq' := hq; try simp only [HB] at hq')
| refine' gdD_sc' rfl rfl (by simp only [V0, V1, Nat.reduceEqDiff, reduceIte]) (fun hq => ?_) (fun f => ?_) <;> try (have hq' := hq; try simp only [HB] at hq')
| refine gdV_intro (fun h => ?_) (fun h => ?_) <;> (have h' := h; try simp only [HB] at h'; try rewrite [h]; try simp only [h])
| refine condJ_intro (fun h => ?_) (fun h => ?_) <;> (have h' := h; try simp only [HB] at h'; try rewrite [h]; try simp only [h])
| refine pickE_intro (fun h => ?_) (fun h => ?_) <;> (have h' := h; try simp only [HB] at h'; try rewrite [h]; try simp only [h])
| refine gdD_intro (fun h => ?_) (fun h => ?_) <;> (have h' := h; try simp only [HB] at h'; try rewrite [h]; try simp only [h])
| refine callL_of (facIdx_is p _ _ _ _ hl hp) ?_
| refine ct_I ?_
| refine callG_I ?_ ?_
| refine callG_Iv ?_ ?_
| refine drJ_I (by simp only [R43]; rfl) ?_
| refine ret_I (R := isR _) ?_
| refine nxt_I (fun hr => ?_) (fun q hq => ?_)
| refine isnil_I (fun hnil b => ?_) (fun hnil => ?_)
| (refine And.intro ?_ ?_; focus omega))
  refine congrArg I.bool ?_
  have := @idx_ge _ p l
  rw [Bool.eq_iff_iff]; simpa using this
theorem Type1_is (f : Fac) : Is mx 44 [.agg (eFac f)] (.bool (!nameOk f.name)) := by
  refine MC_of_J Tryz.func44 (by kernel_rfl) Tryz.ntmps44 rfl rfl comp44 rv44 rfl c44.eq_1 ?_
  (repeat' first
| exact hole _
| simp (maxSteps := 9999999) (disch := omega) only [go_sem, reduceCtorEq, Int.reduceToNat, Int.reduceNeg, Int.reduceLT, Int.reduceLE, Int.reduceEq, Int.reduceAdd, Int.reduceSub, Int.reduceMul, Nat.reduceAdd, Nat.reduceSub, Nat.reduceMul, Nat.reduceEqDiff, Nat.reduceBEq, Nat.reduceBneDiff, Nat.reduceLeDiff, Nat.reduceLT, reduceIte, R44]
| refine' gdV_sc' rfl rfl (by simp only [V0, V1, Nat.reduceEqDiff, reduceIte]) (fun hq => ?_) (fun f => ?_) <;> try (have hq' := hq; try simp only [HB] at hq')
| refine' gdD_sc' rfl rfl (by simp only [V0, V1, Nat.reduceEqDiff, reduceIte]) (fun hq => ?_) (fun f => ?_) <;> try (have hq' := hq; try simp only [HB] at hq')
| refine gdV_intro (fun h => ?_) (fun h => ?_) <;> (have h' := h; try simp only [HB] at h'; try rewrite [h]; try simp only [h])
| refine condJ_intro (fun h => ?_) (fun h => ?_) <;> (have h' := h; try simp only [HB] at h'; try rewrite [h]; try simp only [h])
| refine pickE_intro (fun h => ?_) (fun h => ?_) <;> (have h' := h; try simp only [HB] at h'; try rewrite [h]; try simp only [h])
| refine gdD_intro (fun h => ?_) (fun h => ?_) <;> (have h' := h; try simp only [HB] at h'; try rewrite [h]; try simp only [h])
| refine callL_of (Name_is _) ?_
| refine ct_I ?_
| refine callG_I ?_ ?_
| refine callG_Iv ?_ ?_
| refine drJ_I (by simp only [R44]; rfl) ?_
| refine ret_I (R := isR _) ?_
| refine nxt_I (fun hr => ?_) (fun q hq => ?_)
| refine isnil_I (fun hnil b => ?_) (fun hnil => ?_)
| (refine And.intro ?_ ?_; focus omega))
def ty1 (t : Typ) : Bool := decide (t.kind < 1) || decide (t.kind > 5) || (decide (0 < t.unit.length) && !isNum t)
def ty2 (t : Typ) : Bool := (decide (t.kind = 5) != decide (t.of ≠ [])) || (decide (t.of ≠ []) && !nameOk t.of)
def ty3 (t : Typ) : Bool := decide (unitCheck t.unit ≠ 0) || t.unit.any (fun f => !nameOk f.name)
def typeOk (t : Typ) : Int := if ty1 t = true then 3 else if ty2 t = true then 3 else if ty3 t = true then 70 else 0
theorem Type_is (t : Typ) (ht : t.unit.length ≤ 1073741824) : Is mx 20 [.agg (eTyp t)] (iI (typeOk t)) := by
  refine MC_of_J Tryz.func20 (by kernel_rfl) Tryz.ntmps20 rfl rfl comp20 rv20 rfl c20.eq_1 ?_
  (repeat' first
| exact hole _
| simp (maxSteps := 9999999) (disch := omega) only [go_sem, reduceCtorEq, Int.reduceToNat, Int.reduceNeg, Int.reduceLT, Int.reduceLE, Int.reduceEq, Int.reduceAdd, Int.reduceSub, Int.reduceMul, Nat.reduceAdd, Nat.reduceSub, Nat.reduceMul, Nat.reduceEqDiff, Nat.reduceBEq, Nat.reduceBneDiff, Nat.reduceLeDiff, Nat.reduceLT, reduceIte, R20]
| refine' gdV_sc' rfl rfl (by simp only [V0, V1, Nat.reduceEqDiff, reduceIte]) (fun hq => ?_) (fun f => ?_) <;> try (have hq' := hq; try simp only [HB] at hq')
| refine' gdD_sc' rfl rfl (by simp only [V0, V1, Nat.reduceEqDiff, reduceIte]) (fun hq => ?_) (fun f => ?_) <;> try (have hq' := hq; try simp only [HB] at hq')
| refine gdV_intro (fun h => ?_) (fun h => ?_) <;> (have h' := h; try simp only [HB] at h'; try rewrite [h]; try simp only [h])
| refine condJ_intro (fun h => ?_) (fun h => ?_) <;> (have h' := h; try simp only [HB] at h'; try rewrite [h]; try simp only [h])
| refine pickE_intro (fun h => ?_) (fun h => ?_) <;> (have h' := h; try simp only [HB] at h'; try rewrite [h]; try simp only [h])
| refine gdD_intro (fun h => ?_) (fun h => ?_) <;> (have h' := h; try simp only [HB] at h'; try rewrite [h]; try simp only [h])
| refine callL_of (isNumber_is t) ?_
| refine callL_of (Name_is _) ?_
| refine callL_of (unitCheck_is _ ht) ?_
| refine callL_of (facAny_is (fun f ↦ !nameOk f.name) _ _ _ _ ht (fun x _ ↦ Type1_is x)) ?_
| refine ct_I ?_
| refine callG_I ?_ ?_
| refine callG_Iv ?_ ?_
| refine drJ_I (by simp only [R20]; rfl) ?_
| refine ret_I (R := isR _) ?_
| refine nxt_I (fun hr => ?_) (fun q hq => ?_)
| refine isnil_I (fun hnil b => ?_) (fun hnil => ?_)
| (refine And.intro ?_ ?_; focus omega))
  all_goals (refine congrArg (I.int .i64) ?_; simp only [typeOk, ty1, ty2, ty3]; grind)
end Go.Proofs.YtihbaggjjglcbaaGreatDoor
end

section
set_option maxRecDepth 100000
set_option maxHeartbeats 8000000
set_option linter.unusedVariables false
set_option linter.unusedSimpArgs false
namespace Go.Proofs.YtihbaggjjglcbaaGreatDoor
open Go Go.Dl Go.As Go.Proofs
variable {mx : Int}
attribute [local irreducible] callG callL MC W W2 evT ev evD step stepD
theorem strIdx_is (l : List Str) (x : Str) (hl : l.length ≤ 1073741824) :
    Is mx 77 [.sl (l.map fun s => [.str s]), .str x] (iI (idxOf (fun y => decide (x = y)) l)) := by
  refine MC_of_J Tryz.func77 (by kernel_rfl) Tryz.ntmps77 rfl rfl comp77 rv77 rfl c77.eq_1 ?_
  (repeat' first
| exact hole _
| simp (maxSteps := 9999999) (disch := omega) only [go_sem, reduceCtorEq, Int.reduceToNat, Int.reduceNeg, Int.reduceLT, Int.reduceLE, Int.reduceEq, Int.reduceAdd, Int.reduceSub, Int.reduceMul, Nat.reduceAdd, Nat.reduceSub, Nat.reduceMul, Nat.reduceEqDiff, Nat.reduceBEq, Nat.reduceBneDiff, Nat.reduceLeDiff, Nat.reduceLT, reduceIte, R77]
| refine' gdV_sc' rfl rfl (by simp only [V0, V1, Nat.reduceEqDiff, reduceIte]) (fun hq => ?_) (fun f => ?_) <;> try (have hq' := hq; try simp only [HB] at hq')
| refine' gdD_sc' rfl rfl (by simp only [V0, V1, Nat.reduceEqDiff, reduceIte]) (fun hq => ?_) (fun f => ?_) <;> try (have hq' := hq; try simp only [HB] at hq')
| refine gdV_intro (fun h => ?_) (fun h => ?_) <;> (have h' := h; try simp only [HB] at h'; try rewrite [h]; try simp only [h])
| refine condJ_intro (fun h => ?_) (fun h => ?_) <;> (have h' := h; try simp only [HB] at h'; try rewrite [h]; try simp only [h])
| refine pickE_intro (fun h => ?_) (fun h => ?_) <;> (have h' := h; try simp only [HB] at h'; try rewrite [h]; try simp only [h])
| refine gdD_intro (fun h => ?_) (fun h => ?_) <;> (have h' := h; try simp only [HB] at h'; try rewrite [h]; try simp only [h])
| refine ct_I ?_
| refine callG_I ?_ ?_
| refine callG_Iv ?_ ?_
| refine drJ_I (by simp only [R77]; rfl) ?_
| refine ret_I (R := isR _) ?_
| refine nxt_I (fun hr => ?_) (fun q hq => ?_)
| refine isnil_I (fun hnil b => ?_) (fun hnil => ?_)
| (refine And.intro ?_ ?_; focus omega))
  refine loopS (L77_0.eq_1 0) [0, 1, 7] (by simp only [V0, V1, V2, V25, reduceIte, Nat.reduceEqDiff]; rfl) (fun i => [(8, .i (iI i))]) (fun _ => []) (fun i => ∀ j (h : j < l.length), j < i → (fun y => decide (x = y)) l[j] = false) l.length 0 (by omega) (by simp) ?_ ?_
  · simp [V0, V2, V11, V8, V15]
  · intro i hi hinv
    (repeat' first
| exact hole _
| simp (maxSteps := 9999999) (disch := omega) only [go_sem, reduceCtorEq, Int.reduceToNat, Int.reduceNeg, Int.reduceLT, Int.reduceLE, Int.reduceEq, Int.reduceAdd, Int.reduceSub, Int.reduceMul, Nat.reduceAdd, Nat.reduceSub, Nat.reduceMul, Nat.reduceEqDiff, Nat.reduceBEq, Nat.reduceBneDiff, Nat.reduceLeDiff, Nat.reduceLT, reduceIte, R77]
| refine' gdV_sc' rfl rfl (by simp only [V0, V1, Nat.reduceEqDiff, reduceIte]) (fun hq => ?_) (fun f => ?_) <;> try (have hq' := hq; try simp only [HB] at hq')
| refine' gdD_sc' rfl rfl (by simp only [V0, V1, Nat.reduceEqDiff, reduceIte]) (fun hq => ?_) (fun f => ?_) <;> try (have hq' := hq; try simp only [HB] at hq')
| refine gdV_intro (fun h => ?_) (fun h => ?_) <;> (have h' := h; try simp only [HB] at h'; try rewrite [h]; try simp only [h])
| refine condJ_intro (fun h => ?_) (fun h => ?_) <;> (have h' := h; try simp only [HB] at h'; try rewrite [h]; try simp only [h])
| refine pickE_intro (fun h => ?_) (fun h => ?_) <;> (have h' := h; try simp only [HB] at h'; try rewrite [h]; try simp only [h])
| refine gdD_intro (fun h => ?_) (fun h => ?_) <;> (have h' := h; try simp only [HB] at h'; try rewrite [h]; try simp only [h])
| refine ct_I ?_
| refine callG_I ?_ ?_
| refine callG_Iv ?_ ?_
| refine drJ_I (by simp only [R77]; rfl) ?_
| refine ret_I (R := isR _) ?_
| refine nxt_I (fun hr => ?_) (fun q hq => ?_)
| refine isnil_I (fun hnil b => ?_) (fun hnil => ?_)
| (refine And.intro ?_ ?_; focus omega))
    · refine congrArg (I.int .i64) ?_
      exact (idx_at (p := fun y => decide (x = y)) (by omega) (by rw [← getD_lt (by omega)]; assumption) hinv).symm
    · intro j hj hji
      by_cases e : j = i
      · subst e; rw [← getD_lt hj]; assumption
      · exact hinv j hj (by omega)
    · refine congrArg (I.int .i64) ?_
      exact (idx_no fun j hj => hinv j hj (by omega)).symm
theorem strHas_is (l : List Str) (x : Str) (hl : l.length ≤ 1073741824) :
    Is mx 58 [.sl (l.map fun s => [.str s]), .str x] (.bool (l.any fun y => decide (x = y))) := by
  refine MC_of_J Tryz.func58 (by kernel_rfl) Tryz.ntmps58 rfl rfl comp58 rv58 rfl c58.eq_1 ?_
  (repeat' first
| exact hole _
| simp (maxSteps := 9999999) (disch := omega) only [go_sem, reduceCtorEq, Int.reduceToNat, Int.reduceNeg, Int.reduceLT, Int.reduceLE, Int.reduceEq, Int.reduceAdd, Int.reduceSub, Int.reduceMul, Nat.reduceAdd, Nat.reduceSub, Nat.reduceMul, Nat.reduceEqDiff, Nat.reduceBEq, Nat.reduceBneDiff, Nat.reduceLeDiff, Nat.reduceLT, reduceIte, R58]
| refine' gdV_sc' rfl rfl (by simp only [V0, V1, Nat.reduceEqDiff, reduceIte]) (fun hq => ?_) (fun f => ?_) <;> try (have hq' := hq; try simp only [HB] at hq')
| refine' gdD_sc' rfl rfl (by simp only [V0, V1, Nat.reduceEqDiff, reduceIte]) (fun hq => ?_) (fun f => ?_) <;> try (have hq' := hq; try simp only [HB] at hq')
| refine gdV_intro (fun h => ?_) (fun h => ?_) <;> (have h' := h; try simp only [HB] at h'; try rewrite [h]; try simp only [h])
| refine condJ_intro (fun h => ?_) (fun h => ?_) <;> (have h' := h; try simp only [HB] at h'; try rewrite [h]; try simp only [h])
| refine pickE_intro (fun h => ?_) (fun h => ?_) <;> (have h' := h; try simp only [HB] at h'; try rewrite [h]; try simp only [h])
| refine gdD_intro (fun h => ?_) (fun h => ?_) <;> (have h' := h; try simp only [HB] at h'; try rewrite [h]; try simp only [h])
| refine callL_of (strIdx_is _ _ hl) ?_
| refine ct_I ?_
| refine callG_I ?_ ?_
| refine callG_Iv ?_ ?_
| refine drJ_I (by simp only [R58]; rfl) ?_
| refine ret_I (R := isR _) ?_
| refine nxt_I (fun hr => ?_) (fun q hq => ?_)
| refine isnil_I (fun hnil b => ?_) (fun hnil => ?_)
| (refine And.intro ?_ ?_; focus omega))
  refine congrArg I.bool ?_
  have := @idx_ge _ (fun y => decide (x = y)) l
  rw [Bool.eq_iff_iff]; simpa using this
end Go.Proofs.YtihbaggjjglcbaaGreatDoor
end

section
set_option maxRecDepth 100000
set_option maxHeartbeats 8000000
set_option linter.unusedVariables false
set_option linter.unusedSimpArgs false
namespace Go.Proofs.YtihbaggjjglcbaaGreatDoor
open Go Go.Dl Go.As Go.Proofs
variable {mx : Int}
attribute [local irreducible] callG callL MC W W2 evT ev evD step stepD
def bareEq (a b : Xpr) : Bool := a.kind == b.kind && (a.op == b.op && (a.name == b.name && (a.table == b.table && (a.val == b.val && (a.unit == b.unit && (a.param == b.param && a.win == b.win))))))
theorem val_beq (a b : Val) : (a == b) = (a.kind == b.kind && (a.n == b.n && a.s == b.s)) := by
  cases a; cases b; rw [Bool.eq_iff_iff]; simp
theorem win_beq (a b : Win) : (a == b) = (a.kind == b.kind && a.size == b.size) := by
  cases a; cases b; rw [Bool.eq_iff_iff]; simp
theorem bare_is (a b : Xpr) (ha : a.unit.length ≤ 1073741824) : Is mx 59 [.agg (eE a), .agg (eE b)] (.bool (bareEq a b)) := by
  refine MC_of_J Tryz.func59 (by kernel_rfl) Tryz.ntmps59 rfl rfl comp59 rv59 rfl c59.eq_1 ?_
  (repeat' first
| exact hole _
| simp (maxSteps := 9999999) (disch := omega) only [go_sem, reduceCtorEq, Int.reduceToNat, Int.reduceNeg, Int.reduceLT, Int.reduceLE, Int.reduceEq, Int.reduceAdd, Int.reduceSub, Int.reduceMul, Nat.reduceAdd, Nat.reduceSub, Nat.reduceMul, Nat.reduceEqDiff, Nat.reduceBEq, Nat.reduceBneDiff, Nat.reduceLeDiff, Nat.reduceLT, reduceIte, R59]
| refine' gdV_sc' rfl rfl (by simp only [V0, V1, Nat.reduceEqDiff, reduceIte]) (fun hq => ?_) (fun f => ?_) <;> try (have hq' := hq; try simp only [HB] at hq')
| refine' gdD_sc' rfl rfl (by simp only [V0, V1, Nat.reduceEqDiff, reduceIte]) (fun hq => ?_) (fun f => ?_) <;> try (have hq' := hq; try simp only [HB] at hq')
| refine gdV_intro (fun h => ?_) (fun h => ?_) <;> (have h' := h; try simp only [HB] at h'; try rewrite [h]; try simp only [h])
| refine condJ_intro (fun h => ?_) (fun h => ?_) <;> (have h' := h; try simp only [HB] at h'; try rewrite [h]; try simp only [h])
| refine pickE_intro (fun h => ?_) (fun h => ?_) <;> (have h' := h; try simp only [HB] at h'; try rewrite [h]; try simp only [h])
| refine gdD_intro (fun h => ?_) (fun h => ?_) <;> (have h' := h; try simp only [HB] at h'; try rewrite [h]; try simp only [h])
| refine callL_of (facEqual_is _ _ (by omega)) ?_
| refine ct_I ?_
| refine callG_I ?_ ?_
| refine callG_Iv ?_ ?_
| refine drJ_I (by simp only [R59]; rfl) ?_
| refine ret_I (R := isR _) ?_
| refine nxt_I (fun hr => ?_) (fun q hq => ?_)
| refine isnil_I (fun hnil b => ?_) (fun hnil => ?_)
| (refine And.intro ?_ ?_; focus omega))
  all_goals (refine congrArg I.bool ?_; rw [bareEq, val_beq, win_beq, Bool.eq_iff_iff]; simp [and_assoc]; done)
end Go.Proofs.YtihbaggjjglcbaaGreatDoor
end

section
set_option maxRecDepth 100000
set_option maxHeartbeats 8000000
set_option linter.unusedVariables false
set_option linter.unusedSimpArgs false
namespace Go.Proofs.YtihbaggjjglcbaaGreatDoor
open Go Go.Dl Go.As Go.Proofs
variable {mx : Int}
attribute [local irreducible] callG callL MC W W2 evT ev evD step stepD
mutual
def sizeX : Xpr → Nat
  | .mk _ _ _ _ _ _ _ _ a => sizeXs a + 1
def sizeXs : List Xpr → Nat
  | [] => 0
  | x :: r => sizeX x + sizeXs r
end
mutual
def depthX : Xpr → Nat
  | .mk _ _ _ _ _ _ _ _ a => depthXs a + 1
def depthXs : List Xpr → Nat
  | [] => 0
  | x :: r => max (depthX x) (depthXs r)
end
theorem sizeXs_take (l : List Xpr) (k : Nat) (h : k < l.length) : sizeXs (l.take (k + 1)) = sizeXs (l.take k) + sizeX l[k] := by
  induction l generalizing k with
  | nil => simp at h
  | cons x l ih =>
    cases k with
    | zero => simp [sizeXs]
    | succ k => simp only [List.take_succ_cons, sizeXs, List.getElem_cons_succ]; rw [ih k (by simpa using h)]; omega
theorem sizeXs_take_le (l : List Xpr) (k : Nat) : sizeXs (l.take k) ≤ sizeXs l := by
  induction l generalizing k with
  | nil => simp
  | cons x l ih => cases k with
    | zero => simp [sizeXs]
    | succ k => simp only [List.take_succ_cons, sizeXs]; have := ih k; omega
theorem sizeX_args (x : Xpr) : sizeX x = sizeXs x.args + 1 := by cases x; rfl
theorem sizeX_pos (x : Xpr) : 1 ≤ sizeX x := by have := sizeX_args x; omega
theorem len_sizeXs : ∀ l : List Xpr, l.length ≤ sizeXs l
  | [] => by simp [sizeXs]
  | x :: r => by have := len_sizeXs r; have := sizeX_pos x; simp only [List.length_cons, sizeXs]; omega
theorem Size_is : ∀ (m : Nat) (x : Xpr), sizeX x ≤ m → sizeX x ≤ 1073741824 → Is mx 31 [.agg (eE x)] (iI (sizeX x)) := by
  intro m
  induction m with
  | zero => intro x h; have := sizeX_args x; omega
  | succ m ih =>
    intro x hm hb
    have hsz := sizeX_args x
    have hlen := len_sizeXs x.args
    refine MC_of_J Tryz.func31 (by kernel_rfl) Tryz.ntmps31 rfl rfl comp31 rv31 rfl c31.eq_1 ?_
    (repeat' first
| exact hole _
| simp (maxSteps := 9999999) (disch := omega) only [go_sem, reduceCtorEq, Int.reduceToNat, Int.reduceNeg, Int.reduceLT, Int.reduceLE, Int.reduceEq, Int.reduceAdd, Int.reduceSub, Int.reduceMul, Nat.reduceAdd, Nat.reduceSub, Nat.reduceMul, Nat.reduceEqDiff, Nat.reduceBEq, Nat.reduceBneDiff, Nat.reduceLeDiff, Nat.reduceLT, reduceIte, R31]
| refine' gdV_sc' rfl rfl (by simp only [V0, V1, Nat.reduceEqDiff, reduceIte]) (fun hq => ?_) (fun f => ?_) <;> try (have hq' := hq; try simp only [HB] at hq')
| refine' gdD_sc' rfl rfl (by simp only [V0, V1, Nat.reduceEqDiff, reduceIte]) (fun hq => ?_) (fun f => ?_) <;> try (have hq' := hq; try simp only [HB] at hq')
| refine gdV_intro (fun h => ?_) (fun h => ?_) <;> (have h' := h; try simp only [HB] at h'; try rewrite [h]; try simp only [h])
| refine condJ_intro (fun h => ?_) (fun h => ?_) <;> (have h' := h; try simp only [HB] at h'; try rewrite [h]; try simp only [h])
| refine pickE_intro (fun h => ?_) (fun h => ?_) <;> (have h' := h; try simp only [HB] at h'; try rewrite [h]; try simp only [h])
| refine gdD_intro (fun h => ?_) (fun h => ?_) <;> (have h' := h; try simp only [HB] at h'; try rewrite [h]; try simp only [h])
| refine ct_I ?_
| refine callG_I ?_ ?_
| refine callG_Iv ?_ ?_
| refine drJ_I (by simp only [R31]; rfl) ?_
| refine ret_I (R := isR _) ?_
| refine nxt_I (fun hr => ?_) (fun q hq => ?_)
| refine isnil_I (fun hnil b => ?_) (fun hnil => ?_)
| (refine And.intro ?_ ?_; focus omega))
    refine loopS (L31_0.eq_1 0) [6, 7] (by simp only [V0, V1, V2, V25, reduceIte, Nat.reduceEqDiff]; rfl) (fun i => [(8, .i (iI i)), (2, .i (iI ((sizeXs (x.args.take i) + 1 : Nat) : Int)))]) (fun _ => []) (fun _ => True) x.args.length 0 (by omega) trivial ?_ ?_
    · simp [V0, V2, V11, V8, V15, sizeXs]
    · intro i hi _
      have hle := sizeXs_take_le x.args (i + 1)
      have hle0 := sizeXs_take_le x.args i
      by_cases hi' : i < x.args.length
      · have hsi := sizeXs_take x.args i hi'
        have hlt := sizeX_pos x.args[i]
        rw [← getD_lt hi'] at hsi hlt
        have i1 := ih (x.args.getD i default) (by omega) (by omega)
        (repeat' first
| exact hole _
| simp (maxSteps := 9999999) (disch := omega) only [go_sem, reduceCtorEq, Int.reduceToNat, Int.reduceNeg, Int.reduceLT, Int.reduceLE, Int.reduceEq, Int.reduceAdd, Int.reduceSub, Int.reduceMul, Nat.reduceAdd, Nat.reduceSub, Nat.reduceMul, Nat.reduceEqDiff, Nat.reduceBEq, Nat.reduceBneDiff, Nat.reduceLeDiff, Nat.reduceLT, reduceIte, R31]
| refine' gdV_sc' rfl rfl (by simp only [V0, V1, Nat.reduceEqDiff, reduceIte]) (fun hq => ?_) (fun f => ?_) <;> try (have hq' := hq; try simp only [HB] at hq')
| refine' gdD_sc' rfl rfl (by simp only [V0, V1, Nat.reduceEqDiff, reduceIte]) (fun hq => ?_) (fun f => ?_) <;> try (have hq' := hq; try simp only [HB] at hq')
| refine gdV_intro (fun h => ?_) (fun h => ?_) <;> (have h' := h; try simp only [HB] at h'; try rewrite [h]; try simp only [h])
| refine condJ_intro (fun h => ?_) (fun h => ?_) <;> (have h' := h; try simp only [HB] at h'; try rewrite [h]; try simp only [h])
| refine pickE_intro (fun h => ?_) (fun h => ?_) <;> (have h' := h; try simp only [HB] at h'; try rewrite [h]; try simp only [h])
| refine gdD_intro (fun h => ?_) (fun h => ?_) <;> (have h' := h; try simp only [HB] at h'; try rewrite [h]; try simp only [h])
| refine callL_of (i1) ?_
| refine ct_I ?_
| refine callG_I ?_ ?_
| refine callG_Iv ?_ ?_
| refine drJ_I (by simp only [R31]; rfl) ?_
| refine ret_I (R := isR _) ?_
| refine nxt_I (fun hr => ?_) (fun q hq => ?_)
| refine isnil_I (fun hnil b => ?_) (fun hnil => ?_)
| (refine And.intro ?_ ?_; focus omega))
        · refine congrArg (fun n => D.i (I.int .i64 n)) ?_; omega
        · exfalso; omega
      · (repeat' first
| exact hole _
| simp (maxSteps := 9999999) (disch := omega) only [go_sem, reduceCtorEq, Int.reduceToNat, Int.reduceNeg, Int.reduceLT, Int.reduceLE, Int.reduceEq, Int.reduceAdd, Int.reduceSub, Int.reduceMul, Nat.reduceAdd, Nat.reduceSub, Nat.reduceMul, Nat.reduceEqDiff, Nat.reduceBEq, Nat.reduceBneDiff, Nat.reduceLeDiff, Nat.reduceLT, reduceIte, R31]
| refine' gdV_sc' rfl rfl (by simp only [V0, V1, Nat.reduceEqDiff, reduceIte]) (fun hq => ?_) (fun f => ?_) <;> try (have hq' := hq; try simp only [HB] at hq')
| refine' gdD_sc' rfl rfl (by simp only [V0, V1, Nat.reduceEqDiff, reduceIte]) (fun hq => ?_) (fun f => ?_) <;> try (have hq' := hq; try simp only [HB] at hq')
| refine gdV_intro (fun h => ?_) (fun h => ?_) <;> (have h' := h; try simp only [HB] at h'; try rewrite [h]; try simp only [h])
| refine condJ_intro (fun h => ?_) (fun h => ?_) <;> (have h' := h; try simp only [HB] at h'; try rewrite [h]; try simp only [h])
| refine pickE_intro (fun h => ?_) (fun h => ?_) <;> (have h' := h; try simp only [HB] at h'; try rewrite [h]; try simp only [h])
| refine gdD_intro (fun h => ?_) (fun h => ?_) <;> (have h' := h; try simp only [HB] at h'; try rewrite [h]; try simp only [h])
| refine ct_I ?_
| refine callG_I ?_ ?_
| refine callG_Iv ?_ ?_
| refine drJ_I (by simp only [R31]; rfl) ?_
| refine ret_I (R := isR _) ?_
| refine nxt_I (fun hr => ?_) (fun q hq => ?_)
| refine isnil_I (fun hnil b => ?_) (fun hnil => ?_)
| (refine And.intro ?_ ?_; focus omega))
        · exfalso; omega
        · refine congrArg (I.int .i64) ?_
          have e : i = x.args.length := by omega
          rw [e, List.take_length]; omega
theorem depthXs_take (l : List Xpr) (k : Nat) (h : k < l.length) : depthXs (l.take (k + 1)) = max (depthXs (l.take k)) (depthX l[k]) := by
  induction l generalizing k with
  | nil => simp at h
  | cons x l ih =>
    cases k with
    | zero => simp [depthXs]
    | succ k => simp only [List.take_succ_cons, depthXs, List.getElem_cons_succ]; rw [ih k (by simpa using h)]; omega
theorem depthX_args (x : Xpr) : depthX x = depthXs x.args + 1 := by cases x; rfl
mutual
theorem depth_size : ∀ x : Xpr, depthX x ≤ sizeX x
  | .mk _ _ _ _ _ _ _ _ a => by have := depths_sizes a; simp only [depthX, sizeX]; omega
theorem depths_sizes : ∀ l : List Xpr, depthXs l ≤ sizeXs l
  | [] => by simp [depthXs]
  | x :: r => by have := depth_size x; have := depths_sizes r; simp only [depthXs, sizeXs]; omega
end
theorem Depth_is : ∀ (m : Nat) (x : Xpr), sizeX x ≤ m → sizeX x ≤ 1073741824 → Is mx 32 [.agg (eE x)] (iI (depthX x)) := by
  intro m
  induction m with
  | zero => intro x h; have := sizeX_args x; omega
  | succ m ih =>
    intro x hm hb
    have hsz := sizeX_args x
    have hlen := len_sizeXs x.args
    have hds := depths_sizes x.args
    have hda := depthX_args x
    refine MC_of_J Tryz.func32 (by kernel_rfl) Tryz.ntmps32 rfl rfl comp32 rv32 rfl c32.eq_1 ?_
    (repeat' first
| exact hole _
| simp (maxSteps := 9999999) (disch := omega) only [go_sem, reduceCtorEq, Int.reduceToNat, Int.reduceNeg, Int.reduceLT, Int.reduceLE, Int.reduceEq, Int.reduceAdd, Int.reduceSub, Int.reduceMul, Nat.reduceAdd, Nat.reduceSub, Nat.reduceMul, Nat.reduceEqDiff, Nat.reduceBEq, Nat.reduceBneDiff, Nat.reduceLeDiff, Nat.reduceLT, reduceIte, R32]
| refine' gdV_sc' rfl rfl (by simp only [V0, V1, Nat.reduceEqDiff, reduceIte]) (fun hq => ?_) (fun f => ?_) <;> try (have hq' := hq; try simp only [HB] at hq')
| refine' gdD_sc' rfl rfl (by simp only [V0, V1, Nat.reduceEqDiff, reduceIte]) (fun hq => ?_) (fun f => ?_) <;> try (have hq' := hq; try simp only [HB] at hq')
| refine gdV_intro (fun h => ?_) (fun h => ?_) <;> (have h' := h; try simp only [HB] at h'; try rewrite [h]; try simp only [h])
| refine condJ_intro (fun h => ?_) (fun h => ?_) <;> (have h' := h; try simp only [HB] at h'; try rewrite [h]; try simp only [h])
| refine pickE_intro (fun h => ?_) (fun h => ?_) <;> (have h' := h; try simp only [HB] at h'; try rewrite [h]; try simp only [h])
| refine gdD_intro (fun h => ?_) (fun h => ?_) <;> (have h' := h; try simp only [HB] at h'; try rewrite [h]; try simp only [h])
| refine ct_I ?_
| refine callG_I ?_ ?_
| refine callG_Iv ?_ ?_
| refine drJ_I (by simp only [R32]; rfl) ?_
| refine ret_I (R := isR _) ?_
| refine nxt_I (fun hr => ?_) (fun q hq => ?_)
| refine isnil_I (fun hnil b => ?_) (fun hnil => ?_)
| (refine And.intro ?_ ?_; focus omega))
    refine loopS (L32_0.eq_1 0) [6, 7] (by simp only [V0, V1, V2, V25, reduceIte, Nat.reduceEqDiff]; rfl) (fun i => [(8, .i (iI i)), (2, .i (iI ((depthXs (x.args.take i) : Nat) : Int)))]) (fun _ => []) (fun _ => True) x.args.length 0 (by omega) trivial ?_ ?_
    · simp [V0, V2, V11, V8, V15, depthXs]
    · intro i hi _
      have hle := sizeXs_take_le x.args (i + 1)
      by_cases hi' : i < x.args.length
      · have hsi := sizeXs_take x.args i hi'
        have hdi := depthXs_take x.args i hi'
        have hlt := sizeX_pos x.args[i]
        rw [← getD_lt hi'] at hsi hdi hlt
        have i1 := ih (x.args.getD i default) (by omega) (by omega)
        (repeat' first
| exact hole _
| simp (maxSteps := 9999999) (disch := omega) only [go_sem, reduceCtorEq, Int.reduceToNat, Int.reduceNeg, Int.reduceLT, Int.reduceLE, Int.reduceEq, Int.reduceAdd, Int.reduceSub, Int.reduceMul, Nat.reduceAdd, Nat.reduceSub, Nat.reduceMul, Nat.reduceEqDiff, Nat.reduceBEq, Nat.reduceBneDiff, Nat.reduceLeDiff, Nat.reduceLT, reduceIte, R32]
| refine' gdV_sc' rfl rfl (by simp only [V0, V1, Nat.reduceEqDiff, reduceIte]) (fun hq => ?_) (fun f => ?_) <;> try (have hq' := hq; try simp only [HB] at hq')
| refine' gdD_sc' rfl rfl (by simp only [V0, V1, Nat.reduceEqDiff, reduceIte]) (fun hq => ?_) (fun f => ?_) <;> try (have hq' := hq; try simp only [HB] at hq')
| refine gdV_intro (fun h => ?_) (fun h => ?_) <;> (have h' := h; try simp only [HB] at h'; try rewrite [h]; try simp only [h])
| refine condJ_intro (fun h => ?_) (fun h => ?_) <;> (have h' := h; try simp only [HB] at h'; try rewrite [h]; try simp only [h])
| refine pickE_intro (fun h => ?_) (fun h => ?_) <;> (have h' := h; try simp only [HB] at h'; try rewrite [h]; try simp only [h])
| refine gdD_intro (fun h => ?_) (fun h => ?_) <;> (have h' := h; try simp only [HB] at h'; try rewrite [h]; try simp only [h])
| refine callL_of (i1) ?_
| refine ct_I ?_
| refine callG_I ?_ ?_
| refine callG_Iv ?_ ?_
| refine drJ_I (by simp only [R32]; rfl) ?_
| refine ret_I (R := isR _) ?_
| refine nxt_I (fun hr => ?_) (fun q hq => ?_)
| refine isnil_I (fun hnil b => ?_) (fun hnil => ?_)
| (refine And.intro ?_ ?_; focus omega))
        · refine congrArg (fun n => D.i (I.int .i64 n)) ?_; split <;> omega
        · exfalso; omega
      · (repeat' first
| exact hole _
| simp (maxSteps := 9999999) (disch := omega) only [go_sem, reduceCtorEq, Int.reduceToNat, Int.reduceNeg, Int.reduceLT, Int.reduceLE, Int.reduceEq, Int.reduceAdd, Int.reduceSub, Int.reduceMul, Nat.reduceAdd, Nat.reduceSub, Nat.reduceMul, Nat.reduceEqDiff, Nat.reduceBEq, Nat.reduceBneDiff, Nat.reduceLeDiff, Nat.reduceLT, reduceIte, R32]
| refine' gdV_sc' rfl rfl (by simp only [V0, V1, Nat.reduceEqDiff, reduceIte]) (fun hq => ?_) (fun f => ?_) <;> try (have hq' := hq; try simp only [HB] at hq')
| refine' gdD_sc' rfl rfl (by simp only [V0, V1, Nat.reduceEqDiff, reduceIte]) (fun hq => ?_) (fun f => ?_) <;> try (have hq' := hq; try simp only [HB] at hq')
| refine gdV_intro (fun h => ?_) (fun h => ?_) <;> (have h' := h; try simp only [HB] at h'; try rewrite [h]; try simp only [h])
| refine condJ_intro (fun h => ?_) (fun h => ?_) <;> (have h' := h; try simp only [HB] at h'; try rewrite [h]; try simp only [h])
| refine pickE_intro (fun h => ?_) (fun h => ?_) <;> (have h' := h; try simp only [HB] at h'; try rewrite [h]; try simp only [h])
| refine gdD_intro (fun h => ?_) (fun h => ?_) <;> (have h' := h; try simp only [HB] at h'; try rewrite [h]; try simp only [h])
| refine ct_I ?_
| refine callG_I ?_ ?_
| refine callG_Iv ?_ ?_
| refine drJ_I (by simp only [R32]; rfl) ?_
| refine ret_I (R := isR _) ?_
| refine nxt_I (fun hr => ?_) (fun q hq => ?_)
| refine isnil_I (fun hnil b => ?_) (fun hnil => ?_)
| (refine And.intro ?_ ?_; focus omega))
        · exfalso; omega
        · have e : i = x.args.length := by omega
          subst e
          rw [List.take_length]
          refine congrArg (I.int .i64) ?_
          rw [wrap64 (by omega) (by omega)]; omega
end Go.Proofs.YtihbaggjjglcbaaGreatDoor
end

section
set_option maxRecDepth 100000
set_option maxHeartbeats 8000000
set_option linter.unusedVariables false
set_option linter.unusedSimpArgs false
namespace Go.Proofs.YtihbaggjjglcbaaGreatDoor
open Go Go.Dl Go.As Go.Proofs
variable {mx : Int}
attribute [local irreducible] callG callL MC W W2 evT ev evD step stepD
abbrev noTyp : Typ := ⟨0, [], []⟩
def eRes (r : Typ × Int) : I := .tup [.agg (eTyp r.1), iI r.2]
def sameT (a b : Typ) : Typ × Int :=
  if a.kind ≠ b.kind ∨ a.of ≠ b.of then (noTyp, 5) else if a.unit ≠ b.unit then (noTyp, 70) else (a, 0)
theorem same_is (a b : Typ) (ha : a.unit.length ≤ 1073741824) : Is mx 45 [.agg (eTyp a), .agg (eTyp b)] (eRes (sameT a b)) := by
  refine MC_of_J Tryz.func45 (by kernel_rfl) Tryz.ntmps45 rfl rfl comp45 rv45 rfl c45.eq_1 ?_
  (repeat' first
| exact hole _
| simp (maxSteps := 9999999) (disch := omega) only [go_sem, reduceCtorEq, Int.reduceToNat, Int.reduceNeg, Int.reduceLT, Int.reduceLE, Int.reduceEq, Int.reduceAdd, Int.reduceSub, Int.reduceMul, Nat.reduceAdd, Nat.reduceSub, Nat.reduceMul, Nat.reduceEqDiff, Nat.reduceBEq, Nat.reduceBneDiff, Nat.reduceLeDiff, Nat.reduceLT, reduceIte, R45]
| refine' gdV_sc' rfl rfl (by simp only [V0, V1, Nat.reduceEqDiff, reduceIte]) (fun hq => ?_) (fun f => ?_) <;> try (have hq' := hq; try simp only [HB] at hq')
| refine' gdD_sc' rfl rfl (by simp only [V0, V1, Nat.reduceEqDiff, reduceIte]) (fun hq => ?_) (fun f => ?_) <;> try (have hq' := hq; try simp only [HB] at hq')
| refine gdV_intro (fun h => ?_) (fun h => ?_) <;> (have h' := h; try simp only [HB] at h'; try rewrite [h]; try simp only [h])
| refine condJ_intro (fun h => ?_) (fun h => ?_) <;> (have h' := h; try simp only [HB] at h'; try rewrite [h]; try simp only [h])
| refine pickE_intro (fun h => ?_) (fun h => ?_) <;> (have h' := h; try simp only [HB] at h'; try rewrite [h]; try simp only [h])
| refine gdD_intro (fun h => ?_) (fun h => ?_) <;> (have h' := h; try simp only [HB] at h'; try rewrite [h]; try simp only [h])
| refine callL_of (fail_is _) ?_
| refine callL_of (Same_is _ _ (by omega)) ?_
| refine ct_I ?_
| refine callG_I ?_ ?_
| refine callG_Iv ?_ ?_
| refine drJ_I (by simp only [R45]; rfl) ?_
| refine ret_I (R := isR _) ?_
| refine nxt_I (fun hr => ?_) (fun q hq => ?_)
| refine isnil_I (fun hnil b => ?_) (fun hnil => ?_)
| (refine And.intro ?_ ?_; focus omega))
  all_goals (simp_all [sameT, eRes, eTyp])
end Go.Proofs.YtihbaggjjglcbaaGreatDoor
end

section
set_option maxRecDepth 100000
set_option maxHeartbeats 8000000
set_option linter.unusedVariables false
set_option linter.unusedSimpArgs false
namespace Go.Proofs.YtihbaggjjglcbaaGreatDoor
open Go Go.Dl Go.As Go.Proofs
variable {mx : Int}
attribute [local irreducible] callG callL MC W W2 evT ev evD step stepD
/-- Texts are equal, or not. -/
def eqS (a b : List UInt8) : Bool := decide (a = b)
def neS (a b : List UInt8) : Bool := decide (a ≠ b)
def vNum (v : Val) : Bool := decide (v.kind = 2) || decide (v.kind = 3)
def vLet (v : Val) : Bool := decide (v.kind = 4) || decide (v.kind = 5)
def badB (low : Int) (c : UInt8) : Bool := decide ((c.toNat : Int) < low) || decide (126 < (c.toNat : Int)) || decide ((c.toNat : Int) = 34) || decide ((c.toNat : Int) = 92)
def valCheck (v : Val) : Int :=
  if (decide (v.kind < 0) || decide (5 < v.kind)) = true then 1
  else if (!vLet v && neS v.s []) = true then 1
  else if (!vNum v && decide (v.n ≠ 0) && (decide (v.kind ≠ 1) || decide (v.n ≠ 1))) = true then 1
  else if (decide (v.n < -1152921504606846976) || decide (1152921504606846976 < v.n)) = true then 2
  else if (!vLet v) = true then 0
  else if decide (v.kind = 5) = true then
    if decide (32 < (v.s.length : Int)) = true then 2 else if (decide (v.kind = 5) && eqS v.s []) = true then 3 else if v.s.any (badB 33) = true then 3 else 0
  else if decide (64 < (v.s.length : Int)) = true then 2 else if v.s.any (badB 32) = true then 3 else 0
theorem val_loop (v : Val) (low : Int) (hv : valCheck v = if v.s.any (badB low) = true then 3 else 0) {e : Env} (h0 : Dl.Sub ⟨.l [(89, .i (iI 0)), (1, .i (.elt (eVal v) 0)), (6, .i (.int .u8 low)), (88, .i (iI v.s.length))], []⟩ ⟨e, []⟩) (hlen : v.s.length ≤ 64)
    (hs : snap e [1, 6, 88] = [(1, .i (.elt (eVal v) 0)), (6, .i (.int .u8 low)), (88, .i (iI v.s.length))]) :
    W2 Tryz.prog (GLm mx) (.lp L17_0 0) (blockK 1 (prnK [] (W2 Tryz.prog (GLm mx) (.sq [2] (.rg R17 26) .ret)) (bodyK [.tmp 2] [] [] (isR (iI (valCheck v)))))) ⟨e, []⟩ := by
  refine loopS (L17_0.eq_1 0) _ hs (fun i => [(89, .i (iI i))]) (fun _ => []) (fun i => (v.s.take i).all (fun c => !badB low c) = true) v.s.length 0 (by omega) (by simp) h0 ?_
  intro i hi hinv
  (repeat' first
| exact hole _
| simp (maxSteps := 9999999) (disch := omega) only [go_sem, reduceCtorEq, Int.reduceToNat, Int.reduceNeg, Int.reduceLT, Int.reduceLE, Int.reduceEq, Int.reduceAdd, Int.reduceSub, Int.reduceMul, Nat.reduceAdd, Nat.reduceSub, Nat.reduceMul, Nat.reduceEqDiff, Nat.reduceBEq, Nat.reduceBneDiff, Nat.reduceLeDiff, Nat.reduceLT, reduceIte, R17]
| refine' gdV_sc' rfl rfl (by simp only [V0, V1, Nat.reduceEqDiff, reduceIte]) (fun hq => ?_) (fun f => ?_) <;> try (have hq' := hq; try simp only [HB] at hq')
| refine' gdD_sc' rfl rfl (by simp only [V0, V1, Nat.reduceEqDiff, reduceIte]) (fun hq => ?_) (fun f => ?_) <;> try (have hq' := hq; try simp only [HB] at hq')
| refine gdV_intro (fun h => ?_) (fun h => ?_) <;> (have h' := h; try simp only [HB] at h'; try rewrite [h]; try simp only [h])
| refine condJ_intro (fun h => ?_) (fun h => ?_) <;> (have h' := h; try simp only [HB] at h'; try rewrite [h]; try simp only [h])
| refine pickE_intro (fun h => ?_) (fun h => ?_) <;> (have h' := h; try simp only [HB] at h'; try rewrite [h]; try simp only [h])
| refine gdD_intro (fun h => ?_) (fun h => ?_) <;> (have h' := h; try simp only [HB] at h'; try rewrite [h]; try simp only [h])
| refine ct_I ?_
| refine callG_I ?_ ?_
| refine callG_Iv ?_ ?_
| refine drJ_I (by simp only [R17]; rfl) ?_
| refine ret_I (R := isR _) ?_
| refine nxt_I (fun hr => ?_) (fun q hq => ?_)
| refine isnil_I (fun hnil b => ?_) (fun hnil => ?_)
| (refine And.intro ?_ ?_; focus omega))
  · have : v.s.any (badB low) = true := by
      rw [List.any_eq_true]
      have hi' : i < v.s.length := by omega
      refine ⟨v.s.getD i 0, ?_, h⟩
      simp only [List.getD, List.getElem?_eq_getElem hi', Option.getD_some]; exact List.getElem_mem hi'
    rw [hv, if_pos this]
  · exact all_take (d := 0) hinv (by omega) (by rw [show badB low (v.s.getD i 0) = false from h]; rfl)
  · have e : i = v.s.length := by omega
    rw [e, List.take_length] at hinv
    have : v.s.any (badB low) = false := by
      rw [List.any_eq_false]
      rw [List.all_eq_true] at hinv
      intro x hx
      have := hinv x hx
      simpa using this
    rw [hv, this]; rfl
theorem valCheck_is (v : Val) : Is mx 17 [.agg (eVal v)] (iI (valCheck v)) := by
  refine MC_of_J Tryz.func17 (by kernel_rfl) Tryz.ntmps17 rfl rfl comp17 rv17 rfl c17.eq_1 ?_
  (repeat' first
| exact hole _
| simp (maxSteps := 9999999) (disch := omega) only [go_sem, reduceCtorEq, Int.reduceToNat, Int.reduceNeg, Int.reduceLT, Int.reduceLE, Int.reduceEq, Int.reduceAdd, Int.reduceSub, Int.reduceMul, Nat.reduceAdd, Nat.reduceSub, Nat.reduceMul, Nat.reduceEqDiff, Nat.reduceBEq, Nat.reduceBneDiff, Nat.reduceLeDiff, Nat.reduceLT, reduceIte, R17]
| refine' gdV_sc' rfl rfl (by simp only [V0, V1, Nat.reduceEqDiff, reduceIte]) (fun hq => ?_) (fun f => ?_) <;> try (have hq' := hq; try simp only [HB] at hq')
| refine' gdD_sc' rfl rfl (by simp only [V0, V1, Nat.reduceEqDiff, reduceIte]) (fun hq => ?_) (fun f => ?_) <;> try (have hq' := hq; try simp only [HB] at hq')
| refine gdV_intro (fun h => ?_) (fun h => ?_) <;> (have h' := h; try simp only [HB] at h'; try rewrite [h]; try simp only [h])
| refine condJ_intro (fun h => ?_) (fun h => ?_) <;> (have h' := h; try simp only [HB] at h'; try rewrite [h]; try simp only [h])
| refine pickE_intro (fun h => ?_) (fun h => ?_) <;> (have h' := h; try simp only [HB] at h'; try rewrite [h]; try simp only [h])
| refine gdD_intro (fun h => ?_) (fun h => ?_) <;> (have h' := h; try simp only [HB] at h'; try rewrite [h]; try simp only [h])
| refine ct_I ?_
| refine callG_I ?_ ?_
| refine callG_Iv ?_ ?_
| refine drJ_I (by simp only [R17]; rfl) ?_
| refine ret_I (R := isR _) ?_
| refine nxt_I (fun hr => ?_) (fun q hq => ?_)
| refine isnil_I (fun hnil b => ?_) (fun hnil => ?_)
| (refine And.intro ?_ ?_; focus omega))
  all_goals try (refine congrArg (I.int .i64) ?_; simp only [valCheck, vLet, vNum, eqS, neS]; grind)
  · refine val_loop v 33 (by simp only [valCheck, vLet, vNum, eqS, neS]; grind) ?_ (by omega) rfl
    simp [V0, V2, V11, V8, V15, eVal]
  · refine val_loop v 32 (by simp only [valCheck, vLet, vNum, eqS, neS]; grind) ?_ (by omega) rfl
    simp [V0, V2, V11, V8, V15, eVal]
end Go.Proofs.YtihbaggjjglcbaaGreatDoor
end

section
set_option maxRecDepth 100000
set_option maxHeartbeats 8000000
set_option linter.unusedVariables false
set_option linter.unusedSimpArgs false
namespace Go.Proofs.YtihbaggjjglcbaaGreatDoor
open Go Go.Dl Go.As Go.Proofs
variable {mx : Int}
attribute [local irreducible] callG callL MC W W2 evT ev evD step stepD

theorem eE_eq (x : Xpr) : eE x = [.int .i64 x.kind, .str x.op, .str x.name, .str x.table, .int .i64 x.val.kind, .int .i64 x.val.n, .str x.val.s, .sl (x.unit.map eFac), .int .i64 x.param, .int .i64 x.win.kind, .int .i64 x.win.size, .sl (x.args.map eE)] := by
  cases x; simp [eE, eEs_map, Xpr.kind, Xpr.op, Xpr.name, Xpr.table, Xpr.val, Xpr.unit, Xpr.param, Xpr.win, Xpr.args]
theorem ltT {i n : Nat} (h : i < n) : ((i : Int) < (n : Int)) = True := by simp; omega
theorem ltF {i n : Nat} (h : ¬ i < n) : ((i : Int) < (n : Int)) = False := by simp; omega
/-- Bulk. -/
def bFac (f : Fac) : Nat := f.name.length + 1
def bSum {α : Type} (b : α → Nat) : List α → Nat
  | [] => 0
  | x :: r => b x + bSum b r
def bVal (v : Val) : Nat := v.s.length + 1
def bTyp (t : Typ) : Nat := bSum bFac t.unit + t.of.length + 1
mutual
def bX : Xpr → Nat
  | .mk _ o n t v u _ _ a => o.length + n.length + t.length + bVal v + bSum bFac u + bXs a + 1
def bXs : List Xpr → Nat
  | [] => 0
  | x :: r => bX x + bXs r
end
theorem bSum_len {α : Type} {b : α → Nat} (h : ∀ x, 1 ≤ b x) : ∀ l, l.length ≤ bSum b l
  | [] => by simp [bSum]
  | x :: r => by have := h x; have := bSum_len h r; simp only [List.length_cons, bSum]; omega
theorem bSum_mem {α : Type} {b : α → Nat} : ∀ {l : List α} {x : α}, x ∈ l → b x ≤ bSum b l
  | y :: r, x, h => by
    simp only [bSum]
    rcases List.mem_cons.1 h with e | e
    · subst e; omega
    · have := bSum_mem (b := b) e; omega
theorem bFac_len (u : List Fac) : u.length ≤ bSum bFac u := bSum_len (fun f => by unfold bFac; omega) u
theorem bXs_sum : ∀ l, bXs l = bSum bX l
  | [] => rfl
  | x :: r => by simp [bXs, bSum, bXs_sum r]
theorem bX_eq (x : Xpr) : bX x = x.op.length + x.name.length + x.table.length + bVal x.val + bSum bFac x.unit + bSum bX x.args + 1 := by
  cases x; simp only [bX, bXs_sum]; rfl
theorem bX_unit (x : Xpr) : x.unit.length ≤ bX x := by have := bX_eq x; have := bFac_len x.unit; omega
theorem bX_arg {x a : Xpr} (h : a ∈ x.args) : bX a < bX x := by have := bX_eq x; have := bSum_mem (b := bX) h; omega
mutual
theorem sizeX_bX : ∀ x, sizeX x ≤ bX x
  | .mk _ o n t v u _ _ a => by have := sizeXs_bXs a; simp only [sizeX, bX]; omega
theorem sizeXs_bXs : ∀ l, sizeXs l ≤ bXs l
  | [] => by simp [sizeXs, bXs]
  | x :: r => by have := sizeX_bX x; have := sizeXs_bXs r; simp only [sizeXs, bXs]; omega
end
theorem bX_len (x : Xpr) : x.args.length ≤ bX x := by have := bX_eq x; have := bSum_len (b := bX) (fun y => by have := bX_eq y; omega) x.args; omega
abbrev noWin : Win := ⟨0, 0⟩
abbrev noVal : Val := ⟨0, 0, []⟩
def hasS (l : List Str) (x : Str) : Bool := l.any fun y => decide (x = y)
def wantX (x : Xpr) : Xpr :=
  if x.kind = 1 then .mk x.kind [] x.name [] x.val x.unit 0 noWin []
  else if x.kind = 2 ∨ x.kind = 3 ∨ x.kind = 4 then .mk x.kind [] x.name [] noVal [] 0 noWin []
  else if x.kind = 5 then .mk x.kind x.op [] x.table noVal [] x.param x.win []
  else if x.kind = 6 ∨ x.kind = 7 then .mk x.kind x.op [] [] noVal [] 0 noWin []
  else .mk x.kind [] [] [] noVal [] 0 noWin []
def manyX (k : Int) : Int := if k = 4 ∨ k = 6 then 1 else if k = 5 ∨ k = 7 ∨ k = 9 then 2 else if k = 8 then 3 else 0
def sQuantile : Str := [113, 117, 97, 110, 116, 105, 108, 101]
def sDecay : Str := [100, 101, 99, 97, 121]
def sCount : Str := [99, 111, 117, 110, 116]
def lowP (op : Str) : Int := if op = sQuantile then 1 else if op = sDecay then 1 else 0
def highP (op : Str) : Int := if op = sQuantile then 1000 else if op = sDecay then 1073741824 else 0
def winOk (w : Win) : Bool := !(decide (w.kind < 1) || decide (4 < w.kind) || (decide (w.kind = 1) != decide (w.size = 0)) || decide (w.size < 0) || decide (1099511627776 < w.size))
def litOk (x : Xpr) : Bool := decide (valCheck x.val = 0) && !decide (x.val.n < 0) && decide (typeOk ⟨x.val.kind, x.unit, x.name⟩ = 0)
def aggOk (x : Xpr) (inside : Bool) : Bool := !inside && hasS names0 x.op && nameOk x.table && !decide (x.param < lowP x.op) && !decide (highP x.op < x.param) && winOk x.win
def headOk (x : Xpr) (inside : Bool) : Bool :=
  if x.kind = 1 then litOk x
  else if x.kind = 2 ∨ x.kind = 3 ∨ x.kind = 4 then (inside == decide (x.kind = 2)) && nameOk x.name
  else if x.kind = 5 then aggOk x inside
  else if x.kind = 6 then hasS names1 x.op
  else if x.kind = 7 then hasS names2 x.op
  else decide (x.kind = 8) || decide (x.kind = 9)
def trueX : Xpr := .mk 1 [] [] [] ⟨1, 1, []⟩ [] 0 noWin []
def bareOk (x : Xpr) : Bool := bareEq x (wantX x)
mutual
def properX : Xpr → Bool → Bool
  | .mk k o n t v u p w a, inside => headOk (.mk k o n t v u p w a) inside && bareOk (.mk k o n t v u p w a) && decide ((a.length : Int) = manyX k) && properXs a (inside || decide (k = 5)) && (!(decide (o = sCount) && decide (k = 5)) || bareEq (a.getD 0 default) trueX)
def properXs : List Xpr → Bool → Bool
  | [], _ => true
  | x :: r, inside => properX x inside && properXs r inside
end
theorem properX_eq (x : Xpr) (inside : Bool) : properX x inside = (headOk x inside && bareOk x && decide ((x.args.length : Int) = manyX x.kind) && properXs x.args (inside || decide (x.kind = 5)) && (!(decide (x.op = sCount) && decide (x.kind = 5)) || bareEq (x.args.getD 0 default) trueX)) := by
  cases x; simp only [properX, Xpr.args, Xpr.kind, Xpr.op]; rfl
theorem properXs_all (l : List Xpr) (inside : Bool) : properXs l inside = l.all fun x => properX x inside := by
  induction l with
  | nil => rfl
  | cons x r ih => simp [properXs, ih]
def shapeX (x : Xpr) : Int := if 64 < sizeX x ∨ 12 < depthX x then 2 else if properX x false then 0 else 3

end Go.Proofs.YtihbaggjjglcbaaGreatDoor
end

section
set_option maxRecDepth 100000
set_option maxHeartbeats 8000000
set_option linter.unusedVariables false
set_option linter.unusedSimpArgs false
namespace Go.Proofs.YtihbaggjjglcbaaGreatDoor
open Go Go.Dl Go.As Go.Proofs
variable {mx : Int}
attribute [local irreducible] callG callL MC W W2 evT ev evD step stepD

theorem proper_is : ∀ (m : Nat) (x : Xpr) (inside : Bool), bX x ≤ m → bX x ≤ 1073741824 → Is mx 35 [.agg (eE x), .bool inside] (.bool (properX x inside)) := by
  intro m
  induction m with
  | zero => intro x inside h; have := bX_eq x; omega
  | succ m ih =>
    intro x inside hm hu
    have hu := bX_unit x
    have hlen := bX_len x
    refine MC_of_J Tryz.func35 (by kernel_rfl) Tryz.ntmps35 rfl rfl comp35 rv35 rfl c35.eq_1 ?_
    (repeat' first
| exact hole _
| simp (maxSteps := 9999999) (disch := omega) only [go_sem, reduceCtorEq, Int.reduceToNat, Int.reduceNeg, Int.reduceLT, Int.reduceLE, Int.reduceEq, Int.reduceAdd, Int.reduceSub, Int.reduceMul, Nat.reduceAdd, Nat.reduceSub, Nat.reduceMul, Nat.reduceEqDiff, Nat.reduceBEq, Nat.reduceBneDiff, Nat.reduceLeDiff, Nat.reduceLT, reduceIte, R35]
| refine' gdV_sc' rfl rfl (by simp only [V0, V1, Nat.reduceEqDiff, reduceIte]) (fun hq => ?_) (fun f => ?_) <;> try (have hq' := hq; try simp only [HB] at hq')
| refine' gdD_sc' rfl rfl (by simp only [V0, V1, Nat.reduceEqDiff, reduceIte]) (fun hq => ?_) (fun f => ?_) <;> try (have hq' := hq; try simp only [HB] at hq')
| refine gdV_intro (fun h => ?_) (fun h => ?_) <;> (have h' := h; try simp only [HB] at h'; try rewrite [h]; try simp only [h])
| refine condJ_intro (fun h => ?_) (fun h => ?_) <;> (have h' := h; try simp only [HB] at h'; try rewrite [h]; try simp only [h])
| refine pickE_intro (fun h => ?_) (fun h => ?_) <;> (have h' := h; try simp only [HB] at h'; try rewrite [h]; try simp only [h])
| refine gdD_intro (fun h => ?_) (fun h => ?_) <;> (have h' := h; try simp only [HB] at h'; try rewrite [h]; try simp only [h])
| refine callG_I ?_ ?_
| refine callG_Iv ?_ ?_
| refine drJ_I (by simp only [R35]; rfl) ?_
| refine ret_I (R := isR _) ?_
| refine nxt_I (fun hr => ?_) (fun q hq => ?_)
| refine isnil_I (fun hnil b => ?_) (fun hnil => ?_)
| (refine And.intro ?_ ?_; focus omega))
    refine cutS [2, 5] (by simp only [V0, V1, V2, V25, reduceIte, Nat.reduceEqDiff]; rfl) [(1, .i (.bool (inside || decide (x.kind = 5)))), (6, .i (iI (manyX x.kind)))] [(5, .cells ((eE (wantX x)).map .i))] (headOk x inside = true) ?_ (fun h1 => ?_)
    · (repeat' first
| exact hole _
| simp (maxSteps := 9999999) (disch := omega) only [go_sem, reduceCtorEq, Int.reduceToNat, Int.reduceNeg, Int.reduceLT, Int.reduceLE, Int.reduceEq, Int.reduceAdd, Int.reduceSub, Int.reduceMul, Nat.reduceAdd, Nat.reduceSub, Nat.reduceMul, Nat.reduceEqDiff, Nat.reduceBEq, Nat.reduceBneDiff, Nat.reduceLeDiff, Nat.reduceLT, reduceIte, R35, GLe]
| refine' gdV_sc' rfl rfl (by simp only [V0, V1, Nat.reduceEqDiff, reduceIte]) (fun hq => ?_) (fun f => ?_) <;> try (have hq' := hq; try simp only [HB] at hq')
| refine' gdD_sc' rfl rfl (by simp only [V0, V1, Nat.reduceEqDiff, reduceIte]) (fun hq => ?_) (fun f => ?_) <;> try (have hq' := hq; try simp only [HB] at hq')
| refine gdV_intro (fun h => ?_) (fun h => ?_) <;> (have h' := h; try simp only [HB] at h'; try rewrite [h]; try simp only [h])
| refine condJ_intro (fun h => ?_) (fun h => ?_) <;> (have h' := h; try simp only [HB] at h'; try rewrite [h]; try simp only [h])
| refine pickE_intro (fun h => ?_) (fun h => ?_) <;> (have h' := h; try simp only [HB] at h'; try rewrite [h]; try simp only [h])
| refine gdD_intro (fun h => ?_) (fun h => ?_) <;> (have h' := h; try simp only [HB] at h'; try rewrite [h]; try simp only [h])
| refine callL_of (valCheck_is _) ?_
| refine callL_of (Type_is ⟨x.val.kind, x.unit, x.name⟩ (by show x.unit.length ≤ _; omega)) ?_
| refine callL_of (Name_is _) ?_
| refine callL_of (strHas_is _ _ (by decide)) ?_
| refine ct_I ?_
| refine callG_I ?_ ?_
| refine callG_Iv ?_ ?_
| refine drJ_I (by simp only [R35]; rfl) ?_
| refine ret_I (R := isR _) ?_
| refine nxt_I (fun hr => ?_) (fun q hq => ?_)
| refine isnil_I (fun hnil b => ?_) (fun hnil => ?_)
| (refine And.intro ?_ ?_; focus omega))
      all_goals first
        | (rw [properX_eq]; have e : headOk x inside = false := by
             simp only [headOk, litOk, aggOk, winOk, hasS, lowP, highP, sQuantile, sDecay]; grind
           rw [e]; rfl)
        | (and_intros <;> first
            | rfl
            | (simp only [headOk, litOk, aggOk, winOk, hasS, lowP, highP, sQuantile, sDecay]; grind)
            | (simp_all [manyX, wantX, eE_eq, Xpr.kind, Xpr.op, Xpr.name, Xpr.table, Xpr.val, Xpr.unit, Xpr.param, Xpr.win, Xpr.args]; done))
    (repeat' first
| exact hole _
| simp (maxSteps := 9999999) (disch := omega) only [go_sem, reduceCtorEq, Int.reduceToNat, Int.reduceNeg, Int.reduceLT, Int.reduceLE, Int.reduceEq, Int.reduceAdd, Int.reduceSub, Int.reduceMul, Nat.reduceAdd, Nat.reduceSub, Nat.reduceMul, Nat.reduceEqDiff, Nat.reduceBEq, Nat.reduceBneDiff, Nat.reduceLeDiff, Nat.reduceLT, reduceIte, R35]
| refine' gdV_sc' rfl rfl (by simp only [V0, V1, Nat.reduceEqDiff, reduceIte]) (fun hq => ?_) (fun f => ?_) <;> try (have hq' := hq; try simp only [HB] at hq')
| refine' gdD_sc' rfl rfl (by simp only [V0, V1, Nat.reduceEqDiff, reduceIte]) (fun hq => ?_) (fun f => ?_) <;> try (have hq' := hq; try simp only [HB] at hq')
| refine gdV_intro (fun h => ?_) (fun h => ?_) <;> (have h' := h; try simp only [HB] at h'; try rewrite [h]; try simp only [h])
| refine condJ_intro (fun h => ?_) (fun h => ?_) <;> (have h' := h; try simp only [HB] at h'; try rewrite [h]; try simp only [h])
| refine pickE_intro (fun h => ?_) (fun h => ?_) <;> (have h' := h; try simp only [HB] at h'; try rewrite [h]; try simp only [h])
| refine gdD_intro (fun h => ?_) (fun h => ?_) <;> (have h' := h; try simp only [HB] at h'; try rewrite [h]; try simp only [h])
| refine callL_of (bare_is _ _ (by omega)) ?_
| refine ct_I ?_
| refine callG_I ?_ ?_
| refine callG_Iv ?_ ?_
| refine drJ_I (by simp only [R35]; rfl) ?_
| refine ret_I (R := isR _) ?_
| refine nxt_I (fun hr => ?_) (fun q hq => ?_)
| refine isnil_I (fun hnil b => ?_) (fun hnil => ?_)
| (refine And.intro ?_ ?_; focus omega))
    · refine congrArg I.bool ?_
      rw [properX_eq, h1, bareOk]
      grind
    · have hb : bareOk x = true := by rw [bareOk]; grind
      have hl : (x.args.length : Int) = manyX x.kind := by grind
      refine loopS (L35_0.eq_1 0) [1, 2, 186, 187] (by simp only [V0, V1, V2, V25, reduceIte, Nat.reduceEqDiff]; rfl) (fun i => [(188, .i (iI i))]) (fun _ => []) (fun i => properXs (x.args.take i) (inside || decide (x.kind = 5)) = true) x.args.length 0 (by omega) rfl (by simp [V0, V1, V2, V11, V8, V15, Ref.nm]) ?_
      intro i hi hinv
      by_cases hi' : i < x.args.length
      · have hmem := getD_mem hi'
        have hba := bX_arg hmem
        have i1 := ih (x.args.getD i default) (inside || decide (x.kind = 5)) (by omega) (by omega)
        (repeat' first
| exact hole _
| simp (maxSteps := 9999999) (disch := omega) only [go_sem, reduceCtorEq, Int.reduceToNat, Int.reduceNeg, Int.reduceLT, Int.reduceLE, Int.reduceEq, Int.reduceAdd, Int.reduceSub, Int.reduceMul, Nat.reduceAdd, Nat.reduceSub, Nat.reduceMul, Nat.reduceEqDiff, Nat.reduceBEq, Nat.reduceBneDiff, Nat.reduceLeDiff, Nat.reduceLT, reduceIte, R35, ltT hi']
| refine' gdV_sc' rfl rfl (by simp only [V0, V1, Nat.reduceEqDiff, reduceIte]) (fun hq => ?_) (fun f => ?_) <;> try (have hq' := hq; try simp only [HB] at hq')
| refine' gdD_sc' rfl rfl (by simp only [V0, V1, Nat.reduceEqDiff, reduceIte]) (fun hq => ?_) (fun f => ?_) <;> try (have hq' := hq; try simp only [HB] at hq')
| refine gdV_intro (fun h => ?_) (fun h => ?_) <;> (have h' := h; try simp only [HB] at h'; try rewrite [h]; try simp only [h])
| refine condJ_intro (fun h => ?_) (fun h => ?_) <;> (have h' := h; try simp only [HB] at h'; try rewrite [h]; try simp only [h])
| refine pickE_intro (fun h => ?_) (fun h => ?_) <;> (have h' := h; try simp only [HB] at h'; try rewrite [h]; try simp only [h])
| refine gdD_intro (fun h => ?_) (fun h => ?_) <;> (have h' := h; try simp only [HB] at h'; try rewrite [h]; try simp only [h])
| refine callL_of (i1) ?_
| refine ct_I ?_
| refine callG_I ?_ ?_
| refine callG_Iv ?_ ?_
| refine drJ_I (by simp only [R35]; rfl) ?_
| refine ret_I (R := isR _) ?_
| refine nxt_I (fun hr => ?_) (fun q hq => ?_)
| refine isnil_I (fun hnil b => ?_) (fun hnil => ?_)
| (refine And.intro ?_ ?_; focus omega))
        · refine congrArg I.bool ?_
          rw [properX_eq, properXs_all]
          have : (x.args.all fun y => properX y (inside || decide (x.kind = 5))) = false := by
            rw [List.all_eq_false]; exact ⟨_, hmem, by rw [h']; simp⟩
          rw [this]; simp
        · rw [properXs_all] at hinv ⊢
          exact all_take (d := default) hinv hi' h'
      · have e : i = x.args.length := by omega
        rw [e, List.take_length] at hinv
        (repeat' first
| exact hole _
| simp (maxSteps := 9999999) (disch := omega) only [go_sem, reduceCtorEq, Int.reduceToNat, Int.reduceNeg, Int.reduceLT, Int.reduceLE, Int.reduceEq, Int.reduceAdd, Int.reduceSub, Int.reduceMul, Nat.reduceAdd, Nat.reduceSub, Nat.reduceMul, Nat.reduceEqDiff, Nat.reduceBEq, Nat.reduceBneDiff, Nat.reduceLeDiff, Nat.reduceLT, reduceIte, R35, ltF hi']
| refine' gdV_sc' rfl rfl (by simp only [V0, V1, Nat.reduceEqDiff, reduceIte]) (fun hq => ?_) (fun f => ?_) <;> try (have hq' := hq; try simp only [HB] at hq')
| refine' gdD_sc' rfl rfl (by simp only [V0, V1, Nat.reduceEqDiff, reduceIte]) (fun hq => ?_) (fun f => ?_) <;> try (have hq' := hq; try simp only [HB] at hq')
| refine gdV_intro (fun h => ?_) (fun h => ?_) <;> (have h' := h; try simp only [HB] at h'; try rewrite [h]; try simp only [h])
| refine condJ_intro (fun h => ?_) (fun h => ?_) <;> (have h' := h; try simp only [HB] at h'; try rewrite [h]; try simp only [h])
| refine pickE_intro (fun h => ?_) (fun h => ?_) <;> (have h' := h; try simp only [HB] at h'; try rewrite [h]; try simp only [h])
| refine gdD_intro (fun h => ?_) (fun h => ?_) <;> (have h' := h; try simp only [HB] at h'; try rewrite [h]; try simp only [h])
| refine ct_I ?_
| refine callG_I ?_ ?_
| refine callG_Iv ?_ ?_
| refine drJ_I (by simp only [R35]; rfl) ?_
| refine ret_I (R := isR _) ?_
| refine nxt_I (fun hr => ?_) (fun q hq => ?_)
| refine isnil_I (fun hnil b => ?_) (fun hnil => ?_)
| (refine And.intro ?_ ?_; focus omega))
        · have hk : x.kind = 5 := h'.2
          have hl2 : x.args.length = 2 := by rw [hk] at hl; simp [manyX] at hl; omega
          have hbl := bX_unit (x.args.getD 0 default)
          have hba := bX_arg (getD_mem (l := x.args) (n := 0) (by omega))
          have hb2 := bare_is (mx := mx) (x.args.getD 0 default) trueX (by omega)
          have e1 : eE trueX = [.int .i64 1, .str [], .str [], .str [], .int .i64 1, .int .i64 1, .str [], .sl [], .int .i64 0, .int .i64 0, .int .i64 0, .sl []] := by
            simp [trueX, eE_eq, Xpr.kind, Xpr.op, Xpr.name, Xpr.table, Xpr.val, Xpr.unit, Xpr.param, Xpr.win, Xpr.args]
          rw [e1] at hb2
          (repeat' first
| exact hole _
| simp (maxSteps := 9999999) (disch := omega) only [go_sem, reduceCtorEq, Int.reduceToNat, Int.reduceNeg, Int.reduceLT, Int.reduceLE, Int.reduceEq, Int.reduceAdd, Int.reduceSub, Int.reduceMul, Nat.reduceAdd, Nat.reduceSub, Nat.reduceMul, Nat.reduceEqDiff, Nat.reduceBEq, Nat.reduceBneDiff, Nat.reduceLeDiff, Nat.reduceLT, reduceIte, R35]
| refine' gdV_sc' rfl rfl (by simp only [V0, V1, Nat.reduceEqDiff, reduceIte]) (fun hq => ?_) (fun f => ?_) <;> try (have hq' := hq; try simp only [HB] at hq')
| refine' gdD_sc' rfl rfl (by simp only [V0, V1, Nat.reduceEqDiff, reduceIte]) (fun hq => ?_) (fun f => ?_) <;> try (have hq' := hq; try simp only [HB] at hq')
| refine gdV_intro (fun h => ?_) (fun h => ?_) <;> (have h' := h; try simp only [HB] at h'; try rewrite [h]; try simp only [h])
| refine condJ_intro (fun h => ?_) (fun h => ?_) <;> (have h' := h; try simp only [HB] at h'; try rewrite [h]; try simp only [h])
| refine pickE_intro (fun h => ?_) (fun h => ?_) <;> (have h' := h; try simp only [HB] at h'; try rewrite [h]; try simp only [h])
| refine gdD_intro (fun h => ?_) (fun h => ?_) <;> (have h' := h; try simp only [HB] at h'; try rewrite [h]; try simp only [h])
| refine callL_of (hb2) ?_
| refine ct_I ?_
| refine callG_I ?_ ?_
| refine callG_Iv ?_ ?_
| refine drJ_I (by simp only [R35]; rfl) ?_
| refine ret_I (R := isR _) ?_
| refine nxt_I (fun hr => ?_) (fun q hq => ?_)
| refine isnil_I (fun hnil b => ?_) (fun hnil => ?_)
| (refine And.intro ?_ ?_; focus omega))
          refine congrArg I.bool ?_
          rw [properX_eq, h1, hb, hinv]
          simp [hl, sCount, h']
        · refine congrArg I.bool ?_
          rw [properX_eq, h1, hb, hinv]
          simp only [hl, sCount]
          grind
theorem Shape_is (x : Xpr) (hx : bX x ≤ 1073741824) : Is mx 11 [.agg (eE x)] (iI (shapeX x)) := by
  have hs := sizeX_bX x
  refine MC_of_J Tryz.func11 (by kernel_rfl) Tryz.ntmps11 rfl rfl comp11 rv11 rfl c11.eq_1 ?_
  (repeat' first
| exact hole _
| simp (maxSteps := 9999999) (disch := omega) only [go_sem, reduceCtorEq, Int.reduceToNat, Int.reduceNeg, Int.reduceLT, Int.reduceLE, Int.reduceEq, Int.reduceAdd, Int.reduceSub, Int.reduceMul, Nat.reduceAdd, Nat.reduceSub, Nat.reduceMul, Nat.reduceEqDiff, Nat.reduceBEq, Nat.reduceBneDiff, Nat.reduceLeDiff, Nat.reduceLT, reduceIte, R11]
| refine' gdV_sc' rfl rfl (by simp only [V0, V1, Nat.reduceEqDiff, reduceIte]) (fun hq => ?_) (fun f => ?_) <;> try (have hq' := hq; try simp only [HB] at hq')
| refine' gdD_sc' rfl rfl (by simp only [V0, V1, Nat.reduceEqDiff, reduceIte]) (fun hq => ?_) (fun f => ?_) <;> try (have hq' := hq; try simp only [HB] at hq')
| refine gdV_intro (fun h => ?_) (fun h => ?_) <;> (have h' := h; try simp only [HB] at h'; try rewrite [h]; try simp only [h])
| refine condJ_intro (fun h => ?_) (fun h => ?_) <;> (have h' := h; try simp only [HB] at h'; try rewrite [h]; try simp only [h])
| refine pickE_intro (fun h => ?_) (fun h => ?_) <;> (have h' := h; try simp only [HB] at h'; try rewrite [h]; try simp only [h])
| refine gdD_intro (fun h => ?_) (fun h => ?_) <;> (have h' := h; try simp only [HB] at h'; try rewrite [h]; try simp only [h])
| refine callL_of (Size_is _ _ (Nat.le_refl _) (by omega)) ?_
| refine callL_of (Depth_is _ _ (Nat.le_refl _) (by omega)) ?_
| refine callL_of (proper_is _ _ _ (Nat.le_refl _) (by omega)) ?_
| refine ct_I ?_
| refine callG_I ?_ ?_
| refine callG_Iv ?_ ?_
| refine drJ_I (by simp only [R11]; rfl) ?_
| refine ret_I (R := isR _) ?_
| refine nxt_I (fun hr => ?_) (fun q hq => ?_)
| refine isnil_I (fun hnil b => ?_) (fun hnil => ?_)
| (refine And.intro ?_ ?_; focus omega))
  all_goals (refine congrArg (I.int .i64) ?_; simp only [shapeX]; grind)

end Go.Proofs.YtihbaggjjglcbaaGreatDoor
end

section
set_option maxRecDepth 100000
set_option maxHeartbeats 8000000
set_option linter.unusedVariables false
set_option linter.unusedSimpArgs false
namespace Go.Proofs.YtihbaggjjglcbaaGreatDoor
open Go Go.Dl Go.As Go.Proofs
variable {mx : Int}
attribute [local irreducible] callG callL MC W W2 evT ev evD step stepD

theorem wrapU (x : Int) : IntKind.u64.wrap x = x % 18446744073709551616 := by
  simp [IntKind.wrap, IntKind.signed, IntKind.bits]
theorem wrapI (x : Int) : IntKind.i64.wrap x = (x + 9223372036854775808) % 18446744073709551616 - 9223372036854775808 := by
  simp [IntKind.wrap, IntKind.signed, IntKind.bits]
  omega
abbrev iU (n : Int) : I := .int .u64 n
/-- A number of 128 bits. -/
def eWide (n : Int) : List I := [iI (n / 18446744073709551616), iU (n % 18446744073709551616)]
theorem Of_is (n : Int) (h : -9223372036854775808 ≤ n ∧ n ≤ 9223372036854775807) : Is mx 79 [iI n] (.agg (eWide n)) := by
  refine MC_of_J Tryz.func79 (by kernel_rfl) Tryz.ntmps79 rfl rfl comp79 rv79 rfl c79.eq_1 ?_
  have e1 : n.fdiv (2 ^ Nat.min 63 64) = n / 18446744073709551616 := by
    rw [Int.fdiv_eq_ediv_of_nonneg _ (by decide)]; show n / (9223372036854775808) = _; omega
  have e2 := wrapU n
  (repeat' first
| exact hole _
| simp (maxSteps := 9999999) (disch := omega) only [go_sem, reduceCtorEq, Int.reduceToNat, Int.reduceNeg, Int.reduceLT, Int.reduceLE, Int.reduceEq, Int.reduceAdd, Int.reduceSub, Int.reduceMul, Nat.reduceAdd, Nat.reduceSub, Nat.reduceMul, Nat.reduceEqDiff, Nat.reduceBEq, Nat.reduceBneDiff, Nat.reduceLeDiff, Nat.reduceLT, reduceIte, R79, shV, IntKind.bits, e1, e2, eWide]
| refine' gdV_sc' rfl rfl (by simp only [V0, V1, Nat.reduceEqDiff, reduceIte]) (fun hq => ?_) (fun f => ?_) <;> try (have hq' := hq; try simp only [HB] at hq')
| refine' gdD_sc' rfl rfl (by simp only [V0, V1, Nat.reduceEqDiff, reduceIte]) (fun hq => ?_) (fun f => ?_) <;> try (have hq' := hq; try simp only [HB] at hq')
| refine gdV_intro (fun h => ?_) (fun h => ?_) <;> (have h' := h; try simp only [HB] at h'; try rewrite [h]; try simp only [h])
| refine condJ_intro (fun h => ?_) (fun h => ?_) <;> (have h' := h; try simp only [HB] at h'; try rewrite [h]; try simp only [h])
| refine pickE_intro (fun h => ?_) (fun h => ?_) <;> (have h' := h; try simp only [HB] at h'; try rewrite [h]; try simp only [h])
| refine gdD_intro (fun h => ?_) (fun h => ?_) <;> (have h' := h; try simp only [HB] at h'; try rewrite [h]; try simp only [h])
| refine ct_I ?_
| refine callG_I ?_ ?_
| refine callG_Iv ?_ ?_
| refine drJ_I (by simp only [R79]; rfl) ?_
| refine ret_I (R := isR _) ?_
| refine nxt_I (fun hr => ?_) (fun q hq => ?_)
| refine isnil_I (fun hnil b => ?_) (fun hnil => ?_)
| (refine And.intro ?_ ?_; focus omega))
  all_goals rfl
theorem repl_three {M : Mem} {x y z : I} {vs : Array Value} (h : RepL M [x, y, z] vs.toList) : ∃ v u t, vs = #[v, u, t] ∧ Rep M x v ∧ Rep M y u ∧ Rep M z t := by
  obtain ⟨hl, hr⟩ := h
  obtain ⟨l⟩ := vs
  match l, hl with
  | [v, u, t], _ => exact ⟨v, u, t, rfl, hr 0 (by simp) (by simp), hr 1 (by simp) (by simp), hr 2 (by simp) (by simp)⟩
theorem rep_int {M : Mem} {k : IntKind} {n : Int} {v : Value} (h : Rep M (.int k n) v) : v = .int k n := by cases h; rfl
theorem rep_pair {M : Mem} {k k' : IntKind} (a b : Int) : Rep M (.tup [.int k a, .int k' b]) (.tuple #[.int k a, .int k' b]) :=
  Rep.tup' (RepL.cons (.int _ _) (RepL.cons (.int _ _) (RepL.nil M)))
theorem Add64_is (x y c : Int) (hx : 0 ≤ x) (hy : 0 ≤ y) (hc : 0 ≤ c ∧ c ≤ 1) : Is mx 86 [iU x, iU y, iU c] (.tup [iU ((x + y + c) % 18446744073709551616), iU ((x + y + c) / 18446744073709551616)]) := by
  refine MC_of_val fun M w vs h => ?_
  obtain ⟨v, u, t, rfl, hv, hu, ht⟩ := repl_three h
  rw [rep_int hv, rep_int hu, rep_int ht]
  refine ⟨_, rep_pair _ _, ?_⟩
  rw [run_callFunc_extern Tryz.func86 (by kernel_rfl) (by kernel_rfl) (by kernel_rfl) (e := add64Entry) (by kernel_rfl), run_add64 x y c hx hy hc.1 hc.2]
  rfl
theorem Sub64_is (x y b : Int) (hx : 0 ≤ x) (hy : 0 ≤ y) (hb : 0 ≤ b ∧ b ≤ 1) (hy2 : y < 18446744073709551616) : Is mx 121 [iU x, iU y, iU b] (.tup [iU ((x - y - b) % 18446744073709551616), iU (if x < y + b then 1 else 0)]) := by
  refine MC_of_val fun M w vs h => ?_
  obtain ⟨v, u, t, rfl, hv, hu, ht⟩ := repl_three h
  rw [rep_int hv, rep_int hu, rep_int ht]
  refine ⟨_, rep_pair _ _, ?_⟩
  obtain ⟨X, rfl⟩ := Int.eq_ofNat_of_zero_le hx
  obtain ⟨Y, rfl⟩ := Int.eq_ofNat_of_zero_le hy
  obtain ⟨B, rfl⟩ := Int.eq_ofNat_of_zero_le hb.1
  rw [run_callFunc_extern Tryz.func121 (by kernel_rfl) (by kernel_rfl) (by kernel_rfl) (e := sub64Entry) (by kernel_rfl), run_sub64 X Y B (by omega)]
  have e1 : (((X + 18446744073709551616 - Y - B) % 18446744073709551616 : Nat) : Int) = ((X : Int) - Y - B) % 18446744073709551616 := by
    have : Y < 18446744073709551616 := by omega
    omega
  have e2 : ((if X < Y + B then 1 else 0 : Nat) : Int) = if (X : Int) < Y + B then 1 else 0 := by split <;> split <;> omega
  rw [e1, e2]; rfl
theorem ite01 (p : Prop) [Decidable p] : (0 : Int) ≤ (if p then 1 else 0) ∧ (if p then 1 else 0 : Int) ≤ 1 := by split <;> omega
theorem Add_is (a b : Int) (ha : -42535295865117307932921825928971026432 ≤ a ∧ a ≤ 42535295865117307932921825928971026432) (hb : -42535295865117307932921825928971026432 ≤ b ∧ b ≤ 42535295865117307932921825928971026432) :
    Is mx 78 [.agg (eWide a), .agg (eWide b)] (.agg (eWide (a + b))) := by
  refine MC_of_J Tryz.func78 (by kernel_rfl) Tryz.ntmps78 rfl rfl comp78 rv78 rfl c78.eq_1 ?_
  simp only [eWide]
  (repeat' first
| exact hole _
| simp (maxSteps := 9999999) (disch := omega) only [go_sem, reduceCtorEq, Int.reduceToNat, Int.reduceNeg, Int.reduceLT, Int.reduceLE, Int.reduceEq, Int.reduceAdd, Int.reduceSub, Int.reduceMul, Nat.reduceAdd, Nat.reduceSub, Nat.reduceMul, Nat.reduceEqDiff, Nat.reduceBEq, Nat.reduceBneDiff, Nat.reduceLeDiff, Nat.reduceLT, reduceIte, R78, wrapU]
| refine' gdV_sc' rfl rfl (by simp only [V0, V1, Nat.reduceEqDiff, reduceIte]) (fun hq => ?_) (fun f => ?_) <;> try (have hq' := hq; try simp only [HB] at hq')
| refine' gdD_sc' rfl rfl (by simp only [V0, V1, Nat.reduceEqDiff, reduceIte]) (fun hq => ?_) (fun f => ?_) <;> try (have hq' := hq; try simp only [HB] at hq')
| refine gdV_intro (fun h => ?_) (fun h => ?_) <;> (have h' := h; try simp only [HB] at h'; try rewrite [h]; try simp only [h])
| refine condJ_intro (fun h => ?_) (fun h => ?_) <;> (have h' := h; try simp only [HB] at h'; try rewrite [h]; try simp only [h])
| refine pickE_intro (fun h => ?_) (fun h => ?_) <;> (have h' := h; try simp only [HB] at h'; try rewrite [h]; try simp only [h])
| refine gdD_intro (fun h => ?_) (fun h => ?_) <;> (have h' := h; try simp only [HB] at h'; try rewrite [h]; try simp only [h])
| refine callL_of (Add64_is _ _ _ (by omega) (by omega) (by omega)) ?_
| refine ct_I ?_
| refine callG_I ?_ ?_
| refine callG_Iv ?_ ?_
| refine drJ_I (by simp only [R78]; rfl) ?_
| refine ret_I (R := isR _) ?_
| refine nxt_I (fun hr => ?_) (fun q hq => ?_)
| refine isnil_I (fun hnil b => ?_) (fun hnil => ?_)
| (refine And.intro ?_ ?_; focus omega))
  simp only [wrapI, iI, I.agg.injEq, List.cons.injEq, I.int.injEq, true_and, and_true]
  omega
theorem Sub_is (a b : Int) (ha : -42535295865117307932921825928971026432 ≤ a ∧ a ≤ 42535295865117307932921825928971026432) (hb : -42535295865117307932921825928971026432 ≤ b ∧ b ≤ 42535295865117307932921825928971026432) :
    Is mx 112 [.agg (eWide a), .agg (eWide b)] (.agg (eWide (a - b))) := by
  refine MC_of_J Tryz.func112 (by kernel_rfl) Tryz.ntmps112 rfl rfl comp112 rv112 rfl c112.eq_1 ?_
  simp only [eWide]
  (repeat' first
| exact hole _
| simp (maxSteps := 9999999) (disch := omega) only [go_sem, reduceCtorEq, Int.reduceToNat, Int.reduceNeg, Int.reduceLT, Int.reduceLE, Int.reduceEq, Int.reduceAdd, Int.reduceSub, Int.reduceMul, Nat.reduceAdd, Nat.reduceSub, Nat.reduceMul, Nat.reduceEqDiff, Nat.reduceBEq, Nat.reduceBneDiff, Nat.reduceLeDiff, Nat.reduceLT, reduceIte, R112, wrapU]
| refine' gdV_sc' rfl rfl (by simp only [V0, V1, Nat.reduceEqDiff, reduceIte]) (fun hq => ?_) (fun f => ?_) <;> try (have hq' := hq; try simp only [HB] at hq')
| refine' gdD_sc' rfl rfl (by simp only [V0, V1, Nat.reduceEqDiff, reduceIte]) (fun hq => ?_) (fun f => ?_) <;> try (have hq' := hq; try simp only [HB] at hq')
| refine gdV_intro (fun h => ?_) (fun h => ?_) <;> (have h' := h; try simp only [HB] at h'; try rewrite [h]; try simp only [h])
| refine condJ_intro (fun h => ?_) (fun h => ?_) <;> (have h' := h; try simp only [HB] at h'; try rewrite [h]; try simp only [h])
| refine pickE_intro (fun h => ?_) (fun h => ?_) <;> (have h' := h; try simp only [HB] at h'; try rewrite [h]; try simp only [h])
| refine gdD_intro (fun h => ?_) (fun h => ?_) <;> (have h' := h; try simp only [HB] at h'; try rewrite [h]; try simp only [h])
| refine callL_of (Sub64_is _ _ _ (by omega) (by omega) (by omega) (by omega)) ?_
| refine callL_of (Sub64_is _ _ _ (by omega) (by omega) (ite01 _) (by omega)) ?_
| refine ct_I ?_
| refine callG_I ?_ ?_
| refine callG_Iv ?_ ?_
| refine drJ_I (by simp only [R112]; rfl) ?_
| refine ret_I (R := isR _) ?_
| refine nxt_I (fun hr => ?_) (fun q hq => ?_)
| refine isnil_I (fun hnil b => ?_) (fun hnil => ?_)
| (refine And.intro ?_ ?_; focus omega))
  simp only [wrapI, iI, I.agg.injEq, List.cons.injEq, I.int.injEq, true_and, and_true]
  split <;> omega
theorem Neg_is (a : Int) (ha : -42535295865117307932921825928971026432 ≤ a ∧ a ≤ 42535295865117307932921825928971026432) : Is mx 95 [.agg (eWide a)] (.agg (eWide (-a))) := by
  refine MC_of_J Tryz.func95 (by kernel_rfl) Tryz.ntmps95 rfl rfl comp95 rv95 rfl c95.eq_1 ?_
  have h := Sub_is (mx := mx) 0 a (by omega) ha
  rw [show (0 : Int) - a = -a by omega] at h
  simp only [eWide, Int.zero_ediv, Int.zero_emod] at h ⊢
  (repeat' first
| exact hole _
| simp (maxSteps := 9999999) (disch := omega) only [go_sem, reduceCtorEq, Int.reduceToNat, Int.reduceNeg, Int.reduceLT, Int.reduceLE, Int.reduceEq, Int.reduceAdd, Int.reduceSub, Int.reduceMul, Nat.reduceAdd, Nat.reduceSub, Nat.reduceMul, Nat.reduceEqDiff, Nat.reduceBEq, Nat.reduceBneDiff, Nat.reduceLeDiff, Nat.reduceLT, reduceIte, R95]
| refine' gdV_sc' rfl rfl (by simp only [V0, V1, Nat.reduceEqDiff, reduceIte]) (fun hq => ?_) (fun f => ?_) <;> try (have hq' := hq; try simp only [HB] at hq')
| refine' gdD_sc' rfl rfl (by simp only [V0, V1, Nat.reduceEqDiff, reduceIte]) (fun hq => ?_) (fun f => ?_) <;> try (have hq' := hq; try simp only [HB] at hq')
| refine gdV_intro (fun h => ?_) (fun h => ?_) <;> (have h' := h; try simp only [HB] at h'; try rewrite [h]; try simp only [h])
| refine condJ_intro (fun h => ?_) (fun h => ?_) <;> (have h' := h; try simp only [HB] at h'; try rewrite [h]; try simp only [h])
| refine pickE_intro (fun h => ?_) (fun h => ?_) <;> (have h' := h; try simp only [HB] at h'; try rewrite [h]; try simp only [h])
| refine gdD_intro (fun h => ?_) (fun h => ?_) <;> (have h' := h; try simp only [HB] at h'; try rewrite [h]; try simp only [h])
| refine callL_of (h) ?_
| refine ct_I ?_
| refine callG_I ?_ ?_
| refine callG_Iv ?_ ?_
| refine drJ_I (by simp only [R95]; rfl) ?_
| refine ret_I (R := isR _) ?_
| refine nxt_I (fun hr => ?_) (fun q hq => ?_)
| refine isnil_I (fun hnil b => ?_) (fun hnil => ?_)
| (refine And.intro ?_ ?_; focus omega))
def absI (n : Int) : Int := if n < 0 then -n else n
theorem size_is (a : Int) (ha : -42535295865117307932921825928971026432 ≤ a ∧ a ≤ 42535295865117307932921825928971026432) : Is mx 88 [.agg (eWide a)] (.agg [iU (absI a % 18446744073709551616), iU (absI a / 18446744073709551616)]) := by
  refine MC_of_J Tryz.func88 (by kernel_rfl) Tryz.ntmps88 rfl rfl comp88 rv88 rfl c88.eq_1 ?_
  have hN := Neg_is (mx := mx) a ha
  simp only [eWide] at hN ⊢
  (repeat' first
| exact hole _
| simp (maxSteps := 9999999) (disch := omega) only [go_sem, reduceCtorEq, Int.reduceToNat, Int.reduceNeg, Int.reduceLT, Int.reduceLE, Int.reduceEq, Int.reduceAdd, Int.reduceSub, Int.reduceMul, Nat.reduceAdd, Nat.reduceSub, Nat.reduceMul, Nat.reduceEqDiff, Nat.reduceBEq, Nat.reduceBneDiff, Nat.reduceLeDiff, Nat.reduceLT, reduceIte, R88, wrapU]
| refine' gdV_sc' rfl rfl (by simp only [V0, V1, Nat.reduceEqDiff, reduceIte]) (fun hq => ?_) (fun f => ?_) <;> try (have hq' := hq; try simp only [HB] at hq')
| refine' gdD_sc' rfl rfl (by simp only [V0, V1, Nat.reduceEqDiff, reduceIte]) (fun hq => ?_) (fun f => ?_) <;> try (have hq' := hq; try simp only [HB] at hq')
| refine gdV_intro (fun h => ?_) (fun h => ?_) <;> (have h' := h; try simp only [HB] at h'; try rewrite [h]; try simp only [h])
| refine condJ_intro (fun h => ?_) (fun h => ?_) <;> (have h' := h; try simp only [HB] at h'; try rewrite [h]; try simp only [h])
| refine pickE_intro (fun h => ?_) (fun h => ?_) <;> (have h' := h; try simp only [HB] at h'; try rewrite [h]; try simp only [h])
| refine gdD_intro (fun h => ?_) (fun h => ?_) <;> (have h' := h; try simp only [HB] at h'; try rewrite [h]; try simp only [h])
| refine callL_of (hN) ?_
| refine ct_I ?_
| refine callG_I ?_ ?_
| refine callG_Iv ?_ ?_
| refine drJ_I (by simp only [R88]; rfl) ?_
| refine ret_I (R := isR _) ?_
| refine nxt_I (fun hr => ?_) (fun q hq => ?_)
| refine isnil_I (fun hnil b => ?_) (fun hnil => ?_)
| (refine And.intro ?_ ?_; focus omega))
  all_goals
    simp only [iI, I.agg.injEq, List.cons.injEq, I.int.injEq, true_and, and_true, absI]
    (try split) <;> omega
theorem Div64_is (lo y : Int) (hl : 0 ≤ lo ∧ lo < 18446744073709551616) (hy : 0 < y ∧ y < 18446744073709551616) : Is mx 89 [iU 0, iU lo, iU y] (.tup [iU (lo / y), iU (lo % y)]) := by
  refine MC_of_J Tryz.func89 (by kernel_rfl) Tryz.ntmps89 rfl rfl comp89 rv89 rfl c89.eq_1 ?_
  have e1 : decide (y = 0) = false := by simp; omega
  have e2 : decide (y ≤ 0) = false := by simp; omega
  have e3 : y ≠ 0 := by omega
  have e4 : lo.tdiv y = lo / y := by rw [Int.tdiv_eq_ediv_of_nonneg hl.1]
  have e5 : lo.tmod y = lo % y := by rw [Int.tmod_eq_emod_of_nonneg hl.1]
  have e6 : IntKind.u64.wrap (lo / y) = lo / y := by
    rw [wrapU]; have h1 := Int.ediv_nonneg hl.1 (Int.le_of_lt hy.1); have h2 := Int.ediv_le_self y hl.1; omega
  (repeat' first
| exact hole _
| simp (maxSteps := 9999999) (disch := omega) only [go_sem, reduceCtorEq, Int.reduceToNat, Int.reduceNeg, Int.reduceLT, Int.reduceLE, Int.reduceEq, Int.reduceAdd, Int.reduceSub, Int.reduceMul, Nat.reduceAdd, Nat.reduceSub, Nat.reduceMul, Nat.reduceEqDiff, Nat.reduceBEq, Nat.reduceBneDiff, Nat.reduceLeDiff, Nat.reduceLT, reduceIte, R89, e1, e2, e3, e4, e5, e6, ne_eq, not_false_eq_true]
| refine' gdV_sc' rfl rfl (by simp only [V0, V1, Nat.reduceEqDiff, reduceIte]) (fun hq => ?_) (fun f => ?_) <;> try (have hq' := hq; try simp only [HB] at hq')
| refine' gdD_sc' rfl rfl (by simp only [V0, V1, Nat.reduceEqDiff, reduceIte]) (fun hq => ?_) (fun f => ?_) <;> try (have hq' := hq; try simp only [HB] at hq')
| refine gdV_intro (fun h => ?_) (fun h => ?_) <;> (have h' := h; try simp only [HB] at h'; try rewrite [h]; try simp only [h])
| refine condJ_intro (fun h => ?_) (fun h => ?_) <;> (have h' := h; try simp only [HB] at h'; try rewrite [h]; try simp only [h])
| refine pickE_intro (fun h => ?_) (fun h => ?_) <;> (have h' := h; try simp only [HB] at h'; try rewrite [h]; try simp only [h])
| refine gdD_intro (fun h => ?_) (fun h => ?_) <;> (have h' := h; try simp only [HB] at h'; try rewrite [h]; try simp only [h])
| refine ct_I ?_
| refine callG_I ?_ ?_
| refine callG_Iv ?_ ?_
| refine drJ_I (by simp only [R89]; rfl) ?_
| refine ret_I (R := isR _) ?_
| refine nxt_I (fun hr => ?_) (fun q hq => ?_)
| refine isnil_I (fun hnil b => ?_) (fun hnil => ?_)
| (refine And.intro ?_ ?_; focus omega))
theorem Divide1_is (a : Int) (ha : -42535295865117307932921825928971026432 ≤ a ∧ a ≤ 42535295865117307932921825928971026432) :
    Is mx 81 [.agg (eWide a), iI 1] (.tup [iI (if absI a ≤ 1152921504606846976 then a else 0), .bool (decide (absI a ≤ 1152921504606846976))]) := by
  refine MC_of_J Tryz.func81 (by kernel_rfl) Tryz.ntmps81 rfl rfl comp81 rv81 rfl c81.eq_1 ?_
  have hS := size_is (mx := mx) a ha
  have hS1 := size_is (mx := mx) 1 (by omega)
  have hO := Of_is (mx := mx) 1 (by omega)
  have hab : 0 ≤ absI a := by unfold absI; split <;> omega
  have hab2 : absI a ≤ 42535295865117307932921825928971026432 := by unfold absI; split <;> omega
  simp only [eWide, show absI 1 = 1 from rfl, Int.reduceMod, Int.reduceDiv] at hS hS1 hO ⊢
  by_cases hb : absI a / 18446744073709551616 = 0
  · have e1 : absI a % 18446744073709551616 = absI a := by omega
    have hD := Div64_is (mx := mx) (absI a % 18446744073709551616) 1 (by omega) (by omega)
    rw [e1] at hD hS; simp only [Int.ediv_one, Int.emod_one, hb] at hD hS
    have d1 : (1 : Int) ≤ 0 ↔ False := by simp
    have hq : a / 18446744073709551616 < 0 ↔ a < 0 := by omega
    (repeat' first
| exact hole _
| simp (maxSteps := 9999999) (disch := omega) only [go_sem, reduceCtorEq, Int.reduceToNat, Int.reduceNeg, Int.reduceLT, Int.reduceLE, Int.reduceEq, Int.reduceAdd, Int.reduceSub, Int.reduceMul, Nat.reduceAdd, Nat.reduceSub, Nat.reduceMul, Nat.reduceEqDiff, Nat.reduceBEq, Nat.reduceBneDiff, Nat.reduceLeDiff, Nat.reduceLT, reduceIte, R81, wrapU, e1, d1, Int.reduceMod, Int.reduceDiv]
| refine' gdV_sc' rfl rfl (by simp only [V0, V1, Nat.reduceEqDiff, reduceIte]) (fun hq => ?_) (fun f => ?_) <;> try (have hq' := hq; try simp only [HB] at hq')
| refine' gdD_sc' rfl rfl (by simp only [V0, V1, Nat.reduceEqDiff, reduceIte]) (fun hq => ?_) (fun f => ?_) <;> try (have hq' := hq; try simp only [HB] at hq')
| refine gdV_intro (fun h => ?_) (fun h => ?_) <;> (have h' := h; try simp only [HB] at h'; try rewrite [h]; try simp only [h])
| refine condJ_intro (fun h => ?_) (fun h => ?_) <;> (have h' := h; try simp only [HB] at h'; try rewrite [h]; try simp only [h])
| refine pickE_intro (fun h => ?_) (fun h => ?_) <;> (have h' := h; try simp only [HB] at h'; try rewrite [h]; try simp only [h])
| refine gdD_intro (fun h => ?_) (fun h => ?_) <;> (have h' := h; try simp only [HB] at h'; try rewrite [h]; try simp only [h])
| refine callL_of (hS) ?_
| refine callL_of (hO) ?_
| refine callL_of (hS1) ?_
| refine callL_of (hD) ?_
| refine ct_I ?_
| refine callG_I ?_ ?_
| refine callG_Iv ?_ ?_
| refine drJ_I (by simp only [R81]; rfl) ?_
| refine ret_I (R := isR _) ?_
| refine nxt_I (fun hr => ?_) (fun q hq => ?_)
| refine isnil_I (fun hnil b => ?_) (fun hnil => ?_)
| (refine And.intro ?_ ?_; focus omega))
    · have : ¬ absI a ≤ 1152921504606846976 := by omega
      simp [this]
    · have : a < 0 := by grind
      have e2 : absI a = -a := by unfold absI; rw [if_pos this]
      have e3 : absI a ≤ 1152921504606846976 := by omega
      simp only [e3, if_true, decide_true]; rw [e2]; try simp
    · have : ¬ a < 0 := by grind
      have e2 : absI a = a := by unfold absI; rw [if_neg this]
      have e3 : absI a ≤ 1152921504606846976 := by omega
      simp only [e3, if_true, decide_true]; rw [e2]; try simp
  · have hb2 : decide (1 ≤ absI a / 18446744073709551616) = true := by simp; omega
    (repeat' first
| exact hole _
| simp (maxSteps := 9999999) (disch := omega) only [go_sem, reduceCtorEq, Int.reduceToNat, Int.reduceNeg, Int.reduceLT, Int.reduceLE, Int.reduceEq, Int.reduceAdd, Int.reduceSub, Int.reduceMul, Nat.reduceAdd, Nat.reduceSub, Nat.reduceMul, Nat.reduceEqDiff, Nat.reduceBEq, Nat.reduceBneDiff, Nat.reduceLeDiff, Nat.reduceLT, reduceIte, R81, wrapU, hb2, Int.reduceMod, Int.reduceDiv]
| refine' gdV_sc' rfl rfl (by simp only [V0, V1, Nat.reduceEqDiff, reduceIte]) (fun hq => ?_) (fun f => ?_) <;> try (have hq' := hq; try simp only [HB] at hq')
| refine' gdD_sc' rfl rfl (by simp only [V0, V1, Nat.reduceEqDiff, reduceIte]) (fun hq => ?_) (fun f => ?_) <;> try (have hq' := hq; try simp only [HB] at hq')
| refine gdV_intro (fun h => ?_) (fun h => ?_) <;> (have h' := h; try simp only [HB] at h'; try rewrite [h]; try simp only [h])
| refine condJ_intro (fun h => ?_) (fun h => ?_) <;> (have h' := h; try simp only [HB] at h'; try rewrite [h]; try simp only [h])
| refine pickE_intro (fun h => ?_) (fun h => ?_) <;> (have h' := h; try simp only [HB] at h'; try rewrite [h]; try simp only [h])
| refine gdD_intro (fun h => ?_) (fun h => ?_) <;> (have h' := h; try simp only [HB] at h'; try rewrite [h]; try simp only [h])
| refine callL_of (hS) ?_
| refine callL_of (hO) ?_
| refine callL_of (hS1) ?_
| refine ct_I ?_
| refine callG_I ?_ ?_
| refine callG_Iv ?_ ?_
| refine drJ_I (by simp only [R81]; rfl) ?_
| refine ret_I (R := isR _) ?_
| refine nxt_I (fun hr => ?_) (fun q hq => ?_)
| refine isnil_I (fun hnil b => ?_) (fun hnil => ?_)
| (refine And.intro ?_ ?_; focus omega))
    have : ¬ absI a ≤ 1152921504606846976 := by omega
    simp [this]

end Go.Proofs.YtihbaggjjglcbaaGreatDoor
end

section
set_option maxRecDepth 100000
set_option maxHeartbeats 8000000
set_option linter.unusedVariables false
set_option linter.unusedSimpArgs false
namespace Go.Proofs.YtihbaggjjglcbaaGreatDoor
open Go Go.Dl Go.As Go.Proofs
variable {mx : Int}
attribute [local irreducible] callG callL MC W W2 evT ev evD step stepD

open Go.Sort Go.RowKit in
/-- A slice of one-celled rows that is the call's own, sorted by the library. -/
theorem strSort_mc (e : Nat) (ss : List Str) (hl : ss.length < 4611686018427387904) :
    MC Tryz.prog (GLm mx) 87 [.ref (.sl 5000 1 0 ss.length)] [(5000, .rows e 1 (ss.map fun s => [.str s]))] []
      (fun r s => r = .i (.tup []) ∧ s = [(5000, .rows e 1 ((ss.mergeSort fun x y => decide (x ≤ y)).map fun s => [.str s]))]) := by
  delta MC
  intro M μ w vs h1 h2 h3
  obtain ⟨v, rfl, hN, a, cap, hμ, _, hcap, hv⟩ : ∃ v, vs = #[v] ∧ names [(5000, Blk.rows e 1 (ss.map fun s => [.str s]))] 5000 ∧ SlAt (μ 5000) 1 0 ss.length v := by
    obtain ⟨l⟩ := vs
    obtain ⟨hl1, hr⟩ := h3
    match l, hl1 with
    | [v], _ => exact ⟨v, rfl, hr 0 (by simp) (by simp)⟩
  have hen : enters Tryz.prog 87 = true := by kernel_rfl
  by_cases h0 : ss = []
  · obtain ⟨p, c, hvv⟩ : ∃ p c, v = .slice p 0 c := by
      subst h0
      rcases hv with ⟨_, a', e⟩ | ⟨b, o, _, e⟩
      · exact ⟨_, _, e⟩
      · exact ⟨_, _, e⟩
    subst hvv
    refine .inl ⟨hen, (Tryz.slices_Sort_string_none p c w).mono ?_⟩
    rintro e' w' ⟨rfl, rfl⟩
    refine ⟨_, rfl, .i (.tup []), _, M, μ, ⟨rfl, rfl⟩, ?_, repD_i (Rep.tup' (RepL.nil M)), MExt.refl _ _, Keeps.refl _ _, fun _ _ _ => rfl⟩
    subst h0
    simpa using h1
  have hpos : 0 < ss.length := by cases ss; exact (h0 rfl).elim; simp
  rcases hv with ⟨rfl, a', rfl⟩ | ⟨b, o, rfl, rfl⟩
  · omega
  obtain ⟨a1, cap1, e1, hb⟩ := h1.blk 5000 _ rfl
  rw [hμ] at e1
  injection e1 with e1 e2 e3
  subst e1; subst e3
  rcases hb with ⟨hc0, _⟩ | ⟨b1, o1, cur, e1, hcp, ho, hm, hsz, hln, hk, hrows⟩
  · omega
  injection e1 with e1; injection e1 with e1 e2
  subst e1; subst e2
  have hbk : blockOf (μ 5000) = some b := by rw [hμ]; simp only [blockOf]; rw [if_neg (by omega)]
  have hcell : ∀ j (hj : j < ss.length), cur[o + j]? = some (encStr ss[j]) := fun j hj => by
    obtain ⟨v, hv, hr⟩ := hrows j (by simpa using hj) 0 (by simp)
    simp only [List.getElem_map, List.getElem_cons_zero, Nat.mul_one, Nat.add_zero] at hv hr
    rw [hv, rep_str hr]
  have hH : Holds encStr w b o ss.toArray := fun j hj => by
    have hj' : j < ss.length := by simpa using hj
    refine ⟨?_, ?_⟩
    · simp only [World.cell?, ho.heap]
      rw [hcell j hj']
      simp [hj']
    · simp [World.frozen?, ho.heap]
  have hlt := ho.lt
  simp only [Nat.zero_mul, Nat.add_zero, Nat.sub_zero]
  refine .inl ⟨hen, (Tryz.slices_Sort_string b o cap ss w hH hlt hl).mono ?_⟩
  rintro e' w' ⟨rfl, n, os, rfl⟩
  generalize hS : (ss.mergeSort fun x y => decide (x ≤ y)) = so
  have hso : so.length = ss.length := by rw [← hS]; exact List.length_mergeSort _
  have hother : ∀ k, k ≠ b → k < w.heap.size → (grow (putRow encStr (Sort.ahead w n) b o so.toArray) os).heap[k]? = w.heap[k]? := fun k hk hkl => by
    rw [heap_grow_old _ _ (by rw [size_putRow]; exact hkl)]
    simp only [putRow, mapBlock, Sort.ahead, Array.getElem?_modify]
    rw [if_neg (fun e => hk e.symm)]
  have hself : (grow (putRow encStr (Sort.ahead w n) b o so.toArray) os).heap[b]? = some (.cells (putCells encStr o so.toArray cur) e (0, 0)) := by
    rw [heap_grow_old _ _ (by rw [size_putRow]; exact hlt)]
    simp only [putRow, mapBlock, Sort.ahead, Array.getElem?_modify, if_true]
    rw [ho.heap]; rfl
  have hblk : BlkOk (shut μ [(5000, Blk.rows e 1 (ss.map fun s => [.str s]))] w) M μ (names (setS [(5000, Blk.rows e 1 (ss.map fun s => [.str s]))] 5000 (.rows e 1 (so.map fun s => [.str s])))) (grow (putRow encStr (Sort.ahead w n) b o so.toArray) os) 5000 (.rows e 1 (so.map fun s => [.str s])) := by
    refine ⟨some ⟨b, o, none⟩, cap, hμ, .inr ⟨b, o, putCells encStr o so.toArray cur, rfl, hcp, ⟨ho.low, hself, ho.unk⟩, hm, ?_, ?_, ?_, ?_⟩⟩
    · simp [putCells, hsz]
    · simpa [hso] using hcap
    · intro r hr; obtain ⟨s, _, rfl⟩ := List.mem_map.1 hr; rfl
    · intro i hi j hj
      have hi' : i < so.length := by simpa using hi
      have hj' : j = 0 := by simp at hj; omega
      subst hj'
      refine ⟨encStr so[i], ?_, ?_⟩
      · simp only [putCells, Nat.mul_one, Nat.add_zero, Array.getElem?_mapIdx]
        rw [hcell i (by omega)]
        simp [hi']
      · simp only [List.getElem_map, List.getElem_cons_zero]; exact Rep.str _
  refine ⟨_, rfl, .i (.tup []), [(5000, .rows e 1 (so.map fun s => [.str s]))], M, μ, ⟨rfl, rfl⟩, ?_, repD_i (Rep.tup' (RepL.nil M)), MExt.refl _ _, ⟨rfl, rfl, rfl, ?_, fun k hk => hother k ?_ hk.1⟩, fun _ _ _ => rfl⟩
  · exact h1.setBlk (nm := 5000) (blk' := .rows e 1 (so.map fun s => [.str s])) rfl hbk (by rw [size_grow, size_putRow]; exact Nat.le_add_right _ _) hother hblk
  · rw [size_grow, size_putRow]; exact Nat.le_add_right _ _
  · intro e'; subst e'; exact hk.2 5000 (by simp [names, getS]) hbk
theorem strSort_at (nm e : Nat) (ss : List Str) (hn : nm < 5000) (hl : ss.length < 4611686018427387904) :
    MC Tryz.prog (GLm mx) 87 [.ref (.sl nm 1 0 ss.length)] [(nm, .rows e 1 (ss.map fun s => [.str s]))] []
      (fun r s => r = .i (.tup []) ∧ s = [(nm, .rows e 1 ((ss.mergeSort fun x y => decide (x ≤ y)).map fun s => [.str s]))]) := by
  have e1 : sws [(5000, nm)] 5000 = nm := by simp [sws, sw]
  have h := (MC.as [(5000, nm)] (strSort_mc (mx := mx) e ss hl)).mono (R' := fun r s => r = .i (.tup []) ∧ s = [(nm, .rows e 1 ((ss.mergeSort fun x y => decide (x ≤ y)).map fun s => [.str s]))]) (by
    rintro r s ⟨h1, h2⟩
    have k := mpD_mpD (f := swi [(5000, nm)]) (g := sws [(5000, nm)]) (sws_swi _) r
    have k2 := mpS_mpS (f := swi [(5000, nm)]) (g := sws [(5000, nm)]) (sws_swi _) s
    rw [h1] at k
    rw [h2] at k2
    refine ⟨k.symm, ?_⟩
    rw [← k2]; simp only [mpS, mpB, e1])
  simp only [List.map_cons, List.map_nil, mpD, mpR, mpS, mpB, e1] at h
  exact h

end Go.Proofs.YtihbaggjjglcbaaGreatDoor
end

section
set_option maxRecDepth 100000
set_option maxHeartbeats 8000000
set_option linter.unusedVariables false
set_option linter.unusedSimpArgs false
namespace Go.Proofs.YtihbaggjjglcbaaGreatDoor
open Go Go.Dl Go.As Go.Proofs
variable {mx : Int}
attribute [local irreducible] callG callL MC W W2 evT ev evD step stepD

def sortS (l : List Str) : List Str := l.mergeSort fun x y => decide (x ≤ y)
def entS (p : Str × I) : I × I := (.str p.1, p.2)
abbrev rowS (s : Str) : List I := [.str s]
theorem str_total (a b : Str) : (decide (a ≤ b) || decide (b ≤ a)) = true := by
  rw [Bool.or_eq_true, decide_eq_true_eq, decide_eq_true_eq]; exact List.le_total a b
theorem str_trans (a b c : Str) (h : decide (a ≤ b) = true) (k : decide (b ≤ c) = true) : decide (a ≤ c) = true := by
  rw [decide_eq_true_eq] at *; exact List.le_trans h k
theorem sortS_sorted (l : List Str) : (sortS l).Pairwise (· ≤ ·) := by
  have := List.pairwise_mergeSort (le := fun x y : Str => decide (x ≤ y)) str_trans str_total l
  exact this.imp fun h => by simpa using h
theorem getElem_erase_perm {α : Type} {l : List α} {q : Nat} (h : q < l.length) : (l[q] :: l.eraseIdx q).Perm l := by
  induction l generalizing q with
  | nil => simp at h
  | cons a l ih => cases q with
    | zero => simp
    | succ q =>
      have h' : q < l.length := by simpa using h
      simp only [List.getElem_cons_succ, List.eraseIdx_cons_succ]
      exact (List.Perm.swap a l[q] _).trans ((ih h').cons a)
theorem sortS_perm {a b : List Str} (h : a.Perm b) : sortS a = sortS b := by
  have hp : (sortS a).Perm (sortS b) := ((List.mergeSort_perm a _).trans h).trans (List.mergeSort_perm b _).symm
  exact hp.eq_of_pairwise (fun x y _ _ h1 h2 => List.le_antisymm h1 h2) (sortS_sorted a) (sortS_sorted b)
theorem sorted_is (l : List (Str × I)) (hl : l.length ≤ 1073741824) :
    Is mx 80 [.map (l.map entS)] (.sl ((sortS (l.map (·.1))).map rowS)) := by
  refine MC_of_J Tryz.func80 (by kernel_rfl) Tryz.ntmps80 rfl rfl comp80 rv80 rfl c80.eq_1 ?_
  (repeat' first
| exact hole _
| simp (maxSteps := 9999999) (disch := omega) only [go_sem, reduceCtorEq, Int.reduceToNat, Int.reduceNeg, Int.reduceLT, Int.reduceLE, Int.reduceEq, Int.reduceAdd, Int.reduceSub, Int.reduceMul, Nat.reduceAdd, Nat.reduceSub, Nat.reduceMul, Nat.reduceEqDiff, Nat.reduceBEq, Nat.reduceBneDiff, Nat.reduceLeDiff, Nat.reduceLT, reduceIte, R80]
| refine' gdV_sc' rfl rfl (by simp only [V0, V1, Nat.reduceEqDiff, reduceIte]) (fun hq => ?_) (fun f => ?_) <;> try (have hq' := hq; try simp only [HB] at hq')
| refine' gdD_sc' rfl rfl (by simp only [V0, V1, Nat.reduceEqDiff, reduceIte]) (fun hq => ?_) (fun f => ?_) <;> try (have hq' := hq; try simp only [HB] at hq')
| refine gdV_intro (fun h => ?_) (fun h => ?_) <;> (have h' := h; try simp only [HB] at h'; try rewrite [h]; try simp only [h])
| refine condJ_intro (fun h => ?_) (fun h => ?_) <;> (have h' := h; try simp only [HB] at h'; try rewrite [h]; try simp only [h])
| refine pickE_intro (fun h => ?_) (fun h => ?_) <;> (have h' := h; try simp only [HB] at h'; try rewrite [h]; try simp only [h])
| refine gdD_intro (fun h => ?_) (fun h => ?_) <;> (have h' := h; try simp only [HB] at h'; try rewrite [h]; try simp only [h])
| refine ct_I ?_
| refine callG_I ?_ ?_
| refine callG_Iv ?_ ?_
| refine drJ_I (by simp only [R80]; rfl) ?_
| refine ret_I (R := isR _) ?_
| refine nxt_I (fun hr => ?_) (fun q hq => ?_)
| refine isnil_I (fun hnil b => ?_) (fun hnil => ?_)
| (refine And.intro ?_ ?_; focus omega))
  refine loopT (L80_0.eq_1 0) [6] (by simp only [V0, V1, V2, V25, reduceIte, Nat.reduceEqDiff]; rfl) (fun g : List Str × List (Str × I) × Option (I × I) => [(3, .ref (.sl 3 1 0 g.1.length))]) (fun g => [(6, .iter g.2.2 (g.2.1.map entS)), (3, .rows 9 1 (g.1.map rowS))])
    (fun g => (g.1 ++ g.2.1.map (·.1)).Perm (l.map (·.1))) (fun g => g.2.1.length) ([], l, none) (by simp) (by simp [V0, V1, V2, V11, V8, V15, Ref.nm]) ?_
  rintro ⟨acc, rest, cur⟩ hinv
  have hlen := hinv.length_eq
  simp only [List.length_append, List.length_map] at hlen
  (repeat' first
| exact hole _
| simp (maxSteps := 9999999) (disch := omega) only [go_sem, reduceCtorEq, Int.reduceToNat, Int.reduceNeg, Int.reduceLT, Int.reduceLE, Int.reduceEq, Int.reduceAdd, Int.reduceSub, Int.reduceMul, Nat.reduceAdd, Nat.reduceSub, Nat.reduceMul, Nat.reduceEqDiff, Nat.reduceBEq, Nat.reduceBneDiff, Nat.reduceLeDiff, Nat.reduceLT, reduceIte, R80, entS, Nat.sub_zero]
| refine' gdV_sc' rfl rfl (by simp only [V0, V1, Nat.reduceEqDiff, reduceIte]) (fun hq => ?_) (fun f => ?_) <;> try (have hq' := hq; try simp only [HB] at hq')
| refine' gdD_sc' rfl rfl (by simp only [V0, V1, Nat.reduceEqDiff, reduceIte]) (fun hq => ?_) (fun f => ?_) <;> try (have hq' := hq; try simp only [HB] at hq')
| refine gdV_intro (fun h => ?_) (fun h => ?_) <;> (have h' := h; try simp only [HB] at h'; try rewrite [h]; try simp only [h])
| refine condJ_intro (fun h => ?_) (fun h => ?_) <;> (have h' := h; try simp only [HB] at h'; try rewrite [h]; try simp only [h])
| refine pickE_intro (fun h => ?_) (fun h => ?_) <;> (have h' := h; try simp only [HB] at h'; try rewrite [h]; try simp only [h])
| refine gdD_intro (fun h => ?_) (fun h => ?_) <;> (have h' := h; try simp only [HB] at h'; try rewrite [h]; try simp only [h])
| refine ct_I ?_
| (refine callG_M (strSort_at 3 9 acc (by omega) (by omega)) (by simp only [go_sem, reduceCtorEq, Int.reduceToNat, Int.reduceNeg, Int.reduceLT, Int.reduceLE, Int.reduceEq, Int.reduceAdd, Int.reduceSub, Int.reduceMul, Nat.reduceAdd, Nat.reduceSub, Nat.reduceMul, Nat.reduceEqDiff, Nat.reduceBEq, Nat.reduceBneDiff, Nat.reduceLeDiff, Nat.reduceLT, reduceIte, R80, entS, Nat.sub_zero]; done) (by simp [V0, V1, V2, V11, V8, V15, Ref.nm]) (by simp [V0, V1, V2, V11, V8, V15, Ref.nm]) (fun r sto' hR => ?_); obtain ⟨rfl, rfl⟩ := hR)
| refine callG_I ?_ ?_
| refine callG_Iv ?_ ?_
| refine drJ_I (by simp only [R80]; rfl) ?_
| refine ret_I (R := isR _) ?_
| refine nxt_I (fun hr => ?_) (fun q hq => ?_)
| refine isnil_I (fun hnil b => ?_) (fun hnil => ?_)
| (refine And.intro ?_ ?_; focus omega))
  · subst hr
    have hms : (acc.mergeSort fun x y => decide (x ≤ y)).length = acc.length := List.length_mergeSort _
    have e1 : List.take acc.length (List.map (fun s => [I.str s]) (acc.mergeSort fun x y => decide (x ≤ y))) = List.map (fun s => [I.str s]) (acc.mergeSort fun x y => decide (x ≤ y)) := by
      rw [List.take_of_length_le]; rw [List.length_map, hms]; exact Nat.le_refl _
    rw [if_pos (by rw [hms]; exact Nat.le_refl _), e1]
    refine ⟨congrArg D.i (congrArg I.sl ?_), rfl⟩
    have hp : acc.Perm (l.map (·.1)) := by simpa using hinv
    have : sortS (l.map (·.1)) = sortS acc := (sortS_perm hp).symm
    rw [this]; rfl
  · refine ⟨by simp, by simp [I.one], by omega, by omega, ⟨acc ++ [rest[q].1], rest.eraseIdx q, some (entS rest[q])⟩, ?_, ?_, by simp, rfl, ?_⟩
    · refine List.Perm.trans ?_ hinv
      have := (getElem_erase_perm hq).map (fun x : Str × I => x.1)
      simp only [List.map_cons] at this
      rw [List.append_assoc]
      exact List.Perm.append_left acc this
    · rw [List.length_eraseIdx]; simp [hq]; omega
    · simp

end Go.Proofs.YtihbaggjjglcbaaGreatDoor
end

section
set_option maxRecDepth 100000
set_option maxHeartbeats 8000000
set_option linter.unusedVariables false
set_option linter.unusedSimpArgs false
namespace Go.Proofs.YtihbaggjjglcbaaGreatDoor
open Go Go.Dl Go.As Go.Proofs
variable {mx : Int}
attribute [local irreducible] callG callL MC W W2 evT ev evD step stepD

def entW (p : Str × Int) : I × I := (.str p.1, .agg (eWide p.2))
def sums : List Fac → List (Str × Int) → List (Str × Int)
  | [], m => m
  | f :: r, m => sums r (aput m f.name ((aget m f.name).getD 0 + f.exp))
def wordsOk (l : List Fac) : Bool := l.all fun f => word f.name
def farE (n : Int) : Bool := decide (n > 8 ∨ n < -8)
def normL (m : List (Str × Int)) : List Str → List Fac → List Fac × Int
  | [], u => if 4 < u.length then ([], 2) else (u, 0)
  | s :: r, u =>
    let n := (aget m s).getD 0
    if (!decide (absI n ≤ 1152921504606846976) || farE n) = true then ([], 70)
    else if n ≠ 0 then normL m r (u ++ [⟨s, n⟩]) else normL m r u
def normU (l : List Fac) : List Fac × Int :=
  if wordsOk l = true then normL (sums l []) (sortS ((sums l []).map (·.1))) [] else ([], 1)
def eUn (r : List Fac × Int) : I := .tup [.sl (r.1.map eFac), iI r.2]
theorem look_w (m : List (Str × Int)) (k : Str) : mlook (m.map entW) (.str k) (.agg [.int .i64 0, .int .u64 0]) false = .agg (eWide ((aget m k).getD 0)) := by
  exact mlook_map (f := fun n => I.agg (eWide n)) keyS m k 0
theorem put_w (m : List (Str × Int)) (k : Str) (v : Int) : mput (m.map entW) (.str k) (.agg (eWide v)) = (aput m k v).map entW := mput_map (f := fun n => I.agg (eWide n)) keyS m k v
def bigM (m : List (Str × Int)) (b : Int) : Prop := ∀ p ∈ m, -b ≤ p.2 ∧ p.2 ≤ b
theorem bigM_get {m : List (Str × Int)} {b : Int} (h : bigM m b) (hb : 0 ≤ b) (k : Str) : -b ≤ (aget m k).getD 0 ∧ (aget m k).getD 0 ≤ b := by
  cases e : aget m k with
  | none => simp; omega
  | some v => exact h _ (aget_mem e)
theorem fit_w (m : List (Str × Int)) : (∀ e ∈ m.map entW, fitQ [.s] e.1 = true) = True := by
  refine eq_true ?_; intro e he; obtain ⟨p, _, rfl⟩ := List.mem_map.1 he; rfl
theorem Normal_is (l : List Fac) (hl : l.length ≤ 1073741824) (hx : ∀ f ∈ l, -9223372036854775808 ≤ f.exp ∧ f.exp ≤ 9223372036854775807) : Is mx 61 [.sl (l.map eFac)] (eUn (normU l)) := by
  refine MC_of_J Tryz.func61 (by kernel_rfl) Tryz.ntmps61 rfl rfl comp61 rv61 rfl c61.eq_1 ?_
  (repeat' first
| exact hole _
| simp (maxSteps := 9999999) (disch := omega) only [go_sem, reduceCtorEq, Int.reduceToNat, Int.reduceNeg, Int.reduceLT, Int.reduceLE, Int.reduceEq, Int.reduceAdd, Int.reduceSub, Int.reduceMul, Nat.reduceAdd, Nat.reduceSub, Nat.reduceMul, Nat.reduceEqDiff, Nat.reduceBEq, Nat.reduceBneDiff, Nat.reduceLeDiff, Nat.reduceLT, reduceIte, R61]
| refine' gdV_sc' rfl rfl (by simp only [V0, V1, Nat.reduceEqDiff, reduceIte]) (fun hq => ?_) (fun f => ?_) <;> try (have hq' := hq; try simp only [HB] at hq')
| refine' gdD_sc' rfl rfl (by simp only [V0, V1, Nat.reduceEqDiff, reduceIte]) (fun hq => ?_) (fun f => ?_) <;> try (have hq' := hq; try simp only [HB] at hq')
| refine gdV_intro (fun h => ?_) (fun h => ?_) <;> (have h' := h; try simp only [HB] at h'; try rewrite [h]; try simp only [h])
| refine condJ_intro (fun h => ?_) (fun h => ?_) <;> (have h' := h; try simp only [HB] at h'; try rewrite [h]; try simp only [h])
| refine pickE_intro (fun h => ?_) (fun h => ?_) <;> (have h' := h; try simp only [HB] at h'; try rewrite [h]; try simp only [h])
| refine gdD_intro (fun h => ?_) (fun h => ?_) <;> (have h' := h; try simp only [HB] at h'; try rewrite [h]; try simp only [h])
| refine ct_I ?_
| refine callG_I ?_ ?_
| refine callG_Iv ?_ ?_
| refine drJ_I (by simp only [R61]; rfl) ?_
| refine ret_I (R := isR _) ?_
| refine nxt_I (fun hr => ?_) (fun q hq => ?_)
| refine isnil_I (fun hnil b => ?_) (fun hnil => ?_)
| (refine And.intro ?_ ?_; focus omega))
  refine loopT (L61_0.eq_1 0) [4, 12, 13] (by simp only [V0, V1, V2, V25, reduceIte, Nat.reduceEqDiff]; rfl) (fun g : Nat × List (Str × Int) => [(2, .ref (.sl 2 2 0 0)), (14, .i (iI g.1))]) (fun g => [(11, .map [.s] (g.2.map entW)), (2, .rows 52 2 [])])
    (fun g => g.1 ≤ l.length ∧ wordsOk (l.take g.1) = true ∧ sums (l.drop g.1) g.2 = sums l [] ∧ bigM g.2 (g.1 * 9223372036854775808) ∧ g.2.length ≤ g.1) (fun g => l.length - g.1) (0, []) (by simp [wordsOk, bigM]) (by simp [V0, V1, V2, V11, V8, V15, Ref.nm]) ?_
  rintro ⟨i, m⟩ ⟨hi, hw, hs, hb, hml⟩
  simp only at hi hw hs hb hml
  by_cases hi' : i < l.length
  · have hmem := getD_mem hi'
    have hx1 := hx _ hmem
    have hg := bigM_get hb (by omega) (l.getD i default).name
    (repeat' first
| exact hole _
| simp (maxSteps := 9999999) (disch := omega) only [go_sem, reduceCtorEq, Int.reduceToNat, Int.reduceNeg, Int.reduceLT, Int.reduceLE, Int.reduceEq, Int.reduceAdd, Int.reduceSub, Int.reduceMul, Nat.reduceAdd, Nat.reduceSub, Nat.reduceMul, Nat.reduceEqDiff, Nat.reduceBEq, Nat.reduceBneDiff, Nat.reduceLeDiff, Nat.reduceLT, reduceIte, R61, ltT hi', look_w, put_w]
| refine' gdV_sc' rfl rfl (by simp only [V0, V1, Nat.reduceEqDiff, reduceIte]) (fun hq => ?_) (fun f => ?_) <;> try (have hq' := hq; try simp only [HB] at hq')
| refine' gdD_sc' rfl rfl (by simp only [V0, V1, Nat.reduceEqDiff, reduceIte]) (fun hq => ?_) (fun f => ?_) <;> try (have hq' := hq; try simp only [HB] at hq')
| refine gdV_intro (fun h => ?_) (fun h => ?_) <;> (have h' := h; try simp only [HB] at h'; try rewrite [h]; try simp only [h])
| refine condJ_intro (fun h => ?_) (fun h => ?_) <;> (have h' := h; try simp only [HB] at h'; try rewrite [h]; try simp only [h])
| refine pickE_intro (fun h => ?_) (fun h => ?_) <;> (have h' := h; try simp only [HB] at h'; try rewrite [h]; try simp only [h])
| refine gdD_intro (fun h => ?_) (fun h => ?_) <;> (have h' := h; try simp only [HB] at h'; try rewrite [h]; try simp only [h])
| refine callL_of (word_is _) ?_
| refine callL_of (Of_is _ (by omega)) ?_
| refine callL_of (Add_is _ _ (by omega) (by omega)) ?_
| refine ct_I ?_
| refine callG_I ?_ ?_
| refine callG_Iv ?_ ?_
| refine drJ_I (by simp only [R61]; rfl) ?_
| refine ret_I (R := isR _) ?_
| refine nxt_I (fun hr => ?_) (fun q hq => ?_)
| refine isnil_I (fun hnil b => ?_) (fun hnil => ?_)
| (refine And.intro ?_ ?_; focus omega))
    · have : wordsOk l = false := by
        rw [wordsOk, List.all_eq_false]; exact ⟨_, hmem, by rw [h']; simp⟩
      simp [normU, this, eUn]
    · refine ⟨(i + 1, _), ⟨by omega, ?_, ?_, ?_, ?_⟩, by show l.length - (i + 1) < l.length - i; omega, rfl, rfl⟩
      · exact all_take (d := default) hw hi' h'
      · rw [← hs, List.drop_eq_getElem_cons hi', ← getD_lt hi']; rfl
      · intro p hp
        rcases aput_mem _ _ _ p hp with e | e
        · subst e; simp only; push_cast; omega
        · have := hb p e; push_cast; omega
      · have := aput_len m (l.getD i default).name ((aget m (l.getD i default).name).getD 0 + (l.getD i default).exp); show List.length (aput _ _ _) ≤ i + 1; omega
  · have e : i = l.length := by omega
    subst e
    rw [List.take_length] at hw
    rw [List.drop_length] at hs
    simp only [sums] at hs
    have hN : normU l = normL m (sortS (m.map (·.1))) [] := by rw [normU, if_pos hw, ← hs]
    have hsl : Is mx 80 [.map (m.map entW)] (.sl ((sortS (m.map (·.1))).map rowS)) := by
      have := sorted_is (mx := mx) (m.map fun p => (p.1, I.agg (eWide p.2))) (by simp; omega)
      rw [List.map_map, List.map_map] at this
      exact this
    generalize hns : sortS (m.map (·.1)) = ns at hN hsl
    have hnl : ns.length ≤ 1073741824 := by rw [← hns]; simp only [sortS, List.length_mergeSort, List.length_map]; omega
    (repeat' first
| exact hole _
| simp (maxSteps := 9999999) (disch := omega) only [go_sem, reduceCtorEq, Int.reduceToNat, Int.reduceNeg, Int.reduceLT, Int.reduceLE, Int.reduceEq, Int.reduceAdd, Int.reduceSub, Int.reduceMul, Nat.reduceAdd, Nat.reduceSub, Nat.reduceMul, Nat.reduceEqDiff, Nat.reduceBEq, Nat.reduceBneDiff, Nat.reduceLeDiff, Nat.reduceLT, reduceIte, R61, ltF hi']
| refine' gdV_sc' rfl rfl (by simp only [V0, V1, Nat.reduceEqDiff, reduceIte]) (fun hq => ?_) (fun f => ?_) <;> try (have hq' := hq; try simp only [HB] at hq')
| refine' gdD_sc' rfl rfl (by simp only [V0, V1, Nat.reduceEqDiff, reduceIte]) (fun hq => ?_) (fun f => ?_) <;> try (have hq' := hq; try simp only [HB] at hq')
| refine gdV_intro (fun h => ?_) (fun h => ?_) <;> (have h' := h; try simp only [HB] at h'; try rewrite [h]; try simp only [h])
| refine condJ_intro (fun h => ?_) (fun h => ?_) <;> (have h' := h; try simp only [HB] at h'; try rewrite [h]; try simp only [h])
| refine pickE_intro (fun h => ?_) (fun h => ?_) <;> (have h' := h; try simp only [HB] at h'; try rewrite [h]; try simp only [h])
| refine gdD_intro (fun h => ?_) (fun h => ?_) <;> (have h' := h; try simp only [HB] at h'; try rewrite [h]; try simp only [h])
| refine callL_of (hsl) ?_
| refine ct_I ?_
| refine callG_I ?_ ?_
| refine callG_Iv ?_ ?_
| refine drJ_I (by simp only [R61]; rfl) ?_
| refine ret_I (R := isR _) ?_
| refine nxt_I (fun hr => ?_) (fun q hq => ?_)
| refine isnil_I (fun hnil b => ?_) (fun hnil => ?_)
| (refine And.intro ?_ ?_; focus omega))
    refine loopT (L61_1.eq_1 0) [4, 35, 36] (by simp only [V0, V1, V2, V25, reduceIte, Nat.reduceEqDiff]; rfl) (fun g : Nat × List Fac => [(2, .ref (.sl 2 2 0 g.2.length)), (37, .i (iI g.1))]) (fun g => [(2, .rows 52 2 (g.2.map eFac))])
      (fun g => g.1 ≤ ns.length ∧ normL m (ns.drop g.1) g.2 = normU l ∧ g.2.length ≤ g.1) (fun g => ns.length - g.1) (0, []) (by simp [hN]) (by simp [V0, V1, V2, V11, V8, V15, Ref.nm]) ?_
    rintro ⟨i, u⟩ ⟨hi, hs2, hul⟩
    simp only at hi hs2 hul
    by_cases hi2 : i < ns.length
    · have hg := bigM_get hb (by omega) (ns.getD i default)
      rw [List.drop_eq_getElem_cons hi2, ← getD_lt hi2] at hs2
      simp only [normL] at hs2
      generalize hn : (aget m (ns.getD i default)).getD 0 = n at hs2 hg
      by_cases hn8 : absI n ≤ 1152921504606846976
      · simp only [hn8, decide_true, Bool.not_true, Bool.false_or] at hs2
        (repeat' first
| exact hole _
| simp (maxSteps := 9999999) (disch := omega) only [go_sem, reduceCtorEq, Int.reduceToNat, Int.reduceNeg, Int.reduceLT, Int.reduceLE, Int.reduceEq, Int.reduceAdd, Int.reduceSub, Int.reduceMul, Nat.reduceAdd, Nat.reduceSub, Nat.reduceMul, Nat.reduceEqDiff, Nat.reduceBEq, Nat.reduceBneDiff, Nat.reduceLeDiff, Nat.reduceLT, reduceIte, R61, ltT hi2, look_w, fit_w, hn, Nat.sub_zero, hn8]
| refine' gdV_sc' rfl rfl (by simp only [V0, V1, Nat.reduceEqDiff, reduceIte]) (fun hq => ?_) (fun f => ?_) <;> try (have hq' := hq; try simp only [HB] at hq')
| refine' gdD_sc' rfl rfl (by simp only [V0, V1, Nat.reduceEqDiff, reduceIte]) (fun hq => ?_) (fun f => ?_) <;> try (have hq' := hq; try simp only [HB] at hq')
| refine gdV_intro (fun h => ?_) (fun h => ?_) <;> (have h' := h; try simp only [HB] at h'; try rewrite [h]; try simp only [h])
| refine condJ_intro (fun h => ?_) (fun h => ?_) <;> (have h' := h; try simp only [HB] at h'; try rewrite [h]; try simp only [h])
| refine pickE_intro (fun h => ?_) (fun h => ?_) <;> (have h' := h; try simp only [HB] at h'; try rewrite [h]; try simp only [h])
| refine gdD_intro (fun h => ?_) (fun h => ?_) <;> (have h' := h; try simp only [HB] at h'; try rewrite [h]; try simp only [h])
| refine callL_of (Divide1_is _ (by omega)) ?_
| refine callL_of (outside_is _ _ (by omega)) ?_
| refine ct_I ?_
| refine callG_I ?_ ?_
| refine callG_Iv ?_ ?_
| refine drJ_I (by simp only [R61]; rfl) ?_
| refine ret_I (R := isR _) ?_
| refine nxt_I (fun hr => ?_) (fun q hq => ?_)
| refine isnil_I (fun hnil b => ?_) (fun hnil => ?_)
| (refine And.intro ?_ ?_; focus omega))
        · rw [if_pos (by simp only [farE]; exact h)] at hs2
          rw [← hs2]; rfl
        · skip
          have hf : farE n = false := by simp only [farE]; grind
          rw [if_neg (by rw [hf]; simp), if_pos h'] at hs2
          refine ⟨by simp, by simp [I.one], by omega, by omega, ⟨i + 1, u ++ [⟨ns.getD i default, n⟩]⟩, ⟨by omega, hs2, by simp; omega⟩, by show ns.length - (i + 1) < _; omega, ⟨by simp, rfl⟩, ?_⟩
          simp [eFac]
        · have hf : farE n = false := by simp only [farE]; grind
          rw [if_neg (by rw [hf]; simp), if_neg (by omega)] at hs2
          exact ⟨⟨i + 1, u⟩, ⟨by omega, hs2, by show u.length ≤ i + 1; omega⟩, by show ns.length - (i + 1) < _; omega, ⟨rfl, rfl⟩, rfl⟩
      · simp only [hn8, decide_false, Bool.not_false, Bool.true_or, if_true] at hs2
        (repeat' first
| exact hole _
| simp (maxSteps := 9999999) (disch := omega) only [go_sem, reduceCtorEq, Int.reduceToNat, Int.reduceNeg, Int.reduceLT, Int.reduceLE, Int.reduceEq, Int.reduceAdd, Int.reduceSub, Int.reduceMul, Nat.reduceAdd, Nat.reduceSub, Nat.reduceMul, Nat.reduceEqDiff, Nat.reduceBEq, Nat.reduceBneDiff, Nat.reduceLeDiff, Nat.reduceLT, reduceIte, R61, ltT hi2, look_w, fit_w, hn, Nat.sub_zero, hn8]
| refine' gdV_sc' rfl rfl (by simp only [V0, V1, Nat.reduceEqDiff, reduceIte]) (fun hq => ?_) (fun f => ?_) <;> try (have hq' := hq; try simp only [HB] at hq')
| refine' gdD_sc' rfl rfl (by simp only [V0, V1, Nat.reduceEqDiff, reduceIte]) (fun hq => ?_) (fun f => ?_) <;> try (have hq' := hq; try simp only [HB] at hq')
| refine gdV_intro (fun h => ?_) (fun h => ?_) <;> (have h' := h; try simp only [HB] at h'; try rewrite [h]; try simp only [h])
| refine condJ_intro (fun h => ?_) (fun h => ?_) <;> (have h' := h; try simp only [HB] at h'; try rewrite [h]; try simp only [h])
| refine pickE_intro (fun h => ?_) (fun h => ?_) <;> (have h' := h; try simp only [HB] at h'; try rewrite [h]; try simp only [h])
| refine gdD_intro (fun h => ?_) (fun h => ?_) <;> (have h' := h; try simp only [HB] at h'; try rewrite [h]; try simp only [h])
| refine callL_of (Divide1_is _ (by omega)) ?_
| refine callL_of (outside_is _ _ (by omega)) ?_
| refine ct_I ?_
| refine callG_I ?_ ?_
| refine callG_Iv ?_ ?_
| refine drJ_I (by simp only [R61]; rfl) ?_
| refine ret_I (R := isR _) ?_
| refine nxt_I (fun hr => ?_) (fun q hq => ?_)
| refine isnil_I (fun hnil b => ?_) (fun hnil => ?_)
| (refine And.intro ?_ ?_; focus omega))
        all_goals (rw [← hs2]; rfl)
    · have e : i = ns.length := by omega
      subst e
      rw [List.drop_length] at hs2
      simp only [normL] at hs2
      (repeat' first
| exact hole _
| simp (maxSteps := 9999999) (disch := omega) only [go_sem, reduceCtorEq, Int.reduceToNat, Int.reduceNeg, Int.reduceLT, Int.reduceLE, Int.reduceEq, Int.reduceAdd, Int.reduceSub, Int.reduceMul, Nat.reduceAdd, Nat.reduceSub, Nat.reduceMul, Nat.reduceEqDiff, Nat.reduceBEq, Nat.reduceBneDiff, Nat.reduceLeDiff, Nat.reduceLT, reduceIte, R61, ltF hi2, Nat.sub_zero]
| refine' gdV_sc' rfl rfl (by simp only [V0, V1, Nat.reduceEqDiff, reduceIte]) (fun hq => ?_) (fun f => ?_) <;> try (have hq' := hq; try simp only [HB] at hq')
| refine' gdD_sc' rfl rfl (by simp only [V0, V1, Nat.reduceEqDiff, reduceIte]) (fun hq => ?_) (fun f => ?_) <;> try (have hq' := hq; try simp only [HB] at hq')
| refine gdV_intro (fun h => ?_) (fun h => ?_) <;> (have h' := h; try simp only [HB] at h'; try rewrite [h]; try simp only [h])
| refine condJ_intro (fun h => ?_) (fun h => ?_) <;> (have h' := h; try simp only [HB] at h'; try rewrite [h]; try simp only [h])
| refine pickE_intro (fun h => ?_) (fun h => ?_) <;> (have h' := h; try simp only [HB] at h'; try rewrite [h]; try simp only [h])
| refine gdD_intro (fun h => ?_) (fun h => ?_) <;> (have h' := h; try simp only [HB] at h'; try rewrite [h]; try simp only [h])
| refine ct_I ?_
| refine callG_I ?_ ?_
| refine callG_Iv ?_ ?_
| refine drJ_I (by simp only [R61]; rfl) ?_
| refine ret_I (R := isR _) ?_
| refine nxt_I (fun hr => ?_) (fun q hq => ?_)
| refine isnil_I (fun hnil b => ?_) (fun hnil => ?_)
| (refine And.intro ?_ ?_; focus omega))
      · rw [if_pos (by omega)] at hs2
        rw [← hs2]; rfl
      · rw [if_neg (by omega)] at hs2
        rw [← hs2]; rfl

end Go.Proofs.YtihbaggjjglcbaaGreatDoor
end

section
set_option maxRecDepth 100000
set_option maxHeartbeats 8000000
set_option linter.unusedVariables false
set_option linter.unusedSimpArgs false
namespace Go.Proofs.YtihbaggjjglcbaaGreatDoor
open Go Go.Dl Go.As Go.Proofs
variable {mx : Int}
attribute [local irreducible] callG callL MC W W2 evT ev evD step stepD

theorem rows_ok {α : Type} {f : α → List I} {k : Nat} (l : List α) (h1 : ∀ x, (f x).length = k) (h2 : ∀ x, (f x).all I.one = true) : (∀ r ∈ l.map f, r.length = k) ∧ ∀ r ∈ l.map f, r.all I.one = true := by
  constructor <;> (intro r hr; obtain ⟨x, _, rfl⟩ := List.mem_map.1 hr)
  · exact h1 x
  · exact h2 x
theorem facClone_mc (l : List Fac) (hl : l.length ≤ 1073741824) : MC Tryz.prog (GLm mx) 60 [.i (.sl (l.map eFac))] [] []
    (fun r s => r = .ref (.sl 6000 2 0 l.length) ∧ s = [(6000, .rows 52 2 (l.map eFac))]) := by
  refine MC_of_J Tryz.func60 (by kernel_rfl) Tryz.ntmps60 rfl rfl comp60 rv60 rfl c60.eq_1 ?_
  have hr := rows_ok (f := eFac) (k := 2) l (fun _ => rfl) (fun _ => rfl)
  (repeat' first
| exact hole _
| simp (maxSteps := 9999999) (disch := omega) only [go_sem, reduceCtorEq, Int.reduceToNat, Int.reduceNeg, Int.reduceLT, Int.reduceLE, Int.reduceEq, Int.reduceAdd, Int.reduceSub, Int.reduceMul, Nat.reduceAdd, Nat.reduceSub, Nat.reduceMul, Nat.reduceEqDiff, Nat.reduceBEq, Nat.reduceBneDiff, Nat.reduceLeDiff, Nat.reduceLT, reduceIte, R60, hr, Nat.zero_add]
| refine' gdV_sc' rfl rfl (by simp only [V0, V1, Nat.reduceEqDiff, reduceIte]) (fun hq => ?_) (fun f => ?_) <;> try (have hq' := hq; try simp only [HB] at hq')
| refine' gdD_sc' rfl rfl (by simp only [V0, V1, Nat.reduceEqDiff, reduceIte]) (fun hq => ?_) (fun f => ?_) <;> try (have hq' := hq; try simp only [HB] at hq')
| refine gdV_intro (fun h => ?_) (fun h => ?_) <;> (have h' := h; try simp only [HB] at h'; try rewrite [h]; try simp only [h])
| refine condJ_intro (fun h => ?_) (fun h => ?_) <;> (have h' := h; try simp only [HB] at h'; try rewrite [h]; try simp only [h])
| refine pickE_intro (fun h => ?_) (fun h => ?_) <;> (have h' := h; try simp only [HB] at h'; try rewrite [h]; try simp only [h])
| refine gdD_intro (fun h => ?_) (fun h => ?_) <;> (have h' := h; try simp only [HB] at h'; try rewrite [h]; try simp only [h])
| refine ct_I ?_
| refine callG_I ?_ ?_
| refine callG_Iv ?_ ?_
| refine drJ_I (by simp only [R60]; rfl) ?_
| refine ret_I (R := isR _) ?_
| refine nxt_I (fun hr => ?_) (fun q hq => ?_)
| refine isnil_I (fun hnil b => ?_) (fun hnil => ?_)
| (refine And.intro ?_ ?_; focus omega))
  · have e : l = [] := by simpa using hnil
    subst e
    cases h'
    refine ret_M [(2, 6000)] (by simp only [go_sem, reduceCtorEq, Int.reduceToNat, Int.reduceNeg, Int.reduceLT, Int.reduceLE, Int.reduceEq, Int.reduceAdd, Int.reduceSub, Int.reduceMul, Nat.reduceAdd, Nat.reduceSub, Nat.reduceMul, Nat.reduceEqDiff, Nat.reduceBEq, Nat.reduceBneDiff, Nat.reduceLeDiff, Nat.reduceLT, reduceIte, V10]; rfl) (by simp [V29]; rfl) (by decide) (by simp [V0, V1, V2, V11, V8, V15, Ref.nm]) ?_
    simp [V29]
  · refine ⟨hr.1, hr.2, by omega, by omega, ?_⟩
    refine ret_M [(5, 6000)] (by simp only [go_sem, reduceCtorEq, Int.reduceToNat, Int.reduceNeg, Int.reduceLT, Int.reduceLE, Int.reduceEq, Int.reduceAdd, Int.reduceSub, Int.reduceMul, Nat.reduceAdd, Nat.reduceSub, Nat.reduceMul, Nat.reduceEqDiff, Nat.reduceBEq, Nat.reduceBneDiff, Nat.reduceLeDiff, Nat.reduceLT, reduceIte, V10]; rfl) (by simp [V29]; rfl) (by decide) (by simp [V0, V1, V2, V11, V8, V15, Ref.nm]) ?_
    simp [V29]
  · simp at h
  · refine ⟨hr.1, hr.2, by omega, by omega, ?_⟩
    refine ret_M [(5, 6000)] (by simp only [go_sem, reduceCtorEq, Int.reduceToNat, Int.reduceNeg, Int.reduceLT, Int.reduceLE, Int.reduceEq, Int.reduceAdd, Int.reduceSub, Int.reduceMul, Nat.reduceAdd, Nat.reduceSub, Nat.reduceMul, Nat.reduceEqDiff, Nat.reduceBEq, Nat.reduceBneDiff, Nat.reduceLeDiff, Nat.reduceLT, reduceIte, V10]; rfl) (by simp [V29]; rfl) (by decide) (by simp [V0, V1, V2, V11, V8, V15, Ref.nm]) ?_
    simp [V29]
def prodU (a b : List Fac) (sign : Int) : List Fac × Int :=
  if unitCheck a ≠ 0 then ([], unitCheck a) else if unitCheck b ≠ 0 then ([], unitCheck b)
  else normU (a ++ b.map fun f => ⟨f.name, sign * f.exp⟩)
theorem uc_ok : ∀ (u : List Fac) (p : Option Str), uc p u = 0 → ∀ f ∈ u, (f.exp ≠ 0 ∧ -8 ≤ f.exp ∧ f.exp ≤ 8) ∧ word f.name = true
  | [], _, _, f, hf => by simp at hf
  | g :: r, p, h, f, hf => by
    unfold uc at h
    by_cases h1 : (!word g.name) = true
    · rw [if_pos h1] at h; simp at h
    by_cases h2 : (decide (g.exp = 0) || decide (g.exp > 8 ∨ g.exp < -8)) = true
    · rw [if_neg h1, if_pos h2] at h; simp at h
    rw [if_neg h1, if_neg h2] at h
    rcases List.mem_cons.1 hf with e | e
    · subst e
      simp only [Bool.or_eq_true, decide_eq_true_eq] at h2
      exact ⟨by omega, by simpa using h1⟩
    · have h3 : uc (some g.name) r = 0 := by
        split at h
        · split at h <;> first | (simp at h; done) | exact h
        · split at h <;> first | (simp at h; done) | exact h
      exact uc_ok r _ h3 f e
theorem unit_ok {u : List Fac} (h : unitCheck u = 0) : u.length ≤ 4 ∧ ∀ f ∈ u, (f.exp ≠ 0 ∧ -8 ≤ f.exp ∧ f.exp ≤ 8) ∧ word f.name = true := by
  unfold unitCheck at h
  split at h
  · simp at h
  · exact ⟨by omega, uc_ok u none h⟩
theorem product_is (a b : List Fac) (sign : Int) (ha : a.length ≤ 1073741824) (hb : b.length ≤ 1073741824) (hs : sign = 1 ∨ sign = -1) : Is mx 36 [.sl (a.map eFac), .sl (b.map eFac), iI sign] (eUn (prodU a b sign)) := by
  refine MC_of_J Tryz.func36 (by kernel_rfl) Tryz.ntmps36 rfl rfl comp36 rv36 rfl c36.eq_1 ?_
  (repeat' first
| exact hole _
| simp (maxSteps := 9999999) (disch := omega) only [go_sem, reduceCtorEq, Int.reduceToNat, Int.reduceNeg, Int.reduceLT, Int.reduceLE, Int.reduceEq, Int.reduceAdd, Int.reduceSub, Int.reduceMul, Nat.reduceAdd, Nat.reduceSub, Nat.reduceMul, Nat.reduceEqDiff, Nat.reduceBEq, Nat.reduceBneDiff, Nat.reduceLeDiff, Nat.reduceLT, reduceIte, R36]
| refine' gdV_sc' rfl rfl (by simp only [V0, V1, Nat.reduceEqDiff, reduceIte]) (fun hq => ?_) (fun f => ?_) <;> try (have hq' := hq; try simp only [HB] at hq')
| refine' gdD_sc' rfl rfl (by simp only [V0, V1, Nat.reduceEqDiff, reduceIte]) (fun hq => ?_) (fun f => ?_) <;> try (have hq' := hq; try simp only [HB] at hq')
| refine gdV_intro (fun h => ?_) (fun h => ?_) <;> (have h' := h; try simp only [HB] at h'; try rewrite [h]; try simp only [h])
| refine condJ_intro (fun h => ?_) (fun h => ?_) <;> (have h' := h; try simp only [HB] at h'; try rewrite [h]; try simp only [h])
| refine pickE_intro (fun h => ?_) (fun h => ?_) <;> (have h' := h; try simp only [HB] at h'; try rewrite [h]; try simp only [h])
| refine gdD_intro (fun h => ?_) (fun h => ?_) <;> (have h' := h; try simp only [HB] at h'; try rewrite [h]; try simp only [h])
| refine callL_of (unitCheck_is _ ha) ?_
| refine callL_of (unitCheck_is _ hb) ?_
| refine ct_I ?_
| (refine callG_M (facClone_mc a ha) (by simp only [go_sem, reduceCtorEq, Int.reduceToNat, Int.reduceNeg, Int.reduceLT, Int.reduceLE, Int.reduceEq, Int.reduceAdd, Int.reduceSub, Int.reduceMul, Nat.reduceAdd, Nat.reduceSub, Nat.reduceMul, Nat.reduceEqDiff, Nat.reduceBEq, Nat.reduceBneDiff, Nat.reduceLeDiff, Nat.reduceLT, reduceIte, R36]; done) (by simp [V0, V1, V2, V11, V8, V15, Ref.nm]) (by simp [V0, V1, V2, V11, V8, V15, Ref.nm]) (fun r sto' hR => ?_); obtain ⟨rfl, rfl⟩ := hR)
| refine callG_I ?_ ?_
| refine callG_Iv ?_ ?_
| refine drJ_I (by simp only [R36]; rfl) ?_
| refine ret_I (R := isR _) ?_
| refine nxt_I (fun hr => ?_) (fun q hq => ?_)
| refine isnil_I (fun hnil b => ?_) (fun hnil => ?_)
| (refine And.intro ?_ ?_; focus omega))
  · simp [prodU, h', eUn]
  · simp only [prodU, eUn]; grind
  have ha' : unitCheck a = 0 := by grind
  obtain ⟨ha4, hae⟩ := unit_ok ha'
  obtain ⟨hb4, hbe⟩ := unit_ok h'
  refine loopT (L36_0.eq_1 0) [2, 25, 26] (by simp only [V0, V1, V2, V25, reduceIte, Nat.reduceEqDiff]; rfl) (fun g : Nat × List Fac => [(10, .ref (.sl 24 2 0 g.2.length)), (27, .i (iI g.1))]) (fun g => [(24, .rows 52 2 (g.2.map eFac)), (6, .rows 52 2 [])])
    (fun g => g.1 ≤ b.length ∧ g.2 = a ++ (b.take g.1).map fun f => (⟨f.name, sign * f.exp⟩ : Fac)) (fun g => b.length - g.1) (0, a) (by simp) (by simp [V0, V1, V2, V11, V8, V15, Ref.nm]) ?_
  rintro ⟨i, u⟩ ⟨hi, hu⟩
  simp only at hi hu
  have hul : u.length = a.length + i := by rw [hu]; simp; omega
  by_cases hi' : i < b.length
  · have hm := hbe _ (getD_mem hi')
    have e1 : IntKind.i64.wrap (sign * (b.getD i default).exp) = sign * (b.getD i default).exp := by
      rcases hs with rfl | rfl <;> exact wrap64 (by omega) (by omega)
    (repeat' first
| exact hole _
| simp (maxSteps := 9999999) (disch := omega) only [go_sem, reduceCtorEq, Int.reduceToNat, Int.reduceNeg, Int.reduceLT, Int.reduceLE, Int.reduceEq, Int.reduceAdd, Int.reduceSub, Int.reduceMul, Nat.reduceAdd, Nat.reduceSub, Nat.reduceMul, Nat.reduceEqDiff, Nat.reduceBEq, Nat.reduceBneDiff, Nat.reduceLeDiff, Nat.reduceLT, reduceIte, R36, ltT hi', e1, Nat.sub_zero]
| refine' gdV_sc' rfl rfl (by simp only [V0, V1, Nat.reduceEqDiff, reduceIte]) (fun hq => ?_) (fun f => ?_) <;> try (have hq' := hq; try simp only [HB] at hq')
| refine' gdD_sc' rfl rfl (by simp only [V0, V1, Nat.reduceEqDiff, reduceIte]) (fun hq => ?_) (fun f => ?_) <;> try (have hq' := hq; try simp only [HB] at hq')
| refine gdV_intro (fun h => ?_) (fun h => ?_) <;> (have h' := h; try simp only [HB] at h'; try rewrite [h]; try simp only [h])
| refine condJ_intro (fun h => ?_) (fun h => ?_) <;> (have h' := h; try simp only [HB] at h'; try rewrite [h]; try simp only [h])
| refine pickE_intro (fun h => ?_) (fun h => ?_) <;> (have h' := h; try simp only [HB] at h'; try rewrite [h]; try simp only [h])
| refine gdD_intro (fun h => ?_) (fun h => ?_) <;> (have h' := h; try simp only [HB] at h'; try rewrite [h]; try simp only [h])
| refine ct_I ?_
| refine callG_I ?_ ?_
| refine callG_Iv ?_ ?_
| refine drJ_I (by simp only [R36]; rfl) ?_
| refine ret_I (R := isR _) ?_
| refine nxt_I (fun hr => ?_) (fun q hq => ?_)
| refine isnil_I (fun hnil b => ?_) (fun hnil => ?_)
| (refine And.intro ?_ ?_; focus omega))
    refine ⟨by simp, by simp [I.one], by omega, by omega, ⟨i + 1, u ++ [⟨(b.getD i default).name, sign * (b.getD i default).exp⟩]⟩, ⟨by omega, ?_⟩, by show b.length - (i + 1) < _; omega, ⟨by simp, rfl⟩, by simp [eFac]⟩
    rw [hu, List.take_succ_eq_append_getElem hi', List.map_append, List.append_assoc, getD_lt hi']; rfl
  · have e : i = b.length := by omega
    subst e
    rw [List.take_length] at hu
    have hx : ∀ f ∈ u, -9223372036854775808 ≤ f.exp ∧ f.exp ≤ 9223372036854775807 := by
      intro f hf
      rw [hu] at hf
      rcases List.mem_append.1 hf with h | h
      · have := hae f h; omega
      · obtain ⟨g, hg, rfl⟩ := List.mem_map.1 h
        have := hbe g hg
        rcases hs with rfl | rfl <;> simp only <;> omega
    have hp : prodU a b sign = normU u := by simp [prodU, ha', h', hu]
    (repeat' first
| exact hole _
| simp (maxSteps := 9999999) (disch := omega) only [go_sem, reduceCtorEq, Int.reduceToNat, Int.reduceNeg, Int.reduceLT, Int.reduceLE, Int.reduceEq, Int.reduceAdd, Int.reduceSub, Int.reduceMul, Nat.reduceAdd, Nat.reduceSub, Nat.reduceMul, Nat.reduceEqDiff, Nat.reduceBEq, Nat.reduceBneDiff, Nat.reduceLeDiff, Nat.reduceLT, reduceIte, R36, ltF hi', Nat.sub_zero, eUn]
| refine' gdV_sc' rfl rfl (by simp only [V0, V1, Nat.reduceEqDiff, reduceIte]) (fun hq => ?_) (fun f => ?_) <;> try (have hq' := hq; try simp only [HB] at hq')
| refine' gdD_sc' rfl rfl (by simp only [V0, V1, Nat.reduceEqDiff, reduceIte]) (fun hq => ?_) (fun f => ?_) <;> try (have hq' := hq; try simp only [HB] at hq')
| refine gdV_intro (fun h => ?_) (fun h => ?_) <;> (have h' := h; try simp only [HB] at h'; try rewrite [h]; try simp only [h])
| refine condJ_intro (fun h => ?_) (fun h => ?_) <;> (have h' := h; try simp only [HB] at h'; try rewrite [h]; try simp only [h])
| refine pickE_intro (fun h => ?_) (fun h => ?_) <;> (have h' := h; try simp only [HB] at h'; try rewrite [h]; try simp only [h])
| refine gdD_intro (fun h => ?_) (fun h => ?_) <;> (have h' := h; try simp only [HB] at h'; try rewrite [h]; try simp only [h])
| refine callL_of (Normal_is _ (by omega) hx) ?_
| refine ct_I ?_
| refine callG_I ?_ ?_
| refine callG_Iv ?_ ?_
| refine drJ_I (by simp only [R36]; rfl) ?_
| refine ret_I (R := isR _) ?_
| refine nxt_I (fun hr => ?_) (fun q hq => ?_)
| refine isnil_I (fun hnil b => ?_) (fun hnil => ?_)
| (refine And.intro ?_ ?_; focus omega))
    rw [hp]
theorem Times_is (a b : List Fac) (ha : a.length ≤ 1073741824) (hb : b.length ≤ 1073741824) : Is mx 13 [.sl (a.map eFac), .sl (b.map eFac)] (eUn (prodU a b 1)) := by
  refine MC_of_J Tryz.func13 (by kernel_rfl) Tryz.ntmps13 rfl rfl comp13 rv13 rfl c13.eq_1 ?_
  (repeat' first
| exact hole _
| simp (maxSteps := 9999999) (disch := omega) only [go_sem, reduceCtorEq, Int.reduceToNat, Int.reduceNeg, Int.reduceLT, Int.reduceLE, Int.reduceEq, Int.reduceAdd, Int.reduceSub, Int.reduceMul, Nat.reduceAdd, Nat.reduceSub, Nat.reduceMul, Nat.reduceEqDiff, Nat.reduceBEq, Nat.reduceBneDiff, Nat.reduceLeDiff, Nat.reduceLT, reduceIte, R13, eUn]
| refine' gdV_sc' rfl rfl (by simp only [V0, V1, Nat.reduceEqDiff, reduceIte]) (fun hq => ?_) (fun f => ?_) <;> try (have hq' := hq; try simp only [HB] at hq')
| refine' gdD_sc' rfl rfl (by simp only [V0, V1, Nat.reduceEqDiff, reduceIte]) (fun hq => ?_) (fun f => ?_) <;> try (have hq' := hq; try simp only [HB] at hq')
| refine gdV_intro (fun h => ?_) (fun h => ?_) <;> (have h' := h; try simp only [HB] at h'; try rewrite [h]; try simp only [h])
| refine condJ_intro (fun h => ?_) (fun h => ?_) <;> (have h' := h; try simp only [HB] at h'; try rewrite [h]; try simp only [h])
| refine pickE_intro (fun h => ?_) (fun h => ?_) <;> (have h' := h; try simp only [HB] at h'; try rewrite [h]; try simp only [h])
| refine gdD_intro (fun h => ?_) (fun h => ?_) <;> (have h' := h; try simp only [HB] at h'; try rewrite [h]; try simp only [h])
| refine callL_of (product_is _ _ 1 ha hb (by omega)) ?_
| refine ct_I ?_
| refine callG_I ?_ ?_
| refine callG_Iv ?_ ?_
| refine drJ_I (by simp only [R13]; rfl) ?_
| refine ret_I (R := isR _) ?_
| refine nxt_I (fun hr => ?_) (fun q hq => ?_)
| refine isnil_I (fun hnil b => ?_) (fun hnil => ?_)
| (refine And.intro ?_ ?_; focus omega))
theorem Over_is (a b : List Fac) (ha : a.length ≤ 1073741824) (hb : b.length ≤ 1073741824) : Is mx 15 [.sl (a.map eFac), .sl (b.map eFac)] (eUn (prodU a b (-1))) := by
  refine MC_of_J Tryz.func15 (by kernel_rfl) Tryz.ntmps15 rfl rfl comp15 rv15 rfl c15.eq_1 ?_
  (repeat' first
| exact hole _
| simp (maxSteps := 9999999) (disch := omega) only [go_sem, reduceCtorEq, Int.reduceToNat, Int.reduceNeg, Int.reduceLT, Int.reduceLE, Int.reduceEq, Int.reduceAdd, Int.reduceSub, Int.reduceMul, Nat.reduceAdd, Nat.reduceSub, Nat.reduceMul, Nat.reduceEqDiff, Nat.reduceBEq, Nat.reduceBneDiff, Nat.reduceLeDiff, Nat.reduceLT, reduceIte, R15, eUn]
| refine' gdV_sc' rfl rfl (by simp only [V0, V1, Nat.reduceEqDiff, reduceIte]) (fun hq => ?_) (fun f => ?_) <;> try (have hq' := hq; try simp only [HB] at hq')
| refine' gdD_sc' rfl rfl (by simp only [V0, V1, Nat.reduceEqDiff, reduceIte]) (fun hq => ?_) (fun f => ?_) <;> try (have hq' := hq; try simp only [HB] at hq')
| refine gdV_intro (fun h => ?_) (fun h => ?_) <;> (have h' := h; try simp only [HB] at h'; try rewrite [h]; try simp only [h])
| refine condJ_intro (fun h => ?_) (fun h => ?_) <;> (have h' := h; try simp only [HB] at h'; try rewrite [h]; try simp only [h])
| refine pickE_intro (fun h => ?_) (fun h => ?_) <;> (have h' := h; try simp only [HB] at h'; try rewrite [h]; try simp only [h])
| refine gdD_intro (fun h => ?_) (fun h => ?_) <;> (have h' := h; try simp only [HB] at h'; try rewrite [h]; try simp only [h])
| refine callL_of (product_is _ _ (-1) ha hb (by omega)) ?_
| refine ct_I ?_
| refine callG_I ?_ ?_
| refine callG_Iv ?_ ?_
| refine drJ_I (by simp only [R15]; rfl) ?_
| refine ret_I (R := isR _) ?_
| refine nxt_I (fun hr => ?_) (fun q hq => ?_)
| refine isnil_I (fun hnil b => ?_) (fun hnil => ?_)
| (refine And.intro ?_ ?_; focus omega))

end Go.Proofs.YtihbaggjjglcbaaGreatDoor
end

section
set_option maxRecDepth 100000
set_option maxHeartbeats 8000000
set_option linter.unusedVariables false
set_option linter.unusedSimpArgs false
namespace Go.Proofs.YtihbaggjjglcbaaGreatDoor
open Go Go.Dl Go.As Go.Proofs
variable {mx : Int}
attribute [local irreducible] callG callL MC W W2 evT ev evD step stepD

theorem tblIdx_is (p : Tbl → Bool) (l : List Tbl) (f : Nat) (fs cs : List I) (hl : l.length ≤ 1073741824) (hp : ∀ x ∈ l, Is mx f (fs ++ [.agg (eTbl x)] ++ cs) (.bool (p x))) :
    Is mx 52 [.sl (l.map eTbl), .fn f fs cs] (iI (idxOf p l)) := by
  refine MC_of_J Tryz.func52 (by kernel_rfl) Tryz.ntmps52 rfl rfl comp52 rv52 rfl c52.eq_1 ?_
  (repeat' first
| exact hole _
| simp (maxSteps := 9999999) (disch := omega) only [go_sem, reduceCtorEq, Int.reduceToNat, Int.reduceNeg, Int.reduceLT, Int.reduceLE, Int.reduceEq, Int.reduceAdd, Int.reduceSub, Int.reduceMul, Nat.reduceAdd, Nat.reduceSub, Nat.reduceMul, Nat.reduceEqDiff, Nat.reduceBEq, Nat.reduceBneDiff, Nat.reduceLeDiff, Nat.reduceLT, reduceIte, R52]
| refine' gdV_sc' rfl rfl (by simp only [V0, V1, Nat.reduceEqDiff, reduceIte]) (fun hq => ?_) (fun f => ?_) <;> try (have hq' := hq; try simp only [HB] at hq')
| refine' gdD_sc' rfl rfl (by simp only [V0, V1, Nat.reduceEqDiff, reduceIte]) (fun hq => ?_) (fun f => ?_) <;> try (have hq' := hq; try simp only [HB] at hq')
| refine gdV_intro (fun h => ?_) (fun h => ?_) <;> (have h' := h; try simp only [HB] at h'; try rewrite [h]; try simp only [h])
| refine condJ_intro (fun h => ?_) (fun h => ?_) <;> (have h' := h; try simp only [HB] at h'; try rewrite [h]; try simp only [h])
| refine pickE_intro (fun h => ?_) (fun h => ?_) <;> (have h' := h; try simp only [HB] at h'; try rewrite [h]; try simp only [h])
| refine gdD_intro (fun h => ?_) (fun h => ?_) <;> (have h' := h; try simp only [HB] at h'; try rewrite [h]; try simp only [h])
| refine ct_I ?_
| refine callG_I ?_ ?_
| refine callG_Iv ?_ ?_
| refine drJ_I (by simp only [R52]; rfl) ?_
| refine ret_I (R := isR _) ?_
| refine nxt_I (fun hr => ?_) (fun q hq => ?_)
| refine isnil_I (fun hnil b => ?_) (fun hnil => ?_)
| (refine And.intro ?_ ?_; focus omega))
  refine loopS (L52_0.eq_1 0) [0, 1, 7] (by simp only [V0, V1, V2, V25, reduceIte, Nat.reduceEqDiff]; rfl) (fun i => [(8, .i (iI i))]) (fun _ => []) (fun i => ∀ j (h : j < l.length), j < i → p l[j] = false) l.length 0 (by omega) (by simp) (by simp [V0, V1, V2, V11, V8, V15, Ref.nm]) ?_
  intro i hi hinv
  (repeat' first
| exact hole _
| simp (maxSteps := 9999999) (disch := omega) only [go_sem, reduceCtorEq, Int.reduceToNat, Int.reduceNeg, Int.reduceLT, Int.reduceLE, Int.reduceEq, Int.reduceAdd, Int.reduceSub, Int.reduceMul, Nat.reduceAdd, Nat.reduceSub, Nat.reduceMul, Nat.reduceEqDiff, Nat.reduceBEq, Nat.reduceBneDiff, Nat.reduceLeDiff, Nat.reduceLT, reduceIte, R52]
| refine' gdV_sc' rfl rfl (by simp only [V0, V1, Nat.reduceEqDiff, reduceIte]) (fun hq => ?_) (fun f => ?_) <;> try (have hq' := hq; try simp only [HB] at hq')
| refine' gdD_sc' rfl rfl (by simp only [V0, V1, Nat.reduceEqDiff, reduceIte]) (fun hq => ?_) (fun f => ?_) <;> try (have hq' := hq; try simp only [HB] at hq')
| refine gdV_intro (fun h => ?_) (fun h => ?_) <;> (have h' := h; try simp only [HB] at h'; try rewrite [h]; try simp only [h])
| refine condJ_intro (fun h => ?_) (fun h => ?_) <;> (have h' := h; try simp only [HB] at h'; try rewrite [h]; try simp only [h])
| refine pickE_intro (fun h => ?_) (fun h => ?_) <;> (have h' := h; try simp only [HB] at h'; try rewrite [h]; try simp only [h])
| refine gdD_intro (fun h => ?_) (fun h => ?_) <;> (have h' := h; try simp only [HB] at h'; try rewrite [h]; try simp only [h])
| refine callL_of (hp (l.getD i default) (getD_mem (by omega))) ?_
| refine ct_I ?_
| refine callG_I ?_ ?_
| refine callG_Iv ?_ ?_
| refine drJ_I (by simp only [R52]; rfl) ?_
| refine ret_I (R := isR _) ?_
| refine nxt_I (fun hr => ?_) (fun q hq => ?_)
| refine isnil_I (fun hnil b => ?_) (fun hnil => ?_)
| (refine And.intro ?_ ?_; focus omega))
  · refine congrArg (I.int .i64) ?_
    exact (idx_at (by omega) (by rw [← getD_lt (by omega)]; assumption) hinv).symm
  · intro j hj hji
    by_cases e : j = i
    · subst e; rw [← getD_lt hj]; assumption
    · exact hinv j hj (by omega)
  · refine congrArg (I.int .i64) ?_
    exact (idx_no fun j hj => hinv j hj (by omega)).symm
theorem fldIdx_is (p : Fld → Bool) (l : List Fld) (f : Nat) (fs cs : List I) (hl : l.length ≤ 1073741824) (hp : ∀ x ∈ l, Is mx f (fs ++ [.agg (eFld x)] ++ cs) (.bool (p x))) :
    Is mx 55 [.sl (l.map eFld), .fn f fs cs] (iI (idxOf p l)) := by
  refine MC_of_J Tryz.func55 (by kernel_rfl) Tryz.ntmps55 rfl rfl comp55 rv55 rfl c55.eq_1 ?_
  (repeat' first
| exact hole _
| simp (maxSteps := 9999999) (disch := omega) only [go_sem, reduceCtorEq, Int.reduceToNat, Int.reduceNeg, Int.reduceLT, Int.reduceLE, Int.reduceEq, Int.reduceAdd, Int.reduceSub, Int.reduceMul, Nat.reduceAdd, Nat.reduceSub, Nat.reduceMul, Nat.reduceEqDiff, Nat.reduceBEq, Nat.reduceBneDiff, Nat.reduceLeDiff, Nat.reduceLT, reduceIte, R55]
| refine' gdV_sc' rfl rfl (by simp only [V0, V1, Nat.reduceEqDiff, reduceIte]) (fun hq => ?_) (fun f => ?_) <;> try (have hq' := hq; try simp only [HB] at hq')
| refine' gdD_sc' rfl rfl (by simp only [V0, V1, Nat.reduceEqDiff, reduceIte]) (fun hq => ?_) (fun f => ?_) <;> try (have hq' := hq; try simp only [HB] at hq')
| refine gdV_intro (fun h => ?_) (fun h => ?_) <;> (have h' := h; try simp only [HB] at h'; try rewrite [h]; try simp only [h])
| refine condJ_intro (fun h => ?_) (fun h => ?_) <;> (have h' := h; try simp only [HB] at h'; try rewrite [h]; try simp only [h])
| refine pickE_intro (fun h => ?_) (fun h => ?_) <;> (have h' := h; try simp only [HB] at h'; try rewrite [h]; try simp only [h])
| refine gdD_intro (fun h => ?_) (fun h => ?_) <;> (have h' := h; try simp only [HB] at h'; try rewrite [h]; try simp only [h])
| refine ct_I ?_
| refine callG_I ?_ ?_
| refine callG_Iv ?_ ?_
| refine drJ_I (by simp only [R55]; rfl) ?_
| refine ret_I (R := isR _) ?_
| refine nxt_I (fun hr => ?_) (fun q hq => ?_)
| refine isnil_I (fun hnil b => ?_) (fun hnil => ?_)
| (refine And.intro ?_ ?_; focus omega))
  refine loopS (L55_0.eq_1 0) [0, 1, 7] (by simp only [V0, V1, V2, V25, reduceIte, Nat.reduceEqDiff]; rfl) (fun i => [(8, .i (iI i))]) (fun _ => []) (fun i => ∀ j (h : j < l.length), j < i → p l[j] = false) l.length 0 (by omega) (by simp) (by simp [V0, V1, V2, V11, V8, V15, Ref.nm]) ?_
  intro i hi hinv
  (repeat' first
| exact hole _
| simp (maxSteps := 9999999) (disch := omega) only [go_sem, reduceCtorEq, Int.reduceToNat, Int.reduceNeg, Int.reduceLT, Int.reduceLE, Int.reduceEq, Int.reduceAdd, Int.reduceSub, Int.reduceMul, Nat.reduceAdd, Nat.reduceSub, Nat.reduceMul, Nat.reduceEqDiff, Nat.reduceBEq, Nat.reduceBneDiff, Nat.reduceLeDiff, Nat.reduceLT, reduceIte, R55]
| refine' gdV_sc' rfl rfl (by simp only [V0, V1, Nat.reduceEqDiff, reduceIte]) (fun hq => ?_) (fun f => ?_) <;> try (have hq' := hq; try simp only [HB] at hq')
| refine' gdD_sc' rfl rfl (by simp only [V0, V1, Nat.reduceEqDiff, reduceIte]) (fun hq => ?_) (fun f => ?_) <;> try (have hq' := hq; try simp only [HB] at hq')
| refine gdV_intro (fun h => ?_) (fun h => ?_) <;> (have h' := h; try simp only [HB] at h'; try rewrite [h]; try simp only [h])
| refine condJ_intro (fun h => ?_) (fun h => ?_) <;> (have h' := h; try simp only [HB] at h'; try rewrite [h]; try simp only [h])
| refine pickE_intro (fun h => ?_) (fun h => ?_) <;> (have h' := h; try simp only [HB] at h'; try rewrite [h]; try simp only [h])
| refine gdD_intro (fun h => ?_) (fun h => ?_) <;> (have h' := h; try simp only [HB] at h'; try rewrite [h]; try simp only [h])
| refine callL_of (hp (l.getD i default) (getD_mem (by omega))) ?_
| refine ct_I ?_
| refine callG_I ?_ ?_
| refine callG_Iv ?_ ?_
| refine drJ_I (by simp only [R55]; rfl) ?_
| refine ret_I (R := isR _) ?_
| refine nxt_I (fun hr => ?_) (fun q hq => ?_)
| refine isnil_I (fun hnil b => ?_) (fun hnil => ?_)
| (refine And.intro ?_ ?_; focus omega))
  · refine congrArg (I.int .i64) ?_
    exact (idx_at (by omega) (by rw [← getD_lt (by omega)]; assumption) hinv).symm
  · intro j hj hji
    by_cases e : j = i
    · subst e; rw [← getD_lt hj]; assumption
    · exact hinv j hj (by omega)
  · refine congrArg (I.int .i64) ?_
    exact (idx_no fun j hj => hinv j hj (by omega)).symm
theorem ftrIdx_is (p : Ftr → Bool) (l : List Ftr) (f : Nat) (fs cs : List I) (hl : l.length ≤ 1073741824) (hp : ∀ x ∈ l, Is mx f (fs ++ [.agg (eFtr x)] ++ cs) (.bool (p x))) :
    Is mx 91 [.sl (l.map eFtr), .fn f fs cs] (iI (idxOf p l)) := by
  refine MC_of_J Tryz.func91 (by kernel_rfl) Tryz.ntmps91 rfl rfl comp91 rv91 rfl c91.eq_1 ?_
  (repeat' first
| exact hole _
| simp (maxSteps := 9999999) (disch := omega) only [go_sem, reduceCtorEq, Int.reduceToNat, Int.reduceNeg, Int.reduceLT, Int.reduceLE, Int.reduceEq, Int.reduceAdd, Int.reduceSub, Int.reduceMul, Nat.reduceAdd, Nat.reduceSub, Nat.reduceMul, Nat.reduceEqDiff, Nat.reduceBEq, Nat.reduceBneDiff, Nat.reduceLeDiff, Nat.reduceLT, reduceIte, R91]
| refine' gdV_sc' rfl rfl (by simp only [V0, V1, Nat.reduceEqDiff, reduceIte]) (fun hq => ?_) (fun f => ?_) <;> try (have hq' := hq; try simp only [HB] at hq')
| refine' gdD_sc' rfl rfl (by simp only [V0, V1, Nat.reduceEqDiff, reduceIte]) (fun hq => ?_) (fun f => ?_) <;> try (have hq' := hq; try simp only [HB] at hq')
| refine gdV_intro (fun h => ?_) (fun h => ?_) <;> (have h' := h; try simp only [HB] at h'; try rewrite [h]; try simp only [h])
| refine condJ_intro (fun h => ?_) (fun h => ?_) <;> (have h' := h; try simp only [HB] at h'; try rewrite [h]; try simp only [h])
| refine pickE_intro (fun h => ?_) (fun h => ?_) <;> (have h' := h; try simp only [HB] at h'; try rewrite [h]; try simp only [h])
| refine gdD_intro (fun h => ?_) (fun h => ?_) <;> (have h' := h; try simp only [HB] at h'; try rewrite [h]; try simp only [h])
| refine ct_I ?_
| refine callG_I ?_ ?_
| refine callG_Iv ?_ ?_
| refine drJ_I (by simp only [R91]; rfl) ?_
| refine ret_I (R := isR _) ?_
| refine nxt_I (fun hr => ?_) (fun q hq => ?_)
| refine isnil_I (fun hnil b => ?_) (fun hnil => ?_)
| (refine And.intro ?_ ?_; focus omega))
  refine loopS (L91_0.eq_1 0) [0, 1, 7] (by simp only [V0, V1, V2, V25, reduceIte, Nat.reduceEqDiff]; rfl) (fun i => [(8, .i (iI i))]) (fun _ => []) (fun i => ∀ j (h : j < l.length), j < i → p l[j] = false) l.length 0 (by omega) (by simp) (by simp [V0, V1, V2, V11, V8, V15, Ref.nm]) ?_
  intro i hi hinv
  (repeat' first
| exact hole _
| simp (maxSteps := 9999999) (disch := omega) only [go_sem, reduceCtorEq, Int.reduceToNat, Int.reduceNeg, Int.reduceLT, Int.reduceLE, Int.reduceEq, Int.reduceAdd, Int.reduceSub, Int.reduceMul, Nat.reduceAdd, Nat.reduceSub, Nat.reduceMul, Nat.reduceEqDiff, Nat.reduceBEq, Nat.reduceBneDiff, Nat.reduceLeDiff, Nat.reduceLT, reduceIte, R91]
| refine' gdV_sc' rfl rfl (by simp only [V0, V1, Nat.reduceEqDiff, reduceIte]) (fun hq => ?_) (fun f => ?_) <;> try (have hq' := hq; try simp only [HB] at hq')
| refine' gdD_sc' rfl rfl (by simp only [V0, V1, Nat.reduceEqDiff, reduceIte]) (fun hq => ?_) (fun f => ?_) <;> try (have hq' := hq; try simp only [HB] at hq')
| refine gdV_intro (fun h => ?_) (fun h => ?_) <;> (have h' := h; try simp only [HB] at h'; try rewrite [h]; try simp only [h])
| refine condJ_intro (fun h => ?_) (fun h => ?_) <;> (have h' := h; try simp only [HB] at h'; try rewrite [h]; try simp only [h])
| refine pickE_intro (fun h => ?_) (fun h => ?_) <;> (have h' := h; try simp only [HB] at h'; try rewrite [h]; try simp only [h])
| refine gdD_intro (fun h => ?_) (fun h => ?_) <;> (have h' := h; try simp only [HB] at h'; try rewrite [h]; try simp only [h])
| refine callL_of (hp (l.getD i default) (getD_mem (by omega))) ?_
| refine ct_I ?_
| refine callG_I ?_ ?_
| refine callG_Iv ?_ ?_
| refine drJ_I (by simp only [R91]; rfl) ?_
| refine ret_I (R := isR _) ?_
| refine nxt_I (fun hr => ?_) (fun q hq => ?_)
| refine isnil_I (fun hnil b => ?_) (fun hnil => ?_)
| (refine And.intro ?_ ?_; focus omega))
  · refine congrArg (I.int .i64) ?_
    exact (idx_at (by omega) (by rw [← getD_lt (by omega)]; assumption) hinv).symm
  · intro j hj hji
    by_cases e : j = i
    · subst e; rw [← getD_lt hj]; assumption
    · exact hinv j hj (by omega)
  · refine congrArg (I.int .i64) ?_
    exact (idx_no fun j hj => hinv j hj (by omega)).symm
theorem idx_find {α : Type} [Inhabited α] (p : α → Bool) (l : List α) : (idxOf p l < 0 ∧ l.find? p = none) ∨ (0 ≤ idxOf p l ∧ (idxOf p l).toNat < l.length ∧ l.find? p = some (l.getD (idxOf p l).toNat default)) := by
  unfold idxOf
  cases h : l.findIdx? p with
  | none =>
    refine .inl ⟨by show (-1 : Int) < 0; omega, ?_⟩
    rw [List.findIdx?_eq_none_iff] at h
    rw [List.find?_eq_none]
    intro x hx; have := h x hx; simp [this]
  | some i =>
    refine .inr ⟨by simp, ?_⟩
    obtain ⟨hi, hp, hn⟩ := List.findIdx?_eq_some_iff_getElem.1 h
    refine ⟨by simpa using hi, ?_⟩
    simp only [Int.toNat_natCast, getD_lt hi]
    rw [List.find?_eq_some_iff_getElem]
    exact ⟨hp, i, hi, rfl, fun j hj => by simpa using hn j hj⟩
abbrev eScp (c : Cat) (ent : Str) (fld : I) : List I := [.sl (c.tables.map eTbl), .sl (c.features.map eFtr), .sl (c.drafts.map eFtr), .sl (c.past.map eFtr), .str ent, fld]
attribute [go_sem] eScp
def namedT (fs : List Ftr) (name ent : Str) : Typ × Int := match fs.find? (fun f => decide (f.name = name)) with
  | none => (noTyp, 4)
  | some f => if f.entity ≠ ent then (noTyp, 5) else (f.typ, 0)
def fieldT (t : Tbl) (name : Str) : Typ × Int := match t.fields.find? (fun f => decide (f.name = name)) with
  | none => (noTyp, 4)
  | some f => (f.typ, 0)
theorem named1_is (f : Ftr) (name : Str) : Is mx 92 [.agg (eFtr f), .elt [.str name] 0] (.bool (decide (f.name = name))) := by
  refine MC_of_J Tryz.func92 (by kernel_rfl) Tryz.ntmps92 rfl rfl comp92 rv92 rfl c92.eq_1 ?_
  (repeat' first
| exact hole _
| simp (maxSteps := 9999999) (disch := omega) only [go_sem, reduceCtorEq, Int.reduceToNat, Int.reduceNeg, Int.reduceLT, Int.reduceLE, Int.reduceEq, Int.reduceAdd, Int.reduceSub, Int.reduceMul, Nat.reduceAdd, Nat.reduceSub, Nat.reduceMul, Nat.reduceEqDiff, Nat.reduceBEq, Nat.reduceBneDiff, Nat.reduceLeDiff, Nat.reduceLT, reduceIte, R92]
| refine' gdV_sc' rfl rfl (by simp only [V0, V1, Nat.reduceEqDiff, reduceIte]) (fun hq => ?_) (fun f => ?_) <;> try (have hq' := hq; try simp only [HB] at hq')
| refine' gdD_sc' rfl rfl (by simp only [V0, V1, Nat.reduceEqDiff, reduceIte]) (fun hq => ?_) (fun f => ?_) <;> try (have hq' := hq; try simp only [HB] at hq')
| refine gdV_intro (fun h => ?_) (fun h => ?_) <;> (have h' := h; try simp only [HB] at h'; try rewrite [h]; try simp only [h])
| refine condJ_intro (fun h => ?_) (fun h => ?_) <;> (have h' := h; try simp only [HB] at h'; try rewrite [h]; try simp only [h])
| refine pickE_intro (fun h => ?_) (fun h => ?_) <;> (have h' := h; try simp only [HB] at h'; try rewrite [h]; try simp only [h])
| refine gdD_intro (fun h => ?_) (fun h => ?_) <;> (have h' := h; try simp only [HB] at h'; try rewrite [h]; try simp only [h])
| refine ct_I ?_
| refine callG_I ?_ ?_
| refine callG_Iv ?_ ?_
| refine drJ_I (by simp only [R92]; rfl) ?_
| refine ret_I (R := isR _) ?_
| refine nxt_I (fun hr => ?_) (fun q hq => ?_)
| refine isnil_I (fun hnil b => ?_) (fun hnil => ?_)
| (refine And.intro ?_ ?_; focus omega))
theorem infer1_is (t : Tbl) (x : Xpr) : Is mx 53 [.agg (eTbl t), .elt (eE x) 0] (.bool (decide (t.name = x.table))) := by
  refine MC_of_J Tryz.func53 (by kernel_rfl) Tryz.ntmps53 rfl rfl comp53 rv53 rfl c53.eq_1 ?_
  (repeat' first
| exact hole _
| simp (maxSteps := 9999999) (disch := omega) only [go_sem, reduceCtorEq, Int.reduceToNat, Int.reduceNeg, Int.reduceLT, Int.reduceLE, Int.reduceEq, Int.reduceAdd, Int.reduceSub, Int.reduceMul, Nat.reduceAdd, Nat.reduceSub, Nat.reduceMul, Nat.reduceEqDiff, Nat.reduceBEq, Nat.reduceBneDiff, Nat.reduceLeDiff, Nat.reduceLT, reduceIte, R53]
| refine' gdV_sc' rfl rfl (by simp only [V0, V1, Nat.reduceEqDiff, reduceIte]) (fun hq => ?_) (fun f => ?_) <;> try (have hq' := hq; try simp only [HB] at hq')
| refine' gdD_sc' rfl rfl (by simp only [V0, V1, Nat.reduceEqDiff, reduceIte]) (fun hq => ?_) (fun f => ?_) <;> try (have hq' := hq; try simp only [HB] at hq')
| refine gdV_intro (fun h => ?_) (fun h => ?_) <;> (have h' := h; try simp only [HB] at h'; try rewrite [h]; try simp only [h])
| refine condJ_intro (fun h => ?_) (fun h => ?_) <;> (have h' := h; try simp only [HB] at h'; try rewrite [h]; try simp only [h])
| refine pickE_intro (fun h => ?_) (fun h => ?_) <;> (have h' := h; try simp only [HB] at h'; try rewrite [h]; try simp only [h])
| refine gdD_intro (fun h => ?_) (fun h => ?_) <;> (have h' := h; try simp only [HB] at h'; try rewrite [h]; try simp only [h])
| refine ct_I ?_
| refine callG_I ?_ ?_
| refine callG_Iv ?_ ?_
| refine drJ_I (by simp only [R53]; rfl) ?_
| refine ret_I (R := isR _) ?_
| refine nxt_I (fun hr => ?_) (fun q hq => ?_)
| refine isnil_I (fun hnil b => ?_) (fun hnil => ?_)
| (refine And.intro ?_ ?_; focus omega))
theorem infer21_is (f : Fld) (name : Str) : Is mx 56 [.agg (eFld f), .elt [.str name] 0] (.bool (decide (f.name = name))) := by
  refine MC_of_J Tryz.func56 (by kernel_rfl) Tryz.ntmps56 rfl rfl comp56 rv56 rfl c56.eq_1 ?_
  (repeat' first
| exact hole _
| simp (maxSteps := 9999999) (disch := omega) only [go_sem, reduceCtorEq, Int.reduceToNat, Int.reduceNeg, Int.reduceLT, Int.reduceLE, Int.reduceEq, Int.reduceAdd, Int.reduceSub, Int.reduceMul, Nat.reduceAdd, Nat.reduceSub, Nat.reduceMul, Nat.reduceEqDiff, Nat.reduceBEq, Nat.reduceBneDiff, Nat.reduceLeDiff, Nat.reduceLT, reduceIte, R56]
| refine' gdV_sc' rfl rfl (by simp only [V0, V1, Nat.reduceEqDiff, reduceIte]) (fun hq => ?_) (fun f => ?_) <;> try (have hq' := hq; try simp only [HB] at hq')
| refine' gdD_sc' rfl rfl (by simp only [V0, V1, Nat.reduceEqDiff, reduceIte]) (fun hq => ?_) (fun f => ?_) <;> try (have hq' := hq; try simp only [HB] at hq')
| refine gdV_intro (fun h => ?_) (fun h => ?_) <;> (have h' := h; try simp only [HB] at h'; try rewrite [h]; try simp only [h])
| refine condJ_intro (fun h => ?_) (fun h => ?_) <;> (have h' := h; try simp only [HB] at h'; try rewrite [h]; try simp only [h])
| refine pickE_intro (fun h => ?_) (fun h => ?_) <;> (have h' := h; try simp only [HB] at h'; try rewrite [h]; try simp only [h])
| refine gdD_intro (fun h => ?_) (fun h => ?_) <;> (have h' := h; try simp only [HB] at h'; try rewrite [h]; try simp only [h])
| refine ct_I ?_
| refine callG_I ?_ ?_
| refine callG_Iv ?_ ?_
| refine drJ_I (by simp only [R56]; rfl) ?_
| refine ret_I (R := isR _) ?_
| refine nxt_I (fun hr => ?_) (fun q hq => ?_)
| refine isnil_I (fun hnil b => ?_) (fun hnil => ?_)
| (refine And.intro ?_ ?_; focus omega))
theorem named_is (c : Cat) (ent e0 : Str) (fld : I) (name : Str) (hc : c.features.length ≤ 1073741824) : Is mx 85 [.agg (eScp c e0 fld), .str name, .str ent] (eRes (namedT c.features name ent)) := by
  refine MC_of_J Tryz.func85 (by kernel_rfl) Tryz.ntmps85 rfl rfl comp85 rv85 rfl c85.eq_1 ?_
  have hI := ftrIdx_is (mx := mx) (fun f => decide (f.name = name)) c.features 92 [] [.elt [.str name] 0] hc (fun x _ => named1_is x name)
  have hF := idx_find (fun f : Ftr => decide (f.name = name)) c.features
  generalize idxOf (fun f : Ftr => decide (f.name = name)) c.features = q at hI hF
  rcases hF with ⟨hq, hf⟩ | ⟨hq, hlt, hf⟩
  · (repeat' first
| exact hole _
| simp (maxSteps := 9999999) (disch := omega) only [go_sem, reduceCtorEq, Int.reduceToNat, Int.reduceNeg, Int.reduceLT, Int.reduceLE, Int.reduceEq, Int.reduceAdd, Int.reduceSub, Int.reduceMul, Nat.reduceAdd, Nat.reduceSub, Nat.reduceMul, Nat.reduceEqDiff, Nat.reduceBEq, Nat.reduceBneDiff, Nat.reduceLeDiff, Nat.reduceLT, reduceIte, R85, eq_true hq]
| refine' gdV_sc' rfl rfl (by simp only [V0, V1, Nat.reduceEqDiff, reduceIte]) (fun hq => ?_) (fun f => ?_) <;> try (have hq' := hq; try simp only [HB] at hq')
| refine' gdD_sc' rfl rfl (by simp only [V0, V1, Nat.reduceEqDiff, reduceIte]) (fun hq => ?_) (fun f => ?_) <;> try (have hq' := hq; try simp only [HB] at hq')
| refine gdV_intro (fun h => ?_) (fun h => ?_) <;> (have h' := h; try simp only [HB] at h'; try rewrite [h]; try simp only [h])
| refine condJ_intro (fun h => ?_) (fun h => ?_) <;> (have h' := h; try simp only [HB] at h'; try rewrite [h]; try simp only [h])
| refine pickE_intro (fun h => ?_) (fun h => ?_) <;> (have h' := h; try simp only [HB] at h'; try rewrite [h]; try simp only [h])
| refine gdD_intro (fun h => ?_) (fun h => ?_) <;> (have h' := h; try simp only [HB] at h'; try rewrite [h]; try simp only [h])
| refine callL_of (hI) ?_
| refine callL_of (fail_is _) ?_
| refine ct_I ?_
| refine callG_I ?_ ?_
| refine callG_Iv ?_ ?_
| refine drJ_I (by simp only [R85]; rfl) ?_
| refine ret_I (R := isR _) ?_
| refine nxt_I (fun hr => ?_) (fun q hq => ?_)
| refine isnil_I (fun hnil b => ?_) (fun hnil => ?_)
| (refine And.intro ?_ ?_; focus omega))
    simp [namedT, hf, eRes, eTyp, noTyp]
  · (repeat' first
| exact hole _
| simp (maxSteps := 9999999) (disch := omega) only [go_sem, reduceCtorEq, Int.reduceToNat, Int.reduceNeg, Int.reduceLT, Int.reduceLE, Int.reduceEq, Int.reduceAdd, Int.reduceSub, Int.reduceMul, Nat.reduceAdd, Nat.reduceSub, Nat.reduceMul, Nat.reduceEqDiff, Nat.reduceBEq, Nat.reduceBneDiff, Nat.reduceLeDiff, Nat.reduceLT, reduceIte, R85, eq_false (Int.not_lt.2 hq)]
| refine' gdV_sc' rfl rfl (by simp only [V0, V1, Nat.reduceEqDiff, reduceIte]) (fun hq => ?_) (fun f => ?_) <;> try (have hq' := hq; try simp only [HB] at hq')
| refine' gdD_sc' rfl rfl (by simp only [V0, V1, Nat.reduceEqDiff, reduceIte]) (fun hq => ?_) (fun f => ?_) <;> try (have hq' := hq; try simp only [HB] at hq')
| refine gdV_intro (fun h => ?_) (fun h => ?_) <;> (have h' := h; try simp only [HB] at h'; try rewrite [h]; try simp only [h])
| refine condJ_intro (fun h => ?_) (fun h => ?_) <;> (have h' := h; try simp only [HB] at h'; try rewrite [h]; try simp only [h])
| refine pickE_intro (fun h => ?_) (fun h => ?_) <;> (have h' := h; try simp only [HB] at h'; try rewrite [h]; try simp only [h])
| refine gdD_intro (fun h => ?_) (fun h => ?_) <;> (have h' := h; try simp only [HB] at h'; try rewrite [h]; try simp only [h])
| refine callL_of (hI) ?_
| refine callL_of (fail_is _) ?_
| refine ct_I ?_
| refine callG_I ?_ ?_
| refine callG_Iv ?_ ?_
| refine drJ_I (by simp only [R85]; rfl) ?_
| refine ret_I (R := isR _) ?_
| refine nxt_I (fun hr => ?_) (fun q hq => ?_)
| refine isnil_I (fun hnil b => ?_) (fun hnil => ?_)
| (refine And.intro ?_ ?_; focus omega))
    all_goals (simp only [namedT, hf, ne_eq, h', not_true_eq_false, not_false_eq_true, if_true, if_false]; rfl)
theorem infer2_is (t : Tbl) (name : Str) (ht : t.fields.length ≤ 1073741824) : Is mx 54 [.str name, .elt (eTbl t) 0] (eRes (fieldT t name)) := by
  refine MC_of_J Tryz.func54 (by kernel_rfl) Tryz.ntmps54 rfl rfl comp54 rv54 rfl c54.eq_1 ?_
  have hI := fldIdx_is (mx := mx) (fun f => decide (f.name = name)) t.fields 56 [] [.elt [.str name] 0] ht (fun x _ => infer21_is x name)
  have hF := idx_find (fun f : Fld => decide (f.name = name)) t.fields
  generalize idxOf (fun f : Fld => decide (f.name = name)) t.fields = q at hI hF
  rcases hF with ⟨hq, hf⟩ | ⟨hq, hlt, hf⟩
  · (repeat' first
| exact hole _
| simp (maxSteps := 9999999) (disch := omega) only [go_sem, reduceCtorEq, Int.reduceToNat, Int.reduceNeg, Int.reduceLT, Int.reduceLE, Int.reduceEq, Int.reduceAdd, Int.reduceSub, Int.reduceMul, Nat.reduceAdd, Nat.reduceSub, Nat.reduceMul, Nat.reduceEqDiff, Nat.reduceBEq, Nat.reduceBneDiff, Nat.reduceLeDiff, Nat.reduceLT, reduceIte, R54, eq_true hq]
| refine' gdV_sc' rfl rfl (by simp only [V0, V1, Nat.reduceEqDiff, reduceIte]) (fun hq => ?_) (fun f => ?_) <;> try (have hq' := hq; try simp only [HB] at hq')
| refine' gdD_sc' rfl rfl (by simp only [V0, V1, Nat.reduceEqDiff, reduceIte]) (fun hq => ?_) (fun f => ?_) <;> try (have hq' := hq; try simp only [HB] at hq')
| refine gdV_intro (fun h => ?_) (fun h => ?_) <;> (have h' := h; try simp only [HB] at h'; try rewrite [h]; try simp only [h])
| refine condJ_intro (fun h => ?_) (fun h => ?_) <;> (have h' := h; try simp only [HB] at h'; try rewrite [h]; try simp only [h])
| refine pickE_intro (fun h => ?_) (fun h => ?_) <;> (have h' := h; try simp only [HB] at h'; try rewrite [h]; try simp only [h])
| refine gdD_intro (fun h => ?_) (fun h => ?_) <;> (have h' := h; try simp only [HB] at h'; try rewrite [h]; try simp only [h])
| refine callL_of (hI) ?_
| refine callL_of (fail_is _) ?_
| refine ct_I ?_
| refine callG_I ?_ ?_
| refine callG_Iv ?_ ?_
| refine drJ_I (by simp only [R54]; rfl) ?_
| refine ret_I (R := isR _) ?_
| refine nxt_I (fun hr => ?_) (fun q hq => ?_)
| refine isnil_I (fun hnil b => ?_) (fun hnil => ?_)
| (refine And.intro ?_ ?_; focus omega))
    simp [fieldT, hf, eRes, eTyp, noTyp]
  · (repeat' first
| exact hole _
| simp (maxSteps := 9999999) (disch := omega) only [go_sem, reduceCtorEq, Int.reduceToNat, Int.reduceNeg, Int.reduceLT, Int.reduceLE, Int.reduceEq, Int.reduceAdd, Int.reduceSub, Int.reduceMul, Nat.reduceAdd, Nat.reduceSub, Nat.reduceMul, Nat.reduceEqDiff, Nat.reduceBEq, Nat.reduceBneDiff, Nat.reduceLeDiff, Nat.reduceLT, reduceIte, R54, eq_false (Int.not_lt.2 hq)]
| refine' gdV_sc' rfl rfl (by simp only [V0, V1, Nat.reduceEqDiff, reduceIte]) (fun hq => ?_) (fun f => ?_) <;> try (have hq' := hq; try simp only [HB] at hq')
| refine' gdD_sc' rfl rfl (by simp only [V0, V1, Nat.reduceEqDiff, reduceIte]) (fun hq => ?_) (fun f => ?_) <;> try (have hq' := hq; try simp only [HB] at hq')
| refine gdV_intro (fun h => ?_) (fun h => ?_) <;> (have h' := h; try simp only [HB] at h'; try rewrite [h]; try simp only [h])
| refine condJ_intro (fun h => ?_) (fun h => ?_) <;> (have h' := h; try simp only [HB] at h'; try rewrite [h]; try simp only [h])
| refine pickE_intro (fun h => ?_) (fun h => ?_) <;> (have h' := h; try simp only [HB] at h'; try rewrite [h]; try simp only [h])
| refine gdD_intro (fun h => ?_) (fun h => ?_) <;> (have h' := h; try simp only [HB] at h'; try rewrite [h]; try simp only [h])
| refine callL_of (hI) ?_
| refine callL_of (fail_is _) ?_
| refine ct_I ?_
| refine callG_I ?_ ?_
| refine callG_Iv ?_ ?_
| refine drJ_I (by simp only [R54]; rfl) ?_
| refine ret_I (R := isR _) ?_
| refine nxt_I (fun hr => ?_) (fun q hq => ?_)
| refine isnil_I (fun hnil b => ?_) (fun hnil => ?_)
| (refine And.intro ?_ ?_; focus omega))
    all_goals (simp only [fieldT, hf]; rfl)

end Go.Proofs.YtihbaggjjglcbaaGreatDoor
end
