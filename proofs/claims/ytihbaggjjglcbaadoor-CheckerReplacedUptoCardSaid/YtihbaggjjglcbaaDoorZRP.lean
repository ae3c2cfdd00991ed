/-
  Proved here: CheckerReplaced of asoflaw10 returns true, and leaves its arguments as they were, for every input whose values and letters, counted each time they are reached, are together at most 1048576, in a world where the three package-level lists of the checker hold what the program text lays.
-/
import Derived.Test.YtihbaggjjglcbaaDoorK36
set_option linter.unusedVariables false
set_option linter.unusedSimpArgs false

section
set_option maxRecDepth 100000
set_option maxHeartbeats 8000000
set_option linter.unusedVariables false
set_option linter.unusedSimpArgs false
namespace Go.Proofs.YtihbaggjjglcbaaDoor
open Go Go.Dl Go.As Go.Proofs
variable {mx : Int}
attribute [local irreducible] callG callL MC W W2 evT ev evD step stepD

namespace RP
def R4 : Nat → List GI
| 0 => [⟨none, .box 5 (.t 0)⟩,
  ⟨none, .box 7 (.t 2)⟩,
  ⟨none, .box 8 (.t 3)⟩,
  ⟨none, .mov 10 (.c (.bool false))⟩]
| 1 => [⟨none, .call (some 21) 5 []⟩,
  ⟨none, .mov 11 (.t 21)⟩]
| 2 => [⟨none, .load 23 (.t 5) 4 true⟩,
  ⟨none, .mov 24 (.t 1)⟩,
  ⟨none, .load 25 (.t 7) 12 true⟩,
  ⟨none, .call (some 26) 8 [(.t 23), (.t 24), (.t 25)]⟩,
  ⟨none, .mov 22 (.t 26)⟩,
  ⟨none, .ext 27 (.t 22) 0⟩,
  ⟨none, .ext 28 (.t 22) 1⟩,
  ⟨none, .alloc 12 [(.int .i64 0), (.sl []), (.str [])]⟩,
  ⟨none, .stfrz (.t 12) (.t 27) 3⟩,
  ⟨none, .mov 13 (.t 28)⟩]
| 3 => [⟨none, .mov 29 (.t 13)⟩,
  ⟨none, .bin 30 .neq (.t 29) (.c (.int .i64 0))⟩,
  ⟨none, .mov 31 (.t 30)⟩,
  ⟨some (31, false), .fa 32 (.t 7) 0⟩,
  ⟨some (31, false), .load 33 (.t 32) 1 false⟩,
  ⟨some (31, false), .bin 34 .eql (.t 33) (.c (.int .i64 5))⟩,
  ⟨none, .pick 35 (.t 31) (.c (.bool true)) (.t 34)⟩,
  ⟨none, .mov 36 (.t 35)⟩,
  ⟨some (36, false), .fa 37 (.t 7) 11⟩,
  ⟨some (36, false), .load 38 (.t 37) 1 false⟩,
  ⟨some (36, false), .lenl 39 (.t 38)⟩,
  ⟨some (36, false), .bin 40 .eql (.t 39) (.c (.int .i64 0))⟩,
  ⟨none, .pick 41 (.t 36) (.c (.bool true)) (.t 40)⟩]
| 4 => [⟨none, .mov 42 (.t 11)⟩,
  ⟨none, .mov 10 (.t 42)⟩]
| 5 => [⟨none, .mov 43 (.t 4)⟩,
  ⟨none, .fa 44 (.t 7) 11⟩,
  ⟨none, .load 45 (.t 44) 1 false⟩,
  ⟨none, .lenl 46 (.t 45)⟩,
  ⟨none, .bin 47 .rem (.t 43) (.t 46)⟩,
  ⟨none, .mov 4 (.t 47)⟩]
| 6 => [⟨none, .mov 48 (.t 4)⟩,
  ⟨none, .bin 49 .lss (.t 48) (.c (.int .i64 0))⟩]
| 7 => [⟨none, .mov 50 (.t 4)⟩,
  ⟨none, .fa 51 (.t 7) 11⟩,
  ⟨none, .load 52 (.t 51) 1 false⟩,
  ⟨none, .lenl 53 (.t 52)⟩,
  ⟨none, .bin 54 .add (.t 50) (.t 53)⟩,
  ⟨none, .mov 4 (.t 54)⟩]
| 8 => [⟨none, .load 56 (.t 5) 4 true⟩,
  ⟨none, .mov 57 (.t 1)⟩,
  ⟨none, .fa 58 (.t 7) 11⟩,
  ⟨none, .load 59 (.t 58) 1 false⟩,
  ⟨none, .mov 60 (.t 4)⟩,
  ⟨none, .ia 61 (.t 59) (.t 60) 12⟩,
  ⟨none, .load 62 (.t 61) 12 true⟩,
  ⟨none, .call (some 63) 8 [(.t 56), (.t 57), (.t 62)]⟩,
  ⟨none, .mov 55 (.t 63)⟩,
  ⟨none, .ext 64 (.t 55) 0⟩,
  ⟨none, .ext 65 (.t 55) 1⟩,
  ⟨none, .alloc 14 [(.int .i64 0), (.sl []), (.str [])]⟩,
  ⟨none, .store (.t 14) (.t 64) 3⟩,
  ⟨none, .mov 15 (.t 65)⟩]
| 9 => [⟨none, .load 67 (.t 5) 4 true⟩,
  ⟨none, .mov 68 (.t 1)⟩,
  ⟨none, .load 69 (.t 8) 12 true⟩,
  ⟨none, .call (some 70) 8 [(.t 67), (.t 68), (.t 69)]⟩,
  ⟨none, .mov 66 (.t 70)⟩,
  ⟨none, .ext 71 (.t 66) 0⟩,
  ⟨none, .ext 72 (.t 66) 1⟩,
  ⟨none, .alloc 16 [(.int .i64 0), (.sl []), (.str [])]⟩,
  ⟨none, .stfrz (.t 16) (.t 71) 3⟩,
  ⟨none, .mov 17 (.t 72)⟩]
| 10 => [⟨none, .mov 73 (.t 15)⟩,
  ⟨none, .bin 74 .neq (.t 73) (.c (.int .i64 0))⟩,
  ⟨none, .mov 75 (.t 74)⟩,
  ⟨some (75, false), .mov 76 (.t 17)⟩,
  ⟨some (75, false), .bin 77 .neq (.t 76) (.c (.int .i64 0))⟩,
  ⟨none, .pick 78 (.t 75) (.c (.bool true)) (.t 77)⟩,
  ⟨none, .mov 79 (.t 78)⟩,
  ⟨some (79, false), .load 80 (.t 14) 3 true⟩,
  ⟨some (79, false), .load 81 (.t 16) 3 true⟩,
  ⟨some (79, false), .call (some 82) 9 [(.t 80), (.t 81)]⟩,
  ⟨some (79, false), .un 83 .not (.t 82)⟩,
  ⟨none, .pick 84 (.t 79) (.c (.bool true)) (.t 83)⟩]
| 11 => [⟨none, .mov 85 (.t 11)⟩,
  ⟨none, .mov 86 (.t 85)⟩,
  ⟨some (86, true), .mov 87 (.t 15)⟩,
  ⟨some (86, true), .bin 88 .eql (.t 87) (.c (.int .i64 0))⟩,
  ⟨none, .pick 89 (.t 86) (.t 88) (.c (.bool false))⟩,
  ⟨none, .mov 10 (.t 89)⟩]
| 12 => [⟨none, .load 90 (.t 7) 12 true⟩,
  ⟨none, .alloc 18 [(.int .i64 0), (.str []), (.str []), (.str []), (.int .i64 0), (.int .i64 0), (.str []), (.sl []), (.int .i64 0), (.int .i64 0), (.int .i64 0), (.sl [])]⟩,
  ⟨none, .store (.t 18) (.t 90) 12⟩]
| 13 => [⟨none, .bsl 91 33 12 []⟩,
  ⟨none, .fa 92 (.t 7) 11⟩,
  ⟨none, .load 93 (.t 92) 1 false⟩,
  ⟨none, .app 94 33 12 160 (.t 91) (.t 93)⟩,
  ⟨none, .fa 95 (.t 18) 11⟩,
  ⟨none, .store (.t 95) (.t 94) 1⟩]
| 14 => [⟨none, .fa 96 (.t 18) 11⟩,
  ⟨none, .load 97 (.t 96) 1 false⟩,
  ⟨none, .mov 98 (.t 4)⟩,
  ⟨none, .load 99 (.t 8) 12 true⟩,
  ⟨none, .ia 100 (.t 97) (.t 98) 12⟩,
  ⟨none, .store (.t 100) (.t 99) 12⟩]
| 15 => [⟨none, .load 102 (.t 5) 4 true⟩,
  ⟨none, .mov 103 (.t 1)⟩,
  ⟨none, .load 104 (.t 18) 12 true⟩,
  ⟨none, .call (some 105) 8 [(.t 102), (.t 103), (.t 104)]⟩,
  ⟨none, .mov 101 (.t 105)⟩,
  ⟨none, .ext 106 (.t 101) 0⟩,
  ⟨none, .ext 107 (.t 101) 1⟩,
  ⟨none, .alloc 19 [(.int .i64 0), (.sl []), (.str [])]⟩,
  ⟨none, .stfrz (.t 19) (.t 106) 3⟩,
  ⟨none, .mov 20 (.t 107)⟩]
| 16 => [⟨none, .load 108 (.t 18) 12 true⟩,
  ⟨none, .call (some 109) 6 [(.t 108)]⟩,
  ⟨none, .bin 110 .gtr (.t 109) (.c (.int .i64 64))⟩,
  ⟨none, .mov 111 (.t 110)⟩,
  ⟨some (111, false), .load 112 (.t 18) 12 true⟩,
  ⟨some (111, false), .call (some 113) 7 [(.t 112)]⟩,
  ⟨some (111, false), .bin 114 .gtr (.t 113) (.c (.int .i64 12))⟩,
  ⟨none, .pick 115 (.t 111) (.c (.bool true)) (.t 114)⟩]
| 17 => [⟨none, .mov 116 (.t 11)⟩,
  ⟨none, .mov 117 (.t 116)⟩,
  ⟨some (117, true), .mov 118 (.t 20)⟩,
  ⟨some (117, true), .bin 119 .eql (.t 118) (.c (.int .i64 2))⟩,
  ⟨none, .pick 120 (.t 117) (.t 119) (.c (.bool false))⟩,
  ⟨none, .mov 10 (.t 120)⟩]
| 18 => [⟨none, .mov 121 (.t 11)⟩,
  ⟨none, .mov 122 (.t 121)⟩,
  ⟨some (122, true), .mov 123 (.t 20)⟩,
  ⟨some (122, true), .bin 124 .eql (.t 123) (.c (.int .i64 0))⟩,
  ⟨none, .pick 125 (.t 122) (.t 124) (.c (.bool false))⟩,
  ⟨none, .mov 126 (.t 125)⟩,
  ⟨some (126, true), .load 127 (.t 12) 3 true⟩,
  ⟨some (126, true), .load 128 (.t 19) 3 true⟩,
  ⟨some (126, true), .call (some 129) 9 [(.t 127), (.t 128)]⟩,
  ⟨none, .pick 130 (.t 126) (.t 129) (.c (.bool false))⟩,
  ⟨none, .mov 10 (.t 130)⟩]
| _ => []
def c4 : J := (.sq [1, 4, 5, 7, 8] (.rg R4 0) (.sq [1, 4, 5, 7, 8, 11] (.rg R4 1) (.sq [1, 4, 5, 7, 8, 11, 12, 13] (.rg R4 2) (.ct [1, 4, 5, 7, 8, 11, 12] (.sq [1, 4, 5, 7, 8, 11, 12, 41] (.rg R4 3) (.cond (.t 41) (.sq [10] (.rg R4 4) .ret) .skip)) (.sq [1, 4, 5, 7, 8, 11, 12] (.rg R4 5) (.ct [1, 4, 5, 7, 8, 11, 12] (.sq [1, 4, 5, 7, 8, 11, 12, 49] (.rg R4 6) (.cond (.t 49) (.rg R4 7) .skip)) (.sq [1, 4, 5, 7, 8, 11, 12, 14, 15] (.dr [14] [(.t 1)] R4 8 [14]) (.sq [1, 4, 5, 7, 8, 11, 12, 14, 15, 16, 17] (.rg R4 9) (.ct [1, 4, 5, 7, 8, 11, 12] (.sq [1, 4, 5, 7, 8, 11, 12, 15, 84] (.rg R4 10) (.cond (.t 84) (.sq [10] (.rg R4 11) .ret) .skip)) (.sq [1, 4, 5, 7, 8, 11, 12, 18] (.rg R4 12) (.sq [1, 4, 5, 8, 11, 12, 18] (.rg R4 13) (.sq [1, 5, 11, 12, 18] (.rg R4 14) (.sq [11, 12, 18, 19, 20] (.rg R4 15) (.ct [11, 12, 19, 20] (.sq [11, 12, 19, 20, 115] (.rg R4 16) (.cond (.t 115) (.sq [10] (.rg R4 17) .ret) .skip)) (.sq [10] (.rg R4 18) .ret)))))))))))))))
theorem comp4 : Tryd.f4.body.bind (comp Tryd.prog (GLm mx) 131 [18, 96, 95, 100] []) = some c4.ir := by kernel_rfl
theorem rv4 : Tryd.f4.results.toList.mapM (compRV Tryd.prog) = some [.tmp 10] := by kernel_rfl

theorem take_len {α : Type} (f : α → List I) (l : List α) : List.take l.length (List.map f l) = List.map f l := by rw [List.take_of_length_le]; simp
theorem law_replaced (c : Cat) (ent : Str) (x y : Xpr) (i : Int) (hb : bCat c + bX x + bX y ≤ 1048576) (hi : (Lit.int .i64 i).wf = true) : Is mx 4 [.agg (eCat c), .str ent, .agg (eE x), .agg (eE y), iI i] (.bool true) := by
  have hcB := catB_of (c := c) (by omega)
  have hI := Infer_is (mx := mx) c ent x hcB (by omega)
  have hlen := bX_len x
  simp only [eRes] at hI
  have hi2 : -9223372036854775808 ≤ i ∧ i ≤ 9223372036854775807 := by
    simpa [Lit.wf, IntKind.min, IntKind.max, IntKind.signed, IntKind.bits] using hi
  by_cases hc : (inferTop c ent x).2 = 0 ∧ x.kind ≠ 5 ∧ x.args.length ≠ 0
  · obtain ⟨q1, q2, q3⟩ := hc
    rw [q1] at hI
    have l0 : decide ((x.args.length : Int) = 0) = false := by rw [decide_eq_false_iff_not]; omega
    have k0 : decide (x.kind = 5) = false := by rw [decide_eq_false_iff_not]; omega
    have kz : decide ((0 : Int) ≠ 0) = false := rfl
    have lne : ((x.args.length : Int) = 0) = False := eq_false (by omega)
    have hm1 := Int.tmod_lt_of_pos i (show (0 : Int) < x.args.length by omega)
    have hm2 := Int.lt_tmod_of_pos i (show (0 : Int) < x.args.length by omega)
    obtain ⟨j, hj, hjl⟩ : ∃ j : Nat, (j : Int) = (if i.tmod x.args.length < 0 then i.tmod x.args.length + x.args.length else i.tmod x.args.length) ∧ j < x.args.length := by
      split
      · exact ⟨(i.tmod x.args.length + x.args.length).toNat, by omega, by omega⟩
      · exact ⟨(i.tmod x.args.length).toNat, by omega, by omega⟩
    refine MC_of_J Tryd.func4 (by kernel_rfl) Tryd.ntmps4 rfl rfl comp4 rv4 rfl c4.eq_1 ?_
    (repeat' first
| exact hole _
| simp (maxSteps := 9999999) (disch := omega) only [go_sem, reduceCtorEq, Int.reduceToNat, Int.reduceNeg, Int.reduceLT, Int.reduceLE, Int.reduceEq, Int.reduceAdd, Int.reduceSub, Int.reduceMul, Nat.reduceAdd, Nat.reduceSub, Nat.reduceMul, Nat.reduceEqDiff, Nat.reduceBEq, Nat.reduceBneDiff, Nat.reduceLeDiff, Nat.reduceLT, reduceIte, R4, kz]
| refine' gdV_sc' rfl rfl (by simp only [V0, V1, Nat.reduceEqDiff, reduceIte]) (fun hq => ?_) (fun f => ?_) <;> try (have hq' := hq; try simp only [HB] at hq')
| refine' gdD_sc' rfl rfl (by simp only [V0, V1, Nat.reduceEqDiff, reduceIte]) (fun hq => ?_) (fun f => ?_) <;> try (have hq' := hq; try simp only [HB] at hq')
| refine gdV_intro (fun h => ?_) (fun h => ?_) <;> (have h' := h; try simp only [HB] at h'; try rewrite [h]; try simp only [h])
| refine condJ_intro (fun h => ?_) (fun h => ?_) <;> (have h' := h; try simp only [HB] at h'; try rewrite [h]; try simp only [h])
| refine pickE_intro (fun h => ?_) (fun h => ?_) <;> (have h' := h; try simp only [HB] at h'; try rewrite [h]; try simp only [h])
| refine gdD_intro (fun h => ?_) (fun h => ?_) <;> (have h' := h; try simp only [HB] at h'; try rewrite [h]; try simp only [h])
| refine callL_of (example_is) ?_
| refine callL_of (hI) ?_
| refine callG_I ?_ ?_
| refine callG_Iv ?_ ?_
| refine drJ_I (by simp only [R4]; rfl) ?_
| refine ret_I (R := isR _) ?_
| refine nxt_I (fun hr => ?_) (fun q hq => ?_)
| refine isnil_I (fun hnil b => ?_) (fun hnil => ?_)
| (refine And.intro ?_ ?_; focus omega))
    refine cutS [1, 4, 5, 7, 8, 11, 12] (by simp only [V0, V1, V2, V25, reduceIte, Nat.reduceEqDiff]; rfl) [] [] True ?_ (fun _ => ?_)
    · (repeat' first
| exact hole _
| simp (maxSteps := 9999999) (disch := omega) only [go_sem, reduceCtorEq, Int.reduceToNat, Int.reduceNeg, Int.reduceLT, Int.reduceLE, Int.reduceEq, Int.reduceAdd, Int.reduceSub, Int.reduceMul, Nat.reduceAdd, Nat.reduceSub, Nat.reduceMul, Nat.reduceEqDiff, Nat.reduceBEq, Nat.reduceBneDiff, Nat.reduceLeDiff, Nat.reduceLT, reduceIte, R4, kz, l0, k0]
| refine' gdV_sc' rfl rfl (by simp only [V0, V1, Nat.reduceEqDiff, reduceIte]) (fun hq => ?_) (fun f => ?_) <;> try (have hq' := hq; try simp only [HB] at hq')
| refine' gdD_sc' rfl rfl (by simp only [V0, V1, Nat.reduceEqDiff, reduceIte]) (fun hq => ?_) (fun f => ?_) <;> try (have hq' := hq; try simp only [HB] at hq')
| refine gdV_intro (fun h => ?_) (fun h => ?_) <;> (have h' := h; try simp only [HB] at h'; try rewrite [h]; try simp only [h])
| refine condJ_intro (fun h => ?_) (fun h => ?_) <;> (have h' := h; try simp only [HB] at h'; try rewrite [h]; try simp only [h])
| refine pickE_intro (fun h => ?_) (fun h => ?_) <;> (have h' := h; try simp only [HB] at h'; try rewrite [h]; try simp only [h])
| refine gdD_intro (fun h => ?_) (fun h => ?_) <;> (have h' := h; try simp only [HB] at h'; try rewrite [h]; try simp only [h])
| refine callL_of (hI) ?_
| refine ct_I ?_
| refine callG_I ?_ ?_
| refine callG_Iv ?_ ?_
| refine drJ_I (by simp only [R4]; rfl) ?_
| refine ret_I (R := isR _) ?_
| refine nxt_I (fun hr => ?_) (fun q hq => ?_)
| refine isnil_I (fun hnil b => ?_) (fun hnil => ?_)
| (refine And.intro ?_ ?_; focus omega))
    (repeat' first
| exact hole _
| simp (maxSteps := 9999999) (disch := omega) only [go_sem, reduceCtorEq, Int.reduceToNat, Int.reduceNeg, Int.reduceLT, Int.reduceLE, Int.reduceEq, Int.reduceAdd, Int.reduceSub, Int.reduceMul, Nat.reduceAdd, Nat.reduceSub, Nat.reduceMul, Nat.reduceEqDiff, Nat.reduceBEq, Nat.reduceBneDiff, Nat.reduceLeDiff, Nat.reduceLT, reduceIte, R4, ne_eq, lne, not_false_eq_true]
| refine' gdV_sc' rfl rfl (by simp only [V0, V1, Nat.reduceEqDiff, reduceIte]) (fun hq => ?_) (fun f => ?_) <;> try (have hq' := hq; try simp only [HB] at hq')
| refine' gdD_sc' rfl rfl (by simp only [V0, V1, Nat.reduceEqDiff, reduceIte]) (fun hq => ?_) (fun f => ?_) <;> try (have hq' := hq; try simp only [HB] at hq')
| refine gdV_intro (fun h => ?_) (fun h => ?_) <;> (have h' := h; try simp only [HB] at h'; try rewrite [h]; try simp only [h])
| refine condJ_intro (fun h => ?_) (fun h => ?_) <;> (have h' := h; try simp only [HB] at h'; try rewrite [h]; try simp only [h])
| refine pickE_intro (fun h => ?_) (fun h => ?_) <;> (have h' := h; try simp only [HB] at h'; try rewrite [h]; try simp only [h])
| refine gdD_intro (fun h => ?_) (fun h => ?_) <;> (have h' := h; try simp only [HB] at h'; try rewrite [h]; try simp only [h])
| refine callL_of (hI) ?_
| refine callG_I ?_ ?_
| refine callG_Iv ?_ ?_
| refine drJ_I (by simp only [R4]; rfl) ?_
| refine ret_I (R := isR _) ?_
| refine nxt_I (fun hr => ?_) (fun q hq => ?_)
| refine isnil_I (fun hnil b => ?_) (fun hnil => ?_)
| (refine And.intro ?_ ?_; focus omega))
    refine cutS [1, 5, 7, 8, 11, 12] (by simp only [V0, V1, V2, V25, reduceIte, Nat.reduceEqDiff]; rfl) [(4, .i (iI j))] [] True ?_ (fun _ => ?_)
    · by_cases hneg : i.tmod x.args.length < 0
      · rw [if_pos hneg] at hj
        have hd : decide (i.tmod (x.args.length : Int) < 0) = true := decide_eq_true hneg
        (repeat' first
| exact hole _
| simp (maxSteps := 9999999) (disch := omega) only [go_sem, reduceCtorEq, Int.reduceToNat, Int.reduceNeg, Int.reduceLT, Int.reduceLE, Int.reduceEq, Int.reduceAdd, Int.reduceSub, Int.reduceMul, Nat.reduceAdd, Nat.reduceSub, Nat.reduceMul, Nat.reduceEqDiff, Nat.reduceBEq, Nat.reduceBneDiff, Nat.reduceLeDiff, Nat.reduceLT, reduceIte, R4, hd, ne_eq, lne, not_false_eq_true]
| refine' gdV_sc' rfl rfl (by simp only [V0, V1, Nat.reduceEqDiff, reduceIte]) (fun hq => ?_) (fun f => ?_) <;> try (have hq' := hq; try simp only [HB] at hq')
| refine' gdD_sc' rfl rfl (by simp only [V0, V1, Nat.reduceEqDiff, reduceIte]) (fun hq => ?_) (fun f => ?_) <;> try (have hq' := hq; try simp only [HB] at hq')
| refine gdV_intro (fun h => ?_) (fun h => ?_) <;> (have h' := h; try simp only [HB] at h'; try rewrite [h]; try simp only [h])
| refine condJ_intro (fun h => ?_) (fun h => ?_) <;> (have h' := h; try simp only [HB] at h'; try rewrite [h]; try simp only [h])
| refine pickE_intro (fun h => ?_) (fun h => ?_) <;> (have h' := h; try simp only [HB] at h'; try rewrite [h]; try simp only [h])
| refine gdD_intro (fun h => ?_) (fun h => ?_) <;> (have h' := h; try simp only [HB] at h'; try rewrite [h]; try simp only [h])
| refine callL_of (hI) ?_
| refine ct_I ?_
| refine callG_I ?_ ?_
| refine callG_Iv ?_ ?_
| refine drJ_I (by simp only [R4]; rfl) ?_
| refine ret_I (R := isR _) ?_
| refine nxt_I (fun hr => ?_) (fun q hq => ?_)
| refine isnil_I (fun hnil b => ?_) (fun hnil => ?_)
| (refine And.intro ?_ ?_; focus omega))
        rw [hj]
      · rw [if_neg hneg] at hj
        have hd : decide (i.tmod (x.args.length : Int) < 0) = false := decide_eq_false hneg
        (repeat' first
| exact hole _
| simp (maxSteps := 9999999) (disch := omega) only [go_sem, reduceCtorEq, Int.reduceToNat, Int.reduceNeg, Int.reduceLT, Int.reduceLE, Int.reduceEq, Int.reduceAdd, Int.reduceSub, Int.reduceMul, Nat.reduceAdd, Nat.reduceSub, Nat.reduceMul, Nat.reduceEqDiff, Nat.reduceBEq, Nat.reduceBneDiff, Nat.reduceLeDiff, Nat.reduceLT, reduceIte, R4, hd, ne_eq, lne, not_false_eq_true]
| refine' gdV_sc' rfl rfl (by simp only [V0, V1, Nat.reduceEqDiff, reduceIte]) (fun hq => ?_) (fun f => ?_) <;> try (have hq' := hq; try simp only [HB] at hq')
| refine' gdD_sc' rfl rfl (by simp only [V0, V1, Nat.reduceEqDiff, reduceIte]) (fun hq => ?_) (fun f => ?_) <;> try (have hq' := hq; try simp only [HB] at hq')
| refine gdV_intro (fun h => ?_) (fun h => ?_) <;> (have h' := h; try simp only [HB] at h'; try rewrite [h]; try simp only [h])
| refine condJ_intro (fun h => ?_) (fun h => ?_) <;> (have h' := h; try simp only [HB] at h'; try rewrite [h]; try simp only [h])
| refine pickE_intro (fun h => ?_) (fun h => ?_) <;> (have h' := h; try simp only [HB] at h'; try rewrite [h]; try simp only [h])
| refine gdD_intro (fun h => ?_) (fun h => ?_) <;> (have h' := h; try simp only [HB] at h'; try rewrite [h]; try simp only [h])
| refine callL_of (hI) ?_
| refine ct_I ?_
| refine callG_I ?_ ?_
| refine callG_Iv ?_ ?_
| refine drJ_I (by simp only [R4]; rfl) ?_
| refine ret_I (R := isR _) ?_
| refine nxt_I (fun hr => ?_) (fun q hq => ?_)
| refine isnil_I (fun hnil b => ?_) (fun hnil => ?_)
| (refine And.intro ?_ ?_; focus omega))
        rw [hj]
    have hm := getD_mem hjl
    have hbm := bX_arg hm
    have hA := Infer_is (mx := mx) c ent (x.args.getD j default) hcB (by omega)
    have hY := Infer_is (mx := mx) c ent y hcB (by omega)
    have huA := inferTop_uB hcB (ent := ent) (x := x.args.getD j default) (by omega)
    have huY := inferTop_uB hcB (ent := ent) (x := y) (by omega)
    have huX := inferTop_uB hcB (ent := ent) (x := x) (by omega)
    have hAok := operand_infer q1 q2 hm
    have hS := SameType_is (mx := mx) (inferTop c ent (x.args.getD j default)).1 (inferTop c ent y).1 huA huY
    simp only [eRes] at hA hY
    rw [hAok] at hA
    by_cases hg : (inferTop c ent y).2 = 0 ∧ (inferTop c ent (x.args.getD j default)).1 = (inferTop c ent y).1
    · obtain ⟨g1, g2⟩ := hg
      have hrep := replaced (i := j) q1 q2 hjl g1 (by rw [← getD_lt hjl]; exact g2)
      rw [g1] at hY
      have hsame : decide ((inferTop c ent (x.args.getD j default)).1 = (inferTop c ent y).1) = true := decide_eq_true g2
      rw [hsame] at hS
      have hbz : bX (withArgs x (x.args.set j y)) ≤ 1073741824 := by
        have hx := bX_eq x
        have hz := bX_eq (withArgs x (x.args.set j y))
        have hset : bSum bX (x.args.set j y) ≤ bSum bX x.args + bX y := by
          have : ∀ (l : List Xpr) (k : Nat), bSum bX (l.set k y) ≤ bSum bX l + bX y := by
            intro l
            induction l with
            | nil => intro k; simp [bSum]
            | cons a l ih => intro k; cases k with
              | zero => simp only [List.set_cons_zero, bSum]; omega
              | succ k => simp only [List.set_cons_succ, bSum]; have := ih k; omega
          exact this _ _
        simp only [withArgs, Xpr.op, Xpr.name, Xpr.table, Xpr.val, Xpr.unit, Xpr.args] at hz hx hset ⊢
        omega
      have hszz := sizeX_bX (withArgs x (x.args.set j y))
      have hZ := Infer_is (mx := mx) c ent (withArgs x (x.args.set j y)) hcB hbz
      have hZs := Size_is (mx := mx) _ (withArgs x (x.args.set j y)) (Nat.le_refl _) (by omega)
      have hZd := Depth_is (mx := mx) _ (withArgs x (x.args.set j y)) (Nat.le_refl _) (by omega)
      have hSx := SameType_is (mx := mx) (inferTop c ent x).1 (inferTop c ent x).1 huX huX
      have hcl : eE (withArgs x (x.args.set j y)) = [.int .i64 x.kind, .str x.op, .str x.name, .str x.table, .int .i64 x.val.kind, .int .i64 x.val.n, .str x.val.s, .sl (x.unit.map eFac), .int .i64 x.param, .int .i64 x.win.kind, .int .i64 x.win.size, .sl ((x.args.map eE).set j (eE y))] := by
        rw [eE_eq]; simp only [withArgs, Xpr.kind, Xpr.op, Xpr.name, Xpr.table, Xpr.val, Xpr.unit, Xpr.param, Xpr.win, Xpr.args, List.map_set]
      simp only [eRes, hcl] at hZ hZs hZd
      have r1 := rows_ok (f := eE) (k := 12) x.args ETl.2.2.2.2.1 EOne.2.2.1
      have l1 : (x.args.map eE).length = x.args.length := by simp
      have hdr : List.drop 12 (eE (x.args.getD j default)) = [] := List.drop_eq_nil_of_le (by rw [ETl.2.2.2.2.1]; omega)
      have hts : List.take x.args.length ((List.map eE x.args).set j (eE y)) = (List.map eE x.args).set j (eE y) := by rw [List.take_of_length_le]; simp
      by_cases hlim : 64 < sizeX (withArgs x (x.args.set j y)) ∨ 12 < depthX (withArgs x (x.args.set j y))
      · rw [if_pos hlim] at hrep
        rw [hrep] at hZ
        have hd : (decide ((64 : Int) < ((sizeX (withArgs x (x.args.set j y)) : Nat) : Int)) || decide ((12 : Int) < ((depthX (withArgs x (x.args.set j y)) : Nat) : Int))) = true := by
          rcases hlim with h | h
          · rw [decide_eq_true (show (64 : Int) < _ by omega), Bool.true_or]
          · rw [decide_eq_true (show (12 : Int) < _ by omega), Bool.or_true]
        (repeat' first
| exact hole _
| simp (maxSteps := 9999999) (disch := omega) only [go_sem, reduceCtorEq, Int.reduceToNat, Int.reduceNeg, Int.reduceLT, Int.reduceLE, Int.reduceEq, Int.reduceAdd, Int.reduceSub, Int.reduceMul, Nat.reduceAdd, Nat.reduceSub, Nat.reduceMul, Nat.reduceEqDiff, Nat.reduceBEq, Nat.reduceBneDiff, Nat.reduceLeDiff, Nat.reduceLT, reduceIte, R4, hdr, hts, List.append_nil, List.length_set, kz, eE_eq x, eq_true r1.1, eq_true r1.2, Nat.zero_add, Nat.sub_zero, take_len, hd]
| refine' gdV_sc' rfl rfl (by simp only [V0, V1, Nat.reduceEqDiff, reduceIte]) (fun hq => ?_) (fun f => ?_) <;> try (have hq' := hq; try simp only [HB] at hq')
| refine' gdD_sc' rfl rfl (by simp only [V0, V1, Nat.reduceEqDiff, reduceIte]) (fun hq => ?_) (fun f => ?_) <;> try (have hq' := hq; try simp only [HB] at hq')
| refine gdV_intro (fun h => ?_) (fun h => ?_) <;> (have h' := h; try simp only [HB] at h'; try rewrite [h]; try simp only [h])
| refine condJ_intro (fun h => ?_) (fun h => ?_) <;> (have h' := h; try simp only [HB] at h'; try rewrite [h]; try simp only [h])
| refine pickE_intro (fun h => ?_) (fun h => ?_) <;> (have h' := h; try simp only [HB] at h'; try rewrite [h]; try simp only [h])
| refine gdD_intro (fun h => ?_) (fun h => ?_) <;> (have h' := h; try simp only [HB] at h'; try rewrite [h]; try simp only [h])
| refine callL_of (hA) ?_
| refine callL_of (hY) ?_
| refine callL_of (hS) ?_
| refine callL_of (hZ) ?_
| refine callL_of (hZs) ?_
| refine callL_of (hZd) ?_
| refine callL_of (hSx) ?_
| refine ct_I ?_
| refine callG_I ?_ ?_
| refine callG_Iv ?_ ?_
| refine drJ_I (by simp only [R4]; rfl) ?_
| refine ret_I (R := isR _) ?_
| refine nxt_I (fun hr => ?_) (fun q hq => ?_)
| refine isnil_I (fun hnil b => ?_) (fun hnil => ?_)
| (refine And.intro ?_ ?_; focus omega))
      · rw [if_neg hlim] at hrep
        rw [hrep, q1] at hZ
        have hd : (decide ((64 : Int) < ((sizeX (withArgs x (x.args.set j y)) : Nat) : Int)) || decide ((12 : Int) < ((depthX (withArgs x (x.args.set j y)) : Nat) : Int))) = false := by
          rw [decide_eq_false (show ¬ (64 : Int) < _ by omega), decide_eq_false (show ¬ (12 : Int) < _ by omega), Bool.or_false]
        (repeat' first
| exact hole _
| simp (maxSteps := 9999999) (disch := omega) only [go_sem, reduceCtorEq, Int.reduceToNat, Int.reduceNeg, Int.reduceLT, Int.reduceLE, Int.reduceEq, Int.reduceAdd, Int.reduceSub, Int.reduceMul, Nat.reduceAdd, Nat.reduceSub, Nat.reduceMul, Nat.reduceEqDiff, Nat.reduceBEq, Nat.reduceBneDiff, Nat.reduceLeDiff, Nat.reduceLT, reduceIte, R4, hdr, hts, List.append_nil, List.length_set, kz, eE_eq x, eq_true r1.1, eq_true r1.2, Nat.zero_add, Nat.sub_zero, take_len, hd]
| refine' gdV_sc' rfl rfl (by simp only [V0, V1, Nat.reduceEqDiff, reduceIte]) (fun hq => ?_) (fun f => ?_) <;> try (have hq' := hq; try simp only [HB] at hq')
| refine' gdD_sc' rfl rfl (by simp only [V0, V1, Nat.reduceEqDiff, reduceIte]) (fun hq => ?_) (fun f => ?_) <;> try (have hq' := hq; try simp only [HB] at hq')
| refine gdV_intro (fun h => ?_) (fun h => ?_) <;> (have h' := h; try simp only [HB] at h'; try rewrite [h]; try simp only [h])
| refine condJ_intro (fun h => ?_) (fun h => ?_) <;> (have h' := h; try simp only [HB] at h'; try rewrite [h]; try simp only [h])
| refine pickE_intro (fun h => ?_) (fun h => ?_) <;> (have h' := h; try simp only [HB] at h'; try rewrite [h]; try simp only [h])
| refine gdD_intro (fun h => ?_) (fun h => ?_) <;> (have h' := h; try simp only [HB] at h'; try rewrite [h]; try simp only [h])
| refine callL_of (hA) ?_
| refine callL_of (hY) ?_
| refine callL_of (hS) ?_
| refine callL_of (hZ) ?_
| refine callL_of (hZs) ?_
| refine callL_of (hZd) ?_
| refine callL_of (hSx) ?_
| refine ct_I ?_
| refine callG_I ?_ ?_
| refine callG_Iv ?_ ?_
| refine drJ_I (by simp only [R4]; rfl) ?_
| refine ret_I (R := isR _) ?_
| refine nxt_I (fun hr => ?_) (fun q hq => ?_)
| refine isnil_I (fun hnil b => ?_) (fun hnil => ?_)
| (refine And.intro ?_ ?_; focus omega))
    · have hgn : (decide ((inferTop c ent y).2 ≠ 0) || !decide ((inferTop c ent (x.args.getD j default)).1 = (inferTop c ent y).1)) = true := by
        by_cases h1 : (inferTop c ent y).2 = 0
        · rw [decide_eq_false (show ¬ (inferTop c ent (x.args.getD j default)).1 = (inferTop c ent y).1 from fun h => hg ⟨h1, h⟩), Bool.not_false, Bool.or_true]
        · rw [decide_eq_true (show (inferTop c ent y).2 ≠ 0 from h1), Bool.true_or]
      (repeat' first
| exact hole _
| simp (maxSteps := 9999999) (disch := omega) only [go_sem, reduceCtorEq, Int.reduceToNat, Int.reduceNeg, Int.reduceLT, Int.reduceLE, Int.reduceEq, Int.reduceAdd, Int.reduceSub, Int.reduceMul, Nat.reduceAdd, Nat.reduceSub, Nat.reduceMul, Nat.reduceEqDiff, Nat.reduceBEq, Nat.reduceBneDiff, Nat.reduceLeDiff, Nat.reduceLT, reduceIte, R4, kz, hgn]
| refine' gdV_sc' rfl rfl (by simp only [V0, V1, Nat.reduceEqDiff, reduceIte]) (fun hq => ?_) (fun f => ?_) <;> try (have hq' := hq; try simp only [HB] at hq')
| refine' gdD_sc' rfl rfl (by simp only [V0, V1, Nat.reduceEqDiff, reduceIte]) (fun hq => ?_) (fun f => ?_) <;> try (have hq' := hq; try simp only [HB] at hq')
| refine gdV_intro (fun h => ?_) (fun h => ?_) <;> (have h' := h; try simp only [HB] at h'; try rewrite [h]; try simp only [h])
| refine condJ_intro (fun h => ?_) (fun h => ?_) <;> (have h' := h; try simp only [HB] at h'; try rewrite [h]; try simp only [h])
| refine pickE_intro (fun h => ?_) (fun h => ?_) <;> (have h' := h; try simp only [HB] at h'; try rewrite [h]; try simp only [h])
| refine gdD_intro (fun h => ?_) (fun h => ?_) <;> (have h' := h; try simp only [HB] at h'; try rewrite [h]; try simp only [h])
| refine callL_of (hA) ?_
| refine callL_of (hY) ?_
| refine callL_of (hS) ?_
| refine ct_I ?_
| refine callG_I ?_ ?_
| refine callG_Iv ?_ ?_
| refine drJ_I (by simp only [R4]; rfl) ?_
| refine ret_I (R := isR _) ?_
| refine nxt_I (fun hr => ?_) (fun q hq => ?_)
| refine isnil_I (fun hnil b => ?_) (fun hnil => ?_)
| (refine And.intro ?_ ?_; focus omega))
  · have hneg : (decide ((inferTop c ent x).2 ≠ 0) || decide (x.kind = 5) || decide ((x.args.length : Int) = 0)) = true := by
      by_cases h1 : (inferTop c ent x).2 = 0
      · by_cases h2 : x.kind = 5
        · simp [h2]
        · have : x.args.length = 0 := Decidable.byContradiction fun h => hc ⟨h1, h2, h⟩
          simp [this]
      · simp [h1]
    refine MC_of_J Tryd.func4 (by kernel_rfl) Tryd.ntmps4 rfl rfl comp4 rv4 rfl c4.eq_1 ?_
    (repeat' first
| exact hole _
| simp (maxSteps := 9999999) (disch := omega) only [go_sem, reduceCtorEq, Int.reduceToNat, Int.reduceNeg, Int.reduceLT, Int.reduceLE, Int.reduceEq, Int.reduceAdd, Int.reduceSub, Int.reduceMul, Nat.reduceAdd, Nat.reduceSub, Nat.reduceMul, Nat.reduceEqDiff, Nat.reduceBEq, Nat.reduceBneDiff, Nat.reduceLeDiff, Nat.reduceLT, reduceIte, R4, hneg]
| refine' gdV_sc' rfl rfl (by simp only [V0, V1, Nat.reduceEqDiff, reduceIte]) (fun hq => ?_) (fun f => ?_) <;> try (have hq' := hq; try simp only [HB] at hq')
| refine' gdD_sc' rfl rfl (by simp only [V0, V1, Nat.reduceEqDiff, reduceIte]) (fun hq => ?_) (fun f => ?_) <;> try (have hq' := hq; try simp only [HB] at hq')
| refine gdV_intro (fun h => ?_) (fun h => ?_) <;> (have h' := h; try simp only [HB] at h'; try rewrite [h]; try simp only [h])
| refine condJ_intro (fun h => ?_) (fun h => ?_) <;> (have h' := h; try simp only [HB] at h'; try rewrite [h]; try simp only [h])
| refine pickE_intro (fun h => ?_) (fun h => ?_) <;> (have h' := h; try simp only [HB] at h'; try rewrite [h]; try simp only [h])
| refine gdD_intro (fun h => ?_) (fun h => ?_) <;> (have h' := h; try simp only [HB] at h'; try rewrite [h]; try simp only [h])
| refine callL_of (example_is) ?_
| refine callL_of (hI) ?_
| refine ct_I ?_
| refine callG_I ?_ ?_
| refine callG_Iv ?_ ?_
| refine drJ_I (by simp only [R4]; rfl) ?_
| refine ret_I (R := isR _) ?_
| refine nxt_I (fun hr => ?_) (fun q hq => ?_)
| refine isnil_I (fun hnil b => ?_) (fun hnil => ?_)
| (refine And.intro ?_ ?_; focus omega))
end RP
theorem law_replaced (c : Cat) (ent : Str) (x y : Xpr) (i : Int) (hb : bCat c + bX x + bX y ≤ 1048576) (hi : (Lit.int .i64 i).wf = true) : Is mx 4 [.agg (eCat c), .str ent, .agg (eE x), .agg (eE y), iI i] (.bool true) :=
  RP.law_replaced c ent x y i hb hi

end Go.Proofs.YtihbaggjjglcbaaDoor
end

section
set_option maxRecDepth 100000
set_option maxHeartbeats 8000000
set_option linter.unusedVariables false
set_option linter.unusedSimpArgs false
namespace Go.Proofs.YtihbaggjjglcbaaDoor
open Go Go.Dl Go.As Go.RowKit Go.ChangeShapes Go.WideShapes
/-- CheckerReplaced: the call, in a world, at arguments of bulk at most the bound. -/
theorem contract_checkerReplaced (H : Type) (enc : TypeId × Value → H) (W : World) (base : Nat) (args : Array Value) (ds gs : List (DataW H)) (before : List MemPlace)
    (hval : ∀ (j : Nat) t v, Tryd.f4.params[j]? = some t → args[j]? = some v → Value.okWide Tryd.prog W .any base t v)
    (hW : DataW.Whole enc Tryd.prog Tryd.f4.params.toList Rows.checkerReplacedSpec.vars false W args.toList ds gs before) (hk : Rows.uptoSmall H (ds ++ gs) = true) (hL : laidMetH Tryd.prog laidL W) (hsh : W.ShapedOpen Tryd.prog) :
    Calls Tryd.prog 4 args W fun e W' => ∃ v, e = .returned v ∧ Rows.checkerReplacedSpec.post enc Tryd.prog Tryd.f4 false true false false W args v W' := by
  have hW' := hW
  obtain ⟨p, q, hA0, hV, rfl, _, _⟩ := hW
  obtain ⟨rfl, rfl⟩ := trodVars_none hV
  have hA : DataW.TrodAll enc Tryd.prog W 0 (fun _ => true) true [25, 9, 33, 33, 3] args.toList ds p := hA0
  obtain ⟨hlen, hrd⟩ := rdAll hA
  have hb : Rows.uptoBulkAll (ds ++ []) ≤ 1048576 := of_decide_eq_true hk
  rw [List.append_nil, bulks_eq] at hb
  obtain ⟨d1, d2, d3, d4, d5, rfl⟩ : ∃ d1 d2 d3 d4 d5, ds = [d1, d2, d3, d4, d5] := by
    match ds, hlen with
    | [d1, d2, d3, d4, d5], _ => exact ⟨d1, d2, d3, d4, d5, rfl⟩
  obtain ⟨n1, r1⟩ := hrd 0 (by simp) (by simp)
  replace r1 : Rd Tryd.prog n1 25 d1 := r1
  obtain ⟨n2, r2⟩ := hrd 1 (by simp) (by simp)
  replace r2 : Rd Tryd.prog n2 9 d2 := r2
  obtain ⟨n3, r3⟩ := hrd 2 (by simp) (by simp)
  replace r3 : Rd Tryd.prog n3 33 d3 := r3
  obtain ⟨n4, r4⟩ := hrd 3 (by simp) (by simp)
  replace r4 : Rd Tryd.prog n4 33 d4 := r4
  obtain ⟨n5, r5⟩ := hrd 4 (by simp) (by simp)
  replace r5 : Rd Tryd.prog n5 3 d5 := r5
  obtain ⟨x1, f1, b1, _⟩ := cat_rd r1
  obtain ⟨x2, e2⟩ := r2.str (by kernel_rfl)
  have f2 : flatD d2 = [.str x2] := by rw [e2]; rfl
  have b2 : x2.length + 1 = bulkD d2 := by rw [e2]; rfl
  obtain ⟨x3, f3, b3, _⟩ := expr_rd _ _ r3
  obtain ⟨x4, f4, b4, _⟩ := expr_rd _ _ r4
  obtain ⟨x5, e5, w5⟩ := r5.int (k := .i64) (by kernel_rfl)
  have f5 : flatD d5 = [iI x5] := by rw [e5]; rfl
  simp only [bulkL] at hb
  obtain ⟨mx, hg⟩ := glob_ok hL hsh
  have hrep := args_rep plainLok (ts := [25, 9, 33, 33, 3]) (ds := [d1, d2, d3, d4, d5]) (by decide) (fun j t v h1 h2 => hval j t v (by simpa using h1) (by simpa using h2)) hA
  have g1 : argI Tryd.prog 25 (flatD d1) = .agg (eCat x1) := by rw [f1]; exact argI_S Tryd.underlying25
  have g2 : argI Tryd.prog 9 (flatD d2) = .str x2 := by rw [f2]; exact argI_1 (by rw [Tryd.underlying9]; intro fs h; cases h)
  have g3 : argI Tryd.prog 33 (flatD d3) = .agg (eE x3) := by rw [f3]; exact argI_S Tryd.underlying33
  have g4 : argI Tryd.prog 33 (flatD d4) = .agg (eE x4) := by rw [f4]; exact argI_S Tryd.underlying33
  have g5 : argI Tryd.prog 3 (flatD d5) = iI x5 := by rw [f5]; exact argI_1 (by rw [Tryd.underlying3]; intro fs h; cases h)
  have he : argsI Tryd.prog [25, 9, 33, 33, 3] [d1, d2, d3, d4, d5] = [.agg (eCat x1), .str x2, .agg (eE x3), .agg (eE x4), iI x5] := by simp only [argsI, g1, g2, g3, g4, g5]
  rw [he] at hrep
  have hc := calls_of_MC (by kernel_rfl) (law_replaced (mx := mx) x1 x2 x3 x4 x5 (by omega) w5) hg hrep
  refine hc.mono ?_
  rintro e W' ⟨v, M', rfl, hv, hbl⟩
  obtain rfl : v = .bool true := by cases hv; rfl
  refine ⟨_, rfl, post_true laidOutP (by kernel_rfl) rfl rfl Tryd.underlying4 (fun ys hy => ?_) hW' hbl⟩
  match ys, hy with
  | [y0, y1, y2, y3, y4], _ => rfl
theorem witness_checkerReplaced (os : Os) {H : Type} (enc : TypeId × Value → H) :
    (Rows.OpenSpec.upto Rows.checkerReplacedSpec).preRow enc Tryd.prog Tryd.f4 Rows.checkerReplacedUptoRow.domain false Rows.checkerReplacedUptoRow.laid ((laidWorld os).forCall (fun _ _ => 0) ⟨#[], #[.agg #[.slice none 0 0, .slice none 0 0, .slice none 0 0, .slice none 0 0], .string ⟨#[]⟩, .agg #[.int .i64 0, .string ⟨#[]⟩, .string ⟨#[]⟩, .string ⟨#[]⟩, .int .i64 0, .int .i64 0, .string ⟨#[]⟩, .slice none 0 0, .int .i64 0, .int .i64 0, .int .i64 0, .slice none 0 0], .agg #[.int .i64 0, .string ⟨#[]⟩, .string ⟨#[]⟩, .string ⟨#[]⟩, .int .i64 0, .int .i64 0, .string ⟨#[]⟩, .slice none 0 0, .int .i64 0, .int .i64 0, .int .i64 0, .slice none 0 0], .int .i64 0], []⟩).memory #[.agg #[.slice none 0 0, .slice none 0 0, .slice none 0 0, .slice none 0 0], .string ⟨#[]⟩, .agg #[.int .i64 0, .string ⟨#[]⟩, .string ⟨#[]⟩, .string ⟨#[]⟩, .int .i64 0, .int .i64 0, .string ⟨#[]⟩, .slice none 0 0, .int .i64 0, .int .i64 0, .int .i64 0, .slice none 0 0], .agg #[.int .i64 0, .string ⟨#[]⟩, .string ⟨#[]⟩, .string ⟨#[]⟩, .int .i64 0, .int .i64 0, .string ⟨#[]⟩, .slice none 0 0, .int .i64 0, .int .i64 0, .int .i64 0, .slice none 0 0], .int .i64 0] := by
  have hw : (DataW.whole enc Tryd.prog ((laidWorld os).forCall (fun _ _ => 0) ⟨#[], #[.agg #[.slice none 0 0, .slice none 0 0, .slice none 0 0, .slice none 0 0], .string ⟨#[]⟩, .agg #[.int .i64 0, .string ⟨#[]⟩, .string ⟨#[]⟩, .string ⟨#[]⟩, .int .i64 0, .int .i64 0, .string ⟨#[]⟩, .slice none 0 0, .int .i64 0, .int .i64 0, .int .i64 0, .slice none 0 0], .agg #[.int .i64 0, .string ⟨#[]⟩, .string ⟨#[]⟩, .string ⟨#[]⟩, .int .i64 0, .int .i64 0, .string ⟨#[]⟩, .slice none 0 0, .int .i64 0, .int .i64 0, .int .i64 0, .slice none 0 0], .int .i64 0], []⟩).memory Tryd.f4.params.toList (Rows.OpenSpec.upto Rows.checkerReplacedSpec).vars false (#[.agg #[.slice none 0 0, .slice none 0 0, .slice none 0 0, .slice none 0 0], .string ⟨#[]⟩, .agg #[.int .i64 0, .string ⟨#[]⟩, .string ⟨#[]⟩, .string ⟨#[]⟩, .int .i64 0, .int .i64 0, .string ⟨#[]⟩, .slice none 0 0, .int .i64 0, .int .i64 0, .int .i64 0, .slice none 0 0], .agg #[.int .i64 0, .string ⟨#[]⟩, .string ⟨#[]⟩, .string ⟨#[]⟩, .int .i64 0, .int .i64 0, .string ⟨#[]⟩, .slice none 0 0, .int .i64 0, .int .i64 0, .int .i64 0, .slice none 0 0], .int .i64 0] : Array Value).toList 12).map (fun x => (x.1, x.2.1)) =
      some ([.agg [.nil, .nil, .nil, .nil], .lit (.string []), .agg [.lit (.int .i64 0), .lit (.string []), .lit (.string []), .lit (.string []), .agg [.lit (.int .i64 0), .lit (.int .i64 0), .lit (.string [])], .nil, .lit (.int .i64 0), .agg [.lit (.int .i64 0), .lit (.int .i64 0)], .nil], .agg [.lit (.int .i64 0), .lit (.string []), .lit (.string []), .lit (.string []), .agg [.lit (.int .i64 0), .lit (.int .i64 0), .lit (.string [])], .nil, .lit (.int .i64 0), .agg [.lit (.int .i64 0), .lit (.int .i64 0)], .nil], .lit (.int .i64 0)], []) := by kernel_rfl
  obtain ⟨⟨x1, x2, x3⟩, hx, hx1⟩ := Option.map_eq_some_iff.1 hw
  simp only [Prod.mk.injEq] at hx1
  obtain ⟨rfl, rfl⟩ := hx1
  exact OpenSpec.preRow_of_cond 12 hx (by kernel_rfl) (fun k hk => by cases hk; kernel_rfl) (by kernel_rfl) (laid_met os _)
theorem lifted_checkerReplaced (os : Os) (started : os.Started) (H : Type) (enc : TypeId × Value → H) (F : Stop.Interp) :
    ReturnsInHanded {} Tryd.checked os 4 .any ((Rows.OpenSpec.upto Rows.checkerReplacedSpec).preRow enc Tryd.prog Tryd.f4 Rows.checkerReplacedUptoRow.domain false Rows.checkerReplacedUptoRow.laid) (((Rows.OpenSpec.upto Rows.checkerReplacedSpec).at F).post enc Tryd.prog Tryd.f4 false true false false) := by
  refine returnsInHanded_of_row (C := Tryd.checked) (s := Rows.OpenSpec.upto Rows.checkerReplacedSpec) own started (by kernel_rfl) Tryd.func4
    (witness_row_atRef (enc := enc) (C := Tryd.checked) false (laidWorld os) #[.agg #[.slice none 0 0, .slice none 0 0, .slice none 0 0, .slice none 0 0], .string ⟨#[]⟩, .agg #[.int .i64 0, .string ⟨#[]⟩, .string ⟨#[]⟩, .string ⟨#[]⟩, .int .i64 0, .int .i64 0, .string ⟨#[]⟩, .slice none 0 0, .int .i64 0, .int .i64 0, .int .i64 0, .slice none 0 0], .agg #[.int .i64 0, .string ⟨#[]⟩, .string ⟨#[]⟩, .string ⟨#[]⟩, .int .i64 0, .int .i64 0, .string ⟨#[]⟩, .slice none 0 0, .int .i64 0, .int .i64 0, .int .i64 0, .slice none 0 0], .int .i64 0] rfl (by kernel_rfl) (by kernel_rfl) (by kernel_rfl) (witness_checkerReplaced os enc)) ?_
  intro W base args ds gs before hval hW _ hcond _ hL hsh _
  exact contract_checkerReplaced H enc W base args ds gs before hval hW (hcond _ rfl) hL hsh
theorem said_checkerReplaced : Rows.CheckerReplacedUptoSaid :=
  OpenClaim.holds_of_cond 4 Tryd.f4 rfl rfl rfl rfl rfl rfl rfl ⟨rfl, rfl, rfl, rfl, rfl⟩ rfl rfl rfl rfl rfl (by kernel_rfl) Tryd.func4 (by kernel_rfl)
    (of_decide_eq_true (by kernel_rfl)) (by unfold Func.isWrapper; first | (rw [if_pos (by decide +kernel)]; kernel_rfl) | (rw [if_neg (by decide +kernel)]; exact ⟨rfl, rfl⟩))
    (fun os started H enc _ F => by rw [OpenClaim.pre_eq_preRow]; exact lifted_checkerReplaced os started H enc F)
theorem plain_checkerReplaced (f : FuncId) (fn : Func) (hf : Tryd.pinned.checked.prog.funcNamed "asof/asoflaw10.CheckerReplaced" = some f) (hfn : Tryd.pinned.checked.prog.funcs[f]? = some fn) :
    false = Tryd.pinned.checked.prog.looks [] ∧ ∀ (j : Nat) t, fn.params[j]? = some t → Tryd.pinned.checked.prog.wantsStandIn t = false := by
  obtain rfl : f = 4 := Option.some.inj ((show Tryd.prog.funcNamed "asof/asoflaw10.CheckerReplaced" = some 4 by kernel_rfl).symm.trans hf) |>.symm
  obtain rfl : fn = Tryd.f4 := (Option.some.inj (Tryd.func4.symm.trans hfn)).symm
  refine ⟨by kernel_rfl, fun j t ht => ?_⟩
  have hm := Array.mem_of_getElem? ht
  have hall : (Tryd.f4.params.toList.all fun t => !Tryd.prog.wantsStandIn t) = true := by kernel_rfl
  have := List.all_eq_true.1 hall t (by simpa using hm)
  show Tryd.prog.wantsStandIn t = false
  simpa using this
/-- The card of CheckerReplaced, second form. -/
theorem card_checkerReplaced : Rows.CheckerReplacedUptoCardSaid :=
  Claim7.holds_tied_plain_at .later [] _ _ _ _ said_checkerReplaced (fun _ h => by cases h) (by kernel_rfl) (fun _ h => by cases h) checkerReplacedUpto_row_tie rfl ⟨rfl, rfl⟩ (by kernel_rfl) rfl plain_checkerReplaced (by kernel_rfl)
end Go.Proofs.YtihbaggjjglcbaaDoor
end
