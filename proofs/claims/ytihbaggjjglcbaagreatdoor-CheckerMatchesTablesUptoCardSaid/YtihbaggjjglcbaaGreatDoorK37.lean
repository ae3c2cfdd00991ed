/-
  What the laws of this seat share, part 37: no statement of its own.
-/
import Derived.Test.YtihbaggjjglcbaaGreatDoorK36
import Derived.Test.YtihbaggjjglcbaaGreatDoorCards
import Derived.Test.YtihbaggjjglcbaaGreatDoorTie
import Derived.Deep.DeepWitnessRowRef
import Derived.Lib.LaidIn
set_option linter.unusedVariables false
set_option linter.unusedSimpArgs false

section
set_option maxRecDepth 100000
set_option maxHeartbeats 8000000
set_option linter.unusedVariables false
set_option linter.unusedSimpArgs false
namespace Go.Proofs.YtihbaggjjglcbaaGreatDoor
open Go Go.Dl Go.As Go.Proofs
variable {mx : Int}
attribute [local irreducible] callG callL MC W W2 evT ev evD step stepD

/-! Names, types and tables: the program's and the specification's. -/
theorem contains_cons (b : UInt8) (l sub : Str) : Lib.contains (b :: l) sub = (sub.isPrefixOf (b :: l) || Lib.contains l sub) := by
  simp only [Lib.contains, Lib.index]
  have := Lib.index_ge l sub
  split
  · rename_i h; simp [h]
  · rename_i h
    simp only [Bool.not_eq_true] at h
    rw [h, Bool.false_or]
    split
    · rename_i e; simp only [beq_iff_eq] at e; rw [e]
    · rename_i e; simp only [beq_iff_eq] at e
      rw [Bool.eq_iff_iff]; simp; omega
theorem contains_skip (p : Str) : ∀ (k rest : Str), (∀ b ∈ k, b ≠ 32) → Lib.contains (k ++ rest) (32 :: p) = Lib.contains rest (32 :: p)
  | [], rest, _ => rfl
  | b :: k, rest, h => by
    have h1 := h b (by simp)
    rw [List.cons_append, contains_cons, contains_skip p k rest fun c hc => h c (by simp [hc])]
    have : ((32 : UInt8) == b) = false := by simp; exact fun e => h1 e.symm
    simp [List.isPrefixOf, this]
theorem prefix_word : ∀ (s k rest : Str), (∀ b ∈ s, b ≠ 32) → (∀ b ∈ k, b ≠ 32) → (s ++ [32]).isPrefixOf (k ++ 32 :: rest) = decide (s = k)
  | [], [], rest, _, _ => by simp [List.isPrefixOf]
  | [], c :: k, rest, _, h => by
    have h1 := h c (by simp)
    have : ((32 : UInt8) == c) = false := by simp; exact fun e => h1 e.symm
    simp [List.isPrefixOf, this]
  | b :: s, [], rest, h, _ => by
    have h1 := h b (by simp)
    simp [List.isPrefixOf, h1]
  | b :: s, c :: k, rest, h, h' => by
    simp only [List.cons_append, List.isPrefixOf]
    rw [prefix_word s k rest (fun x hx => h x (by simp [hx])) fun x hx => h' x (by simp [hx])]
    rw [Bool.eq_iff_iff]; simp
def kwText : List Str → Str
  | [] => [32]
  | k :: r => 32 :: (k ++ kwText r)
theorem kwText_cons : ∀ l, ∃ r, kwText l = 32 :: r
  | [] => ⟨[], rfl⟩
  | k :: r => ⟨_, rfl⟩
theorem contains_kw (s : Str) (hs : ∀ b ∈ s, b ≠ 32) : ∀ l : List Str, (∀ k ∈ l, ∀ b ∈ k, b ≠ 32) → Lib.contains (kwText l) (32 :: (s ++ [32])) = l.any fun k => decide (s = k)
  | [], _ => by
    simp only [kwText, List.any_nil, contains_cons]
    have : Lib.contains [] (32 :: (s ++ [32])) = false := rfl
    rw [this, Bool.or_false]
    cases s <;> simp [List.isPrefixOf]
  | k :: l, h => by
    have hk := h k (by simp)
    simp only [kwText, List.any_cons, contains_cons]
    rw [contains_skip _ k _ hk, contains_kw s hs l fun k hk => h k (by simp [hk])]
    obtain ⟨r, hr⟩ := kwText_cons l
    rw [hr]
    simp only [List.isPrefixOf, beq_self_eq_true, Bool.true_and]
    rw [prefix_word s k r hs hk]
theorem kwords_eq : kwords = kwText kwList := by decide
theorem wc_no (c : UInt8) (h : wc c = true) : c ≠ 32 := by rintro rfl; revert h; decide
theorem word_no {s : Str} (h : word s = true) : ∀ b ∈ s, b ≠ 32 := by
  simp only [word, Bool.and_eq_true, List.all_eq_true] at h
  exact fun b hb => wc_no b (h.2 b hb)
theorem wcb_wc (c : UInt8) : wcb c = wc c := by
  rw [Bool.eq_iff_iff]; simp [wcb, wc, lc, dg]; omega
theorem takeWhile_len (p : UInt8 → Bool) : ∀ r : Str, ((r.takeWhile p).length = r.length) ↔ r.all p = true
  | [] => by simp
  | c :: r => by
    rw [List.takeWhile_cons, List.all_cons]
    by_cases h : p c = true
    · rw [if_pos h]; simp [takeWhile_len p r, h]
    · rw [if_neg h]; simp [h]
theorem wlen_word (s : Str) : (decide (s ≠ []) && decide (s.length ≤ 24) && decide (wlen s = s.length)) = word s := by
  cases s with
  | nil => rfl
  | cons c r =>
    have h1 : (c :: r).getD 0 0 = c := rfl
    have hl : lc c = true → wc c = true := by simp [lc, wc]; omega
    have hw : wcb = wc := funext wcb_wc
    simp only [word, wlen, h1, List.all_cons, List.length_cons, hw]
    by_cases h : lc c = true
    · rw [if_pos h, h, hl h]
      have := takeWhile_len wc r
      rw [Bool.eq_iff_iff]
      simp only [Bool.and_eq_true, decide_eq_true_eq, ← this, and_true, true_and]
      constructor <;> (intro hh; refine ⟨hh.1, ?_⟩; omega)
    · rw [if_neg h]; simp [h]
theorem refName_ok (s : Str) : refName s = nameOk s := by
  unfold refName nameOk
  rw [wlen_word]
  cases h : word s with
  | false => rfl
  | true =>
    have hs := word_no h
    have h0 : s ≠ [] := by rintro rfl; cases h
    have h1 : Lib.contains s [32] = false := by
      have := contains_skip [] s [] hs
      rw [List.append_nil] at this; rw [this]; rfl
    have h2 : keyw s = refKey s := by
      simp only [keyw, h0, h1, kwords_eq, ne_eq, not_false_eq_true, decide_true, Bool.not_false, Bool.true_and]
      rw [contains_kw s hs kwList (by decide)]; rfl
    rw [h2]
/-- The specification's types. -/
def typeR (t : Typ) : Int :=
  if (decide (t.kind < 1) || decide (5 < t.kind)) = true then 3
  else if ((decide (t.kind = 5) && !refName t.of) || (decide (t.kind ≠ 5) && decide (t.of ≠ [])) || (!isNum t && decide (0 < t.unit.length))) = true then 3
  else if unitCheck t.unit ≠ 0 then 70 else if t.unit.any (fun f => !refName f.name) = true then 70 else 0
theorem typeR_ok (t : Typ) : typeR t = typeOk t := by
  have hn : nameOk [] = false := rfl
  simp only [typeR, typeOk, ty1, ty2, ty3, refName_ok]
  by_cases h5 : t.of = []
  · have hn' : nameOk t.of = false := by rw [h5]; exact hn
    grind
  · grind
def fieldsR : List Fld → List Fld → Int
  | _, [] => 0
  | seen, f :: r => if (!refName f.name) = true then 3 else if (seen.any fun g => decide (g.name = f.name)) = true then 121 else if typeR f.typ ≠ 0 then typeR f.typ else fieldsR (seen ++ [f]) r
def tableR (t : Tbl) : Int :=
  if (!refName t.name || !refName t.entity || decide (t.keep < 0) || decide (1099511627776 < t.keep)) = true then 3 else if 8 < t.fields.length then 2 else fieldsR [] t.fields
theorem fieldsR_ok : ∀ (l seen : List Fld), fieldsR seen l = fieldsT seen l
  | [], _ => rfl
  | f :: r, seen => by simp only [fieldsR, fieldsT, refName_ok, typeR_ok, fieldsR_ok r]
theorem tableR_ok (t : Tbl) : tableR t = tableT t := by simp only [tableR, tableT, refName_ok, fieldsR_ok]

end Go.Proofs.YtihbaggjjglcbaaGreatDoor
end

section
set_option maxRecDepth 100000
set_option maxHeartbeats 8000000
set_option linter.unusedVariables false
set_option linter.unusedSimpArgs false
namespace Go.Proofs.YtihbaggjjglcbaaGreatDoor
open Go Go.Dl Go.As Go.Proofs
variable {mx : Int}
attribute [local irreducible] callG callL MC W W2 evT ev evD step stepD

theorem num10_is (t : Typ) : Is mx 10 [.agg (eTyp t)] (.bool (isNum t)) := by
  refine MC_of_J Tryz.func10 (by kernel_rfl) Tryz.ntmps10 rfl rfl comp10 rv10 rfl c10.eq_1 ?_
  (repeat' first
| exact hole _
| simp (maxSteps := 9999999) (disch := omega) only [go_sem, reduceCtorEq, Int.reduceToNat, Int.reduceNeg, Int.reduceLT, Int.reduceLE, Int.reduceEq, Int.reduceAdd, Int.reduceSub, Int.reduceMul, Nat.reduceAdd, Nat.reduceSub, Nat.reduceMul, Nat.reduceEqDiff, Nat.reduceBEq, Nat.reduceBneDiff, Nat.reduceLeDiff, Nat.reduceLT, reduceIte, R10]
| refine' gdV_sc' rfl rfl (by simp only [V0, V1, Nat.reduceEqDiff, reduceIte]) (fun hq => ?_) (fun f => ?_) <;> try (have hq' := hq; try simp only [HB] at hq')
| refine' gdD_sc' rfl rfl (by simp only [V0, V1, Nat.reduceEqDiff, reduceIte]) (fun hq => ?_) (fun f => ?_) <;> try (have hq' := hq; try simp only [HB] at hq')
| refine gdV_intro (fun h => ?_) (fun h => ?_) <;> (have h' := h; try simp only [HB] at h'; try rewrite [h]; try simp only [h])
| refine condJ_intro (fun h => ?_) (fun h => ?_) <;> (have h' := h; try simp only [HB] at h'; try rewrite [h]; try simp only [h])
| refine pickE_intro (fun h => ?_) (fun h => ?_) <;> (have h' := h; try simp only [HB] at h'; try rewrite [h]; try simp only [h])
| refine gdD_intro (fun h => ?_) (fun h => ?_) <;> (have h' := h; try simp only [HB] at h'; try rewrite [h]; try simp only [h])
| refine ct_I ?_
| refine callG_I ?_ ?_
| refine callG_Iv ?_ ?_
| refine drJ_I (by simp only [R10]; rfl) ?_
| refine ret_I (R := isR _) ?_
| refine nxt_I (fun hr => ?_) (fun q hq => ?_)
| refine isnil_I (fun hnil b => ?_) (fun hnil => ?_)
| (refine And.intro ?_ ?_; focus omega))
  all_goals (refine congrArg I.bool ?_; (try simp only [isNum]); (first | rfl | (simp_all; done) | (rw [Bool.eq_iff_iff]; simp_all; done) | (rw [Bool.eq_iff_iff]; simp_all; omega)))
theorem Type10_is (t : Typ) (ht : t.unit.length ≤ 1073741824) (hn : ∀ x ∈ t.unit, x.name.length ≤ 1073741824) : Is mx 24 [.agg (eTyp t)] (iI (typeR t)) := by
  refine MC_of_J Tryz.func24 (by kernel_rfl) Tryz.ntmps24 rfl rfl comp24 rv24 rfl c24.eq_1 ?_
  (repeat' first
| exact hole _
| simp (maxSteps := 9999999) (disch := omega) only [go_sem, reduceCtorEq, Int.reduceToNat, Int.reduceNeg, Int.reduceLT, Int.reduceLE, Int.reduceEq, Int.reduceAdd, Int.reduceSub, Int.reduceMul, Nat.reduceAdd, Nat.reduceSub, Nat.reduceMul, Nat.reduceEqDiff, Nat.reduceBEq, Nat.reduceBneDiff, Nat.reduceLeDiff, Nat.reduceLT, reduceIte, R24]
| refine' gdV_sc' rfl rfl (by simp only [V0, V1, Nat.reduceEqDiff, reduceIte]) (fun hq => ?_) (fun f => ?_) <;> try (have hq' := hq; try simp only [HB] at hq')
| refine' gdD_sc' rfl rfl (by simp only [V0, V1, Nat.reduceEqDiff, reduceIte]) (fun hq => ?_) (fun f => ?_) <;> try (have hq' := hq; try simp only [HB] at hq')
| refine gdV_intro (fun h => ?_) (fun h => ?_) <;> (have h' := h; try simp only [HB] at h'; try rewrite [h]; try simp only [h])
| refine condJ_intro (fun h => ?_) (fun h => ?_) <;> (have h' := h; try simp only [HB] at h'; try rewrite [h]; try simp only [h])
| refine pickE_intro (fun h => ?_) (fun h => ?_) <;> (have h' := h; try simp only [HB] at h'; try rewrite [h]; try simp only [h])
| refine gdD_intro (fun h => ?_) (fun h => ?_) <;> (have h' := h; try simp only [HB] at h'; try rewrite [h]; try simp only [h])
| refine callL_of (num10_is t) ?_
| refine callL_of (Name8_is _) ?_
| refine callL_of (Check7_is _ ht hn) ?_
| refine ct_I ?_
| refine callG_I ?_ ?_
| refine callG_Iv ?_ ?_
| refine drJ_I (by simp only [R24]; rfl) ?_
| refine ret_I (R := isR _) ?_
| refine nxt_I (fun hr => ?_) (fun q hq => ?_)
| refine isnil_I (fun hnil b => ?_) (fun hnil => ?_)
| (refine And.intro ?_ ?_; focus omega))
  all_goals try (refine congrArg (I.int .i64) ?_; simp only [typeR]; grind)
  have hR : typeR t = if t.unit.any (fun f => !refName f.name) = true then 70 else 0 := by simp only [typeR]; grind
  rw [hR]
  refine loopS (L24_0.eq_1 0) [1] (by simp only [V0, V1, V2, V25, reduceIte, Nat.reduceEqDiff]; rfl) (fun i => [(3, .i (iI i))]) (fun _ => []) (fun i => (t.unit.take i).all (fun f => refName f.name) = true) t.unit.length 0 (by omega) (by simp) (by simp [V0, V1, V2, V11, V8, V15, Ref.nm]) ?_
  intro i hi hinv
  by_cases hi' : i < t.unit.length
  · (repeat' first
| exact hole _
| simp (maxSteps := 9999999) (disch := omega) only [go_sem, reduceCtorEq, Int.reduceToNat, Int.reduceNeg, Int.reduceLT, Int.reduceLE, Int.reduceEq, Int.reduceAdd, Int.reduceSub, Int.reduceMul, Nat.reduceAdd, Nat.reduceSub, Nat.reduceMul, Nat.reduceEqDiff, Nat.reduceBEq, Nat.reduceBneDiff, Nat.reduceLeDiff, Nat.reduceLT, reduceIte, R24, ltT hi']
| refine' gdV_sc' rfl rfl (by simp only [V0, V1, Nat.reduceEqDiff, reduceIte]) (fun hq => ?_) (fun f => ?_) <;> try (have hq' := hq; try simp only [HB] at hq')
| refine' gdD_sc' rfl rfl (by simp only [V0, V1, Nat.reduceEqDiff, reduceIte]) (fun hq => ?_) (fun f => ?_) <;> try (have hq' := hq; try simp only [HB] at hq')
| refine gdV_intro (fun h => ?_) (fun h => ?_) <;> (have h' := h; try simp only [HB] at h'; try rewrite [h]; try simp only [h])
| refine condJ_intro (fun h => ?_) (fun h => ?_) <;> (have h' := h; try simp only [HB] at h'; try rewrite [h]; try simp only [h])
| refine pickE_intro (fun h => ?_) (fun h => ?_) <;> (have h' := h; try simp only [HB] at h'; try rewrite [h]; try simp only [h])
| refine gdD_intro (fun h => ?_) (fun h => ?_) <;> (have h' := h; try simp only [HB] at h'; try rewrite [h]; try simp only [h])
| refine callL_of (Name8_is _) ?_
| refine ct_I ?_
| refine callG_I ?_ ?_
| refine callG_Iv ?_ ?_
| refine drJ_I (by simp only [R24]; rfl) ?_
| refine ret_I (R := isR _) ?_
| refine nxt_I (fun hr => ?_) (fun q hq => ?_)
| refine isnil_I (fun hnil b => ?_) (fun hnil => ?_)
| (refine And.intro ?_ ?_; focus omega))
    · refine congrArg (I.int .i64) ?_
      have : t.unit.any (fun f => !refName f.name) = true := by
        rw [List.any_eq_true]
        exact ⟨_, getD_mem hi', by assumption⟩
      rw [if_pos this]
    · exact all_take hinv hi' (by simpa using ‹_›)
  · have e : i = t.unit.length := by omega
    subst e
    rw [List.take_length] at hinv
    (repeat' first
| exact hole _
| simp (maxSteps := 9999999) (disch := omega) only [go_sem, reduceCtorEq, Int.reduceToNat, Int.reduceNeg, Int.reduceLT, Int.reduceLE, Int.reduceEq, Int.reduceAdd, Int.reduceSub, Int.reduceMul, Nat.reduceAdd, Nat.reduceSub, Nat.reduceMul, Nat.reduceEqDiff, Nat.reduceBEq, Nat.reduceBneDiff, Nat.reduceLeDiff, Nat.reduceLT, reduceIte, R24, ltF hi']
| refine' gdV_sc' rfl rfl (by simp only [V0, V1, Nat.reduceEqDiff, reduceIte]) (fun hq => ?_) (fun f => ?_) <;> try (have hq' := hq; try simp only [HB] at hq')
| refine' gdD_sc' rfl rfl (by simp only [V0, V1, Nat.reduceEqDiff, reduceIte]) (fun hq => ?_) (fun f => ?_) <;> try (have hq' := hq; try simp only [HB] at hq')
| refine gdV_intro (fun h => ?_) (fun h => ?_) <;> (have h' := h; try simp only [HB] at h'; try rewrite [h]; try simp only [h])
| refine condJ_intro (fun h => ?_) (fun h => ?_) <;> (have h' := h; try simp only [HB] at h'; try rewrite [h]; try simp only [h])
| refine pickE_intro (fun h => ?_) (fun h => ?_) <;> (have h' := h; try simp only [HB] at h'; try rewrite [h]; try simp only [h])
| refine gdD_intro (fun h => ?_) (fun h => ?_) <;> (have h' := h; try simp only [HB] at h'; try rewrite [h]; try simp only [h])
| refine callL_of (Name8_is _) ?_
| refine ct_I ?_
| refine callG_I ?_ ?_
| refine callG_Iv ?_ ?_
| refine drJ_I (by simp only [R24]; rfl) ?_
| refine ret_I (R := isR _) ?_
| refine nxt_I (fun hr => ?_) (fun q hq => ?_)
| refine isnil_I (fun hnil b => ?_) (fun hnil => ?_)
| (refine And.intro ?_ ?_; focus omega))
    refine congrArg (I.int .i64) ?_
    rw [if_neg]
    rw [List.all_eq_true] at hinv
    simp only [List.any_eq_true, not_exists, not_and]
    intro x hx; simp [hinv x hx]
theorem any_take {α : Type} [Inhabited α] (p : α → Bool) (l : List α) (i : Nat) (hi : i < l.length) : (l.take (i + 1)).any p = ((l.take i).any p || p (l.getD i default)) := by
  rw [List.take_succ_eq_append_getElem hi, List.any_append, getD_lt hi]; simp
theorem Table10_is (t : Tbl) (ht : ∀ x ∈ t.fields, bTyp x.typ ≤ 1073741824) (hl : t.fields.length ≤ 1073741824) : Is mx 26 [.agg (eTbl t)] (iI (tableR t)) := by
  refine MC_of_J Tryz.func26 (by kernel_rfl) Tryz.ntmps26 rfl rfl comp26 rv26 rfl c26.eq_1 ?_
  (repeat' first
| exact hole _
| simp (maxSteps := 9999999) (disch := omega) only [go_sem, reduceCtorEq, Int.reduceToNat, Int.reduceNeg, Int.reduceLT, Int.reduceLE, Int.reduceEq, Int.reduceAdd, Int.reduceSub, Int.reduceMul, Nat.reduceAdd, Nat.reduceSub, Nat.reduceMul, Nat.reduceEqDiff, Nat.reduceBEq, Nat.reduceBneDiff, Nat.reduceLeDiff, Nat.reduceLT, reduceIte, R26]
| refine' gdV_sc' rfl rfl (by simp only [V0, V1, Nat.reduceEqDiff, reduceIte]) (fun hq => ?_) (fun f => ?_) <;> try (have hq' := hq; try simp only [HB] at hq')
| refine' gdD_sc' rfl rfl (by simp only [V0, V1, Nat.reduceEqDiff, reduceIte]) (fun hq => ?_) (fun f => ?_) <;> try (have hq' := hq; try simp only [HB] at hq')
| refine gdV_intro (fun h => ?_) (fun h => ?_) <;> (have h' := h; try simp only [HB] at h'; try rewrite [h]; try simp only [h])
| refine condJ_intro (fun h => ?_) (fun h => ?_) <;> (have h' := h; try simp only [HB] at h'; try rewrite [h]; try simp only [h])
| refine pickE_intro (fun h => ?_) (fun h => ?_) <;> (have h' := h; try simp only [HB] at h'; try rewrite [h]; try simp only [h])
| refine gdD_intro (fun h => ?_) (fun h => ?_) <;> (have h' := h; try simp only [HB] at h'; try rewrite [h]; try simp only [h])
| refine callL_of (Name8_is _) ?_
| refine ct_I ?_
| refine callG_I ?_ ?_
| refine callG_Iv ?_ ?_
| refine drJ_I (by simp only [R26]; rfl) ?_
| refine ret_I (R := isR _) ?_
| refine nxt_I (fun hr => ?_) (fun q hq => ?_)
| refine isnil_I (fun hnil b => ?_) (fun hnil => ?_)
| (refine And.intro ?_ ?_; focus omega))
  · refine congrArg (I.int .i64) ?_; simp only [tableR]; grind
  · refine congrArg (I.int .i64) ?_; simp only [tableR]; grind
  have hT : tableR t = fieldsR [] t.fields := by simp only [tableR]; grind
  rw [hT]
  refine loopS (L26_1.eq_1 0) [1] (by simp only [V0, V1, V2, V25, reduceIte, Nat.reduceEqDiff]; rfl) (fun i => [(3, .i (iI i))]) (fun _ => []) (fun i => fieldsR (t.fields.take i) (t.fields.drop i) = fieldsR [] t.fields) t.fields.length 0 (by omega) (by simp) (by simp [V0, V1, V2, V11, V8, V15, Ref.nm]) ?_
  intro i hi hinv
  by_cases hi' : i < t.fields.length
  · have hmem := getD_mem hi'
    rw [List.drop_eq_getElem_cons hi', ← getD_lt hi'] at hinv
    simp only [fieldsR] at hinv
    have htk : t.fields.take (i + 1) = t.fields.take i ++ [t.fields.getD i default] := by rw [List.take_succ_eq_append_getElem hi', getD_lt hi']
    (repeat' first
| exact hole _
| simp (maxSteps := 9999999) (disch := omega) only [go_sem, reduceCtorEq, Int.reduceToNat, Int.reduceNeg, Int.reduceLT, Int.reduceLE, Int.reduceEq, Int.reduceAdd, Int.reduceSub, Int.reduceMul, Nat.reduceAdd, Nat.reduceSub, Nat.reduceMul, Nat.reduceEqDiff, Nat.reduceBEq, Nat.reduceBneDiff, Nat.reduceLeDiff, Nat.reduceLT, reduceIte, R26, ltT hi']
| refine' gdV_sc' rfl rfl (by simp only [V0, V1, Nat.reduceEqDiff, reduceIte]) (fun hq => ?_) (fun f => ?_) <;> try (have hq' := hq; try simp only [HB] at hq')
| refine' gdD_sc' rfl rfl (by simp only [V0, V1, Nat.reduceEqDiff, reduceIte]) (fun hq => ?_) (fun f => ?_) <;> try (have hq' := hq; try simp only [HB] at hq')
| refine gdV_intro (fun h => ?_) (fun h => ?_) <;> (have h' := h; try simp only [HB] at h'; try rewrite [h]; try simp only [h])
| refine condJ_intro (fun h => ?_) (fun h => ?_) <;> (have h' := h; try simp only [HB] at h'; try rewrite [h]; try simp only [h])
| refine pickE_intro (fun h => ?_) (fun h => ?_) <;> (have h' := h; try simp only [HB] at h'; try rewrite [h]; try simp only [h])
| refine gdD_intro (fun h => ?_) (fun h => ?_) <;> (have h' := h; try simp only [HB] at h'; try rewrite [h]; try simp only [h])
| refine callL_of (Name8_is _) ?_
| refine ct_I ?_
| refine callG_I ?_ ?_
| refine callG_Iv ?_ ?_
| refine drJ_I (by simp only [R26]; rfl) ?_
| refine ret_I (R := isR _) ?_
| refine nxt_I (fun hr => ?_) (fun q hq => ?_)
| refine isnil_I (fun hnil b => ?_) (fun hnil => ?_)
| (refine And.intro ?_ ?_; focus omega))
    · refine congrArg (I.int .i64) ?_; grind
    have hinv2 : (if ((t.fields.take i).any fun g => decide (g.name = (t.fields.getD i default).name)) = true then 121 else if typeR (t.fields.getD i default).typ ≠ 0 then typeR (t.fields.getD i default).typ else fieldsR (t.fields.take i ++ [t.fields.getD i default]) (t.fields.drop (i + 1))) = fieldsR [] t.fields := by grind
    refine loopS (L26_0.eq_1 0) [1, 3] (by simp only [V0, V1, V2, V25, reduceIte, Nat.reduceEqDiff]; rfl) (fun k => [(4, .i (iI k))]) (fun _ => []) (fun k => ((t.fields.take k).any fun g => decide (g.name = (t.fields.getD i default).name)) = false) i 0 (by omega) (by simp) (by simp [V0, V1, V2, V11, V8, V15, Ref.nm]) ?_
    intro k hk hinv3
    by_cases hk' : k < i
    · have hkl : k < t.fields.length := by omega
      have hsub : ((t.fields.getD k default).name = (t.fields.getD i default).name) → ((t.fields.take i).any fun g => decide (g.name = (t.fields.getD i default).name)) = true := fun e => by
        rw [List.any_eq_true]
        refine ⟨t.fields.getD k default, ?_, by simpa using e⟩
        rw [getD_lt hkl]
        exact List.mem_take_iff_getElem.2 ⟨k, by omega, rfl⟩
      (repeat' first
| exact hole _
| simp (maxSteps := 9999999) (disch := omega) only [go_sem, reduceCtorEq, Int.reduceToNat, Int.reduceNeg, Int.reduceLT, Int.reduceLE, Int.reduceEq, Int.reduceAdd, Int.reduceSub, Int.reduceMul, Nat.reduceAdd, Nat.reduceSub, Nat.reduceMul, Nat.reduceEqDiff, Nat.reduceBEq, Nat.reduceBneDiff, Nat.reduceLeDiff, Nat.reduceLT, reduceIte, R26, ltT hk', ltT hkl, ltT hi']
| refine' gdV_sc' rfl rfl (by simp only [V0, V1, Nat.reduceEqDiff, reduceIte]) (fun hq => ?_) (fun f => ?_) <;> try (have hq' := hq; try simp only [HB] at hq')
| refine' gdD_sc' rfl rfl (by simp only [V0, V1, Nat.reduceEqDiff, reduceIte]) (fun hq => ?_) (fun f => ?_) <;> try (have hq' := hq; try simp only [HB] at hq')
| refine gdV_intro (fun h => ?_) (fun h => ?_) <;> (have h' := h; try simp only [HB] at h'; try rewrite [h]; try simp only [h])
| refine condJ_intro (fun h => ?_) (fun h => ?_) <;> (have h' := h; try simp only [HB] at h'; try rewrite [h]; try simp only [h])
| refine pickE_intro (fun h => ?_) (fun h => ?_) <;> (have h' := h; try simp only [HB] at h'; try rewrite [h]; try simp only [h])
| refine gdD_intro (fun h => ?_) (fun h => ?_) <;> (have h' := h; try simp only [HB] at h'; try rewrite [h]; try simp only [h])
| refine callL_of (Name8_is _) ?_
| refine ct_I ?_
| refine callG_I ?_ ?_
| refine callG_Iv ?_ ?_
| refine drJ_I (by simp only [R26]; rfl) ?_
| refine ret_I (R := isR _) ?_
| refine nxt_I (fun hr => ?_) (fun q hq => ?_)
| refine isnil_I (fun hnil b => ?_) (fun hnil => ?_)
| (refine And.intro ?_ ?_; focus omega))
      · rw [if_pos (hsub h')] at hinv2; rw [hinv2]
      · rw [any_take _ _ _ hkl, hinv3]; exact h
    · have e : k = i := by omega
      subst e
      rw [if_neg (by rw [hinv3]; simp)] at hinv2
      have hty := Type10_is (mx := mx) (t.fields.getD k default).typ (by have := bTyp_unit (t.fields.getD k default).typ; have := ht _ hmem; omega) (fun x hx => by have h1 := ht _ hmem; have h2 := bSum_mem (b := bFac) hx; have h3 : bFac x = x.name.length + 1 := rfl; have h4 : bTyp (t.fields.getD k default).typ = bSum bFac (t.fields.getD k default).typ.unit + (t.fields.getD k default).typ.of.length + 1 := rfl; omega)
      (repeat' first
| exact hole _
| simp (maxSteps := 9999999) (disch := omega) only [go_sem, reduceCtorEq, Int.reduceToNat, Int.reduceNeg, Int.reduceLT, Int.reduceLE, Int.reduceEq, Int.reduceAdd, Int.reduceSub, Int.reduceMul, Nat.reduceAdd, Nat.reduceSub, Nat.reduceMul, Nat.reduceEqDiff, Nat.reduceBEq, Nat.reduceBneDiff, Nat.reduceLeDiff, Nat.reduceLT, reduceIte, R26, ltF hk', ltT hi']
| refine' gdV_sc' rfl rfl (by simp only [V0, V1, Nat.reduceEqDiff, reduceIte]) (fun hq => ?_) (fun f => ?_) <;> try (have hq' := hq; try simp only [HB] at hq')
| refine' gdD_sc' rfl rfl (by simp only [V0, V1, Nat.reduceEqDiff, reduceIte]) (fun hq => ?_) (fun f => ?_) <;> try (have hq' := hq; try simp only [HB] at hq')
| refine gdV_intro (fun h => ?_) (fun h => ?_) <;> (have h' := h; try simp only [HB] at h'; try rewrite [h]; try simp only [h])
| refine condJ_intro (fun h => ?_) (fun h => ?_) <;> (have h' := h; try simp only [HB] at h'; try rewrite [h]; try simp only [h])
| refine pickE_intro (fun h => ?_) (fun h => ?_) <;> (have h' := h; try simp only [HB] at h'; try rewrite [h]; try simp only [h])
| refine gdD_intro (fun h => ?_) (fun h => ?_) <;> (have h' := h; try simp only [HB] at h'; try rewrite [h]; try simp only [h])
| refine callL_of (Name8_is _) ?_
| refine callL_of (hty) ?_
| refine ct_I ?_
| refine callG_I ?_ ?_
| refine callG_Iv ?_ ?_
| refine drJ_I (by simp only [R26]; rfl) ?_
| refine ret_I (R := isR _) ?_
| refine nxt_I (fun hr => ?_) (fun q hq => ?_)
| refine isnil_I (fun hnil b => ?_) (fun hnil => ?_)
| (refine And.intro ?_ ?_; focus omega))
      · rw [if_pos h'] at hinv2; rw [hinv2]
      · rw [htk]; rw [if_neg (not_not_intro h')] at hinv2; exact hinv2
  · have e : i = t.fields.length := by omega
    subst e
    rw [List.drop_length] at hinv
    (repeat' first
| exact hole _
| simp (maxSteps := 9999999) (disch := omega) only [go_sem, reduceCtorEq, Int.reduceToNat, Int.reduceNeg, Int.reduceLT, Int.reduceLE, Int.reduceEq, Int.reduceAdd, Int.reduceSub, Int.reduceMul, Nat.reduceAdd, Nat.reduceSub, Nat.reduceMul, Nat.reduceEqDiff, Nat.reduceBEq, Nat.reduceBneDiff, Nat.reduceLeDiff, Nat.reduceLT, reduceIte, R26, ltF hi']
| refine' gdV_sc' rfl rfl (by simp only [V0, V1, Nat.reduceEqDiff, reduceIte]) (fun hq => ?_) (fun f => ?_) <;> try (have hq' := hq; try simp only [HB] at hq')
| refine' gdD_sc' rfl rfl (by simp only [V0, V1, Nat.reduceEqDiff, reduceIte]) (fun hq => ?_) (fun f => ?_) <;> try (have hq' := hq; try simp only [HB] at hq')
| refine gdV_intro (fun h => ?_) (fun h => ?_) <;> (have h' := h; try simp only [HB] at h'; try rewrite [h]; try simp only [h])
| refine condJ_intro (fun h => ?_) (fun h => ?_) <;> (have h' := h; try simp only [HB] at h'; try rewrite [h]; try simp only [h])
| refine pickE_intro (fun h => ?_) (fun h => ?_) <;> (have h' := h; try simp only [HB] at h'; try rewrite [h]; try simp only [h])
| refine gdD_intro (fun h => ?_) (fun h => ?_) <;> (have h' := h; try simp only [HB] at h'; try rewrite [h]; try simp only [h])
| refine callL_of (Name8_is _) ?_
| refine ct_I ?_
| refine callG_I ?_ ?_
| refine callG_Iv ?_ ?_
| refine drJ_I (by simp only [R26]; rfl) ?_
| refine ret_I (R := isR _) ?_
| refine nxt_I (fun hr => ?_) (fun q hq => ?_)
| refine isnil_I (fun hnil b => ?_) (fun hnil => ?_)
| (refine And.intro ?_ ?_; focus omega))
    rw [← hinv]; rfl

end Go.Proofs.YtihbaggjjglcbaaGreatDoor
end

section
set_option maxRecDepth 100000
set_option maxHeartbeats 8000000
set_option linter.unusedVariables false
set_option linter.unusedSimpArgs false
namespace Go.Proofs.YtihbaggjjglcbaaGreatDoor
open Go Go.Dl Go.As Go.RowKit Go.ChangeShapes Go.WideShapes
/-! The package's variables; a world that holds them; bulk. -/
theorem argI_S {P : Program} {t : TypeId} {cs : List I} {fs : Array Field} (h : P.underlying t = some (.struct fs)) : argI P t cs = .agg cs := by unfold argI; rw [h]
theorem argI_1 {P : Program} {t : TypeId} {x : I} (h : ∀ fs, P.underlying t ≠ some (.struct fs)) : argI P t [x] = x := by
  unfold argI
  split
  · rename_i fs e; exact absurd e (h fs)
  · rfl
theorem own : ownKnob Tryz.prog.godebug = none := by kernel_rfl
theorem laidOutP : laidOutB Tryz.prog = true := by kernel_rfl
def plainL : List TypeId := [3, 9, 4, 22, 23, 25, 27, 28, 30, 31, 33, 36, 52, 58, 62, 84, 64, 96]
theorem plainLok : plainT Tryz.prog plainL = true := by kernel_rfl
def laidL : List (String × DataW Unit) := [("asof/checker.aggregates", Rows.laid_asof_checker_aggregates), ("asof/checker.unary", Rows.laid_asof_checker_unary), ("asof/checker.binary", Rows.laid_asof_checker_binary)]
theorem glob_var {P : Program} {l : List TypeId} (hpl : plainT P l = true) {W : World} {nm : String} {g : Nat} {t : TypeId} {cs : Array Value} {fuel : Nat} {d : DataW Unit} {p : List MemPlace} {is : List I} (hg : P.globalNamed nm = some g) (hv : W.var? P nm = some cs) (ht : l.contains t = true)
    (hd : DataW.trod (fun _ => ()) P W 0 (fun _ => true) false fuel t cs.toList = some (d, p)) (he : flatD d = is) : Rep (fullM W) (.elt is 0) (.pointer (some ⟨g, 0, none⟩)) := by
  have hR := trod_flat hpl fuel t _ _ ht hd
  rw [he] at hR
  have := Rep.elt (M := fullM W) is 0 g 0 (fun j => cs.toList.getD j Go.undef) (fun j hj => by
    have hj' : j < cs.toList.length := by rw [hR.1]; exact hj
    show W.cell? ⟨g, 0 + j, none⟩ = _
    rw [Nat.zero_add, World.var?_cell hg hv j]
    simp only [List.getD, List.getElem?_eq_getElem hj', Option.getD_some]
    simp at hj'
    simp [hj']) (fun j hj => by
    have hj' : j < cs.toList.length := by rw [hR.1]; exact hj
    simp only [List.getD, List.getElem?_eq_getElem hj', Option.getD_some]
    exact hR.2 j hj hj')
  simpa using this
theorem int_of_shape {P : Program} {w : World} {g : Nat} {t : TypeId} {k : IntKind} {zero : Array Value} (h : w.ShapedOpen P) (hg : g < P.globals.size)
    (h0 : ((begin P (fun _ _ => 0) default).world.heap[g]?).bind Obj.row? = some (zero, t)) (hz : zero.size = 1)
    (hb : P.buildable t = true) (hc : P.cellTypes P.depth t = some [t]) (hu : P.underlying t = some (.int k)) : ∃ n, w.cell? ⟨g, 0, none⟩ = some (.int k n) := by
  obtain ⟨cs, hh, hs, hr⟩ := h.1 g zero t hg h0
  obtain ⟨ts, hts, _, hall⟩ := hr hb
  rw [hc] at hts
  cases hts
  have h1 : 0 < cs.size := by omega
  obtain ⟨u, hu', hok⟩ := hall 0 cs[0] (by simp [h1])
  have : u = t := by simpa using hu'.symm
  subst this
  have hcell : w.cell? ⟨g, 0, none⟩ = some cs[0] := by simp [World.cell?, hh, h1]
  rw [hcell]
  unfold Cell.ok at hok
  rw [hu] at hok
  cases hv : cs[0] <;> rw [hv] at hok <;> simp at hok
  obtain ⟨rfl, _⟩ := hok
  exact ⟨_, rfl⟩
theorem glob_ok {W : World} (hL : laidMetH Tryz.prog laidL W) (hS : W.ShapedOpen Tryz.prog) : ∃ mx, GlobOk (GLm mx) (fullM W) := by
  obtain ⟨mx, hm⟩ := int_of_shape (k := .i64) (t := 3) (g := 5) (zero := #[.int .i64 0]) hS (of_decide_eq_true (by kernel_rfl)) (by kernel_rfl) rfl (by kernel_rfl) (by kernel_rfl) (by kernel_rfl)
  have h : laidMet Tryz.prog laidL W := hL
  obtain ⟨ps, hv, _⟩ := h
  obtain ⟨g0, t0, cs0, f0, p0, q0, a1, a2, a3, a4, hv, _⟩ := hv
  obtain ⟨g1, t1, cs1, f1, p1, q1, b1, b2, b3, b4, hv, _⟩ := hv
  obtain ⟨g2, t2, cs2, f2, p2, q2, c1, c2, c3, c4, hv, _⟩ := hv
  obtain rfl : 0 = g0 := Option.some.inj ((show Tryz.prog.globalNamed "asof/checker.aggregates" = some 0 by kernel_rfl).symm.trans a1)
  obtain rfl : 1 = g1 := Option.some.inj ((show Tryz.prog.globalNamed "asof/checker.unary" = some 1 by kernel_rfl).symm.trans b1)
  obtain rfl : 2 = g2 := Option.some.inj ((show Tryz.prog.globalNamed "asof/checker.binary" = some 2 by kernel_rfl).symm.trans c1)
  obtain rfl : 96 = t0 := Option.some.inj ((show (Tryz.prog.globals[0]?).map (·.type) = some 96 by kernel_rfl).symm.trans a2)
  obtain rfl : 96 = t1 := Option.some.inj ((show (Tryz.prog.globals[1]?).map (·.type) = some 96 by kernel_rfl).symm.trans b2)
  obtain rfl : 96 = t2 := Option.some.inj ((show (Tryz.prog.globals[2]?).map (·.type) = some 96 by kernel_rfl).symm.trans c2)
  have k0 := glob_var plainLok (is := [.sl (names0.map fun s => [.str s])]) a1 a3 (by decide) a4 (by rfl)
  have k1 := glob_var plainLok (is := [.sl (names1.map fun s => [.str s])]) b1 b3 (by decide) b4 (by rfl)
  have k2 := glob_var plainLok (is := [.sl (names2.map fun s => [.str s])]) c1 c3 (by decide) c4 (by rfl)
  refine ⟨mx, fun g cs hg => ?_⟩
  simp only [GLm, List.mem_cons, List.not_mem_nil, or_false, Prod.mk.injEq] at hg
  rcases hg with ⟨rfl, rfl⟩ | ⟨rfl, rfl⟩ | ⟨rfl, rfl⟩ | ⟨rfl, rfl⟩
  · have := Rep.elt (M := fullM W) [.int .i64 mx] 0 5 0 (fun _ => .int .i64 mx) (fun j hj => by
      obtain rfl : j = 0 := by simpa using hj
      exact hm) (fun j hj => by
      obtain rfl : j = 0 := by simpa using hj
      exact .int _ _)
    exact this
  · exact k0
  · exact k1
  · exact k2
mutual
theorem bulk_eq {H : Type} : ∀ d : DataW H, Rows.uptoBulk d = bulkD d
  | .lit l => by cases l <;> rfl
  | .nil => rfl
  | .ptr d => by simp only [Rows.uptoBulk, bulkD, bulk_eq d]
  | .slice e s => by simp only [Rows.uptoBulk, bulkD, bulks_eq e, bulks_eq s]
  | .agg p => by simp only [Rows.uptoBulk, bulkD, bulks_eq p]
  | .iface _ d => by simp only [Rows.uptoBulk, bulkD, bulk_eq d]
  | .map es => by simp only [Rows.uptoBulk, bulkD, bulkes_eq es]
  | .held _ => rfl
theorem bulks_eq {H : Type} : ∀ l : List (DataW H), Rows.uptoBulkAll l = bulkL l
  | [] => rfl
  | d :: r => by simp only [Rows.uptoBulkAll, bulkL, bulk_eq d, bulks_eq r]
theorem bulkes_eq {H : Type} : ∀ l : List (Lit × DataW H), Rows.uptoBulkEntries l = bulkE l
  | [] => rfl
  | (k, d) :: r => by cases k <;> simp only [Rows.uptoBulkEntries, Rows.uptoBulkEntry, bulkE, bulk1, bulk_eq d, bulkes_eq r]
end
noncomputable def strCells (l : List (List UInt8)) : Array Value := (l.map fun s => Value.string ⟨s.toArray⟩).toArray
/-- The settled world, with the lists behind it. -/
noncomputable def laidWorld (os : Os) : World :=
  let N := (World.settled Tryz.prog os).heap.size
  let w0 := World.holding Tryz.prog os ⟨#[.cells (strCells names0) 9, .cells (strCells names1) 9, .cells (strCells names2) 9], #[], []⟩
  let put (h : Array Obj) (g : Nat) (cs : Array Value) : Array Obj := h.modify g fun
    | .cells _ t frozen => .cells cs t frozen
    | o => o
  let h0 := put w0.heap 0 #[.slice (some ⟨N, 0, none⟩) 10 10]
  let h1 := put h0 1 #[.slice (some ⟨N + 1, 0, none⟩) 3 3]
  let h2 := put h1 2 #[.slice (some ⟨N + 2, 0, none⟩) 10 10]
  { w0 with heap := h2 }
noncomputable abbrev N0 : Nat := (World.settled Tryz.prog default).heap.size
theorem laid_met (os : Os) (args : Array Value) : laidMet Tryz.prog laidL ((laidWorld os).forCall (fun _ _ => 0) ⟨#[], args, []⟩).memory :=
  (LaidIn.of_run (l := laidL) [0, 1, 2, N0, N0 + 1, N0 + 2] 8 (by kernel_rfl) (by kernel_rfl) (by kernel_rfl) (by kernel_rfl)).met
end Go.Proofs.YtihbaggjjglcbaaGreatDoor
end
