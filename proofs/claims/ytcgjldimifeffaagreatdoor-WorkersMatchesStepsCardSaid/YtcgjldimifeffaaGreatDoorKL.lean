/- A part of the proofs of WorkersExclude and WorkersMatchesSteps: E89 E95 E90 E91. -/
import Derived.Test.YtcgjldimifeffaaGreatDoorKA
import Derived.Test.YtcgjldimifeffaaGreatDoorKD
import Derived.Test.YtcgjldimifeffaaGreatDoorKX
set_option linter.all false
set_option maxRecDepth 100000
set_option maxHeartbeats 8000000
namespace Go.Proofs.YtcgjldimifeffaaGreatDoor
open Go Go.Dl Go.As Go.Proofs
variable {mx : Int}
attribute [local irreducible] callG callL MC W2 evT ev evD step stepD
/-! The specification's hash, range, lists of leases; in plain. -/
def grpS (s : List UInt8) (a k : Nat) : W64 := BitVec.ofNat 64 (grpN ((s.drop (a + k)).take (8 - k)))
theorem grpS_8 (s : List UInt8) (a : Nat) : grpS s a 8 = 0#64 := by simp [grpS]
theorem grpS_lt {s : List UInt8} {a k : Nat} (hk : k < 8) (h : a + k < s.length) : grpS s a k = grpS s a (k + 1) * 256#64 + BitVec.ofNat 64 (s.getD (a + k) default).toNat := by
  have e1 : s.drop (a + k) = s.getD (a + k) default :: s.drop (a + (k + 1)) := drop_c h
  have e2 : 8 - k = (8 - (k + 1)) + 1 := by omega
  unfold grpS
  rw [e1, e2, List.take_succ_cons]
  simp only [grpN]
  rw [BitVec.ofNat_add, BitVec.ofNat_mul]
theorem grpS_ge {s : List UInt8} {a k : Nat} (h : ¬ a + k < s.length) : grpS s a k = grpS s a (k + 1) * 256#64 := by
  have e1 : s.drop (a + k) = [] := List.drop_of_length_le (by omega)
  have e2 : s.drop (a + (k + 1)) = [] := List.drop_of_length_le (by omega)
  unfold grpS
  rw [e1, e2]
  simp
def refPut (x : Lea) (a : List Lea × Bool) (y : Lea) : List Lea × Bool :=
  let b := if a.2 = false ∧ x.range ≤ y.range then (a.1 ++ [x], true) else a
  (if y.range = x.range then b.1 else b.1 ++ [y], b.2)
def refSt (l : List Lea) (x : Lea) (i : Nat) : List Lea × Bool := (l.take i).foldl (refPut x) ([], false)
def refEnd (x : Lea) (a : List Lea × Bool) : List Lea := if a.2 = true then a.1 else a.1 ++ [x]
theorem refSt_succ {l : List Lea} {x : Lea} {i : Nat} (h : i < l.length) : refSt l x (i + 1) = refPut x (refSt l x i) (l.getD i default) := by
  unfold refSt; rw [List.take_succ_eq_append_getElem h, List.foldl_append, getD_lt h]; rfl
theorem refSt_len {l : List Lea} {x : Lea} : ∀ i, i ≤ l.length → (refSt l x i).1.length ≤ 2 * i
  | 0, _ => by simp [refSt]
  | i + 1, h => by
    have := refSt_len (l := l) (x := x) i (by omega)
    rw [refSt_succ (by omega)]
    unfold refPut
    by_cases hc : (refSt l x i).2 = false ∧ x.range ≤ (l.getD i default).range
    · simp only [if_pos hc]; split <;> simp <;> omega
    · simp only [if_neg hc]; split <;> simp <;> omega
theorem SrtR.tail {y : Lea} {r : List Lea} (h : SrtR (y :: r)) : SrtR r := fun i j h1 h2 => by
  have := h (i + 1) (j + 1) (by omega) (by simpa using h2)
  simpa using this
theorem SrtR.head {y : Lea} {r : List Lea} (h : SrtR (y :: r)) : ∀ z ∈ r, y.range < z.range := fun z hz => by
  obtain ⟨i, hi, rfl⟩ := List.getElem_of_mem hz
  have := h 0 (i + 1) (by omega) (by simpa using hi)
  rw [← getD_lt hi]
  simpa using this
theorem fold_put (x : Lea) : ∀ (l : List Lea) (acc : List Lea), (∀ z ∈ l, x.range < z.range) → l.foldl (refPut x) (acc, true) = (acc ++ l, true)
  | [], acc, _ => by simp
  | z :: l, acc, h => by
    have hz := h z (by simp)
    have e : refPut x (acc, true) z = (acc ++ [z], true) := by
      unfold refPut
      simp only [Bool.true_eq_false, false_and, if_false]
      rw [if_neg (by omega)]
    rw [List.foldl_cons, e, fold_put x l _ (fun w hw => h w (by simp [hw]))]
    simp
theorem lbR_lt {y x : Lea} {r : List Lea} (h : y.range < x.range) : lbR (y :: r) x.range = lbR r x.range + 1 := by
  unfold lbR; simp [List.takeWhile_cons, h]
theorem lbR_ge {y x : Lea} {r : List Lea} (h : ¬ y.range < x.range) : lbR (y :: r) x.range = 0 := by
  unfold lbR; simp [List.takeWhile_cons, h]
theorem fold_adopt (x : Lea) : ∀ (l : List Lea) (acc : List Lea), SrtR l → refEnd x (l.foldl (refPut x) (acc, false)) = acc ++ adoptL l x
  | [], acc, _ => by simp [refEnd, adoptL, hasR, lbR, insAt]
  | y :: r, acc, hs => by
    rw [List.foldl_cons]
    rcases Int.lt_trichotomy y.range x.range with h | h | h
    · have e : refPut x (acc, false) y = (acc ++ [y], false) := by
        unfold refPut
        rw [if_neg (by rintro ⟨_, h2⟩; omega)]
        simp only
        rw [if_neg (by omega)]
      have e2 : adoptL (y :: r) x = y :: adoptL r x := by
        have e3 : hasR (y :: r) x.range = hasR r x.range := by unfold hasR; rw [lbR_lt h]; simp
        unfold adoptL
        rw [e3, lbR_lt h]
        split
        · simp
        · simp [insAt]
      rw [e, fold_adopt x r _ hs.tail, e2]
      simp
    · have e : refPut x (acc, false) y = (acc ++ [x], true) := by
        unfold refPut
        rw [if_pos ⟨rfl, by omega⟩]
        simp only
        rw [if_pos h]
      have e2 : adoptL (y :: r) x = x :: r := by
        have e3 : hasR (y :: r) x.range = true := by unfold hasR; rw [lbR_ge (by omega)]; simp [h]
        unfold adoptL
        rw [e3, lbR_ge (by omega)]
        simp
      rw [e, fold_put x r _ (fun z hz => by have := hs.head z hz; omega), e2]
      simp [refEnd]
    · have e : refPut x (acc, false) y = (acc ++ [x] ++ [y], true) := by
        unfold refPut
        rw [if_pos ⟨rfl, by omega⟩]
        simp only
        rw [if_neg (by omega)]
      have e2 : adoptL (y :: r) x = x :: y :: r := by
        have e3 : hasR (y :: r) x.range = false := by unfold hasR; rw [lbR_ge (by omega)]; simp; omega
        unfold adoptL
        rw [e3, lbR_ge (by omega)]
        simp [insAt]
      rw [e, fold_put x r _ (fun z hz => by have := hs.head z hz; omega), e2]
      simp [refEnd]
theorem refAdopt_eq {l : List Lea} {x : Lea} (hs : SrtR l) : refEnd x (refSt l x l.length) = adoptL l x := by
  unfold refSt; rw [List.take_length, fold_adopt x l [] hs]; rfl
def srtB (l : List Lea) : Nat → Bool
  | 0 => true
  | i + 1 => srtB l i && (decide (i = 0) || decide ((l.getD (i - 1) default).range < (l.getD i default).range))
theorem srtB_R {l : List Lea} (h : srtB l l.length = true) : SrtR l := by
  have key : ∀ n, n ≤ l.length → srtB l n = true → ∀ i j, i < j → j < n → (l.getD i default).range < (l.getD j default).range := by
    intro n
    induction n with
    | zero => intro _ _ i j _ h2; omega
    | succ n ih =>
      intro hn hb i j h1 h2
      simp only [srtB, Bool.and_eq_true, Bool.or_eq_true, decide_eq_true_eq] at hb
      have ih := ih (by omega) hb.1
      rcases Nat.lt_or_ge j n with h3 | h3
      · exact ih i j h1 h3
      · obtain rfl : j = n := by omega
        have h4 : (l.getD (j - 1) default).range < (l.getD j default).range := by
          rcases hb.2 with h | h
          · omega
          · exact h
        rcases Nat.lt_or_ge i (j - 1) with h5 | h5
        · have := ih i (j - 1) h5 (by omega); omega
        · obtain rfl : i = j - 1 := by omega
          exact h4
  exact fun i j h1 h2 => key l.length (Nat.le_refl _) h i j h1 h2
theorem srtB_no {l : List Lea} {i : Nat} (h0 : 0 < i) (h : ¬ (l.getD (i - 1) default).range < (l.getD i default).range) : ∀ n, i < n → srtB l n = false
  | 0, hn => by omega
  | n + 1, hn => by
    simp only [srtB]
    rcases Nat.lt_or_ge i n with h1 | h1
    · rw [srtB_no h0 h n h1]; rfl
    · obtain rfl : i = n := by omega
      rw [decide_eq_false (show ¬ i = 0 by omega), decide_eq_false h]; simp
end Go.Proofs.YtcgjldimifeffaaGreatDoor
set_option maxRecDepth 100000
set_option maxHeartbeats 8000000
namespace Go.Proofs.YtcgjldimifeffaaGreatDoor
open Go Go.Dl Go.As Go.Proofs
variable {mx : Int}
attribute [local irreducible] callG callL MC W2 evT ev evD step stepD
/-! The specification's functions: walks. -/
theorem refOver_is (a n : Int) (h0 : 0 ≤ a) (h1 : a ≤ 2199023255552) (h2 : -2199023255552 ≤ n) : Is mx 35 [iI a, iI n] (.bool (decide (2199023255552 - a < n))) := by
  refine MX F35 ?_
  by_cases h : 2199023255552 < n
  · have e1 : decide (2199023255552 < n) = true := decide_eq_true h
    have e2 : decide (2199023255552 - a < n) = true := by simp; omega
    rw [e2]
    exact Kan e1 trivial
  · have e1 : decide (2199023255552 < n) = false := decide_eq_false h
    have e2 : decide (2199023255552 - a < n) = decide (2199023255552 < a + n) := by rw [Bool.eq_iff_iff]; simp; omega
    rw [e2]
    exact Kan e1 trivial
def clockB (now slack : Int) : Bool := decide (0 ≤ now) && decide (now ≤ 2199023255552) && decide (0 ≤ slack) && decide (slack ≤ 2199023255552)
theorem refClock_is (w : Wrk) : Is mx 12 [.agg (eWrk w)] (.bool (clockB w.now w.slack)) := by
  refine MX F12 ?_
  refine Kbn ?_
  unfold clockB
  rfl
theorem refNewE_is : Is mx 30 [] (.agg (eEng eng0)) := by
  refine MX F30 ?_
  exact Kans @eng0.eq_1 trivial
theorem refNew_is (no : Int) : Is mx 7 [iI no] (eWE (wNewR no)) := by
  have h1 := refNewE_is (mx := mx)
  refine MX F7 ?_
  refine Kan h1 (cj ?_ ?_)
  · intro h _; unfold wNewR; rw [if_pos h]; rfl
  · intro h _; unfold wNewR; rw [if_neg (by rw [h]; decide)]; rfl
theorem refAdvance_is (w : Wrk) (n m : Int) (h1 : 0 ≤ w.now) (h2 : w.now ≤ 2199023255552) (h3 : 0 ≤ w.slack) (h4 : w.slack ≤ 2199023255552) (hn : -9223372036854775808 ≤ n) (hm : -9223372036854775808 ≤ m) : Is mx 14 [.agg (eWrk w), iI n, iI m] (eWE (advR w n m)) := by
  have e0 : IntKind.i64.wrap (0 - w.slack) = -w.slack := by grind [wrap64]
  by_cases hc : (decide (n < 0) || decide (m < -w.slack)) = true
  · refine MX F14 ?_
    refine Kan (cj e0 hc) ?_
    unfold advR; rw [if_pos hc]; rfl
  · have hc' : 0 ≤ n ∧ -w.slack ≤ m := by simp at hc; omega
    have o1 := refOver_is (mx := mx) w.now n h1 h2 (by omega)
    have o2 := refOver_is (mx := mx) w.slack m h3 h4 (by omega)
    have hc : (decide (n < 0) || decide (m < -w.slack)) = false := by simpa using hc
    refine MX F14 ?_
    refine Kan (cj e0 (cj hc (cj o1 o2))) (cj ?_ ?_)
    · intro h2 _; unfold advR; rw [if_neg (by rw [hc]; decide), if_pos h2]; rfl
    · intro h2 _; unfold advR; rw [if_neg (by rw [hc]; decide), if_neg (by rw [h2]; decide)]; rfl
theorem wSave_is (w : Wrk) : Is mx 17 [.agg (eWrk w)] (.agg (eWrk ⟨w.no, w.now, w.slack, w.eng, w.leases, w.eng⟩)) := by
  refine MX F17 ?_
  exact Kbn trivial
theorem refSave_is (w : Wrk) : Is mx 18 [.agg (eWrk w)] (.agg (eWrk ⟨w.no, w.now, w.slack, w.eng, w.leases, w.eng⟩)) := by
  refine MX F18 ?_
  exact Kbn trivial
theorem wCrash_is (w : Wrk) : Is mx 19 [.agg (eWrk w)] (.agg (eWrk ⟨w.no, w.now, w.slack, w.snap, [], w.snap⟩)) := by
  refine MX F19 ?_
  exact Kbn trivial
theorem refCrash_is (w : Wrk) : Is mx 20 [.agg (eWrk w)] (.agg (eWrk ⟨w.no, w.now, w.slack, w.snap, [], w.snap⟩)) := by
  refine MX F20 ?_
  exact Kbn trivial
@[go_sem] theorem VGrp : (∀ x, binOk .mul (iW x) (.int .u64 256) = True) ∧ (∀ x, binV .mul (iW x) (.int .u64 256) = iW (x * 256#64)) ∧ (∀ x y, binOk .add (iW x) (iW y) = True) ∧ (∀ x y, binV .add (iW x) (iW y) = iW (x + y)) :=
  ⟨fun x => okW _ (by simp) x 256#64, fun x => iW_mul x 256#64, okW _ (by simp), iW_add⟩
theorem cvW (b : UInt8) : I.int .u64 (IntKind.u64.wrap (b.toNat : Int)) = iW (BitVec.ofNat 64 b.toNat) := by
  have hb : b.toNat < 256 := b.toBitVec.isLt
  rw [wrapU, Nat.mod_eq_of_lt (by omega)]
  exact eW _ (by omega)
theorem refGroup_is (s : List UInt8) (a : Nat) (hs : s.length ≤ 140737488355328) (ha : a ≤ 140737488355328) : Is mx 53 [.sl (s.map bI), iI a] (iW (grpS s a 0)) := by
  have e8 : I.int .u64 0 = iW (grpS s a 8) := by rw [grpS_8]; rfl
  refine MX F53 ?_
  refine Kan e8 ?_
  refine lS [0, 1] (fun j => [(5, .i (iW (grpS s a (8 - j)))), (6, .i (iI (7 - (j : Int))))]) (fun _ => []) (fun _ => True) 8 ?_
  intro j hj _
  by_cases h8 : j = 8
  · subst h8
    exact Kbn trivial
  · obtain ⟨k, hk, hk1, hk2, hk3⟩ : ∃ k : Nat, 7 - (j : Int) = (k : Int) ∧ 8 - j = k + 1 ∧ 8 - (j + 1) = k ∧ k < 8 := ⟨7 - j, by omega, by omega, by omega, by omega⟩
    have hk4 : (k : Int) - 1 = 7 - ((j : Int) + 1) := by omega
    have ht : ((a : Int) + (k : Int)).toNat = a + k := by omega
    have hj8 : j < 8 := by omega
    by_cases hi : a + k < s.length
    · have e1 := (grpS_lt hk3 hi).symm
      have e2 := cvW (s.getD (a + k) default)
      have e3 : decide ((a : Int) + (k : Int) < (s.length : Int)) = true := by simp; omega
      refine Kan (cj hk (cj hk1 (cj hk2 (cj hk4 (cj ht (cj e1 (cj e2 (cj e3 @bI.eq_1)))))))) ?_
      exact ⟨by omega, hj8⟩
    · have e1 := (grpS_ge (s := s) (a := a) (k := k) hi).symm
      have e3 : decide ((a : Int) + (k : Int) < (s.length : Int)) = false := by simp; omega
      refine Kan (cj hk (cj hk1 (cj hk2 (cj hk4 (cj e1 e3))))) ?_
      exact hj8
theorem refHash_is (s : List UInt8) (hs : s.length ≤ 140737488355328) : Is mx 32 [iW 0, .sl (s.map bI)] (iW (hashR s)) := by
  have e0 : I.int .u64 (IntKind.u64.wrap (IntKind.u64.wrap (s.length : Int) * 11400714819323198485)) = iW (BitVec.ofNat 64 s.length * 0x9e3779b97f4a7c15#64) := by
    have := iW_mul (BitVec.ofNat 64 s.length) 0x9e3779b97f4a7c15#64
    rw [← this]
    have e : IntKind.u64.wrap (s.length : Int) = (s.length : Int) := by rw [wrapU, Nat.mod_eq_of_lt (by omega)]
    rw [e]
    unfold iW; rw [BitVec.toNat_ofNat, Nat.mod_eq_of_lt (by omega)]; rfl
  have hz : ∀ x : W64, 0#64 ^^^ x = x := by intro x; simp
  refine MX F32 ?_
  refine Kan (cj e0 hz) ?_
  generalize hH : BitVec.ofNat 64 s.length * 0x9e3779b97f4a7c15#64 = H0
  refine lS [1] (fun i => [(5, .i (iW (hashS s H0 i))), (6, .i (iI (8 * i : Nat)))]) (fun _ => []) (fun _ => True) ((s.length + 7) / 8) ?_
  intro i hi _
  by_cases hi' : i < (s.length + 7) / 8
  · have h1 : ((((8 * i : Nat) : Int)) < (s.length : Int)) = True := by simp; omega
    have g1 := refGroup_is (mx := mx) s (8 * i) hs (by omega)
    have m1 := Mix_is (mx := mx) ((hashS s H0 i ^^^ grpS s (8 * i) 0) + 0x9e3779b97f4a7c15#64)
    refine Kan (cj h1 (cj g1 m1)) ?_
    exact ⟨hi', rfl, by have : ((8 * i : Nat) : Int) + 8 = ((8 * (i + 1) : Nat) : Int) := by omega
                        rw [this]⟩
  · have h1 : ((((8 * i : Nat) : Int)) < (s.length : Int)) = False := by simp; omega
    have hm := Mix_is (mx := mx) (hashS s H0 i)
    have hi2 : i = (s.length + 7) / 8 := by omega
    refine Kan (cj h1 hm) ?_
    unfold hashR; rw [hH, ← hi2]
theorem refRange_is (key : Str) (n : Int) (hk : key.length ≤ 140737488355328) : Is mx 9 [.str key, iI n] (.tup [iI (rangeR key n).1, iI (rangeR key n).2]) := by
  have h1 := refHash_is (mx := mx) key hk
  have e0 : I.int .u64 0 = iW 0 := rfl
  refine MX F9 ?_
  by_cases hc : (decide (n < 1) || decide (16 < n)) = true
  · have e9 : rangeR key n = (0, 1) := by unfold rangeR; rw [if_pos hc]
    exact Kan (cj hc e9) trivial
  · have hn : 1 ≤ n ∧ n ≤ 16 := by simp at hc; omega
    have hc : (decide (n < 1) || decide (16 < n)) = false := by simpa using hc
    have e9 : rangeR key n = (((hashR key).toNat : Int) % n, 0) := by unfold rangeR; rw [hc]; rfl
    have e1 : IntKind.u64.wrap n = n := by show n % (2 ^ 64 : Int) = n; omega
    have e5 : binOk .rem (iW (hashR key)) (.int .u64 n) = True := by simp [binOk, iW]; omega
    have e6 : binV .rem (iW (hashR key)) (.int .u64 n) = .int .u64 (((hashR key).toNat : Int) % n) := by
      show I.int .u64 (Int.tmod _ _) = _
      rw [Int.tmod_eq_emod_of_nonneg (by omega)]
    have b1 := Int.emod_nonneg ((hashR key).toNat : Int) (show n ≠ 0 by omega)
    have b2 := Int.emod_lt_of_pos ((hashR key).toNat : Int) (show 0 < n by omega)
    refine Kan (cj hc (cj h1 (cj e0 (cj e1 (cj e5 e6))))) ?_
    rw [e9]
theorem refSorted_is (l : List Lea) (hl : l.length ≤ 140737488355328) : Is mx 11 [.sl (l.map eLea)] (.bool (srtB l l.length)) := by
  have h0 : srtB l (min (0 + 1) l.length) = true := by
    rcases Nat.eq_zero_or_pos l.length with h | h
    · rw [h]; rfl
    · rw [Nat.min_eq_left (by omega)]; simp [srtB]
  refine MX F11 ?_
  refine Kbn ?_
  refine lS [0] (fun i => [(3, .i (iI (i + 1 : Nat)))]) (fun _ => []) (fun i => srtB l (min (i + 1) l.length) = true) (l.length - 1) ?_ h0
  intro i hi hinv
  by_cases hi' : i + 1 < l.length
  · have hc0 : decide ((i : Int) + 1 < (l.length : Int)) = true := decide_eq_true (by omega)
    have hc1 : ((i : Int) + 1).toNat = i + 1 := by omega
    have hc2 : ((i : Int) + 1 - 1).toNat = i := by omega
    have hA : ((0 : Int) ≤ (i : Int) + 1 ∧ (i : Int) + 1 < (l.length : Int)) = True := eq_true (by omega)
    have hB : ((0 : Int) ≤ (i : Int) + 1 - 1 ∧ (i : Int) + 1 - 1 < (l.length : Int)) = True := eq_true (by omega)
    by_cases hb : (l.getD i default).range < (l.getD (i + 1) default).range
    · have hd : decide ((l.getD (i + 1) default).range ≤ (l.getD i default).range) = false := decide_eq_false (by omega)
      have hn : srtB l (min (i + 1 + 1) l.length) = true := by
        rw [Nat.min_eq_left (by omega)] at hinv ⊢
        simp only [srtB] at hinv ⊢
        rw [hinv, decide_eq_true (show (l.getD (i + 1 - 1) default).range < (l.getD (i + 1) default).range from hb)]
        simp
      refine Kan (cj hc0 (cj hc1 (cj hc2 (cj hd (cj hA hB))))) ?_
      exact ⟨by omega, hn⟩
    · have hd : decide ((l.getD (i + 1) default).range ≤ (l.getD i default).range) = true := decide_eq_true (by omega)
      have e9 : srtB l l.length = false := srtB_no (i := i + 1) (by omega) hb _ hi'
      rw [e9]
      exact Kan (cj hc0 (cj hc1 (cj hc2 (cj hd (cj hA hB))))) trivial
  · have hc0 : decide ((i : Int) + 1 < (l.length : Int)) = false := decide_eq_false (by omega)
    have e9 : srtB l l.length = true := by rw [← hinv]; congr 1; omega
    rw [e9]
    exact Kan hc0 trivial
theorem SameLeases_is (l : List Lea) (hl : l.length ≤ 140737488355328) : Is mx 33 [.sl (l.map eLea), .sl (l.map eLea)] (.bool true) := by
  refine MX F33 ?_
  have hne : decide ((l.length : Int) ≠ (l.length : Int)) = false := by simp
  refine Kan hne ?_
  refine lS [0, 1] (fun i => [(5, .i (iI i))]) (fun _ => []) (fun _ => True) l.length ?_
  intro i hi _
  by_cases hi' : i < l.length
  · have hbe : ∀ a : Int, (a == a) = true := fun a => by simp
    refine Kan (cj (ltT hi') (cj hbe (cj Bool.and_self Bool.not_true))) ?_
    exact hi'
  · exact Kan (ltF hi') trivial
theorem refAdopt_is (w : Wrk) (x : Lea) (hl : w.leases.length ≤ 1000) (hs : SrtR w.leases) : Is mx 16 [.agg (eWrk w), .agg (eLea x)] (.agg (eWrk ⟨w.no, w.now, w.slack, w.eng, adoptL w.leases x, w.snap⟩)) := by
  obtain ⟨no, now, slack, eng, l, snap⟩ := w
  simp only at hl hs
  rw [← refAdopt_eq hs]
  have hrw : ∀ a b c d e : Int, (∀ r ∈ [[I.int .i64 a, I.int .i64 b, I.int .i64 c, I.int .i64 d, I.int .i64 e]], r.length = 5) = True := fun a b c d e => eq_true (by simp)
  have hro : ∀ a b c d e : Int, (∀ r ∈ [[I.int .i64 a, I.int .i64 b, I.int .i64 c, I.int .i64 d, I.int .i64 e]], r.all I.one = true) = True := fun a b c d e => eq_true (by simp [I.one])
  have htk : ∀ o : List Lea, List.take o.length (o.map eLea) = o.map eLea := fun o => List.take_of_length_le (by simp)
  have htl : ∀ (o : List Lea) (a b c d e : Int), List.take (o.length + 1) (o.map eLea ++ [[I.int .i64 a, I.int .i64 b, I.int .i64 c, I.int .i64 d, I.int .i64 e]]) = o.map eLea ++ [[I.int .i64 a, I.int .i64 b, I.int .i64 c, I.int .i64 d, I.int .i64 e]] := fun o a b c d e => List.take_of_length_le (by simp)
  have h0 : refSt l x 0 = ([], false) := by simp [refSt]
  refine MX F16 ?_
  refine Kbn ?_
  refine lS [2, 3, 4] (fun i => [(5, .ref (.sl 5 5 0 (refSt l x i).1.length)), (6, .i (.bool (refSt l x i).2)), (7, .i (iI i))]) (fun i => [(5, .rows 24 5 ((refSt l x i).1.map eLea)), (4, .cells [.i (iI 0), .i (iI 0), .i (iI 0), .i (iI 0), .i (iI 0), .i (.sl []), .i (.sl []), .i (.sl []), .i (.sl []), .i (.sl []), .i (.sl []), .i (iI 0), .i (iI 0), .i (.sl []), .i (.sl []), .i (.sl []), .i (.sl []), .i (.sl [])]), (2, .cells [.i (iI no), .i (iI now), .i (iI slack), .i (iI eng.no), .i (iI eng.tick), .i (.sl (eng.tabs.map eTbl)), .i (.sl []), .i (.sl []), .i (.sl []), .i (.sl []), .i (.sl (l.map eLea)), .i (iI snap.no), .i (iI snap.tick), .i (.sl (snap.tabs.map eTbl)), .i (.sl []), .i (.sl []), .i (.sl []), .i (.sl [])])]) (fun _ => True) l.length ?_ trivial
    (by simp only [V0, V1, V2, V25, reduceIte, Nat.reduceEqDiff]; rfl) (by simp [V0, V1, V2, V11, V8, V15, Ref.nm, D.nms, inS, h0]; try exact ⟨rfl, rfl⟩)
  intro i hi _
  by_cases hi' : i < l.length
  · have hn := refSt_succ (x := x) hi'
    have hlen := refSt_len (l := l) (x := x) i hi
    generalize hq : refSt l x (i + 1) = q at hn
    generalize refSt l x i = a at hn hlen ⊢
    obtain ⟨o, p⟩ := a
    simp only at hlen
    by_cases h2 : (l.getD i default).range = x.range
    · have e2 : decide ((l.getD i default).range ≠ x.range) = false := decide_eq_false (fun h => h h2)
      cases p with
      | true =>
        have e3 : q = (o, true) := by rw [hn]; unfold refPut; rw [if_neg (by simp)]; simp only; rw [if_pos h2]
        refine Nan (cj (ltT hi') (cj e2 (cj @Nat.zero_add @Nat.sub_zero))) ?_
        rw [hq, e3]; exact ⟨hi', ⟨rfl, rfl⟩, rfl⟩
      | false =>
        have e1 : decide (x.range ≤ (l.getD i default).range) = true := decide_eq_true (by omega)
        have e3 : q = (o ++ [x], true) := by rw [hn]; unfold refPut; rw [if_pos ⟨rfl, by omega⟩]; simp only; rw [if_pos h2]
        refine Nan (cj (ltT hi') (cj e2 (cj e1 (cj hrw (cj hro (cj @Nat.zero_add @Nat.sub_zero)))))) ?_
        rw [hq, e3]; simp [eLea]; omega
    · have e2 : decide ((l.getD i default).range ≠ x.range) = true := decide_eq_true h2
      cases p with
      | true =>
        have e3 : q = (o ++ [l.getD i default], true) := by rw [hn]; unfold refPut; rw [if_neg (by simp)]; simp only; rw [if_neg h2]
        refine Nan (cj (ltT hi') (cj e2 (cj hrw (cj hro (cj @Nat.zero_add @Nat.sub_zero))))) ?_
        rw [hq, e3]; simp [eLea]; omega
      | false =>
        by_cases h1 : x.range ≤ (l.getD i default).range
        · have e1 : decide (x.range ≤ (l.getD i default).range) = true := decide_eq_true h1
          have e3 : q = (o ++ [x] ++ [l.getD i default], true) := by rw [hn]; unfold refPut; rw [if_pos ⟨rfl, h1⟩]; simp only; rw [if_neg h2]
          refine Nan (cj (ltT hi') (cj e2 (cj e1 (cj hrw (cj hro (cj htl (cj @Nat.zero_add @Nat.sub_zero))))))) ?_
          rw [hq, e3]; simp [eLea]; omega
        · have e1 : decide (x.range ≤ (l.getD i default).range) = false := decide_eq_false h1
          have e3 : q = (o ++ [l.getD i default], false) := by rw [hn]; unfold refPut; rw [if_neg (fun h => h1 h.2)]; simp only; rw [if_neg h2]
          refine Nan (cj (ltT hi') (cj e2 (cj e1 (cj hrw (cj hro (cj @Nat.zero_add @Nat.sub_zero)))))) ?_
          rw [hq, e3]; simp [eLea]; omega
  · obtain rfl : i = l.length := by omega
    have hlen := refSt_len (l := l) (x := x) l.length (Nat.le_refl _)
    generalize refSt l x l.length = a at hlen ⊢
    obtain ⟨o, p⟩ := a
    simp only at hlen
    cases p with
    | true =>
      refine Nan (cj (ltF hi') (cj htk (cj @Nat.zero_add @Nat.sub_zero))) ?_
      rfl
    | false =>
      have hb1 : ((o.length + 1) * 40 ≤ 140737488355328) = True := eq_true (by omega)
      have hb2 : (o.length ≤ 140737488355327) = True := eq_true (by omega)
      refine Nan (cj (ltF hi') (cj hrw (cj hro (cj htl (cj htk (cj hb1 (cj hb2 (cj @Nat.zero_add @Nat.sub_zero)))))))) ?_
      simp [refEnd, eLea]
theorem SameFtrs0_is : Is mx 83 [.sl [], .sl []] (.bool true) := by
  refine MX F83 ?_
  refine Kbn ?_
  refine lS [0, 1] (fun i => [(5, .i (iI i))]) (fun _ => []) (fun _ => True) 0 ?_
  intro i hi _
  obtain rfl : i = 0 := by omega
  exact Kbn trivial
theorem SameParts0_is : Is mx 55 [.sl [], .sl []] (.bool true) := by
  refine MX F55 ?_
  refine Kbn ?_
  refine lS [0, 1] (fun i => [(5, .i (iI i))]) (fun _ => []) (fun _ => True) 0 ?_
  intro i hi _
  obtain rfl : i = 0 := by omega
  exact Kbn trivial
theorem SameCat0_is : Is mx 54 [.agg [.sl [], .sl [], .sl [], .sl []], .agg [.sl [], .sl [], .sl [], .sl []]] (.bool true) := by
  have h1 := SameFtrs0_is (mx := mx)
  refine MX F54 ?_
  refine Kbn ?_
  refine lS [2, 3] (fun i => [(5, .i (iI i))]) (fun _ => []) (fun _ => True) 0 ?_
  intro i hi _
  obtain rfl : i = 0 := by omega
  exact Kan h1 trivial
theorem SameEng0_is : Is mx 34 [.agg (eEng eng0), .agg (eEng eng0)] (.bool true) := by
  have h1 := SameCat0_is (mx := mx)
  have h2 := SameParts0_is (mx := mx)
  have hmn : List.map eTbl [] = [] := rfl
  refine MX F34 ?_
  exact Kan (cj h1 (cj h2 (cj @eng0.eq_1 hmn))) trivial
theorem refSame_is (no now slack : Int) (l : List Lea) (hl : l.length ≤ 140737488355328) : Is mx 10 [.agg (eWrk ⟨no, now, slack, eng0, l, eng0⟩), .agg (eWrk ⟨no, now, slack, eng0, l, eng0⟩)] (.bool true) := by
  have h1 := SameEng0_is (mx := mx)
  have h2 := SameLeases_is (mx := mx) l hl
  have hmn : List.map eTbl [] = [] := rfl
  refine MX F10 ?_
  exact Kan (cj h1 (cj h2 (cj @eng0.eq_1 hmn))) trivial
end Go.Proofs.YtcgjldimifeffaaGreatDoor
set_option maxRecDepth 100000
set_option maxHeartbeats 8000000
namespace Go.Proofs.YtcgjldimifeffaaGreatDoor
open Go Go.Dl Go.As Go.Proofs
variable {mx : Int}
attribute [local irreducible] callG callL MC W2 evT ev evD step stepD
/-! WorkersMatchesSteps. -/
theorem new_form (no : Int) : ∃ k e, wNewR no = (wOf k 0 [], e) := by
  unfold wNewR
  split
  · exact ⟨0, 1, rfl⟩
  · exact ⟨no, 0, rfl⟩
theorem adv_form (k now slack n m : Int) (l : List Lea) : ∃ k' now' slack' l' e, advR ⟨k, now, slack, eng0, l, eng0⟩ n m = (⟨k', now', slack', eng0, l', eng0⟩, e) ∧ l'.length ≤ l.length := by
  unfold advR
  split
  · exact ⟨0, 0, 0, [], 1, rfl, Nat.zero_le _⟩
  · split
    · exact ⟨0, 0, 0, [], 2, rfl, Nat.zero_le _⟩
    · exact ⟨k, now + n, slack + m, l, 0, rfl, Nat.le_refl _⟩
theorem adoptL_len (l : List Lea) (x : Lea) : (adoptL l x).length ≤ l.length + 1 := by
  unfold adoptL
  split
  · simp
  · have := lbR_le l x.range
    simp [insAt]; omega
theorem law_steps (no : Int) (key : Str) (ranges : Int) (ls : List Lea) (x : Lea) (now slack n more : Int) (hk : key.length ≤ 140737488355328) (hl : ls.length ≤ 140737488355328) (hn : -9223372036854775808 ≤ n) (hm : -9223372036854775808 ≤ more) :
    Is mx 3 [iI no, .str key, iI ranges, .sl (ls.map eLea), .agg (eLea x), iI now, iI slack, iI n, iI more] (.bool true) := by
  have ex := example_is (mx := mx)
  have n1 := wNew_is (mx := mx) no
  have n2 := refNew_is (mx := mx) no
  obtain ⟨k, e, hw⟩ := new_form no
  rw [hw] at n1 n2
  have r1 := wRange_is (mx := mx) key ranges hk
  have r2 := refRange_is (mx := mx) key ranges hk
  generalize (rangeR key ranges).1 = ra at r1 r2
  generalize (rangeR key ranges).2 = rb at r1 r2
  have s1 := refSame_is (mx := mx) k 0 0 [] (by decide)
  have t1 := refSorted_is (mx := mx) ls hl
  have c1 := refClock_is (mx := mx) ⟨k, now, slack, eng0, ls, eng0⟩
  have hne : ∀ a : Int, decide (a ≠ a) = false := fun a => by simp
  have hmn : List.map eTbl [] = [] := rfl
  have hml : List.map eLea [] = [] := rfl
  by_cases hc : srtB ls ls.length = true ∧ clockB now slack = true ∧ ls.length ≤ 40
  · obtain ⟨hc1, hc2, hc3⟩ := hc
    have hs := srtB_R hc1
    rw [hc1] at t1
    simp only [hc2] at c1
    have hc4 : decide ((40 : Int) < (ls.length : Int)) = false := decide_eq_false (by omega)
    have hcl : 0 ≤ now ∧ now ≤ 2199023255552 ∧ 0 ≤ slack ∧ slack ≤ 2199023255552 := by
      unfold clockB at hc2; simp at hc2; omega
    have a1 := wAdvance_is (mx := mx) ⟨k, now, slack, eng0, ls, eng0⟩ n more hcl.1 hcl.2.1 hcl.2.2.1 hcl.2.2.2 hn hm
    have a2 := refAdvance_is (mx := mx) ⟨k, now, slack, eng0, ls, eng0⟩ n more hcl.1 hcl.2.1 hcl.2.2.1 hcl.2.2.2 hn hm
    obtain ⟨k', now', slack', l', e', ha, hl'⟩ := adv_form k now slack n more ls
    rw [ha] at a1 a2
    have s2 := refSame_is (mx := mx) k' now' slack' l' (by omega)
    have p1 := Adopt_is (mx := mx) ⟨k, now, slack, eng0, ls, eng0⟩ x (by show ls.length ≤ 1000; omega) hs
    have p2 := refAdopt_is (mx := mx) ⟨k, now, slack, eng0, ls, eng0⟩ x (by show ls.length ≤ 1000; omega) hs
    have s3 := refSame_is (mx := mx) k now slack (adoptL ls x) (by have := adoptL_len ls x; omega)
    have v1 := wSave_is (mx := mx) ⟨k, now, slack, eng0, ls, eng0⟩
    have v2 := refSave_is (mx := mx) ⟨k, now, slack, eng0, ls, eng0⟩
    have s4 := refSame_is (mx := mx) k now slack ls hl
    have u1 := wCrash_is (mx := mx) ⟨k, now, slack, eng0, ls, eng0⟩
    have u2 := refCrash_is (mx := mx) ⟨k, now, slack, eng0, ls, eng0⟩
    have s5 := refSame_is (mx := mx) k now slack [] (by decide)
    refine MX F3 ?_
    (repeat' first
    | exact hole _
    | simp (maxSteps := 9999999) (disch := omega) only [go_sem, simprocAttr, eWE.eq_1, wOf.eq_1, eng0.eq_1, hmn, hml, hne, hc4, Bool.not_true, Bool.not_false, Bool.or_false, decide_true]
    | (first | refine' gdV_S (fun hq => ?_) (fun f => ?_) | refine' gdD_S (fun hq => ?_) (fun f => ?_)) <;> try (have hq' := hq; try simp only [HB] at hq')
    | refine callL_of (ex) ?_
    | refine callL_of (n1) ?_
    | refine callL_of (n2) ?_
    | refine callL_of (r1) ?_
    | refine callL_of (r2) ?_
    | refine callL_of (s1) ?_
    | refine callL_of (t1) ?_
    | refine callL_of (c1) ?_
    | refine callL_of (a1) ?_
    | refine callL_of (a2) ?_
    | refine callL_of (s2) ?_
    | refine callL_of (p1) ?_
    | refine callL_of (p2) ?_
    | refine callL_of (s3) ?_
    | refine callL_of (v1) ?_
    | refine callL_of (v2) ?_
    | refine callL_of (s4) ?_
    | refine callL_of (u1) ?_
    | refine callL_of (u2) ?_
    | refine callL_of (s5) ?_
    | refine Sx.s ?_ ?_ <;> try (intro h; have h' := h; try simp only [HB] at h'; try rewrite [h]; try simp only [h])
    | refine ct_I ?_
    | refine callG_Iv ?_ ?_
    | refine drJ_I ?_
    | refine Sz.s ?_
    | refine nxt_I (fun hr => ?_) (fun q hq => ?_)
    | refine isnil_I (fun hnil b => ?_) (fun hnil => ?_)
    | (refine And.intro ?_ ?_; focus omega)
    | fail)
  · refine MX F3 ?_
    (repeat' first
    | exact hole _
    | simp (maxSteps := 9999999) (disch := omega) only [go_sem, simprocAttr, eWE.eq_1, wOf.eq_1, eng0.eq_1, hmn, hml, hne, Bool.not_true, Bool.not_false, Bool.or_false]
    | (first | refine' gdV_S (fun hq => ?_) (fun f => ?_) | refine' gdD_S (fun hq => ?_) (fun f => ?_)) <;> try (have hq' := hq; try simp only [HB] at hq')
    | refine callL_of (ex) ?_
    | refine callL_of (n1) ?_
    | refine callL_of (n2) ?_
    | refine callL_of (r1) ?_
    | refine callL_of (r2) ?_
    | refine callL_of (s1) ?_
    | refine callL_of (t1) ?_
    | refine callL_of (c1) ?_
    | refine Sx.s ?_ ?_ <;> try (intro h; have h' := h; try simp only [HB] at h'; try rewrite [h]; try simp only [h])
    | refine ct_I ?_
    | refine callG_Iv ?_ ?_
    | refine drJ_I ?_
    | refine Sz.s ?_
    | refine nxt_I (fun hr => ?_) (fun q hq => ?_)
    | refine isnil_I (fun hnil b => ?_) (fun hnil => ?_)
    | (refine And.intro ?_ ?_; focus omega)
    | fail)
    exact absurd ⟨h'.1.1, h'.1.2, by have := h'.2; omega⟩ hc
end Go.Proofs.YtcgjldimifeffaaGreatDoor
set_option maxRecDepth 100000
set_option maxHeartbeats 8000000
namespace Go.Proofs.YtcgjldimifeffaaGreatDoor
open Go Go.Dl Go.As Go.RowKit Go.ChangeShapes Go.WideShapes
/-! WorkersMatchesSteps: readings, the call, a world that meets the row. -/
def plainS : List TypeId := [3, 9, 24, 22]
theorem plainSok : plainT Tryz.prog plainS = true := by kernel_rfl
theorem lea_rd {H : Type} {n : Nat} {d : DataW H} (h : Rd Tryz.prog n 24 d) : ∃ x : Lea, flatD d = eLea x ∧ 1 ≤ bulkD d ∧ True := by
  obtain ⟨parts, m, hm, rfl, hp⟩ := h.struct Tryz.underlying24
  obtain ⟨d1, r1, rfl, h1, hp⟩ := rdFcons hp
  obtain ⟨d2, r2, rfl, h2, hp⟩ := rdFcons hp
  obtain ⟨d3, r3, rfl, h3, hp⟩ := rdFcons hp
  obtain ⟨d4, r4, rfl, h4, hp⟩ := rdFcons hp
  obtain ⟨d5, r5, rfl, h5, hp⟩ := rdFcons hp
  obtain rfl := rdFnil hp
  obtain ⟨a1, rfl, _⟩ := h1.int (k := .i64) (by kernel_rfl)
  obtain ⟨a2, rfl, _⟩ := h2.int (k := .i64) (by kernel_rfl)
  obtain ⟨a3, rfl, _⟩ := h3.int (k := .i64) (by kernel_rfl)
  obtain ⟨a4, rfl, _⟩ := h4.int (k := .i64) (by kernel_rfl)
  obtain ⟨a5, rfl, _⟩ := h5.int (k := .i64) (by kernel_rfl)
  exact ⟨⟨a1, a2, a3, a4, a5⟩, rfl, by simp only [bulkD, bulkL]; omega, trivial⟩
theorem leas_rd {H : Type} {n : Nat} {d : DataW H} (h : Rd Tryz.prog n 22 d) : ∃ xs : List Lea, flatD d = [.sl (xs.map eLea)] ∧ bSum (fun _ => 1) xs + 1 ≤ bulkD d ∧ ∀ x ∈ xs, True :=
  h.list (f := eLea) (b := fun _ => 1) (bs := bSum fun _ => 1) rfl (fun _ _ => rfl) Tryz.underlying22 fun m y _ hy => lea_rd hy
theorem leaBytes : Tryz.prog.bytesOf 24 = 40 := by kernel_rfl
/-- WorkersMatchesSteps: the call, in a world. -/
theorem contract_workersMatchesSteps (H : Type) (enc : TypeId × Value → H) (W : World) (base : Nat) (args : Array Value) (ds gs : List (DataW H)) (before : List MemPlace)
    (hval : ∀ (j : Nat) t v, Tryz.f3.params[j]? = some t → args[j]? = some v → Value.okWide Tryz.prog W .any base t v)
    (hW : DataW.Whole enc Tryz.prog Tryz.f3.params.toList Rows.workersMatchesStepsSpec.vars false W args.toList ds gs before) (hz : (DataW.weightsEach Tryz.prog (Tryz.f3.params.toList ++ (OpenSpec.ofChange Rows.workersMatchesStepsSpec).bare.plain.varTypes Tryz.prog) (ds ++ gs)).all (· ≤ reachBytes) = true) (hL : laidMetH Tryz.prog laidL W) (hsh : W.ShapedOpen Tryz.prog) :
    Calls Tryz.prog 3 args W fun e W' => ∃ v, e = .returned v ∧ Rows.workersMatchesStepsSpec.post enc Tryz.prog Tryz.f3 false true false false W args v W' := by
  have hW' := hW
  obtain ⟨p, q, hA0, hV, rfl, _, _⟩ := hW
  obtain ⟨rfl, rfl⟩ := trodVars_none hV
  have hA : DataW.TrodAll enc Tryz.prog W 0 (fun _ => true) true [3, 9, 3, 22, 24, 3, 3, 3, 3] args.toList ds p := hA0
  obtain ⟨hlen, hrd⟩ := rdAll hA
  rw [List.append_nil] at hz
  obtain ⟨d1, d2, d3, d4, d5, d6, d7, d8, d9, rfl⟩ : ∃ d1 d2 d3 d4 d5 d6 d7 d8 d9, ds = [d1, d2, d3, d4, d5, d6, d7, d8, d9] := by
    match ds, hlen with
    | [d1, d2, d3, d4, d5, d6, d7, d8, d9], _ => exact ⟨d1, d2, d3, d4, d5, d6, d7, d8, d9, rfl⟩
  obtain ⟨n1, r1⟩ := hrd 0 (by simp) (by simp)
  replace r1 : Rd Tryz.prog n1 3 d1 := r1
  obtain ⟨n2, r2⟩ := hrd 1 (by simp) (by simp)
  replace r2 : Rd Tryz.prog n2 9 d2 := r2
  obtain ⟨n3, r3⟩ := hrd 2 (by simp) (by simp)
  replace r3 : Rd Tryz.prog n3 3 d3 := r3
  obtain ⟨n4, r4⟩ := hrd 3 (by simp) (by simp)
  replace r4 : Rd Tryz.prog n4 22 d4 := r4
  obtain ⟨n5, r5⟩ := hrd 4 (by simp) (by simp)
  replace r5 : Rd Tryz.prog n5 24 d5 := r5
  obtain ⟨n6, r6⟩ := hrd 5 (by simp) (by simp)
  replace r6 : Rd Tryz.prog n6 3 d6 := r6
  obtain ⟨n7, r7⟩ := hrd 6 (by simp) (by simp)
  replace r7 : Rd Tryz.prog n7 3 d7 := r7
  obtain ⟨n8, r8⟩ := hrd 7 (by simp) (by simp)
  replace r8 : Rd Tryz.prog n8 3 d8 := r8
  obtain ⟨n9, r9⟩ := hrd 8 (by simp) (by simp)
  replace r9 : Rd Tryz.prog n9 3 d9 := r9
  obtain ⟨x1, f1, _⟩ := r1.int (k := .i64) (by kernel_rfl)
  obtain ⟨x2, f2⟩ := r2.str (by kernel_rfl)
  obtain ⟨x3, f3, _⟩ := r3.int (k := .i64) (by kernel_rfl)
  obtain ⟨x4, f4, _, _⟩ := leas_rd r4
  obtain ⟨x5, f5, _, _⟩ := lea_rd r5
  obtain ⟨x6, f6, w6⟩ := r6.int (k := .i64) (by kernel_rfl)
  obtain ⟨x7, f7, w7⟩ := r7.int (k := .i64) (by kernel_rfl)
  obtain ⟨x8, f8, w8⟩ := r8.int (k := .i64) (by kernel_rfl)
  obtain ⟨x9, f9, w9⟩ := r9.int (k := .i64) (by kernel_rfl)
  have wI : ∀ a : Int, (Lit.int .i64 a).wf = true → -9223372036854775808 ≤ a := by
    intro a ha
    simp [Lit.wf] at ha
    exact ha.1
  have hz' : (DataW.weightsEach Tryz.prog [3, 9, 3, 22, 24, 3, 3, 3, 3] [d1, d2, d3, d4, d5, d6, d7, d8, d9]).all (· ≤ reachBytes) = true := hz
  simp only [DataW.weightsEach, List.all_append, Bool.and_eq_true] at hz'
  have hk := hz'.2.1
  rw [f2] at hk
  have hk := str_short hk
  have hl := list_short Tryz.underlying22 leaBytes (by decide) f4 r4 hz'.2.2.2.1
  rw [List.length_map] at hl
  obtain ⟨mx, hg⟩ := glob_ok hL hsh
  have hrep := args_rep plainSok (ts := [3, 9, 3, 22, 24, 3, 3, 3, 3]) (ds := [d1, d2, d3, d4, d5, d6, d7, d8, d9]) (by decide) (fun j t v h1 h2 => hval j t v (by simpa using h1) (by simpa using h2)) hA
  have g1 : argI Tryz.prog 3 (flatD d1) = iI x1 := by rw [f1]; exact argI_1 (by rw [Tryz.underlying3]; intro fs h; cases h)
  have g2 : argI Tryz.prog 9 (flatD d2) = .str x2 := by rw [f2]; exact argI_1 (by rw [Tryz.underlying9]; intro fs h; cases h)
  have g3 : argI Tryz.prog 3 (flatD d3) = iI x3 := by rw [f3]; exact argI_1 (by rw [Tryz.underlying3]; intro fs h; cases h)
  have g4 : argI Tryz.prog 22 (flatD d4) = .sl (x4.map eLea) := by rw [f4]; exact argI_1 (by rw [Tryz.underlying22]; intro fs h; cases h)
  have g5 : argI Tryz.prog 24 (flatD d5) = .agg (eLea x5) := by rw [f5]; exact argI_S Tryz.underlying24
  have g6 : argI Tryz.prog 3 (flatD d6) = iI x6 := by rw [f6]; exact argI_1 (by rw [Tryz.underlying3]; intro fs h; cases h)
  have g7 : argI Tryz.prog 3 (flatD d7) = iI x7 := by rw [f7]; exact argI_1 (by rw [Tryz.underlying3]; intro fs h; cases h)
  have g8 : argI Tryz.prog 3 (flatD d8) = iI x8 := by rw [f8]; exact argI_1 (by rw [Tryz.underlying3]; intro fs h; cases h)
  have g9 : argI Tryz.prog 3 (flatD d9) = iI x9 := by rw [f9]; exact argI_1 (by rw [Tryz.underlying3]; intro fs h; cases h)
  have he : argsI Tryz.prog [3, 9, 3, 22, 24, 3, 3, 3, 3] [d1, d2, d3, d4, d5, d6, d7, d8, d9] = [iI x1, .str x2, iI x3, .sl (x4.map eLea), .agg (eLea x5), iI x6, iI x7, iI x8, iI x9] := by simp only [argsI, g1, g2, g3, g4, g5, g6, g7, g8, g9]
  rw [he] at hrep
  have hc := calls_of_MC (by kernel_rfl) (law_steps (mx := mx) x1 x2 x3 x4 x5 x6 x7 x8 x9 hk hl (wI _ w8) (wI _ w9)) hg hrep
  refine hc.mono ?_
  rintro e W' ⟨v, M', rfl, hv, hbl⟩
  obtain rfl : v = .bool true := by cases hv; rfl
  refine ⟨_, rfl, post_true laidOutP (by kernel_rfl) rfl rfl Tryz.underlying4 (fun ys hy => ?_) hW' hbl⟩
  match ys, hy with
  | [y0, y1, y2, y3, y4, y5, y6, y7, y8], _ => rfl
abbrev sArgs : Array Value := #[.int .i64 0, .string ⟨#[]⟩, .int .i64 0, .slice none 0 0, .agg #[.int .i64 0, .int .i64 0, .int .i64 0, .int .i64 0, .int .i64 0], .int .i64 0, .int .i64 0, .int .i64 0, .int .i64 0]
theorem witness_workersMatchesSteps (os : Os) {H : Type} (enc : TypeId × Value → H) :
    (OpenSpec.ofChange Rows.workersMatchesStepsSpec).preRow enc Tryz.prog Tryz.f3 Rows.workersMatchesStepsRow.domain false Rows.workersMatchesStepsRow.laid ((laidWorld os).forCall (fun _ _ => 0) ⟨#[], sArgs, []⟩).memory sArgs := by
  have hw : (DataW.whole enc Tryz.prog ((laidWorld os).forCall (fun _ _ => 0) ⟨#[], sArgs, []⟩).memory Tryz.f3.params.toList (OpenSpec.ofChange Rows.workersMatchesStepsSpec).vars false sArgs.toList 12).map (fun x => (x.1, x.2.1)) =
      some ([.lit (.int .i64 0), .lit (.string []), .lit (.int .i64 0), .nil, .agg [.lit (.int .i64 0), .lit (.int .i64 0), .lit (.int .i64 0), .lit (.int .i64 0), .lit (.int .i64 0)], .lit (.int .i64 0), .lit (.int .i64 0), .lit (.int .i64 0), .lit (.int .i64 0)], []) := by kernel_rfl
  obtain ⟨⟨x1, x2, x3⟩, hx, hx1⟩ := Option.map_eq_some_iff.1 hw
  simp only [Prod.mk.injEq] at hx1
  obtain ⟨rfl, rfl⟩ := hx1
  exact OpenSpec.preRow_of_cond 12 hx (by kernel_rfl) (fun k hk => by cases hk) (by kernel_rfl) (laid_met os _)
theorem lifted_workersMatchesSteps (os : Os) (started : os.Started) (H : Type) (enc : TypeId × Value → H) (F : Stop.Interp) :
    ReturnsInHanded {} Tryz.checked os 3 .any ((OpenSpec.ofChange Rows.workersMatchesStepsSpec).preRow enc Tryz.prog Tryz.f3 Rows.workersMatchesStepsRow.domain false Rows.workersMatchesStepsRow.laid) (((OpenSpec.ofChange Rows.workersMatchesStepsSpec).at F).post enc Tryz.prog Tryz.f3 false true false false) := by
  refine returnsInHanded_of_row (C := Tryz.checked) (s := OpenSpec.ofChange Rows.workersMatchesStepsSpec) ownK started (by kernel_rfl) Tryz.func3
    (witness_row_atRef (enc := enc) (C := Tryz.checked) false (laidWorld os) sArgs rfl (by kernel_rfl) (by kernel_rfl) (by kernel_rfl) (witness_workersMatchesSteps os enc)) ?_
  intro W base args ds gs before hval hW _ hcond hz hL hsh _
  exact contract_workersMatchesSteps H enc W base args ds gs before hval hW hz hL hsh
end Go.Proofs.YtcgjldimifeffaaGreatDoor
