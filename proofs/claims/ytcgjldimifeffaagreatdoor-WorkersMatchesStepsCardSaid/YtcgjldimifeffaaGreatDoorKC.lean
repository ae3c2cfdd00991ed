/- A part of the proofs of WorkersExclude and WorkersMatchesSteps: E77. -/
import Derived.Test.YtcgjldimifeffaaGreatDoorKA
import Derived.Test.YtcgjldimifeffaaGreatDoorA27k
import Derived.Test.YtcgjldimifeffaaGreatDoorA30
import Derived.Test.YtcgjldimifeffaaGreatDoorShelf
import Derived.RangeFuncWrites
import Derived.Lib.Overlaps
set_option linter.all false
set_option maxRecDepth 100000
set_option maxHeartbeats 8000000
namespace Go.Proofs.YtcgjldimifeffaaGreatDoor
open Go Go.Dl Go.As Go.Proofs
variable {mx : Int}
attribute [local irreducible] callG callL MC W2 evT ev evD step stepD
def names0 : List (List UInt8) := [[99, 111, 117, 110, 116], [115, 117, 109], [109, 101, 97, 110], [109, 105, 110], [109, 97, 120], [102, 105, 114, 115, 116], [108, 97, 115, 116], [100, 105, 115, 116, 105, 110, 99, 116], [113, 117, 97, 110, 116, 105, 108, 101], [100, 101, 99, 97, 121]]
def names1 : List (List UInt8) := [[45], [110, 111, 116], [110, 117, 108, 108]]
def names2 : List (List UInt8) := [[43], [45], [42], [47], [61, 61], [33, 61], [60], [60, 61], [97, 110, 100], [111, 114]]
/-! W1 -/
def isNum (t : Typ) : Bool := t.kind == 2 || t.kind == 3
theorem isNumber_is (t : Typ) : Is mx 195 [.agg (eTyp t)] (.bool (isNum t)) := by
  refine MX F195 ?_
  refine Kbn ?_
  all_goals intros
  all_goals (refine congrArg I.bool ?_; (try simp only [isNum]); (first | rfl | (simp_all; done) | (rw [Bool.eq_iff_iff]; simp_all; done) | (rw [Bool.eq_iff_iff]; simp_all; omega)))
theorem outside_is (n l : Int) (hl : 0 ≤ l ∧ l ≤ 1000) : Is mx 281 [iI n, iI l] (.bool (decide (n > l ∨ n < -l))) := by
  refine MX F281 ?_
  have hw : IntKind.i64.wrap (0 - l) = -l := by grind [wrap64]
  refine Kan hw ?_
  all_goals intros
  all_goals (refine congrArg I.bool ?_; (try simp only [gt_iff_lt]); (first | rfl | (simp_all; done) | (rw [Bool.eq_iff_iff]; simp_all; done) | (rw [Bool.eq_iff_iff]; simp_all; omega)))
def lc (b : UInt8) : Bool := decide (97 ≤ b.toNat ∧ b.toNat ≤ 122)
def wc (b : UInt8) : Bool := decide ((97 ≤ b.toNat ∧ b.toNat ≤ 122) ∨ (48 ≤ b.toNat ∧ b.toNat ≤ 57) ∨ b.toNat = 95)
def word (s : Str) : Bool := decide (s ≠ []) && decide (s.length ≤ 24) && lc (s.getD 0 0) && s.all wc
theorem word_is (s : Str) : Is mx 280 [.str s] (.bool (word s)) := by
  refine MX F280 ?_
  (repeat' first
| exact hole _
| simp (disch := omega) only [go_sem, simprocAttr]
| refine' gdV_S (fun hq => ?_) (fun f => ?_) <;> try (have hq' := hq; try simp only [HB] at hq')
| refine Sx.s ?_ ?_ <;> try (intro h; have h' := h; try simp only [HB] at h'; try rewrite [h]; try simp only [h])
| refine ct_I ?_
| refine Sz.s ?_
| (refine And.intro ?_ ?_; focus omega))
  · refine congrArg I.bool ?_
    have e : (decide (s ≠ []) && decide (s.length ≤ 24) && lc (s.getD 0 0)) = false := by grind [lc]
    simp only [word, e, Bool.false_and]
  · have w0 : word s = s.all wc := by
      have e1 : lc (s.getD 0 0) = true := by grind [lc]
      have e2 : s ≠ [] := fun e => by grind
      have e3 : s.length ≤ 24 := by omega
      simp_all [word,e1,e2,e3]
    refine loopS [0, 24] (by simp only [V0, V25, reduceIte, Nat.reduceEqDiff]; rfl) (fun i => [(25, .i (iI i))]) (fun _ => []) (fun i => (s.take i).all wc = true) s.length 0 (by omega) (by simp) ?_ ?_
    · simp [V0, V11, V15]
    · intro i hi hinv
      (repeat' first
| exact hole _
| simp (disch := omega) only [go_sem, simprocAttr]
| refine' gdV_S (fun hq => ?_) (fun f => ?_) <;> try (have hq' := hq; try simp only [HB] at hq')
| refine' gdD_S (fun hq => ?_) (fun f => ?_) <;> try (have hq' := hq; try simp only [HB] at hq')
| refine Sx.s ?_ ?_ <;> try (intro h; have h' := h; try simp only [HB] at h'; try rewrite [h]; try simp only [h])
| refine ct_I ?_
| refine Sz.s ?_
| (refine And.intro ?_ ?_; focus omega))
      all_goals first
        | (exfalso; omega)
        | (refine congrArg I.bool ?_; rw [w0]; first
            | (exact (all_no (d := 0) (i := i) (by omega) (by simp only [wc, decide_eq_false_iff_not]; omega)).symm)
            | (have e : i = s.length := by omega
               rw [e, List.take_length] at hinv; exact hinv.symm))
        | (exact all_take (d := 0) hinv (by omega) (by simp only [wc, decide_eq_true_eq]; omega))
/-! W2 -/
def uc : Option Str → List Fac → Int
  | _, [] => 0
  | p, f :: r => if (!word f.name) = true then 1 else if (decide (f.exp = 0) || decide (f.exp > 8 ∨ f.exp < -8)) = true then 70 else
    if (match p with | some q => Op.bytesLess f.name q || decide (f.name = q) | none => false) = true then 3 else uc (some f.name) r
def uprev (u : List Fac) (i : Nat) : Option Str := if i = 0 then none else some (u.getD (i - 1) default).name
def unitCheck (u : List Fac) : Int := if u.length > 4 then 2 else uc none u
theorem uc_drop {u : List Fac} {i : Nat} (h : i < u.length) (p) : uc p (u.drop i) = if (!word (u.getD i default).name) = true then 1 else if (decide ((u.getD i default).exp = 0) || decide ((u.getD i default).exp > 8 ∨ (u.getD i default).exp < -8)) = true then 70 else
    if (match p with | some q => Op.bytesLess (u.getD i default).name q || decide ((u.getD i default).name = q) | none => false) = true then 3 else uc (some (u.getD i default).name) (u.drop (i + 1)) := by
  rw [getD_lt h, List.drop_eq_getElem_cons h]; simp only [uc]
theorem unitCheck_is (u : List Fac) (hu : u.length ≤ 1073741824) : Is mx 196 [.sl (u.map eFac)] (iI (unitCheck u)) := by
  refine MX F196 ?_
  refine Kbn (cj ?_ ?_)
  · intro _ _
    simp only [unitCheck]; rw [if_pos (by omega)]
  · intro h h'
    have e : unitCheck u = uc none u := by simp only [unitCheck]; rw [if_neg (by omega)]
    rw [e]
    refine loopS [0, 8, 9] (by simp only [V0, V25, reduceIte, Nat.reduceEqDiff]; rfl) (fun i => [(10, .i (iI i))]) (fun _ => []) (fun i => uc none u = uc (uprev u i) (u.drop i)) u.length 0 (by omega) (by simp [uprev]) ?_ ?_
    · simp [V0, V11, V15]
    · intro i hi hinv
      (repeat' first
| exact hole _
| simp (disch := omega) only [go_sem, simprocAttr]
| refine' gdV_S (fun hq => ?_) (fun f => ?_) <;> try (have hq' := hq; try simp only [HB] at hq')
| refine' gdD_S (fun hq => ?_) (fun f => ?_) <;> try (have hq' := hq; try simp only [HB] at hq')
| refine Sx.s ?_ ?_ <;> try (intro h; have h' := h; try simp only [HB] at h'; try rewrite [h]; try simp only [h])
| refine callL_of (word_is _) ?_
| refine callL_of (outside_is _ _ (by omega)) ?_
| refine ct_I ?_
| refine drJ_I ?_
| refine Sz.s ?_
| (refine And.intro ?_ ?_; focus omega))
      all_goals try
        (have hi' : i < u.length := by omega
         have hm : (match uprev u i with | some q => Op.bytesLess (u.getD i default).name q || decide ((u.getD i default).name = q) | none => false) = (decide (0 < (i : Int)) && (Op.bytesLess (u.getD i default).name (u.getD (↑i - 1 : Int).toNat default).name || decide ((u.getD i default).name = (u.getD (↑i - 1 : Int).toNat default).name))) := by
           have e1 : (↑i - 1 : Int).toNat = i - 1 := by omega
           by_cases h0 : i = 0
           · simp [uprev, h0]
           · have : 0 < (i : Int) := by omega
             simp only [uprev, h0, if_false, e1, decide_eq_true this, Bool.true_and]
         have hs : uprev u (i + 1) = some (u.getD i default).name := by simp [uprev]
         rw [hinv, uc_drop hi', hm]
         first
           | (rw [if_pos h]; done)
           | (rw [if_neg (by simp only [‹(!word (u.getD i default).name) = false›, Bool.false_eq_true, not_false_eq_true]), if_pos h]; done)
           | (rw [if_neg (by simp only [‹(!word (u.getD i default).name) = false›, Bool.false_eq_true, not_false_eq_true]), if_neg (by simp only [‹(decide ((u.getD i default).exp = 0) || decide ((u.getD i default).exp > 8 ∨ (u.getD i default).exp < -8)) = false›, Bool.false_eq_true, not_false_eq_true])]; first | (rw [if_pos h]; done) | (rw [if_neg (by simp only [h, Bool.false_eq_true, not_false_eq_true]), hs]; done)))
      have e' : i = u.length := by omega
      rw [hinv, e', List.drop_length]; rfl
/-! W3 -/
theorem rep_str {M : Mem} {s : Str} {v : Value} (h : Rep M (.str s) v) : v = .string ⟨s.toArray⟩ := by cases h; rfl
theorem repl_two {M : Mem} {x y : I} {vs : Array Value} (h : RepL M [x, y] vs.toList) : ∃ v u, vs = #[v, u] ∧ Rep M x v ∧ Rep M y u := by
  obtain ⟨hl, hr⟩ := h
  obtain ⟨l⟩ := vs
  match l, hl with
  | [v, u], _ => exact ⟨v, u, rfl, hr 0 (by simp) (by simp), hr 1 (by simp) (by simp)⟩
theorem maxlen_of {M : Mem} {w : World} (h1 : ∀ b o v, M.c b o = some v → w.cell? ⟨b, o, none⟩ = some v) (h2 : GlobOk (GLm mx) M) : w.cell? ⟨4, 0, none⟩ = some (.int .i64 mx) := by
  have := h2 4 [.int .i64 mx] (by simp [GLm])
  generalize hp : Value.pointer (some ⟨4, 0, none⟩) = p at this
  generalize hx : I.elt [.int .i64 mx] 0 = x at this
  cases this <;> cases hx
  rename_i b o v h hr
  injection hp with hp; injection hp with hp
  injection hp with hb ho
  have e := h 0 (by simp)
  have r := hr 0 (by simp)
  simp only [List.getElem_cons_zero, Nat.add_zero] at r e ho
  subst hb; subst ho
  rw [h1 _ _ _ e]
  generalize hy : I.int .i64 mx = y at r
  generalize hz : v 0 = z at r
  cases r <;> cases hy
  rfl
theorem Contains_is (s t : Str) (hs : s.length < 4294967281) : Is mx 283 [.str s, .str t] (.bool (Lib.contains s t)) := by
  refine MC_of_same (by kernel_rfl) fun M w vs h1 h2 h3 => ?_
  obtain ⟨v, u, rfl, hv, hu⟩ := repl_two h3
  rw [rep_str hv, rep_str hu]
  exact ⟨_, .bool _, Tryz.strings_Contains ⟨s.toArray⟩ ⟨t.toArray⟩ mx w hs (maxlen_of h1.1 h2)⟩
def kwords : Str := [32, 116, 97, 98, 108, 101, 32, 102, 101, 97, 116, 117, 114, 101, 32, 111, 102, 32, 107, 101, 101, 112, 32, 98, 111, 111, 108, 32, 116, 101, 120, 116, 32, 107, 101, 121, 32, 105, 110, 116, 32, 100, 101, 99, 32, 105, 102, 32, 116, 104, 101, 110, 32, 101, 108, 115, 101, 32, 100, 101, 102, 97, 117, 108, 116, 32, 111, 114, 32, 97, 110, 100, 32, 110, 111, 116, 32, 116, 114, 117, 101, 32, 102, 97, 108, 115, 101, 32, 110, 117, 108, 108, 32, 99, 111, 117, 110, 116, 32, 115, 117, 109, 32, 109, 101, 97, 110, 32, 109, 105, 110, 32, 109, 97, 120, 32, 102, 105, 114, 115, 116, 32, 108, 97, 115, 116, 32, 100, 105, 115, 116, 105, 110, 99, 116, 32, 113, 117, 97, 110, 116, 105, 108, 101, 32, 100, 101, 99, 97, 121, 32, 97, 108, 108, 32, 115, 108, 105, 100, 105, 110, 103, 32, 116, 117, 109, 98, 108, 105, 110, 103, 32, 115, 101, 115, 115, 105, 111, 110, 32, 119, 104, 101, 114, 101, 32]
def keyw (s : Str) : Bool := decide (s ≠ []) && !Lib.contains s [32] && Lib.contains kwords (32 :: (s ++ [32]))
theorem Keyword_is (s : Str) (hs : s.length ≤ 1073741824) : Is mx 199 [.str s] (.bool (keyw s)) := by
  refine MX F199 ?_
  (repeat' first
| exact hole _
| simp (disch := omega) only [go_sem, simprocAttr]
| refine' gdV_S (fun hq => ?_) (fun f => ?_) <;> try (have hq' := hq; try simp only [HB] at hq')
| refine callL_of (Contains_is _ _ (by omega)) ?_
| refine callL_of (Contains_is kwords _ (by decide)) ?_
| refine Sz.s ?_
| (refine And.intro ?_ ?_; focus omega))
  all_goals (simp_all [keyw])
def nameOk (s : Str) : Bool := word s && !keyw s
theorem Name_is (s : Str) : Is mx 138 [.str s] (.bool (nameOk s)) := by
  refine MX F138 ?_
  refine Kan @Keyword_is (cj ?_ ?_)
  · intro h h'
    refine congrArg I.bool ?_
    rcases h' with (e | e) | e
    · subst e; rfl
    · have : ¬ s.length ≤ 24 := by omega
      simp [nameOk, word, this]
    · simp [nameOk, e]
  · intro h h'
    obtain ⟨⟨e2, e0⟩, hk'⟩ := h'
    have w0 : nameOk s = (lc (s.getD 0 0) && s.all wc) := by
      have e3 : s.length ≤ 24 := by omega
      simp_all [nameOk,word,e3,e2]
    refine loopS [0, 17] (by simp only [V0, V25, reduceIte, Nat.reduceEqDiff]; rfl) (fun i => [(18, .i (iI i))]) (fun _ => []) (fun i => (s.take i).all wc = true ∧ (i ≠ 0 → lc (s.getD 0 0) = true)) s.length 0 (by omega) (by simp) ?_ ?_
    · simp [V0, V11, V15]
    · intro i hi hinv
      have hinv1 := hinv.1
      have hinv2 := hinv.2
      have hpos : 0 < s.length := by grind
      (repeat' first
| exact hole _
| simp (disch := omega) only [go_sem, simprocAttr]
| refine' gdV_S (fun hq => ?_) (fun f => ?_) <;> try (have hq' := hq; try simp only [HB] at hq')
| refine' gdD_S (fun hq => ?_) (fun f => ?_) <;> try (have hq' := hq; try simp only [HB] at hq')
| refine Sx.s ?_ ?_ <;> try (intro h; have h' := h; try simp only [HB] at h'; try rewrite [h]; try simp only [h])
| refine ct_I ?_
| refine Sz.s ?_
| (refine And.intro ?_ ?_; focus omega))
      all_goals first
        | (exfalso; omega)
        | (refine congrArg I.bool ?_; rw [w0]; first
            | (have e : i = s.length := by omega
               rw [e, List.take_length] at hinv1
               rw [hinv1, hinv2 (by omega)]; rfl)
            | (by_cases h0 : i = 0
               · subst h0
                 have : lc (s.getD 0 0) = false := by grind [lc]
                 rw [this]; rfl
               · have h1 : 0 < (i : Int) := by omega
                 have h2 := h' h1
                 rw [all_no (d := 0) (i := i) (by omega) (by simp only [wc, decide_eq_false_iff_not]; omega), Bool.and_false]))
        | (refine ⟨all_take (d := 0) hinv1 (by omega) (by simp only [wc, decide_eq_true_eq]; omega), fun _ => ?_⟩
           by_cases h0 : i = 0
           · subst h0; simp only [lc, decide_eq_true_eq]; omega
           · exact hinv2 h0)
/-! W4 -/
def idxOf {α : Type} (p : α → Bool) (l : List α) : Int := match l.findIdx? p with | some i => i | none => -1
theorem idx_at {α : Type} {p : α → Bool} {l : List α} {i : Nat} (hi : i < l.length) (hp : p l[i] = true) (hn : ∀ j (h : j < l.length), j < i → p l[j] = false) : idxOf p l = i := by
  have : l.findIdx? p = some i := List.findIdx?_eq_some_iff_getElem.2 ⟨hi, hp, fun j hj => by rw [hn j (by omega) hj]; simp⟩
  grind [idxOf]
theorem idx_no {α : Type} {p : α → Bool} {l : List α} (hn : ∀ j (h : j < l.length), p l[j] = false) : idxOf p l = -1 := by
  have : l.findIdx? p = none := List.findIdx?_eq_none_iff.2 fun x hx => by
    obtain ⟨j, hj, rfl⟩ := List.getElem_of_mem hx
    exact hn j hj
  grind [idxOf]
theorem idx_ge {α : Type} {p : α → Bool} {l : List α} : (0 ≤ idxOf p l) ↔ l.any p = true := by grind [idxOf]
theorem facIdx_is (p : Fac → Bool) (l : List Fac) (f : Nat) (fs cs : List I) (hl : l.length ≤ 1073741824) (hp : ∀ x ∈ l, Is mx f (fs ++ [.agg (eFac x)] ++ cs) (.bool (p x))) :
    Is mx 282 [.sl (l.map eFac), .fn f fs cs] (iI (idxOf p l)) := by
  refine MX F282 ?_
  refine Mbn ?_
  refine loopS [0, 1, 7] (by simp only [V0, V25, reduceIte, Nat.reduceEqDiff]; rfl) (fun i => [(8, .i (iI i))]) (fun _ => []) (fun i => ∀ j (h : j < l.length), j < i → p l[j] = false) l.length 0 (by omega) (by simp) ?_ ?_
  · simp [V0, V11, V15]
  · intro i hi hinv
    refine Ka @hp (cj ?_ (cj ?_ ?_))
    · intro _ _ _ _
      refine congrArg (I.int .i64) ?_
      exact (idx_at (by omega) (by rw [← getD_lt (by omega)]; assumption) hinv).symm
    · intro _ _ _ _
      intro j hj hji
      by_cases e : j = i
      · subst e; rw [← getD_lt hj]; assumption
      · exact hinv j hj (by omega)
    · intro _ _
      refine congrArg (I.int .i64) ?_
      exact (idx_no fun j hj => hinv j hj (by omega)).symm
theorem facAny_is (p : Fac → Bool) (l : List Fac) (f : Nat) (fs cs : List I) (hl : l.length ≤ 1073741824) (hp : ∀ x ∈ l, Is mx f (fs ++ [.agg (eFac x)] ++ cs) (.bool (p x))) :
    Is mx 197 [.sl (l.map eFac), .fn f fs cs] (.bool (l.any p)) := by
  refine MX F197 ?_
  refine Kan @facIdx_is ?_
  refine congrArg I.bool ?_
  have := @idx_ge _ p l
  rw [Bool.eq_iff_iff]; simpa using this
theorem Type1_is (f : Fac) : Is mx 198 [.agg (eFac f)] (.bool (!nameOk f.name)) := by
  refine MX F198 ?_
  exact Kan @Name_is trivial
def ty1 (t : Typ) : Bool := decide (t.kind < 1) || decide (t.kind > 5) || (decide (0 < t.unit.length) && !isNum t)
def ty2 (t : Typ) : Bool := (decide (t.kind = 5) != decide (t.of ≠ [])) || (decide (t.of ≠ []) && !nameOk t.of)
def ty3 (t : Typ) : Bool := decide (unitCheck t.unit ≠ 0) || t.unit.any (fun f => !nameOk f.name)
def typeOk (t : Typ) : Int := if ty1 t = true then 3 else if ty2 t = true then 3 else if ty3 t = true then 70 else 0
theorem Type_is (t : Typ) (ht : t.unit.length ≤ 1073741824) : Is mx 137 [.agg (eTyp t)] (iI (typeOk t)) := by
  refine MX F137 ?_
  (repeat' first
| exact hole _
| simp (disch := omega) only [go_sem, simprocAttr]
| refine' gdV_S (fun hq => ?_) (fun f => ?_) <;> try (have hq' := hq; try simp only [HB] at hq')
| refine' gdD_S (fun hq => ?_) (fun f => ?_) <;> try (have hq' := hq; try simp only [HB] at hq')
| refine Sx.s ?_ ?_ <;> try (intro h; have h' := h; try simp only [HB] at h'; try rewrite [h]; try simp only [h])
| refine callL_of (isNumber_is t) ?_
| refine callL_of (Name_is _) ?_
| refine callL_of (unitCheck_is _ ht) ?_
| refine callL_of (facAny_is (fun f ↦ !nameOk f.name) _ _ _ _ ht (fun x _ ↦ Type1_is x)) ?_
| refine ct_I ?_
| refine Sz.s ?_
| fail)
  all_goals (refine congrArg (I.int .i64) ?_; simp only [typeOk, ty1, ty2, ty3]; grind)
/-! W7 -/
mutual
def sizeX : Xpr → Nat
  | .mk _ _ _ _ _ _ _ _ a => sizeXs a + 1
def sizeXs : List Xpr → Nat
  | [] => 0
  | x :: r => sizeX x + sizeXs r
end
mutual
def depthX : Xpr → Nat
  | .mk _ _ _ _ _ _ _ _ a => depthXs a + 1
def depthXs : List Xpr → Nat
  | [] => 0
  | x :: r => max (depthX x) (depthXs r)
end
/-! W8 -/
abbrev noTyp : Typ := ⟨0, [], []⟩
/-! W9 -/
def eqS (a b : List UInt8) : Bool := decide (a = b)
def neS (a b : List UInt8) : Bool := decide (a ≠ b)
def vNum (v : Val) : Bool := decide (v.kind = 2) || decide (v.kind = 3)
def vLet (v : Val) : Bool := decide (v.kind = 4) || decide (v.kind = 5)
def badB (low : Int) (c : UInt8) : Bool := decide ((c.toNat : Int) < low) || decide (126 < (c.toNat : Int)) || decide ((c.toNat : Int) = 34) || decide ((c.toNat : Int) = 92)
def valCheck (v : Val) : Int :=
  if (decide (v.kind < 0) || decide (5 < v.kind)) = true then 1
  else if (!vLet v && neS v.s []) = true then 1
  else if (!vNum v && decide (v.n ≠ 0) && (decide (v.kind ≠ 1) || decide (v.n ≠ 1))) = true then 1
  else if (decide (v.n < -1152921504606846976) || decide (1152921504606846976 < v.n)) = true then 2
  else if (!vLet v) = true then 0
  else if decide (v.kind = 5) = true then
    if decide (32 < (v.s.length : Int)) = true then 2 else if (decide (v.kind = 5) && eqS v.s []) = true then 3 else if v.s.any (badB 33) = true then 3 else 0
  else if decide (64 < (v.s.length : Int)) = true then 2 else if v.s.any (badB 32) = true then 3 else 0
/-! S1 -/
def bFac (f : Fac) : Nat := f.name.length + 1
def bSum {α : Type} (b : α → Nat) : List α → Nat
  | [] => 0
  | x :: r => b x + bSum b r
def bVal (v : Val) : Nat := v.s.length + 1
def bTyp (t : Typ) : Nat := bSum bFac t.unit + t.of.length + 1
mutual
def bX : Xpr → Nat
  | .mk _ o n t v u _ _ a => o.length + n.length + t.length + bVal v + bSum bFac u + bXs a + 1
def bXs : List Xpr → Nat
  | [] => 0
  | x :: r => bX x + bXs r
end
theorem bSum_len {α : Type} {b : α → Nat} (h : ∀ x, 1 ≤ b x) : ∀ l, l.length ≤ bSum b l
  | [] => by simp [bSum]
  | x :: r => by have := h x; have := bSum_len h r; simp only [List.length_cons, bSum]; omega
theorem bSum_mem {α : Type} {b : α → Nat} : ∀ {l : List α} {x : α}, x ∈ l → b x ≤ bSum b l
  | y :: r, x, h => by
    simp only [bSum]
    rcases List.mem_cons.1 h with e | e
    · subst e; omega
    · have := bSum_mem (b := b) e; omega
theorem bFac_len (u : List Fac) : u.length ≤ bSum bFac u := bSum_len (fun f => by unfold bFac; omega) u
abbrev noWin : Win := ⟨0, 0⟩
abbrev noVal : Val := ⟨0, 0, []⟩
def hasS (l : List Str) (x : Str) : Bool := l.any fun y => decide (x = y)
def sQuantile : Str := [113, 117, 97, 110, 116, 105, 108, 101]
def sDecay : Str := [100, 101, 99, 97, 121]
def sCount : Str := [99, 111, 117, 110, 116]
def trueX : Xpr := .mk 1 [] [] [] ⟨1, 1, []⟩ [] 0 noWin []
/-! W13 -/
open Go.Sort Go.RowKit in
theorem strSort_mc (e : Nat) (ss : List Str) (hl : ss.length < 4611686018427387904) :
    MC Tryz.prog (GLm mx) 168 [.ref (.sl 5000 1 0 ss.length)] [(5000, .rows e 1 (ss.map fun s => [.str s]))] []
      (fun r s => r = .i (.tup []) ∧ s = [(5000, .rows e 1 ((ss.mergeSort fun x y => decide (x ≤ y)).map fun s => [.str s]))]) := by
  delta MC
  intro M μ w vs h1 h2 h3
  obtain ⟨v, rfl, hN, a, cap, hμ, _, hcap, hv⟩ : ∃ v, vs = #[v] ∧ names [(5000, Blk.rows e 1 (ss.map fun s => [.str s]))] 5000 ∧ SlAt (μ 5000) 1 0 ss.length v := by
    obtain ⟨l⟩ := vs
    obtain ⟨hl1, hr⟩ := h3
    match l, hl1 with
    | [v], _ => exact ⟨v, rfl, hr 0 (by simp) (by simp)⟩
  have hen : enters Tryz.prog 168 = true := by kernel_rfl
  by_cases h0 : ss = []
  · obtain ⟨p, c, hvv⟩ : ∃ p c, v = .slice p 0 c := by
      subst h0
      rcases hv with ⟨_, a', e⟩ | ⟨b, o, _, e⟩
      · exact ⟨_, _, e⟩
      · exact ⟨_, _, e⟩
    subst hvv
    refine .inl ⟨hen, (Tryz.slices_Sort_string_none p c w).mono ?_⟩
    rintro e' w' ⟨rfl, rfl⟩
    refine ⟨_, rfl, .i (.tup []), _, M, μ, ⟨rfl, rfl⟩, ?_, repD_i (Rep.tup' (RepL.nil M)), MExt.refl _ _, Keeps.refl _ _, fun _ _ _ => rfl⟩
    subst h0
    simpa using h1
  have hpos : 0 < ss.length := by cases ss; exact (h0 rfl).elim; simp
  rcases hv with ⟨rfl, a', rfl⟩ | ⟨b, o, rfl, rfl⟩
  · omega
  obtain ⟨a1, cap1, e1, hb⟩ := h1.blk 5000 _ rfl
  rw [hμ] at e1
  injection e1 with e1 e2 e3
  subst e1; subst e3
  rcases hb with ⟨hc0, _⟩ | ⟨b1, o1, cur, e1, hcp, ho, hm, hsz, hln, hk, hrows⟩
  · omega
  injection e1 with e1; injection e1 with e1 e2
  subst e1; subst e2
  have hbk : blockOf (μ 5000) = some b := by rw [hμ]; simp only [blockOf]; rw [if_neg (by omega)]
  have hcell : ∀ j (hj : j < ss.length), cur[o + j]? = some (encStr ss[j]) := fun j hj => by
    obtain ⟨v, hv, hr⟩ := hrows j (by simpa using hj) 0 (by simp)
    simp only [List.getElem_map, List.getElem_cons_zero, Nat.mul_one, Nat.add_zero] at hv hr
    rw [hv, rep_str hr]
  have hH : Holds encStr w b o ss.toArray := fun j hj => by
    have hj' : j < ss.length := by simpa using hj
    refine ⟨?_, ?_⟩
    · simp only [World.cell?, ho.heap]
      rw [hcell j hj']
      simp [hj']
    · simp [World.frozen?, ho.heap]
  have hlt := ho.lt
  simp only [Nat.zero_mul, Nat.add_zero, Nat.sub_zero]
  refine .inl ⟨hen, (Tryz.slices_Sort_string b o cap ss w hH hlt hl).mono ?_⟩
  rintro e' w' ⟨rfl, n, os, rfl⟩
  generalize hS : (ss.mergeSort fun x y => decide (x ≤ y)) = so
  have hso : so.length = ss.length := by rw [← hS]; exact List.length_mergeSort _
  have hother : ∀ k, k ≠ b → k < w.heap.size → (grow (putRow encStr (Sort.ahead w n) b o so.toArray) os).heap[k]? = w.heap[k]? := fun k hk hkl => by
    rw [heap_grow_old _ _ (by rw [size_putRow]; exact hkl)]
    simp only [putRow, mapBlock, Sort.ahead, Array.getElem?_modify]
    rw [if_neg (fun e => hk e.symm)]
  have hself : (grow (putRow encStr (Sort.ahead w n) b o so.toArray) os).heap[b]? = some (.cells (putCells encStr o so.toArray cur) e (0, 0)) := by
    rw [heap_grow_old _ _ (by rw [size_putRow]; exact hlt)]
    simp only [putRow, mapBlock, Sort.ahead, Array.getElem?_modify, if_true]
    rw [ho.heap]; rfl
  have hblk : BlkOk (shut μ [(5000, Blk.rows e 1 (ss.map fun s => [.str s]))] w) M μ (names (setS [(5000, Blk.rows e 1 (ss.map fun s => [.str s]))] 5000 (.rows e 1 (so.map fun s => [.str s])))) (grow (putRow encStr (Sort.ahead w n) b o so.toArray) os) 5000 (.rows e 1 (so.map fun s => [.str s])) := by
    refine ⟨some ⟨b, o, none⟩, cap, hμ, .inr ⟨b, o, putCells encStr o so.toArray cur, rfl, hcp, ⟨ho.low, hself, ho.unk⟩, hm, ?_, ?_, ?_, ?_⟩⟩
    · simp [putCells, hsz]
    · simpa [hso] using hcap
    · intro r hr; obtain ⟨s, _, rfl⟩ := List.mem_map.1 hr; rfl
    · intro i hi j hj
      have hi' : i < so.length := by simpa using hi
      have hj' : j = 0 := by simp at hj; omega
      subst hj'
      refine ⟨encStr so[i], ?_, ?_⟩
      · simp only [putCells, Nat.mul_one, Nat.add_zero, Array.getElem?_mapIdx]
        rw [hcell i (by omega)]
        simp [hi']
      · simp only [List.getElem_map, List.getElem_cons_zero]; exact Rep.str _
  refine ⟨_, rfl, .i (.tup []), [(5000, .rows e 1 (so.map fun s => [.str s]))], M, μ, ⟨rfl, rfl⟩, ?_, repD_i (Rep.tup' (RepL.nil M)), MExt.refl _ _, ⟨rfl, rfl, rfl, ?_, fun k hk => hother k ?_ hk.1, ?_⟩, fun _ _ _ => rfl⟩
  · exact h1.setBlk (nm := 5000) (blk' := .rows e 1 (so.map fun s => [.str s])) rfl hbk (by rw [size_grow, size_putRow]; exact Nat.le_add_right _ _) hother hblk
  · rw [size_grow, size_putRow]; exact Nat.le_add_right _ _
  · intro e'; subst e'; exact hk.2 5000 (by simp [names, getS]) hbk
  · exact Nat.le_add_right w.drawn n
theorem strSort_at (nm e : Nat) (ss : List Str) (hn : nm < 5000) (hl : ss.length < 4611686018427387904) :
    MC Tryz.prog (GLm mx) 168 [.ref (.sl nm 1 0 ss.length)] [(nm, .rows e 1 (ss.map fun s => [.str s]))] []
      (fun r s => r = .i (.tup []) ∧ s = [(nm, .rows e 1 ((ss.mergeSort fun x y => decide (x ≤ y)).map fun s => [.str s]))]) := by
  have e1 : sws [(5000, nm)] 5000 = nm := by rfl
  have h := (MC.as [(5000, nm)] (strSort_mc (mx := mx) e ss hl)).mono (R' := fun r s => r = .i (.tup []) ∧ s = [(nm, .rows e 1 ((ss.mergeSort fun x y => decide (x ≤ y)).map fun s => [.str s]))]) (by
    rintro r s ⟨h1, h2⟩
    have k := mpD_mpD (f := swi [(5000, nm)]) (g := sws [(5000, nm)]) (sws_swi _) r
    have k2 := mpS_mpS (f := swi [(5000, nm)]) (g := sws [(5000, nm)]) (sws_swi _) s
    rw [h1] at k
    rw [h2] at k2
    refine ⟨k.symm, ?_⟩
    rw [← k2]; simp only [mpS, mpB, e1])
  simp only [List.map_cons, List.map_nil, mpD, mpR, mpS, mpB, e1] at h
  exact h
/-! W15 -/
def wordsOk (l : List Fac) : Bool := l.all fun f => word f.name
def farE (n : Int) : Bool := decide (n > 8 ∨ n < -8)
/-! E15 -/
theorem mpR_id (r : Ref) : mpR id r = r := by cases r <;> rfl
theorem mpC_id (c : Cp) : mpC id c = c := by cases c <;> simp [mpC, mpR_id]
theorem mpCs_id (l : List Cp) : l.map (mpC id) = l := by
  conv => rhs; rw [← List.map_id l]
  exact List.map_congr_left fun c _ => mpC_id c
theorem mpD_id (d : D) : mpD id d = d := by cases d <;> simp [mpD, mpR_id, mpCs_id]
theorem mpDs_id (l : List D) : l.map (mpD id) = l := by
  conv => rhs; rw [← List.map_id l]
  exact List.map_congr_left fun c _ => mpD_id c
theorem mpB_id (b : Blk) : mpB id b = b := by cases b <;> simp [mpB, mpDs_id, mpD_id]
theorem mpS_id : ∀ s : List (Nat × Blk), mpS id s = s
  | [] => rfl
  | (m, b) :: r => by simp only [mpS, mpB_id, mpS_id r]; rfl
theorem kf_id : ∀ (ks : List (Nat × Nat)), (∀ p ∈ ks, p.1 = p.2) → kf ks = id
  | [], _ => rfl
  | (a, b) :: r, h => by
    funext m
    have e : a = b := h (a, b) List.mem_cons_self
    have ih := kf_id r fun p hp => h p (List.mem_cons_of_mem _ hp)
    simp_all [kf]
theorem resS_out {ns : List Nat} : ∀ {l : List (Nat × Blk)}, (∀ p ∈ l, p.1 ∉ ns) → resS ns l = []
  | [], _ => rfl
  | (m, b) :: r, h => by
    have h0 : ns.contains m = false := by simp_all
    simp only [resS, h0, Bool.false_eq_true, if_false]
    exact resS_out fun p hp => h p (List.mem_cons_of_mem _ hp)
theorem resS_in {ns : List Nat} : ∀ {l : List (Nat × Blk)}, (∀ p ∈ l, p.1 ∈ ns) → resS ns l = l
  | [], _ => rfl
  | (m, b) :: r, h => by
    have h0 : ns.contains m = true := List.contains_iff_mem.2 (h (m, b) List.mem_cons_self)
    simp only [resS, h0, if_true]
    rw [resS_in fun p hp => h p (List.mem_cons_of_mem _ hp)]
theorem resS_app {ns : List Nat} : ∀ (a b : List (Nat × Blk)), resS ns (a ++ b) = resS ns a ++ resS ns b
  | [], b => rfl
  | (m, x) :: r, b => by
    simp only [List.cons_append, resS, resS_app r b]
    split <;> rfl
theorem okY_keys {mv : List Nat} {l : List (Nat × Blk)} (h : okY mv l = true) : ∀ p ∈ l, 5000 ≤ p.1 ∧ p.1 < 6000 := fun p hp => okY_ge h p.1 (mem_names.1 (List.mem_map.2 ⟨p, hp, rfl⟩))
theorem okY_nodup {mv : List Nat} {l : List (Nat × Blk)} (h : okY mv l = true) : nodupB (l.map (·.1)) = true := by grind [okY]
theorem okY_none {mv : List Nat} {l : List (Nat × Blk)} (h : okY mv l = true) {q : Nat} (hq : q < 5000) : getS l q = none := by
  cases hg : getS l q with
  | none => rfl
  | some b => have := okY_ge h q (by simp [names, hg]); omega
theorem sbS_out {nm : Nat} {b : Blk} : ∀ {l : List (Nat × Blk)}, (∀ p ∈ l, nm ∉ p.2.nms) → sbS nm b l = l
  | [], _ => rfl
  | (m, x) :: r, h => by
    simp only [sbS]
    rw [sbB_out (h (m, x) List.mem_cons_self), sbS_out fun p hp => h p (List.mem_cons_of_mem _ hp)]
theorem okY_sb {mv : List Nat} {l : List (Nat × Blk)} (h : okY mv l = true) {q : Nat} (hq : q < 5000) (b : Blk) : sbS q b l = l :=
  sbS_out fun p hp hn => by have := okY_ge h q (clS_mem (okY_cl h) p hp q hn); omega
theorem delS_out {q : Nat} : ∀ {l : List (Nat × Blk)}, (∀ p ∈ l, p.1 ≠ q) → delS l q = l
  | [], _ => rfl
  | (m, x) :: r, h => by
    have h0 : ¬ m = q := h (m, x) List.mem_cons_self
    simp only [delS, if_neg h0]
    rw [delS_out fun p hp => h p (List.mem_cons_of_mem _ hp)]
theorem okY_del {mv : List Nat} {l : List (Nat × Blk)} (h : okY mv l = true) {q : Nat} (hq : q < 5000) : delS l q = l := delS_out fun p hp => by grind [okY_keys]
theorem okY_self {mv : List Nat} {l : List (Nat × Blk)} (h : okY mv l = true) : subS l l := okY_subS (mv := mv) (okY_nodup h) l fun _ _ h => h
theorem ret_Y {own mN : List (Nat × Blk)} {given mv : List Nat} {E : Env} {R : D → List (Nat × Blk) → Prop} (h : okY mv mN = true) (ho : (own.map (·.1)).all (fun q => Nat.blt q 5000) = true) (hR : R (.i (.tup [])) mN) : resV [] given mv R ⟨E, own ++ mN⟩ := by
  refine ⟨[], mN.map (fun p => (p.1, p.1)), ?_⟩
  have e1 : (mN.map fun p => (p.1, p.1)).map (·.1) = mN.map (·.1) := by rw [List.map_map]; rfl
  have e2 : (mN.map fun p => (p.1, p.1)).map (·.2) = mN.map (·.1) := by rw [List.map_map]; rfl
  have e3 : resS (mN.map (·.1)) (own ++ mN) = mN := by
    rw [resS_app, resS_out, resS_in, List.nil_append]
    · exact fun p hp => List.mem_map.2 ⟨p, hp, rfl⟩
    · intro p hp hm
      rw [List.all_eq_true] at ho
      have h1 := ho p.1 (List.mem_map.2 ⟨p, hp, rfl⟩)
      rw [Nat.blt_eq] at h1
      obtain ⟨q, hq, e⟩ := List.mem_map.1 hm
      have := okY_keys h q hq
      omega
  have e4 : kf (mN.map fun p => (p.1, p.1)) = id := kf_id _ fun p hp => by obtain ⟨q, _, rfl⟩ := List.mem_map.1 hp; rfl
  have e5 : retD (frzNs [] ⟨E, own ++ mN⟩) [] = some (.i (.tup [])) := rfl
  rw [e5]
  simp only [e1, show (frzNs [] ⟨E, own ++ mN⟩).sto = own ++ mN from rfl, e3, e4, mpD_id, mpS_id]
  refine ⟨?_, ⟨rfl, okY_cl h⟩, hR⟩
  unfold keepOk
  rw [e1, e2, okY_nodup h, Bool.true_and, Bool.true_and, List.all_eq_true]
  intro p hp
  obtain ⟨q, _, rfl⟩ := List.mem_map.1 hp
  simp
theorem okY_pin {mv : List Nat} {l : List (Nat × Blk)} (h : okY mv l = true) : ((l.map (·.1)).all fun m => (Nat.ble 5000 m && Nat.blt m 5500) || mv.contains m) = true := by grind [okY]
/-! N1 -/
def eqL {α β : Type} (p : α → β → Bool) : List α → List β → Bool
  | [], [] => true
  | x :: a, y :: b => p x y && eqL p a b
  | _, _ => false
def eqFac (x y : Fac) : Bool := x.name == y.name && x.exp == y.exp
def eqVal (x y : Val) : Bool := x.kind == y.kind && (x.n == y.n && x.s == y.s)
def eqTyp (a b : Typ) : Bool := decide (a.kind = b.kind) && decide (a.of = b.of) && eqL eqFac a.unit b.unit
mutual
def eqX : Xpr → Xpr → Bool
  | .mk k o n t v u p w a, y => !(decide (k ≠ y.kind) || decide (o ≠ y.op) || decide (n ≠ y.name) || decide (t ≠ y.table) || !eqVal v y.val || decide (p ≠ y.param) || !(w.kind == y.win.kind && w.size == y.win.size) || decide ((a.length : Int) ≠ y.args.length) || !eqL eqFac u y.unit) && eqXs a y.args
def eqXs : List Xpr → List Xpr → Bool
  | [], [] => true
  | x :: a, y :: b => eqX x y && eqXs a b
  | _, _ => false
end
theorem eqXs_eq : ∀ a b : List Xpr, eqXs a b = eqL eqX a b
  | [], [] => rfl
  | [], _ :: _ => rfl
  | _ :: _, [] => rfl
  | x :: a, y :: b => by simp only [eqXs, eqL, eqXs_eq a b]
theorem eqX_at (x y : Xpr) : eqX x y = (!(decide (x.kind ≠ y.kind) || decide (x.op ≠ y.op) || decide (x.name ≠ y.name) || decide (x.table ≠ y.table) || !eqVal x.val y.val || decide (x.param ≠ y.param) || !(x.win.kind == y.win.kind && x.win.size == y.win.size) || decide ((x.args.length : Int) ≠ y.args.length) || !eqL eqFac x.unit y.unit) && eqL eqX x.args y.args) := by cases x; cases y; simp only [eqX, eqXs_eq, Xpr.kind, Xpr.op, Xpr.name, Xpr.table, Xpr.val, Xpr.unit, Xpr.param, Xpr.win, Xpr.args]; rfl
/-! N8 -/
def cutSt (l : List Str) (s : Str) : Nat := (l.takeWhile fun y => Op.bytesLess y s).length
def putS (l : List Str) (s : Str) : List Str := if cutSt l s < l.length ∧ l.getD (cutSt l s) default = s then l else l.take (cutSt l s) ++ [s] ++ l.drop (cutSt l s)
def namesS (out : List Str) : List Fac → List Str
  | [] => out
  | f :: r => namesS (putS out f.name) r
/-! W16 -/
/-! W17 -/
theorem fldIdx_is (p : Fld → Bool) (l : List Fld) (f : Nat) (fs cs : List I) (hl : l.length ≤ 1073741824) (hp : ∀ x ∈ l, Is mx f (fs ++ [.agg (eFld x)] ++ cs) (.bool (p x))) :
    Is mx 144 [.sl (l.map eFld), .fn f fs cs] (iI (idxOf p l)) := by
  refine MX F144 ?_
  refine Mbn ?_
  refine lS [0, 1, 7] (fun i => [(8, .i (iI i))]) (fun _ => []) (fun i => ∀ j (h : j < l.length), j < i → p l[j] = false) l.length ?_
  intro i hi hinv
  refine Ka @hp (cj ?_ (cj ?_ ?_))
  · intro _ _ _ _
    refine congrArg (I.int .i64) ?_
    exact (idx_at (by omega) (by rw [← getD_lt (by omega)]; assumption) hinv).symm
  · intro _ _ _ _
    intro j hj hji
    by_cases e : j = i
    · subst e; rw [← getD_lt hj]; assumption
    · exact hinv j hj (by omega)
  · intro _ _
    refine congrArg (I.int .i64) ?_
    exact (idx_no fun j hj => hinv j hj (by omega)).symm
theorem idx_find {α : Type} [Inhabited α] (p : α → Bool) (l : List α) : (idxOf p l < 0 ∧ l.find? p = none) ∨ (0 ≤ idxOf p l ∧ (idxOf p l).toNat < l.length ∧ l.find? p = some (l.getD (idxOf p l).toNat default)) := by
  unfold idxOf
  cases h : l.findIdx? p with
  | none =>
    grind
  | some i =>
    refine .inr ⟨by simp, ?_⟩
    obtain ⟨hi, hp, hn⟩ := List.findIdx?_eq_some_iff_getElem.1 h
    refine ⟨by simpa using hi, ?_⟩
    simp only [Int.toNat_natCast, getD_lt hi]
    rw [List.find?_eq_some_iff_getElem]
    grind
def namedT (fs : List Ftr) (name ent : Str) : Typ × Int := match fs.find? (fun f => decide (f.name = name)) with
  | none => (noTyp, 4)
  | some f => if f.entity ≠ ent then (noTyp, 5) else (f.typ, 0)
def fieldT (t : Tbl) (name : Str) : Typ × Int := match t.fields.find? (fun f => decide (f.name = name)) with
  | none => (noTyp, 4)
  | some f => (f.typ, 0)
/-! W18 -/
abbrev boolT : Typ := ⟨1, [], []⟩
def sDistinct : Str := [100, 105, 115, 116, 105, 110, 99, 116]
def sMin : Str := [109, 105, 110]
def sMax : Str := [109, 97, 120]
def sMean : Str := [109, 101, 97, 110]
def sMinus : Str := [45]
def sNot : Str := [110, 111, 116]
/-! W21 -/
def uB (t : Typ) : Prop := t.unit.length ≤ 1073741824
/-! W24 -/
def fieldsT : List Fld → List Fld → Int
  | _, [] => 0
  | seen, f :: r => if (!nameOk f.name) = true then 3 else if (seen.any fun g => decide (g.name = f.name)) = true then 121 else if typeOk f.typ ≠ 0 then typeOk f.typ else fieldsT (seen ++ [f]) r
def tableT (t : Tbl) : Int :=
  if (!nameOk t.name || !nameOk t.entity || decide (t.keep < 0) || decide (1099511627776 < t.keep)) = true then 3 else if 8 < t.fields.length then 2 else fieldsT [] t.fields
theorem Table1_is (g : Fld) (f0 : List I) (name : Str) (h0 : f0.length = 4) (hn : f0.getD 0 .undef = .str name) : Is mx 339 [.agg (eFld g), .elt f0 0] (.bool (decide (g.name = name))) := by
  refine MX F339 ?_
  have e1 : pk false f0 0 1 = .str name := by grind [pk]
  exact Lan (cj h0 e1) trivial
theorem fldAny_is (p : Fld → Bool) (l : List Fld) (fn : Nat) (fs cs : List I) (hl : l.length ≤ 1073741824) (hp : ∀ x ∈ l, Is mx fn (fs ++ [.agg (eFld x)] ++ cs) (.bool (p x))) :
    Is mx 338 [.sl (l.map eFld), .fn fn fs cs] (.bool (l.any p)) := by
  refine MX F338 ?_
  refine Kan @fldIdx_is ?_
  refine congrArg I.bool ?_
  have := @idx_ge _ p l
  rw [Bool.eq_iff_iff]; simpa using this
theorem Table_is (t : Tbl) (ht : ∀ x ∈ t.fields, uB x.typ) (hl : t.fields.length ≤ 1073741824) : Is mx 264 [.agg (eTbl t)] (iI (tableT t)) := by
  refine MX F264 ?_
  (repeat' first
| exact hole _
| simp (disch := omega) only [go_sem, simprocAttr]
| refine' gdV_S (fun hq => ?_) (fun f => ?_) <;> try (have hq' := hq; try simp only [HB] at hq')
| refine Sx.s ?_ ?_ <;> try (intro h; have h' := h; try simp only [HB] at h'; try rewrite [h]; try simp only [h])
| refine callL_of (Name_is _) ?_
| refine ct_I ?_
| refine Sz.s ?_
| fail)
  · refine congrArg (I.int .i64) ?_; simp only [tableT]; grind
  · refine congrArg (I.int .i64) ?_; simp only [tableT]; grind
  have hT : tableT t = fieldsT [] t.fields := by grind [tableT]
  rw [hT]
  refine lS [1, 31, 32] (fun i => [(33, .i (iI i))]) (fun _ => []) (fun i => fieldsT (t.fields.take i) (t.fields.drop i) = fieldsT [] t.fields) t.fields.length ?_ (by simp)
  intro i hi hinv
  by_cases hi' : i < t.fields.length
  · have hmem := getD_mem hi'
    rw [List.drop_eq_getElem_cons hi', ← getD_lt hi'] at hinv
    simp only [fieldsT] at hinv
    have htk : t.fields.take (i + 1) = t.fields.take i ++ [t.fields.getD i default] := by simp_all
    generalize hg : t.fields.getD i default = g at hinv hmem htk
    have hA := fldAny_is (mx := mx) (fun y => decide (y.name = g.name)) (t.fields.take i) 339 [] [.elt (eFld g) 0] (by simp; omega) (fun y _ => Table1_is y (eFld g) g.name rfl rfl)
    have hr : (∀ r ∈ t.fields.map eFld, r.length = 4) = True := eq_true (rows_ok (f := eFld) (k := 4) t.fields (fun _ => rfl) (fun _ => rfl)).1
    have hle : ((i : Int) ≤ (t.fields.length : Int)) = True := eq_true (by omega)
    have hmt : List.take i (List.map eFld t.fields) = List.map eFld (List.take i t.fields) := List.map_take.symm
    (repeat' first
| simp (disch := omega) only [go_sem, simprocAttr, ltT hi', hg, hr, hle, hmt]
| refine Sx.s ?_ ?_ <;> try (intro h; have h' := h; try simp only [HB] at h'; try rewrite [h]; try simp only [h])
| refine callL_of (Name_is _) ?_
| refine callL_of (hA) ?_
| refine callL_of (Type_is g.typ (ht g hmem)) ?_
| refine ct_I ?_
| refine Sz.s ?_
| (refine And.intro ?_ ?_; focus omega))
    · refine congrArg (I.int .i64) ?_; grind
    · refine congrArg (I.int .i64) ?_; grind
    · refine congrArg (I.int .i64) ?_; grind
    · rw [htk]; grind
  · have e : i = t.fields.length := by omega
    subst e
    rw [List.drop_length] at hinv
    refine Lan (ltF hi') ?_
    rw [← hinv]; rfl
/-! W25 -/
def dg (b : UInt8) : Bool := decide (48 ≤ b.toNat ∧ b.toNat ≤ 57)
def wcb (b : UInt8) : Bool := lc b || dg b || decide (b.toNat = 95)
def wlen : Str → Nat
  | [] => 0
  | c :: r => if lc c = true then 1 + (r.takeWhile wcb).length else 0
/-! W26 -/
def kwList : List Str := [[116, 97, 98, 108, 101], [102, 101, 97, 116, 117, 114, 101], [111, 102], [107, 101, 101, 112], [98, 111, 111, 108], [116, 101, 120, 116], [107, 101, 121], [105, 110, 116], [100, 101, 99], [105, 102], [116, 104, 101, 110], [101, 108, 115, 101], [100, 101, 102, 97, 117, 108, 116], [111, 114], [97, 110, 100], [110, 111, 116], [116, 114, 117, 101], [102, 97, 108, 115, 101], [110, 117, 108, 108], [99, 111, 117, 110, 116], [115, 117, 109], [109, 101, 97, 110], [109, 105, 110], [109, 97, 120], [102, 105, 114, 115, 116], [108, 97, 115, 116], [100, 105, 115, 116, 105, 110, 99, 116], [113, 117, 97, 110, 116, 105, 108, 101], [100, 101, 99, 97, 121], [97, 108, 108], [115, 108, 105, 100, 105, 110, 103], [116, 117, 109, 98, 108, 105, 110, 103], [115, 101, 115, 115, 105, 111, 110], [119, 104, 101, 114, 101]]
def refKey (s : Str) : Bool := kwList.any fun k => decide (s = k)
/-! W27 -/
def refName (s : Str) : Bool := decide (s ≠ []) && decide (s.length ≤ 24) && decide (wlen s = s.length) && !refKey s
/-! N9 -/
def sumE : List Fac → Str → Int
  | [], _ => 0
  | f :: r, s => (if f.name = s then f.exp else 0) + sumE r s
def expR1 (l : List Fac) (s : Str) : Int × Bool := if farE (sumE l s) = true then (0, false) else (sumE l s, true)
def normR1 (l : List Fac) : List Str → List Fac → List Fac × Int
  | [], acc => if 4 < (acc.length : Int) then ([], 2) else (acc, 0)
  | s :: r, acc => if (expR1 l s).2 = false then ([], 70) else if (expR1 l s).1 ≠ 0 then normR1 l r (acc ++ [⟨s, (expR1 l s).1⟩]) else normR1 l r acc
def normR (l : List Fac) : List Fac × Int := if wordsOk l = true then normR1 l (namesS [] l) [] else ([], 1)
def invU (u : List Fac) : List Fac := u.map fun f => ⟨f.name, -f.exp⟩
def timesR (a b : List Fac) : List Fac × Int := if unitCheck a ≠ 0 then ([], unitCheck a) else if unitCheck b ≠ 0 then ([], unitCheck b) else normR (a ++ b)
def overU (a b : List Fac) : List Fac × Int := if unitCheck a ≠ 0 then ([], unitCheck a) else if unitCheck b ≠ 0 then ([], unitCheck b) else timesR a (invU b)
/-! R1 -/
def bFld (f : Fld) : Nat := f.name.length + bTyp f.typ + 1
def bTbl (t : Tbl) : Nat := t.name.length + t.entity.length + bSum bFld t.fields + 1
def bFtr (f : Ftr) : Nat := f.name.length + f.entity.length + bTyp f.typ + bX f.body + 1
def bCat (c : Cat) : Nat := bSum bTbl c.tables + bSum bFtr c.features + bSum bFtr c.drafts + bSum bFtr c.past + 1
/-! R2 -/
def bChg (x : Chg) : Nat := bTbl x.table + bFtr x.feature + x.name.length + 1
/-! N0 -/
theorem bFtr_eq (f : Ftr) : bFtr f = f.name.length + f.entity.length + bTyp f.typ + bX f.body + 1 := rfl
theorem bTbl_eq (t : Tbl) : bTbl t = t.name.length + t.entity.length + bSum bFld t.fields + 1 := rfl
theorem bFld_eq (f : Fld) : bFld f = f.name.length + bTyp f.typ + 1 := rfl
theorem bCat_eq (c : Cat) : bCat c = bSum bTbl c.tables + bSum bFtr c.features + bSum bFtr c.drafts + bSum bFtr c.past + 1 := rfl
theorem tbls_len (l : List Tbl) : l.length ≤ bSum bTbl l := bSum_len (fun x => by have := bTbl_eq x; omega) l
theorem ftrs_len (l : List Ftr) : l.length ≤ bSum bFtr l := bSum_len (fun x => by have := bFtr_eq x; omega) l
theorem flds_len (l : List Fld) : l.length ≤ bSum bFld l := bSum_len (fun x => by have := bFld_eq x; omega) l
theorem bChg_eq (x : Chg) : bChg x = bTbl x.table + bFtr x.feature + x.name.length + 1 := rfl
/-! N2 -/
def eqFld (x y : Fld) : Bool := !(!eqTyp x.typ y.typ || decide (x.name ≠ y.name))
def eqTbl (a b : Tbl) : Bool := !(decide (a.name ≠ b.name) || decide (a.entity ≠ b.entity) || decide (a.keep ≠ b.keep) || decide ((a.fields.length : Int) ≠ b.fields.length)) && eqL eqFld a.fields b.fields
def eqFtr (a b : Ftr) : Bool := eqTyp a.typ b.typ && eqX a.body b.body && decide (a.name = b.name) && decide (a.entity = b.entity) && decide (a.version = b.version)
/-! P2 -/
theorem contains_cons (b : UInt8) (l sub : Str) : Lib.contains (b :: l) sub = (sub.isPrefixOf (b :: l) || Lib.contains l sub) := by
  simp only [Lib.contains, Lib.index]
  grind
theorem contains_skip (p : Str) : ∀ (k rest : Str), (∀ b ∈ k, b ≠ 32) → Lib.contains (k ++ rest) (32 :: p) = Lib.contains rest (32 :: p)
  | [], rest, _ => rfl
  | b :: k, rest, h => by
    have h1 := h b (by simp)
    rw [List.cons_append, contains_cons, contains_skip p k rest fun c hc => h c (by simp [hc])]
    grind
theorem prefix_word : ∀ (s k rest : Str), (∀ b ∈ s, b ≠ 32) → (∀ b ∈ k, b ≠ 32) → (s ++ [32]).isPrefixOf (k ++ 32 :: rest) = decide (s = k)
  | [], [], rest, _, _ => by rfl
  | [], c :: k, rest, _, h => by grind
  | b :: s, [], rest, h, _ => by grind
  | b :: s, c :: k, rest, h, h' => by
    simp only [List.cons_append, List.isPrefixOf]
    rw [prefix_word s k rest (fun x hx => h x (by simp [hx])) fun x hx => h' x (by simp [hx])]
    grind
def kwText : List Str → Str
  | [] => [32]
  | k :: r => 32 :: (k ++ kwText r)
theorem kwText_cons : ∀ l, ∃ r, kwText l = 32 :: r
  | [] => ⟨[], rfl⟩
  | k :: r => ⟨_, rfl⟩
theorem contains_kw (s : Str) (hs : ∀ b ∈ s, b ≠ 32) : ∀ l : List Str, (∀ k ∈ l, ∀ b ∈ k, b ≠ 32) → Lib.contains (kwText l) (32 :: (s ++ [32])) = l.any fun k => decide (s = k)
  | [], _ => by
    simp only [kwText, List.any_nil, contains_cons]
    have : Lib.contains [] (32 :: (s ++ [32])) = false := rfl
    simp_all
  | k :: l, h => by
    have hk := h k (by simp)
    simp only [kwText, List.any_cons, contains_cons]
    rw [contains_skip _ k _ hk, contains_kw s hs l fun k hk => h k (by simp [hk])]
    obtain ⟨r, hr⟩ := kwText_cons l
    grind [prefix_word]
theorem kwords_eq : kwords = kwText kwList := by decide
theorem wc_no (c : UInt8) (h : wc c = true) : c ≠ 32 := by rintro rfl; revert h; decide
theorem word_no {s : Str} (h : word s = true) : ∀ b ∈ s, b ≠ 32 := by grind [word,wc_no]
theorem wcb_wc (c : UInt8) : wcb c = wc c := by grind [wcb,wc,lc,dg]
theorem takeWhile_len (p : UInt8 → Bool) : ∀ r : Str, ((r.takeWhile p).length = r.length) ↔ r.all p = true
  | [] => by simp
  | c :: r => by
    rw [List.takeWhile_cons, List.all_cons]
    by_cases h : p c = true
    · rw [if_pos h]; simp [takeWhile_len p r, h]
    all_goals grind
theorem wlen_word (s : Str) : (decide (s ≠ []) && decide (s.length ≤ 24) && decide (wlen s = s.length)) = word s := by
  cases s with
  | nil => rfl
  | cons c r =>
    grind [lc,wc,wcb,wcb_wc,word,wlen,takeWhile_len]
theorem refName_ok (s : Str) : refName s = nameOk s := by
  unfold refName nameOk
  rw [wlen_word]
  cases h : word s with
  | false => rfl
  | true =>
    have hs := word_no h
    have h0 : s ≠ [] := by rintro rfl; cases h
    have h1 : Lib.contains s [32] = false := by
      have := contains_skip [] s [] hs
      rw [List.append_nil] at this; rw [this]; rfl
    simp_all [keyw,refKey,kwords_eq,contains_kw,kwList]
def typeR (t : Typ) : Int :=
  if (decide (t.kind < 1) || decide (5 < t.kind)) = true then 3
  else if ((decide (t.kind = 5) && !refName t.of) || (decide (t.kind ≠ 5) && decide (t.of ≠ [])) || (!isNum t && decide (0 < t.unit.length))) = true then 3
  else if unitCheck t.unit ≠ 0 then 70 else if t.unit.any (fun f => !refName f.name) = true then 70 else 0
theorem typeR_ok (t : Typ) : typeR t = typeOk t := by
  have hn : nameOk [] = false := rfl
  grind [typeR,typeOk,ty1,ty2,ty3,refName_ok,nameOk]
def fieldsR : List Fld → List Fld → Int
  | _, [] => 0
  | seen, f :: r => if (!refName f.name) = true then 3 else if (seen.any fun g => decide (g.name = f.name)) = true then 121 else if typeR f.typ ≠ 0 then typeR f.typ else fieldsR (seen ++ [f]) r
def tableR (t : Tbl) : Int :=
  if (!refName t.name || !refName t.entity || decide (t.keep < 0) || decide (1099511627776 < t.keep)) = true then 3 else if 8 < t.fields.length then 2 else fieldsR [] t.fields
theorem fieldsR_ok : ∀ (l seen : List Fld), fieldsR seen l = fieldsT seen l
  | [], _ => rfl
  | f :: r, seen => by simp only [fieldsR, fieldsT, refName_ok, typeR_ok, fieldsR_ok r]
theorem tableR_ok (t : Tbl) : tableR t = tableT t := by simp [tableR,tableT,refName_ok,fieldsR_ok]
/-! N5 -/
def flatX (a b : Xpr) : Bool := decide (a.kind = b.kind) && decide (a.op = b.op) && decide (a.name = b.name) && decide (a.table = b.table) && eqVal a.val b.val && decide (a.unit = b.unit) && decide (a.param = b.param) && (a.win.kind == b.win.kind && a.win.size == b.win.size)
def litR (x : Xpr) : Bool := decide (valCheck x.val = 0) && !decide (x.val.n < 0) && decide (typeR ⟨x.val.kind, x.unit, x.name⟩ = 0) && flatX x (.mk 1 [] x.name [] x.val x.unit 0 noWin [])
def winR (w : Win) : Bool := if w.kind = 1 then decide (w.size = 0) else decide (1 < w.kind) && decide (w.kind ≤ 4) && decide (1 ≤ w.size) && decide (w.size ≤ 1099511627776)
def mostR (op : Str) : Int := if op = sDecay then 1073741824 else if op = sQuantile then 1000 else 0
def aggR (x : Xpr) : Bool := hasS names0 x.op && refName x.table && winR x.win && !decide (mostR x.op < x.param) && !decide (x.param < (if mostR x.op ≤ 1 then mostR x.op else 1)) && flatX x (.mk 5 x.op [] x.table noVal [] x.param x.win [])
def nodeN (k : Int) : Int := if k = 4 ∨ k = 6 then 1 else if k = 5 ∨ k = 7 ∨ k = 9 then 2 else if k = 8 then 3 else 0
def nodeNamed (x : Xpr) : Bool := refName x.name && flatX x (.mk x.kind [] x.name [] noVal [] 0 noWin [])
def nodeBare (x : Xpr) : Bool := flatX x (.mk x.kind x.op [] [] noVal [] 0 noWin [])
def nodeR (x : Xpr) (inside : Bool) : Bool :=
  if x.kind = 1 then litR x
  else if x.kind = 2 then inside && nodeNamed x
  else if x.kind = 3 ∨ x.kind = 4 then !inside && nodeNamed x
  else if x.kind = 5 then !inside && aggR x
  else if x.kind = 6 then nodeBare x && hasS names1 x.op
  else if x.kind = 7 then nodeBare x && hasS names2 x.op
  else if x.kind = 8 ∨ x.kind = 9 then nodeBare x && decide (x.op = [])
  else false
def endR (x : Xpr) : Bool := decide (x.kind ≠ 5) || decide (x.op ≠ sCount) || eqX (x.args.getD 0 default) trueX
mutual
def formR : Xpr → Bool → Bool
  | .mk k o n t v u p w a, inside => (nodeR (.mk k o n t v u p w a) inside && decide ((a.length : Int) = nodeN k)) && (formRs a (inside || decide (k = 5)) && endR (.mk k o n t v u p w a))
def formRs : List Xpr → Bool → Bool
  | [], _ => true
  | x :: r, inside => formR x inside && formRs r inside
end
def shapeR (x : Xpr) : Int := if 64 < (sizeX x : Int) ∨ 12 < (depthX x : Int) then 2 else if formR x false = true then 0 else 3
/-! N10 -/
abbrev noTbl : Tbl := ⟨[], [], [], 0⟩
abbrev noCat : Cat := ⟨[], [], [], []⟩
def withinR (c : Cat) (ent : Str) (name : Str) : (Cat × Tbl) × Int := match c.tables.find? (fun t => decide (t.name = name)) with
  | none => ((noCat, noTbl), 4)
  | some t => if t.entity ≠ ent then ((noCat, noTbl), 5) else ((c, t), 0)
def bothR (a b : Typ) : Int := if a.kind ≠ b.kind ∨ a.of ≠ b.of then 5 else if a.unit = b.unit then 0 else 70
def sameTyR (a b : Typ) : Bool := decide (a.kind = b.kind) && decide (a.unit = b.unit) && decide (a.of = b.of)
def sSum : Str := [115, 117, 109]
def numOps : List Str := [sSum, sMean, sQuantile, sDecay]
def ordOps : List Str := [sMin, sMax]
def overR (op : Str) (a b : Typ) : Typ × Int :=
  if b.kind ≠ 1 then (noTyp, 5) else if (hasS numOps op && !isNum a || hasS ordOps op && !isNum a && decide (a.kind ≠ 4)) = true then (noTyp, 5)
  else if op = sCount ∨ op = sDistinct then (⟨2, [], []⟩, 0) else if op = sMean ∨ op = sDecay then (⟨3, a.unit, []⟩, 0) else (a, 0)
/-! N11 -/
def sAnd : Str := [97, 110, 100]
def sOr : Str := [111, 114]
def numB (a b : Typ) : Bool := isNum a && isNum b
def unitR (op : Str) (a b : Typ) : List Fac × Int := if op = [42] then timesR a.unit b.unit else if op = [47] then overU a.unit b.unit else (a.unit, if a.unit = b.unit then 0 else 70)
def kindR (op : Str) (a b : Typ) : Int := if op = [47] then 3 else if a.kind = 2 ∧ b.kind = 2 then 2 else 3
def fitsR (op : Str) (a b : Typ) : Bool := if op = [60] ∨ op = [60, 61] then decide (a.kind = 4) && decide (b.kind = 4) else sameTyR a b
def binR (op : Str) (a b : Typ) : Typ × Int :=
  if op = sAnd ∨ op = sOr then (if a.kind ≠ 1 ∨ b.kind ≠ 1 then (noTyp, 5) else (boolT, 0))
  else if op = [61, 61] ∨ op = [33, 61] ∨ op = [60] ∨ op = [60, 61] then
    (if (numB a b && !decide (a.unit = b.unit)) = true then (noTyp, 70) else if (!numB a b && !fitsR op a b) = true then (noTyp, 5) else (boolT, 0))
  else if numB a b = false then (noTyp, 5) else if (unitR op a b).2 ≠ 0 then (noTyp, 70) else (⟨kindR op a b, (unitR op a b).1, []⟩, 0)
/-! N12 -/
def unR (op : Str) (a : Typ) : Typ × Int :=
  if (decide (op = sMinus) && !isNum a || decide (op = sNot) && decide (a.kind ≠ 1)) = true then (noTyp, 5) else if op = sMinus then (a, 0) else (boolT, 0)
def lastR (a b : Typ) : Typ × Int := if bothR a b ≠ 0 then (noTyp, bothR a b) else (b, 0)
def opR (c : Cat) (ent : Str) (t : Tbl) (x : Xpr) (l : List Typ) : Typ × Int :=
  if x.kind = 1 then (⟨x.val.kind, x.unit, x.name⟩, 0)
  else if x.kind = 2 then fieldT t x.name
  else if x.kind = 3 then namedT c.features x.name ent
  else if x.kind = 4 then (if (l.getD 0 default).kind ≠ 5 then (noTyp, 5) else namedT c.features x.name (l.getD 0 default).of)
  else if x.kind = 5 then overR x.op (l.getD 0 default) (l.getD 1 default)
  else if x.kind = 6 then unR x.op (l.getD 0 default)
  else if x.kind = 7 then binR x.op (l.getD 0 default) (l.getD 1 default)
  else if x.kind = 8 then (if (l.getD 0 default).kind ≠ 1 then (noTyp, 5) else lastR (l.getD 1 default) (l.getD 2 default))
  else lastR (l.getD 0 default) (l.getD 1 default)
/-! N13 -/
mutual
def inferR (c : Cat) : Str → Tbl → Xpr → Typ × Int
  | ent, t, .mk k o n tb v u p w a =>
    if k = 5 then
      if (withinR c ent tb).2 ≠ 0 then (noTyp, (withinR c ent tb).2)
      else match inferRs c [] (withinR c ent tb).1.2 a with
        | .error e => (noTyp, e)
        | .ok l => opR c ent t (.mk k o n tb v u p w a) l
    else match inferRs c ent t a with
        | .error e => (noTyp, e)
        | .ok l => opR c ent t (.mk k o n tb v u p w a) l
def inferRs (c : Cat) : Str → Tbl → List Xpr → Except Int (List Typ)
  | _, _, [] => .ok []
  | ent, t, x :: r => if (inferR c ent t x).2 ≠ 0 then .error (inferR c ent t x).2 else match inferRs c ent t r with
      | .error e => .error e
      | .ok l => .ok ((inferR c ent t x).1 :: l)
end
def inferTopR (c : Cat) (ent : Str) (x : Xpr) : Typ × Int := if shapeR x ≠ 0 then (noTyp, shapeR x) else inferR c ent noTbl x
/-! N14 -/
def featureR (c : Cat) (f : Ftr) : Int :=
  if (!refName f.name || !refName f.entity || decide (f.version < 0)) = true then 3 else if typeR f.typ ≠ 0 then typeR f.typ
  else if (inferTopR c f.entity f.body).2 ≠ 0 then (inferTopR c f.entity f.body).2 else bothR (inferTopR c f.entity f.body).1 f.typ
abbrev noX : Xpr := .mk 0 [] [] [] noVal [] 0 noWin []
abbrev noFtr : Ftr := ⟨[], [], noTyp, noX, 0⟩
def tblOf (l : List Tbl) (name : Str) : Option Tbl := l.find? fun t => decide (t.name = name)
def ftrOf (l : List Ftr) (name : Str) : Option Ftr := l.find? fun f => decide (f.name = name)
/-! N15 -/
mutual
def dirR : Xpr → List Str × List Str → List Str × List Str
  | .mk k _ n t _ _ _ _ a, acc => dirRs a (if k = 3 ∨ k = 4 then putS acc.1 n else acc.1, if k = 5 then putS acc.2 t else acc.2)
def dirRs : List Xpr → List Str × List Str → List Str × List Str
  | [], acc => acc
  | x :: r, acc => dirRs r (dirR x acc)
end
/-! N16 -/
def putAll (l : List Ftr) (acc : List Str) : List Str := l.foldl (fun acc f => putS acc f.name) acc
def namesC (c : Cat) : List Str := putAll c.features []
def bodyOf (c : Cat) (name : Str) : Xpr := ((ftrOf c.features name).getD noFtr).body
def nextR (c : Cat) (name : Str) : List Str := (dirR (bodyOf c name) ([], [])).1.filter fun n => (ftrOf c.features n).isSome
/-! N17 -/
def adjR (ns : List Str) (l : List Str) : List Nat := (List.range ns.length).filter fun k => hasS l (ns.getD k default)
def toR (c : Cat) (ns : List Str) : List (List Nat) := ns.map fun n => adjR ns (nextR c n)
def via (target : Nat) (d : List Nat) (t : Nat) : Nat := if t = target then 1 else d.getD t 0 + 1
def relax1 (target i : Nat) (d : List Nat) (t : Nat) : List Nat := if via target d t < d.getD i 0 then d.set i (via target d t) else d
def relaxRow (target i : Nat) (r : List Nat) (d : List Nat) : List Nat := r.foldl (relax1 target i) d
def sweepTo (to : List (List Nat)) (target n : Nat) (d : List Nat) : List Nat := (List.range n).foldl (fun d i => relaxRow target i (to.getD i []) d) d
def settle (to : List (List Nat)) (target : Nat) : Nat → List Nat → List Nat
  | 0, d => d
  | f + 1, d => if sweepTo to target to.length d = d then d else settle to target f (sweepTo to target to.length d)
def stepsR (to : List (List Nat)) (target : Nat) : List Nat := settle to target (1000 * to.length) (List.replicate to.length 1000)
/-! N19 -/
def bestR (to : List (List Nat)) : Nat → Int × Nat
  | 0 => (-1, 1000)
  | i + 1 => if (stepsR to i).getD i 0 < (bestR to i).2 then ((i : Int), (stepsR to i).getD i 0) else bestR to i
def nextAt (to : List (List Nat)) (d : List Nat) (at_ n : Nat) : Nat := ((to.getD at_ []).takeWhile fun t => !decide (d.getD t 0 = n)).length
def pathR (to : List (List Nat)) (d : List Nat) : Nat → Nat → List Nat
  | 0, _ => []
  | n + 1, at_ => (to.getD at_ []).getD (nextAt to d at_ (n + 1)) 0 :: pathR to d n ((to.getD at_ []).getD (nextAt to d at_ (n + 1)) 0)
def cycleOf (ns : List Str) (to : List (List Nat)) : List Str :=
  if (bestR to ns.length).1 < 0 then [] else
    ns.getD (bestR to ns.length).1.toNat default :: (pathR to (stepsR to (bestR to ns.length).1.toNat) ((bestR to ns.length).2 - 1) (bestR to ns.length).1.toNat).map fun k => ns.getD k default
/-! N21 -/
def cycleR (c : Cat) : List Str := cycleOf (namesC c) (toR c (namesC c))
def versR (c : Cat) : List Ftr := c.features ++ c.drafts ++ c.past
def leS (a b : Str) : Bool := Op.bytesLess a b || decide (a = b)
def gtP (p : Option Str) (n : Str) : Bool := match p with | none => false | some m => leS n m
def tabsE : Option Str → List Tbl → Int
  | _, [] => 0
  | p, t :: r => if tableR t ≠ 0 then tableR t else if gtP p t.name = true then 1 else tabsE (some t.name) r
theorem tabsE_cons (p : Option Str) (t : Tbl) (r : List Tbl) : tabsE p (t :: r) = if tableR t ≠ 0 then tableR t else if gtP p t.name = true then 1 else tabsE (some t.name) r := rfl
def prevT (l : List Tbl) (i : Nat) : Option Str := if i = 0 then none else some (l.getD (i - 1) default).name
def ownR (f : Ftr) : Int := if (!(refName f.name && refName f.entity) || decide (f.version < 1) || decide (1099511627776 < f.version)) = true then 1 else if typeR f.typ ≠ 0 then typeR f.typ else shapeR f.body
/-! N22 -/
def sameV (f : Ftr) (g : Ftr) : Bool := decide (g.name = f.name) && decide (g.version = f.version)
def firstV (nf np i : Nat) : Bool := decide (i = 0) || decide (i = nf) || decide (i = np)
def badV (nf np i : Nat) (p f : Ftr) : Bool := !firstV nf np i && (Op.bytesLess f.name p.name || decide (i < np) && decide (f.name = p.name))
def versE (nf np : Nat) : List Ftr → List Ftr → Int
  | _, [] => 0
  | seen, f :: r => if ownR f ≠ 0 then ownR f else if badV nf np seen.length (seen.getD (seen.length - 1) default) f = true then 1 else if seen.any (sameV f) = true then 121 else versE nf np (seen ++ [f]) r
def featsE (c : Cat) : List Ftr → Int
  | [] => 0
  | f :: r => if featureR c f ≠ 0 then featureR c f else featsE c r
def checkR (c : Cat) : Int :=
  if 16 < c.tables.length ∨ 32 < c.features.length ∨ 32 < c.drafts.length ∨ 32 < c.past.length then 2
  else if tabsE none c.tables ≠ 0 then tabsE none c.tables
  else if versE c.features.length (c.features.length + c.drafts.length) [] (versR c) ≠ 0 then versE c.features.length (c.features.length + c.drafts.length) [] (versR c)
  else if featsE c c.features ≠ 0 then featsE c c.features
  else if cycleR c ≠ [] then 120 else 0
theorem take_snoc {α : Type} [Inhabited α] {l : List α} {i : Nat} (h : i < l.length) : l.take (i + 1) = l.take i ++ [l.getD i default] := by simp_all
/-! N23 -/
def cmpI (a b : Int) : Int := if a < b then -1 else if b < a then 1 else 0
def cmpId (a b : Fid) : Int := if Op.bytesLess a.source b.source = true then -1 else if a.source = b.source then cmpI a.seq b.seq else 1
def cmpRow (a b : Rw) : Int := if cmpI a.event b.event ≠ 0 then cmpI a.event b.event else cmpId a.id b.id
/-! N24 -/
def ftrIx (l : List Ftr) (name : Str) : Int := idxOf (fun f : Ftr => decide (f.name = name)) l
def lastTo (l : List Ftr) (name : Str) : Nat → Int
  | 0 => -1
  | i + 1 => if (l.getD i default).name = name then (i : Int) else lastTo l name i
def lastIx (l : List Ftr) (name : Str) : Int := lastTo l name l.length
def delAt {α : Type} (l : List α) (k : Nat) : List α := l.take k ++ l.drop (k + 1)
def cutF (l : List Ftr) (name : Str) : Nat := (l.takeWhile fun g => leS g.name name).length
def insF (l : List Ftr) (f : Ftr) : List Ftr := insAt l (cutF l f.name) f
def eCE (r : Cat × Int) : I := .tup [.agg (eCat r.1), iI r.2]
abbrev noCatC : List D := [.i (.sl []), .i (.sl []), .i (.sl []), .i (.sl [])]
def cutT (l : List Tbl) (name : Str) : Nat := (l.takeWhile fun g => leS g.name name).length
def insT (l : List Tbl) (t : Tbl) : List Tbl := insAt l (cutT l t.name) t
def tableC (c : Cat) (t : Tbl) : Cat × Int := if (tblOf c.tables t.name).isSome = true then (noCat, 121) else ({ c with tables := insT c.tables t }, 0)
theorem eTbl_len (t : Tbl) : (eTbl t).length = 4 := rfl
theorem eTbl_one (t : Tbl) : (eTbl t).all I.one = true := rfl
def newTo (name : Str) (n : Int) (f : Ftr) : Int := if f.name = name then (if n ≤ f.version then f.version else n) else n
def newestR (c : Cat) (name : Str) : Int := (versR c).foldl (newTo name) 0
/-! N25 -/
theorem ftrIx_cases (l : List Ftr) (name : Str) : (ftrIx l name = -1 ∧ ftrOf l name = none) ∨ ∃ i : Nat, ftrIx l name = (i : Int) ∧ i < l.length ∧ ftrOf l name = some (l.getD i default) := by
  have h0 : ftrIx l name = -1 ∨ 0 ≤ ftrIx l name := by grind [ftrIx,idxOf]
  rcases idx_find (fun f : Ftr => decide (f.name = name)) l with ⟨h1, h2⟩ | ⟨h1, h2, h3⟩
  · have h1 : ftrIx l name < 0 := h1
    exact .inl ⟨by omega, h2⟩
  · have h1 : 0 ≤ ftrIx l name := h1
    exact .inr ⟨(ftrIx l name).toNat, by omega, h2, h3⟩
theorem eFtr_eq (f : Ftr) : eFtr f = [.str f.name, .str f.entity, .int .i64 f.typ.kind, .sl (f.typ.unit.map eFac), .str f.typ.of, .int .i64 f.body.kind, .str f.body.op, .str f.body.name, .str f.body.table, .int .i64 f.body.val.kind, .int .i64 f.body.val.n, .str f.body.val.s, .sl (f.body.unit.map eFac), .int .i64 f.body.param, .int .i64 f.body.win.kind, .int .i64 f.body.win.size, .sl (f.body.args.map eE), .int .i64 f.version] := by simp [eFtr,eTyp,eE_eq2]
theorem lastTo_cases (l : List Ftr) (name : Str) : ∀ n, lastTo l name n = -1 ∨ ∃ i : Nat, lastTo l name n = (i : Int) ∧ i < n ∧ (l.getD i default).name = name
  | 0 => .inl rfl
  | n + 1 => by
    unfold lastTo; split
    · rename_i h; exact .inr ⟨n, rfl, by omega, h⟩
    · rcases lastTo_cases l name n with h | ⟨i, h1, h2, h3⟩
      · exact .inl h
      · exact .inr ⟨i, h1, by omega, h3⟩
def remC (c : Cat) (name : Str) : Cat × Int := if ftrIx c.drafts name < 0 then (noCat, 4) else ({ c with drafts := delAt c.drafts (ftrIx c.drafts name).toNat }, 0)
def enforceC (c : Cat) (name : Str) : Cat × Int :=
  if ftrIx c.drafts name < 0 then (noCat, 4)
  else if ftrIx c.features name < 0 then (⟨c.tables, insF c.features (c.drafts.getD (ftrIx c.drafts name).toNat default), delAt c.drafts (ftrIx c.drafts name).toNat, c.past⟩, 0)
  else (⟨c.tables, insF (delAt c.features (ftrIx c.features name).toNat) (c.drafts.getD (ftrIx c.drafts name).toNat default), delAt c.drafts (ftrIx c.drafts name).toNat, insF c.past (c.features.getD (ftrIx c.features name).toNat default)⟩, 0)
def rollbackC (c : Cat) (name : Str) : Cat × Int :=
  if ftrIx c.features name < 0 then (noCat, 4)
  else if lastIx c.past name < 0 ∨ 0 ≤ ftrIx c.drafts name then (noCat, 140)
  else (⟨c.tables, insF (delAt c.features (ftrIx c.features name).toNat) (c.past.getD (lastIx c.past name).toNat default), insF c.drafts (c.features.getD (ftrIx c.features name).toNat default), delAt c.past (lastIx c.past name).toNat⟩, 0)
def withV (f : Ftr) (v : Int) : Ftr := ⟨f.name, f.entity, f.typ, f.body, v⟩
def publishC (c : Cat) (f : Ftr) : Cat × Int :=
  if f.version ≠ 0 then (noCat, 1) else if 0 ≤ ftrIx c.drafts f.name then (noCat, 121) else if featureR c f ≠ 0 then (noCat, featureR c f)
  else if 1099511627776 ≤ newestR c f.name then (noCat, 2) else ({ c with drafts := insF c.drafts (withV f (newestR c f.name + 1)) }, 0)
/-! N26 -/
def eqChg (a b : Chg) : Bool := decide (a.kind = b.kind) && decide (a.name = b.name) && eqTbl a.table b.table && eqFtr a.feature b.feature
def properY (x : Chg) : Chg := if x.kind = 1 then ⟨x.kind, x.table, noFtr, []⟩ else if x.kind = 2 then ⟨x.kind, noTbl, x.feature, []⟩ else ⟨x.kind, noTbl, noFtr, x.name⟩
def properR (x : Chg) : Bool := if 1 ≤ x.kind ∧ x.kind ≤ 5 then eqChg x (properY x) else false
def changedR (c : Cat) (x : Chg) : Cat × Int :=
  if x.kind = 1 then tableC c x.table else if x.kind = 2 then publishC c x.feature else if x.kind = 3 then enforceC c x.name else if x.kind = 4 then rollbackC c x.name else remC c x.name
theorem bSum_app {α : Type} (b : α → Nat) (l r : List α) : bSum b (l ++ r) = bSum b l + bSum b r := by
  induction l with
  | nil => simp [bSum]
  | cons a l ih => simp only [List.cons_append, bSum, ih]; omega
theorem bSum_take {α : Type} (b : α → Nat) (l : List α) (k : Nat) : bSum b (l.take k) + bSum b (l.drop k) = bSum b l := by rw [← bSum_app, List.take_append_drop]
theorem bSum_ins {α : Type} (b : α → Nat) (l : List α) (k : Nat) (x : α) : bSum b (insAt l k x) = bSum b l + b x := by grind [bSum_take,insAt,bSum_app,bSum]
theorem bSum_insF (l : List Ftr) (f : Ftr) : bSum bFtr (insF l f) = bSum bFtr l + bFtr f := bSum_ins bFtr l _ f
theorem bSum_del {α : Type} [Inhabited α] (b : α → Nat) (l : List α) (k : Nat) (h : k < l.length) : bSum b (delAt l k) + b (l.getD k default) = bSum b l := by grind [bSum_take,drop_c,delAt,bSum_app,bSum]
theorem bFtr_ver (f : Ftr) (v : Int) : bFtr (withV f v) = bFtr f := rfl
theorem changed_b (c : Cat) (x : Chg) : bCat (changedR c x).1 ≤ bCat c + bChg x := by
  have hx := bChg_eq x
  have hc := bCat_eq c
  have hn : bCat noCat = 1 := rfl
  unfold changedR
  split
  · unfold tableC; split
    · show bCat noCat ≤ _; omega
    · show bCat { c with tables := insT c.tables x.table } ≤ _
      have := bSum_ins bTbl c.tables (cutT c.tables x.table.name) x.table
      rw [bCat_eq]; simp only [insT]; omega
  split
  · unfold publishC; repeat' split
    all_goals first | (show bCat noCat ≤ _; omega) | skip
    have h2 := bFtr_ver x.feature (newestR c x.feature.name + 1)
    generalize withV x.feature (newestR c x.feature.name + 1) = g at h2 ⊢
    have h1 := bSum_insF c.drafts g
    have h3 := bCat_eq ⟨c.tables, c.features, insF c.drafts g, c.past⟩
    simp only at h3
    rw [h1, h2] at h3
    exact (show bCat ⟨c.tables, c.features, insF c.drafts g, c.past⟩ ≤ _ by rw [h3]; omega)
  split
  · unfold enforceC
    rcases ftrIx_cases c.drafts x.name with ⟨e, _⟩ | ⟨i, e, hi, _⟩
    · rw [e, if_pos (by omega)]; show bCat noCat ≤ _; omega
    · rw [e, if_neg (by omega)]
      have d1 := bSum_del bFtr c.drafts i hi
      rcases ftrIx_cases c.features x.name with ⟨e', _⟩ | ⟨j, e', hj, _⟩
      · rw [e', if_pos (by omega)]
        simp only [Int.toNat_natCast]
        have := bSum_ins bFtr c.features (cutF c.features (c.drafts.getD i default).name) (c.drafts.getD i default)
        rw [bCat_eq]; simp only [insF]; omega
      · rw [e', if_neg (by omega)]
        simp only [Int.toNat_natCast]
        have d2 := bSum_del bFtr c.features j hj
        have s1 := bSum_ins bFtr (delAt c.features j) (cutF (delAt c.features j) (c.drafts.getD i default).name) (c.drafts.getD i default)
        have s2 := bSum_ins bFtr c.past (cutF c.past (c.features.getD j default).name) (c.features.getD j default)
        rw [bCat_eq]; simp only [insF]; omega
  split
  · unfold rollbackC
    rcases ftrIx_cases c.features x.name with ⟨e, _⟩ | ⟨j, e, hj, _⟩
    · rw [e, if_pos (by omega)]; show bCat noCat ≤ _; omega
    · rw [e, if_neg (by omega)]
      split
      · show bCat noCat ≤ _; omega
      · rename_i hq
        rcases lastTo_cases c.past x.name c.past.length with e3 | ⟨o, e3, ho, _⟩
        · have e3' : lastIx c.past x.name = -1 := e3
          omega
        · have e3' : lastIx c.past x.name = (o : Int) := e3
          rw [e3']
          simp only [Int.toNat_natCast]
          have d2 := bSum_del bFtr c.features j hj
          have d3 := bSum_del bFtr c.past o ho
          have s1 := bSum_ins bFtr (delAt c.features j) (cutF (delAt c.features j) (c.past.getD o default).name) (c.past.getD o default)
          have s2 := bSum_ins bFtr c.drafts (cutF c.drafts (c.features.getD j default).name) (c.features.getD j default)
          rw [bCat_eq]; simp only [insF]; omega
  · unfold remC
    rcases ftrIx_cases c.drafts x.name with ⟨e, _⟩ | ⟨i, e, hi, _⟩
    · rw [e, if_pos (by omega)]; show bCat noCat ≤ _; omega
    · rw [e, if_neg (by omega)]
      simp only [Int.toNat_natCast]
      have d1 := bSum_del bFtr c.drafts i hi
      rw [bCat_eq]; simp only; omega
def errR (c : Cat) (x : Chg) : Int := if (changedR c x).2 = 0 then checkR (changedR c x).1 else (changedR c x).2
def applyR (c : Cat) (x : Chg) : Cat × Int := if properR x = false then (noCat, 1) else if errR c x ≠ 0 then (noCat, errR c x) else ((changedR c x).1, 0)
/-! N27 -/
theorem beqS (a b : Str) : (a == b) = decide (a = b) := by grind
theorem beqI (a b : Int) : (a == b) = decide (a = b) := by rfl
/-! N29 -/
theorem row_one {α : Type} {f : α → List I} {k : Nat} (h1 : ∀ x, (f x).length = k) (h2 : ∀ x, (f x).all I.one = true) (a : α) : (∀ r ∈ [f a], r.length = k) = True ∧ (∀ r ∈ [f a], r.all I.one = true) = True := by grind
/-! E19 -/
theorem callG_N {P : Program} {GG : List (Nat × List I)} {f : FuncId} {nm k : Nat} {os : List O} {st : St} {d : Option Nat} {K : St → Prop} {ds : List D} {sto : List (Nat × Blk)} {mv : List Nat} {R : D → List (Nat × Blk) → Prop} (h : MC P GG f ds sto mv R) (hds : os.map (opvN GG nm k st) = ds) (hnm : (getS st.sto nm).isSome = true) (h1 : subS sto st.sto)
    (h2 : (clS sto sto && (ds.all fun x => inS sto x.nms) && (mv.all fun m => Nat.blt m 5000 || Nat.ble 5500 m)) = true) (hk : ∀ r sto', R r sto' → ((renS (d.getD 999) sto').map (·.1)).all (fun nm => (getS sto nm).isSome || ((getS st.sto nm).isNone && Nat.blt nm 5000)) = true ∧
      (sto.map (·.1)).all (fun nm => (getS sto' nm).isNone || ren (d.getD 999) nm == nm) = true ∧ K (putO (callSt st sto sto' mv (d.getD 999)) d (renD (d.getD 999) r))) : callG P GG (getN GG f nm k os) st d K := by
  subst hds
  rw [Bool.and_eq_true, Bool.and_eq_true] at h2
  unfold callG
  refine ⟨[], ?_⟩
  have e : getN GG f nm k os (frzNs [] st) = some (f, os.map (opvN GG nm k st)) := if_pos hnm
  rw [e]
  refine .inl ⟨sto, mv, R, h, h1, h2.1.1, h2.1.2, h2.2, fun r s hr => ?_⟩
  obtain ⟨k1, k2, k3⟩ := hk r s hr
  rw [List.all_eq_true] at k1 k2
  refine ⟨fun nm hm => ?_, fun nm hm hs => ?_, k3⟩
  · have := k1 nm hm
    rw [Bool.or_eq_true, Bool.and_eq_true] at this
    rcases this with e | ⟨e1, e2⟩
    · exact .inl e
    · exact .inr ⟨by show getS st.sto nm = none; simpa using e1, by simpa using e2⟩
  · have := k2 nm hm
    rw [Bool.or_eq_true] at this
    rcases this with e | e
    · cases hg : getS s nm <;> simp [hg] at e hs
    · simpa using e
/-! N33 -/
def cutR (l : List Rw) (r : Rw) : Nat → Nat
  | 0 => 0
  | k + 1 => if 0 < cmpRow (l.getD k default) r then cutR l r k else k + 1
def putRow (l : List Rw) (r : Rw) : List Rw := insAt l (cutR l r l.length) r
/-! E3 -/
def noExprR (x : Xpr) : Bool := decide (x.kind = 0) && decide (x.op = []) && decide (x.name = []) && decide (x.table = []) && decide (x.val = noVal) && decide ((x.unit.length : Int) = 0) && decide (x.param = 0) && decide (x.win = noWin) && decide ((x.args.length : Int) = 0)
theorem val_eq (a b : Val) : decide (a = b) = (decide (a.kind = b.kind) && (decide (a.n = b.n) && decide (a.s = b.s))) := by cases a; cases b; simp
theorem win_eq (a b : Win) : decide (a = b) = (decide (a.kind = b.kind) && decide (a.size = b.size)) := by cases a; cases b; simp
theorem eqL_nilr {α β : Type} (p : α → β → Bool) (l : List α) : eqL p l [] = decide ((l.length : Int) = 0) := by
  cases l with
  | nil => rfl
  | cons a r => rw [decide_eq_false (by simp; omega)]; rfl
theorem noExpr_eq (x : Xpr) : eqX x noX = noExprR x := by
  rw [eqX_at]
  have e1 : eqL eqFac x.unit noX.unit = decide ((x.unit.length : Int) = 0) := eqL_nilr _ _
  have e2 : eqL eqX x.args noX.args = decide ((x.args.length : Int) = 0) := eqL_nilr _ _
  rw [e1, e2]
  have f1 : noX.kind = 0 := rfl
  have f2 : noX.op = [] := rfl
  have f3 : noX.name = [] := rfl
  have f4 : noX.table = [] := rfl
  have f5 : noX.val = noVal := rfl
  have f6 : noX.param = 0 := rfl
  have f7 : noX.win = noWin := rfl
  have f8 : (noX.args.length : Int) = 0 := rfl
  rw [f1, f2, f3, f4, f5, f6, f7, f8]
  simp only [noExprR, val_eq, win_eq, eqVal, beqS, beqI]
  grind
theorem noTyp_eq (t : Typ) : eqTyp t noTyp = (decide (t.kind = 0) && decide (t.of = []) && decide ((t.unit.length : Int) = 0)) := by
  unfold eqTyp
  have e1 : eqL eqFac t.unit noTyp.unit = decide ((t.unit.length : Int) = 0) := eqL_nilr _ _
  rw [e1]
theorem noTbl_eq (t : Tbl) : eqTbl t noTbl = (decide (t.name = []) && decide (t.entity = []) && decide (t.keep = 0) && decide ((t.fields.length : Int) = 0)) := by
  unfold eqTbl
  have e1 : eqL eqFld t.fields noTbl.fields = decide ((t.fields.length : Int) = 0) := eqL_nilr _ _
  grind
theorem noFtr_eq (f : Ftr) : eqFtr f noFtr = (decide (f.typ.kind = 0) && decide (f.typ.of = []) && decide ((f.typ.unit.length : Int) = 0) && noExprR f.body && decide (f.name = []) && decide (f.entity = []) && decide (f.version = 0)) := by simp [eqFtr,noTyp_eq,noExpr_eq]
@[go_sem] theorem ftr_f2 (f : Ftr) : pk false (eFtr f) 2 1 = .int .i64 f.typ.kind := by rfl
@[go_sem] theorem ftr_f3 (f : Ftr) : pk false (eFtr f) 3 1 = .sl (f.typ.unit.map eFac) := by rfl
@[go_sem] theorem ftr_f4 (f : Ftr) : pk false (eFtr f) 4 1 = .str f.typ.of := by rfl
/-! E4 -/
theorem noTable_is (t : Tbl) : Is mx 259 [.agg (eTbl t)] (.bool (eqTbl t noTbl)) := by
  refine MX F259 ?_
  refine Kbn ?_
  all_goals intros
  all_goals (refine congrArg I.bool ?_; simp only [noTbl_eq]; first | done | (grind (splits := 20)))
theorem noFeature_is (f : Ftr) : Is mx 256 [.agg (eFtr f)] (.bool (eqFtr f noFtr)) := by
  refine MX F256 ?_
  refine Kbn ?_
  all_goals intros
  all_goals (refine congrArg I.bool ?_; simp only [noFtr_eq, noExprR, val_eq, win_eq, beqS, beqI]; first | done | (grind (splits := 20)))
/-! E5 -/
/-! E6 -/
/-! E9 -/
theorem tblClone_mc (l : List Tbl) (hl : l.length ≤ 1073741824) : MC Tryz.prog (GLm mx) 334 [.i (.sl (l.map eTbl))] [] []
    (fun r s => r = .ref (.sl 6000 4 0 l.length) ∧ s = [(6000, .rows 77 4 (l.map eTbl))]) := by
  refine MX F334 ?_
  have hr := rows_ok (f := eTbl) (k := 4) l eTbl_len eTbl_one
  (repeat' first
| simp (disch := omega) only [go_sem, reduceCtorEq, Nat.reduceSub, Nat.reduceEqDiff, Nat.reduceLeDiff, Nat.zero_add]
| refine condJ_intro (fun h => ?_) (fun h => ?_) <;> (have h' := h; try simp only [HB] at h'; try rewrite [h]; try simp only [h])
| refine ct_I ?_
| refine isnil_I (fun hnil b => ?_) (fun hnil => ?_)
| fail)
  · have e : l = [] := by simpa using hnil
    subst e
    cases h'
    refine ret_M [(2, 6000)] (by simp only [go_sem, V10]; rfl) (by simp [V29]; rfl) (by decide) (by simp [V0, V11, V15, Ref.nm]) ?_
    simp [V29]
  · refine ⟨hr.1, hr.2, by omega, by omega, ?_⟩
    refine ret_M [(5, 6000)] (by simp only [go_sem, V10]; rfl) (by simp [V29]; rfl) (by decide) (by simp [V0, V11, V15, Ref.nm]) ?_
    simp [V29]
  · simp at h
  · refine ⟨hr.1, hr.2, by omega, by omega, ?_⟩
    refine ret_M [(5, 6000)] (by simp only [go_sem, V10]; rfl) (by simp [V29]; rfl) (by decide) (by simp [V0, V11, V15, Ref.nm]) ?_
    simp [V29]
theorem tblOverlaps_gen {α : Type} (E : α → List I) (hE1 : ∀ x, (E x).length = 4) (f : α) (rs : List (Option (List I))) (lo hi : Nat) : MC Tryz.prog (GLm mx) 393 [.i (.sl [E f]), .ref (.sl 5000 4 lo hi)] [(5000, .arr 77 4 rs)] [] (fun r s => r = .i (.bool false) ∧ s = [(5000, .arr 77 4 rs)]) := by
  have hc : ∀ vs w, (callFunc 393 vs).run Tryz.prog w = ((Extern.SlicesOverlaps.overlaps #[26, 26] #[4] vs).run Tryz.prog w).andThen fun v w' => .ok (.value v) w' :=
    fun vs w => run_callFunc_extern Tryz.func393 (by kernel_rfl) (by kernel_rfl) (by kernel_rfl) (by kernel_rfl) vs w
  exact overlaps_mc _ rs lo hi (by decide) (by intro r hr; rw [List.mem_singleton.1 hr]; exact hE1 f) hc (by kernel_rfl) (fun w => by rfl) (by decide)
theorem tblInsert_gen {α : Type} (E : α → List I) (hE1 : ∀ x, (E x).length = 4) (hE2 : ∀ x, (E x).all I.one = true) (l : List α) (k : Nat) (f : α) (hl : l.length ≤ 1073741824) (hk : k ≤ l.length) : MC Tryz.prog (GLm mx) 333 [.ref (.sl 5000 4 0 l.length), .i (iI k), .i (.sl [E f])] [(5000, .rows 77 4 (l.map E))] [5000]
    (fun r s => ∃ nm, (nm = 5000 ∨ nm = 6000) ∧ r = .ref (.sl nm 4 0 (l.length + 1)) ∧ s = [(nm, .rows 77 4 ((insAt l k f).map E))]) := by
  refine MC.rowsOut (MC_arr (R := fun r s => ∃ nm, (nm = 5000 ∨ nm = 6000) ∧ r = .ref (.sl nm 4 0 (l.length + 1)) ∧ ∃ j, s = [(nm, .arr 77 4 (((insAt l k f).map E).map some ++ j))]) fun c => ?_) fun r s ⟨nm, hn, hr, j, hs⟩ => ⟨nm, _, _, _, j, [], hs, nm, hn, hr, rfl⟩
  have h1 := rows_ok (l.take k) hE1 hE2
  have h2 := rows_ok (l.drop k) hE1 hE2
  have h0 := rows_ok l hE1 hE2
  have hf := rows_ok [f] hE1 hE2
  have e0 : (k : Int).toNat = k := by omega
  refine MX F333 ?_
  by_cases hkn : k = l.length
  · subst hkn
    (repeat' first
| simp (disch := omega) only [go_sem, reduceCtorEq, Nat.reduceAdd, Nat.reduceEqDiff, Nat.reduceLeDiff, Nat.zero_add, Nat.sub_zero, Nat.le_add_right]
| refine condJ_intro (fun h => ?_) (fun h => ?_) <;> (have h' := h; try simp only [HB] at h'; try rewrite [h]; try simp only [h])
| refine ct_I ?_
| (refine And.intro ?_ ?_; focus omega))
    · simp at h
    · refine ⟨hf, fun hroom => ?_, fun hfull => ⟨l.map E, ?_, h0, by omega, by omega, fun c1 => ?_⟩⟩
      · obtain ⟨c, rfl⟩ : ∃ d, c = d + 1 := ⟨c - 1, by simp at hroom; omega⟩
        generalize hq : setL (List.map some (List.map E l) ++ List.replicate (c + 1) none) l.length [some (E f)] = q
        have hz : q = List.map some ((insAt l l.length f).map E) ++ List.replicate c none := by grind [setL_end,insAt]
        refine ret_M [(5000, 5000)] (s' := [(5000, .arr 77 4 q)]) rfl rfl (by decide) rfl ⟨5000, .inl rfl, rfl, List.replicate c none, ?_⟩
        rw [← hz]; rfl
      · rw [List.take_left' (by simp), allK_map]
      · generalize hq : List.map some (List.map E l ++ [E f]) ++ List.replicate c1 (none : Option (List I)) = q
        have hz : q = List.map some ((insAt l l.length f).map E) ++ List.replicate c1 none := by grind [insAt]
        refine ret_M [(25, 6000)] (s' := [(25, .arr 77 4 q)]) rfl rfl (by decide) rfl ⟨6000, .inr rfl, rfl, List.replicate c1 none, ?_⟩
        rw [← hz]; rfl
  · have e1 : ((k : Int) = (l.length : Int)) = False := by simp; omega
    have e2 : ((0 : Nat) : Int) + 1 = 1 := rfl
    have e3 : (List.map some (List.map E l) ++ List.replicate c (none : Option (List I))).length = l.length + c := by simp
    have e9 : ((l.length : Int) + 1).toNat = l.length + 1 := by omega
    have e10 : ((k : Int) + 1).toNat = k + 1 := by omega
    rcases Nat.eq_zero_or_pos c with hc0 | hc0
    · subst hc0
      have e4 : (((l.length : Int) + 1) > ((l.length + 0 : Nat) : Int)) = True := by simp; omega
      have e5 : ((l.length : Int) + 1 - (k : Int)).toNat = l.length + 1 - k := by omega
      (repeat' first
| simp (disch := omega) only [go_sem, reduceCtorEq, Int.reduceLE, Int.reduceEq, Int.reduceAdd, Nat.reduceAdd, Nat.reduceEqDiff, Nat.zero_add, Nat.sub_zero, e0, e1, e2, e3, e4, e5, List.length_replicate]
| refine ct_I ?_
| (refine And.intro ?_ ?_; focus omega))
      refine ⟨⟨fun r hr => by rw [(List.mem_replicate.1 hr).2]; rfl, fun r hr => by rw [(List.mem_replicate.1 hr).2]; rfl⟩, fun h => absurd h (by omega), fun _ => ⟨(l.take k).map E, by rw [List.take_append_of_le_length (by simp; omega), ← List.map_take, ← List.map_take, allK_map], h1, by omega, by omega, fun c1 => ?_⟩⟩
      have e6 : k + (l.length + 1 - k) = l.length + 1 := by omega
      generalize hz0 : ([.str [], .str [], .sl [], .int .i64 0] : List I) = z0
      have e8 : (List.take k l).length + (List.replicate (l.length + 1 - k) z0).length + (List.replicate c1 (none : Option (List I))).length = l.length + 1 + c1 := by simp; omega
      have e11 : List.take (l.length + 1 - k) [E f] = [E f] := List.take_of_length_le (by simp; omega)
      have e7 : setL (List.map some (List.map E (List.take k l) ++ List.replicate (l.length + 1 - k) z0) ++ List.replicate c1 none) k [some (E f)] = List.map some (List.map E (List.take k l) ++ [E f] ++ List.replicate (l.length - k) z0) ++ List.replicate c1 none := by
        have : l.length + 1 - k = (l.length - k) + 1 := by omega
        grind [setL_mid]
      (repeat' first
| simp (disch := omega) only [go_sem, reduceCtorEq, Nat.reduceEqDiff, Nat.zero_add, Nat.sub_zero, Nat.le_add_right, e0, e6, e7, e8, e9, e11]
| (refine And.intro ?_ ?_; focus omega))
      refine ⟨hf, ?_⟩
      (repeat' first
| simp (disch := omega) only [go_sem, reduceCtorEq, Nat.reduceEqDiff, Nat.zero_add, Nat.sub_zero, e9, e10]
| refine drJ_I ?_
| (refine And.intro ?_ ?_; focus omega))
      have e18 : (List.take k l).length + 1 + (List.replicate (l.length - k) z0).length + (List.replicate c1 (none : Option (List I))).length = l.length + 1 + c1 := by simp; omega
      have e19 : setL (List.map some (List.map E (List.take k l) ++ [E f] ++ List.replicate (l.length - k) z0) ++ List.replicate c1 none) (k + 1) (List.map some (List.map E (List.drop k l))) = List.map some (List.map E (insAt l k f)) ++ List.replicate c1 none := by grind [setL_mid,insAt]
      have e12 : min l.length (k + (l.length + 1 - (k + 1))) = l.length := by omega
      have e13 : allK (List.drop k (List.take l.length (List.map some (List.map E l) ++ List.replicate 0 none))) = some ((l.drop k).map E) := by rw [List.take_left' (by simp), ← List.map_drop, allK_map, List.map_drop]
      have e20 : ((k : Int) + 1 ≤ (l.length : Int) + 1) = True := by simp; omega
      (repeat' first
| simp (disch := omega) only [go_sem, reduceCtorEq, Nat.reduceEqDiff, Nat.zero_add, Nat.sub_zero, Nat.le_add_right, e0, e3, e18, e19, e12, e13, e20]
| (refine And.intro ?_ ?_; focus omega))
      refine ⟨h2, ?_⟩
      generalize hq : List.map some (List.map E (insAt l k f)) ++ List.replicate c1 (none : Option (List I)) = q
      refine ret_M [(40, 6000)] (s' := [(40, .arr 77 4 q)]) rfl rfl (by decide) rfl ⟨6000, .inr rfl, rfl, List.replicate c1 none, ?_⟩
      rw [hq]; rfl
    · obtain ⟨c, rfl⟩ : ∃ d, c = d + 1 := ⟨c - 1, by omega⟩
      have hkl : k < l.length := by omega
      have e4 : (((l.length : Int) + 1) > ((l.length + (c + 1) : Nat) : Int)) = False := by simp; omega
      have m1 := tblOverlaps_gen (mx := mx) E hE1 f (List.map some (List.map E l) ++ List.replicate (c + 1) none) (k + 1) (l.length + 1)
      have e12 : min (l.length + 1) (k + (l.length + 1 - (k + 1))) = l.length := by omega
      have e13 : allK (List.drop k (List.take l.length (List.map some (List.map E l) ++ List.replicate (c + 1) none))) = some ((l.drop k).map E) := by rw [List.take_left' (by simp), ← List.map_drop, allK_map, List.map_drop]
      have e11 : List.take (l.length + 1 - k) [E f] = [E f] := List.take_of_length_le (by simp; omega)
      have e14 := setL_ins1 E l k c hkl
      have e15 := setL_ins2 E l f k c hkl
      have e16 : (List.map some (List.map E (List.take (k + 1) l ++ List.drop k l)) ++ List.replicate c (none : Option (List I))).length = l.length + 1 + c := by simp; omega
      (repeat' first
| simp (disch := omega) only [go_sem, reduceCtorEq, Int.reduceLE, Int.reduceEq, Nat.reduceAdd, Nat.reduceEqDiff, Nat.reduceLT, Nat.zero_add, Nat.sub_zero, Nat.le_add_right, e0, e1, e2, e3, e4, e9, e10, e12, e13, e14]
| refine ct_I ?_
| (refine callG_M (m1) ?_ (by simp [V0, V11]) (by simp [V0, V11, V15, Ref.nm]) (fun r sto' hR => ?_); (focus (first | rfl | (simp only [go_sem, reduceCtorEq, Int.reduceToNat, Int.reduceNeg, Int.reduceLT, Int.reduceLE, Int.reduceEq, Int.reduceAdd, Int.reduceSub, Int.reduceMul, Nat.reduceAdd, Nat.reduceSub, Nat.reduceMul, Nat.reduceEqDiff, Nat.reduceBEq, Nat.reduceBneDiff, Nat.reduceLeDiff, Nat.reduceLT, reduceIte, Nat.zero_add, Nat.sub_zero, h0, h1, h2, hf, Nat.le_add_right, e0, e1, e2, e3, e4, e9, e10, e12, e13, e11, e14, e15, e16]; done))); first | (obtain ⟨rfl, rfl⟩ := hR) | (obtain ⟨_, (rfl | rfl), rfl, rfl⟩ := hR))
| refine drJ_I ?_
| (refine And.intro ?_ ?_; focus omega))
      refine ⟨h2, ?_⟩
      have e17 : (List.take (k + 1) l).length + (List.drop k l).length + (List.replicate c (none : Option (List I))).length = l.length + 1 + c := by simp; omega
      (repeat' first
| simp (disch := omega) only [go_sem, reduceCtorEq, Nat.reduceEqDiff, Nat.zero_add, Nat.sub_zero, Nat.le_add_right, e0, e9, e11, e15, e16]
| (refine And.intro ?_ ?_; focus omega))
      refine ⟨hf, ?_⟩
      generalize hq : List.map some (List.map E (insAt l k f)) ++ List.replicate c (none : Option (List I)) = q
      refine ret_M [(5000, 5000)] (s' := [(5000, .arr 77 4 q)]) rfl rfl (by decide) rfl ⟨5000, .inl rfl, rfl, List.replicate c none, ?_⟩
      rw [hq]; rfl
theorem tblInsert_mc (l : List Tbl) (k : Nat) (f : Tbl) (hl : l.length ≤ 1073741824) (hk : k ≤ l.length) : MC Tryz.prog (GLm mx) 333 [.ref (.sl 5000 4 0 l.length), .i (iI k), .i (.sl [eTbl f])] [(5000, .rows 77 4 (l.map eTbl))] [5000]
    (fun r s => ∃ nm, (nm = 5000 ∨ nm = 6000) ∧ r = .ref (.sl nm 4 0 (l.length + 1)) ∧ s = [(nm, .rows 77 4 ((insAt l k f).map eTbl))]) := tblInsert_gen (mx := mx) eTbl eTbl_len eTbl_one l k f hl hk
theorem tblInsert_at (nm : Nat) (hn : nm < 5000) (l : List Tbl) (k : Nat) (f : Tbl) (hl : l.length ≤ 1073741824) (hk : k ≤ l.length) : MC Tryz.prog (GLm mx) 333 [.ref (.sl nm 4 0 l.length), .i (iI k), .i (.sl [eTbl f])] [(nm, .rows 77 4 (l.map eTbl))] [nm]
    (fun r s => ∃ m, (m = nm ∨ m = 6000) ∧ r = .ref (.sl m 4 0 (l.length + 1)) ∧ s = [(m, .rows 77 4 ((insAt l k f).map eTbl))]) := by
  have e1 : sws [(5000, nm)] 5000 = nm := by rfl
  have e2 : sws [(5000, nm)] 6000 = 6000 := by grind [sws,sw]
  have h := (MC.as [(5000, nm)] (tblInsert_mc (mx := mx) l k f hl hk)).mono (R' := fun r s => ∃ m, (m = nm ∨ m = 6000) ∧ r = .ref (.sl m 4 0 (l.length + 1)) ∧ s = [(m, .rows 77 4 ((insAt l k f).map eTbl))]) (by
    rintro r s ⟨m, hm, h1, h2⟩
    have k := mpD_mpD (f := swi [(5000, nm)]) (g := sws [(5000, nm)]) (sws_swi _) r
    have k2 := mpS_mpS (f := swi [(5000, nm)]) (g := sws [(5000, nm)]) (sws_swi _) s
    rw [h1] at k
    rw [h2] at k2
    rcases hm with rfl | rfl
    · refine ⟨nm, .inl rfl, ?_, ?_⟩
      · rw [← k]; simp only [mpD, mpR, e1]
      · rw [← k2]; simp only [mpS, mpB, e1]
    · refine ⟨6000, .inr rfl, ?_, ?_⟩
      · rw [← k]; simp only [mpD, mpR, e2]
      · rw [← k2]; simp only [mpS, mpB, e2])
  simp only [List.map_cons, List.map_nil, mpD, mpR, mpS, mpB, e1] at h
  exact h
/-! E23 -/
theorem back_is (l : List Tbl) : Is mx 332 [.sl (l.map eTbl)] (.fn 392 [] [.elt [.sl (l.map eTbl)] 0]) := by
  refine MX F332 ?_
  exact Lbn trivial
def downs (l : List Tbl) : List (List I) := (List.range l.length).map fun j : Nat => [iI ((l.length : Int) - 1 - (j : Int)), .agg (eTbl (l.getD (l.length - 1 - j) default))]
theorem downs_len (l : List Tbl) : (downs l).length = l.length := by simp [downs]
theorem downs_get (l : List Tbl) {j : Nat} (h : j < l.length) : (downs l).getD j [] = [iI ((l.length : Int) - 1 - (j : Int)), .agg (eTbl (l.getD (l.length - 1 - j) default))] := by
  unfold downs
  rw [List.getD_eq_getElem?_getD, List.getElem?_map, List.getElem?_range h]; rfl
theorem backSeq (l : List Tbl) (hl : l.length ≤ 1073741824) : SeqC Tryz.prog (GLm mx) 392 [.elt [.sl (l.map eTbl)] 0] (downs l) := by
  intro y m mv N go hV hm hN hgo hstop hy
  rw [downs_len] at hN hstop
  have hk : ∀ k, okY mv (m k) = true := fun k => (hm k).1
  have g1 : ∀ k q, q < 5000 → getS (m k) q = none := fun k q hq => okY_none (hk k) hq
  have g2 : ∀ k q b, q < 5000 → sbS q b (m k) = m k := fun k q b hq => okY_sb (hk k) hq b
  have g3 : ∀ k q, q < 5000 → delS (m k) q = m k := fun k q hq => okY_del (hk k) hq
  have g4 : ∀ k, subS (m k) (m k) = True := fun k => eq_true (okY_self (hk k))
  have g5 : ∀ k, clS (m k) (m k) = true := fun k => okY_cl (hk k)
  have fin : ∀ (E : Env), resV [] ((m 0).map (·.1)) mv (fun r s => r = .i (.tup []) ∧ s = m N) ⟨E, m N⟩ := fun E => ret_Y (own := []) (hk N) rfl ⟨rfl, rfl⟩
  refine MX F392 ?_ (hpin := okY_pin (hk 0))
  (repeat' first
| simp (disch := omega) only [go_sem, reduceCtorEq, Nat.reduceAdd, Nat.reduceEqDiff, List.map_cons, List.map_nil]
| fail)
  refine loopT [0, 1] (by simp only [V0, V25, reduceIte, Nat.reduceEqDiff]; rfl) (fun i : Nat => [(3, .i (iI ((l.length : Int) - 1 - i)))]) (fun i => m i)
    (fun i => i ≤ N ∧ (i = N → N = l.length)) (fun i => l.length - i) 0 ⟨by omega, fun h => by
      by_cases hlt : N < l.length
      · have := (hstop hlt).1; omega
      · omega⟩ (by simp [V0, V11, V15, g4, g5]) ?_
  rintro i ⟨hi, hiN⟩
  by_cases hi' : i < l.length
  · have hcN : i < N := by
      rcases Nat.lt_or_ge i N with q | q
      · exact q
      · have := hiN (by omega); omega
    have y1 := hy _ hcN
    rw [downs_get l hi'] at y1
    have e1 : (l.length : Int) - 1 - i = ((l.length - 1 - i : Nat) : Int) := by omega
    have hge : decide (0 ≤ (l.length : Int) - 1 - i) = true := decide_eq_true (by omega)
    have hlt : l.length - 1 - i < l.length := by omega
    rw [e1] at y1
    rw [e1] at hge
    simp only [e1]
    (repeat' first
| simp (disch := omega) only [go_sem, reduceCtorEq, Nat.reduceAdd, Nat.reduceEqDiff, ltT hlt]
| refine ct_I ?_
| fail)
    simp only [eTbl] at y1
    refine callG_Y (own := []) (mj := m i) (mk := m (i + 1)) y1 (fun s e => by cases e; decide) (by simp only [getCv, getV, go_sem, reduceCtorEq, Nat.reduceEqDiff, List.map_cons, List.map_nil, List.append_nil, List.nil_append]) (hk _) (hk _) ((hm _).2.trans (hm _).2.symm) hV rfl [0, 1, 3, 8] (by simp only [V0, V25, reduceIte, Nat.reduceEqDiff]; rfl) (by simp only [go_sem, List.all_cons, List.all_nil]) ?_
    cases hgk : go i
    · (repeat' first
| simp (disch := omega) only [go_sem, reduceCtorEq, Nat.reduceEqDiff, List.nil_append]
| fail)
      have hkN : i + 1 = N := by
        rcases Nat.lt_or_ge (i + 1) N with q | q
        · have := hgo i q; rw [hgk] at this; cases this
        · omega
      rw [hkN]
      exact fin _
    · (repeat' first
| simp (disch := omega) only [go_sem, reduceCtorEq, Nat.reduceEqDiff, List.nil_append]
| fail)
      have e2 : ((l.length - 1 - i : Nat) : Int) - 1 = (l.length : Int) - 1 - ((i + 1 : Nat) : Int) := by omega
      refine ⟨i + 1, ⟨by omega, fun h => ?_⟩, by omega, by rw [e2], by first | exact okY_self (hk _) | exact ⟨okY_self (hk _), g5 _⟩⟩
      rcases Nat.lt_or_ge N l.length with q | q
      · have h2 := (hstop q).2
        have h3 : N - 1 = i := by omega
        rw [h3, hgk] at h2; cases h2
      · omega
  · have e : i = l.length := by omega
    subst e
    have hge : decide (0 ≤ (l.length : Int) - 1 - l.length) = false := decide_eq_false (by omega)
    refine Lan hge ?_
    rw [show l.length = N by omega]
    exact fin _
def addP (c : Cat) (t : Tbl) : Cat × Int := if (tblOf c.tables t.name).isSome = true then (c, 121) else ({ c with tables := insT c.tables t }, 0)
theorem cutT_le (l : List Tbl) (name : Str) : cutT l name ≤ l.length := (List.takeWhile_prefix _).length_le
def atP (l : List Tbl) (name : Str) (i : Nat) : Nat := i + cutT (l.drop i) name
theorem atP_end (l : List Tbl) (name : Str) : atP l name l.length = l.length := by simp [atP, cutT]
theorem atP_step (l : List Tbl) (name : Str) {i : Nat} (h : i < l.length) : atP l name i = if leS (l.getD i default).name name = true then atP l name (i + 1) else i := by
  unfold atP
  rw [List.drop_eq_getElem_cons h, getD_lt h]
  unfold cutT
  rw [List.takeWhile_cons]
  split <;> simp; omega
theorem tblOf_none {l : List Tbl} {name : Str} (h : (tblOf l name).isSome = false) : ∀ t ∈ l, t.name ≠ name := by
  intro t ht e
  unfold tblOf at h
  simp at h
  exact h t ht e
theorem last_at {l : List Tbl} {name : Str} (h : (tblOf l name).isSome = true) : ∃ p, p < l.length ∧ (l.getD p default).name = name ∧ ∀ k, p < k → k < l.length → (l.getD k default).name ≠ name := by
  have hx : ∃ t ∈ l, t.name = name := by
    unfold tblOf at h
    simpa using h
  clear h
  induction l with
  | nil => obtain ⟨t, ht, _⟩ := hx; cases ht
  | cons a r ih =>
    by_cases hr : ∃ t ∈ r, t.name = name
    · obtain ⟨p, h1, h2, h3⟩ := ih hr
      refine ⟨p + 1, by simpa using h1, by simpa using h2, fun k hk hl => ?_⟩
      cases k with
      | zero => omega
      | succ k => simpa using h3 k (by omega) (by simpa using hl)
    · obtain ⟨t, ht, e⟩ := hx
      rcases List.mem_cons.1 ht with rfl | ht
      · refine ⟨0, by simp, by simpa using e, fun k hk hl => ?_⟩
        cases k with
        | zero => omega
        | succ k =>
          have hl2 : k < r.length := by simpa using hl
          intro e2
          exact hr ⟨r.getD k default, getD_mem hl2, by simpa using e2⟩
      · exact absurd ⟨t, ht, e⟩ hr
theorem addTable_is (c : Cat) (x : Chg) (hl : c.tables.length ≤ 1073741823) : Is mx 254 [.agg (eCat c), .agg (eChg x)] (eCE (addP c x.table)) := by
  have b1 := back_is (mx := mx) c.tables
  have hs := backSeq (mx := mx) c.tables (by omega)
  have hx := @downs_get c.tables
  have hxl := downs_len c.tables
  generalize downs c.tables = xs at hs hx hxl
  refine MX F254 ?_
  refine Kan b1 ?_
  cases ht : (tblOf c.tables x.table.name).isSome
  · have hno := tblOf_none ht
    rw [addP, if_neg (by rw [ht]; simp)]
    refine rf_I (gf := 392) rfl (by kernel_rfl) hs [(2, 5002), (4, 5004), (5, 5005), (6, 5006)] [.any, .any, .ref (.loc 5002 0), .i (.elt (eChg x) 0), .ref (.loc 5004 0), .ref (.loc 5005 0), .ref (.loc 5006 0), .any, .any, .any, .any, .any, .any, .any, .any, .any, .any, .any, .any, .any, .any, .any, .any, .any, .any, .any, .any, .any, .any, .any, .any, .any, .any, .any, .any, .any, .any, .any, .any, .any, .any] (fun j => [(5002, .cells ((eCat c).map .i)), (5004, .cells noCatC), (5005, .cells [.i (iI 0)]), (5006, .cells [.i (iI (atP c.tables x.table.name (c.tables.length - j)))])]) [] xs.length .none
      ⟨by simp, fun _ => by simp, fun h => absurd rfl h⟩ rfl (fun j hj => ⟨rfl, rfl, rfl, rfl⟩) rfl (by simp [subL, getE, getL, mpD, mpR, swi, sw]) rfl (by simp [mpS, mpB, mpD, swi, sw, subS, getS, atP_end, eCat]) (fun j hj => ⟨by rw [hx (by omega)]; rfl, ?_⟩) ?_
    · have hj2 : j < c.tables.length := by omega
      have hlt : c.tables.length - 1 - j < c.tables.length := by omega
      have hst := atP_step c.tables x.table.name hlt
      have e2 : c.tables.length - j = c.tables.length - 1 - j + 1 := by omega
      have e3 : c.tables.length - (j + 1) = c.tables.length - 1 - j := by omega
      have e4 : (c.tables.length : Int) - 1 - (j : Int) = ((c.tables.length - 1 - j : Nat) : Int) := by omega
      rw [hx hj2, ite_self, e2, e3, e4, hst]
      have hne := hno _ (getD_mem hlt)
      generalize c.tables.getD (c.tables.length - 1 - j) default = t at hne ⊢
      unfold leS
      simp only [setP, env0, Nat.reduceAdd]
      cases hb : Op.bytesLess t.name x.table.name
      · (repeat' first
| simp (disch := omega) only [go_sem, reduceCtorEq, Nat.reduceAdd, Nat.reduceEqDiff, Nat.reduceLeDiff, thenN, rfK, eChg_eq, eq_false hne, decide_false, Bool.or_false, hb]
| refine ct_I ?_
| fail)
        all_goals (refine ⟨rfl, [], ?_⟩; simp (disch := omega) only [go_sem, Nat.reduceEqDiff]; try exact ⟨rfl, rfl, rfl, rfl⟩)
      · (repeat' first
| simp (disch := omega) only [go_sem, reduceCtorEq, Nat.reduceAdd, Nat.reduceEqDiff, Nat.reduceLeDiff, thenN, rfK, eChg_eq, eq_false hne, decide_false, Bool.or_false, hb]
| refine ct_I ?_
| fail)
        all_goals (refine ⟨rfl, [], ?_⟩; simp (disch := omega) only [go_sem, Nat.reduceEqDiff]; try exact ⟨rfl, rfl, rfl, rfl⟩)
    · refine ⟨by simp [mpS, mpB, mpD, swi, sw, renS, ren, getS], by simp [mpS, mpB, mpD, swi, sw, ren, getS], rfl, ?_⟩
      show blockK 0 _ .normal _
      have hz : atP c.tables x.table.name (c.tables.length - xs.length) = cutT c.tables x.table.name := by rw [hxl, Nat.sub_self]; simp [atP]
      rw [hz]
      have hle := cutT_le c.tables x.table.name
      have m1 := tblClone_mc (mx := mx) c.tables (by omega)
      have m2 := tblInsert_at (mx := mx) 33 (by decide) c.tables (cutT c.tables x.table.name) x.table (by omega) hle
      have e5 : (insT c.tables x.table).length = c.tables.length + 1 := by unfold insT insAt; simp; omega
      unfold insT at e5 ⊢
      simp only [eTbl] at m2
      (repeat' first
| simp (disch := omega) only [go_sem, Nat.reduceAdd, Nat.reduceSub, Nat.reduceEqDiff, Nat.reduceBEq, Nat.reduceLeDiff, mpS, mpB, mpD, swi, sw, renS, ren, eChg_eq, e5, nmO, D.nms, List.append_nil, List.nil_append, List.contains_nil]
| (refine callO_M (m1) ?_ rfl (fun r sto' hR => ?_); (focus (first | rfl | (simp only [go_sem, reduceCtorEq, Int.reduceToNat, Int.reduceNeg, Int.reduceLT, Int.reduceLE, Int.reduceEq, Int.reduceAdd, Int.reduceSub, Int.reduceMul, Nat.reduceAdd, Nat.reduceSub, Nat.reduceMul, Nat.reduceEqDiff, Nat.reduceBEq, Nat.reduceBneDiff, Nat.reduceLeDiff, Nat.reduceLT, reduceIte, mpS, mpB, mpD, mpR, swi, sw, renS, ren, eChg_eq, e5, nmO, D.nms, List.append_nil, List.nil_append, List.contains_nil]; done))); first | (obtain ⟨rfl, rfl⟩ := hR) | (obtain ⟨_, (rfl | rfl), rfl, rfl⟩ := hR))
| (refine callG_M (m2) ?_ (by simp [V0, V11]) (by simp [V0, V11, V15, Ref.nm]) (fun r sto' hR => ?_); (focus (first | rfl | (simp only [go_sem, reduceCtorEq, Int.reduceToNat, Int.reduceNeg, Int.reduceLT, Int.reduceLE, Int.reduceEq, Int.reduceAdd, Int.reduceSub, Int.reduceMul, Nat.reduceAdd, Nat.reduceSub, Nat.reduceMul, Nat.reduceEqDiff, Nat.reduceBEq, Nat.reduceBneDiff, Nat.reduceLeDiff, Nat.reduceLT, reduceIte, mpS, mpB, mpD, mpR, swi, sw, renS, ren, eChg_eq, e5, nmO, D.nms, List.append_nil, List.nil_append, List.contains_nil]; done))); first | (obtain ⟨rfl, rfl⟩ := hR) | (obtain ⟨_, (rfl | rfl), rfl, rfl⟩ := hR))
| refine drJ_I ?_
| refine ret_I (R := isR _) ?_
| fail)
      all_goals rw [List.take_of_length_le (by rw [List.length_map, e5]; exact Nat.le_refl _)]; rfl
  · obtain ⟨p, hp, hpe, hpn⟩ := last_at ht
    rw [addP, if_pos ht]
    generalize hN : c.tables.length - p = N
    refine rf_I (gf := 392) rfl (by kernel_rfl) hs [(2, 5002), (4, 5004), (5, 5005), (6, 5006)] [.any, .any, .ref (.loc 5002 0), .i (.elt (eChg x) 0), .ref (.loc 5004 0), .ref (.loc 5005 0), .ref (.loc 5006 0), .any, .any, .any, .any, .any, .any, .any, .any, .any, .any, .any, .any, .any, .any, .any, .any, .any, .any, .any, .any, .any, .any, .any, .any, .any, .any, .any, .any, .any, .any, .any, .any, .any, .any] (fun j => [(5002, .cells ((eCat c).map .i)), (5004, .cells (if j = N then (eCat c).map .i else noCatC)), (5005, .cells [.i (iI (if j = N then 121 else 0))]), (5006, .cells [.i (iI (atP c.tables x.table.name (c.tables.length - min j (N - 1))))])]) [] N .ret
      ⟨by omega, fun h => by simp at h, fun h => by omega⟩ rfl (fun j hj => by by_cases e : j = N <;> simp only [e, if_true, if_false] <;> exact ⟨rfl, rfl, rfl, rfl⟩) rfl (by simp [subL, getE, getL, mpD, mpR, swi, sw]) rfl (by
        have h0 : ¬ (0 = N) := by omega
        simp [mpS, mpB, mpD, swi, sw, subS, getS, atP_end, eCat, h0]) (fun j hj => ⟨by rw [hx (by omega)]; rfl, ?_⟩) ?_
    · have hj2 : j < c.tables.length := by omega
      have hlt : c.tables.length - 1 - j < c.tables.length := by omega
      have hst := atP_step c.tables x.table.name hlt
      have e1 : min j (N - 1) = j := by omega
      have e2 : c.tables.length - j = c.tables.length - 1 - j + 1 := by omega
      have e4 : (c.tables.length : Int) - 1 - (j : Int) = ((c.tables.length - 1 - j : Nat) : Int) := by omega
      have e6 : ¬ (j = N) := by omega
      rw [hx hj2]
      simp only [e1, e2, e4, if_neg e6]
      by_cases hjN : j + 1 = N
      · have e3 : min (j + 1) (N - 1) = j := by omega
        have e7 : c.tables.length - 1 - j = p := by omega
        have e8 : c.tables.length - j = p + 1 := by omega
        simp only [e3, if_pos hjN, e7, e8]
        simp only [setP, env0, Nat.reduceAdd]
        generalize c.tables.getD p default = t at hpe ⊢
        refine Lan (cj @thenN.eq_1 (cj @rfK.eq_1 (cj @eChg_eq hpe))) ?_
        all_goals intros
        all_goals (refine ⟨rfl, [], ?_⟩; simp (disch := omega) only [go_sem, Nat.reduceEqDiff]; try exact ⟨rfl, rfl, rfl, rfl⟩)
      · have e3 : min (j + 1) (N - 1) = j + 1 := by omega
        have e7 : c.tables.length - (j + 1) = c.tables.length - 1 - j := by omega
        have hne := hpn (c.tables.length - 1 - j) (by omega) hlt
        simp only [e3, if_neg hjN, e7, hst]
        generalize c.tables.getD (c.tables.length - 1 - j) default = t at hne ⊢
        unfold leS
        simp only [setP, env0, Nat.reduceAdd]
        cases hb : Op.bytesLess t.name x.table.name
        · refine Lans (cj @thenN.eq_1 (cj @rfK.eq_1 (cj @eChg_eq (cj hne (cj @Bool.or_false hb))))) ?_
          all_goals intros
          all_goals (refine ⟨rfl, [], ?_⟩; simp (disch := omega) only [go_sem, Nat.reduceEqDiff]; try exact ⟨rfl, rfl, rfl, rfl⟩)
        · refine Lans (cj @thenN.eq_1 (cj @rfK.eq_1 (cj @eChg_eq (cj hne (cj @Bool.or_false hb))))) ?_
          all_goals intros
          all_goals (refine ⟨rfl, [], ?_⟩; simp (disch := omega) only [go_sem, Nat.reduceEqDiff]; try exact ⟨rfl, rfl, rfl, rfl⟩)
    · refine ⟨by simp [mpS, mpB, mpD, swi, sw, renS, ren, getS], by simp [mpS, mpB, mpD, swi, sw, ren, getS], rfl, ?_⟩
      have h0 : ¬ (0 = N) := by omega
      simp only [if_true, if_neg h0]
      generalize atP c.tables x.table.name (c.tables.length - min 0 (N - 1)) = q1
      generalize atP c.tables x.table.name (c.tables.length - min N (N - 1)) = q2
      show blockK 0 _ .ret _
      (repeat' first
| simp (disch := omega) only [go_sem, Nat.reduceAdd, Nat.reduceEqDiff, mpS, mpB, mpD, swi, sw, renS, ren, List.map_nil, List.map_cons]
| refine ret_I (R := isR _) ?_
| fail)
      rfl
/-! E24 -/
def chgFn (k : Int) : Nat := if k = 1 then 254 else if k = 2 then 257 else if k = 3 then 260 else if k = 4 then 262 else 263
def prpFn (k : Int) : Nat := if k = 1 then 255 else if k = 2 then 258 else 261
def rulesM : List (I × I) := [(iI 1, .agg [.fn 254 [] [], .fn 255 [] []]), (iI 2, .agg [.fn 257 [] [], .fn 258 [] []]), (iI 3, .agg [.fn 260 [] [], .fn 261 [] []]), (iI 4, .agg [.fn 262 [] [], .fn 261 [] []]), (iI 5, .agg [.fn 263 [] [], .fn 261 [] []])]
theorem rules_is : Is mx 184 [] (.map rulesM) := by
  refine MX F184 ?_
  refine Lbn ?_
  rfl
theorem rulesA_is (x : Chg) : Is mx 255 [.agg (eChg x)] (.bool (decide (x.name = []) && eqFtr x.feature noFtr)) := by
  have n1 := noFeature_is (mx := mx) x.feature
  rw [eFtr_eq] at n1
  refine MX F255 ?_
  exact Kan (cj n1 @eChg_eq) trivial
theorem rulesB_is (x : Chg) : Is mx 258 [.agg (eChg x)] (.bool (decide (x.name = []) && eqTbl x.table noTbl)) := by
  have n1 := noTable_is (mx := mx) x.table
  refine MX F258 ?_
  exact Kan (cj n1 @eChg_eq) trivial
theorem namedP_is (x : Chg) : Is mx 261 [.agg (eChg x)] (.bool (eqTbl x.table noTbl && eqFtr x.feature noFtr)) := by
  have n2 := noTable_is (mx := mx) x.table
  have n1 := noFeature_is (mx := mx) x.feature
  rw [eFtr_eq] at n1
  refine MX F261 ?_
  exact Kan (cj n1 (cj n2 @eChg_eq)) trivial
theorem eqL_self {α : Type} (p : α → α → Bool) : ∀ l : List α, (∀ x ∈ l, p x x = true) → eqL p l l = true
  | [], _ => rfl
  | x :: l, h => by simp only [eqL, h x List.mem_cons_self, eqL_self p l (fun y hy => h y (List.mem_cons_of_mem _ hy)), Bool.and_self]
theorem eqFac_self (x : Fac) : eqFac x x = true := by simp [eqFac]
theorem eqTyp_self (x : Typ) : eqTyp x x = true := by simp [eqTyp,eqL_self,eqFac,eqFac_self]
theorem eqFld_self (x : Fld) : eqFld x x = true := by simp [eqFld, eqTyp_self]
theorem eqTbl_self (x : Tbl) : eqTbl x x = true := by grind [eqTbl,eqL_self,eqFld,eqFld_self]
mutual
theorem eqX_self : ∀ x : Xpr, eqX x x = true
  | .mk k o n t v u p w a => by
    have h1 := eqXs_self a
    have h2 := eqL_self eqFac u fun y _ => eqFac_self y
    rw [eqX]
    simp [Xpr.kind, Xpr.op, Xpr.name, Xpr.table, Xpr.val, Xpr.param, Xpr.win, Xpr.args, Xpr.unit, eqVal, h1, h2]
theorem eqXs_self : ∀ a : List Xpr, eqXs a a = true
  | [] => rfl
  | x :: a => by rw [eqXs, eqX_self x, eqXs_self a]; rfl
end
theorem eqFtr_self (x : Ftr) : eqFtr x x = true := by simp [eqFtr, eqTyp_self, eqX_self]
theorem proper_eq (x : Chg) : properR x = if x.kind = 1 then (decide (x.name = []) && eqFtr x.feature noFtr) else if x.kind = 2 then (decide (x.name = []) && eqTbl x.table noTbl) else if 1 ≤ x.kind ∧ x.kind ≤ 5 then (eqTbl x.table noTbl && eqFtr x.feature noFtr) else false := by grind [properR,properY,eqChg,eqTbl_self,eqFtr_self]
theorem prp_is (x : Chg) (hk : 1 ≤ x.kind ∧ x.kind ≤ 5) : Is mx (prpFn x.kind) [.agg (eChg x)] (.bool (properR x)) := by
  rw [proper_eq]
  grind [prpFn,rulesA_is,rulesB_is,namedP_is]
theorem rules_look {k : Int} (hk : 1 ≤ k ∧ k ≤ 5) : mlook rulesM (.int .i64 k) (.agg [.nilfn, .nilfn]) true = .tup [.agg [.fn (chgFn k) [] [], .fn (prpFn k) [] []], .bool true] := by
  have : k = 1 ∨ k = 2 ∨ k = 3 ∨ k = 4 ∨ k = 5 := by omega
  rcases this with rfl | rfl | rfl | rfl | rfl <;> rfl
theorem rules_miss {k : Int} (hk : ¬ (1 ≤ k ∧ k ≤ 5)) : mlook rulesM (.int .i64 k) (.agg [.nilfn, .nilfn]) true = .tup [.agg [.nilfn, .nilfn], .bool false] := by
  have h1 : ¬ ((1 : Int) = k) := by omega
  have h2 : ¬ ((2 : Int) = k) := by omega
  have h3 : ¬ ((3 : Int) = k) := by omega
  have h4 : ¬ ((4 : Int) = k) := by omega
  have h5 : ¬ ((5 : Int) = k) := by omega
  have e : ∀ a : Int, keyI (iI a) = [some (.i .i64 a)] := fun a => rfl
  have e2 : keyI (.int .i64 k) = [some (.i .i64 k)] := rfl
  have e3 : mget rulesM (.int .i64 k) = none := by simp_all [mget,rulesM]
  simp [mlook,e3]
theorem rules_fit : (∀ e ∈ rulesM, fitQ [.i .i64] e.1 = true) = True := eq_true (by unfold rulesM; simp [fitQ, fitL, fitI])
theorem Apply_is (c : Cat) (x : Chg) (r : Cat × Int) (hrun : 1 ≤ x.kind → x.kind ≤ 5 → properR x = true → Is mx (chgFn x.kind) [.agg (eCat c), .agg (eChg x)] (eCE r))
    (hr2 : r.2 = (changedR c x).2) (hr1 : r.2 = 0 → r = changedR c x) (hchk : r.2 = 0 → Is mx 185 [.agg (eCat (changedR c x).1)] (iI (checkR (changedR c x).1))) : Is mx 122 [.agg (eCat c), .agg (eChg x)] (eCE (applyR c x)) := by
  have hR := applyR.eq_1 c x
  have hE := errR.eq_1 c x
  have r0 := rules_is (mx := mx)
  generalize changedR c x = q at *
  have hfit := rules_fit
  by_cases hk : 1 ≤ x.kind ∧ x.kind ≤ 5
  · have p1 := prp_is (mx := mx) x hk
    have hlk := rules_look hk
    have hrun := hrun hk.1 hk.2
    rw [eChg_eq] at p1 hrun
    generalize rulesM = M at r0 hlk hfit
    cases hpv : properR x
    · rw [hpv] at p1
      rw [if_pos hpv] at hR
      rw [hR]
      refine MX F122 ?_
      refine Kan (cj r0 (cj p1 (cj @eChg_eq (cj hlk hfit)))) ?_
      rfl
    · rw [hpv] at p1
      have hrun := hrun hpv
      rw [if_neg (by rw [hpv]; simp)] at hR
      by_cases h0 : r.2 = 0
      · have e := hr1 h0
        subst e
        rw [if_pos h0] at hE
        have hchk := hchk h0
        obtain ⟨d, e⟩ := r
        simp only at h0; subst h0
        simp only [eCE] at hrun
        by_cases hc : checkR d = 0
        · rw [hE, if_neg (by simpa using hc)] at hR
          rw [hR]
          rw [hc] at hchk
          refine MX F122 ?_
          (repeat' first
| simp (disch := omega) only [go_sem, simprocAttr, eChg_eq, hlk, hfit, ne_eq, not_true_eq_false, decide_true, decide_false]
| refine Sx.s ?_ ?_ <;> try (intro h; have h' := h; try simp only [HB] at h'; try rewrite [h]; try simp only [h])
| refine callL_of (r0) ?_
| refine callL_of (p1) ?_
| refine callL_of (hrun) ?_
| refine callL_of (hchk) ?_
| refine ct_I ?_
| refine callG_Iv ?_ ?_
| refine drJ_I ?_
| refine Sz.s ?_
| fail)
          all_goals rfl
        · rw [hE, if_pos hc] at hR
          rw [hR]
          refine MX F122 ?_
          (repeat' first
| simp (disch := omega) only [go_sem, simprocAttr, eChg_eq, hlk, hfit, eq_false hc, ne_eq, not_false_eq_true, decide_true]
| refine Sx.s ?_ ?_ <;> try (intro h; have h' := h; try simp only [HB] at h'; try rewrite [h]; try simp only [h])
| refine callL_of (r0) ?_
| refine callL_of (p1) ?_
| refine callL_of (hrun) ?_
| refine callL_of (hchk) ?_
| refine ct_I ?_
| refine callG_Iv ?_ ?_
| refine drJ_I ?_
| refine Sz.s ?_
| fail)
          all_goals rfl
      · rw [if_neg (by omega)] at hE
        rw [hE, ← hr2, if_pos h0] at hR
        rw [hR]
        obtain ⟨d, e⟩ := r
        simp only at h0 hR
        simp only [eCE] at hrun
        refine MX F122 ?_
        (repeat' first
| simp (disch := omega) only [go_sem, simprocAttr, eChg_eq, hlk, hfit, eq_false h0, ne_eq, not_false_eq_true, decide_true, decide_false]
| refine callL_of (r0) ?_
| refine callL_of (p1) ?_
| refine callL_of (hrun) ?_
| refine ct_I ?_
| refine callG_Iv ?_ ?_
| refine drJ_I ?_
| refine Sz.s ?_
| fail)
        all_goals rfl
  · have hp : properR x = false := by unfold properR; rw [if_neg hk]
    rw [if_pos hp] at hR
    have hlk := rules_miss hk
    rw [hR]
    generalize rulesM = M at r0 hlk hfit
    refine MX F122 ?_
    refine Lan (cj r0 (cj @eChg_eq (cj hlk hfit))) ?_
    rfl
/-! E26 -/
theorem okY_subC {mv : List Nat} {l : List (Nat × Blk)} (h : okY mv l = true) {q : Nat} (hq : q < 5000) (b : Blk) : subS l ((q, b) :: l) := okY_subS (mv := mv) (okY_nodup h) _ fun m c hm => by grind [okY_none,getS]
/-! E27 -/
def tabCat (t : List Tbl) : Cat := ⟨t, [], [], []⟩
theorem row3 {i : Nat} (h : i < 3) : [[I.sl []], [I.sl []], [I.sl []]].getD i [] = [I.sl []] := by
  have : i = 0 ∨ i = 1 ∨ i = 2 := by omega
  rcases this with rfl | rfl | rfl <;> rfl
theorem checkV0_is (t : List Tbl) : Is mx 265 [.agg (eCat (tabCat t))] (iI 0) := by
  refine MX F265 ?_
  refine Mans @tabCat.eq_1 ?_
  refine lT [3, 18, 19] (fun i : Nat => [(20, .i (iI i))]) (fun _ => [(11, .map [.g, .s, .i .i64] [])]) (fun i => i ≤ 3) (fun i => 3 - i) 0 ?_
  intro i hi
  by_cases hi' : i < 3
  · have h3 : ((i : Int) < ((0 : Nat) : Int) + 1 + 1 + 1) = True := eq_true (by omega)
    have h4 : ((i : Int) < 3) = True := eq_true (by omega)
    refine Lan (cj h4 (row3 hi')) ?_
    refine lT [3, 4, 5, 18, 19, 20, 25, 26] (fun _ : Unit => [(27, .i (iI 0))]) (fun _ => [(11, .map [.g, .s, .i .i64] [])]) (fun _ => True) (fun _ => 0) () ?_
    rintro _ _
    refine Lbn ?_
    exact ⟨i + 1, by omega, by omega, rfl⟩
  · have h3 : ((i : Int) < ((0 : Nat) : Int) + 1 + 1 + 1) = False := eq_false (by omega)
    have h4 : ((i : Int) < 3) = False := eq_false (by omega)
    exact Lan h4 trivial
theorem deps0_is (t : List Tbl) : Is mx 341 [.agg (eCat (tabCat t))] (.map []) := by
  refine MX F341 ?_
  (repeat' first
| simp (disch := omega) only [go_sem, simprocAttr, tabCat, List.map_nil]
| fail)
  refine loopT [3, 11, 12] (by simp only [V0, V25, reduceIte, Nat.reduceEqDiff]; rfl) (fun _ : Unit => [(13, .i (iI 0))]) (fun _ => [(3, .cells [.ref (.mp 9)]), (9, .gmap [.s] 0 [])]) (fun _ => True) (fun _ => 0) () trivial (by simp [V0, V11, V15, Ref.nm, inS]; exact fun x hx => absurd hx (by simp [Blk.nms])) ?_
  rintro _ _
  refine Lbns ?_
  refine lT [3, 34] (fun _ : Unit => []) (fun _ => [(34, .iter none []), (3, .cells [.i (.map [])])]) (fun _ => True) (fun _ => 0) () ?_
  rintro _ _
  refine Mbn ?_
  refine nxt_I (l := ([] : List Unit)) (f := fun _ => default) (fun _ => ?_) (fun q hq => absurd hq (by simp))
  exact Lbn trivial
theorem keys_is (m : List (I × I)) : Is mx 343 [.map m] (.fn 405 [] [.elt [.map m] 0]) := by
  refine MX F343 ?_
  exact Lbn trivial
theorem keysSeq0 : SeqC Tryz.prog (GLm mx) 405 [.elt [.map []] 0] [] := by
  intro y m mv N go hV hm hN hgo hstop hy
  have hk : ∀ k, okY mv (m k) = true := fun k => (hm k).1
  have g1 : ∀ k q, q < 5000 → getS (m k) q = none := fun k q hq => okY_none (hk k) hq
  have g2 : ∀ k q b, q < 5000 → sbS q b (m k) = m k := fun k q b hq => okY_sb (hk k) hq b
  have g3 : ∀ k q, q < 5000 → delS (m k) q = m k := fun k q hq => okY_del (hk k) hq
  have hN0 : N = 0 := by simpa using hN
  subst hN0
  refine MX F405 ?_ (hpin := okY_pin (hk 0))
  refine Mans g1 ?_
  refine loopT [0, 5] (by simp only [V0, V25, reduceIte, Nat.reduceEqDiff]; rfl) (fun _ : Unit => []) (fun _ => (5, .iter none []) :: m 0) (fun _ => True) (fun _ => 0) () trivial ?_ ?_
  · have g6 := okY_subC (hk 0) (q := 5) (by decide) (.iter none [])
    have g7 := clS_cons (k := 5) (b := .iter none []) (okY_cl (hk 0))
    simp [V0, V11, V15, Ref.nm] at g6 g7 ⊢
    exact ⟨g6, g7⟩
  · rintro _ _
    refine Mbn ?_
    refine nxt_I (l := ([] : List Unit)) (f := fun _ => default) (fun _ => ?_) (fun q hq => absurd hq (by simp))
    refine Lbn ?_
    exact ret_Y (own := [(5, _)]) (hk 0) rfl ⟨rfl, rfl⟩
theorem strAppendSeq_mc (gf : Nat) (caps : List I) (xs : List Str) (hen : enters Tryz.prog gf = true) (hs : SeqC Tryz.prog (GLm mx) gf caps (xs.map fun e => [.str e])) (hl : xs.length ≤ 1000000) :
    MC Tryz.prog (GLm mx) 442 [.ref (.sl 5500 1 0 0), .i (.fn gf [] caps)] [(5500, .rows 9 1 [])] [5500]
      (fun r s => r = .ref (.sl 5500 1 0 xs.length) ∧ s = [(5500, .rows 9 1 (xs.map fun s => [.str s]))]) := by
  refine MX F442 ?_
  (repeat' first
| simp (disch := omega) only [go_sem, simprocAttr]
| fail)
  have hx : ∀ j, j < xs.length → (xs.map fun e => [I.str e]).getD j [] = [.str (xs.getD j default)] := fun j hj => by
    rw [List.getD_eq_getElem?_getD, List.getElem?_map, List.getElem?_eq_getElem hj, getD_lt hj]; rfl
  refine rf_I (gf := gf) rfl hen hs [(2, 5002)] [.any, .any, .ref (.loc 5002 0), .any, .any, .any, .any, .any, .any, .any, .any, .any, .any] (fun j => [(5002, .cells [.ref (.sl 5500 1 0 j)]), (5500, .rows 9 1 ((xs.take j).map fun s => [.str s]))]) [5500] xs.length .none
    ⟨by simp, fun _ => by simp, fun h => absurd rfl h⟩ rfl (fun j hj => ⟨rfl, rfl, rfl, rfl⟩) rfl (by simp [subL, getE, getL, mpD, mpR, swi, sw]) rfl (by simp [mpS, mpB, mpD, mpR, swi, sw, subS, getS]) (fun j hj => ⟨by rw [hx j hj]; rfl, ?_⟩) ?_
  · have hr1 := row_one (f := fun s : Str => [I.str s]) (k := 1) (fun _ => rfl) (fun _ => rfl) (xs.getD j default)
    rw [hx j hj, ite_self]
    have hT : (xs.take (j + 1)).map (fun s => [I.str s]) = (xs.take j).map (fun s => [I.str s]) ++ [[.str (xs.getD j default)]] := by rw [take_snoc hj, List.map_append]; rfl
    have hml : (xs.take j).length = j := by simp; omega
    generalize xs.take j = acc at hT hml
    have htk : List.take j (acc.map fun s => [I.str s]) = acc.map fun s => [.str s] := List.take_of_length_le (by simp [hml])
    simp only [setP, env0, Nat.reduceAdd]
    (repeat' first
| simp (disch := omega) only [go_sem, simprocAttr, thenN, rfK, hr1.1, hr1.2, Nat.sub_zero, hml, htk]
| (refine And.intro ?_ ?_; focus omega))
    all_goals (refine ⟨rfl, [], ?_⟩; simp (disch := omega) only [go_sem, Nat.reduceEqDiff]; first | rw [hT] | exact ⟨rfl, by rw [hT]⟩)
  · refine ⟨by simp [mpS, mpB, mpD, mpR, swi, sw, renS, ren, getS], by simp [mpS, mpB, mpD, mpR, swi, sw, ren, getS], rfl, ?_⟩
    show blockK 0 _ .normal _
    (repeat' first
| simp (disch := omega) only [go_sem, simprocAttr, mpS, mpB, mpD, mpR, swi, sw, renS, ren]
| fail)
    rw [List.take_length]
    refine ret_S [(5500, 5500)] ?_
    simp [V29]
theorem strAppendSeq_at (nm : Nat) (hn : nm < 5000) (gf : Nat) (caps : List I) (xs : List Str) (hen : enters Tryz.prog gf = true) (hs : SeqC Tryz.prog (GLm mx) gf caps (xs.map fun e => [.str e])) (hl : xs.length ≤ 1000000) :
    MC Tryz.prog (GLm mx) 442 [.ref (.sl nm 1 0 0), .i (.fn gf [] caps)] [(nm, .rows 9 1 [])] [nm]
      (fun r s => r = .ref (.sl nm 1 0 xs.length) ∧ s = [(nm, .rows 9 1 (xs.map fun s => [.str s]))]) := by
  have e1 : sws [(5500, nm)] 5500 = nm := by simp [sws, sw]
  have h := (MC.as [(5500, nm)] (strAppendSeq_mc (mx := mx) gf caps xs hen hs hl)).mono (R' := fun r s => r = .ref (.sl nm 1 0 xs.length) ∧ s = [(nm, .rows 9 1 (xs.map fun s => [.str s]))]) (by
    rintro r s ⟨h1, h2⟩
    have k := mpD_mpD (f := swi [(5500, nm)]) (g := sws [(5500, nm)]) (sws_swi _) r
    have k2 := mpS_mpS (f := swi [(5500, nm)]) (g := sws [(5500, nm)]) (sws_swi _) s
    rw [h1] at k
    rw [h2] at k2
    refine ⟨?_, ?_⟩
    · rw [← k]; simp only [mpD, mpR, e1]
    · rw [← k2]; simp only [mpS, mpB, e1])
  simp only [List.map_cons, List.map_nil, mpD, mpR, mpS, mpB, e1] at h
  exact h
theorem strCollect_mc (gf : Nat) (caps : List I) (xs : List Str) (hen : enters Tryz.prog gf = true) (hs : SeqC Tryz.prog (GLm mx) gf caps (xs.map fun e => [.str e])) (hl : xs.length ≤ 1000000) :
    MC Tryz.prog (GLm mx) 404 [.i (.fn gf [] caps)] [] [] (fun r s => r = .ref (.sl 6000 1 0 xs.length) ∧ s = [(6000, .rows 9 1 (xs.map fun s => [.str s]))]) := by
  have m1 := (strAppendSeq_at (mx := mx) 2004 (by decide) gf caps xs hen hs hl).arrIn []
  refine MX F404 ?_
  refine Mbn ?_
  refine callG_N m1 rfl rfl (by simp [subS, getS]) (by simp [clS, inS, Blk.nms, D.nms, Ref.nm, getS]) (fun r sto' hR => ?_)
  obtain ⟨rfl, rfl⟩ := hR
  refine Mbn ?_
  refine ret_S [(2004, 6000)] ?_
  simp [V29]
theorem Sorted_is (gf : Nat) (caps : List I) (xs : List Str) (hen : enters Tryz.prog gf = true) (hs : SeqC Tryz.prog (GLm mx) gf caps (xs.map fun e => [.str e])) (hl : xs.length ≤ 1000000) :
    Is mx 342 [.fn gf [] caps] (.sl ((xs.mergeSort fun x y => decide (x ≤ y)).map fun s => [.str s])) := by
  have m1 := strCollect_mc (mx := mx) gf caps xs hen hs hl
  have m2 := strSort_at (mx := mx) 5 9 xs (by decide) (by omega)
  have hml : (xs.mergeSort fun x y => decide (x ≤ y)).length = xs.length := (List.mergeSort_perm _ _).length_eq
  refine MX F342 ?_
  (repeat' first
| simp (disch := omega) only [go_sem, simprocAttr]
| (first | refine callO_S (m1) ?_ (fun r sto' hR => ?_) | refine callG_S (m1) ?_ (fun r sto' hR => ?_); (focus (first | rfl | (simp only [go_sem, simprocAttr]; done))); first | (obtain ⟨rfl, rfl⟩ := hR) | (obtain ⟨_, (rfl | rfl), rfl, rfl⟩ := hR))
| (first | refine callO_S (m2) ?_ (fun r sto' hR => ?_) | refine callG_S (m2) ?_ (fun r sto' hR => ?_); (focus (first | rfl | (simp only [go_sem, simprocAttr]; done))); first | (obtain ⟨rfl, rfl⟩ := hR) | (obtain ⟨_, (rfl | rfl), rfl, rfl⟩ := hR))
| refine Sz.s ?_
| fail)
  rw [if_pos (by rw [hml]; exact Nat.le_refl _), List.take_of_length_le (by rw [List.length_map, hml]; exact Nat.le_refl _)]
  exact ⟨rfl, rfl⟩
theorem Cycle0_is (t : List Tbl) : Is mx 267 [.agg (eCat (tabCat t))] .nilsl := by
  have d1 := deps0_is (mx := mx) t
  have d2 := keys_is (mx := mx) []
  have d3 := Sorted_is (mx := mx) 405 [.elt [.map []] 0] [] (by kernel_rfl) keysSeq0 (by simp)
  simp only [List.mergeSort_nil, List.map_nil] at d3
  refine MX F267 ?_
  refine Kan (cj d1 (cj d2 d3)) ?_
  refine lT [3, 11, 12] (fun _ : Unit => [(2, .i .nilsl), (13, .i (iI 0))]) (fun _ => []) (fun _ => True) (fun _ => 0) () ?_
  rintro _ _
  exact Lbn trivial
/-! E28 -/
def CycR (c : Cat) (r : D) (s : List (Nat × Blk)) : Prop := s = [] ∧ ((r = .i .nilsl ∧ cycleR c = []) ∨ ∃ (x : Str) (L : List Str), r = .i (.sl ((x :: L).map fun s => [.str s])) ∧ cycleR c ≠ [])
theorem CatCheck_is (c : Cat) (hc : bCat c ≤ 1073741823) (hv : Is mx 265 [.agg (eCat c)] (iI (versE c.features.length (c.features.length + c.drafts.length) [] (versR c))))
    (hf : ∀ f ∈ c.features, Is mx 266 [.agg (eCat c), .agg (eFtr f)] (iI (featureR c f))) (hcy : c.features.length ≤ 32 → featsE c c.features = 0 → MC Tryz.prog (GLm mx) 267 [.i (.agg (eCat c))] [] [] (CycR c)) :
    Is mx 185 [.agg (eCat c)] (iI (checkR c)) := by
  have hR := checkR.eq_1 c
  have lt := tbls_len c.tables
  have lf := ftrs_len c.features
  have ld := ftrs_len c.drafts
  have lp := ftrs_len c.past
  have hb := bCat_eq c
  by_cases hlim : 16 < c.tables.length ∨ 32 < c.features.length ∨ 32 < c.drafts.length ∨ 32 < c.past.length
  · rw [if_pos hlim] at hR
    rw [hR]
    have l1 : (decide ((16 : Int) < (c.tables.length : Int)) || decide ((32 : Int) < (c.features.length : Int)) || decide ((32 : Int) < (c.drafts.length : Int)) || decide ((32 : Int) < (c.past.length : Int))) = true := by
      simp only [Bool.or_eq_true, decide_eq_true_eq]; omega
    refine MX F185 ?_
    exact Kan l1 trivial
  · rw [if_neg hlim] at hR
    have l1 : (decide ((16 : Int) < (c.tables.length : Int)) || decide ((32 : Int) < (c.features.length : Int)) || decide ((32 : Int) < (c.drafts.length : Int)) || decide ((32 : Int) < (c.past.length : Int))) = false := by
      simp only [Bool.or_eq_false_iff, decide_eq_false_iff_not]; omega
    refine MX F185 ?_
    refine Kan l1 ?_
    refine lT [1, 33, 34] (fun i : Nat => [(35, .i (iI i))]) (fun _ => []) (fun i => i ≤ c.tables.length ∧ tabsE (prevT c.tables i) (c.tables.drop i) = tabsE none c.tables) (fun i => c.tables.length - i) 0 ?_ ⟨by omega, rfl⟩
    rintro i ⟨hi, hinv⟩
    by_cases hi' : i < c.tables.length
    · have hm := getD_mem hi'
      have hbt : bTbl (c.tables.getD i default) ≤ 1073741824 := by have := bSum_mem (b := bTbl) hm; omega
      have h1 := Table_is (mx := mx) (c.tables.getD i default) (fun f hf => by have h1 := bTbl_eq (c.tables.getD i default); have h2 := bSum_mem (b := bFld) hf; have h3 := bFld_eq f; have h4 : bTyp f.typ = bSum bFac f.typ.unit + f.typ.of.length + 1 := rfl; have h5 := bFac_len f.typ.unit; show f.typ.unit.length ≤ _; omega) (by have h1 := bTbl_eq (c.tables.getD i default); have := flds_len (c.tables.getD i default).fields; omega)
      rw [← tableR_ok] at h1
      rw [drop_c hi', tabsE_cons] at hinv
      have hnx : prevT c.tables (i + 1) = some (c.tables.getD i default).name := by simp [prevT]
      rw [← hnx] at hinv
      by_cases h0 : i = 0
      · subst h0
        have hp0 : gtP (prevT c.tables 0) (c.tables.getD 0 default).name = false := rfl
        simp only [hp0, Bool.false_eq_true, if_false] at hinv
        have hz : (0 : Int) < (c.tables.length : Int) := by omega
        by_cases ht : tableR (c.tables.getD 0 default) = 0
        · rw [if_neg (by omega)] at hinv
          rw [ht] at h1
          refine Kans (cj h1 (cj hz (cj @Int.natCast_zero @Int.lt_irrefl))) ?_
          exact ⟨1, ⟨hi', hinv⟩, by omega, rfl⟩
        · rw [if_pos ht] at hinv
          rw [← hinv, if_pos ht] at hR
          rw [hR]
          exact Kans (cj h1 (cj hz (cj @Int.natCast_zero ht))) trivial
      · have hpr : prevT c.tables i = some (c.tables.getD (i - 1) default).name := by simp [prevT, h0]
        have hg : gtP (prevT c.tables i) (c.tables.getD i default).name = (Op.bytesLess (c.tables.getD i default).name (c.tables.getD (i - 1) default).name || decide ((c.tables.getD i default).name = (c.tables.getD (i - 1) default).name)) := by rw [hpr]; rfl
        rw [hg] at hinv
        have hpos : (0 : Int) < (i : Int) := by omega
        have hsub : ((i : Int) - 1).toNat = i - 1 := by omega
        have hcast : (i : Int) - 1 = ((i - 1 : Nat) : Int) := by omega
        have hltp : i - 1 < c.tables.length := by omega
        by_cases ht : tableR (c.tables.getD i default) = 0
        · rw [if_neg (by omega)] at hinv
          rw [ht] at h1
          cases hgv : (Op.bytesLess (c.tables.getD i default).name (c.tables.getD (i - 1) default).name || decide ((c.tables.getD i default).name = (c.tables.getD (i - 1) default).name))
          · rw [hgv, if_neg (by simp)] at hinv
            refine Kans (cj h1 (cj (ltT hi') (cj hpos (cj hcast (cj (ltT hltp) hgv))))) ?_
            exact ⟨i + 1, ⟨by omega, hinv⟩, by omega, rfl⟩
          · rw [hgv, if_pos rfl] at hinv
            rw [← hinv, if_pos (by decide)] at hR
            rw [hR]
            exact Kans (cj h1 (cj (ltT hi') (cj hpos (cj hcast (cj (ltT hltp) hgv))))) trivial
        · rw [if_pos ht] at hinv
          rw [← hinv, if_pos ht] at hR
          rw [hR]
          exact Kans (cj h1 (cj (ltT hi') ht)) trivial
    · rw [List.drop_eq_nil_of_le (by omega), show ∀ p, tabsE p [] = 0 from fun p => by cases p <;> rfl] at hinv
      rw [← hinv, if_neg (by simp)] at hR
      by_cases hvz : versE c.features.length (c.features.length + c.drafts.length) [] (versR c) = 0
      · rw [if_neg (by omega)] at hR
        rw [hvz] at hv
        refine Kans (cj hv (ltF hi')) ?_
        refine lT [1, 66, 67] (fun i : Nat => [(68, .i (iI i))]) (fun _ => []) (fun i => i ≤ c.features.length ∧ featsE c (c.features.drop i) = featsE c c.features) (fun i => c.features.length - i) 0 ?_
        rintro j ⟨hj, hjv⟩
        by_cases hj' : j < c.features.length
        · have hm := getD_mem hj'
          have h1 := hf _ hm
          rw [eFtr_eq] at h1
          rw [drop_c hj'] at hjv
          simp only [featsE] at hjv
          by_cases ht : featureR c (c.features.getD j default) = 0
          · rw [if_neg (by omega)] at hjv
            rw [ht] at h1
            refine Kans (cj h1 (cj (ltT hj') @eFtr_eq)) ?_
            exact ⟨j + 1, ⟨by omega, hjv⟩, by omega, rfl⟩
          · rw [if_pos ht] at hjv
            rw [← hjv, if_pos ht] at hR
            rw [hR]
            exact Kans (cj h1 (cj (ltT hj') (cj @eFtr_eq ht))) trivial
        · rw [List.drop_eq_nil_of_le (by omega)] at hjv
          rw [← hjv, if_neg (by simp [featsE])] at hR
          have hcy' := hcy (by omega) (by rw [← hjv]; rfl)
          have hce : eCat c = [.sl (c.tables.map eTbl), .sl (c.features.map eFtr), .sl (c.drafts.map eFtr), .sl (c.past.map eFtr)] := rfl
          rw [hce] at hcy'
          refine Lan (ltF hj') ?_
          refine callG_S hcy' ?_ (fun r sto' hR' => ?_)
          · simp only [go_sem, Nat.reduceEqDiff, List.map_cons, List.map_nil]
          obtain ⟨rfl, ⟨rfl, h0⟩ | ⟨x, L, rfl, h0⟩⟩ := hR'
          · rw [if_neg (by simp [h0])] at hR
            rw [hR]
            exact Lbn trivial
          · rw [if_pos h0] at hR
            rw [hR]
            refine Kbn ?_
            intro _ _
            exfalso; omega
      · rw [if_pos hvz] at hR
        rw [hR]
        exact Kans (cj hv (cj (ltF hi') hvz)) trivial
theorem cycle0 (t : List Tbl) : cycleR (tabCat t) = [] := rfl
theorem CatCheck0_is (t : List Tbl) (hc : bCat (tabCat t) ≤ 1073741823) : Is mx 185 [.agg (eCat (tabCat t))] (iI (checkR (tabCat t))) :=
  CatCheck_is (tabCat t) hc (checkV0_is t) (fun f h => by cases h) (fun _ _ => MC.mono (Cycle0_is t) fun r s h => ⟨h.2, .inl ⟨h.1, cycle0 t⟩⟩)
theorem Apply0_is (t : List Tbl) (x : Chg) (hk : x.kind = 1) (hb : bCat (tabCat t) + bChg x ≤ 1073741) : Is mx 122 [.agg (eCat (tabCat t)), .agg (eChg x)] (eCE (applyR (tabCat t) x)) := by
  have hch := changed_b (tabCat t) x
  have h1 : changedR (tabCat t) x = tableC (tabCat t) x.table := by unfold changedR; rw [if_pos hk]
  have hlen : (tabCat t).tables.length ≤ 1073741 := by have := bCat_eq (tabCat t); have := tbls_len (tabCat t).tables; omega
  refine Apply_is (tabCat t) x (addP (tabCat t) x.table) (fun _ _ _ => ?_) ?_ ?_ ?_
  · rw [hk]; exact addTable_is (tabCat t) x (by omega)
  · rw [h1]; unfold addP tableC; split <;> rfl
  · rw [h1]; unfold addP tableC; split
    · intro h; simp at h
    · intro _; rfl
  · intro h
    have e : (changedR (tabCat t) x).1 = tabCat (insT t x.table) := by
      rw [h1]
      unfold addP at h
      unfold tableC
      split at h
      · simp at h
      · rename_i q; rw [if_neg q]; rfl
    have hb2 : bCat (changedR (tabCat t) x).1 ≤ 1073741 := by omega
    rw [e] at hb2 ⊢
    exact CatCheck0_is _ (by omega)
/-! G1 -/
theorem own : ownKnob Tryz.prog.godebug = none := by kernel_rfl
end Go.Proofs.YtcgjldimifeffaaGreatDoor
