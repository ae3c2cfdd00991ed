/- A part of the proofs of WorkersExclude and WorkersMatchesSteps: Ir Q30 Q31 E70 E71 E72 E73 E74 E75. -/
import Derived.Test.YtcgjldimifeffaaGreatDoorIr1
import Derived.Test.YtcgjldimifeffaaGreatDoorIr2
import Derived.Test.YtcgjldimifeffaaGreatDoorIr3
import Derived.Test.YtcgjldimifeffaaGreatDoorT1
import Derived.Test.YtcgjldimifeffaaGreatDoorA27k
import Derived.Lib.Overlaps
set_option linter.all false

set_option maxHeartbeats 4000000
namespace Go.Proofs.YtcgjldimifeffaaGreatDoor
open Go Go.Dl
/-! Two workers and a grantor: the law in plain. -/
structure Lea where
  range : Int
  worker : Int
  epoch : Int
  to : Int
  floor : Int
deriving Inhabited
structure Grt where
  now : Int
  length : Int
  drift : Int
  last : List Lea
deriving Inhabited
structure Mov where
  n : Int
  a : Int
  b : Int
  grant : Int
deriving Inhabited
def eLea (x : Lea) : List I := [.int .i64 x.range, .int .i64 x.worker, .int .i64 x.epoch, .int .i64 x.to, .int .i64 x.floor]
def eGrt (g : Grt) : List I := [.int .i64 g.now, .int .i64 g.length, .int .i64 g.drift, .sl (g.last.map eLea)]
def eMov (m : Mov) : List I := [.int .u8 m.n, .int .u8 m.a, .int .u8 m.b, .int .u8 m.grant]
def slowR (d n : Int) : Int := n - n * d / 1000
theorem slow_add {d p q : Int} : slowR d (p + q) ≤ slowR d p + slowR d q := by
  unfold slowR
  rw [Int.add_mul]
  generalize p * d = P
  generalize q * d = Q
  omega
theorem slow_mono {d p q : Int} (h : p ≤ q) (h0 : 0 ≤ d) (h1 : d ≤ 500) : slowR d p ≤ slowR d q := by
  unfold slowR
  have : (q - p) * d ≤ (q - p) * 500 := Int.mul_le_mul_of_nonneg_left h1 (by omega)
  rw [Int.sub_mul, Int.sub_mul] at this
  generalize p * d = P at *
  generalize q * d = Q at *
  omega
theorem slow_b {d n : Int} (h : 0 ≤ n) (h0 : 0 ≤ d) (h1 : d ≤ 500) : 0 ≤ slowR d n ∧ slowR d n ≤ n ∧ 0 ≤ n * d ∧ n * d ≤ n * 500 := by
  have a := Int.mul_nonneg h h0
  have b : n * d ≤ n * 500 := Int.mul_le_mul_of_nonneg_left h1 h
  unfold slowR
  generalize n * d = P at *
  omega
def grantR (g : Grt) (k : Int) : Option Lea := match g.last with
  | [] => some ⟨0, k, 1, g.now + g.length, 0⟩
  | y :: _ => if (decide (y.worker ≠ k) && decide (g.now < y.to)) = true then none else some ⟨0, k, y.epoch + 1, g.now + g.length, 0⟩
structure Ex where
  g : Grt
  na : Int
  la : List Lea
  nb : Int
  lb : List Lea
deriving Inhabited
def advE (s : Ex) (m : Mov) : Ex := ⟨⟨s.g.now + m.n, s.g.length, s.g.drift, s.g.last⟩, s.na + (slowR s.g.drift m.n + m.a), s.la, s.nb + (slowR s.g.drift m.n + m.b), s.lb⟩
def giveE (s : Ex) (k : Int) : Ex := match grantR s.g k with
  | none => s
  | some t => if k = 1 then ⟨⟨s.g.now, s.g.length, s.g.drift, [t]⟩, s.na, [⟨0, k, t.epoch, s.na + slowR s.g.drift s.g.length, 0⟩], s.nb, s.lb⟩
    else ⟨⟨s.g.now, s.g.length, s.g.drift, [t]⟩, s.na, s.la, s.nb, [⟨0, k, t.epoch, s.nb + slowR s.g.drift s.g.length, 0⟩]⟩
def stepE (s : Ex) (m : Mov) : Ex := if (decide (m.grant = 1) || decide (m.grant = 2)) = true then giveE (advE s m) m.grant else advE s m
def ansE (now : Int) (ls : List Lea) : Int := if (match ls with | [] => false | x :: _ => decide (now < x.to)) = true then 4 else 420
/-- What a worker's lease is bound by. -/
def lateE (g : Grt) (k now : Int) (ls : List Lea) : Prop := match ls with
  | [] => True
  | x :: r => r = [] ∧ x.range = 0 ∧ x.worker = k ∧ x.floor = 0 ∧ 0 ≤ x.to ∧ x.to ≤ 4294967296 ∧ match g.last with
    | [] => False
    | y :: _ => x.to ≤ now + (if y.worker = k then slowR g.drift (max 0 (y.to - g.now)) else 0)
def okG (g : Grt) (i : Int) : Prop := 0 ≤ g.now ∧ g.now ≤ 255 * i ∧ 1 ≤ g.length ∧ g.length ≤ 1048576 ∧ 0 ≤ g.drift ∧ g.drift ≤ 500 ∧
  match g.last with
  | [] => True
  | y :: r => r = [] ∧ y.range = 0 ∧ (y.worker = 1 ∨ y.worker = 2) ∧ y.floor = 0 ∧ 1 ≤ y.epoch ∧ y.epoch ≤ i + 1 ∧ 0 ≤ y.to ∧ y.to ≤ g.now + g.length
def okE (s : Ex) (i : Int) : Prop := 0 ≤ i ∧ i ≤ 1000 ∧ okG s.g i ∧ 0 ≤ s.na ∧ s.na ≤ 1048576 + 510 * i ∧ 0 ≤ s.nb ∧ s.nb ≤ 1048576 + 510 * i ∧ lateE s.g 1 s.na s.la ∧ lateE s.g 2 s.nb s.lb
def okM (m : Mov) : Prop := 0 ≤ m.n ∧ m.n ≤ 255 ∧ 0 ≤ m.a ∧ m.a ≤ 255 ∧ 0 ≤ m.b ∧ m.b ≤ 255
theorem late_adv {g : Grt} {k now n a : Int} {ls : List Lea} {i : Int} (hg : okG g i) (h : lateE g k now ls) (hn : 0 ≤ n) (ha : 0 ≤ a) : lateE ⟨g.now + n, g.length, g.drift, g.last⟩ k (now + (slowR g.drift n + a)) ls := by
  obtain ⟨h1, h2, h3, h4, h5, h6, h7⟩ := hg
  have sb := slow_b hn h5 h6
  unfold lateE at *
  cases ls with
  | nil => trivial
  | cons x r =>
    simp only at h ⊢
    obtain ⟨a1, a2, a3, a4, a5, a6, a7⟩ := h
    refine ⟨a1, a2, a3, a4, a5, a6, ?_⟩
    cases e : g.last with
    | nil => rw [e] at a7; exact a7
    | cons y q =>
      rw [e] at a7
      simp only at a7 ⊢
      split at a7
      · rw [if_pos ‹_›]
        by_cases hle : y.to - g.now ≤ n
        · have hm : slowR g.drift (max 0 (y.to - g.now)) ≤ slowR g.drift n := slow_mono (by omega) h5 h6
          have h0 : slowR g.drift (max 0 (y.to - (g.now + n))) = 0 := by
            have : max 0 (y.to - (g.now + n)) = 0 := by omega
            rw [this]; simp [slowR]
          omega
        · have e1 : max 0 (y.to - g.now) = n + (y.to - (g.now + n)) := by omega
          have e2 : max 0 (y.to - (g.now + n)) = y.to - (g.now + n) := by omega
          have := slow_add (d := g.drift) (p := n) (q := y.to - (g.now + n))
          rw [e1] at a7; rw [e2]
          omega
      · rw [if_neg ‹_›]; omega
theorem adv_ok {s : Ex} {m : Mov} {i : Int} (h : okE s i) (hm : okM m) (hi : i + 1 ≤ 1000) : okE (advE s m) (i + 1) := by
  obtain ⟨i0, i1, hg, n1, n2, n3, n4, l1, l2⟩ := h
  obtain ⟨m1, m2, m3, m4, m5, m6⟩ := hm
  have hg' := hg
  obtain ⟨h1, h2, h3, h4, h5, h6, h7⟩ := hg
  have sb := slow_b m1 h5 h6
  refine ⟨by omega, by omega, ⟨?_, ?_, h3, h4, h5, h6, ?_⟩, ?_, ?_, ?_, ?_, late_adv hg' l1 m1 m3, late_adv hg' l2 m1 m5⟩
  · show 0 ≤ s.g.now + m.n; omega
  · show s.g.now + m.n ≤ _; omega
  · show match s.g.last with | [] => True | y :: r => _
    cases e : s.g.last with
    | nil => trivial
    | cons y r =>
      rw [e] at h7
      simp only at h7 ⊢
      obtain ⟨a1, a2, a3, a4, a5, a6, a7, a8⟩ := h7
      exact ⟨a1, a2, a3, a4, a5, by omega, a7, by show y.to ≤ s.g.now + m.n + s.g.length; omega⟩
  · show 0 ≤ s.na + _; omega
  · show s.na + _ ≤ _; omega
  · show 0 ≤ s.nb + _; omega
  · show s.nb + _ ≤ _; omega
theorem late_other {g : Grt} {k j now : Int} {ls : List Lea} {t : Lea} (h : lateE g j now ls) (hj : j ≠ k) (hg : grantR g k = some t) (h0 : 0 ≤ now) : lateE ⟨g.now, g.length, g.drift, [t]⟩ j now ls := by
  have ht : t.worker = k := by
    unfold grantR at hg
    split at hg
    · cases hg; rfl
    · split at hg
      · cases hg
      · cases hg; rfl
  unfold lateE at *
  cases ls with
  | nil => trivial
  | cons x r =>
    simp only at h ⊢
    obtain ⟨a1, a2, a3, a4, a5, a6, a7⟩ := h
    refine ⟨a1, a2, a3, a4, a5, a6, ?_⟩
    rw [if_neg (by omega)]
    cases e : g.last with
    | nil => rw [e] at a7; exact a7.elim
    | cons y q =>
      rw [e] at a7
      simp only at a7
      split at a7
      · rename_i hy
        unfold grantR at hg
        rw [e] at hg
        simp only at hg
        split at hg
        · cases hg
        · rename_i hn
          have : max 0 (y.to - g.now) = 0 := by
            simp only [Bool.and_eq_true, decide_eq_true_eq] at hn
            have : ¬ g.now < y.to := fun h => hn ⟨by omega, h⟩
            omega
          rw [this] at a7
          simp [slowR] at a7
          omega
      · omega
theorem give_ok {s : Ex} {k i : Int} (h : okE s i) (hk : k = 1 ∨ k = 2) (he : ∀ y r, s.g.last = y :: r → y.epoch ≤ i) : okE (giveE s k) i := by
  unfold giveE
  cases hg : grantR s.g k with
  | none => exact h
  | some t =>
    obtain ⟨i0, i1, ⟨h1, h2, h3, h4, h5, h6, h7⟩, n1, n2, n3, n4, l1, l2⟩ := h
    have sb := slow_b (show (0:Int) ≤ s.g.length by omega) h5 h6
    have ht : t.worker = k ∧ t.to = s.g.now + s.g.length ∧ t.range = 0 ∧ t.floor = 0 ∧ 1 ≤ t.epoch ∧ t.epoch ≤ i + 1 := by
      unfold grantR at hg
      split at hg
      · cases hg; exact ⟨rfl, rfl, rfl, rfl, by show (1:Int) ≤ 1; omega, by show (1:Int) ≤ _; omega⟩
      · rename_i y r e
        rw [e] at h7
        split at hg
        · cases hg
        · cases hg
          have := he y r e
          simp only at h7
          exact ⟨rfl, rfl, rfl, rfl, by show 1 ≤ y.epoch + 1; omega, by show y.epoch + 1 ≤ _; omega⟩
    obtain ⟨t1, t2, t3, t4, t5, t6⟩ := ht
    have hm : max 0 (t.to - s.g.now) = s.g.length := by omega
    have hG : okG ⟨s.g.now, s.g.length, s.g.drift, [t]⟩ i := ⟨h1, h2, h3, h4, h5, h6, rfl, t3, by omega, t4, t5, t6, by omega, by show t.to ≤ s.g.now + s.g.length; omega⟩
    rcases hk with rfl | rfl
    · simp only [if_true]
      refine ⟨i0, i1, hG, n1, n2, n3, n4, ⟨rfl, rfl, rfl, rfl, ?_, ?_, ?_⟩, late_other l2 (by decide) hg n3⟩
      · show 0 ≤ s.na + _; omega
      · show s.na + _ ≤ _; omega
      · show s.na + _ ≤ s.na + _
        rw [if_pos t1, hm]; exact Int.le_refl _
    · simp only [show ((2:Int) = 1) = False from by decide, if_false]
      refine ⟨i0, i1, hG, n1, n2, n3, n4, late_other l1 (by decide) hg n1, ⟨rfl, rfl, rfl, rfl, ?_, ?_, ?_⟩⟩
      · show 0 ≤ s.nb + _; omega
      · show s.nb + _ ≤ _; omega
      · show s.nb + _ ≤ s.nb + _
        rw [if_pos t1, hm]; exact Int.le_refl _
theorem step_ok {s : Ex} {m : Mov} {i : Int} (h : okE s i) (hm : okM m) (hi : i + 1 ≤ 1000) : okE (stepE s m) (i + 1) := by
  have ha := adv_ok h hm hi
  unfold stepE
  split
  · rename_i hg
    refine give_ok ha (by simpa using hg) (fun y r e => ?_)
    obtain ⟨i0, i1, ⟨h1, h2, h3, h4, h5, h6, h7⟩, _⟩ := h
    have e' : s.g.last = y :: r := e
    rw [e'] at h7
    simp only at h7
    omega
  · exact ha
theorem excl {s : Ex} {i : Int} (h : okE s i) : ansE s.na s.la = 420 ∨ ansE s.nb s.lb = 420 := by
  obtain ⟨i0, i1, hg, n1, n2, n3, n4, l1, l2⟩ := h
  unfold ansE
  cases ea : s.la with
  | nil => left; simp
  | cons x r =>
    cases eb : s.lb with
    | nil => right; simp
    | cons x' r' =>
      rw [ea] at l1; rw [eb] at l2
      unfold lateE at l1 l2
      cases e : s.g.last with
      | nil => rw [e] at l1; simp at l1
      | cons y q =>
        rw [e] at l1 l2
        simp only at l1 l2 ⊢
        obtain ⟨_, _, _, _, _, _, a⟩ := l1
        obtain ⟨_, _, _, _, _, _, b⟩ := l2
        by_cases hy : y.worker = 1
        · rw [if_neg (by omega)] at b
          right; rw [if_neg (by simp; omega)]
        · rw [if_neg hy] at a
          left; rw [if_neg (by simp; omega)]
end Go.Proofs.YtcgjldimifeffaaGreatDoor
set_option maxHeartbeats 4000000
namespace Go.Proofs.YtcgjldimifeffaaGreatDoor
open Go Go.Dl
/-! Words of 64 bits as data; the checksum in plain. -/
abbrev W64 := BitVec 64
def iW (a : W64) : I := .int .u64 (a.toNat : Int)
theorem wrapU (n : Nat) : IntKind.u64.wrap (n : Int) = ((n % 18446744073709551616 : Nat) : Int) := by
  show ((n : Int) % (2 ^ 64 : Int)) = _
  omega
theorem ofIntW (a : W64) : BitVec.ofInt 64 (a.toNat : Int) = a := by
  apply BitVec.eq_of_toNat_eq
  rw [BitVec.toNat_ofInt]
  have := a.isLt
  omega
theorem iW_xor (a b : W64) : binV .xor (iW a) (iW b) = iW (a ^^^ b) := by
  show I.int .u64 (IntKind.u64.wrap ((BitVec.ofInt 64 (a.toNat : Int) ^^^ BitVec.ofInt 64 (b.toNat : Int)).toNat : Int)) = _
  rw [ofIntW, ofIntW, wrapU, Nat.mod_eq_of_lt (BitVec.isLt _)]; rfl
theorem iW_or (a b : W64) : binV .or (iW a) (iW b) = iW (a ||| b) := by
  show I.int .u64 (IntKind.u64.wrap ((BitVec.ofInt 64 (a.toNat : Int) ||| BitVec.ofInt 64 (b.toNat : Int)).toNat : Int)) = _
  rw [ofIntW, ofIntW, wrapU, Nat.mod_eq_of_lt (BitVec.isLt _)]; rfl
theorem iW_add (a b : W64) : binV .add (iW a) (iW b) = iW (a + b) := by
  show I.int .u64 (IntKind.u64.wrap ((a.toNat : Int) + (b.toNat : Int))) = _
  rw [show (a.toNat : Int) + (b.toNat : Int) = ((a.toNat + b.toNat : Nat) : Int) by omega, wrapU]
  unfold iW; rw [BitVec.toNat_add]
theorem iW_mul (a b : W64) : binV .mul (iW a) (iW b) = iW (a * b) := by
  show I.int .u64 (IntKind.u64.wrap ((a.toNat : Int) * (b.toNat : Int))) = _
  rw [show (a.toNat : Int) * (b.toNat : Int) = ((a.toNat * b.toNat : Nat) : Int) by simp, wrapU]
  unfold iW; rw [BitVec.toNat_mul]
theorem iW_shr (a : W64) (k : Nat) (hk : k < 64) : shV .shr .u64 (a.toNat : Int) (k : Int) = iW (a >>> k) := by
  show I.int .u64 (Int.fdiv (a.toNat : Int) (2 ^ (Nat.min (Int.toNat (k : Int)) 64))) = _
  unfold iW
  rw [BitVec.toNat_ushiftRight, Nat.shiftRight_eq_div_pow]
  have e : Nat.min (Int.toNat (k : Int)) 64 = k := by simp [Nat.min_def]; omega
  rw [e, Int.fdiv_eq_ediv_of_nonneg _ (Int.le_of_lt (Int.pow_pos (by decide)))]
  simp [Int.natCast_ediv]
def mixB (x : W64) : W64 :=
  let x := x ^^^ x >>> 30
  let x := x * 0xbf58476d1ce4e5b9#64
  let x := x ^^^ x >>> 27
  let x := x * 0x94d049bb133111eb#64
  x ^^^ x >>> 31
def grpN : List UInt8 → Nat
  | [] => 0
  | b :: l => grpN l * 256 + b.toNat
theorem grp_lt : ∀ l : List UInt8, grpN l < 256 ^ l.length
  | [] => by simp [grpN]
  | b :: l => by
    have := grp_lt l
    have hb : b.toNat < 256 := b.toBitVec.isLt
    simp only [grpN, List.length_cons, Nat.pow_succ]
    omega
theorem grp_snoc : ∀ (l : List UInt8) (b : UInt8), grpN (l ++ [b]) = grpN l + b.toNat * 256 ^ l.length
  | [], b => by simp [grpN]
  | c :: l, b => by
    simp only [List.cons_append, grpN, grp_snoc l b, List.length_cons, Nat.pow_succ]
    rw [Nat.add_mul, Nat.mul_assoc]; omega
def hashS (s : List UInt8) (h : W64) : Nat → W64
  | 0 => h
  | i + 1 => mixB ((hashS s h i ^^^ BitVec.ofNat 64 (grpN ((s.drop (8 * i)).take 8))) + 0x9e3779b97f4a7c15#64)
def hashR (s : List UInt8) : W64 := mixB (hashS s (BitVec.ofNat 64 s.length * 0x9e3779b97f4a7c15#64) ((s.length + 7) / 8))
end Go.Proofs.YtcgjldimifeffaaGreatDoor
set_option maxRecDepth 100000
set_option maxHeartbeats 8000000
namespace Go.Proofs.YtcgjldimifeffaaGreatDoor
open Go Go.Dl Go.As Go.Proofs
variable {mx : Int}
attribute [local irreducible] callG callL MC W2 evT ev evD step stepD
theorem eLea_len (x : Lea) : (eLea x).length = 5 := rfl
theorem eLea_one (x : Lea) : (eLea x).all I.one = true := rfl
theorem rows_ok {α : Type} {f : α → List I} {k : Nat} (l : List α) (h1 : ∀ x, (f x).length = k) (h2 : ∀ x, (f x).all I.one = true) : (∀ r ∈ l.map f, r.length = k) ∧ ∀ r ∈ l.map f, r.all I.one = true := by grind
abbrev Is (mx : Int) (f : Nat) (args : List I) (y : I) : Prop := MC Tryz.prog (GLm mx) f (args.map D.i) [] [] (isR y)
theorem ltT {i n : Nat} (h : i < n) : ((i : Int) < (n : Int)) = True := by simp; omega
theorem ltF {i n : Nat} (h : ¬ i < n) : ((i : Int) < (n : Int)) = False := by simp; omega
theorem drop_c {α : Type} [Inhabited α] {l : List α} {i : Nat} (h : i < l.length) : l.drop i = l.getD i default :: l.drop (i + 1) := by simp_all
def insAt {α : Type} (l : List α) (k : Nat) (x : α) : List α := l.take k ++ [x] ++ l.drop k
theorem leaClone_mc (l : List Lea) (hl : l.length ≤ 1073741824) : MC Tryz.prog (GLm mx) 36 [.i (.sl (l.map eLea))] [] []
    (fun r s => r = .ref (.sl 6000 5 0 l.length) ∧ s = [(6000, .rows 24 5 (l.map eLea))]) := by
  refine MX F36 ?_
  have hr := rows_ok (f := eLea) (k := 5) l eLea_len eLea_one
  (repeat' first
| simp (maxSteps := 9999999) (disch := omega) only [go_sem, reduceCtorEq, Nat.reduceSub, Nat.reduceEqDiff, Nat.reduceLeDiff, Nat.zero_add]
| refine condJ_intro (fun h => ?_) (fun h => ?_) <;> (have h' := h; try simp only [HB] at h'; try rewrite [h]; try simp only [h])
| refine ct_I ?_
| refine isnil_I (fun hnil b => ?_) (fun hnil => ?_)
| fail)
  · have e : l = [] := by simpa using hnil
    subst e
    cases h'
    refine ret_M [(2, 6000)] (by simp only [go_sem, V10]; rfl) (by simp [V29]; rfl) (by decide) (by simp [V0, V11, V15, Ref.nm]) ?_
    simp [V29]
  · refine ⟨hr.1, hr.2, by omega, by omega, ?_⟩
    refine ret_M [(5, 6000)] (by simp only [go_sem, V10]; rfl) (by simp [V29]; rfl) (by decide) (by simp [V0, V11, V15, Ref.nm]) ?_
    simp [V29]
  · simp at h
  · refine ⟨hr.1, hr.2, by omega, by omega, ?_⟩
    refine ret_M [(5, 6000)] (by simp only [go_sem, V10]; rfl) (by simp [V29]; rfl) (by decide) (by simp [V0, V11, V15, Ref.nm]) ?_
    simp [V29]
@[go_sem] theorem slc3E_eq (st : St) (K : St → Prop) (nm k lo hi : Nat) (l : Option D) (h m : D) (d : Nat) : slc3E (.ref (.sl nm k lo hi)) l h m d st K = (slc3L (hi - lo) (loV l) (intV h) (intV m) ∧ K (st.put d .any)) := rfl
theorem allK_map : ∀ xs : List (List I), allK (xs.map some) = some xs
  | [] => rfl
  | x :: r => by simp [allK, allK_map r]
theorem run_overlaps_own {Q : Program} (w : World) (tS tR e : TypeId) (ht : Q.underlying tS = some (.slice e)) (size : Nat) (hz : ∀ w, (Go.sizeOf e).run Q w = .ok size w)
    (a b : Addr) (la ca lb cb : Nat) (hne : a.block ≠ b.block) (tA tB : TypeId) (kA kB : Nat)
    (hsa : w.shape? a.block = some (tA, kA)) (hsb : w.shape? b.block = some (tB, kB)) (hkA : kA ≠ 0)
    (hfb : w.frozen? b = false) (hfe : w.frozen? { block := b.block, off := kB } = false) :
    (Extern.SlicesOverlaps.overlaps #[tS, tS] #[tR] #[.slice (some a) la ca, .slice (some b) lb cb]).run Q w = .ok (.bool false) w := by
  have hnb : (a.block != b.block) = true := by grind
  have hnb' : (a.block == b.block) = false := by grind
  change Sem.run Q (α := Value) (do
    let some t := (#[tS, tS] : Array TypeId)[0]? | stuck "slices.overlaps: no parameter types"
    let .slice elem ← underlying t | stuck "slices.overlaps: slice type expected"
    let size ← sizeOf elem
    match (some a : Option Addr), (some b : Option Addr) with
    | some a, some b =>
      if la = 0 ∨ lb = 0 ∨ size = 0 then pure (Value.bool false)
      else if a.block != b.block && (← frozen a) && (← frozen b) then unsupported .addressObserved
      else do
        if a.block != b.block then do
          noView a; noView b
          if ← mayBeOne a b then return Value.bool ((← choose (.extern "sameAddr.stringBytes" 2)) == 1)
        pure (Value.bool (a.block == b.block && a.off < b.off + lb * size && b.off < a.off + la * size))
    | _, _ => pure (Value.bool false)) w = _
  by_cases h0 : la = 0 ∨ lb = 0 ∨ size = 0
  · simp [run_underlying ht, hz, h0]
  · cases kA with
    | zero => exact absurd rfl hkA
    | succ kA =>
      cases hfa : w.frozen? a <;> cases hfa2 : w.frozen? { block := a.block, off := kA + 1 } <;> simp [run_underlying ht, hz, h0, hnb, hnb', frozen, noView, viewAt, mayBeOne, stringish, shape, Sem.run, hsa, hsb, hfa, hfa2, hfb, hfe]
theorem run_overlaps_zero {Q : Program} (w : World) (tS tR e : TypeId) (ht : Q.underlying tS = some (.slice e)) (size : Nat) (hz : ∀ w, (Go.sizeOf e).run Q w = .ok size w)
    (a b : Option Addr) (la ca lb cb : Nat) (h0 : a = none ∨ b = none ∨ la = 0 ∨ lb = 0) :
    (Extern.SlicesOverlaps.overlaps #[tS, tS] #[tR] #[.slice a la ca, .slice b lb cb]).run Q w = .ok (.bool false) w := by
  change Sem.run Q (α := Value) (do
    let some t := (#[tS, tS] : Array TypeId)[0]? | stuck "slices.overlaps: no parameter types"
    let .slice elem ← underlying t | stuck "slices.overlaps: slice type expected"
    let size ← sizeOf elem
    match a, b with
    | some a, some b =>
      if la = 0 ∨ lb = 0 ∨ size = 0 then pure (Value.bool false)
      else if a.block != b.block && (← frozen a) && (← frozen b) then unsupported .addressObserved
      else do
        if a.block != b.block then do
          noView a; noView b
          if ← mayBeOne a b then return Value.bool ((← choose (.extern "sameAddr.stringBytes" 2)) == 1)
        pure (Value.bool (a.block == b.block && a.off < b.off + lb * size && b.off < a.off + la * size))
    | _, _ => pure (Value.bool false)) w = _
  cases a with
  | none => simp [run_underlying ht, hz]
  | some a =>
    cases b with
    | none => simp [run_underlying ht, hz]
    | some b =>
      have h1 : la = 0 ∨ lb = 0 ∨ size = 0 := by grind
      simp [run_underlying ht, hz, h1]
theorem overlaps_mc {f : FuncId} {tS tR e : TypeId} {k : Nat} (rows : List (List I)) (rs : List (Option (List I))) (lo hi : Nat) (hk : 0 < k) (h1 : ∀ r ∈ rows, r.length = k)
    (hc : ∀ vs w, (callFunc f vs).run Tryz.prog w = ((Extern.SlicesOverlaps.overlaps #[tS, tS] #[tR] vs).run Tryz.prog w).andThen fun v w' => .ok (.value v) w')
    (ht : Tryz.prog.underlying tS = some (.slice e)) (hz : ∀ w, (Go.sizeOf e).run Tryz.prog w = .ok k w) (hfy : Nat.blt f 1000000000 = true) :
    MC Tryz.prog (GLm mx) f [.i (.sl rows), .ref (.sl 5000 k lo hi)] [(5000, .arr e k rs)] [] (fun r s => r = .i (.bool false) ∧ s = [(5000, .arr e k rs)]) := by
  unfold MC
  intro M μ w vs h2 h3 h4
  obtain ⟨l⟩ := vs
  match l, h4.1 with
  | [v, u], _ =>
    have hv : Rep M (.sl rows) v := h4.2 0 (by simp) (by simp)
    have hu : RepD M μ (names [(5000, Blk.arr e k rs)]) (.ref (.sl 5000 k lo hi)) u := h4.2 1 (by simp) (by simp)
    have key : (Extern.SlicesOverlaps.overlaps #[tS, tS] #[tR] #[v, u]).run Tryz.prog w = .ok (.bool false) w := by
      obtain ⟨hN, hs⟩ := hu
      obtain ⟨a, cap, hp, hlh, hhc, hs⟩ := hs
      rcases hs with ⟨_, a', rfl⟩ | ⟨b, o, rfl, rfl⟩
      · cases hv with
        | slnil => exact run_overlaps_zero w tS tR e ht k hz _ _ _ _ _ _ (.inl rfl)
        | slempty a cap => exact run_overlaps_zero w tS tR e ht k hz _ _ _ _ _ _ (.inr (.inr (.inr rfl)))
        | sl => exact run_overlaps_zero w tS tR e ht k hz _ _ _ _ _ _ (.inr (.inr (.inr rfl)))
      · cases hv with
        | slnil => exact run_overlaps_zero w tS tR e ht k hz _ _ _ _ _ _ (.inl rfl)
        | slempty a cap => exact run_overlaps_zero w tS tR e ht k hz _ _ _ _ _ _ (.inr (.inr (.inl rfl)))
        | sl _ k' b' o' cap' v hk' hc' hh hr' =>
          by_cases hrl : rows.length = 0
          · exact run_overlaps_zero w tS tR e ht k hz _ _ _ _ _ _ (.inr (.inr (.inl hrl)))
          by_cases hhl : hi - lo = 0
          · exact run_overlaps_zero w tS tR e ht k hz _ _ _ _ _ _ (.inr (.inr (.inr hhl)))
          have hc0 := hh 0 (by omega) 0 (by rw [h1 _ (List.getElem_mem _)]; exact hk)
          obtain ⟨a2, hm, hx⟩ := h2.blk 5000 (.arr e k rs) (by simp [getS])
          rw [hp] at hm
          injection hm with q1 q2 q3
          rcases hx with hx | ⟨b2, o2, cur, q4, hne, ho, hl, hsz, hra⟩
          · rw [hx] at q3; simp at q3; omega
          rw [← q1] at q4
          injection q4 with q4
          injection q4 with q5 q6
          subst q5
          have hcell := h2.sub.1 _ _ _ hc0
          have hheap : ∃ cs t fz, w.heap[b']? = some (.cells cs t fz) ∧ cs.size ≠ 0 := by
            unfold World.cell? at hcell
            split at hcell
            · rename_i cs t fz hh2
              refine ⟨cs, t, fz, hh2, fun h0 => ?_⟩
              simp at hcell
              have : o' < cs.size := by
                rcases Nat.lt_or_ge o' cs.size with h | h
                · exact h
                · rw [Array.getElem?_eq_none h] at hcell; cases hcell
              omega
            · cases hcell
          obtain ⟨cs, t, fz, hb', hcs⟩ := hheap
          have hne' : b' ≠ b := by
            intro h; subst h
            have := ho.unk.1 (o' + 0 * k' + 0)
            rw [hc0] at this; cases this
          have hob := ho.heap
          exact run_overlaps_own w tS tR e ht k hz ⟨b', o', none⟩ ⟨b, o + lo * k, none⟩ _ _ _ _ hne' t e cs.size cur.size (by simp [World.shape?, hb']) (by simp [World.shape?, hob]) hcs (by simp [World.frozen?, hob]) (by simp [World.frozen?, hob])
    refine .inr (.inr (.inl ⟨hfy, .bool false, w, by rw [hc, key]; rfl, _, _, M, μ, ⟨rfl, rfl⟩, h2, repD_i (.bool false), MExt.refl _ _, Keeps.refl _ _, fun _ _ _ => rfl⟩))
theorem leaOverlaps_mc (f : Lea) (rs : List (Option (List I))) (lo hi : Nat) : MC Tryz.prog (GLm mx) 59 [.i (.sl [eLea f]), .ref (.sl 5000 5 lo hi)] [(5000, .arr 24 5 rs)] [] (fun r s => r = .i (.bool false) ∧ s = [(5000, .arr 24 5 rs)]) := by
  have hc : ∀ vs w, (callFunc 59 vs).run Tryz.prog w = ((Extern.SlicesOverlaps.overlaps #[22, 22] #[4] vs).run Tryz.prog w).andThen fun v w' => .ok (.value v) w' :=
    fun vs w => run_callFunc_extern Tryz.func59 (by kernel_rfl) (by kernel_rfl) (by kernel_rfl) (by kernel_rfl) vs w
  exact overlaps_mc _ rs lo hi (by decide) (by intro r hr; rw [List.mem_singleton.1 hr]; exact eLea_len f) hc (by kernel_rfl) (fun w => by rfl) (by decide)
theorem setL_mid {α : Type} {A B B' C L : List α} {n : Nat} (hL : L = A ++ B ++ C) (hn : A.length = n) (h : B.length = B'.length) : setL L n B' = A ++ B' ++ C := by grind [setL]
theorem split3 {α : Type} (l : List α) (k : Nat) (hk : k < l.length) : l = l.take k ++ [l[k]] ++ l.drop (k + 1) := by simp
theorem setL_ins1 {α : Type} (f : α → List I) (l : List α) (k c : Nat) (hk : k < l.length) : setL (List.map some (List.map f l) ++ List.replicate (c + 1) none) (k + 1) (List.map some (List.map f (l.drop k))) = List.map some ((l.take (k + 1) ++ l.drop k).map f) ++ List.replicate c none := by
  rw [setL_mid (A := List.map some (List.map f (l.take (k + 1)))) (B := List.map some (List.map f (l.drop (k + 1))) ++ [none]) (C := List.replicate c none)]
  · simp
  · simp only [List.replicate_succ, List.map_map, List.map_take, List.map_drop]
    simp only [List.append_assoc, List.cons_append, List.nil_append]
    rw [← List.append_assoc (List.take _ _), List.take_append_drop]
  · simp; omega
  · simp; omega
theorem setL_ins2 {α : Type} (f : α → List I) (l : List α) (x : α) (k c : Nat) (hk : k < l.length) : setL (List.map some ((l.take (k + 1) ++ l.drop k).map f) ++ List.replicate c none) k [some (f x)] = List.map some ((insAt l k x).map f) ++ List.replicate c none := by
  rw [setL_mid (A := List.map some (List.map f (l.take k))) (B := [some (f l[k])]) (C := List.map some (List.map f (l.drop k)) ++ List.replicate c none)]
  · simp [insAt]
  · simp only [List.map_append, List.map_map, List.map_take, List.map_drop]
    rw [List.take_succ_eq_append_getElem (by simpa using hk)]; simp
  · simp; omega
  · rfl
@[simp] theorem arr_nms (e k : Nat) (rs : List (Option (List I))) : (Blk.arr e k rs).nms = [] := rfl
@[go_sem] theorem capE_eq (st : St) (K : St → Prop) (nm k lo hi d : Nat) : capE (.ref (.sl nm k lo hi)) d st K = capB (getS st.sto nm) lo hi d st K := rfl
@[go_sem] theorem capB_eq (st : St) (K : St → Prop) (e k : Nat) (rs : List (Option (List I))) (lo hi d : Nat) : capB (some (.arr e k rs)) lo hi d st K = K (st.put d (.i (.int .i64 ((rs.length - lo : Nat) : Int)))) := rfl
@[go_sem] theorem cpyE_eq (st : St) (K : St → Prop) (nm k0 lo hi : Nat) (y : D) (d : Option Nat) (e k : Nat) : cpyE (.ref (.sl nm k0 lo hi)) y d e k st K = cpyB (getS st.sto nm) nm k0 lo hi (srcP (getS st.sto) y (hi - lo)) d e k st K := rfl
@[go_sem] theorem cpyB_eq (st : St) (K : St → Prop) (e' k' : Nat) (rs : List (Option (List I))) (nm k0 lo hi len : Nat) (ys : List (List I)) (d : Option Nat) (e k : Nat) : cpyB (some (.arr e' k' rs)) nm k0 lo hi (some (len, ys)) d e k st K = (e' = e ∧ k' = k ∧ k0 = k ∧ hi ≤ rs.length ∧ rowsOne k ys ∧ K (putO (st.setB nm (.arr e k (setL rs lo (ys.map some)))) d (.i (.int .i64 ((min len (hi - lo) : Nat) : Int))))) := rfl
@[go_sem] theorem appzE_eq (st : St) (K : St → Prop) (nm k0 lo hi : Nat) (q : IntKind) (m : Int) (d e k b : Nat) (z : List I) : appzE (.ref (.sl nm k0 lo hi)) (.i (.int q m)) d e k b z st K = appzB (getS st.sto nm) (getS st.sto d) nm k0 lo hi d e k b m z st K := rfl
@[go_sem] theorem appzB_eq (st : St) (K : St → Prop) (e' k' : Nat) (rs : List (Option (List I))) (fr : Option Blk) (nm k0 lo hi d e k bb : Nat) (m : Int) (z : List I) : appzB (some (.arr e' k' rs)) fr nm k0 lo hi d e k bb m z st K = (0 ≤ m ∧ m ≤ 140737488355328 ∧ m * (bb : Int) ≤ 140737488355328 ∧ appA fr e' k' rs nm k0 lo hi d e k bb (List.replicate m.toNat z) st K) := rfl
theorem setL_end {α : Type} (f : α → List I) (l : List α) (x : List I) (c : Nat) : setL (List.map some (List.map f l) ++ List.replicate (c + 1) none) l.length [some x] = List.map some (List.map f l ++ [x]) ++ List.replicate c none := by
  rw [setL, List.take_left' (by simp), List.length_singleton, ← List.drop_drop, List.drop_left' (by simp)]
  simp
theorem leaInsert_mc (l : List Lea) (k : Nat) (f : Lea) (hl : l.length ≤ 1073741824) (hk : k ≤ l.length) : MC Tryz.prog (GLm mx) 38 [.ref (.sl 5000 5 0 l.length), .i (iI k), .i (.sl [eLea f])] [(5000, .rows 24 5 (l.map eLea))] [5000]
    (fun r s => ∃ nm, (nm = 5000 ∨ nm = 6000) ∧ r = .ref (.sl nm 5 0 (l.length + 1)) ∧ s = [(nm, .rows 24 5 ((insAt l k f).map eLea))]) := by
  refine MC.rowsOut (MC_arr (R := fun r s => ∃ nm, (nm = 5000 ∨ nm = 6000) ∧ r = .ref (.sl nm 5 0 (l.length + 1)) ∧ ∃ j, s = [(nm, .arr 24 5 (((insAt l k f).map eLea).map some ++ j))]) fun c => ?_) fun r s ⟨nm, hn, hr, j, hs⟩ => ⟨nm, _, _, _, j, [], hs, nm, hn, hr, rfl⟩
  have h1 := rows_ok (l.take k) eLea_len eLea_one
  have h2 := rows_ok (l.drop k) eLea_len eLea_one
  have h0 := rows_ok l eLea_len eLea_one
  have hf := rows_ok [f] eLea_len eLea_one
  have e0 : (k : Int).toNat = k := by omega
  refine MX F38 ?_
  by_cases hkn : k = l.length
  · subst hkn
    (repeat' first
| simp (disch := omega) only [go_sem, reduceCtorEq, Nat.reduceAdd, Nat.reduceEqDiff, Nat.reduceLeDiff, Nat.zero_add, Nat.sub_zero, Nat.le_add_right]
| refine condJ_intro (fun h => ?_) (fun h => ?_) <;> (have h' := h; try simp only [HB] at h'; try rewrite [h]; try simp only [h])
| refine ct_I ?_
| (refine And.intro ?_ ?_; focus omega))
    · simp at h
    · refine ⟨hf, fun hroom => ?_, fun hfull => ⟨l.map eLea, ?_, h0, by omega, by omega, fun c1 => ?_⟩⟩
      · obtain ⟨c, rfl⟩ : ∃ d, c = d + 1 := ⟨c - 1, by simp at hroom; omega⟩
        generalize hq : setL (List.map some (List.map eLea l) ++ List.replicate (c + 1) none) l.length [some (eLea f)] = q
        have hz : q = List.map some ((insAt l l.length f).map eLea) ++ List.replicate c none := by grind [setL_end,insAt]
        refine ret_M [(5000, 5000)] (s' := [(5000, .arr 24 5 q)]) rfl rfl (by decide) rfl ⟨5000, .inl rfl, rfl, List.replicate c none, ?_⟩
        rw [← hz]; rfl
      · rw [List.take_left' (by simp), allK_map]
      · generalize hq : List.map some (List.map eLea l ++ [eLea f]) ++ List.replicate c1 (none : Option (List I)) = q
        have hz : q = List.map some ((insAt l l.length f).map eLea) ++ List.replicate c1 none := by grind [insAt]
        refine ret_M [(25, 6000)] (s' := [(25, .arr 24 5 q)]) rfl rfl (by decide) rfl ⟨6000, .inr rfl, rfl, List.replicate c1 none, ?_⟩
        rw [← hz]; rfl
  · have e1 : ((k : Int) = (l.length : Int)) = False := by simp; omega
    have e2 : ((0 : Nat) : Int) + 1 = 1 := rfl
    have e3 : (List.map some (List.map eLea l) ++ List.replicate c (none : Option (List I))).length = l.length + c := by simp
    have e9 : ((l.length : Int) + 1).toNat = l.length + 1 := by omega
    have e10 : ((k : Int) + 1).toNat = k + 1 := by omega
    rcases Nat.eq_zero_or_pos c with hc0 | hc0
    · subst hc0
      have e4 : (((l.length : Int) + 1) > ((l.length + 0 : Nat) : Int)) = True := by simp; omega
      have e5 : ((l.length : Int) + 1 - (k : Int)).toNat = l.length + 1 - k := by omega
      (repeat' first
| simp (disch := omega) only [go_sem, reduceCtorEq, Int.reduceLE, Int.reduceEq, Int.reduceAdd, Nat.reduceAdd, Nat.reduceEqDiff, Nat.zero_add, Nat.sub_zero, e0, e1, e2, e3, e4, e5, List.length_replicate]
| refine ct_I ?_
| (refine And.intro ?_ ?_; focus omega))
      refine ⟨⟨fun r hr => by rw [(List.mem_replicate.1 hr).2]; rfl, fun r hr => by rw [(List.mem_replicate.1 hr).2]; rfl⟩, fun h => absurd h (by omega), fun _ => ⟨(l.take k).map eLea, by rw [List.take_append_of_le_length (by simp; omega), ← List.map_take, ← List.map_take, allK_map], h1, by omega, by omega, fun c1 => ?_⟩⟩
      have e6 : k + (l.length + 1 - k) = l.length + 1 := by omega
      generalize hz0 : ([.int .i64 0, .int .i64 0, .int .i64 0, .int .i64 0, .int .i64 0] : List I) = z0
      have e8 : (List.take k l).length + (List.replicate (l.length + 1 - k) z0).length + (List.replicate c1 (none : Option (List I))).length = l.length + 1 + c1 := by simp; omega
      have e11 : List.take (l.length + 1 - k) [eLea f] = [eLea f] := List.take_of_length_le (by simp; omega)
      have e7 : setL (List.map some (List.map eLea (List.take k l) ++ List.replicate (l.length + 1 - k) z0) ++ List.replicate c1 none) k [some (eLea f)] = List.map some (List.map eLea (List.take k l) ++ [eLea f] ++ List.replicate (l.length - k) z0) ++ List.replicate c1 none := by
        have : l.length + 1 - k = (l.length - k) + 1 := by omega
        grind [setL_mid,eLea]
      (repeat' first
| simp (disch := omega) only [go_sem, reduceCtorEq, Nat.reduceEqDiff, Nat.zero_add, Nat.sub_zero, Nat.le_add_right, e0, e6, e7, e8, e9, e11]
| (refine And.intro ?_ ?_; focus omega))
      refine ⟨hf, ?_⟩
      (repeat' first
| simp (disch := omega) only [go_sem, reduceCtorEq, Nat.reduceEqDiff, Nat.zero_add, Nat.sub_zero, e9, e10]
| refine drJ_I ?_
| (refine And.intro ?_ ?_; focus omega))
      have e18 : (List.take k l).length + 1 + (List.replicate (l.length - k) z0).length + (List.replicate c1 (none : Option (List I))).length = l.length + 1 + c1 := by simp; omega
      have e19 : setL (List.map some (List.map eLea (List.take k l) ++ [eLea f] ++ List.replicate (l.length - k) z0) ++ List.replicate c1 none) (k + 1) (List.map some (List.map eLea (List.drop k l))) = List.map some (List.map eLea (insAt l k f)) ++ List.replicate c1 none := by grind [setL_mid,eLea,insAt]
      have e12 : min l.length (k + (l.length + 1 - (k + 1))) = l.length := by omega
      have e13 : allK (List.drop k (List.take l.length (List.map some (List.map eLea l) ++ List.replicate 0 none))) = some ((l.drop k).map eLea) := by rw [List.take_left' (by simp), ← List.map_drop, allK_map, List.map_drop]
      have e20 : ((k : Int) + 1 ≤ (l.length : Int) + 1) = True := by simp; omega
      (repeat' first
| simp (disch := omega) only [go_sem, reduceCtorEq, Nat.reduceEqDiff, Nat.zero_add, Nat.sub_zero, Nat.le_add_right, e0, e3, e18, e19, e12, e13, e20]
| (refine And.intro ?_ ?_; focus omega))
      refine ⟨h2, ?_⟩
      generalize hq : List.map some (List.map eLea (insAt l k f)) ++ List.replicate c1 (none : Option (List I)) = q
      refine ret_M [(40, 6000)] (s' := [(40, .arr 24 5 q)]) rfl rfl (by decide) rfl ⟨6000, .inr rfl, rfl, List.replicate c1 none, ?_⟩
      rw [hq]; rfl
    · obtain ⟨c, rfl⟩ : ∃ d, c = d + 1 := ⟨c - 1, by omega⟩
      have hkl : k < l.length := by omega
      have e4 : (((l.length : Int) + 1) > ((l.length + (c + 1) : Nat) : Int)) = False := by simp; omega
      have m1 := leaOverlaps_mc (mx := mx) f (List.map some (List.map eLea l) ++ List.replicate (c + 1) none) (k + 1) (l.length + 1)
      have e12 : min (l.length + 1) (k + (l.length + 1 - (k + 1))) = l.length := by omega
      have e13 : allK (List.drop k (List.take l.length (List.map some (List.map eLea l) ++ List.replicate (c + 1) none))) = some ((l.drop k).map eLea) := by rw [List.take_left' (by simp), ← List.map_drop, allK_map, List.map_drop]
      have e11 : List.take (l.length + 1 - k) [eLea f] = [eLea f] := List.take_of_length_le (by simp; omega)
      have e14 := setL_ins1 eLea l k c hkl
      have e15 := setL_ins2 eLea l f k c hkl
      have e16 : (List.map some (List.map eLea (List.take (k + 1) l ++ List.drop k l)) ++ List.replicate c (none : Option (List I))).length = l.length + 1 + c := by simp; omega
      (repeat' first
| simp (disch := omega) only [go_sem, reduceCtorEq, Int.reduceLE, Int.reduceEq, Nat.reduceAdd, Nat.reduceEqDiff, Nat.reduceLT, Nat.zero_add, Nat.sub_zero, Nat.le_add_right, e0, e1, e2, e3, e4, e9, e10, e12, e13, e14]
| refine ct_I ?_
| (refine callG_M (m1) ?_ (by simp [V0, V11]) (by simp [V0, V11, V15, Ref.nm]) (fun r sto' hR => ?_); (focus (first | rfl | (simp only [go_sem, reduceCtorEq, Int.reduceToNat, Int.reduceNeg, Int.reduceLT, Int.reduceLE, Int.reduceEq, Int.reduceAdd, Int.reduceSub, Int.reduceMul, Nat.reduceAdd, Nat.reduceSub, Nat.reduceMul, Nat.reduceEqDiff, Nat.reduceBEq, Nat.reduceBneDiff, Nat.reduceLeDiff, Nat.reduceLT, reduceIte, Nat.zero_add, Nat.sub_zero, h0, h1, h2, hf, Nat.le_add_right, e0, e1, e2, e3, e4, e9, e10, e12, e13, e11, e14, e15, e16]; done))); first | (obtain ⟨rfl, rfl⟩ := hR) | (obtain ⟨_, (rfl | rfl), rfl, rfl⟩ := hR))
| refine drJ_I ?_
| (refine And.intro ?_ ?_; focus omega))
      refine ⟨h2, ?_⟩
      have e17 : (List.take (k + 1) l).length + (List.drop k l).length + (List.replicate c (none : Option (List I))).length = l.length + 1 + c := by simp; omega
      (repeat' first
| simp (disch := omega) only [go_sem, reduceCtorEq, Nat.reduceEqDiff, Nat.zero_add, Nat.sub_zero, Nat.le_add_right, e0, e9, e11, e15, e16]
| (refine And.intro ?_ ?_; focus omega))
      refine ⟨hf, ?_⟩
      generalize hq : List.map some (List.map eLea (insAt l k f)) ++ List.replicate c (none : Option (List I)) = q
      refine ret_M [(5000, 5000)] (s' := [(5000, .arr 24 5 q)]) rfl rfl (by decide) rfl ⟨5000, .inl rfl, rfl, List.replicate c none, ?_⟩
      rw [hq]; rfl
end Go.Proofs.YtcgjldimifeffaaGreatDoor
set_option maxRecDepth 100000
set_option maxHeartbeats 8000000
namespace Go.Proofs.YtcgjldimifeffaaGreatDoor
open Go Go.Dl Go.As Go.Proofs
variable {mx : Int}
attribute [local irreducible] callG callL MC W2 evT ev evD step stepD
/-! Leases: the program. -/
@[go_sem] theorem VLea : (∀ x : Lea, eLea x = [.int .i64 x.range, .int .i64 x.worker, .int .i64 x.epoch, .int .i64 x.to, .int .i64 x.floor]) ∧ (∀ g : Grt, eGrt g = [.int .i64 g.now, .int .i64 g.length, .int .i64 g.drift, .sl (g.last.map eLea)]) ∧ (∀ m : Mov, eMov m = [.int .u8 m.n, .int .u8 m.a, .int .u8 m.b, .int .u8 m.grant]) := ⟨fun _ => rfl, fun _ => rfl, fun _ => rfl⟩
def tickR (n : Int) : Bool := decide (0 ≤ n) && decide (n ≤ 1099511627776)
def leaOk (x : Lea) : Bool := decide (0 ≤ x.range) && decide (x.range < 16) && decide (1 ≤ x.worker) && decide (x.worker ≤ 8) && decide (1 ≤ x.epoch) && tickR x.epoch && tickR x.to && tickR x.floor
theorem ltick_is (n : Int) : Is mx 40 [iI n] (.bool (tickR n)) := by
  refine MX F40 ?_
  refine Kbn ?_
  all_goals intros
  all_goals (refine congrArg I.bool ?_; simp only [tickR]; first | done | (grind (splits := 20)))
theorem own_is (x : Lea) : Is mx 41 [.agg (eLea x)] (.bool (leaOk x)) := by
  have t1 := ltick_is (mx := mx) x.epoch
  have t2 := ltick_is (mx := mx) x.to
  have t3 := ltick_is (mx := mx) x.floor
  refine MX F41 ?_
  refine Kan (cj t1 (cj t2 (cj t3 @eLea.eq_1))) ?_
  all_goals intros
  all_goals (refine congrArg I.bool ?_; simp only [leaOk]; first | done | (grind (splits := 20)))
theorem all_is (l : List Lea) (hl : l.length ≤ 1073741824) : Is mx 61 [.sl (l.map eLea), .fn 41 [] []] (.bool (l.all leaOk)) := by
  refine MX F61 ?_
  refine Kbn ?_
  refine lS [0, 1, 7] (fun i => [(8, .i (iI i))]) (fun _ => []) (fun i => l.all leaOk = (l.drop i).all leaOk) l.length ?_
  intro i hi hinv
  by_cases hi' : i < l.length
  · rw [drop_c hi', List.all_cons] at hinv
    have h1 := own_is (mx := mx) (l.getD i default)
    cases ho : leaOk (l.getD i default) with
    | true =>
      rw [ho] at h1 hinv
      simp only [Bool.true_and, Bool.false_and] at hinv
      exact Kan (cj h1 (ltT hi')) (And.intro hi' hinv)
    | false =>
      rw [ho] at h1 hinv
      simp only [Bool.true_and, Bool.false_and] at hinv
      exact Kan (cj h1 (ltT hi')) (congrArg I.bool hinv.symm)
  · refine Kan (ltF hi') ?_
    rw [List.drop_of_length_le (by omega)] at hinv
    exact congrArg I.bool hinv.symm
theorem wr {n : Int} (h : -9223372036854775808 ≤ n) (k : n ≤ 9223372036854775807) : IntKind.i64.wrap n = n := by grind [wrap64]
def gr0 (n d : Int) : Grt := ⟨0, n, d, []⟩
def newR (n d : Int) : Bool := decide (1 ≤ n) && decide (n ≤ 1099511627776) && decide (0 ≤ d) && decide (d ≤ 500)
theorem valid0_is (n d : Int) : Is mx 39 [.agg (eGrt (gr0 n d))] (.bool (newR n d)) := by
  have t1 := ltick_is (mx := mx) 0
  have t2 := ltick_is (mx := mx) n
  have t3 := all_is (mx := mx) [] (by simp)
  have e : newR n d = !(!tickR 0 || decide (n < 1) || !tickR n || decide (d < 0) || decide (500 < d)) := by
    simp only [newR, tickR]; grind
  refine MX F39 ?_
  refine Kan (cj t1 (cj t2 (cj t3 @gr0.eq_1))) (cj ?_ ?_)
  · intro h _
    rw [e, h]; rfl
  · intro h _
    rw [e, h]
    refine lS [1, 37] (fun i => [(38, .i (iI i))]) (fun _ => []) (fun _ => True) 0 ?_
    intro i hi _
    obtain rfl : i = 0 := by omega
    exact Kan trivial trivial
theorem valid_is (g : Grt) (i : Int) (h : okG g i) (hi : i ≤ 1000) : Is mx 39 [.agg (eGrt g)] (.bool true) := by
  have hg := h
  obtain ⟨h1, h2, h3, h4, h5, h6, h7⟩ := h
  have hl : g.last.length ≤ 1 := by grind
  have t1 := ltick_is (mx := mx) g.now
  have t2 := ltick_is (mx := mx) g.length
  have t3 := all_is (mx := mx) g.last (by omega)
  have e1 : tickR g.now = true := by simp [tickR]; omega
  have e2 : tickR g.length = true := by simp [tickR]; omega
  have e3 : g.last.all leaOk = true := by
    cases e : g.last with
    | nil => rfl
    | cons y r => rw [e] at h7; simp only at h7; obtain ⟨rfl, a2, a3, a4, a5, a6, a7, a8⟩ := h7; simp [leaOk, tickR]; omega
  rw [e1] at t1; rw [e2] at t2; rw [e3] at t3
  have e4 : decide (g.length < 1) = false := by simp; omega
  have e5 : decide (g.drift < 0) = false := by simp; omega
  have e6 : decide (500 < g.drift) = false := by simp; omega
  refine MX F39 ?_
  refine Kan (cj t1 (cj t2 (cj t3 (cj e4 (cj e5 e6))))) ?_
  refine lS [1, 37] (fun i => [(38, .i (iI i))]) (fun _ => []) (fun _ => True) g.last.length ?_
  intro i hi _
  by_cases hi' : i < g.last.length
  · obtain rfl : i = 0 := by omega
    have e7 : decide (g.now + g.length < (g.last.getD 0 default).to) = false := by
      cases e : g.last with
      | nil => rw [e] at hi'; simp at hi'
      | cons y r => rw [e] at h7; simp only at h7; simp; omega
    exact Kan (cj (ltT hi') e7) (fun _ q => And.intro q hi')
  · exact Kan (ltF hi') trivial
theorem lNew_is (n d : Int) : Is mx 21 [iI n, iI d] (.tup [.agg (if newR n d = true then eGrt (gr0 n d) else eGrt (gr0 0 0)), iI (if newR n d = true then 0 else 1)]) := by
  have h1 := valid0_is (mx := mx) n d
  refine MX F21 ?_
  cases hr : newR n d with
  | true => rw [hr] at h1; exact Kan (cj h1 @gr0.eq_1) trivial
  | false => rw [hr] at h1; exact Kan (cj h1 @gr0.eq_1) trivial
theorem lAdvance_is (g : Grt) (i n : Int) (h : okG g i) (hi : i ≤ 1000) (h0 : 0 ≤ n) (h1 : n ≤ 255) : Is mx 22 [.agg (eGrt g), iI n] (.tup [.agg (eGrt ⟨g.now + n, g.length, g.drift, g.last⟩), iI 0]) := by
  have hv := valid_is (mx := mx) g i h hi
  obtain ⟨h2, h3, _⟩ := h
  have e1 : decide (n < 0) = false := by simp; omega
  have e2 : decide (1099511627776 - g.now < n) = false := by simp; omega
  refine MX F22 ?_
  exact Kan (cj hv (cj e1 e2)) trivial
theorem Slowest_is (g : Grt) (i n : Int) (h : okG g i) (hi : i ≤ 1000) (h0 : 0 ≤ n) (h1 : n ≤ 1048576) : Is mx 23 [.agg (eGrt g), iI n] (iI (slowR g.drift n)) := by
  have hv := valid_is (mx := mx) g i h hi
  have t1 := ltick_is (mx := mx) n
  have e1 : tickR n = true := by simp [tickR]; omega
  rw [e1] at t1
  obtain ⟨h2, h3, h4, h5, h6, h7, _⟩ := h
  have hb := slow_b h0 h6 h7
  refine MX F23 ?_
  refine Kan (cj hv t1) ?_
  have e2 : (n * g.drift).tdiv 1000 = n * g.drift / 1000 := Int.tdiv_eq_ediv_of_nonneg hb.2.2.1
  unfold slowR at hb ⊢
  rw [e2]
  generalize n * g.drift = P at hb ⊢
  rw [wr (n := P / 1000) (by omega) (by omega), wr (by omega) (by omega)]
theorem Grant_is (g : Grt) (i k : Int) (h : okG g i) (hi : i ≤ 1000) (hk : k = 1 ∨ k = 2) : Is mx 24 [.agg (eGrt g), iI 0, iI k, iI 0] (match grantR g k with
    | none => .tup [.agg (eGrt (gr0 0 0)), .agg (eLea ⟨0, 0, 0, 0, 0⟩), iI 420]
    | some t => .tup [.agg (eGrt ⟨g.now, g.length, g.drift, [t]⟩), .agg (eLea t), iI 0]) := by
  have hv := valid_is (mx := mx) g i h hi
  have hw := own_is (mx := mx) ⟨0, k, 1, 0, 0⟩
  have e1 : leaOk ⟨0, k, 1, 0, 0⟩ = true := by rcases hk with rfl | rfl <;> rfl
  rw [e1] at hw
  obtain ⟨h2, h3, h4, h5, h6, h7, h8⟩ := h
  obtain ⟨now, len, dr, last⟩ := g
  simp only at h2 h3 h4 h5 h6 h7 h8
  cases last with
  | nil =>
    have eg : grantR ⟨now, len, dr, []⟩ k = some ⟨0, k, 1, now + len, 0⟩ := rfl
    have e2 : decide (1099511627776 < now + len) = false := by simp; omega
    rw [eg]
    refine MX F24 ?_
    refine Kan (cj hv hw) ?_
    refine lS [1, 2, 3, 4, 8, 9, 39] (fun i => [(12, .ref (.sl 12 5 0 0)), (13, .i (.bool false)), (40, .i (iI i))]) (fun i => [(12, .rows 24 5 []), (9, .cells [.i (iI 0), .i (iI k), .i (iI 1), .i (iI (now + len)), .i (iI 0)]), (8, .cells [.i (iI 0), .i (iI 0), .i (iI 0), .i (.sl [])]), (4, .cells [.i (iI now), .i (iI len), .i (iI dr), .i (.sl [])])]) (fun _ => True) 0 ?_
    intro i hi _
    obtain rfl : i = 0 := by omega
    have r1 : (∀ r ∈ [[iI 0, iI k, iI 1, iI (now + len), iI 0]], r.length = 5) = True := by simp
    have r2 : (∀ r ∈ [[iI 0, iI k, iI 1, iI (now + len), iI 0]], r.all I.one = true) = True := by simp [I.one]
    exact Nan (cj e2 (cj r1 (cj r2 (cj @Nat.zero_add @Nat.sub_zero)))) trivial
  | cons y r =>
    obtain ⟨rfl, a2, a3, a4, a5, a6, a7, a8⟩ := h8
    obtain ⟨yr, yw, ye, yt, yf⟩ := y
    simp only at a2 a3 a4 a5 a6 a7 a8
    subst a2; subst a4
    have e2 : decide (1099511627776 < now + len) = false := by simp; omega
    have e3 : decide (1099511627776 < ye + 1) = false := by simp; omega
    have r1 : (∀ r ∈ [[iI 0, iI k, iI (ye + 1), iI (now + len), iI 0]], r.length = 5) = True := by simp
    have r2 : (∀ r ∈ [[iI 0, iI k, iI (ye + 1), iI (now + len), iI 0]], r.all I.one = true) = True := by simp [I.one]
    have eg := grantR.eq_1 ⟨now, len, dr, [⟨0, yw, ye, yt, 0⟩]⟩ k
    refine MX F24 ?_
    refine Kan (cj hv hw) ?_
    refine lS [1, 2, 3, 4, 8, 9, 39] (fun i => [(12, .ref (.sl 12 5 0 i)), (13, .i (.bool (decide (i = 1)))), (40, .i (iI i))]) (fun i => [(12, .rows 24 5 (if i = 0 then [] else [[iI 0, iI k, iI (ye + 1), iI (now + len), iI 0]])), (9, .cells [.i (iI 0), .i (iI k), .i (iI (if i = 0 then 1 else ye + 1)), .i (iI (now + len)), .i (iI 0)]), (8, .cells [.i (iI 0), .i (iI 0), .i (iI 0), .i (.sl [])]), (4, .cells [.i (iI now), .i (iI len), .i (iI dr), .i (.sl [[iI 0, iI yw, iI ye, iI yt, iI 0]])])]) (fun i => i = 1 → (decide (yw ≠ k) && decide (now < yt)) = false) 1 ?_
    intro i hi hinv
    rcases Nat.lt_or_ge i 1 with h | h
    · obtain rfl : i = 0 := by omega
      refine Nan (cj e2 (cj r1 (cj r2 (cj @Nat.zero_add @Nat.sub_zero)))) (cj ?_ ?_)
      · intro h _
        rw [eg]; simp only [h, if_true]; rfl
      · intro h _ _
        exact trivial
    · obtain rfl : i = 1 := by omega
      refine Nan (cj e2 (cj e3 (cj r1 (cj r2 (cj @Nat.zero_add @Nat.sub_zero))))) ?_
      rw [eg]; simp only [hinv rfl, Bool.false_eq_true, if_false]
theorem Local_is (g : Grt) (i a b c f : Int) (now : Int) (h : okG g i) (hi : i ≤ 1000) (hx : leaOk ⟨a, b, c, g.now + g.length, f⟩ = true) (hn : 0 ≤ now) (hm : now ≤ 1099511627776) : Is mx 25 [.agg (eGrt g), .agg (eLea ⟨a, b, c, g.now + g.length, f⟩), iI now] (.agg (eLea ⟨a, b, c, now + slowR g.drift g.length, f⟩)) := by
  have hv := valid_is (mx := mx) g i h hi
  have hw := own_is (mx := mx) ⟨a, b, c, g.now + g.length, f⟩
  have t1 := ltick_is (mx := mx) now
  have e1 : tickR now = true := by simp [tickR]; omega
  rw [e1] at t1; rw [hx] at hw
  obtain ⟨h2, h3, h4, h5, h6, h7, h8⟩ := id h
  have hs := Slowest_is (mx := mx) g i (g.now + g.length - g.now) h hi (by omega) (by omega)
  have e2 : g.now + g.length - g.now = g.length := by omega
  rw [e2] at hs
  have hb := slow_b (n := g.length) (by omega) h6 h7
  have e3 : decide (g.now + g.length < g.now) = false := by simp; omega
  have e4 : decide (g.now + g.length < g.now + g.length) = false := by simp
  refine MX F25 ?_
  exact Kan (cj hv (cj hw (cj t1 (cj e3 (cj e4 (cj e2 hs)))))) trivial
end Go.Proofs.YtcgjldimifeffaaGreatDoor
set_option maxRecDepth 100000
set_option maxHeartbeats 8000000
namespace Go.Proofs.YtcgjldimifeffaaGreatDoor
open Go Go.Dl Go.As Go.Proofs
variable {mx : Int}
attribute [local irreducible] callG callL MC W2 evT ev evD step stepD
/-! Finding the lease of a range. -/
def cmpR (a b : Int) : Int := if a < b then -1 else if b < a then 1 else 0
theorem isNaN_is (a : Int) : Is mx 86 [iI a] (.bool false) := by
  refine MX F86 ?_
  refine Kbn ?_
  simp
theorem cmpCompare_is (a b : Int) : Is mx 58 [iI a, iI b] (iI (cmpR a b)) := by
  have h1 := isNaN_is (mx := mx) a
  have h2 := isNaN_is (mx := mx) b
  refine MX F58 ?_
  refine Kan (cj h1 h2) (cj ?_ (cj ?_ ?_)) <;> (intros; unfold cmpR; grind)
theorem find1_is (x : Lea) (r : Int) : Is mx 57 [.agg (eLea x), iI r] (iI (cmpR x.range r)) := by
  have h1 := cmpCompare_is (mx := mx) x.range r
  refine MX F57 ?_
  exact Kan h1 trivial
def lbR (l : List Lea) (r : Int) : Nat := (l.takeWhile fun x => decide (x.range < r)).length
def hasR (l : List Lea) (r : Int) : Bool := decide ((l.getD (lbR l r) default).range = r) && decide (lbR l r < l.length)
def SrtR (l : List Lea) : Prop := ∀ i j, i < j → j < l.length → (l.getD i default).range < (l.getD j default).range
theorem lbR_eq {l : List Lea} {r : Int} {i : Nat} (hi : i ≤ l.length) (h1 : ∀ k, k < i → (l.getD k default).range < r) (h2 : i < l.length → ¬ (l.getD i default).range < r) : lbR l r = i := by
  unfold lbR
  induction l generalizing i with
  | nil => simp at hi; simp [hi]
  | cons y q ih =>
    cases i with
    | zero =>
      have := h2 (by simp)
      simp at this
      simp [List.takeWhile_cons]; omega
    | succ i =>
      have h0 := h1 0 (by omega)
      simp at h0
      simp only [List.takeWhile_cons, h0, decide_true, if_true, List.length_cons]
      rw [ih (i := i) (by simpa using hi) (fun k hk => by simpa using h1 (k + 1) (by omega)) (fun h => by simpa using h2 (by simpa using h))]
def bsI (l : List Lea) (r : Int) (p : Nat × Nat) : Prop := p.1 ≤ p.2 ∧ p.2 ≤ l.length ∧ (∀ k, k < p.1 → (l.getD k default).range < r) ∧ (∀ k, p.2 ≤ k → k < l.length → ¬ (l.getD k default).range < r)
theorem Search_is (l : List Lea) (r : Int) (hl : l.length ≤ 1073741824) (hs : SrtR l) : Is mx 56 [.sl (l.map eLea), iI r, .fn 57 [] []] (.tup [iI (lbR l r), .bool (hasR l r)]) := by
  refine MX F56 ?_
  refine Kbn ?_
  refine lT [0, 1, 2, 8] (fun p : Nat × Nat => [(9, .i (iI p.1)), (10, .i (iI p.2))]) (fun _ => []) (bsI l r) (fun p => p.2 - p.1) (0, l.length) ?_ ⟨by simp, by simp, by simp, fun k h1 h2 => by simp at h1; omega⟩
  rintro ⟨i, j⟩ hp
  obtain ⟨p1, p2, p3, p4⟩ := id hp
  simp only at p1 p2 p3 p4
  by_cases hij : i < j
  · have hm : (i + j) / 2 < l.length := by omega
    have h1 := find1_is (mx := mx) (l.getD ((i + j) / 2) default) r
    have e1 : shV .shr .u64 (IntKind.u64.wrap ((i : Int) + (j : Int))) 1 = .int .u64 (((i + j) / 2 : Nat) : Int) := by
      have e : IntKind.u64.wrap ((i : Int) + (j : Int)) = ((i + j : Nat) : Int) := by
        show ((i : Int) + (j : Int)) % (2 ^ 64 : Int) = _
        omega
      rw [e]
      show I.int .u64 (Int.fdiv ((i + j : Nat) : Int) (2 ^ (Nat.min (Int.toNat (1 : Int)) 64))) = _
      have e2 : (2 : Int) ^ (Nat.min (Int.toNat (1 : Int)) 64) = 2 := by decide
      rw [e2, Int.fdiv_eq_ediv_of_nonneg _ (by omega)]
      congr 1
    by_cases hc : (l.getD ((i + j) / 2) default).range < r
    · have e2 : decide (cmpR (l.getD ((i + j) / 2) default).range r < 0) = true := by unfold cmpR; rw [if_pos hc]; rfl
      refine Kan (cj h1 (cj (ltT hij) (cj e1 (cj e2 (ltT hm))))) ?_
      have hq : bsI l r ((i + j) / 2 + 1, j) := ⟨by show _ + 1 ≤ j; omega, p2, fun k hk => by
        rcases Nat.lt_or_ge k ((i + j) / 2) with h | h
        · have := hs k ((i + j) / 2) h hm; omega
        · have e : k = (i + j) / 2 := by simp only at hk; omega
          rw [e]; exact hc, p4⟩
      exact ⟨((i + j) / 2 + 1, j), hq, by show j - ((i + j) / 2 + 1) < j - i; omega, rfl, rfl⟩
    · have e2 : decide (cmpR (l.getD ((i + j) / 2) default).range r < 0) = false := by
        unfold cmpR; rw [if_neg hc]; split <;> simp
      refine Kan (cj h1 (cj (ltT hij) (cj e1 (cj e2 (ltT hm))))) ?_
      have hq : bsI l r (i, (i + j) / 2) := ⟨by show i ≤ _; omega, by show _ ≤ l.length; omega, p3, fun k hk hkl => by
        rcases Nat.lt_or_ge ((i + j) / 2) k with h | h
        · have := hs ((i + j) / 2) k h hkl; omega
        · have e : k = (i + j) / 2 := by simp only at hk; omega
          rw [e]; exact hc⟩
      exact ⟨(i, (i + j) / 2), hq, by show (i + j) / 2 - i < j - i; omega, rfl, rfl⟩
  · obtain rfl : i = j := by omega
    have el : lbR l r = i := lbR_eq p2 p3 (fun h => p4 i (Nat.le_refl _) h)
    by_cases hil : i < l.length
    · have h1 := find1_is (mx := mx) (l.getD i default) r
      refine Kan (cj h1 (cj (ltF hij) (ltT hil))) ?_
      have e : hasR l r = decide (cmpR (l.getD i default).range r = 0) := by
        unfold hasR; rw [el, decide_eq_true hil, Bool.and_true]
        unfold cmpR
        rcases Int.lt_trichotomy (l.getD i default).range r with h | h | h
        · rw [if_pos h, decide_eq_false (by omega)]; rfl
        · rw [if_neg (by omega), if_neg (by omega), decide_eq_true h]; rfl
        · rw [if_neg (by omega), if_pos h, decide_eq_false (by omega)]; rfl
      rw [el, e]
    · refine Kan (cj (ltF hij) (ltF hil)) ?_
      have e : hasR l r = false := by unfold hasR; rw [el]; simp; omega
      rw [el, e]
theorem Search_mc (l : List Lea) (r : Int) (hl : l.length ≤ 1073741824) (hs : SrtR l) : MC Tryz.prog (GLm mx) 56 [.ref (.sl 5000 5 0 l.length), .i (iI r), .i (.fn 57 [] [])] [(5000, .rows 24 5 (l.map eLea))] [] (fun z s => z = .i (.tup [iI (lbR l r), .bool (hasR l r)]) ∧ s = [(5000, .rows 24 5 (l.map eLea))]) := by
  refine MX F56 ?_
  refine Kbns ?_
  refine lT [0, 1, 2, 8] (fun p : Nat × Nat => [(9, .i (iI p.1)), (10, .i (iI p.2))]) (fun _ => [(5000, .rows 24 5 (l.map eLea))]) (bsI l r) (fun p => p.2 - p.1) (0, l.length) ?_ ⟨by simp, by simp, by simp, fun k h1 h2 => by simp at h1; omega⟩
  rintro ⟨i, j⟩ hp
  obtain ⟨p1, p2, p3, p4⟩ := id hp
  simp only at p1 p2 p3 p4
  by_cases hij : i < j
  · have hm : (i + j) / 2 < l.length := by omega
    have h1 := find1_is (mx := mx) (l.getD ((i + j) / 2) default) r
    have e1 : shV .shr .u64 (IntKind.u64.wrap ((i : Int) + (j : Int))) 1 = .int .u64 (((i + j) / 2 : Nat) : Int) := by
      have e : IntKind.u64.wrap ((i : Int) + (j : Int)) = ((i + j : Nat) : Int) := by
        show ((i : Int) + (j : Int)) % (2 ^ 64 : Int) = _
        omega
      rw [e]
      show I.int .u64 (Int.fdiv ((i + j : Nat) : Int) (2 ^ (Nat.min (Int.toNat (1 : Int)) 64))) = _
      have e2 : (2 : Int) ^ (Nat.min (Int.toNat (1 : Int)) 64) = 2 := by decide
      rw [e2, Int.fdiv_eq_ediv_of_nonneg _ (by omega)]
      congr 1
    by_cases hc : (l.getD ((i + j) / 2) default).range < r
    · have e2 : decide (cmpR (l.getD ((i + j) / 2) default).range r < 0) = true := by unfold cmpR; rw [if_pos hc]; rfl
      refine Kans (cj h1 (cj (ltT hij) (cj e1 (cj e2 (cj (ltT hm) hm))))) ?_
      have hq : bsI l r ((i + j) / 2 + 1, j) := ⟨by show _ + 1 ≤ j; omega, p2, fun k hk => by
        rcases Nat.lt_or_ge k ((i + j) / 2) with h | h
        · have := hs k ((i + j) / 2) h hm; omega
        · have e : k = (i + j) / 2 := by simp only at hk; omega
          rw [e]; exact hc, p4⟩
      exact ⟨((i + j) / 2 + 1, j), hq, by show j - ((i + j) / 2 + 1) < j - i; omega, rfl, rfl⟩
    · have e2 : decide (cmpR (l.getD ((i + j) / 2) default).range r < 0) = false := by
        unfold cmpR; rw [if_neg hc]; split <;> simp
      refine Kans (cj h1 (cj (ltT hij) (cj e1 (cj e2 (cj (ltT hm) hm))))) ?_
      have hq : bsI l r (i, (i + j) / 2) := ⟨by show i ≤ _; omega, by show _ ≤ l.length; omega, p3, fun k hk hkl => by
        rcases Nat.lt_or_ge ((i + j) / 2) k with h | h
        · have := hs ((i + j) / 2) k h hkl; omega
        · have e : k = (i + j) / 2 := by simp only at hk; omega
          rw [e]; exact hc⟩
      exact ⟨(i, (i + j) / 2), hq, by show (i + j) / 2 - i < j - i; omega, rfl, rfl⟩
  · obtain rfl : i = j := by omega
    have el : lbR l r = i := lbR_eq p2 p3 (fun h => p4 i (Nat.le_refl _) h)
    by_cases hil : i < l.length
    · have h1 := find1_is (mx := mx) (l.getD i default) r
      refine Kans (cj h1 (cj (ltF hij) (cj (ltT hil) hil))) ?_
      have e : hasR l r = decide (cmpR (l.getD i default).range r = 0) := by
        unfold hasR; rw [el, decide_eq_true hil, Bool.and_true]
        unfold cmpR
        rcases Int.lt_trichotomy (l.getD i default).range r with h | h | h
        · rw [if_pos h, decide_eq_false (by omega)]; rfl
        · rw [if_neg (by omega), if_neg (by omega), decide_eq_true h]; rfl
        · rw [if_neg (by omega), if_pos h, decide_eq_false (by omega)]; rfl
      rw [el, e]
      exact ret_S [(5000, 5000)] ⟨rfl, rfl⟩
    · refine Kans (cj (ltF hij) (ltF hil)) ?_
      have e : hasR l r = false := by unfold hasR; rw [el]; simp; omega
      rw [el, e]
      exact ret_S [(5000, 5000)] ⟨rfl, rfl⟩
theorem find_is (l : List Lea) (r : Int) (hl : l.length ≤ 1073741824) (hs : SrtR l) : Is mx 37 [.sl (l.map eLea), iI r] (.tup [iI (lbR l r), .bool (hasR l r)]) := by
  have h1 := Search_is (mx := mx) l r hl hs
  refine MX F37 ?_
  exact Kan h1 trivial
theorem find_mc (l : List Lea) (r : Int) (hl : l.length ≤ 1073741824) (hs : SrtR l) : MC Tryz.prog (GLm mx) 37 [.ref (.sl 5000 5 0 l.length), .i (iI r)] [(5000, .rows 24 5 (l.map eLea))] [] (fun z s => z = .i (.tup [iI (lbR l r), .bool (hasR l r)]) ∧ s = [(5000, .rows 24 5 (l.map eLea))]) := by
  have h1 := Search_mc (mx := mx) l r hl hs
  refine MX F37 ?_
  (repeat' first
| exact hole _
| simp (maxSteps := 9999999) (disch := omega) only [go_sem, simprocAttr]
| (refine callG_S h1 ?_ (fun r sto' hR => ?_); (focus (first | rfl | (simp only [go_sem, simprocAttr]; done))); (obtain ⟨rfl, rfl⟩ := hR))
| refine Sx.s ?_ ?_ <;> try (intro h; have h' := h; try simp only [HB] at h'; try rewrite [h]; try simp only [h])
| refine ct_I ?_
| refine Sz.s ?_
| (refine And.intro ?_ ?_; focus omega))
  exact ret_S [(5000, 5000)] ⟨rfl, rfl⟩
end Go.Proofs.YtcgjldimifeffaaGreatDoor
set_option maxRecDepth 100000
set_option maxHeartbeats 8000000
namespace Go.Proofs.YtcgjldimifeffaaGreatDoor
open Go Go.Dl Go.As Go.Proofs
variable {mx : Int}
attribute [local irreducible] callG callL MC W2 evT ev evD step stepD
/-! Workers: New, Adopt, Advance. -/
structure Eng where
  no : Int
  tick : Int
  tabs : List Tbl
deriving Inhabited
structure Wrk where
  no : Int
  now : Int
  slack : Int
  eng : Eng
  leases : List Lea
  snap : Eng
deriving Inhabited
def eEng (g : Eng) : List I := [.int .i64 g.no, .int .i64 g.tick, .sl (g.tabs.map eTbl), .sl [], .sl [], .sl [], .sl []]
def eWrk (w : Wrk) : List I := [.int .i64 w.no, .int .i64 w.now, .int .i64 w.slack, .int .i64 w.eng.no, .int .i64 w.eng.tick, .sl (w.eng.tabs.map eTbl), .sl [], .sl [], .sl [], .sl [], .sl (w.leases.map eLea), .int .i64 w.snap.no, .int .i64 w.snap.tick, .sl (w.snap.tabs.map eTbl), .sl [], .sl [], .sl [], .sl []]
@[go_sem] theorem VWrk : (∀ g : Eng, eEng g = [.int .i64 g.no, .int .i64 g.tick, .sl (g.tabs.map eTbl), .sl [], .sl [], .sl [], .sl []]) ∧ (∀ w : Wrk, eWrk w = [.int .i64 w.no, .int .i64 w.now, .int .i64 w.slack, .int .i64 w.eng.no, .int .i64 w.eng.tick, .sl (w.eng.tabs.map eTbl), .sl [], .sl [], .sl [], .sl [], .sl (w.leases.map eLea), .int .i64 w.snap.no, .int .i64 w.snap.tick, .sl (w.snap.tabs.map eTbl), .sl [], .sl [], .sl [], .sl []]) := ⟨fun _ => rfl, fun _ => rfl⟩
def eng0 : Eng := ⟨0, 0, []⟩
def wrk0 : Wrk := ⟨0, 0, 0, eng0, [], eng0⟩
theorem eNew_is : Is mx 29 [] (.agg (eEng eng0)) := by
  refine MX F29 ?_
  exact Kans @eng0.eq_1 trivial
def wNewR (no : Int) : Wrk × Int := if (decide (no < 1) || decide (8 < no)) = true then (wrk0, 1) else (⟨no, 0, 0, eng0, [], eng0⟩, 0)
def eWE (r : Wrk × Int) : I := .tup [.agg (eWrk r.1), iI r.2]
theorem wNew_is (no : Int) : Is mx 6 [iI no] (eWE (wNewR no)) := by
  have h1 := eNew_is (mx := mx)
  refine MX F6 ?_
  refine Kan h1 (cj ?_ ?_)
  · intro h _; unfold wNewR; rw [if_pos h]; rfl
  · intro h _; unfold wNewR; rw [if_neg (by rw [h]; decide)]; rfl
def advR (w : Wrk) (n m : Int) : Wrk × Int :=
  if (decide (n < 0) || decide (m < -w.slack)) = true then (wrk0, 1)
  else if (decide (2199023255552 - w.now < n) || decide (2199023255552 - w.slack < m)) = true then (wrk0, 2)
  else (⟨w.no, w.now + n, w.slack + m, w.eng, w.leases, w.snap⟩, 0)
theorem wAdvance_is (w : Wrk) (n m : Int) (h1 : 0 ≤ w.now) (h2 : w.now ≤ 2199023255552) (h3 : 0 ≤ w.slack) (h4 : w.slack ≤ 2199023255552) (hn : -9223372036854775808 ≤ n) (hm : -9223372036854775808 ≤ m) : Is mx 13 [.agg (eWrk w), iI n, iI m] (eWE (advR w n m)) := by
  have e0 : IntKind.i64.wrap (0 - w.slack) = -w.slack := by grind [wrap64]
  refine MX F13 ?_
  refine Kan e0 (cj ?_ (cj ?_ ?_))
  · intro h _; unfold advR; rw [if_pos h]; rfl
  · intro h _ h2 _; unfold advR; rw [if_neg (by rw [h]; decide), if_pos h2]; rfl
  · intro h _ h2 _; unfold advR; rw [if_neg (by rw [h]; decide), if_neg (by rw [h2]; decide)]; rfl
theorem leaInsert_at (nm : Nat) (hn : nm < 5000) (l : List Lea) (k : Nat) (f : Lea) (hl : l.length ≤ 1073741824) (hk : k ≤ l.length) : MC Tryz.prog (GLm mx) 38 [.ref (.sl nm 5 0 l.length), .i (iI k), .i (.sl [eLea f])] [(nm, .rows 24 5 (l.map eLea))] [nm]
    (fun r s => ∃ m, (m = nm ∨ m = 6000) ∧ r = .ref (.sl m 5 0 (l.length + 1)) ∧ s = [(m, .rows 24 5 ((insAt l k f).map eLea))]) := by
  have e1 : sws [(5000, nm)] 5000 = nm := by rfl
  have e2 : sws [(5000, nm)] 6000 = 6000 := by grind [sws,sw]
  have h := (MC.as [(5000, nm)] (leaInsert_mc (mx := mx) l k f hl hk)).mono (R' := fun r s => ∃ m, (m = nm ∨ m = 6000) ∧ r = .ref (.sl m 5 0 (l.length + 1)) ∧ s = [(m, .rows 24 5 ((insAt l k f).map eLea))]) (by
    rintro r s ⟨m, hm, h1, h2⟩
    have k := mpD_mpD (f := swi [(5000, nm)]) (g := sws [(5000, nm)]) (sws_swi _) r
    have k2 := mpS_mpS (f := swi [(5000, nm)]) (g := sws [(5000, nm)]) (sws_swi _) s
    rw [h1] at k
    rw [h2] at k2
    rcases hm with rfl | rfl
    · refine ⟨nm, .inl rfl, ?_, ?_⟩
      · rw [← k]; simp only [mpD, mpR, e1]
      · rw [← k2]; simp only [mpS, mpB, e1]
    · refine ⟨6000, .inr rfl, ?_, ?_⟩
      · rw [← k]; simp only [mpD, mpR, e2]
      · rw [← k2]; simp only [mpS, mpB, e2])
  simp only [List.map_cons, List.map_nil, mpD, mpR, mpS, mpB, e1] at h
  exact h
theorem find_at (nm : Nat) (hn : nm < 5000) (l : List Lea) (r : Int) (hl : l.length ≤ 1073741824) (hs : SrtR l) : MC Tryz.prog (GLm mx) 37 [.ref (.sl nm 5 0 l.length), .i (iI r)] [(nm, .rows 24 5 (l.map eLea))] [] (fun z s => z = .i (.tup [iI (lbR l r), .bool (hasR l r)]) ∧ s = [(nm, .rows 24 5 (l.map eLea))]) := by
  have e1 : sws [(5000, nm)] 5000 = nm := by rfl
  have h := (MC.as [(5000, nm)] (find_mc (mx := mx) l r hl hs)).mono (R' := fun z s => z = .i (.tup [iI (lbR l r), .bool (hasR l r)]) ∧ s = [(nm, .rows 24 5 (l.map eLea))]) (by
    rintro r s ⟨h1, h2⟩
    have k := mpD_mpD (f := swi [(5000, nm)]) (g := sws [(5000, nm)]) (sws_swi _) r
    have k2 := mpS_mpS (f := swi [(5000, nm)]) (g := sws [(5000, nm)]) (sws_swi _) s
    rw [h1] at k
    rw [h2] at k2
    refine ⟨?_, ?_⟩
    · rw [← k]; rfl
    · rw [← k2]; simp only [mpS, mpB, e1])
  simp only [List.map_cons, List.map_nil, mpD, mpR, mpS, mpB, e1] at h
  exact h
def adoptL (l : List Lea) (x : Lea) : List Lea := if hasR l x.range = true then l.set (lbR l x.range) x else insAt l (lbR l x.range) x
theorem lbR_le (l : List Lea) (r : Int) : lbR l r ≤ l.length := (List.takeWhile_sublist _).length_le
theorem Adopt_is (w : Wrk) (x : Lea) (hl : w.leases.length ≤ 1000) (hs : SrtR w.leases) : Is mx 15 [.agg (eWrk w), .agg (eLea x)] (.agg (eWrk ⟨w.no, w.now, w.slack, w.eng, adoptL w.leases x, w.snap⟩)) := by
  have m1 := leaClone_mc (mx := mx) w.leases (by omega)
  have m2 := find_at (mx := mx) 10 (by decide) w.leases x.range (by omega) hs
  have m3 := leaInsert_at (mx := mx) 10 (by decide) w.leases (lbR w.leases x.range) x (by omega) (lbR_le _ _)
  have hb := lbR_le w.leases x.range
  have e1 : (insAt w.leases (lbR w.leases x.range) x).length = w.leases.length + 1 := by simp [insAt]; omega
  have e2 : List.take (w.leases.length + 1) (List.map eLea (insAt w.leases (lbR w.leases x.range) x)) = List.map eLea (insAt w.leases (lbR w.leases x.range) x) := List.take_of_length_le (by rw [List.length_map, e1]; exact Nat.le_refl _)
  refine MX F15 ?_
  cases hf : hasR w.leases x.range with
  | false =>
    have ea : adoptL w.leases x = insAt w.leases (lbR w.leases x.range) x := by unfold adoptL; rw [hf]; rfl
    rw [ea]; rw [hf] at m2
    (repeat' first
| simp (disch := omega) only [go_sem, simprocAttr, e1, e2, Nat.le_refl, if_true]
| (first | refine callO_S (m1) ?_ (fun r sto' hR => ?_) | refine callG_S (m1) ?_ (fun r sto' hR => ?_); (focus (first | rfl | (simp only [go_sem, simprocAttr, e1, e2, Nat.le_refl, if_true]; done))); first | (obtain ⟨rfl, rfl⟩ := hR) | (obtain ⟨_, (rfl | rfl), rfl, rfl⟩ := hR))
| (first | refine callO_S (m2) ?_ (fun r sto' hR => ?_) | refine callG_S (m2) ?_ (fun r sto' hR => ?_); (focus (first | rfl | (simp only [go_sem, simprocAttr, e1, e2, Nat.le_refl, if_true]; done))); first | (obtain ⟨rfl, rfl⟩ := hR) | (obtain ⟨_, (rfl | rfl), rfl, rfl⟩ := hR))
| (first | refine callO_S (m3) ?_ (fun r sto' hR => ?_) | refine callG_S (m3) ?_ (fun r sto' hR => ?_); (focus (first | rfl | (simp only [go_sem, simprocAttr, e1, e2, Nat.le_refl, if_true]; done))); first | (obtain ⟨rfl, rfl⟩ := hR) | (obtain ⟨_, (rfl | rfl), rfl, rfl⟩ := hR))
| refine Sx.s ?_ ?_ <;> try (intro h; have h' := h; try simp only [HB] at h'; try rewrite [h]; try simp only [h])
| refine ct_I ?_
| refine Sz.s ?_
| fail)
  | true =>
    have hlt : lbR w.leases x.range < w.leases.length := by unfold hasR at hf; simp at hf; omega
    have ea : adoptL w.leases x = w.leases.set (lbR w.leases x.range) x := by unfold adoptL; rw [hf]; rfl
    rw [ea]; rw [hf] at m2
    have e4 : ((lbR w.leases x.range : Int) < (w.leases.length : Int)) = True := ltT hlt
    have e5 : (List.map eLea w.leases).getD (lbR w.leases x.range) [] = eLea (w.leases.getD (lbR w.leases x.range) default) := getD_map _ _ _ hlt
    (repeat' first
| simp (disch := omega) only [go_sem, simprocAttr, e4, e5, hlt, Nat.zero_add, Nat.sub_zero, List.length_set, Nat.le_refl, if_true]
| (first | refine callO_S (m1) ?_ (fun r sto' hR => ?_) | refine callG_S (m1) ?_ (fun r sto' hR => ?_); (focus (first | rfl | (simp only [go_sem, simprocAttr, e4, e5, hlt, Nat.zero_add, Nat.sub_zero, List.length_set, Nat.le_refl, if_true]; done))); first | (obtain ⟨rfl, rfl⟩ := hR) | (obtain ⟨_, (rfl | rfl), rfl, rfl⟩ := hR))
| (first | refine callO_S (m2) ?_ (fun r sto' hR => ?_) | refine callG_S (m2) ?_ (fun r sto' hR => ?_); (focus (first | rfl | (simp only [go_sem, simprocAttr, e4, e5, hlt, Nat.zero_add, Nat.sub_zero, List.length_set, Nat.le_refl, if_true]; done))); first | (obtain ⟨rfl, rfl⟩ := hR) | (obtain ⟨_, (rfl | rfl), rfl, rfl⟩ := hR))
| (first | refine callO_S (m3) ?_ (fun r sto' hR => ?_) | refine callG_S (m3) ?_ (fun r sto' hR => ?_); (focus (first | rfl | (simp only [go_sem, simprocAttr, e4, e5, hlt, Nat.zero_add, Nat.sub_zero, List.length_set, Nat.le_refl, if_true]; done))); first | (obtain ⟨rfl, rfl⟩ := hR) | (obtain ⟨_, (rfl | rfl), rfl, rfl⟩ := hR))
| refine Sx.s ?_ ?_ <;> try (intro h; have h' := h; try simp only [HB] at h'; try rewrite [h]; try simp only [h])
| refine ct_I ?_
| refine Sz.s ?_
| fail)
    rw [List.take_of_length_le (by simp), List.map_set]; rfl
end Go.Proofs.YtcgjldimifeffaaGreatDoor
set_option maxRecDepth 100000
set_option maxHeartbeats 8000000
namespace Go.Proofs.YtcgjldimifeffaaGreatDoor
open Go Go.Dl Go.As Go.Proofs
variable {mx : Int}
attribute [local irreducible] callG callL MC W2 evT ev evD step stepD
/-! The hash. -/
theorem bshr (x : W64) (k : Nat) (hk : k < 64) (d : Nat) (st : St) (K : St → Prop) : shE .shr (.i (iW x)) (.i (.int .u64 (k : Int))) d st K = K (st.put d (.i (iW (x >>> k)))) := by
  rw [← iW_shr x k hk]; simp [shE, iW]
theorem okW (op : BinOp) (h : op = .xor ∨ op = .or ∨ op = .add ∨ op = .mul) (x y : W64) : binOk op (iW x) (iW y) = True := by
  rcases h with rfl | rfl | rfl | rfl <;> simp [iW, binOk]
@[go_sem] theorem VHash : (∀ x y, binOk .xor (iW x) (iW y) = True) ∧ (∀ x y, binV .xor (iW x) (iW y) = iW (x ^^^ y)) ∧ (∀ x y, binOk .or (iW x) (iW y) = True) ∧ (∀ x y, binV .or (iW x) (iW y) = iW (x ||| y)) ∧
    (∀ x, binOk .add (iW x) (.int .u64 11400714819323198485) = True) ∧ (∀ x, binV .add (iW x) (.int .u64 11400714819323198485) = iW (x + 0x9e3779b97f4a7c15#64)) ∧
    (∀ x, binOk .mul (iW x) (.int .u64 11400714819323198485) = True) ∧ (∀ x, binV .mul (iW x) (.int .u64 11400714819323198485) = iW (x * 0x9e3779b97f4a7c15#64)) ∧
    (∀ x, binOk .mul (iW x) (.int .u64 13787848793156543929) = True) ∧ (∀ x, binV .mul (iW x) (.int .u64 13787848793156543929) = iW (x * 0xbf58476d1ce4e5b9#64)) ∧
    (∀ x, binOk .mul (iW x) (.int .u64 10723151780598845931) = True) ∧ (∀ x, binV .mul (iW x) (.int .u64 10723151780598845931) = iW (x * 0x94d049bb133111eb#64)) ∧
    (∀ x d st K, shE .shr (.i (iW x)) (.i (.int .u64 30)) d st K = K (st.put d (.i (iW (x >>> 30))))) ∧ (∀ x d st K, shE .shr (.i (iW x)) (.i (.int .u64 27)) d st K = K (st.put d (.i (iW (x >>> 27))))) ∧ (∀ x d st K, shE .shr (.i (iW x)) (.i (.int .u64 31)) d st K = K (st.put d (.i (iW (x >>> 31))))) :=
  ⟨okW _ (by simp), iW_xor, okW _ (by simp), iW_or, fun x => okW _ (by simp) x 0x9e3779b97f4a7c15#64, fun x => iW_add x 0x9e3779b97f4a7c15#64, fun x => okW _ (by simp) x 0x9e3779b97f4a7c15#64, fun x => iW_mul x 0x9e3779b97f4a7c15#64, fun x => okW _ (by simp) x 0xbf58476d1ce4e5b9#64, fun x => iW_mul x 0xbf58476d1ce4e5b9#64, fun x => okW _ (by simp) x 0x94d049bb133111eb#64, fun x => iW_mul x 0x94d049bb133111eb#64, fun x => bshr x 30 (by decide), fun x => bshr x 27 (by decide), fun x => bshr x 31 (by decide)⟩
theorem mix_is (x : W64) : Is mx 51 [iW x] (iW (mixB x)) := by
  refine MX F51 ?_
  refine Kbn ?_
  rfl
theorem Mix_is (x : W64) : Is mx 52 [iW x] (iW (mixB x)) := by
  refine MX F52 ?_
  refine Kbn ?_
  rfl
def bI (b : UInt8) : List I := [.int .u8 (b.toNat : Int)]
theorem eW (n : Nat) (h : n < 18446744073709551616) : I.int .u64 (n : Int) = iW (BitVec.ofNat 64 n) := by
  unfold iW; rw [BitVec.toNat_ofNat, Nat.mod_eq_of_lt h]
theorem grp8 (t : List UInt8) (h : t.length ≤ 8) : grpN t < 18446744073709551616 := Nat.lt_of_lt_of_le (grp_lt t) (Nat.le_trans (Nat.pow_le_pow_right (by decide) h) (by decide))
theorem grp_or (t : List UInt8) (k : Nat) (hk : k < t.length) (h8 : t.length ≤ 8) : BitVec.ofNat 64 (grpN (t.take k)) ||| BitVec.ofNat 64 ((t.getD k default).toNat * 256 ^ k) = BitVec.ofNat 64 (grpN (t.take (k + 1))) := by
  have h1 : t.take (k + 1) = t.take k ++ [t.getD k default] := by rw [List.take_succ_eq_append_getElem hk, getD_lt hk]
  have h2 := grp_snoc (t.take k) (t.getD k default)
  have hl : (t.take k).length = k := by simp; omega
  rw [h1, h2, hl]
  have hg := grp_lt (t.take k)
  rw [hl] at hg
  have e256 : 256 ^ k = 2 ^ (8 * k) := by rw [Nat.pow_mul]
  have hb := grp8 (t.take (k + 1)) (by simp; omega)
  rw [h1, h2, hl] at hb
  apply BitVec.eq_of_toNat_eq
  rw [BitVec.toNat_or, BitVec.toNat_ofNat, BitVec.toNat_ofNat, BitVec.toNat_ofNat, Nat.mod_eq_of_lt (by omega), Nat.mod_eq_of_lt (by omega), Nat.mod_eq_of_lt hb]
  rw [e256] at hg ⊢
  rw [← Nat.shiftLeft_eq, Nat.add_comm, Nat.shiftLeft_add_eq_or_of_lt hg, Nat.or_comm]
theorem shl_iW (b : UInt8) (k : Nat) (hk : k ≤ 7) : shV .shl .u64 (IntKind.u64.wrap (b.toNat : Int)) (8 * (k : Int)) = iW (BitVec.ofNat 64 (b.toNat * 256 ^ k)) := by
  have hb : b.toNat < 256 := b.toBitVec.isLt
  show I.int .u64 (IntKind.u64.wrap (IntKind.u64.wrap (b.toNat : Int) * 2 ^ (Nat.min (Int.toNat (8 * (k : Int))) 64))) = _
  have e1 : IntKind.u64.wrap (b.toNat : Int) = (b.toNat : Int) := by rw [wrapU, Nat.mod_eq_of_lt (by omega)]
  have e2 : Nat.min (Int.toNat (8 * (k : Int))) 64 = 8 * k := by
    have : Int.toNat (8 * (k : Int)) = 8 * k := by omega
    rw [this]; exact Nat.min_eq_left (by omega)
  have e3 : (b.toNat : Int) * 2 ^ (8 * k) = ((b.toNat * 256 ^ k : Nat) : Int) := by
    rw [show (256 : Nat) = 2 ^ 8 from rfl, ← Nat.pow_mul]; simp
  rw [e1, e2, e3, wrapU]
  unfold iW; rw [BitVec.toNat_ofNat]
@[simp] theorem grpN_nil : grpN [] = 0 := rfl
@[simp] theorem iW_0 : iW 0#64 = .int .u64 0 := rfl
@[simp] theorem hashS0 (s : List UInt8) (h : W64) : hashS s h 0 = h := rfl
theorem Hash_is (s : List UInt8) (hs : s.length ≤ 140737488355328) : Is mx 31 [iW 0, .sl (s.map bI)] (iW (hashR s)) := by
  have e0 : I.int .u64 (IntKind.u64.wrap (IntKind.u64.wrap (s.length : Int) * 11400714819323198485)) = iW (BitVec.ofNat 64 s.length * 0x9e3779b97f4a7c15#64) := by
    have := iW_mul (BitVec.ofNat 64 s.length) 0x9e3779b97f4a7c15#64
    rw [← this]
    have e : IntKind.u64.wrap (s.length : Int) = (s.length : Int) := by rw [wrapU, Nat.mod_eq_of_lt (by omega)]
    rw [e]
    unfold iW; rw [BitVec.toNat_ofNat, Nat.mod_eq_of_lt (by omega)]; rfl
  have hz : ∀ x : W64, 0#64 ^^^ x = x := by intro x; simp
  refine MX F31 ?_
  refine Kan (cj e0 hz) ?_
  generalize hH : BitVec.ofNat 64 s.length * 0x9e3779b97f4a7c15#64 = H0
  refine lS [] (fun i => [(1, .i (.sl ((s.drop (8 * i)).map bI))), (4, .i (iW (hashS s H0 i)))]) (fun _ => []) (fun _ => True) ((s.length + 7) / 8) ?_
  intro i hi _
  have hul : (s.drop (8 * i)).length = s.length - 8 * i := by simp
  by_cases hi' : i < (s.length + 7) / 8
  · have h1 : decide ((0 : Int) < ((s.drop (8 * i)).length : Int)) = true := by rw [hul]; simp; omega
    have h2 : hashS s H0 (i + 1) = mixB ((hashS s H0 i ^^^ BitVec.ofNat 64 (grpN ((s.drop (8 * i)).take 8))) + 0x9e3779b97f4a7c15#64) := rfl
    have h3 : s.drop (8 * (i + 1)) = (s.drop (8 * i)).drop 8 := by rw [List.drop_drop]; congr 1
    generalize hv : hashS s H0 (i + 1) = v1 at h2
    generalize hw : s.drop (8 * (i + 1)) = u1 at h3
    generalize hashS s H0 i = v at h2 ⊢
    generalize s.drop (8 * i) = u at h1 h2 h3 hul ⊢
    obtain ⟨m, hm, hm8⟩ : ∃ m : Nat, (if (u.length : Int) < 8 then (u.length : Int) else 8) = (m : Int) ∧ m = min 8 u.length := ⟨min 8 u.length, by split <;> omega, rfl⟩
    have hmu : m ≤ u.length := by omega
    have r1 : (∀ r ∈ u.map bI, r.length = 1) = True := by simp [bI]
    have em : ((m : Int) ≤ (u.length : Int)) = True := by simp; omega
    have e7 : List.take m (List.map bI u) = List.map bI (u.take 8) := by
      rw [List.map_take]
      rcases Nat.lt_or_ge u.length 8 with h | h
      · rw [List.take_of_length_le (by simp; omega), List.take_of_length_le (by simp; omega)]
      · rw [show m = 8 by omega]
    have e8 : List.drop m (List.map bI u) = List.map bI (u.drop 8) := by
      rw [List.map_drop]
      rcases Nat.lt_or_ge u.length 8 with h | h
      · rw [List.drop_of_length_le (by simp; omega), List.drop_of_length_le (by simp; omega)]
      · rw [show m = 8 by omega]
    refine Kan (cj h1 (cj r1 (cj hm (cj em (cj e7 @bI.eq_1))))) ?_
    have ht8 : (u.take 8).length ≤ 8 := by simp; omega
    generalize u.take 8 = t at h2 e7 ht8 ⊢
    refine lS [1, 4, 5, 23, 24] (fun k => [(6, .i (iW (BitVec.ofNat 64 (grpN (t.take k))))), (25, .i (iI k))]) (fun _ => []) (fun _ => True) t.length ?_
    intro k hk _
    by_cases hk' : k < t.length
    · have e9 := grp_or t k hk' ht8
      have e10 : shV .shl .u64 (IntKind.u64.wrap ((t.getD k default).toNat : Int)) (8 * (k : Int)) = iW (BitVec.ofNat 64 ((t.getD k default).toNat * 256 ^ k)) := shl_iW _ k (by omega)
      refine Kan (cj (ltT hk') (cj e9 (cj e10 @bI.eq_1))) ?_
      exact ⟨by omega, hk'⟩
    · obtain rfl : k = t.length := by omega
      have hx := mix_is (mx := mx) ((v ^^^ BitVec.ofNat 64 (grpN t)) + 0x9e3779b97f4a7c15#64)
      have e12 : t.take t.length = t := List.take_length
      refine Kan (cj (ltF hk') (cj e12 (cj hx (cj em e8)))) ?_
      exact ⟨of_eq_true r1, Int.le_refl _, hi', by rw [hw, h3], by rw [hv, h2]⟩
  · have h1 : decide ((0 : Int) < ((s.drop (8 * i)).length : Int)) = false := by rw [hul]; simp; omega
    have hm := mix_is (mx := mx) (hashS s H0 i)
    have hi2 : i = (s.length + 7) / 8 := by omega
    refine Kan (cj h1 hm) ?_
    unfold hashR; rw [hH, ← hi2]
end Go.Proofs.YtcgjldimifeffaaGreatDoor
set_option maxRecDepth 100000
set_option maxHeartbeats 8000000
namespace Go.Proofs.YtcgjldimifeffaaGreatDoor
open Go Go.Dl Go.As Go.Proofs
variable {mx : Int}
attribute [local irreducible] callG callL MC W2 evT ev evD step stepD
/-! The range of a key; the steps of an answer. -/
def rangeR (key : Str) (n : Int) : Int × Int := if (decide (n < 1) || decide (16 < n)) = true then (0, 1) else (((hashR key).toNat : Int) % n, 0)
theorem wRange_is (key : Str) (n : Int) (hk : key.length ≤ 140737488355328) : Is mx 8 [.str key, iI n] (.tup [iI (rangeR key n).1, iI (rangeR key n).2]) := by
  have h1 := Hash_is (mx := mx) key hk
  have e0 : I.int .u64 0 = iW 0 := rfl
  refine MX F8 ?_
  by_cases hc : (decide (n < 1) || decide (16 < n)) = true
  · have e9 : rangeR key n = (0, 1) := by unfold rangeR; rw [if_pos hc]
    exact Kan (cj hc e9) trivial
  · have hn : 1 ≤ n ∧ n ≤ 16 := by simp at hc; omega
    have hc : (decide (n < 1) || decide (16 < n)) = false := by simpa using hc
    have e9 : rangeR key n = (((hashR key).toNat : Int) % n, 0) := by unfold rangeR; rw [hc]; rfl
    have e1 : IntKind.u64.wrap n = n := by show n % (2 ^ 64 : Int) = n; omega
    have e5 : binOk .rem (iW (hashR key)) (.int .u64 n) = True := by simp [binOk, iW]; omega
    have e6 : binV .rem (iW (hashR key)) (.int .u64 n) = .int .u64 (((hashR key).toNat : Int) % n) := by
      show I.int .u64 (Int.tmod _ _) = _
      rw [Int.tmod_eq_emod_of_nonneg (by omega)]
    have b1 := Int.emod_nonneg ((hashR key).toNat : Int) (show n ≠ 0 by omega)
    have b2 := Int.emod_lt_of_pos ((hashR key).toNat : Int) (show 0 < n by omega)
    refine Kan (cj hc (cj h1 (cj e0 (cj e1 (cj e5 e6))))) ?_
    rw [e9]
@[go_sem] theorem VNf (d : Nat) (st : St) (K : St → Prop) : (∀ neg, isnilE .nf neg (.i .nilif) d st K = K (st.put d (.i (.bool (true != neg))))) ∧ (∀ neg t x, isnilE .nf neg (.i (.iface t x)) d st K = K (st.put d (.i (.bool (false != neg))))) := ⟨fun _ => rfl, fun _ _ _ => rfl⟩
def refI (e : Int) : I := .iface 141 (.agg [.int .i64 e])
def stepI (s : Str) (x : I) : I := .iface 149 (.agg [.str s, x])
theorem failed_is (s : Str) (e : Int) (he : e ≠ 0) : Is mx 517 [.str s, iI e] (stepI s (refI e)) := by
  refine MX F517 ?_
  have h : (e = 0) = False := eq_false he
  have ci : ∀ t x, cellsI (.iface t x) = [.iface t x] := fun _ _ => rfl
  exact Kans (cj h (cj ci (cj @stepI.eq_1 @refI.eq_1))) trivial
theorem lValid_is (x : Lea) (now : Int) : Is mx 516 [.agg (eLea x), iI now] (.bool (decide (now < x.to))) := by
  refine MX F516 ?_
  exact Kbn trivial
/-- What a worker's lease says: the code of the refusal, or none. -/
def askR (w : Wrk) (r : Int) : Int × Str :=
  let x := w.leases.getD (lbR w.leases r) default
  if hasR w.leases r = false ∨ ¬ w.now < x.to then (420, [108, 101, 97, 115, 101])
  else if x.worker ≠ w.no then (430, [111, 119, 110, 101, 114])
  else if w.eng.no < x.floor then (431, [102, 108, 111, 111, 114]) else (0, [])
def errI (p : Int × Str) : I := if p.1 = 0 then .nilif else stepI p.2 (refI p.1)
theorem ask1_is (w : Wrk) (r : Int) (hl : w.leases.length ≤ 1000) (hs : SrtR w.leases) : Is mx 515 [.agg [], .agg (eWrk w), iI r] (errI (askR w r)) := by
  have h1 := find_is (mx := mx) w.leases r (by omega) hs
  have hv := lValid_is (mx := mx) (w.leases.getD (lbR w.leases r) default) w.now
  have f1 := failed_is (mx := mx) [108, 101, 97, 115, 101] 420 (by decide)
  have f2 := failed_is (mx := mx) [111, 119, 110, 101, 114] 430 (by decide)
  have f3 := failed_is (mx := mx) [102, 108, 111, 111, 114] 431 (by decide)
  refine MX F515 ?_
  cases hh : hasR w.leases r with
  | false =>
    rw [hh] at h1
    have e : askR w r = (420, [108, 101, 97, 115, 101]) := by unfold askR; simp [hh]
    refine Kan (cj h1 f1) ?_
    rw [e]; rfl
  | true =>
    have hlt : lbR w.leases r < w.leases.length := by unfold hasR at hh; simp at hh; omega
    rw [hh] at h1
    have e : askR w r = (let x := w.leases.getD (lbR w.leases r) default; if ¬ w.now < x.to then (420, [108, 101, 97, 115, 101]) else if x.worker ≠ w.no then (430, [111, 119, 110, 101, 114]) else if w.eng.no < x.floor then (431, [102, 108, 111, 111, 114]) else (0, [])) := by
      unfold askR; simp only [hh, Bool.true_eq_false, false_or]
    simp only at e
    (repeat' first
    | exact hole _
    | simp (maxSteps := 9999999) (disch := omega) only [go_sem, simprocAttr, ltT hlt, hlt]
    | (first | refine' gdV_S (fun hq => ?_) (fun f => ?_) | refine' gdD_S (fun hq => ?_) (fun f => ?_)) <;> try (have hq' := hq; try simp only [HB] at hq')
    | refine callL_of (h1) ?_
    | refine callL_of (hv) ?_
    | refine callL_of (f1) ?_
    | refine callL_of (f2) ?_
    | refine callL_of (f3) ?_
    | refine Sx.s ?_ ?_ <;> try (intro h; have h' := h; try simp only [HB] at h'; try rewrite [h]; try simp only [h])
    | refine ct_I ?_
    | refine callG_Iv ?_ ?_
    | refine drJ_I ?_
    | refine Sz.s ?_
    | refine nxt_I (fun hr => ?_) (fun q hq => ?_)
    | refine isnil_I (fun hnil b => ?_) (fun hnil => ?_)
    | (refine And.intro ?_ ?_; focus omega)
    | fail)
    all_goals (rw [e]; (repeat' split) <;> first | rfl | (exfalso; simp_all; done) | (exfalso; simp_all; omega))
theorem entIdx0_is (f : Nat) (c x : List I) : Is mx 107 [.sl [], .fn f c x] (iI (-1)) := by
  refine MX F107 ?_
  refine Kbn ?_
  refine lS [0, 1, 7] (fun i => [(8, .i (iI i))]) (fun _ => []) (fun _ => True) 0 ?_
  intro i hi _
  obtain rfl : i = 0 := by omega
  (repeat' first
  | exact hole _
  | simp (maxSteps := 9999999) (disch := omega) only [go_sem, simprocAttr]
  | (first | refine' gdV_S (fun hq => ?_) (fun f => ?_) | refine' gdD_S (fun hq => ?_) (fun f => ?_)) <;> try (have hq' := hq; try simp only [HB] at hq')
  | refine Sx.s ?_ ?_ <;> try (intro h; have h' := h; try simp only [HB] at h'; try rewrite [h]; try simp only [h])
  | refine ct_I ?_
  | refine callG_Iv ?_ ?_
  | refine drJ_I ?_
  | refine Sz.s ?_
  | refine nxt_I (fun hr => ?_) (fun q hq => ?_)
  | refine isnil_I (fun hnil b => ?_) (fun hnil => ?_)
  | (refine And.intro ?_ ?_; focus omega)
  | fail)
theorem entHas0_is (f : Nat) (c x : List I) : Is mx 519 [.sl [], .fn f c x] (.bool false) := by
  have h1 := entIdx0_is (mx := mx) f c x
  refine MX F519 ?_
  (repeat' first
  | exact hole _
  | simp (maxSteps := 9999999) (disch := omega) only [go_sem, simprocAttr]
  | (first | refine' gdV_S (fun hq => ?_) (fun f => ?_) | refine' gdD_S (fun hq => ?_) (fun f => ?_)) <;> try (have hq' := hq; try simp only [HB] at hq')
  | refine callL_of (h1) ?_
  | refine Sx.s ?_ ?_ <;> try (intro h; have h' := h; try simp only [HB] at h'; try rewrite [h]; try simp only [h])
  | refine ct_I ?_
  | refine callG_Iv ?_ ?_
  | refine drJ_I ?_
  | refine Sz.s ?_
  | refine nxt_I (fun hr => ?_) (fun q hq => ?_)
  | refine isnil_I (fun hnil b => ?_) (fun hnil => ?_)
  | (refine And.intro ?_ ?_; focus omega)
  | fail)
theorem ask2_is (w : Wrk) (r : Int) : Is mx 518 [.agg [.sl []], .agg (eWrk w), iI r] .nilif := by
  have h1 := fun f c x => entHas0_is (mx := mx) f c x
  refine MX F518 ?_
  (repeat' first
  | exact hole _
  | simp (maxSteps := 9999999) (disch := omega) only [go_sem, simprocAttr]
  | (first | refine' gdV_S (fun hq => ?_) (fun f => ?_) | refine' gdD_S (fun hq => ?_) (fun f => ?_)) <;> try (have hq' := hq; try simp only [HB] at hq')
  | refine callL_of (h1 _ _ _) ?_
  | refine Sx.s ?_ ?_ <;> try (intro h; have h' := h; try simp only [HB] at h'; try rewrite [h]; try simp only [h])
  | refine ct_I ?_
  | refine callG_Iv ?_ ?_
  | refine drJ_I ?_
  | refine Sz.s ?_
  | refine nxt_I (fun hr => ?_) (fun q hq => ?_)
  | refine isnil_I (fun hnil b => ?_) (fun hnil => ?_)
  | (refine And.intro ?_ ?_; focus omega)
  | fail)
def rule1 : I := .iface 117 (.agg [])
def rule2 (l : List I) : I := .iface 119 (.agg l)
def permI (p : Int × Str) : I := if p.1 = 0 then .nilif else stepI [97, 110, 115, 119, 101, 114] (stepI p.2 (refI p.1))
theorem permitted_is (w : Wrk) (r : Int) (l : I) (hl : w.leases.length ≤ 1000) (hs : SrtR w.leases) (hq : (askR w r).1 = 0 → l = .sl []) : Is mx 43 [.agg (eWrk w), iI r, .sl [[rule1], [rule2 [l]]]] (permI (askR w r)) := by
  have h1 := ask1_is (mx := mx) w r hl hs
  have h2 := ask2_is (mx := mx) w r
  refine MX F43 ?_
  refine Kbn ?_
  have el : (askR w r).1 = 0 → errI (askR w r) = .nilif := fun h => by unfold errI; rw [if_pos h]
  have en : (askR w r).1 ≠ 0 → errI (askR w r) = .iface 149 (.agg [.str (askR w r).2, refI (askR w r).1]) := fun h => by unfold errI; rw [if_neg h]; rfl
  refine lS [1, 3, 10, 11] (fun i => [(12, .i (iI i))]) (fun _ => []) (fun i => 0 < i → (askR w r).1 = 0) 2 ?_
  intro i hi hinv
  have ci : ∀ t x, cellsI (.iface t x) = [.iface t x] := fun _ _ => rfl
  by_cases h0 : i = 0
  · subst h0
    by_cases hz : (askR w r).1 = 0
    · rw [el hz] at h1
      (repeat' first
      | exact hole _
      | simp (maxSteps := 9999999) (disch := omega) only [go_sem, simprocAttr, rule1.eq_1, rule2.eq_1, bne_self_eq_false]
      | (first | refine' gdV_S (fun hq => ?_) (fun f => ?_) | refine' gdD_S (fun hq => ?_) (fun f => ?_)) <;> try (have hq' := hq; try simp only [HB] at hq')
      | refine callL_of (h1) ?_
      | refine Sx.s ?_ ?_ <;> try (intro h; have h' := h; try simp only [HB] at h'; try rewrite [h]; try simp only [h])
      | refine ct_I ?_
      | refine callG_Iv ?_ ?_
      | refine drJ_I ?_
      | refine Sz.s ?_
      | refine nxt_I (fun hr => ?_) (fun q hq => ?_)
      | refine isnil_I (fun hnil b => ?_) (fun hnil => ?_)
      | (refine And.intro ?_ ?_; focus omega)
      | fail)
      exact fun _ => hz
    · rw [en hz] at h1
      have ep : permI (askR w r) = stepI [97, 110, 115, 119, 101, 114] (stepI (askR w r).2 (refI (askR w r).1)) := by unfold permI; rw [if_neg hz]
      (repeat' first
      | exact hole _
      | simp (maxSteps := 9999999) (disch := omega) only [go_sem, simprocAttr, rule1.eq_1, rule2.eq_1, ci, Bool.false_bne, List.length_cons, List.length_nil]
      | (first | refine' gdV_S (fun hq => ?_) (fun f => ?_) | refine' gdD_S (fun hq => ?_) (fun f => ?_)) <;> try (have hq' := hq; try simp only [HB] at hq')
      | refine callL_of (h1) ?_
      | refine Sx.s ?_ ?_ <;> try (intro h; have h' := h; try simp only [HB] at h'; try rewrite [h]; try simp only [h])
      | refine ct_I ?_
      | refine callG_Iv ?_ ?_
      | refine drJ_I ?_
      | refine Sz.s ?_
      | refine nxt_I (fun hr => ?_) (fun q hq => ?_)
      | refine isnil_I (fun hnil b => ?_) (fun hnil => ?_)
      | (refine And.intro ?_ ?_; focus omega)
      | fail)
      rw [ep]; rfl
  · have hz := hinv (by omega)
    by_cases h1' : i = 1
    · subst h1'
      rw [hq hz]
      (repeat' first
      | exact hole _
      | simp (maxSteps := 9999999) (disch := omega) only [go_sem, simprocAttr, rule1.eq_1, rule2.eq_1, bne_self_eq_false]
      | (first | refine' gdV_S (fun hq => ?_) (fun f => ?_) | refine' gdD_S (fun hq => ?_) (fun f => ?_)) <;> try (have hq' := hq; try simp only [HB] at hq')
      | refine callL_of (h2) ?_
      | refine Sx.s ?_ ?_ <;> try (intro h; have h' := h; try simp only [HB] at h'; try rewrite [h]; try simp only [h])
      | refine ct_I ?_
      | refine callG_Iv ?_ ?_
      | refine drJ_I ?_
      | refine Sz.s ?_
      | refine nxt_I (fun hr => ?_) (fun q hq => ?_)
      | refine isnil_I (fun hnil b => ?_) (fun hnil => ?_)
      | (refine And.intro ?_ ?_; focus omega)
      | fail)
      exact fun _ => hz
    · obtain rfl : i = 2 := by omega
      have ep : permI (askR w r) = .nilif := by unfold permI; rw [if_pos hz]
      (repeat' first
      | exact hole _
      | simp (maxSteps := 9999999) (disch := omega) only [go_sem, simprocAttr, rule1.eq_1, rule2.eq_1, ep]
      | (first | refine' gdV_S (fun hq => ?_) (fun f => ?_) | refine' gdD_S (fun hq => ?_) (fun f => ?_)) <;> try (have hq' := hq; try simp only [HB] at hq')
      | refine Sx.s ?_ ?_ <;> try (intro h; have h' := h; try simp only [HB] at h'; try rewrite [h]; try simp only [h])
      | refine ct_I ?_
      | refine callG_Iv ?_ ?_
      | refine drJ_I ?_
      | refine Sz.s ?_
      | refine nxt_I (fun hr => ?_) (fun q hq => ?_)
      | refine isnil_I (fun hnil b => ?_) (fun hnil => ?_)
      | (refine And.intro ?_ ?_; focus omega)
      | fail)
        end Go.Proofs.YtcgjldimifeffaaGreatDoor
