/- A part of the proofs of WorkersExclude and WorkersMatchesSteps: T1. -/
import Derived.Test.YtcgjldimifeffaaGreatDoorA26
set_option linter.all false
namespace Go.As
open Go Go.Dl
abbrev Str := List UInt8
structure Fac where
  name : Str
  exp : Int
deriving DecidableEq, Inhabited
structure Val where
  kind : Int
  n : Int
  s : Str
deriving DecidableEq, Inhabited
structure Typ where
  kind : Int
  unit : List Fac
  of : Str
deriving DecidableEq, Inhabited
structure Win where
  kind : Int
  size : Int
deriving DecidableEq, Inhabited
inductive Xpr where
  | mk (kind : Int) (op name table : Str) (val : Val) (unit : List Fac) (param : Int) (win : Win) (args : List Xpr)
deriving Inhabited
namespace Xpr
def kind : Xpr → Int | .mk k _ _ _ _ _ _ _ _ => k
def op : Xpr → Str | .mk _ o _ _ _ _ _ _ _ => o
def name : Xpr → Str | .mk _ _ n _ _ _ _ _ _ => n
def table : Xpr → Str | .mk _ _ _ t _ _ _ _ _ => t
def val : Xpr → Val | .mk _ _ _ _ v _ _ _ _ => v
def unit : Xpr → List Fac | .mk _ _ _ _ _ u _ _ _ => u
def param : Xpr → Int | .mk _ _ _ _ _ _ p _ _ => p
def win : Xpr → Win | .mk _ _ _ _ _ _ _ w _ => w
def args : Xpr → List Xpr | .mk _ _ _ _ _ _ _ _ a => a
end Xpr
structure Fld where
  name : Str
  typ : Typ
deriving Inhabited
structure Tbl where
  name : Str
  entity : Str
  fields : List Fld
  keep : Int
deriving Inhabited
structure Ftr where
  name : Str
  entity : Str
  typ : Typ
  body : Xpr
  version : Int
deriving Inhabited
structure Cat where
  tables : List Tbl
  features : List Ftr
  drafts : List Ftr
  past : List Ftr
deriving Inhabited
abbrev iI (n : Int) : I := .int .i64 n
def eFac (f : Fac) : List I := [.str f.name, .int .i64 f.exp]
def eVal (v : Val) : List I := [.int .i64 v.kind, .int .i64 v.n, .str v.s]
def eTyp (t : Typ) : List I := [.int .i64 t.kind, .sl (t.unit.map eFac), .str t.of]
def eWin (w : Win) : List I := [.int .i64 w.kind, .int .i64 w.size]
mutual
def eE : Xpr → List I
  | .mk k o n t v u p w a => [.int .i64 k, .str o, .str n, .str t, .int .i64 v.kind, .int .i64 v.n, .str v.s, .sl (u.map eFac), .int .i64 p, .int .i64 w.kind, .int .i64 w.size, .sl (eEs a)]
def eEs : List Xpr → List (List I)
  | [] => []
  | x :: r => eE x :: eEs r
end
theorem eEs_map : ∀ l, eEs l = l.map eE
  | [] => by simp [eEs]
  | x :: r => by simp [eEs, eEs_map r]
def eFld (f : Fld) : List I := [.str f.name, .int .i64 f.typ.kind, .sl (f.typ.unit.map eFac), .str f.typ.of]
def eTbl (t : Tbl) : List I := [.str t.name, .str t.entity, .sl (t.fields.map eFld), .int .i64 t.keep]
def eFtr (f : Ftr) : List I := [.str f.name, .str f.entity] ++ eTyp f.typ ++ eE f.body ++ [.int .i64 f.version]
def eCat (c : Cat) : List I := [.sl (c.tables.map eTbl), .sl (c.features.map eFtr), .sl (c.drafts.map eFtr), .sl (c.past.map eFtr)]
theorem ETl : (∀ f, (eFac f).length = 2) ∧ (∀ v, (eVal v).length = 3) ∧ (∀ t, (eTyp t).length = 3) ∧ (∀ w, (eWin w).length = 2) ∧ (∀ x, (eE x).length = 12) ∧ (∀ f, (eFld f).length = 4) ∧ (∀ t, (eTbl t).length = 4) ∧ (∀ f, (eFtr f).length = 18) ∧ (∀ c, (eCat c).length = 4) :=
  ⟨fun _ => rfl, fun _ => rfl, fun _ => rfl, fun _ => rfl, fun x => by cases x; simp [eE], fun _ => rfl, fun _ => rfl, fun f => by obtain ⟨_, _, _, b, _⟩ := f; cases b; simp [eFtr, eTyp, eE], fun _ => rfl⟩
theorem ET :
    (∀ f, pk false (eFac f) 0 1 = .str f.name) ∧ (∀ f, pk false (eFac f) 1 1 = .int .i64 f.exp) ∧ (∀ f, pk true (eFac f) 0 2 = .agg (eFac f)) ∧
    (∀ v, pk false (eVal v) 0 1 = .int .i64 v.kind) ∧ (∀ v, pk false (eVal v) 1 1 = .int .i64 v.n) ∧ (∀ v, pk false (eVal v) 2 1 = .str v.s) ∧ (∀ v, pk true (eVal v) 0 3 = .agg (eVal v)) ∧
    (∀ t, pk false (eTyp t) 0 1 = .int .i64 t.kind) ∧ (∀ t, pk false (eTyp t) 1 1 = .sl (t.unit.map eFac)) ∧ (∀ t, pk false (eTyp t) 2 1 = .str t.of) ∧ (∀ t, pk true (eTyp t) 0 3 = .agg (eTyp t)) ∧
    (∀ w, pk false (eWin w) 0 1 = .int .i64 w.kind) ∧ (∀ w, pk false (eWin w) 1 1 = .int .i64 w.size) ∧ (∀ w, pk true (eWin w) 0 2 = .agg (eWin w)) ∧
    (∀ x, pk false (eE x) 0 1 = .int .i64 x.kind) ∧ (∀ x, pk false (eE x) 1 1 = .str x.op) ∧ (∀ x, pk false (eE x) 2 1 = .str x.name) ∧ (∀ x, pk false (eE x) 3 1 = .str x.table) ∧ (∀ x, pk true (eE x) 4 3 = .agg (eVal x.val)) ∧
    (∀ x, pk false (eE x) 4 1 = .int .i64 x.val.kind) ∧ (∀ x, pk false (eE x) 5 1 = .int .i64 x.val.n) ∧ (∀ x, pk false (eE x) 6 1 = .str x.val.s) ∧ (∀ x, pk false (eE x) 7 1 = .sl (x.unit.map eFac)) ∧ (∀ x, pk false (eE x) 8 1 = .int .i64 x.param) ∧
    (∀ x, pk false (eE x) 9 1 = .int .i64 x.win.kind) ∧ (∀ x, pk false (eE x) 10 1 = .int .i64 x.win.size) ∧ (∀ x, pk true (eE x) 9 2 = .agg (eWin x.win)) ∧ (∀ x, pk false (eE x) 11 1 = .sl (x.args.map eE)) ∧ (∀ x, pk true (eE x) 0 12 = .agg (eE x)) ∧
    (∀ f, pk false (eFld f) 0 1 = .str f.name) ∧ (∀ f, pk true (eFld f) 1 3 = .agg (eTyp f.typ)) ∧ (∀ f, pk true (eFld f) 0 4 = .agg (eFld f)) ∧
    (∀ t, pk false (eTbl t) 0 1 = .str t.name) ∧ (∀ t, pk false (eTbl t) 1 1 = .str t.entity) ∧ (∀ t, pk false (eTbl t) 2 1 = .sl (t.fields.map eFld)) ∧ (∀ t, pk false (eTbl t) 3 1 = .int .i64 t.keep) ∧ (∀ t, pk true (eTbl t) 0 4 = .agg (eTbl t)) ∧
    (∀ f, pk false (eFtr f) 0 1 = .str f.name) ∧ (∀ f, pk false (eFtr f) 1 1 = .str f.entity) ∧ (∀ f, pk true (eFtr f) 2 3 = .agg (eTyp f.typ)) ∧ (∀ f, pk true (eFtr f) 5 12 = .agg (eE f.body)) ∧ (∀ f, pk false (eFtr f) 17 1 = .int .i64 f.version) ∧ (∀ f, pk true (eFtr f) 0 18 = .agg (eFtr f)) ∧
    (∀ c, pk false (eCat c) 0 1 = .sl (c.tables.map eTbl)) ∧ (∀ c, pk false (eCat c) 1 1 = .sl (c.features.map eFtr)) ∧ (∀ c, pk true (eCat c) 0 4 = .agg (eCat c)) := by
  have hE : ∀ x : Xpr, eE x = [.int .i64 x.kind, .str x.op, .str x.name, .str x.table, .int .i64 x.val.kind, .int .i64 x.val.n, .str x.val.s, .sl (x.unit.map eFac), .int .i64 x.param, .int .i64 x.win.kind, .int .i64 x.win.size, .sl (x.args.map eE)] := fun x => by cases x; simp [eE, eEs_map, Xpr.kind, Xpr.op, Xpr.name, Xpr.table, Xpr.val, Xpr.unit, Xpr.param, Xpr.win, Xpr.args]
  refine ⟨?_, ?_, ?_, ?_, ?_, ?_, ?_, ?_, ?_, ?_, ?_, ?_, ?_, ?_, ?_, ?_, ?_, ?_, ?_, ?_, ?_, ?_, ?_, ?_, ?_, ?_, ?_, ?_, ?_, ?_, ?_, ?_, ?_, ?_, ?_, ?_, ?_, ?_, ?_, ?_, ?_, ?_, ?_, ?_, ?_, ?_⟩ <;> intro x <;> first | rfl | (simp only [eFtr, hE]; rfl) | (rw [hE]; rfl)
theorem EOne : (∀ f, (eFac f).all I.one = true) ∧ (∀ t, (eTyp t).all I.one = true) ∧ (∀ x, (eE x).all I.one = true) ∧ (∀ f, (eFld f).all I.one = true) ∧ (∀ t, (eTbl t).all I.one = true) ∧ (∀ f, (eFtr f).all I.one = true) ∧ (∀ c, (eCat c).all I.one = true) ∧ (∀ v, (eVal v).all I.one = true) :=
  ⟨fun _ => rfl, fun _ => rfl, fun x => by cases x; simp [eE, I.one], fun _ => rfl, fun _ => rfl, fun f => by obtain ⟨_, _, _, b, _⟩ := f; cases b; simp [eFtr, eTyp, eE, I.one], fun _ => rfl, fun _ => rfl⟩
theorem getD_map {α : Type} [Inhabited α] (f : α → List I) (l : List α) (n : Nat) (h : n < l.length) : (l.map f).getD n [] = f (l.getD n default) := by grind
theorem getD_lt {α : Type} [Inhabited α] {l : List α} {n : Nat} (h : n < l.length) : l.getD n default = l[n] := by grind
theorem getD_mem {α : Type} [Inhabited α] {l : List α} {n : Nat} (h : n < l.length) : l.getD n default ∈ l := by grind
theorem wrap64 {x : Int} (h1 : -9223372036854775808 ≤ x) (h2 : x ≤ 9223372036854775807) : IntKind.i64.wrap x = x := by exact Go.IntWalk.i64_in x ⟨h1, h2⟩
theorem natS (i : Nat) : ((i + 1 : Nat) : Int) = (i : Int) + 1 := rfl
theorem all_take {α : Type} {p : α → Bool} {l : List α} {d : α} {i : Nat} (h : (l.take i).all p = true) (hi : i < l.length) (k : p (l.getD i d) = true) : (l.take (i + 1)).all p = true := by
  rw [List.take_succ_eq_append_getElem hi, List.all_append, h]
  grind
theorem all_no {α : Type} {p : α → Bool} {l : List α} {d : α} {i : Nat} (hi : i < l.length) (k : p (l.getD i d) = false) : l.all p = false := by grind
theorem EB :
    (∀ k a b, binOk .add (.int k a) (.int k b) = True) ∧ (∀ k a b, binOk .sub (.int k a) (.int k b) = True) ∧ (∀ k a b, binOk .mul (.int k a) (.int k b) = True) ∧ (∀ k a b, binOk .eql (.int k a) (.int k b) = True) ∧ (∀ k a b, binOk .neq (.int k a) (.int k b) = True) ∧
    (∀ k a b, binOk .lss (.int k a) (.int k b) = True) ∧ (∀ k a b, binOk .leq (.int k a) (.int k b) = True) ∧ (∀ k a b, binOk .gtr (.int k a) (.int k b) = True) ∧ (∀ k a b, binOk .geq (.int k a) (.int k b) = True) ∧ (∀ k a b, binOk .quo (.int k a) (.int k b) = (b ≠ 0)) ∧ (∀ k a b, binOk .rem (.int k a) (.int k b) = (b ≠ 0)) ∧
    (∀ a b, binOk .eql (.str a) (.str b) = True) ∧ (∀ a b, binOk .neq (.str a) (.str b) = True) ∧ (∀ a b, binOk .lss (.str a) (.str b) = True) ∧ (∀ a b, binOk .leq (.str a) (.str b) = True) ∧ (∀ a b, binOk .gtr (.str a) (.str b) = True) ∧ (∀ a b, binOk .geq (.str a) (.str b) = True) ∧
    (∀ a b, binOk .add (.str a) (.str b) = (a.length + b.length ≤ 9223372036854775807)) ∧
    (∀ k k' a b, binV .add (.int k a) (.int k' b) = .int k (k.wrap (a + b))) ∧ (∀ k k' a b, binV .sub (.int k a) (.int k' b) = .int k (k.wrap (a - b))) ∧ (∀ k k' a b, binV .mul (.int k a) (.int k' b) = .int k (k.wrap (a * b))) ∧
    (∀ k k' a b, binV .quo (.int k a) (.int k' b) = .int k (k.wrap (a.tdiv b))) ∧ (∀ k k' a b, binV .rem (.int k a) (.int k' b) = .int k (a.tmod b)) ∧
    (∀ k k' a b, binV .eql (.int k a) (.int k' b) = .bool (decide (a = b))) ∧ (∀ k k' a b, binV .neq (.int k a) (.int k' b) = .bool (decide (a ≠ b))) ∧ (∀ k k' a b, binV .lss (.int k a) (.int k' b) = .bool (decide (a < b))) ∧ (∀ k k' a b, binV .leq (.int k a) (.int k' b) = .bool (decide (a ≤ b))) ∧
    (∀ k k' a b, binV .gtr (.int k a) (.int k' b) = .bool (decide (b < a))) ∧ (∀ k k' a b, binV .geq (.int k a) (.int k' b) = .bool (decide (b ≤ a))) ∧
    (∀ a b, binV .eql (.str a) (.str b) = .bool (decide (a = b))) ∧ (∀ a b, binV .neq (.str a) (.str b) = .bool (decide (a ≠ b))) ∧ (∀ a b, binV .lss (.str a) (.str b) = .bool (Op.bytesLess a b)) ∧ (∀ a b, binV .leq (.str a) (.str b) = .bool (Op.bytesLess a b || decide (a = b))) ∧
    (∀ a b, binV .gtr (.str a) (.str b) = .bool (!(Op.bytesLess a b || decide (a = b)))) ∧ (∀ a b, binV .geq (.str a) (.str b) = .bool (!Op.bytesLess a b)) ∧ (∀ a b, binV .add (.str a) (.str b) = .str (a ++ b)) := by
  have bs : ∀ a b : List UInt8, (a == b) = decide (a = b) := fun a b => by grind
  have bi : ∀ a b : Int, (a == b) = decide (a = b) := fun a b => by rfl
  refine ⟨?_, ?_, ?_, ?_, ?_, ?_, ?_, ?_, ?_, ?_, ?_, ?_, ?_, ?_, ?_, ?_, ?_, ?_, ?_, ?_, ?_, ?_, ?_, ?_, ?_, ?_, ?_, ?_, ?_, ?_, ?_, ?_, ?_, ?_, ?_, ?_⟩ <;> intros <;> first | rfl | (simp only [binOk]; simp; done) | (simp only [binV, bs]; done) | (simp only [binV, bne, bs, bi]; simp) | (simp only [binV]; congr 1; simp [Bool.eq_iff_iff])
def andO (a b : Option Bool) : Option Bool := match a, b with
  | some a, some b => some (a && b)
  | _, _ => none
theorem VE : (eqL [] [] [] = some true) ∧ (∀ l ls x xs y ys, eqL (l :: ls) (x :: xs) (y :: ys) = andO (eqI l x y) (eqL ls xs ys)) ∧ (∀ a b, andO (some a) (some b) = some (a && b)) ∧ (∀ a b, eqI .s (.str a) (.str b) = some (a == b)) ∧ (∀ a b, eqI .b (.bool a) (.bool b) = some (a == b)) ∧ (∀ k a b, eqI (.i k) (.int k a) (.int k b) = some (a == b)) ∧
    (∀ ls x, fitQ (.s :: ls) (.str x) = fitL (.s :: ls) [.str x]) ∧ (∀ k ls k' x, fitQ (.i k :: ls) (.int k' x) = fitL (.i k :: ls) [.int k' x]) ∧ (∀ ls cs, fitQ (.g :: ls) (.agg cs) = fitL ls cs) ∧ (fitL [] [] = true) ∧ (∀ l ls x xs, fitL (l :: ls) (x :: xs) = (fitI l x && fitL ls xs)) ∧ (∀ s, fitI .s (.str s) = true) ∧ (∀ b, fitI .b (.bool b) = true) ∧ (∀ k n, fitI (.i k) (.int k n) = true) := by
  and_intros <;> intros <;> first | rfl | (simp [eqI]; done) | (simp [fitI]; done)
theorem HB : (∀ (p : Prop) [Decidable p], (decide p = true) = p) ∧ (∀ (p : Prop) [Decidable p], (decide p = false) = ¬p) ∧ (∀ a b : Int, (¬a < b) = (b ≤ a)) ∧ (∀ a b : Int, (¬a ≤ b) = (b < a)) ∧ (∀ {α : Type} (a b : α), (a ≠ b) = ¬a = b) ∧ (∀ (p : Prop) [Decidable p], (¬¬p) = p) ∧
    (∀ a b : Bool, ((a || b) = true) = (a = true ∨ b = true)) ∧ (∀ a b : Bool, ((a && b) = true) = (a = true ∧ b = true)) ∧ (∀ a b : Bool, ((a || b) = false) = (a = false ∧ b = false)) ∧ (∀ a b : Bool, ((a && b) = false) = (a = true → b = false)) ∧ (∀ a : Bool, ((!a) = true) = (a = false)) ∧ (∀ a : Bool, ((!a) = false) = (a = true)) := by
  refine ⟨fun p _ => by simp, fun p _ => by simp, fun a b => by simp, fun a b => by simp, fun a b => rfl, fun p _ => by simp [Decidable.not_not], ?_, ?_, ?_, ?_, ?_, ?_⟩ <;> intros <;> simp
theorem nmsI : (∀ l : List I, (l.map D.i).flatMap D.nms = []) ∧ (∀ (l : List I) k, ((l.map D.i).take k).flatMap D.nms = []) ∧ (∀ (l : List I) k, ((l.map D.i).drop k).flatMap D.nms = []) ∧ (∀ (l : List I) j k, (((l.map D.i).drop j).take k).flatMap D.nms = []) := by
  have h : ∀ l : List I, (l.map D.i).flatMap D.nms = [] := fun l => by rw [List.flatMap_eq_nil_iff]; intro x hx; obtain ⟨y, _, rfl⟩ := List.mem_map.1 hx; rfl
  exact ⟨h, fun l k => by rw [← List.map_take]; exact h _, fun l k => by rw [← List.map_drop]; exact h _, fun l j k => by rw [← List.map_drop, ← List.map_take]; exact h _⟩
theorem allIs : (∀ l : List I, allI (l.map D.i) = true) ∧ (∀ (l : List I) k, allI ((l.map D.i).take k) = true) ∧ (∀ (l : List I) k, allI ((l.map D.i).drop k) = true) ∧ (∀ (l : List I) j k, allI (((l.map D.i).drop j).take k) = true) := by grind [allI,isI]
attribute [go_sem] nmsI allIs
attribute [go_sem] V0 V1 V2 V3 V4 V5 V6 V7 V8 V10 V11 V12 V13 V14 V15 V16 V17 V18 V19 V20 V21 V22 V23 V24 V25 V26 V27 List.cons_append List.nil_append getD_map wrap64 Int.natCast_nonneg natS Int.toNat_zero Nat.le_refl decide_true decide_false Bool.not_true Bool.not_false List.length_append ET ETl EB VE EOne true_and and_true and_self and_false false_and eq_self Bool.and_true Bool.true_and Bool.false_or Bool.or_false Bool.or_true Bool.true_or Bool.and_false Bool.false_and List.length_map Int.toNat_natCast Bool.not_not
attribute [go_sem] dI env0 Ins.dst eFac eVal eTyp eWin eFld eTbl eCat if_true if_false Bool.false_eq_true Option.some.injEq
end Go.As
