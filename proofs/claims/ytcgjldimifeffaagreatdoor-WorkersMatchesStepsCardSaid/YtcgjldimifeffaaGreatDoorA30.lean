/- A part of the proofs of WorkersExclude and WorkersMatchesSteps: A30. -/
import Derived.Test.YtcgjldimifeffaaGreatDoorA29
set_option linter.all false
namespace Go.Dl
open Go Go.RowKit Go.ChangeShapes Go.WideShapes
mutual
def bulkD {H : Type} : DataW H → Nat
  | .lit (.string bytes) => bytes.length + 1
  | .lit _ => 1
  | .nil => 1
  | .ptr d => bulkD d + 1
  | .slice elems spare => bulkL elems + bulkL spare + 1
  | .agg parts => bulkL parts + 1
  | .iface _ d => bulkD d + 1
  | .map entries => bulkE entries + 1
  | .held _ => 1
def bulkL {H : Type} : List (DataW H) → Nat
  | [] => 0
  | d :: r => bulkD d + bulkL r
def bulkE {H : Type} : List (Lit × DataW H) → Nat
  | [] => 0
  | x :: r => bulk1 x + bulkE r
def bulk1 {H : Type} : Lit × DataW H → Nat
  | (.string bytes, d) => bytes.length + bulkD d + 1
  | (_, d) => bulkD d + 1
end
section
variable {H : Type} (P : Program)
def Rd (n : Nat) (t : TypeId) (d : DataW H) : Prop := ∃ (enc : TypeId × Value → H) (W : World) (base : Nat) (sp : Nat → Bool) (held : Bool) (cs : List Value) (ps : List MemPlace), DataW.trod enc P W base sp held n t cs = some (d, ps)
def RdF (n : Nat) : List TypeId → List (DataW H) → Prop
  | [], [] => True
  | t :: ts, d :: ds => Rd P n t d ∧ RdF n ts ds
  | _, _ => False
variable {P} {n : Nat} {t e : TypeId} {d : DataW H}
theorem Rd.bool (ht : P.underlying t = some .bool) (h : Rd P n t d) : ∃ b, d = .lit (.bool b) := by
  obtain ⟨enc, W, base, sp, held, cs, ps, h⟩ := h
  obtain ⟨b, _, h2⟩ := DataW.trod_bool ht h
  grind
theorem Rd.int {k : IntKind} (ht : P.underlying t = some (.int k)) (h : Rd P n t d) : ∃ m, d = .lit (.int k m) ∧ (Lit.int k m).wf = true := by
  obtain ⟨enc, W, base, sp, held, cs, ps, h⟩ := h
  obtain ⟨m, _, h2, h3⟩ := DataW.trod_int ht h
  grind
theorem Rd.str (ht : P.underlying t = some .string) (h : Rd P n t d) : ∃ s : List UInt8, d = .lit (.string s) := by
  obtain ⟨enc, W, base, sp, held, cs, ps, h⟩ := h
  obtain ⟨s, _, h2, _⟩ := DataW.trod_string ht h
  grind
theorem mem_get {α : Type} {l : List α} {f : Nat → Option α} (h : ∀ i, i < l.length → f i = l[i]?) {y : α} (hy : y ∈ l) : ∃ i, f i = some y := by
  obtain ⟨i, hi, rfl⟩ := List.getElem_of_mem hy
  grind
theorem Rd.slice (ht : P.underlying t = some (.slice e)) (h : Rd P n t d) : d = .nil ∨ ∃ elems rest m, n = m + 1 ∧ d = .slice elems rest ∧ ∀ y ∈ elems, Rd P m e y := by
  obtain ⟨enc, W, base, sp, held, cs, ps, h⟩ := h
  rcases DataW.trod_slice ht h with ⟨_, h2⟩ | ⟨a, len, cap, elems, rest, m, hm, _, h2, _, _, _, hel, hget, _⟩
  · exact .inl (congrArg Prod.fst h2)
  · refine .inr ⟨_, _, m, hm, congrArg Prod.fst h2, fun y hy => ?_⟩
    obtain ⟨z, hz, rfl⟩ := List.mem_map.1 hy
    obtain ⟨i, hi⟩ := mem_get (fun i hi => hget i (by omega)) hz
    obtain ⟨cs', _, h3⟩ := Option.bind_eq_some_iff.1 hi
    exact ⟨enc, W, base, sp, held, cs', z.2, h3⟩
theorem Rd.struct {fs : Array Field} (ht : P.underlying t = some (.struct fs)) (h : Rd P n t d) : ∃ parts m, n = m + 1 ∧ d = .agg parts ∧ RdF P m (fs.toList.map (·.type)) parts := by
  obtain ⟨enc, W, base, sp, held, cs, ps, h⟩ := h
  obtain ⟨xs, m, hm, h2, _, hl, hget⟩ := DataW.trod_struct ht h
  refine ⟨_, m, hm, congrArg Prod.fst h2, ?_⟩
  have key : ∀ (fl : List Field) (ys : List (DataW H × List MemPlace)), ys.length = fl.length → (∀ (i : Nat) (f : Field), fl[i]? = some f → ∃ cs', DataW.trod enc P W base sp held m f.type cs' = ys[i]?) → RdF P m (fl.map (·.type)) (ys.map (·.1)) := by
    intro fl
    induction fl with
    | nil => intro ys hl _; have : ys = [] := List.length_eq_zero_iff.1 hl; subst this; trivial
    | cons f fl ih =>
      intro ys hl hg
      cases ys with
      | nil => simp at hl
      | cons y ys =>
        obtain ⟨cs', h0⟩ := hg 0 f rfl
        refine ⟨⟨enc, W, base, sp, held, cs', y.2, h0⟩, ih ys (by simpa using hl) fun i g hi => ?_⟩
        exact hg (i + 1) g hi
  grind
theorem choose_list {α : Type} {R : DataW H → α → Prop} : ∀ {l : List (DataW H)}, (∀ y ∈ l, ∃ x, R y x) → ∃ xs : List α, xs.length = l.length ∧ ∀ i (h : i < l.length) (h' : i < xs.length), R l[i] xs[i]
  | [], _ => ⟨[], rfl, fun i h => by simp at h⟩
  | y :: r, h => by
    obtain ⟨x, hx⟩ := h y (by simp)
    obtain ⟨xs, h1, h2⟩ := choose_list (l := r) fun z hz => h z (by simp [hz])
    refine ⟨x :: xs, by simp [h1], fun i a b => ?_⟩
    grind
theorem Rd.list {α : Type} {f : α → List I} {b : α → Nat} {bs : List α → Nat} (hb0 : bs [] = 0) (hb1 : ∀ x l, bs (x :: l) = b x + bs l) {Q : α → Prop} (ht : P.underlying t = some (.slice e)) (h : Rd P n t d) (hel : ∀ (m : Nat) (y : DataW H), m < n → Rd P m e y → ∃ x, flatD y = f x ∧ b x ≤ bulkD y ∧ Q x) :
    ∃ xs : List α, flatD d = [.sl (xs.map f)] ∧ bs xs + 1 ≤ bulkD d ∧ ∀ x ∈ xs, Q x := by
  rcases h.slice ht with rfl | ⟨elems, rest, m, rfl, rfl, h2⟩
  · exact ⟨[], rfl, by rw [hb0]; simp [bulkD], fun x hx => by simp at hx⟩
  · obtain ⟨xs, h3, h4⟩ := choose_list (R := fun y x => flatD y = f x ∧ b x ≤ bulkD y ∧ Q x) fun y hy => hel m y (by omega) (h2 y hy)
    have key : ∀ (l : List (DataW H)) (xs : List α), xs.length = l.length → (∀ i (h : i < l.length) (h' : i < xs.length), flatD l[i] = f xs[i] ∧ b xs[i] ≤ bulkD l[i] ∧ Q xs[i]) → flatS l = xs.map f ∧ bs xs ≤ bulkL l ∧ ∀ x ∈ xs, Q x := by
      intro l
      induction l with
      | nil => intro xs hl _; have : xs = [] := List.length_eq_zero_iff.1 hl; subst this; exact ⟨rfl, by rw [hb0]; exact Nat.zero_le _, fun x hx => by simp at hx⟩
      | cons y l ih =>
        intro xs hl hh
        cases xs with
        | nil => simp at hl
        | cons x xs =>
          obtain ⟨k1, k2, k3⟩ := hh 0 (by simp) (by simp)
          obtain ⟨j1, j2, j3⟩ := ih xs (by simpa using hl) fun i a b => hh (i + 1) (by simpa using a) (by simpa using b)
          grind [flatS,bulkL]
    obtain ⟨k1, k2, k3⟩ := key elems xs h3 h4
    refine ⟨xs, by simp only [flatD, k1], ?_, k3⟩
    simp only [bulkD]; omega
end
section
variable {H : Type} {P : Program}
theorem rdAll {enc : TypeId × Value → H} {W : World} {base : Nat} {sp : Nat → Bool} {held : Bool} : ∀ {ts : List TypeId} {vs : List Value} {ds : List (DataW H)} {ps : List MemPlace}, DataW.TrodAll enc P W base sp held ts vs ds ps → ds.length = ts.length ∧ ∀ i (h : i < ts.length) (h' : i < ds.length), ∃ n, Rd P n ts[i] ds[i]
  | [], [], [], _, _ => ⟨rfl, fun i h => by simp at h⟩
  | t :: ts, v :: vs, d :: ds, ps, ⟨p, q, ⟨n, h1⟩, h2, _⟩ => by
    obtain ⟨k1, k2⟩ := rdAll h2
    refine ⟨by simp [k1], fun i a b => ?_⟩
    cases i with
    | zero => exact ⟨n, enc, W, base, sp, held, _, p, h1⟩
    | succ i => exact k2 i (by simpa using a) (by simpa using b)
end
end Go.Dl
