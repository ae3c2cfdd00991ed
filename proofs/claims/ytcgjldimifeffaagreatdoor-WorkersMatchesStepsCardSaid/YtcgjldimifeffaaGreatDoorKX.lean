/- A part of the proofs of WorkersExclude and WorkersMatchesSteps: E84. -/
import Derived.Test.YtcgjldimifeffaaGreatDoorKA
import Derived.Test.YtcgjldimifeffaaGreatDoorKC
import Derived.Test.YtcgjldimifeffaaGreatDoorA29
import Derived.Test.YtcgjldimifeffaaGreatDoorA30
import Derived.Test.YtcgjldimifeffaaGreatDoorCards
import Derived.Deep.DeepWitnessRowRef
import Derived.Lib.LaidIn
import Derived.LaidHandle
import Derived.LaidLaws
set_option linter.all false
set_option maxRecDepth 100000
set_option maxHeartbeats 8000000
namespace Go.Proofs.YtcgjldimifeffaaGreatDoor
open Go Go.Dl Go.As Go.RowKit Go.ChangeShapes Go.WideShapes
theorem argI_S {P : Program} {t : TypeId} {cs : List I} {fs : Array Field} (h : P.underlying t = some (.struct fs)) : argI P t cs = .agg cs := by grind [argI]
theorem argI_1 {P : Program} {t : TypeId} {x : I} (h : ∀ fs, P.underlying t ≠ some (.struct fs)) : argI P t [x] = x := by simp [argI]
theorem ownK : ownKnob Tryz.prog.godebug = none := by kernel_rfl
theorem laidOutP : laidOutB Tryz.prog = true := by kernel_rfl
def plainL : List TypeId := [3, 5, 55, 47]
theorem plainLok : plainT Tryz.prog plainL = true := by kernel_rfl
def laidL : List (String × DataW Unit) := [("errors.errorType", Rows.laid_errors_errorType), ("internal/strconv.uint64pow10", Rows.laid_internal_strconv_uint64pow10), ("math/bits.deBruijn32tab", Rows.laid_math_bits_deBruijn32tab), ("math/bits.deBruijn64tab", Rows.laid_math_bits_deBruijn64tab)]
def laidD : List (String × DataW Unit) := [("internal/strconv.uint64pow10", Rows.laid_internal_strconv_uint64pow10), ("math/bits.deBruijn32tab", Rows.laid_math_bits_deBruijn32tab), ("math/bits.deBruijn64tab", Rows.laid_math_bits_deBruijn64tab)]
theorem int_of_shape {P : Program} {w : World} {g : Nat} {t : TypeId} {k : IntKind} {zero : Array Value} (h : w.ShapedOpen P) (hg : g < P.globals.size)
    (h0 : ((begin P (fun _ _ => 0) default).world.heap[g]?).bind Obj.row? = some (zero, t)) (hz : zero.size = 1)
    (hb : P.buildable t = true) (hc : P.cellTypes P.depth t = some [t]) (hu : P.underlying t = some (.int k)) : ∃ n, w.cell? ⟨g, 0, none⟩ = some (.int k n) := by
  obtain ⟨cs, hh, hs, hr⟩ := h.1 g zero t hg h0
  obtain ⟨ts, hts, _, hall⟩ := hr hb
  rw [hc] at hts
  cases hts
  have h1 : 0 < cs.size := by omega
  obtain ⟨u, hu', hok⟩ := hall 0 cs[0] (by simp [h1])
  have : u = t := by grind
  subst this
  have hcell : w.cell? ⟨g, 0, none⟩ = some cs[0] := by simp [World.cell?, hh, h1]
  rw [hcell]
  unfold Cell.ok at hok
  rw [hu] at hok
  cases hv : cs[0] <;> rw [hv] at hok <;> simp at hok
  obtain ⟨rfl, _⟩ := hok
  exact ⟨_, rfl⟩
theorem et0 : Tryz.prog.globalNamed "errors.errorType" = some 0 := by kernel_rfl
theorem rt0 : (Tryz.prog.cutTypes.find? (·.1 == "internal/reflectlite.rtype")).map (·.2) = some 260 := by kernel_rfl
theorem oneRow0 : ((List.range 670).filter fun t => Tryz.prog.rowNamed t [101, 114, 114, 111, 114]) = [114] := by kernel_rfl
theorem hd0 : typeHandle Tryz.prog 114 = .pointer (some ⟨10, 114, none⟩) := by kernel_rfl
theorem xSizeK : Tryz.prog.types.size = 670 := by kernel_rfl
theorem handle_laid {W : World} (h : laidMetH Tryz.prog laidL W) : W.cell? ⟨0, 0, none⟩ = some (.iface 260 (.agg #[.pointer (some ⟨10, 114, none⟩)])) := by
  have h' : laidMet Tryz.prog laidD W ∧ handlesMet Tryz.prog [("errors.errorType", Rows.laid_errors_errorType)] W := h
  obtain ⟨name, u, ty, e1, e2, e3, e4, e5⟩ := h'.2 _ (List.mem_singleton.2 rfl)
  have en : name = [101, 114, 114, 111, 114] := (Option.some.inj e1).symm
  subst en
  obtain rfl := Option.some.inj (rt0.symm.trans e2)
  have hm : ty ∈ (List.range 670).filter fun t => Tryz.prog.rowNamed t [101, 114, 114, 111, 114] := List.mem_filter.2 ⟨List.mem_range.2 (by rw [← xSizeK]; exact e3), e4⟩
  rw [oneRow0] at hm
  obtain rfl := List.mem_singleton.1 hm
  rw [hd0] at e5
  simpa using World.var?_cell et0 e5 0
theorem glob_ok {W : World} (hL : laidMetH Tryz.prog laidL W) (hS : W.ShapedOpen Tryz.prog) : ∃ mx, GlobOk (GLm mx) (fullM W) := by
  obtain ⟨mx, hm⟩ := int_of_shape (k := .i64) (t := 3) (g := 4) (zero := #[.int .i64 0]) hS (of_decide_eq_true (by kernel_rfl)) (by kernel_rfl) rfl (by kernel_rfl) (by kernel_rfl) (by kernel_rfl)
  have hh := handle_laid hL
  refine ⟨mx, fun g cs hg => ?_⟩
  simp only [GLm, List.mem_cons, List.not_mem_nil, or_false, Prod.mk.injEq] at hg
  rcases hg with ⟨rfl, rfl⟩ | ⟨rfl, rfl⟩
  · exact Rep.elt (M := fullM W) [.iface 260 (.agg [.tptr 10 114])] 0 0 0 (fun _ => .iface 260 (.agg #[.pointer (some ⟨10, 114, none⟩)])) (fun j hj => by
      obtain rfl : j = 0 := by grind
      exact hh) (fun j hj => by
      obtain rfl : j = 0 := by grind
      exact .iface _ _ _ (.agg _ _ rfl (fun j hj => by
        obtain rfl : j = 0 := by grind
        exact .tptr _ _)))
  · exact Rep.elt (M := fullM W) [.int .i64 mx] 0 4 0 (fun _ => .int .i64 mx) (fun j hj => by
      obtain rfl : j = 0 := by grind
      exact hm) (fun j hj => by
      obtain rfl : j = 0 := by grind
      exact .int _ _)
mutual
theorem bulk_eq {H : Type} : ∀ d : DataW H, Rows.uptoBulk d = bulkD d
  | .lit l => by cases l <;> rfl
  | .nil => rfl
  | .ptr d => by simp only [Rows.uptoBulk, bulkD, bulk_eq d]
  | .slice e s => by simp only [Rows.uptoBulk, bulkD, bulks_eq e, bulks_eq s]
  | .agg p => by simp only [Rows.uptoBulk, bulkD, bulks_eq p]
  | .iface _ d => by simp only [Rows.uptoBulk, bulkD, bulk_eq d]
  | .map es => by simp only [Rows.uptoBulk, bulkD, bulkes_eq es]
  | .held _ => rfl
theorem bulks_eq {H : Type} : ∀ l : List (DataW H), Rows.uptoBulkAll l = bulkL l
  | [] => rfl
  | d :: r => by simp only [Rows.uptoBulkAll, bulkL, bulk_eq d, bulks_eq r]
theorem bulkes_eq {H : Type} : ∀ l : List (Lit × DataW H), Rows.uptoBulkEntries l = bulkE l
  | [] => rfl
  | (k, d) :: r => by cases k <;> simp only [Rows.uptoBulkEntries, Rows.uptoBulkEntry, bulkE, bulk1, bulk_eq d, bulkes_eq r]
end
def intsOf (k : IntKind) : DataW Unit → Array Value
  | .agg l => (l.map fun | .lit (.int _ n) => Value.int k n | _ => .int k 0).toArray
  | _ => #[]
noncomputable def laidWorld (os : Os) : World :=
  let w0 := World.holding Tryz.prog os ⟨#[], #[], []⟩
  let put (h : Array Obj) (g : Nat) (cs : Array Value) : Array Obj := h.modify g fun
    | .cells _ t frozen => .cells cs t frozen
    | o => o
  { w0 with heap := put (put (put (put w0.heap 0 #[.iface 260 (.agg #[.pointer (some ⟨10, 114, none⟩)])]) 7 (intsOf .u64 Rows.laid_internal_strconv_uint64pow10)) 8 (intsOf .u8 Rows.laid_math_bits_deBruijn32tab)) 9 (intsOf .u8 Rows.laid_math_bits_deBruijn64tab) }
theorem laid_metD (os : Os) (args : Array Value) : laidMet Tryz.prog laidD ((laidWorld os).forCall (fun _ _ => 0) ⟨#[], args, []⟩).memory :=
  (LaidIn.of_run (l := laidD) [7, 8, 9] 8 (by kernel_rfl) (by kernel_rfl) (by kernel_rfl) (by kernel_rfl)).met
theorem laid_met (os : Os) (args : Array Value) : laidMetH Tryz.prog laidL ((laidWorld os).forCall (fun _ _ => 0) ⟨#[], args, []⟩).memory :=
  laidMetH_of_parts (laid_metD os args) (by kernel_rfl)
theorem rdFcons {H : Type} {P : Program} {m : Nat} {t : TypeId} {ts : List TypeId} {l : List (DataW H)} (h : RdF P m (t :: ts) l) : ∃ d r, l = d :: r ∧ Rd P m t d ∧ RdF P m ts r := by
  cases l with
  | nil => exact h.elim
  | cons d r => exact ⟨d, r, rfl, h.1, h.2⟩
theorem rdFnil {H : Type} {P : Program} {m : Nat} {l : List (DataW H)} (h : RdF P m [] l) : l = [] := by
  cases l with
  | nil => rfl
  | cons d r => exact h.elim
theorem mov_rd {H : Type} {n : Nat} {d : DataW H} (h : Rd Tryz.prog n 55 d) : ∃ x : Mov, flatD d = eMov x ∧ 1 ≤ bulkD d ∧ okM x := by
  obtain ⟨parts, m, hm, rfl, hp⟩ := h.struct Tryz.underlying55
  obtain ⟨d1, r1, rfl, h1, hp⟩ := rdFcons hp
  obtain ⟨d2, r2, rfl, h2, hp⟩ := rdFcons hp
  obtain ⟨d3, r3, rfl, h3, hp⟩ := rdFcons hp
  obtain ⟨d4, r4, rfl, h4, hp⟩ := rdFcons hp
  obtain rfl := rdFnil hp
  obtain ⟨a1, rfl, w1⟩ := h1.int (k := .u8) (by kernel_rfl)
  obtain ⟨a2, rfl, w2⟩ := h2.int (k := .u8) (by kernel_rfl)
  obtain ⟨a3, rfl, w3⟩ := h3.int (k := .u8) (by kernel_rfl)
  obtain ⟨a4, rfl, w4⟩ := h4.int (k := .u8) (by kernel_rfl)
  have hw : ∀ a : Int, (Lit.int .u8 a).wf = true → 0 ≤ a ∧ a ≤ 255 := by
    intro a ha
    simp [Lit.wf] at ha
    exact ha
  exact ⟨⟨a1, a2, a3, a4⟩, rfl, by simp only [bulkD, bulkL]; omega, (hw _ w1).1, (hw _ w1).2, (hw _ w2).1, (hw _ w2).2, (hw _ w3).1, (hw _ w3).2⟩
theorem movs_rd {H : Type} {n : Nat} {d : DataW H} (h : Rd Tryz.prog n 47 d) : ∃ xs : List Mov, flatD d = [.sl (xs.map eMov)] ∧ bSum (fun _ => 1) xs + 1 ≤ bulkD d ∧ ∀ x ∈ xs, okM x :=
  h.list (f := eMov) (b := fun _ => 1) (bs := bSum fun _ => 1) rfl (fun _ _ => rfl) Tryz.underlying47 fun m y _ hy => mov_rd hy
theorem str_short {H : Type} {s : List UInt8} (h : (DataW.weights Tryz.prog 9 (.lit (.string s) : DataW H)).all (· ≤ reachBytes) = true) : s.length ≤ 140737488355328 := by
  simp only [DataW.weights, List.all_cons, List.all_nil, Bool.and_true, decide_eq_true_eq] at h
  exact Nat.le_trans h (by decide)
theorem list_short {H : Type} {d : DataW H} {rows : List (List I)} {tl te : TypeId} {b n : Nat} (hu : Tryz.prog.underlying tl = some (.slice te)) (hb : Tryz.prog.bytesOf te = b) (h0 : 0 < b) (hf : flatD d = [.sl rows]) (hr : Rd Tryz.prog n tl d)
    (h : (DataW.weights Tryz.prog tl d).all (· ≤ reachBytes) = true) : rows.length ≤ 140737488355328 := by
  rcases hr.slice hu with rfl | ⟨elems, rest, m, _, rfl, _⟩
  · simp only [flatD, List.cons.injEq, I.sl.injEq, and_true] at hf
    rw [← hf]; decide
  · simp only [flatD, List.cons.injEq, I.sl.injEq, and_true] at hf
    have e := congrArg List.length hf
    rw [flatS_map, List.length_map] at e
    unfold DataW.weights at h
    rw [hu] at h
    simp only [List.all_cons, Bool.and_eq_true, decide_eq_true_eq, hb] at h
    have h1 := h.1
    have h2 : reachBytes ≤ 140737488355328 := by decide
    have h3 : elems.length ≤ (elems.length + rest.length) * b := Nat.le_trans (Nat.le_add_right _ _) (Nat.le_mul_of_pos_right _ h0)
    omega
end Go.Proofs.YtcgjldimifeffaaGreatDoor
