/- A part of the proofs of WorkersExclude and WorkersMatchesSteps: E85. -/
import Derived.Test.YtcgjldimifeffaaGreatDoorKX
import Derived.Test.YtcgjldimifeffaaGreatDoorKD
import Derived.Clock
set_option linter.all false
set_option maxRecDepth 100000
set_option maxHeartbeats 8000000
namespace Go.Proofs.YtcgjldimifeffaaGreatDoor
open Go Go.Dl Go.As Go.RowKit Go.ChangeShapes Go.WideShapes
theorem movBytes : Tryz.prog.bytesOf 55 = 4 := by kernel_rfl
/-- WorkersExclude: the call, in a world, at arguments of bulk at most the bound. -/
theorem contract_workersExclude (H : Type) (enc : TypeId × Value → H) (W : World) (base : Nat) (args : Array Value) (ds gs : List (DataW H)) (before : List MemPlace)
    (hval : ∀ (j : Nat) t v, Tryz.f4.params[j]? = some t → args[j]? = some v → Value.okWide Tryz.prog W .any base t v)
    (hW : DataW.Whole enc Tryz.prog Tryz.f4.params.toList Rows.workersExcludeSpec.vars false W args.toList ds gs before) (hz : (DataW.weightsEach Tryz.prog (Tryz.f4.params.toList ++ Rows.workersExcludeSpec.plain.varTypes Tryz.prog) (ds ++ gs)).all (· ≤ reachBytes) = true) (hL : laidMetH Tryz.prog laidL W) (hsh : W.ShapedOpen Tryz.prog) :
    Calls Tryz.prog 4 args W fun e W' => ∃ v, e = .returned v ∧ Rows.workersExcludeSpec.post enc Tryz.prog Tryz.f4 false true false false W args v { W' with os := W.os } ∧ Clock.Later W.os W'.os := by
  have hW' := hW
  obtain ⟨p, q, hA0, hV, rfl, _, _⟩ := hW
  obtain ⟨rfl, rfl⟩ := trodVars_none hV
  have hA : DataW.TrodAll enc Tryz.prog W 0 (fun _ => true) true [3, 3, 47, 3, 3] args.toList ds p := hA0
  obtain ⟨hlen, hrd⟩ := rdAll hA
  rw [List.append_nil] at hz
  obtain ⟨d1, d2, d3, d4, d5, rfl⟩ : ∃ d1 d2 d3 d4 d5, ds = [d1, d2, d3, d4, d5] := by
    match ds, hlen with
    | [d1, d2, d3, d4, d5], _ => exact ⟨d1, d2, d3, d4, d5, rfl⟩
  obtain ⟨n1, r1⟩ := hrd 0 (by simp) (by simp)
  replace r1 : Rd Tryz.prog n1 3 d1 := r1
  obtain ⟨n2, r2⟩ := hrd 1 (by simp) (by simp)
  replace r2 : Rd Tryz.prog n2 3 d2 := r2
  obtain ⟨n3, r3⟩ := hrd 2 (by simp) (by simp)
  replace r3 : Rd Tryz.prog n3 47 d3 := r3
  obtain ⟨n4, r4⟩ := hrd 3 (by simp) (by simp)
  replace r4 : Rd Tryz.prog n4 3 d4 := r4
  obtain ⟨n5, r5⟩ := hrd 4 (by simp) (by simp)
  replace r5 : Rd Tryz.prog n5 3 d5 := r5
  obtain ⟨x1, f1, _⟩ := r1.int (k := .i64) (by kernel_rfl)
  obtain ⟨x2, f2, _⟩ := r2.int (k := .i64) (by kernel_rfl)
  obtain ⟨x3, f3, b3, o3⟩ := movs_rd r3
  obtain ⟨x4, f4, _⟩ := r4.int (k := .i64) (by kernel_rfl)
  obtain ⟨x5, f5, _⟩ := r5.int (k := .i64) (by kernel_rfl)
  have hz3 : (DataW.weights Tryz.prog 47 d3).all (· ≤ reachBytes) = true := by
    have hz' : (DataW.weightsEach Tryz.prog [3, 3, 47, 3, 3] [d1, d2, d3, d4, d5]).all (· ≤ reachBytes) = true := hz
    simp only [DataW.weightsEach, List.all_append, Bool.and_eq_true] at hz'
    exact hz'.2.2.1
  have hlen3 := list_short Tryz.underlying47 movBytes (by decide) f3 r3 hz3
  rw [List.length_map] at hlen3
  obtain ⟨mx, hg⟩ := glob_ok hL hsh
  have hrep := args_rep plainLok (ts := [3, 3, 47, 3, 3]) (ds := [d1, d2, d3, d4, d5]) (by decide) (fun j t v h1 h2 => hval j t v (by simpa using h1) (by simpa using h2)) hA
  have g1 : argI Tryz.prog 3 (flatD d1) = iI x1 := by rw [f1]; exact argI_1 (by rw [Tryz.underlying3]; intro fs h; cases h)
  have g2 : argI Tryz.prog 3 (flatD d2) = iI x2 := by rw [f2]; exact argI_1 (by rw [Tryz.underlying3]; intro fs h; cases h)
  have g3 : argI Tryz.prog 47 (flatD d3) = .sl (x3.map eMov) := by rw [f3]; exact argI_1 (by rw [Tryz.underlying47]; intro fs h; cases h)
  have g4 : argI Tryz.prog 3 (flatD d4) = iI x4 := by rw [f4]; exact argI_1 (by rw [Tryz.underlying3]; intro fs h; cases h)
  have g5 : argI Tryz.prog 3 (flatD d5) = iI x5 := by rw [f5]; exact argI_1 (by rw [Tryz.underlying3]; intro fs h; cases h)
  have he : argsI Tryz.prog [3, 3, 47, 3, 3] [d1, d2, d3, d4, d5] = [iI x1, iI x2, .sl (x3.map eMov), iI x4, iI x5] := by simp only [argsI, g1, g2, g3, g4, g5]
  rw [he] at hrep
  have hc := calls_of_MC (by kernel_rfl) (law_exclude (mx := mx) x1 x2 x3 x4 x5 o3 hlen3) hg hrep
  refine hc.mono ?_
  rintro e W' ⟨v, M', rfl, hv, hbl⟩
  obtain rfl : v = .bool true := by cases hv; rfl
  have hos := hbl.os
  have eW : { W' with os := W.os } = W' := by rw [← hos]
  refine ⟨_, rfl, ?_, by rw [hos]; exact Clock.Later.refl _⟩
  rw [eW]
  refine post_true laidOutP (by kernel_rfl) rfl rfl Tryz.underlying4 (fun ys hy => ?_) hW' hbl
  match ys, hy with
  | [y0, y1, y2, y3, y4], _ => rfl
/-- What the row lists. -/
abbrev xArgs : Array Value := #[.int .i64 0, .int .i64 0, .slice none 0 0, .int .i64 0, .int .i64 0]
theorem wit_shape (os : Os) : ((laidWorld os).forCall (fun _ _ => 0) ⟨#[], xArgs, []⟩).Shaped Tryz.prog := World.shaped_of_RefB (by as_aux_lemma => kernel_rfl) (by as_aux_lemma => kernel_rfl)
theorem wit_in (os : Os) : Input.okWideB Tryz.prog ((laidWorld os).forCall (fun _ _ => 0) ⟨#[], xArgs, []⟩) 4 ⟨#[], xArgs, []⟩ = true := by kernel_rfl
theorem wit_pre (os : Os) {H : Type} (enc : TypeId × Value → H) : Rows.workersExcludeSpec.preB enc Tryz.prog Tryz.f4 [] false ((laidWorld os).forCall (fun _ _ => 0) ⟨#[], xArgs, []⟩).memory xArgs 12 = true := by kernel_rfl
theorem wit_size (os : Os) {H : Type} (enc : TypeId × Value → H) : Rows.workersExcludeSpec.sizedB enc Tryz.prog Tryz.f4 false ((laidWorld os).forCall (fun _ _ => 0) ⟨#[], xArgs, []⟩).memory xArgs 12 = true := by kernel_rfl
theorem lifted_workersExclude (os : Os) (started : os.Started) (H : Type) (enc : TypeId × Value → H) (F : Stop.Interp) :
    ReturnsInHanded { calm := true } Tryz.checked os 4 .any (fun w args => (Rows.workersExcludeSpec.pre enc Tryz.prog Tryz.f4 [] false w args ∧ laidMetH Tryz.prog laidL w) ∧ sizedMet enc Tryz.prog Tryz.f4 (OpenSpec.ofChange Rows.workersExcludeSpec) false w args)
      ((OpenSpec.ofChange Rows.workersExcludeSpec).postWith enc Tryz.prog Tryz.f4 F (outsideKept [.timePasses]) false true false) := by
  refine Clock.returns_of_change (C := Tryz.checked) (X := fun w _ => laidMetH Tryz.prog laidL w) (fun _ _ _ hh h => h.of_heap hh) ownK started (by kernel_rfl) Tryz.func4
    (Clock.witness_at (enc := enc) (C := Tryz.checked) (X := fun w _ => laidMetH Tryz.prog laidL w) (laidWorld os) xArgs 12 rfl (wit_shape os) (wit_in os) (wit_pre os enc) (wit_size os enc) (laid_met os _)) ?_
  intro W base args ds gs before hval hW _ hz hL hsh
  exact contract_workersExclude H enc W base args ds gs before hval hW hz hL hsh
end Go.Proofs.YtcgjldimifeffaaGreatDoor
