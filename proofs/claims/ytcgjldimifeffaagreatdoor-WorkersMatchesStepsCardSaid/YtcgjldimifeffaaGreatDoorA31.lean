/- A part of the proofs of WorkersExclude and WorkersMatchesSteps: A31. -/
import Derived.Test.YtcgjldimifeffaaGreatDoorA30
set_option linter.all false
/-
  A data-level logic, second edition: a contract out of a walk of the kit's own, where what was there stays as it was.
-/
namespace Go.Dl
open Go Go.RowKit

/-- What is known behind a call that has left all that was there: what was known, and all of the new blocks. -/
def joinM (M : Mem) (w w' : World) : Mem := ⟨fun b o => if b < w.heap.size then M.c b o else (fullM w').c b o, fun b => if b < w.heap.size then M.m b else (fullM w').m b⟩
section
variable {P : Program} {GL : List (Nat × List I)}
theorem joinM_le {M : Mem} {w w' : World} (h : M.Sub w) : M.le (joinM M w w') := by
  refine ⟨fun b o v hv => ?_, fun b x hx => ?_⟩
  · have := cell_lt (h.1 _ _ _ hv)
    simp only [joinM, if_pos this]; exact hv
  · have := lt_of_heap (h.2 _ _ hx)
    simp only [joinM, if_pos this]; exact hx
theorem joinM_sub {M : Mem} {w w' : World} (h : M.Sub w) (hb : Below w.heap.size w w') : (joinM M w w').Sub w' := by
  have hf := fullM_sub w'
  refine ⟨fun b o v hv => ?_, fun b x hx => ?_⟩
  · simp only [joinM] at hv
    split at hv
    · rename_i hlt
      rw [hb.cell (p := ⟨b, o, none⟩) hlt]; exact h.1 _ _ _ hv
    · exact hf.1 _ _ _ hv
  · simp only [joinM] at hx
    split at hx
    · rename_i hlt
      rw [hb.block b hlt]; exact h.2 _ _ hx
    · exact hf.2 _ _ hx
/-- A contract, plain data in and out, from calls in all worlds. -/
theorem MC_of_below {f : FuncId} {args : List I} {y : I} (hen : enters P f = true)
    (h : ∀ (M : Mem) (w : World) (vs : Array Value), M.Sub w → GlobOk GL M → RepL M args vs.toList → Calls P f vs w fun e w' => ∃ v, e = .returned v ∧ Below w.heap.size w w' ∧ w.drawn ≤ w'.drawn ∧ Rep (joinM M w w') y v) :
    MC P GL f (args.map D.i) [] [] (isR y) := by
  intro M μ w vs h1 h2 h3
  have hn : ∀ nm, ¬ names [] nm := fun nm hn => by simp [names, getS] at hn
  have hR : RepL M args vs.toList := ⟨by simpa using h3.1, fun j a b => by
    have := h3.2 j (by simpa using a) b
    rw [List.getElem_map] at this; exact this⟩
  refine .inl ⟨hen, (h M w vs h1.sub h2 hR).mono ?_⟩
  rintro e w' ⟨v, rfl, hb, hdr, hv⟩
  refine ⟨v, rfl, .i y, [], joinM M w w', μ, ⟨rfl, rfl⟩, ⟨joinM_sub h1.sub hb, fun nm b hb => by simp [getS] at hb, fun nm nm' k k' _ h => absurd h (hn nm), fun b hb2 => Nat.lt_of_lt_of_le hb2.1 hb.size⟩, hv,
    ⟨joinM_le h1.sub, fun b hb2 => ⟨fun o => by simp only [joinM, if_pos hb2.1], by simp only [joinM, if_pos hb2.1]⟩⟩, ⟨hb.os, hb.tape, hb.output, hb.size, fun k hk => hb.block k hk.1, hdr⟩, fun _ _ _ => rfl⟩
end
end Go.Dl
