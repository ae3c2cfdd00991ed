/- A part of the proofs of WorkersExclude and WorkersMatchesSteps: A15. -/
import Derived.Test.YtcgjldimifeffaaGreatDoorA14
import Derived.Maps.RangeRun
set_option linter.unusedVariables false
namespace Go.Dl
open Go Go.RowKit
section
variable {P : Program} {GL : List (Nat × List I)} {n : Nat} {S : Sh} {M : Mem} {μ : Place} {st : St} {a : Act} {w : World} {K : St → Prop} {Q : Exit → Act → World → Prop} {o : Oper} {d : Nat}
theorem filter_push {xs : List MapEntry} {seen : Array Nat} {e : MapEntry} (hnd : (xs.map (·.born)).Nodup) : ∀ {L : List MapEntry}, L.Sublist xs → ∀ {j : Nat} (hj : j < L.length), L[j] = e → L.filter (fun x => !(x.born == e.born)) = L.eraseIdx j := by
  intro L hL
  have hndL : (L.map (·.born)).Nodup := (hL.map _).nodup hnd
  clear hL
  induction L with
  | nil => intro j hj; simp at hj
  | cons x L ih =>
    intro j hj he
    simp only [List.map_cons, List.nodup_cons, List.mem_map, not_exists, not_and] at hndL
    cases j with
    | zero =>
      simp_all
    | succ j =>
      grind
theorem EntsAt.erase {xs : List MapEntry} {es : List (I × I)} (h : EntsAt M xs es) (j : Nat) (hj : j < es.length) : EntsAt M (xs.eraseIdx j) (es.eraseIdx j) := by
  have hl := h.1
  refine ⟨by rw [List.length_eraseIdx_of_lt (by omega), List.length_eraseIdx_of_lt hj]; omega, fun i h1 h2 => ?_⟩
  rw [List.length_eraseIdx_of_lt hj] at h1
  simp only [List.getElem_eraseIdx]
  by_cases hij : i < j
  · simp only [hij, dite_true]; exact h.2 i (by omega) (by omega)
  · simp only [hij, dite_false]; exact h.2 (i + 1) (by omega) (by omega)
theorem snd_nxt (h : Rel GL n S M μ st a w) {x : Operand} {ox : O} (ho : o.op = .next x false) (hd : o.dst = some d) (hn : d < n) (hx : cO GL x = some ox) (hs : step P GL (.nxt d ox) st K) : o.wpX P a w (Goal GL n S M w K) Q := by
  have hr := opv_rep h hx
  simp only [step, nxtE] at hs
  split at hs
  · rename_i nm e1
    rw [e1] at hr
    obtain ⟨hN, b, hμ, hX⟩ := hr
    unfold nxtB at hs
    split at hs
    · rename_i cur rest hg
      obtain ⟨hs0, hs1⟩ := hs
      obtain ⟨b', m, since, seen, last, hμ', hown, hh⟩ := h.blk nm _ hg
      rw [hμ] at hμ'; cases hμ'
      have over : rest = [] → (Instr.next (.pointer (some ⟨b, 0, none⟩)) false o.type).run P w = .ok (.tuple #[.bool false]) w → o.wpX P a w (Goal GL n S M w K) Q := fun hre hrun =>
        wp_put h hd hn (v := .tuple #[.bool false]) (by simp only [execOp, ho, hX, Sem.run_bind, hrun, Result.andThen_ok, Sem.run_pure]) (repD_i (Rep.tup' (RepL.cons (.bool _) (RepL.nil M)))) (hs0 hre)
      rcases hh with ⟨rfl, rfl, rfl⟩ | ⟨q, xs, clk, rfl, hm, e2, e3, hb, he, _⟩
      · refine over rfl ?_
        have hgo : (getObj b).run P w = .ok (.mapIter none since seen last) w := by simp [getObj, Sem.run, hown.heap]
        simp [Instr.next, hgo]
      · subst since; subst last
        have hleft : (leftOf xs.toArray seen).toList = xs.filter fun e => !seen.contains e.born := by simp [leftOf]
        rcases run_next_at (P := P) w o.type b q clk clk seen xs.toArray clk hown.heap (h.sub.2 _ _ hm) (fun x hx => hb.2 x (by simpa using hx)) (Nat.le_refl _) with ⟨h1, h2⟩ | ⟨e, he1, w1, hw1, h2⟩
        · refine over ?_ h2
          have : (xs.filter fun e => !seen.contains e.born) = [] := by rw [← hleft]; exact List.eq_nil_of_length_eq_zero (by simpa using h1)
          rw [this] at he
          exact List.eq_nil_of_length_eq_zero (by have := he.1; simp at this; omega)
        · rw [hleft] at he1
          obtain ⟨j, hj, hje⟩ := List.getElem_of_mem he1
          have hjr : j < rest.length := by rw [← he.1]; exact hj
          have hrep := he.2 j hjr hj
          rw [hje] at hrep
          have hK := hs1 j hjr
          have hw1h : w1.heap = w.heap := by rcases hw1 with rfl | rfl <;> rfl
          have hkp1 : Keeps S w w1 := by rcases hw1 with rfl | rfl; exact Keeps.refl _ _; exact (Keeps.refl S w).drew
          have hown1 : w1.heap[b]? = some (.mapIter (some q) clk seen clk) := by rw [hw1h]; exact hown.heap
          have h1 : Rel GL n S M μ st a w1 := by
            rcases hw1 with rfl | rfl
            · exact h
            · exact h.of h.toStoOk.drew (Mem.le_refl _) fun _ _ hv => hv
          have hkp2 := keeps_putObj w1 b (.mapIter (some q) clk (seen.push e.born) clk) hown.low
          have hset : Go.ChangeMaps.setBlock w1 b (.mapIter (some q) clk (seen.push e.born) clk) = putObj w1 b (.mapIter (some q) clk (seen.push e.born) clk) := rfl
          rw [hset] at h2
          have h3 : Rel GL n S M μ (st.setB nm (.iter (some rest[j]) (rest.eraseIdx j))) a (putObj w1 b (.mapIter (some q) clk (seen.push e.born) clk)) := by
            refine h1.setBlk hg (by rw [hμ]; rfl) (by rw [putObj_size]; exact Nat.le_refl _) (fun k hk _ => putObj_other hk) ⟨b, some q, clk, seen.push e.born, clk, hμ, ⟨hown.low, putObj_self hown1, hown.unk⟩, .inr ⟨q, xs, clk, rfl, hm, rfl, rfl, hb, ?_, ?_⟩⟩
            · have hf : (xs.filter fun x => !(seen.push e.born).contains x.born) = (xs.filter fun x => !seen.contains x.born).eraseIdx j := by
                rw [← filter_push (seen := seen) hb.1 (List.filter_sublist) hj hje, List.filter_filter]
                refine List.filter_congr fun x _ => ?_
                have : (seen.push e.born).contains x.born = (seen.contains x.born || (x.born == e.born)) := by
                  rw [Bool.eq_iff_iff]; simp [Array.mem_push]
                rw [this, Bool.not_or, Bool.and_comm]
              rw [hf]
              exact he.erase j hjr
            · intro c hc
              cases hc
              exact ⟨e, (List.mem_filter.1 he1).1, ⟨seen, rfl⟩, hrep.1, hrep.2⟩
          exact wp_value (v := .tuple #[.bool true, e.key, e.val]) (by simp only [execOp, ho, hX, Sem.run_bind, h2, Result.andThen_ok, Sem.run_pure])
            ⟨_, hK, M, μ, by rw [hd]; exact h3.put hn (repD_i (Rep.tup' (RepL.cons (.bool _) (RepL.cons hrep.1 (RepL.cons hrep.2 (RepL.nil M)))))), MExt.refl _ _, hkp1.trans hkp2⟩
    · exact hs.elim
  · exact hs.elim
theorem snd_ent (h : Rel GL n S M μ st a w) {x : Operand} {ox : O} (ho : o.op = .entry x) (hd : o.dst = some d) (hn : d < n) (hx : cO GL x = some ox) (hs : step P GL (.ent d ox) st K) : o.wpX P a w (Goal GL n S M w K) Q := by
  have hr := opv_rep h hx
  simp only [step, entE] at hs
  split at hs
  · rename_i nm e1
    rw [e1] at hr
    obtain ⟨hN, b, hμ, hX⟩ := hr
    unfold entB at hs
    split at hs
    · rename_i c rest hg
      obtain ⟨b', m, since, seen, last, hμ', hown, hh⟩ := h.blk nm _ hg
      rw [hμ] at hμ'; cases hμ'
      rcases hh with ⟨_, _, h0⟩ | ⟨q, xs, clk, rfl, hm, e2, e3, hb, he, hc⟩
      · cases h0
      · subst since; subst last
        obtain ⟨e, hex, ⟨seen0, rfl⟩, r1, r2⟩ := hc c rfl
        have hrun := run_entry_at (P := P) w b q clk seen0 xs.toArray clk e hown.heap (h.sub.2 _ _ hm) (by simpa using hex) (by simpa using hb.1)
        exact wp_put h hd hn (v := .tuple #[e.key, e.val]) (by simp only [execOp, ho, hX, Sem.run_bind, hrun, Result.andThen_ok, Sem.run_pure]) (repD_i (Rep.tup' (RepL.cons r1 (RepL.cons r2 (RepL.nil M))))) hs
    · exact hs.elim
  · exact hs.elim
end
end Go.Dl
