/- A part of the proofs of WorkersExclude and WorkersMatchesSteps: A20. -/
import Derived.Test.YtcgjldimifeffaaGreatDoorA19
import Derived.Orders
set_option linter.all false
namespace Go.Dl
open Go Go.RowKit
section
variable {P : Program} {GL : List (Nat × List I)} {sn : List Nat}
theorem getD_any {cs : List D} {off : Nat} {nm : Nat} (h : nm ∈ (cs.getD off .any).nms) : ∃ d ∈ cs, nm ∈ d.nms := by grind [D.nms]
theorem pv_name {ins : Ins} {ρ : O → D} {σ : Nat → Option Blk} {nm : Nat} (h : nm ∈ (pv ρ σ ins).1.nms) :
    (∃ o ∈ opsOf ins, nm ∈ (ρ o).nms) ∨ ∃ m cs d, σ m = some (.cells cs) ∧ d ∈ cs ∧ nm ∈ d.nms := by
  have no : ∀ x : I, nm ∈ (D.i x).nms → False := fun x h => by grind [D.nms]
  have noa : nm ∈ (D.any).nms → False := fun h => by grind [D.nms]
  cases ins <;> simp only [pv, opsOf] at h ⊢
  case mov d x => exact .inl ⟨x, by simp, h⟩
  case pick d c a b =>
    split at h
    · rename_i t _
      cases t
      · exact .inl ⟨b, by simp, h⟩
      · exact .inl ⟨a, by simp, h⟩
    · exact (noa h).elim
  case load d x k ag =>
    split at h
    · exact (no _ h).elim
    · split at h
      · rename_i nm' off e _ cs hg
        simp only [pkD] at h
        split at h
        · exact (no _ h).elim
        · obtain ⟨d, hd, hn⟩ := getD_any h
          exact .inr ⟨nm', cs, d, hg, hd, hn⟩
      · exact (noa h).elim
    · split at h <;> first | exact (no _ h).elim | exact (noa h).elim
    · exact (noa h).elim
  case fa d x off =>
    refine .inl ⟨x, by simp, ?_⟩
    split at h
    · exact (no _ h).elim
    · rename_i e; rw [e]; exact h
    · rename_i e; rw [e]; exact h
    · exact (noa h).elim
  case iaa d x i k len =>
    refine .inl ⟨x, by simp, ?_⟩
    split at h
    · exact (no _ h).elim
    · rename_i e _; rw [e]; exact h
    · rename_i e _; rw [e]; exact h
    · exact (noa h).elim
  case ia d s i k =>
    split at h
    · exact (no _ h).elim
    · rename_i e _
      refine .inl ⟨s, by simp, ?_⟩
      split at h
      · rw [e]; exact h
      · exact (noa h).elim
    · exact (noa h).elim
  case slc d x lo hi k =>
    split at h
    · split at h <;> first | exact (no _ h).elim | exact (noa h).elim
    · rename_i e
      refine .inl ⟨x, by simp, ?_⟩
      split at h
      · split at h
        · rw [e]; exact h
        · exact (noa h).elim
      · split at h
        · rw [e]; exact h
        · exact (noa h).elim
      · exact (noa h).elim
    · exact (noa h).elim
  case ext d x i =>
    split at h
    · exact (no _ h).elim
    · rename_i cs e
      refine .inl ⟨x, by simp, ?_⟩
      rw [e]
      simp only [D.nms, List.mem_flatMap]
      by_cases hi : i < cs.length
      · refine ⟨cs[i], List.getElem_mem hi, ?_⟩
        have e2 : cs.getD i .any = cs[i] := by grind
        rw [e2] at h
        cases hc : cs[i] <;> rw [hc] at h <;> first | exact h | simp [Cp.toD, D.nms] at h
      · have e2 : cs.getD i .any = .any := by simp [List.getD, List.getElem?_eq_none (Nat.le_of_not_lt hi)]
        rw [e2] at h
        simp [Cp.toD, D.nms] at h
    · exact (noa h).elim
  case mkfn d f first caps =>
    split at h
    · rename_i a b e1 e2
      have key : ∀ (l : List O) (cs : List Cp), (l.mapM fun o => toCp (ρ o)) = some cs → nm ∈ cs.flatMap Cp.nms → ∃ o ∈ l, nm ∈ (ρ o).nms := by
        intro l
        induction l with
        | nil => intro cs h1 h2; simp at h1; subst h1; simp at h2
        | cons x l ih =>
          intro cs h1 h2
          rw [List.mapM_cons] at h1
          cases q1 : toCp (ρ x) with
          | none => simp [q1] at h1
          | some c =>
            cases q2 : (l.mapM fun o => toCp (ρ o)) with
            | none => simp [q1, q2] at h1
            | some cs' =>
              simp [q1, q2] at h1
              subst h1
              simp only [List.flatMap_cons, List.mem_append] at h2
              rcases h2 with h2 | h2
              · refine ⟨x, by simp, ?_⟩
                cases hx : ρ x <;> simp [hx, toCp] at q1 <;> subst q1 <;> simp [Cp.nms] at h2
                simp [D.nms, h2]
              all_goals grind
      unfold fnD at h
      split at h
      · exact (no _ h).elim
      · simp only [D.nms, List.mem_append] at h
        rcases h with h | h
        · obtain ⟨o, ho, hn⟩ := key _ _ e1 h; exact .inl ⟨o, by simp [ho], hn⟩
        · obtain ⟨o, ho, hn⟩ := key _ _ e2 h; exact .inl ⟨o, by simp [ho], hn⟩
    · exact (noa h).elim
  all_goals first
    | exact (noa h).elim
    | exact (no _ h).elim
    | (split at h <;> first | exact (noa h).elim | exact (no _ h).elim | (split at h <;> first | exact (noa h).elim | exact (no _ h).elim | (split at h <;> first | exact (noa h).elim | exact (no _ h).elim)))
theorem cellsD_name {x d : D} (hd : d ∈ cellsD x) {nm : Nat} (h : nm ∈ d.nms) : nm ∈ x.nms := by
  cases x with
  | i y => cases y <;> simp [cellsD] at hd <;> first | (subst hd; exact h) | (obtain ⟨z, _, rfl⟩ := hd; simp [D.nms] at h)
  | _ => simp [cellsD] at hd; subst hd; exact h
theorem mem_setL {α : Type} {cs us : List α} {off : Nat} {x : α} (h : x ∈ setL cs off us) : x ∈ cs ∨ x ∈ us := by grind [setL]
theorem closed_eff {g : X} {st : St} (hc : Closed st) (hp : preG P GL sn g st) : Closed (effG GL g st) := by
  obtain ⟨e, s⟩ := effG_get hp
  have mono : ∀ m, names st.sto m → names (effG GL g st).sto m := fun m hm => by
    simp only [names] at hm ⊢
    rw [s]; unfold updS
    split
    · split; rfl; exact hm
    · exact hm
  constructor
  · intro i nm hn
    rw [e] at hn
    unfold updE at hn
    split at hn
    · rename_i d v hput
      split at hn
      · unfold putG at hput
        unfold preG at hp
        split at hp
        · exact hp.elim
        · rename_i hg
          simp only [hg] at hput
          have key : ∀ ins : Ins, (pureDst ins).isSome → nm ∈ (pv (opv GL st) (getS st.sto) ins).1.nms → names (effG GL g st).sto nm := fun ins hd h => by
            rcases pv_name h with ⟨o, _, ho⟩ | ⟨m, cs, d, hm, hd, hdn⟩
            · exact mono _ (opv_name (GL := GL) hc ho)
            · exact mono _ (hc.2 m _ hm nm (List.mem_flatMap.2 ⟨d, hd, hdn⟩))
          cases hins : g.1.ins <;> rw [hins] at hput hp <;> simp only [putI, pureDst, reduceCtorEq, Option.some.injEq, Prod.mk.injEq] at hput
          case call => split at hput <;> cases hput; simp [D.nms] at hn
          case callv => split at hput <;> cases hput; simp [D.nms] at hn
          case alloc d zs =>
            obtain ⟨rfl, rfl⟩ := hput
            simp [D.nms, Ref.nm] at hn
            subst hn
            simp only [names]
            rw [s]; simp [updS, wrG, hg, hins, wrI]
          all_goals
            obtain ⟨_, rfl⟩ := hput
            exact key _ (by simp [pureDst]) hn
        · rename_i hg
          simp only [hg] at hput
          split at hput <;> cases hput
          simp [D.nms] at hn
      · exact mono _ (hc.1 i nm hn)
    · exact mono _ (hc.1 i nm hn)
  · intro nm b hcs m hm
    rw [s] at hcs
    unfold updS at hcs
    split at hcs
    · rename_i d' bl hw
      split at hcs
      · cases hcs
        unfold wrG at hw
        split at hw
        · cases hins : g.1.ins <;> rw [hins] at hw <;> simp only [wrI, reduceCtorEq] at hw
          case alloc d2 zs =>
            cases hw
            simp only [Blk.nms, List.mem_flatMap] at hm
            obtain ⟨d, hd, hm⟩ := hm
            obtain ⟨z, _, rfl⟩ := List.mem_map.1 hd
            simp [D.nms] at hm
          case store ox ov k =>
            split at hw
            · rename_i nm2 off e2
              split at hw
              · rename_i cs2 hg2
                cases hw
                simp only [Blk.nms, List.mem_flatMap] at hm
                obtain ⟨d, hd, hm⟩ := hm
                rcases mem_setL hd with h | h
                · exact mono _ (hc.2 _ _ hg2 m (List.mem_flatMap.2 ⟨d, h, hm⟩))
                · exact mono _ (opv_name (GL := GL) hc (cellsD_name h hm))
              · cases hw
            · cases hw
          case mupd ox oq ov ls =>
            split at hw
            · split at hw
              · cases hw; simp [Blk.nms] at hm
              · cases hw
            · cases hw
        · cases hw
      · exact mono _ (hc.2 nm b hcs m hm)
    · exact mono _ (hc.2 nm b hcs m hm)
theorem toFront : ∀ (l : List X) (g : X) (r : List X) (st : St) (K : St → Prop), Closed st → (∀ x ∈ l, indep x.1 g.1 = true) → runX P GL sn (l ++ g :: r) st K → preG P GL sn g st ∧ runX P GL sn (l ++ r) (effG GL g st) (fun u => ∃ v, K v ∧ Sim v u)
  | [], g, r, st, K, hc, hi, h => ⟨h.1, runX_mono r (fun u hu => ⟨u, hu, Sim.refl u⟩) h.2⟩
  | x :: l, g, r, st, K, hc, hi, h => by
    obtain ⟨h1, h2⟩ := h
    obtain ⟨h3, h4⟩ := toFront l g r (effG GL x st) K (closed_eff hc h1) (fun y hy => hi y (List.mem_cons_of_mem _ hy)) h2
    obtain ⟨h5, h6, h7⟩ := swap hc (hi x (List.mem_cons_self)) h1 h3
    refine ⟨h5, h6, ?_⟩
    refine runX_mono (l ++ r) ?_ (runX_sim (l ++ r) h7.symm h4)
    rintro u ⟨v, ⟨v', hk, hs⟩, hs'⟩
    exact ⟨v', hk, hs.trans hs'⟩
end
end Go.Dl
