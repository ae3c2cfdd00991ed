/- A part of the proofs of WorkersExclude and WorkersMatchesSteps: A18. -/
import Derived.Test.YtcgjldimifeffaaGreatDoorA17
set_option linter.all false
namespace Go.Dl
open Go Go.RowKit
def Sim (s t : St) : Prop := (∀ i, getE s.env i = getE t.env i) ∧ ∀ m, getS s.sto m = getS t.sto m
theorem Sim.refl (s : St) : Sim s s := ⟨fun _ => rfl, fun _ => rfl⟩
theorem Sim.symm {s t : St} (h : Sim s t) : Sim t s := ⟨fun i => (h.1 i).symm, fun i => (h.2 i).symm⟩
theorem Sim.trans {s t u : St} (h : Sim s t) (k : Sim t u) : Sim s u := ⟨fun i => (h.1 i).trans (k.1 i), fun i => (h.2 i).trans (k.2 i)⟩
theorem Sim.put {s t : St} (h : Sim s t) (d : Nat) (x : D) : Sim (s.put d x) (t.put d x) := ⟨fun i => by simp only [St.put, getE]; split; rfl; exact h.1 i, h.2⟩
theorem Sim.bind {s t : St} (h : Sim s t) (d : Nat) (x : Blk) : Sim (s.bind d x) (t.bind d x) := ⟨h.1, fun i => by simp only [St.bind, getS]; split; rfl; exact h.2 i⟩
theorem Sim.setB {s t : St} (h : Sim s t) (d : Nat) (x : Blk) : Sim (s.setB d x) (t.setB d x) := ⟨h.1, fun i => by simp only [St.setB, getS_setS, h.2]⟩
theorem Sim.names {s t : St} (hs : Sim s t) : names t.sto = names s.sto := by funext m; simp only [Dl.names, hs.2]
theorem Rel.sim {GL : List (Nat × List I)} {n : Nat} {S : Sh} {M : Mem} {μ : Place} {st st' : St} {a : Act} {w : World} (h : Rel GL n S M μ st a w) (hs : Sim st st') : Rel GL n S M μ st' a w := by
  have hn := hs.names
  exact { toStoOk := { sub := h.sub, blk := fun nm b hb => by rw [hn]; exact h.blk nm b (by rw [hs.2]; exact hb), sep := fun nm nm' k k' hne h1 h2 => h.sep nm nm' k k' hne (by rw [← hn]; exact h1) (by rw [← hn]; exact h2), low := h.low }
          small := h.small, pin := h.pin, defers := h.defers, size := h.size, env := fun s => by rw [hn, ← hs.1]; exact h.env s, glob := h.glob }
def Closed (st : St) : Prop := (∀ s, ∀ nm ∈ (getE st.env s).nms, names st.sto nm) ∧ ∀ nm b, getS st.sto nm = some b → ∀ m ∈ b.nms, names st.sto m
theorem Rel.closed {GL : List (Nat × List I)} {n : Nat} {S : Sh} {M : Mem} {μ : Place} {st : St} {a : Act} {w : World} (h : Rel GL n S M μ st a w) : Closed st := by
  refine ⟨fun s nm hn => (h.env s).name nm hn, fun nm b hg m hm => ?_⟩
  cases b with
  | cells cs =>
    obtain ⟨b, vs, t, _, _, hs, hr⟩ := h.blk nm _ hg
    obtain ⟨d, hd, hdm⟩ := List.mem_flatMap.1 hm
    obtain ⟨j, hj, rfl⟩ := List.mem_iff_getElem.1 hd
    exact (hr j hj (by omega)).name m hdm
  | lp l q cs =>
    obtain ⟨vs, _, _, hs, hr⟩ := h.blk nm _ hg
    obtain ⟨d, hd, hdm⟩ := List.mem_flatMap.1 hm
    obtain ⟨j, hj, rfl⟩ := List.mem_iff_getElem.1 hd
    exact (hr j hj (by omega)).name m hdm
  | gmap ls clk es =>
    obtain ⟨b, xs, _, _, he, _⟩ := h.blk nm _ hg
    obtain ⟨d, hd, hdm⟩ := List.mem_flatMap.1 hm
    obtain ⟨j, hj, rfl⟩ := List.mem_iff_getElem.1 hd
    exact (he.2 j hj (by rw [he.1]; exact hj)).2.2.name m hdm
  | _ => simp [Blk.nms] at hm
theorem Closed.sim {s t : St} (h : Closed s) (hs : Sim s t) : Closed t :=
  ⟨fun i nm hn => by rw [hs.names]; exact h.1 i nm (by rw [hs.1]; exact hn), fun nm b hg m hm => by rw [hs.names]; exact h.2 nm b (by rw [hs.2]; exact hg) m hm⟩
section
variable (P : Program) (GL : List (Nat × List I)) (sn : List Nat)
def looks : Ins → Bool
  | .load _ _ _ _ | .ia _ _ _ _ | .slc _ _ _ _ _ => true
  | _ => false
def looksM : Ins → Bool
  | .lookup _ _ _ _ _ _ | .lenm _ _ => true
  | _ => false
def Is1 (P : Program) (GL : List (Nat × List I)) (f : FuncId) (ds : List D) (y : I) : Prop := MC P GL f ds [] [] fun r s => r = .i y ∧ s = []
def preI (ins : Ins) (x : Option I) (st : St) : Prop :=
  match ins with
  | .call _ f args => (args.all fun o => isI (opv GL st o)) = true ∧ ∃ y, x = some y ∧ Is1 P GL f (args.map (opv GL st)) y
  | .callv _ fo args => isI (opv GL st fo) = true ∧ (args.all fun o => isI (opv GL st o)) = true ∧ ∃ p y, getV (opv GL st fo) (args.map (opv GL st)) = some p ∧ x = some y ∧ Is1 P GL p.1 p.2 y
  | .alloc d zs => getS st.sto d = none ∧ (zs.map D.i).all oneD = true
  | .mupd ox oq ov ls => match opv GL st ox, opv GL st oq, opv GL st ov with
    | .ref (.mp nm), .i q, .i _ => fitQ ls q = true ∧ match getS st.sto nm with
      | some (.map ls' _) => ls' = ls
      | _ => False
    | _, _, _ => False
  | .store ox ov k => match opv GL st ox with
    | .ref (.loc nm off) => nm ∈ sn ∧ match getS st.sto nm with
      | some (.cells cs) => (cellsD (opv GL st ov)).length = k ∧ (cellsD (opv GL st ov)).all oneD = true ∧ off + k ≤ cs.length
      | _ => False
    | _ => False
  | ins => (pureDst ins).isSome ∧ (pv (opv GL st) (getS st.sto) ins).2 ∧ (looks ins = true → ∀ o ∈ opsOf ins, ∀ nm ∈ (opv GL st o).nms, nm ∉ sn)
def effI (ins : Ins) (x : Option I) (st : St) : St :=
  match ins with
  | .call d _ _ => match d, x with
    | some s, some y => st.put s (.i y)
    | _, _ => st
  | .callv d _ _ => match d, x with
    | some s, some y => st.put s (.i y)
    | _, _ => st
  | .mupd ox oq ov ls => match opv GL st ox, opv GL st oq, opv GL st ov with
    | .ref (.mp nm), .i q, .i u => match getS st.sto nm with
      | some (.map _ es) => st.setB nm (.map ls (mput es q u))
      | _ => st
    | _, _, _ => st
  | .alloc d zs => (st.bind d (.cells (zs.map .i))).put d (.ref (.loc d 0))
  | .store ox ov _ => match opv GL st ox with
    | .ref (.loc nm off) => match getS st.sto nm with
      | some (.cells cs) => st.setB nm (.cells (setL cs off (cellsD (opv GL st ov))))
      | _ => st
    | _ => st
  | ins => match pureDst ins with
    | some d => st.put d (pv (opv GL st) (getS st.sto) ins).1
    | none => st
def gdOf (g : Option (Nat × Bool)) (st : St) : Option Bool :=
  match g with
  | none => some true
  | some (s, want) => match getE st.env s with
    | .i (.bool b) => some (b == want)
    | .i .undef => some false
    | _ => none
abbrev X := GI × Option I
def preG (g : X) (st : St) : Prop := match gdOf g.1.gd st with
  | none => False
  | some true => preI P GL sn g.1.ins g.2 st
  | some false => True
def effG (g : X) (st : St) : St := match gdOf g.1.gd st with
  | some true => effI GL g.1.ins g.2 st
  | _ => skipI g.1.ins st
def runX : List X → St → (St → Prop) → Prop
  | [], st, K => K st
  | g :: r, st, K => preG P GL sn g st ∧ runX r (effG GL g st) K
def usesO : O → List Nat
  | .t n => [n]
  | _ => []
def usesG (g : GI) : List Nat := (match g.gd with | some (s, _) => [s] | none => []) ++ (opsOf g.ins).flatMap usesO
def isStore : Ins → Bool
  | .store _ _ _ => true
  | _ => false
def isUpd : Ins → Bool
  | .mupd _ _ _ _ => true
  | _ => false
def indep (a b : GI) : Bool :=
  (match a.ins.dst with | some d => !(usesG b).contains d && b.ins.dst != some d | none => true) && (match b.ins.dst with | some d => !(usesG a).contains d | none => true) && !(isStore a.ins && isStore b.ins) && !(isUpd a.ins && (isUpd b.ins || looksM b.ins)) && !(isUpd b.ins && looksM a.ins)
end
section
variable {P : Program} {GL : List (Nat × List I)} {sn : List Nat}
theorem opv_sim {s t : St} (h : Sim s t) : opv GL s = opv GL t := by funext o; cases o <;> simp [opv, h.1]
theorem gdOf_sim {s t : St} (h : Sim s t) (g : Option (Nat × Bool)) : gdOf g s = gdOf g t := by
  cases g with
  | none => rfl
  | some p => simp only [gdOf, h.1]
theorem preI_sim {s t : St} (h : Sim s t) (ins : Ins) (x : Option I) : preI P GL sn ins x s ↔ preI P GL sn ins x t := by
  have e : getS s.sto = getS t.sto := funext h.2
  have eo : opv GL s = opv GL t := opv_sim h
  simp_all [preI]
theorem effI_sim {s t : St} (h : Sim s t) (ins : Ins) (x : Option I) : Sim (effI GL ins x s) (effI GL ins x t) := by
  have e : getS s.sto = getS t.sto := funext h.2
  cases ins <;> simp only [effI, opv_sim h, e]
  case alloc => exact (h.bind _ _).put _ _
  case store => split; split; exact h.setB _ _; exact h; exact h
  case mupd => split; split; exact h.setB _ _; exact h; exact h
  case call => split; exact h.put _ _; exact h
  case callv => split; exact h.put _ _; exact h
  all_goals first | (split; exact h.put _ _; exact h) | exact h
theorem skipI_sim {s t : St} (h : Sim s t) (ins : Ins) : Sim (skipI ins s) (skipI ins t) := by unfold skipI; split; exact h.put _ _; exact h
theorem preG_sim {s t : St} (h : Sim s t) (g : X) : preG P GL sn g s ↔ preG P GL sn g t := by grind [preG,gdOf_sim,preI_sim]
theorem effG_sim {s t : St} (h : Sim s t) (g : X) : Sim (effG GL g s) (effG GL g t) := by grind [effG,gdOf_sim,effI_sim,skipI_sim]
theorem runX_sim : ∀ (l : List X) {s t : St} {K : St → Prop}, Sim s t → runX P GL sn l s K → runX P GL sn l t (fun u => ∃ v, K v ∧ Sim v u)
  | [], s, t, K, h, hr => ⟨s, hr, h⟩
  | g :: r, s, t, K, h, hr => ⟨(preG_sim h g).1 hr.1, runX_sim r (effG_sim h g) hr.2⟩
theorem runX_mono : ∀ (l : List X) {s : St} {K K' : St → Prop}, (∀ u, K u → K' u) → runX P GL sn l s K → runX P GL sn l s K'
  | [], s, K, K', h, hr => h _ hr
  | g :: r, s, K, K', h, hr => ⟨hr.1, runX_mono r h hr.2⟩
end
end Go.Dl
