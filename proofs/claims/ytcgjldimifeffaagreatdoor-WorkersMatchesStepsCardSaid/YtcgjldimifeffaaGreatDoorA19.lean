/- A part of the proofs of WorkersExclude and WorkersMatchesSteps: A19. -/
import Derived.Test.YtcgjldimifeffaaGreatDoorA18
set_option linter.all false
namespace Go.Dl
open Go Go.RowKit
section
variable {P : Program} {GL : List (Nat × List I)} {sn : List Nat}
def putI (GL : List (Nat × List I)) (ins : Ins) (x : Option I) (st : St) : Option (Nat × D) :=
  match ins with
  | .call d _ _ => match d, x with
    | some s, some y => some (s, .i y)
    | _, _ => none
  | .callv d _ _ => match d, x with
    | some s, some y => some (s, .i y)
    | _, _ => none
  | .alloc d _ => some (d, .ref (.loc d 0))
  | .store _ _ _ => none
  | .mupd _ _ _ _ => none
  | ins => match pureDst ins with
    | some d => some (d, (pv (opv GL st) (getS st.sto) ins).1)
    | none => none
def wrI (GL : List (Nat × List I)) (ins : Ins) (st : St) : Option (Nat × Blk) :=
  match ins with
  | .alloc d zs => some (d, .cells (zs.map .i))
  | .store ox ov _ => match opv GL st ox with
    | .ref (.loc nm off) => match getS st.sto nm with
      | some (.cells cs) => some (nm, .cells (setL cs off (cellsD (opv GL st ov))))
      | _ => none
    | _ => none
  | .mupd ox oq ov ls => match opv GL st ox, opv GL st oq, opv GL st ov with
    | .ref (.mp nm), .i q, .i u => match getS st.sto nm with
      | some (.map _ es) => some (nm, .map ls (mput es q u))
      | _ => none
    | _, _, _ => none
  | _ => none
def putG (GL : List (Nat × List I)) (g : X) (st : St) : Option (Nat × D) := match gdOf g.1.gd st with
  | some true => putI GL g.1.ins g.2 st
  | _ => match g.1.ins.dst with | some d => some (d, .i .undef) | none => none
def wrG (GL : List (Nat × List I)) (g : X) (st : St) : Option (Nat × Blk) := match gdOf g.1.gd st with
  | some true => wrI GL g.1.ins st
  | _ => none
def updE (p : Option (Nat × D)) (e : Nat → D) (i : Nat) : D := match p with | some (d, v) => if d = i then v else e i | none => e i
def updS (p : Option (Nat × Blk)) (e : Nat → Option Blk) (m : Nat) : Option Blk := match p with | some (d, v) => if d = m then some v else e m | none => e m
theorem effI_get {ins : Ins} {x : Option I} {st : St} (hp : preI P GL sn ins x st) :
    (∀ i, getE (effI GL ins x st).env i = updE (putI GL ins x st) (getE st.env) i) ∧ ∀ m, getS (effI GL ins x st).sto m = updS (wrI GL ins st) (getS st.sto) m := by
  cases ins
  case call d f args => simp only [effI, putI, wrI, updE, updS]; split <;> simp [St.put, getE]
  case callv d f args => simp only [effI, putI, wrI, updE, updS]; split <;> simp [St.put, getE]
  case alloc d zs => exact ⟨fun i => rfl, fun m => rfl⟩
  case mupd ox oq ov ls =>
    simp only [preI] at hp
    split at hp
    · rename_i nm q u e1 e2 e3
      obtain ⟨_, hp⟩ := hp
      split at hp
      · rename_i ls' es hg
        simp only [effI, putI, wrI, e1, e2, e3, hg, updE, updS]
        refine ⟨fun i => rfl, fun m => ?_⟩
        simp only [St.setB, getS_setS, hg, Option.map_some]
        by_cases h : m = nm
        · simp [h]
        · simp [h, Ne.symm h]
      · exact hp.elim
    · exact hp.elim
  case store ox ov k =>
    simp only [preI] at hp
    split at hp
    · rename_i nm off e
      obtain ⟨_, hp⟩ := hp
      split at hp
      · rename_i cs hg
        simp only [effI, putI, wrI, e, hg, updE, updS]
        refine ⟨fun i => rfl, fun m => ?_⟩
        simp only [St.setB, getS_setS, hg, Option.map_some]
        by_cases h : m = nm
        · simp [h]
        · simp [h, Ne.symm h]
      · exact hp.elim
    · exact hp.elim
  all_goals
    simp only [effI, putI, wrI, pureDst, updE, updS]
    exact ⟨fun i => by first | rfl | trivial, fun m => by first | rfl | trivial⟩
theorem effG_get {g : X} {st : St} (hp : preG P GL sn g st) : (∀ i, getE (effG GL g st).env i = updE (putG GL g st) (getE st.env) i) ∧ ∀ m, getS (effG GL g st).sto m = updS (wrG GL g st) (getS st.sto) m := by
  unfold preG at hp
  unfold effG putG wrG
  split at hp
  · exact hp.elim
  · rename_i h; simp only [h]; exact effI_get hp
  · rename_i h; simp only [h]
    unfold skipI
    cases g.1.ins.dst <;> exact ⟨fun i => rfl, fun m => rfl⟩
theorem putI_dst {ins : Ins} {x : Option I} {st : St} (hp : preI P GL sn ins x st) {d : Nat} {v : D} (h : putI GL ins x st = some (d, v)) : ins.dst = some d := by
  cases ins <;> simp only [putI, pureDst, reduceCtorEq] at h <;> first
    | (cases h; rfl)
    | (split at h <;> cases h; rfl)
    | skip
theorem putG_dst {g : X} {st : St} (hp : preG P GL sn g st) {d : Nat} {v : D} (h : putG GL g st = some (d, v)) : g.1.ins.dst = some d := by grind [putG,preG,putI_dst]
theorem opv_of {s t : St} {l : List Nat} (h : ∀ i ∈ l, getE s.env i = getE t.env i) {o : O} (ho : ∀ i ∈ usesO o, i ∈ l) : opv GL s o = opv GL t o := by
  cases o <;> simp only [opv]
  grind [usesO]
theorem pv_nolook {ins : Ins} (hl : looks ins = false) (hm : looksM ins = false) (ρ : O → D) (σ σ' : Nat → Option Blk) : pv ρ σ ins = pv ρ σ' ins := by cases ins <;> simp only [pv] <;> first | (simp [looks] at hl; done) | (simp [looksM] at hm; done)
theorem pureDst_dst {ins : Ins} {d : Nat} (h : pureDst ins = some d) : ins.dst = some d := by cases ins <;> simp only [pureDst, reduceCtorEq] at h <;> exact h
def opsK : Ins → List O
  | .store ox _ _ => [ox]
  | .mupd ox _ _ _ => [ox]
  | ins => opsOf ins
theorem opsK_sub {ins : Ins} {o : O} (h : o ∈ opsK ins) : o ∈ opsOf ins := by cases ins <;> first | exact h | (simp only [opsK, List.mem_singleton] at h; subst h; simp [opsOf])
theorem opsK_pure {ins : Ins} (h : (pureDst ins).isSome) : opsK ins = opsOf ins := by cases ins <;> first | rfl | simp [pureDst] at h
theorem local_I {ins : Ins} {x : Option I} {s t : St} (ho : ∀ o ∈ opsOf ins, opv GL s o = opv GL t o) (hs : ∀ o ∈ opsK ins, ∀ nm ∈ (opv GL s o).nms, looks ins = true ∨ looksM ins = true ∨ isStore ins = true ∨ isUpd ins = true → getS s.sto nm = getS t.sto nm)
    (ha : ∀ d zs, ins = .alloc d zs → getS s.sto d = none → getS t.sto d = none) (hp : preI P GL sn ins x s) : preI P GL sn ins x t ∧ putI GL ins x t = putI GL ins x s ∧ wrI GL ins t = wrI GL ins s := by
  have hpv : (pureDst ins).isSome → pv (opv GL s) (getS s.sto) ins = pv (opv GL t) (getS t.sto) ins := fun hd => by
    have hk := opsK_pure hd
    rw [hk] at hs
    by_cases hl : looks ins = true
    · exact pv_local ho (fun o hoo nm hn => hs o hoo nm hn (.inl hl))
    · by_cases hm : looksM ins = true
      · exact pv_local ho (fun o hoo nm hn => hs o hoo nm hn (.inr (.inl hm)))
      · rw [pv_nolook (by simpa using hl) (by simpa using hm) _ _ (getS t.sto)]
        exact pv_local ho (fun _ _ _ _ => rfl)
  cases ins
  case call d f args =>
    obtain ⟨h1, y, h2, h3⟩ := hp
    simp only [opsOf] at ho
    have e1 : args.map (opv GL s) = args.map (opv GL t) := List.map_congr_left (fun o h => ho o h)
    have e2 : (args.all fun o => isI (opv GL s o)) = (args.all fun o => isI (opv GL t o)) := by
      rw [Bool.eq_iff_iff, List.all_eq_true, List.all_eq_true]
      exact ⟨fun hh p hp => by rw [← ho p hp]; exact hh p hp, fun hh p hp => by rw [ho p hp]; exact hh p hp⟩
    exact ⟨⟨by rw [← e2]; exact h1, y, h2, by rw [← e1]; exact h3⟩, rfl, rfl⟩
  case callv d f args =>
    obtain ⟨h0, h1, p, y, h2, h3, h4⟩ := hp
    simp only [opsOf] at ho
    have e1 : args.map (opv GL s) = args.map (opv GL t) := List.map_congr_left (fun o h => ho o (by simp [h]))
    have e0 := ho f (by simp)
    have e2 : (args.all fun o => isI (opv GL s o)) = (args.all fun o => isI (opv GL t o)) := by
      rw [Bool.eq_iff_iff, List.all_eq_true, List.all_eq_true]
      exact ⟨fun hh p hp => by rw [← ho p (by simp [hp])]; exact hh p hp, fun hh p hp => by rw [ho p (by simp [hp])]; exact hh p hp⟩
    exact ⟨⟨by rw [← e0]; exact h0, by rw [← e2]; exact h1, p, y, by rw [← e0, ← e1]; exact h2, h3, h4⟩, rfl, rfl⟩
  case mupd ox oq ov ls =>
    have e1 := ho ox (by simp [opsOf])
    have e2 := ho oq (by simp [opsOf])
    have e4 := ho ov (by simp [opsOf])
    simp only [preI, putI, wrI] at hp ⊢
    rw [← e1, ← e2, ← e4]
    split at hp
    · rename_i nm q u e _ _
      have e3 := hs ox (by simp [opsK]) nm (by rw [e]; simp [D.nms, Ref.nm]) (.inr (.inr (.inr rfl)))
      refine ⟨by rw [← e3]; exact hp, trivial, by rw [e, ‹opv GL s oq = _›, ‹opv GL s ov = _›]; simp only [e3]⟩
    · exact hp.elim
  case alloc d zs => exact ⟨⟨ha d zs rfl hp.1, hp.2⟩, rfl, rfl⟩
  case store ox ov k =>
    have e1 := ho ox (by simp [opsOf])
    have e2 := ho ov (by simp [opsOf])
    simp only [preI, putI, wrI] at hp ⊢
    rw [← e1, ← e2]
    split at hp
    · rename_i nm off e
      have e3 := hs ox (by simp [opsK]) nm (by rw [e]; simp [D.nms, Ref.nm]) (.inr (.inr (.inl rfl)))
      simp only [e]
      exact ⟨by rw [← e3]; exact hp, trivial, by rw [e3]⟩
    · exact hp.elim
  all_goals
    obtain ⟨h1, h2, h3⟩ := hp
    have e := hpv h1
    refine ⟨⟨h1, by rw [← e]; exact h2, fun hl o hoo nm hn => h3 hl o hoo nm (by rw [ho o hoo]; exact hn)⟩, ?_, rfl⟩
    simp only [putI]
    rw [← e]
theorem indep_iff {a b : GI} (h : indep a b = true) : (∀ d, a.ins.dst = some d → d ∉ usesG b ∧ b.ins.dst ≠ some d) ∧ (∀ d, b.ins.dst = some d → d ∉ usesG a) ∧ ¬ (isStore a.ins = true ∧ isStore b.ins = true) ∧
    ¬ (isUpd a.ins = true ∧ (isUpd b.ins = true ∨ looksM b.ins = true)) ∧ ¬ (isUpd b.ins = true ∧ looksM a.ins = true) := by
  unfold indep at h
  simp only [Bool.and_eq_true, Bool.not_eq_true', Bool.and_eq_false_imp, Bool.or_eq_false_iff] at h
  obtain ⟨⟨⟨⟨h1, h2⟩, h3⟩, h4⟩, h5⟩ := h
  refine ⟨fun d hd => ?_, fun d hd => ?_, fun hh => by simp [hh.1, hh.2] at h3, fun hh => by have := h4 hh.1; rcases hh.2 with q | q <;> simp [q] at this, fun hh => by have := h5 hh.1; simp [hh.2] at this⟩
  · rw [hd] at h1
    simp only [Bool.and_eq_true, Bool.not_eq_true'] at h1
    refine ⟨fun hm => ?_, fun e => ?_⟩
    · have := h1.1; rw [List.contains_iff_mem.2 hm] at this; cases this
    · have := h1.2; rw [e] at this; simp at this
  · rw [hd] at h2
    intro hm
    simp only at h2
    rw [List.contains_iff_mem.2 hm] at h2; cases h2
theorem local_G {g : X} {s t : St} (he : ∀ i ∈ usesG g.1, getE s.env i = getE t.env i)
    (hs : ∀ o ∈ opsK g.1.ins, ∀ nm ∈ (opv GL s o).nms, preI P GL sn g.1.ins g.2 s → looks g.1.ins = true ∨ looksM g.1.ins = true ∨ isStore g.1.ins = true ∨ isUpd g.1.ins = true → getS s.sto nm = getS t.sto nm)
    (ha : ∀ d zs, g.1.ins = .alloc d zs → preI P GL sn g.1.ins g.2 s → getS s.sto d = none → getS t.sto d = none) (hp : preG P GL sn g s) : preG P GL sn g t ∧ putG GL g t = putG GL g s ∧ wrG GL g t = wrG GL g s := by
  have hgd : gdOf g.1.gd s = gdOf g.1.gd t := by grind [gdOf,usesG]
  have ho : ∀ o ∈ opsOf g.1.ins, opv GL s o = opv GL t o := fun o hoo => opv_of he (fun i hi => by
    unfold usesG
    exact List.mem_append.2 (.inr (List.mem_flatMap.2 ⟨o, hoo, hi⟩)))
  unfold preG at hp
  unfold preG putG wrG
  rw [← hgd]
  split at hp
  · exact hp.elim
  · rename_i h
    simp only [h]
    exact local_I ho (fun o hoo nm hn hl => hs o hoo nm hn hp hl) (fun d zs e => ha d zs e hp) hp
  · rename_i h
    simp only [h]
    exact ⟨trivial, trivial, trivial⟩
def isMapB (b : Option Blk) : Bool := match b with | some (.map _ _) => true | _ => false
theorem wrI_cases {ins : Ins} {x : Option I} {st : St} (hp : preI P GL sn ins x st) {nm : Nat} {b : Blk} (h : wrI GL ins st = some (nm, b)) :
    (∃ zs, ins = .alloc nm zs ∧ getS st.sto nm = none) ∨ (isStore ins = true ∧ nm ∈ sn ∧ (getS st.sto nm).isSome ∧ isMapB (getS st.sto nm) = false ∧ isMapB (some b) = false) ∨ (isUpd ins = true ∧ (getS st.sto nm).isSome ∧ isMapB (getS st.sto nm) = true ∧ isMapB (some b) = true) := by
  cases ins <;> simp only [wrI, reduceCtorEq] at h
  case alloc d zs => cases h; exact .inl ⟨zs, rfl, hp.1⟩
  case mupd ox oq ov ls =>
    simp only [preI] at hp
    split at hp
    · rename_i nm' q u e1 e2 e3
      simp only [e1, e2, e3] at h
      obtain ⟨_, hp⟩ := hp
      split at hp
      · rename_i ls' es hg
        simp only [hg] at h
        cases h
        exact .inr (.inr ⟨rfl, by simp [hg], by simp [hg, isMapB], rfl⟩)
      · exact hp.elim
    · exact hp.elim
  case store ox ov k =>
    simp only [preI] at hp
    split at hp
    · rename_i nm' off e
      simp only [e] at h
      obtain ⟨h1, hp⟩ := hp
      split at hp
      · rename_i cs hg
        simp only [hg] at h
        cases h
        exact .inr (.inl ⟨rfl, h1, by simp [hg], by simp [hg, isMapB], rfl⟩)
      · exact hp.elim
    · exact hp.elim
theorem wrG_cases {g : X} {st : St} (hp : preG P GL sn g st) {nm : Nat} {b : Blk} (h : wrG GL g st = some (nm, b)) :
    (∃ zs, g.1.ins = .alloc nm zs ∧ getS st.sto nm = none) ∨ (isStore g.1.ins = true ∧ nm ∈ sn ∧ (getS st.sto nm).isSome ∧ isMapB (getS st.sto nm) = false ∧ isMapB (some b) = false) ∨ (isUpd g.1.ins = true ∧ (getS st.sto nm).isSome ∧ isMapB (getS st.sto nm) = true ∧ isMapB (some b) = true) := by
  unfold wrG at h
  unfold preG at hp
  split at hp
  · exact hp.elim
  · rename_i e; simp only [e] at h; exact wrI_cases hp h
  · rename_i e; simp only [e] at h; cases h
theorem opv_name {st : St} (hc : Closed st) {o : O} {nm : Nat} (h : nm ∈ (opv GL st o).nms) : names st.sto nm := by cases o <;> simp only [opv] at h <;> first | exact hc.1 _ _ h | simp [D.nms] at h
theorem looks_ne {ins : Ins} {x : Option I} {st : St} (hp : preI P GL sn ins x st) (hl : looks ins = true) {o : O} (ho : o ∈ opsOf ins) {nm : Nat} (hn : nm ∈ (opv GL st o).nms) : nm ∉ sn := by cases ins <;> simp [looks] at hl <;> exact hp.2.2 rfl o ho nm hn
theorem looks_kind {ins : Ins} {x : Option I} {st : St} (hp : preI P GL sn ins x st) (hl : looks ins = true) {o : O} (ho : o ∈ opsOf ins) {nm : Nat} (hn : nm ∈ (opv GL st o).nms) : isMapB (getS st.sto nm) = false := by
  cases ins <;> simp [looks] at hl <;> simp only [preI, pureDst, pv] at hp <;> obtain ⟨-, hp, -⟩ := hp <;> simp only [opsOf, List.mem_cons, List.not_mem_nil, or_false] at ho
  case load =>
    subst ho
    split at hp
    · rename_i e; simp [e, D.nms] at hn
    · rename_i e; split at hp; · rename_i hg; simp [e, D.nms, Ref.nm] at hn; subst hn; simp [hg, isMapB]
      · exact hp.elim
    · rename_i e; split at hp; · rename_i hg; simp [e, D.nms, Ref.nm] at hn; subst hn; simp [hg, isMapB]
      · exact hp.elim
    · exact hp.elim
  case ia =>
    split at hp
    · rename_i e1 e2; rcases ho with rfl | rfl
      · simp [e1, D.nms] at hn
      · simp [e2, D.nms] at hn
    · rename_i e1 e2
      split at hp
      · rename_i hg
        rcases ho with rfl | rfl
        · simp [e1, D.nms, Ref.nm] at hn; subst hn; simp [hg, isMapB]
        · simp [e2, D.nms] at hn
      · exact hp.elim
    · exact hp.elim
  case slc d x lo hi k =>
    have int : ∀ {V : D} {z : Int}, (loV (some V) = some z ∨ ∃ l, hiV l (some V) = some z) → V.nms = [] := fun {V z} h => by
      rcases h with h | ⟨l, h⟩ <;> cases V <;> simp_all [loV, hiV, D.nms]
    have hlh : ∀ {l : Int} {z z' : Int}, loV (lo.map (opv GL st)) = some z → hiV l (hi.map (opv GL st)) = some z' → o ∈ lo.toList ++ hi.toList → False := fun {l z z'} h1 h2 hm => by
      rcases List.mem_append.1 hm with hm | hm
      · cases lo with
        | none => simp at hm
        | some y => simp at hm; subst hm; rw [int (.inl h1)] at hn; simp at hn
      · cases hi with
        | none => simp at hm
        | some y => simp at hm; subst hm; rw [int (.inr ⟨_, h2⟩)] at hn; simp at hn
    split at hp
    · rename_i e
      split at hp
      · rename_i h1 h2
        rcases ho with rfl | ho
        · simp [e, D.nms] at hn
        · exact (hlh h1 h2 (List.mem_append.2 (by simpa using ho))).elim
      · exact hp.elim
    · rename_i e
      split at hp
      · rename_i hg
        split at hp
        · rename_i h1 h2
          rcases ho with rfl | ho
          · simp [e, D.nms, Ref.nm] at hn; subst hn; simp [hg, isMapB]
          · exact (hlh h1 h2 (List.mem_append.2 (by simpa using ho))).elim
        · exact hp.elim
      · rename_i hg
        split at hp
        · rename_i h1 h2
          rcases ho with rfl | ho
          · simp [e, D.nms, Ref.nm] at hn; subst hn; simp [hg, isMapB]
          · exact (hlh h1 h2 (List.mem_append.2 (by simpa using ho))).elim
        · exact hp.elim
      · exact hp.elim
    · exact hp.elim
theorem looksM_kind {ins : Ins} {x : Option I} {st : St} (hp : preI P GL sn ins x st) (hl : looksM ins = true) {o : O} (ho : o ∈ opsOf ins) {nm : Nat} (hn : nm ∈ (opv GL st o).nms) : isMapB (getS st.sto nm) = true := by
  cases ins <;> simp [looksM] at hl <;> simp only [preI, pureDst, pv] at hp <;> obtain ⟨-, hp, -⟩ := hp <;> simp only [opsOf, List.mem_cons, List.not_mem_nil, or_false] at ho
  case lookup =>
    split at hp
    · rename_i e0
      rcases ho with rfl | rfl
      · split at hp
        · rename_i e; simp [e, D.nms] at hn
        · rename_i e; simp [e, D.nms] at hn
        · rename_i e; split at hp
          · rename_i hg; simp [e, D.nms, Ref.nm] at hn; subst hn; simp [hg, isMapB]
          · exact hp.elim
        · exact hp.elim
      · simp [e0, D.nms] at hn
    · exact hp.elim
  grind [D.nms,Ref.nm,isMapB]
theorem store_kind {ins : Ins} {x : Option I} {st : St} (hp : preI P GL sn ins x st) (hl : isStore ins = true) {nm : Nat} {o : O} (ho : o ∈ opsK ins) (hn : nm ∈ (opv GL st o).nms) : isMapB (getS st.sto nm) = false := by
  cases ins <;> simp [isStore] at hl
  grind [opsK,preI,D.nms,Ref.nm,isMapB]
theorem upd_kind {ins : Ins} {x : Option I} {st : St} (hp : preI P GL sn ins x st) (hl : isUpd ins = true) {nm : Nat} {o : O} (ho : o ∈ opsK ins) (hn : nm ∈ (opv GL st o).nms) : isMapB (getS st.sto nm) = true := by
  cases ins <;> simp [isUpd] at hl
  grind [opsK,preI,D.nms,Ref.nm,isMapB]
theorem swap {a b : X} {st : St} (hc : Closed st) (hi : indep a.1 b.1 = true) (ha : preG P GL sn a st) (hb : preG P GL sn b (effG GL a st)) :
    preG P GL sn b st ∧ preG P GL sn a (effG GL b st) ∧ Sim (effG GL a (effG GL b st)) (effG GL b (effG GL a st)) := by
  obtain ⟨i1, i2, i3, i4, i5⟩ := indep_iff hi
  obtain ⟨ea, sa⟩ := effG_get ha
  have hEa : ∀ i, a.1.ins.dst ≠ some i → getE (effG GL a st).env i = getE st.env i := fun i hne => by
    rw [ea]; unfold updE
    grind [putG_dst]
  have hSa : ∀ m, (∀ bl, wrG GL a st ≠ some (m, bl)) → getS (effG GL a st).sto m = getS st.sto m := fun m hne => by
    rw [sa]; unfold updS
    grind
  have hmono : ∀ m, (getS st.sto m).isSome → (getS (effG GL a st).sto m).isSome := fun m hm => by grind [updS]
  have he1 : ∀ i ∈ usesG b.1, getE (effG GL a st).env i = getE st.env i := fun i hi => hEa i (fun e => (i1 i e).1 hi)
  have ho1 : ∀ o ∈ opsOf b.1.ins, opv GL (effG GL a st) o = opv GL st o := fun o hoo => opv_of he1 (fun i hi => by
    unfold usesG; exact List.mem_append.2 (.inr (List.mem_flatMap.2 ⟨o, hoo, hi⟩)))
  obtain ⟨b1, b2, b3⟩ := local_G (t := st) he1 (fun o hoo nm hn hpb hl => by
    refine hSa nm (fun bl hw => ?_)
    have hoo' := opsK_sub hoo
    rw [ho1 o hoo'] at hn
    have hkind : isMapB (getS (effG GL a st).sto nm) = isMapB (some bl) := by grind [updS]
    rcases wrG_cases ha hw with ⟨zs, _, hz⟩ | ⟨hst, hsn, _, _, hk⟩ | ⟨hst, _, _, hk⟩
    · have := opv_name (GL := GL) hc hn; simp [names, hz] at this
    · rw [hk] at hkind
      rcases hl with hl | hl | hl | hl
      · exact looks_ne hpb hl hoo' (by rw [ho1 o hoo']; exact hn) hsn
      · rw [looksM_kind hpb hl hoo' (by rw [ho1 o hoo']; exact hn)] at hkind; cases hkind
      · exact i3 ⟨hst, hl⟩
      · rw [upd_kind hpb hl hoo (by rw [ho1 o hoo']; exact hn)] at hkind; cases hkind
    · rw [hk] at hkind
      rcases hl with hl | hl | hl | hl
      · rw [looks_kind hpb hl hoo' (by rw [ho1 o hoo']; exact hn)] at hkind; cases hkind
      · exact i4 ⟨hst, .inr hl⟩
      · rw [store_kind hpb hl hoo (by rw [ho1 o hoo']; exact hn)] at hkind; cases hkind
      · exact i4 ⟨hst, .inl hl⟩) (fun d zs e hpb hn => by
    cases hx : getS st.sto d with
    | none => rfl
    | some y => have := hmono d (by simp [hx]); rw [hn] at this; cases this) hb
  obtain ⟨eb, sb⟩ := effG_get b1
  have hEb : ∀ i, b.1.ins.dst ≠ some i → getE (effG GL b st).env i = getE st.env i := fun i hne => by
    rw [eb]; unfold updE
    grind [putG_dst]
  have hSb : ∀ m, (∀ bl, wrG GL b st ≠ some (m, bl)) → getS (effG GL b st).sto m = getS st.sto m := fun m hne => by
    rw [sb]; unfold updS
    grind
  have he2 : ∀ i ∈ usesG a.1, getE st.env i = getE (effG GL b st).env i := fun i hi => (hEb i (fun e => i2 i e hi)).symm
  obtain ⟨a1, a2, a3⟩ := local_G (t := effG GL b st) he2 (fun o hoo nm hn hpa hl => by
    refine (hSb nm (fun bl hw => ?_)).symm
    have hoo' := opsK_sub hoo
    rcases wrG_cases b1 hw with ⟨zs, _, hz⟩ | ⟨hst, hsn, _, hk, _⟩ | ⟨hst, _, hk, _⟩
    · have := opv_name (GL := GL) hc hn; simp [names, hz] at this
    · rcases hl with hl | hl | hl | hl
      · exact looks_ne hpa hl hoo' hn hsn
      · rw [looksM_kind hpa hl hoo' hn] at hk; cases hk
      · exact i3 ⟨hl, hst⟩
      · rw [upd_kind hpa hl hoo hn] at hk; cases hk
    · rcases hl with hl | hl | hl | hl
      · rw [looks_kind hpa hl hoo' hn] at hk; cases hk
      · exact i5 ⟨hst, hl⟩
      · rw [store_kind hpa hl hoo hn] at hk; cases hk
      · exact i4 ⟨hl, .inl hst⟩) (fun d zs e hpa hn => by
    rw [hSb d (fun bl hw => ?_)]
    · exact hn
    · rcases wrG_cases b1 hw with ⟨zs', e', _⟩ | ⟨_, _, hsome, _⟩ | ⟨_, hsome, _⟩
      · exact (i1 d (by rw [e]; rfl)).2 (by rw [e']; rfl)
      · rw [hn] at hsome; cases hsome
      · rw [hn] at hsome; cases hsome) ha
  refine ⟨b1, a1, ?_⟩
  obtain ⟨ea', sa'⟩ := effG_get a1
  obtain ⟨eb', sb'⟩ := effG_get hb
  constructor
  · intro i
    rw [ea', eb', a2, ← b2]
    unfold updE
    cases hpa : putG GL a st with
    | none =>
      simp only
      cases hpb : putG GL b st with
      | none => simp only; rw [eb, ea]; simp [updE, hpa, hpb]
      | some q => simp only; rw [eb]; simp only [updE, hpb]; split; rfl; rw [ea]; simp [updE, hpa]
    | some p =>
      obtain ⟨d, v⟩ := p
      have hd := putG_dst ha hpa
      cases hpb : putG GL b st with
      | none => simp only; rw [eb, ea]; simp [updE, hpa, hpb]
      | some q =>
        obtain ⟨d', v'⟩ := q
        have hd' := putG_dst b1 hpb
        have hne : d' ≠ d := fun e => (i1 d hd).2 (by rw [hd', e])
        simp only
        rw [eb, ea]
        simp only [updE, hpa, hpb]
        by_cases h1 : d = i
        · by_cases h2 : d' = i
          · exact absurd (h2.trans h1.symm) hne
          · rw [if_pos h1, if_neg h2, if_pos h1]
        · rw [if_neg h1]
          by_cases h2 : d' = i
          · rw [if_pos h2, if_pos h2]
          · rw [if_neg h2, if_neg h2, if_neg h1]
  · intro m
    rw [sa', sb', a3, ← b3]
    unfold updS
    cases hpa : wrG GL a st with
    | none =>
      simp only
      cases hpb : wrG GL b st with
      | none => simp only; rw [sb, sa]; simp [updS, hpa, hpb]
      | some q => simp only; rw [sb]; simp only [updS, hpb]; split; rfl; rw [sa]; simp [updS, hpa]
    | some p =>
      obtain ⟨d, v⟩ := p
      cases hpb : wrG GL b st with
      | none => simp only; rw [sb, sa]; simp [updS, hpa, hpb]
      | some q =>
        obtain ⟨d', v'⟩ := q
        have hne : d' ≠ d := fun e => by
          subst e
          rcases wrG_cases ha hpa with ⟨zs, e1, hz⟩ | ⟨hst, _, hsm, hk, _⟩ | ⟨hst, hsm, hk, _⟩
          · rcases wrG_cases b1 hpb with ⟨zs', e2, _⟩ | ⟨_, _, hsm, _⟩ | ⟨_, hsm, _⟩
            · exact (i1 d' (by rw [e1]; rfl)).2 (by rw [e2]; rfl)
            all_goals grind
          · rcases wrG_cases b1 hpb with ⟨zs', e2, hz⟩ | ⟨hst', _, _, _⟩ | ⟨_, _, hk', _⟩
            all_goals grind
          · rcases wrG_cases b1 hpb with ⟨zs', e2, hz⟩ | ⟨_, _, _, hk', _⟩ | ⟨hst', _, _, _⟩
            all_goals grind
        simp only
        rw [sb, sa]
        simp only [updS, hpa, hpb]
        by_cases h1 : d = m
        · by_cases h2 : d' = m
          · exact absurd (h2.trans h1.symm) hne
          · rw [if_pos h1, if_neg h2, if_pos h1]
        · rw [if_neg h1]
          by_cases h2 : d' = m
          · rw [if_pos h2, if_pos h2]
          · rw [if_neg h2, if_neg h2, if_neg h1]
end
end Go.Dl
