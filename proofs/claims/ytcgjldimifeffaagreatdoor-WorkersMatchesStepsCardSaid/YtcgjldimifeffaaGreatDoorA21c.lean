/- A part of the proofs of WorkersExclude and WorkersMatchesSteps: A21c. -/
import Derived.Test.YtcgjldimifeffaaGreatDoorA21
set_option linter.all false
namespace Go.Dl
open Go Go.RowKit
def SimP (p : Option (Nat × D)) (v st : St) : Prop := (∀ i, getE v.env i = updE p (getE st.env) i) ∧ ∀ m, getS v.sto m = getS st.sto m
theorem sbD_nil {nm : Nat} {b : Blk} {d : D} (h : d.nms = []) : sbD nm b d = d := by
  have hC : ∀ l : List Cp, l.flatMap Cp.nms = [] → l.map (sbC nm b) = l := fun l hl => by
    conv => rhs; rw [← List.map_id l]
    refine List.map_congr_left fun c hc => ?_
    have := List.flatMap_eq_nil_iff.1 hl c hc
    cases c <;> first | rfl | simp [Cp.nms] at this
  cases d with
  | ref r => simp [D.nms] at h
  | fn f x y =>
    simp_all [D.nms,sbD]
  | tup cs => simp only [sbD]; rw [hC cs h]
  | _ => rfl
theorem sbC_out {nm : Nat} {b : Blk} {c : Cp} (h : nm ∉ c.nms) : sbC nm b c = c := by
  cases c with
  | ref r =>
    simp only [sbC]
    cases r <;> simp only [Cp.nms, List.mem_singleton, Ref.nm] at h <;> simp [sbR, Ref.nm, Ne.symm h]
  | _ => rfl
theorem sbCs_out {nm : Nat} {b : Blk} {l : List Cp} (h : nm ∉ l.flatMap Cp.nms) : l.map (sbC nm b) = l := by
  conv => rhs; rw [← List.map_id l]
  exact List.map_congr_left fun c hc => sbC_out fun hn => h (List.mem_flatMap.2 ⟨c, hc, hn⟩)
theorem sbD_out {nm : Nat} {b : Blk} {d : D} (h : nm ∉ d.nms) : sbD nm b d = d := by
  cases d with
  | ref r => simp only [D.nms, List.mem_singleton] at h; simp [sbD, sbR, Ne.symm h, Cp.toD]
  | fn f x y =>
    grind [D.nms,sbD,sbCs_out]
  | tup cs => simp only [sbD]; rw [sbCs_out h]
  | _ => rfl
theorem sbDs_out {nm : Nat} {b : Blk} {l : List D} (h : nm ∉ l.flatMap D.nms) : l.map (sbD nm b) = l := by
  conv => rhs; rw [← List.map_id l]
  exact List.map_congr_left fun c hc => sbD_out fun hn => h (List.mem_flatMap.2 ⟨c, hc, hn⟩)
theorem sbB_out {nm : Nat} {b x : Blk} (h : nm ∉ x.nms) : sbB nm b x = x := by
  cases x with
  | cells l => simp only [sbB]; rw [sbDs_out h]
  | lp l q cs => simp only [sbB]; rw [sbDs_out h]
  | gmap ls clk es =>
    simp only [sbB]; congr 1
    conv => rhs; rw [← List.map_id es]
    exact List.map_congr_left fun e he => by rw [sbD_out (fun hn => h (List.mem_flatMap.2 ⟨e, he, hn⟩))]; rfl
  | _ => rfl
theorem okMs_iff {N : List Nat} {st : St} : ∀ {l : List Nat}, okMs N st l ↔ ∀ m ∈ l, m ∉ N ∧ blkNo (getS st.sto m)
  | [] => by simp [okMs]
  | m :: r => by
    simp only [okMs, okMs_iff (l := r), List.forall_mem_cons]
    simp
theorem dataV_iff {N : List Nat} {st : St} : ∀ {us : List Nat}, dataV N st us ↔ ∀ u ∈ us, ∀ m ∈ (getE st.env u).nms, m ∉ N ∧ blkNo (getS st.sto m)
  | [] => by simp [dataV]
  | u :: r => by simp only [dataV, dataV_iff (us := r), okMs_iff, List.forall_mem_cons]
section
variable {P : Program} {GL : List (Nat × List I)} {sn : List Nat}
theorem chainOps_opv {p : Option (Nat × D)} {v st : St} (h : SimP p v st) {o : O} (hd : ∀ d x, p = some (d, x) → d ∉ usesO o) : opv GL v o = opv GL st o := by
  cases o <;> simp only [opv]
  rename_i n
  rw [h.1]
  cases p with
  | none => rfl
  | some q => obtain ⟨d, x⟩ := q; simp only [updE]; rw [if_neg]; intro e; exact hd d x rfl (by simp [usesO, e])
def sbsD : List (Nat × Blk) → D → D
  | [], x => x
  | (nm, b) :: r, x => sbsD r (sbD nm b x)
def sbsC : List (Nat × Blk) → Cp → Cp
  | [], x => x
  | (nm, b) :: r, x => sbsC r (sbC nm b x)
theorem sbsD_out : ∀ (l : List (Nat × Blk)) {x : D}, (∀ q ∈ l, q.1 ∉ x.nms) → sbsD l x = x
  | [], _, _ => rfl
  | (nm, b) :: r, x, h => by
    have e : sbD nm b x = x := sbD_out (h (nm, b) List.mem_cons_self)
    simp only [sbsD, e]
    exact sbsD_out r fun q hq => h q (List.mem_cons_of_mem _ hq)
theorem sbsC_out : ∀ (l : List (Nat × Blk)) {x : Cp}, (∀ q ∈ l, q.1 ∉ x.nms) → sbsC l x = x
  | [], _, _ => rfl
  | (nm, b) :: r, x, h => by
    have e : sbC nm b x = x := sbC_out (h (nm, b) List.mem_cons_self)
    simp only [sbsC, e]
    exact sbsC_out r fun q hq => h q (List.mem_cons_of_mem _ hq)
theorem sbsD_i : ∀ (l : List (Nat × Blk)) (x : I), sbsD l (.i x) = .i x
  | [], _ => rfl
  | (nm, b) :: r, x => sbsD_i r x
theorem sbsD_tup : ∀ (l : List (Nat × Blk)) (cs : List Cp), sbsD l (.tup cs) = .tup (cs.map (sbsC l))
  | [], cs => by simp [sbsC,sbsD]
  | (nm, b) :: r, cs => by
    simp only [sbsD, sbD, sbsD_tup r]
    rw [List.map_map]; rfl
def keepE (N : List Nat) (d : Nat) (st s' : St) : Prop := (∃ l : List (Nat × Blk), (∀ q ∈ l, q.1 ∈ N) ∧ ∀ u, d ≠ u → getE s'.env u = sbsD l (getE st.env u)) ∧ ∀ m b, getS st.sto m = some b → m ∉ N → b.nms = [] → getS s'.sto m = some b
theorem keepE.out {N : List Nat} {d : Nat} {st s' : St} (h : keepE N d st s') (u : Nat) (hu : d ≠ u) (hn : ∀ m ∈ (getE st.env u).nms, m ∉ N) : getE s'.env u = getE st.env u := by
  obtain ⟨⟨l, h1, h2⟩, _⟩ := h
  grind [sbsD_out]
theorem SimP_frz {p : Option (Nat × D)} : ∀ (l : List Nat) {v st : St}, SimP p v st → (∀ d x, p = some (d, x) → ∀ m ∈ x.nms, m ∉ l) → SimP p (frzNs l v) (frzNs l st)
  | [], v, st, hs, _ => hs
  | nm :: l, v, st, hs, h => by
    simp only [frzNs]
    refine SimP_frz l ?_ fun d x e m hm hl => h d x e m hm (List.mem_cons_of_mem _ hl)
    unfold St.frzN
    rw [hs.2 nm]
    split
    · split
      · refine ⟨fun i => ?_, fun m => ?_⟩
        · simp only [St.frz, getE, hs.1]
          cases p with
          | none => rfl
          | some q =>
            grind [updE,sbD_out]
        · simp only [St.frz, getS_delS, getS_sbS, hs.2]
      · exact hs
    · exact hs
theorem frz_keep : ∀ (l : List Nat) (st : St), (∃ L : List (Nat × Blk), (∀ q ∈ L, q.1 ∈ l) ∧ ∀ u, getE (frzNs l st).env u = sbsD L (getE st.env u)) ∧ ∀ m b, getS st.sto m = some b → m ∉ l → b.nms = [] → getS (frzNs l st).sto m = some b
  | [], st => ⟨⟨[], by simp, fun _ => rfl⟩, fun _ _ h _ _ => h⟩
  | nm :: l, st => by
    simp only [frzNs]
    obtain ⟨⟨L, h0, h1⟩, h2⟩ := frz_keep l (st.frzN nm)
    have k2 : ∀ m b, getS st.sto m = some b → m ≠ nm → b.nms = [] → getS (st.frzN nm).sto m = some b := fun m b hm hne hb => by
      unfold St.frzN
      split
      · split
        · simp_all [St.frz,getS_delS,getS_sbS,sbB_out]
        · exact hm
      · exact hm
    refine ⟨?_, fun m b hm hn hb => h2 m b (k2 m b hm (fun e => hn (e ▸ List.mem_cons_self)) hb) (fun hl => hn (List.mem_cons_of_mem _ hl)) hb⟩
    have k0 : (∃ b, ∀ u, getE (st.frzN nm).env u = sbD nm b (getE st.env u)) ∨ ∀ u, getE (st.frzN nm).env u = getE st.env u := by
      unfold St.frzN
      split
      · rename_i b _
        split
        · exact .inl ⟨b, fun u => rfl⟩
        all_goals grind
      all_goals grind
    rcases k0 with ⟨b, k0⟩ | k0
    · refine ⟨(nm, b) :: L, fun q hq => ?_, fun u => by rw [h1, k0]; rfl⟩
      grind
    · exact ⟨L, fun q hq => List.mem_cons_of_mem _ (h0 q hq), fun u => by rw [h1, k0]⟩
theorem oN_congr {os : List O} {s t : St} (ho : ∀ o ∈ os, opv GL s o = opv GL t o) (hs : ∀ m, getS s.sto m = getS t.sto m) : oN GL s os = oN GL t os := by
  have e : (os.flatMap fun o => (opv GL s o).nms) = os.flatMap fun o => (opv GL t o).nms := by
    rw [List.flatMap_def, List.flatMap_def]
    exact congrArg List.flatten (List.map_congr_left fun o h => by rw [ho o h])
  grind [oN,deepN]
theorem frameF {p : Option (Nat × D)} {v st st0 : St} {d0 : Nat} {N : List Nat} {os : List O} {get : St → Option (FuncId × List D)} {K : St → Prop} (hs : SimP p v st) (hp : ∀ d x, p = some (d, x) → d0 ≠ d) (he : ∀ o ∈ os, opv GL v o = opv GL st o) (hg : get v = get st)
    (hk : (∃ L : List (Nat × Blk), (∀ q ∈ L, q.1 ∈ N) ∧ ∀ u, getE st.env u = sbsD L (getE st0.env u)) ∧ ∀ m b, getS st0.sto m = some b → m ∉ N → b.nms = [] → getS st.sto m = some b) (h : callF2 P GL get os (some d0) v K) :
    callF2 P GL get os (some d0) st (fun s' => (∃ q, K q ∧ SimP p q s') ∧ keepE N d0 st0 s') := by
  unfold callF2 at h ⊢
  rw [← hg]
  split at h
  · rename_i q _
    obtain ⟨h1, y, h2, h3⟩ := h
    refine ⟨?_, y, h2, ⟨_, h3, fun i => ?_, hs.2⟩, ⟨hk.1.choose, hk.1.choose_spec.1, fun u hu => ?_⟩, hk.2⟩
    · rw [List.all_eq_true] at h1 ⊢
      exact fun o ho => by grind
    · simp only [putO, St.put, getE]
      cases p with
      | none => simp only [updE, hs.1]
      | some q =>
        obtain ⟨d, x⟩ := q
        have hne := hp d x rfl
        simp only [updE, hs.1]
        by_cases h4 : d = i
        · subst h4; rw [if_neg hne, if_pos rfl, if_pos rfl]
        · rw [if_neg h4, if_neg h4]
    · simp only [putO, St.put, getE, if_neg hu]; exact hk.1.choose_spec.2 u
  · exact h.elim
theorem frame {ins : Ins} {d0 : Nat} (hc : chainIns ins = true) (hdst : ins.dst = some d0) {p : Option (Nat × D)} {v st : St} {K : St → Prop} (hs : SimP p v st) (hp : ∀ d x, p = some (d, x) → (∀ m ∈ x.nms, m ∉ nmC GL ins st) ∧ (∀ o ∈ opsC ins, d ∉ usesO o) ∧ d0 ≠ d)
    (h : step P GL ins v K) : step P GL ins st (fun s' => (∃ q, K q ∧ SimP p q s') ∧ keepE (nmC GL ins st) d0 st s') := by
  have hop : ∀ o ∈ opsC ins, opv GL v o = opv GL st o := fun o ho => chainOps_opv hs fun d x e => (hp d x e).2.1 o ho
  have hsto : getS v.sto = getS st.sto := funext hs.2
  have inN : (nmC GL ins st = (opsC ins).flatMap fun o => (opv GL st o).nms) → ∀ {o : O} {nm : Nat}, o ∈ opsC ins → nm ∈ (opv GL st o).nms → nm ∈ nmC GL ins st := fun e _ _ ho hn => by grind
  have hN0 : ∀ (ins' : Ins), ins = ins' → nmC GL ins st = nmC GL ins' st := fun _ e => by rw [e]
  generalize hN : nmC GL ins st = N at hp inN hN0
  have fin : ∀ (x0 : D) (f : St → St), (∀ s, (f s).env = s.env) → (∀ s t : St, (∀ m, getS s.sto m = getS t.sto m) → ∀ m, getS (f s).sto m = getS (f t).sto m) → (∀ m b, getS st.sto m = some b → m ∉ N → b.nms = [] → getS (f st).sto m = some b) → K ((f v).put d0 x0) → (∃ q, K q ∧ SimP p q ((f st).put d0 x0)) ∧ keepE N d0 st ((f st).put d0 x0) := fun x0 f hf1 hf2 hf3 hk => by
    refine ⟨⟨_, hk, fun i => ?_, fun m => hf2 v st hs.2 m⟩, ⟨[], by simp, fun u hu => ?_⟩, hf3⟩
    · simp only [St.put, getE, hf1]
      cases p with
      | none => simp only [updE, hs.1]
      | some q =>
        obtain ⟨d, x⟩ := q
        have hne := (hp d x rfl).2.2
        simp only [updE, hs.1]
        grind
    all_goals grind [St.put,getE,sbsD]
  have finS : ∀ (x0 : D) (nm : Nat) (bl : Blk), nm ∈ N → K (((⟨.sb nm (.iter none []) v.env, sbS nm (.iter none []) v.sto⟩ : St).setB nm bl).put d0 x0) → (∃ q, K q ∧ SimP p q (((⟨.sb nm (.iter none []) st.env, sbS nm (.iter none []) st.sto⟩ : St).setB nm bl).put d0 x0)) ∧ keepE N d0 st (((⟨.sb nm (.iter none []) st.env, sbS nm (.iter none []) st.sto⟩ : St).setB nm bl).put d0 x0) := fun x0 nm bl hnm hk => by
    refine ⟨⟨_, hk, fun i => ?_, fun m => ?_⟩, ⟨[(nm, .iter none [])], by simpa using hnm, fun u hu => ?_⟩, fun m b hb hm hbn => ?_⟩
    · simp only [St.put, St.setB, getE]
      cases p with
      | none => simp only [updE, hs.1]
      | some q =>
        obtain ⟨d, x⟩ := q
        obtain ⟨hx, _, hne⟩ := hp d x rfl
        simp only [updE, hs.1]
        grind [sbD_out]
    · simp_all [St.put,St.setB,getS_setS,getS_sbS]
    all_goals grind [St.put,St.setB,getE,sbsD,getS_setS,getS_sbS,sbB_out]
  have setK : ∀ (nm : Nat) (bl : Blk), nm ∈ N → ∀ m b, getS st.sto m = some b → m ∉ N → b.nms = [] → getS (st.setB nm bl).sto m = some b := fun nm bl hnm m b hb hm _ => by grind [St.setB,getS_setS]
  have bindK : ∀ (nm : Nat) (bl : Blk), getS st.sto nm = none → ∀ m b, getS st.sto m = some b → m ∉ N → b.nms = [] → getS (st.bind nm bl).sto m = some b := fun nm bl hnone m b hb hm _ => by grind [St.bind,getS]
  cases ins <;> simp only [chainIns, Bool.false_eq_true] at hc
  case app d e k b ox oy =>
    obtain rfl : d = d0 := by grind [Ins.dst]
    have e1 := hop ox (by simp [opsC])
    have e2 := hop oy (by simp [opsC])
    simp only [step, appE, e1, e2] at h ⊢
    split at h
    · rename_i nm k0 lo hi ex
      have hnm : nm ∈ N := inN hN.symm (o := ox) (by simp [opsC]) (by rw [ex]; simp [D.nms, Ref.nm])
      simp only [hsto] at h
      unfold appS at h ⊢
      split at h
      · rename_i e' k' rs hg
        split at h
        · rename_i ys hy
          obtain ⟨a1, a2, a3, a4, a5, a6, a7, a8⟩ := h
          refine ⟨a1, a2, a3, a4, a5, a6, fun q => ?_, fun q => ?_⟩
          · exact fin _ (fun s => s.setB nm _) (fun s => rfl) (fun s t hst m => by simp only [St.setB, getS_setS, hst]) (setK nm _ hnm) (a7 q)
          · obtain ⟨as, b1, b2, b3, b4, b5, b6⟩ := a8 q
            exact ⟨as, b1, b2, b3, b4, b5, fun c => fin _ (fun s => s.bind d _) (fun s => rfl) (fun s t hst m => by simp only [St.bind, getS, hst]) (bindK d _ b5) (b6 c)⟩
        · exact h.elim
      · split at h
        · unfold appB at h ⊢
          split at h
          · obtain ⟨a1, a2, a3, a4, a5, a6, a7, a8, a9, a10⟩ := h
            exact ⟨a1, a2, a3, a4, a5, a6, a7, a8, a9, finS _ _ _ hnm a10⟩
          · exact h.elim
        · exact h.elim
    · exact h.elim
  case bsl d e k ps =>
    obtain rfl : d = d0 := by grind [Ins.dst]
    cases ps with
    | cons a l =>
      have e1 : ∀ o ∈ a :: l, opv GL v o = opv GL st o := fun o ho => hop o (by simpa [opsC] using ho)
      have e2 : ((a :: l).map fun o => cellsI (unI (opv GL v o))) = (a :: l).map fun o => cellsI (unI (opv GL st o)) := List.map_congr_left fun o ho => by rw [e1 o ho]
      have e3 : ((a :: l).all fun o => isI (opv GL v o) && ((cellsI (unI (opv GL v o))).length == k) && (cellsI (unI (opv GL v o))).all I.one) = (a :: l).all fun o => isI (opv GL st o) && ((cellsI (unI (opv GL st o))).length == k) && (cellsI (unI (opv GL st o))).all I.one := by grind
      simp only [step] at h ⊢
      rw [e2, e3] at h
      exact ⟨h.1, fin _ (fun s => s) (fun s => rfl) (fun s t hst m => hst m) (fun m b hb _ _ => hb) h.2⟩
    | nil =>
      simp only [step, hsto] at h ⊢
      unfold step.nilsE' at h ⊢
      split at h
      · rename_i hnone
        exact fin _ (fun s => s.bind d _) (fun s => rfl) (fun s t hst m => by simp only [St.bind, getS, hst]) (bindK d _ hnone) h
      · exact h.elim
  case bso d e k ps =>
    obtain rfl : d = d0 := by grind [Ins.dst]
    have e1 : ∀ o ∈ ps, opv GL v o = opv GL st o := fun o ho => hop o (by simpa [opsC] using ho)
    have e2 : (ps.map fun o => cellsI (unI (opv GL v o))) = ps.map fun o => cellsI (unI (opv GL st o)) := List.map_congr_left fun o ho => by rw [e1 o ho]
    have e3 : (ps.all fun o => isI (opv GL v o) && ((cellsI (unI (opv GL v o))).length == k) && (cellsI (unI (opv GL v o))).all I.one) = ps.all fun o => isI (opv GL st o) && ((cellsI (unI (opv GL st o))).length == k) && (cellsI (unI (opv GL st o))).all I.one := by grind
    simp only [step, hsto] at h ⊢
    rw [e2, e3] at h
    refine ⟨h.1, ?_⟩
    have h := h.2
    unfold ownE at h ⊢
    split at h
    · rename_i hnone
      exact fin _ (fun s => s.bind d _) (fun s => rfl) (fun s t hst m => by simp only [St.bind, getS, hst]) (bindK d _ hnone) h
    · exact h.elim
  case callf d f args =>
    obtain rfl : d = some d0 := by grind [Ins.dst]
    have e1 : ∀ o ∈ args, opv GL v o = opv GL st o := fun o ho => hop o (by simpa [opsC] using ho)
    have e2 : oN GL v args = oN GL st args := oN_congr e1 hs.2
    have hN' : N = oN GL st args := hN.symm
    simp only [step, callF, e2] at h ⊢
    rw [← hN'] at h ⊢
    have hs1 := SimP_frz N hs fun d x e m hm => (hp d x e).1 m hm
    have e3 : ∀ o ∈ args, opv GL (frzNs N v) o = opv GL (frzNs N st) o := fun o ho => chainOps_opv hs1 fun d x e => (hp d x e).2.1 o (by simpa [opsC] using ho)
    refine frameF hs1 (fun d x e => (hp d x e).2.2) e3 ?_ (frz_keep N st) h
    simp only [getC, List.map_congr_left e3]
  case callvf d fo args =>
    obtain rfl : d = some d0 := by grind [Ins.dst]
    have e1 : ∀ o ∈ fo :: args, opv GL v o = opv GL st o := fun o ho => hop o (by simpa [opsC] using ho)
    have e2 : oN GL v (fo :: args) = oN GL st (fo :: args) := oN_congr e1 hs.2
    have hN' : N = oN GL st (fo :: args) := hN.symm
    simp only [step, callF, e2] at h ⊢
    rw [← hN'] at h ⊢
    have hs1 := SimP_frz N hs fun d x e m hm => (hp d x e).1 m hm
    have e3 : ∀ o ∈ fo :: args, opv GL (frzNs N v) o = opv GL (frzNs N st) o := fun o ho => chainOps_opv hs1 fun d x e => (hp d x e).2.1 o (by simpa [opsC] using ho)
    refine frameF hs1 (fun d x e => (hp d x e).2.2) e3 ?_ (frz_keep N st) h
    simp only [getCv, e3 fo (by simp), List.map_congr_left fun o ho => e3 o (List.mem_cons_of_mem _ ho)]
  case callo d f args =>
    obtain rfl : d = d0 := by grind [Ins.dst]
    have e1 : args.map (opv GL v) = args.map (opv GL st) := List.map_congr_left fun o ho => hop o (by simpa [opsC] using ho)
    simp only [step, callO, e1] at h ⊢
    obtain ⟨h1, R, h2, h3⟩ := h
    refine ⟨h1, R, h2, fun r sto' hr => ?_⟩
    obtain ⟨q1, q2⟩ := h3 r sto' hr
    refine ⟨fun nm hm => by rw [← hsto]; exact q1 nm hm, ?_⟩
    refine fin _ (fun s => ⟨s.env, renS d sto' ++ s.sto⟩) (fun s => rfl) (fun s t hst m => by simp only [getS_append, hst]) (fun m b hb hm hbn => ?_) q2
    simp only [getS_append]
    cases hg : getS (renS d sto') m with
    | none => exact hb
    | some x =>
      have hin : m ∈ (renS d sto').map (·.1) := mem_names.2 (by simp only [names, hg]; rfl)
      have := (q1 m hin).1
      rw [hsto, hb] at this; cases this
  case ment d ox ok z ls e k =>
    obtain rfl : d = d0 := by grind [Ins.dst]
    have e1 := hop ox (by simp [opsC])
    have e2 := hop ok (by simp [opsC])
    simp only [step, mentE, e1, e2] at h ⊢
    split at h
    · rename_i nm q ex _
      have hnm : nm ∈ N := inN hN.symm (o := ox) (by simp [opsC]) (by rw [ex]; simp [D.nms, Ref.nm])
      obtain ⟨h1, h⟩ := h
      refine ⟨h1, ?_⟩
      simp only [hsto] at h
      unfold mentB at h ⊢
      split at h
      · obtain ⟨h2, h⟩ := h
        refine ⟨h2, ?_⟩
        split at h
        · unfold mentV at h ⊢
          split at h
          · split at h
            · exact fin _ (fun s => s.setB _ _) (fun s => rfl) (fun s t hst m => by simp only [St.setB, getS_setS, hst]) (setK nm _ hnm) h
            · exact h.elim
          · exact h.elim
        · unfold mentZ at h ⊢
          simp only [hsto] at h
          generalize hfr : getS st.sto (entNm d _) = fr at h ⊢
          cases z <;> try exact h.elim
          rename_i rows
          cases rows with
          | cons _ _ => exact h.elim
          | nil => cases fr with
            | some _ => exact h.elim
            | none => exact fin _ (fun s => (s.bind _ _).setB _ _) (fun s => rfl) (fun s t hst m => by simp only [St.setB, St.bind, getS_setS, getS, hst]) (fun m b hb hm hbn => by
                have h1 := bindK _ (.rows e k []) hfr m b hb hm hbn
                have hne : m ≠ nm := fun e => hm (e ▸ hnm)
                simp only [St.setB, getS_setS, if_neg hne]; exact h1) h
      · exact h.elim
    · exact h.elim
theorem pureX_wr {g : X} {st : St} (h : pureX g.1.ins = true) : wrG GL g st = none := by
  unfold wrG
  split
  · unfold wrI
    grind [pureX]
  · rfl
theorem runX_end : ∀ (l : List X) {st : St} {R : St → Prop}, runX P GL sn l st R → ∃ e, R e ∧ ∀ u, (∀ b ∈ l, b.1.ins.dst ≠ some u) → getE e.env u = getE st.env u
  | [], st, R, h => ⟨st, h, fun _ _ => rfl⟩
  | b :: l, st, R, h => by
    obtain ⟨e, h1, h2⟩ := runX_end l h.2
    refine ⟨e, h1, fun u hu => ?_⟩
    rw [h2 u fun c hc => hu c (List.mem_cons_of_mem _ hc), (effG_get h.1).1]
    cases hp : putG GL b st with
    | none => rfl
    | some q =>
      obtain ⟨d, x⟩ := q
      have := putG_dst h.1 hp
      grind [updE]
structure Late (us : List Nat) (g : GI) (l : List X) : Prop where
  pure : ∀ b ∈ l, pureX b.1.ins = true
  uses : ∀ b ∈ l, ∀ u ∈ usesL b.1, u ∈ us
  dst : ∀ b ∈ l, ∀ d, b.1.ins.dst = some d → d ∈ us ∧ d ∉ usesG b.1 ∧ (∀ o ∈ opsC g.ins, d ∉ usesO o) ∧ d ∉ guse g
  own : ∀ d, g.ins.dst = some d → d ∉ us
  own2 : ∀ b ∈ l, ∀ d, g.ins.dst = some d → d ∉ usesG b.1
  ord : l.Pairwise fun b c => ∀ d, c.1.ins.dst = some d → d ∉ usesG b.1 ∧ b.1.ins.dst ≠ some d
theorem nmC_congr {ins : Ins} {s t : St} (ho : ∀ o ∈ opsC ins, opv GL s o = opv GL t o) (hs : ∀ m, getS s.sto m = getS t.sto m) : nmC GL ins s = nmC GL ins t := by
  unfold nmC
  split
  · exact oN_congr (by simpa [opsC] using ho) hs
  · exact oN_congr (by simpa [opsC] using ho) hs
  · rw [List.flatMap_def, List.flatMap_def]
    exact congrArg List.flatten (List.map_congr_left fun o h => by rw [ho o h])
theorem nmC_sim {ins : Ins} {s t : St} (hs : Sim s t) : nmC GL ins s = nmC GL ins t := nmC_congr (fun o _ => by rw [opv_sim hs]) hs.2
theorem dataV_sim {N us : List Nat} {s t : St} (h : dataV N s us) (hs : Sim s t) : dataV N t us := dataV_iff.2 fun u hu m hm => by rw [← hs.1] at hm; rw [← hs.2]; exact dataV_iff.1 h u hu m hm
theorem runX_sto : ∀ (l : List X) {st : St} {R : St → Prop}, (∀ b ∈ l, pureX b.1.ins = true) → runX P GL sn l st R → ∃ e, R e ∧ (∀ u, (∀ b ∈ l, b.1.ins.dst ≠ some u) → getE e.env u = getE st.env u) ∧ ∀ m, getS e.sto m = getS st.sto m
  | [], st, R, _, h => ⟨st, h, fun _ _ => rfl, fun _ => rfl⟩
  | b :: l, st, R, hp, h => by
    obtain ⟨e, h1, h2, h3⟩ := runX_sto l (fun c hc => hp c (List.mem_cons_of_mem _ hc)) h.2
    have hg := effG_get h.1
    refine ⟨e, h1, fun u hu => ?_, fun m => ?_⟩
    · rw [h2 u fun c hc => hu c (List.mem_cons_of_mem _ hc), hg.1]
      cases hq : putG GL b st with
      | none => rfl
      | some q =>
        obtain ⟨d, x⟩ := q
        have := putG_dst h.1 hq
        grind [updE]
    · rw [h3, hg.2, pureX_wr (hp b List.mem_cons_self)]; rfl
def stepG (P : Program) (GL : List (Nat × List I)) (us : List Nat) (g : GI) (v : St) (T : St → Prop) : Prop := match gdOf g.gd v with
  | some true => dataV (nmC GL g.ins v) v us ∧ step P GL g.ins v T
  | some false => T (skipI g.ins v)
  | none => False
def stepH (P : Program) (GL : List (Nat × List I)) (g : GI) (v : St) (T : St → Prop) : Prop := match gdOf g.gd v with
  | some true => step P GL g.ins v T
  | some false => T (skipI g.ins v)
  | none => False
theorem gdOf_same {g : GI} {s t : St} (h : ∀ q ∈ guse g, getE s.env q = getE t.env q) : gdOf g.gd s = gdOf g.gd t := by grind [gdOf,guse]
theorem guse_sub {g : GI} {i : Nat} (h : i ∈ guse g) : i ∈ usesG g := by grind [guse,usesG]
theorem usesL_sub {g : GI} {i : Nat} (h : i ∈ usesL g) : i ∈ usesG g := by grind [usesL,guse_sub]
theorem guse_subL {g : GI} {i : Nat} (h : i ∈ guse g) : i ∈ usesL g := by grind [usesL,guse_sub]
theorem past {us : List Nat} {g : GI} {d0 : Nat} (hc : chainIns g.ins = true) (hd0 : g.ins.dst = some d0) {T : St → Prop} : ∀ (l : List X) (st : St), Late us g l →
    runX P GL sn l st (fun s => ∃ v, Sim v s ∧ stepG P GL us g v T) → ∃ v, Sim v st ∧ stepH P GL g v (fun s' => runX P GL sn l s' fun s => ∃ q, Sim q s ∧ T q)
  | [], st, hl, h => by
    obtain ⟨v, hv, h⟩ := h
    refine ⟨v, hv, ?_⟩
    unfold stepG at h
    unfold stepH
    split at h
    · rename_i e; exact step_mono h.2 fun s' hs' => ⟨s', Sim.refl _, hs'⟩
    · exact ⟨_, Sim.refl _, h⟩
    · exact h.elim
  | b :: l, st, hl, h => by
    obtain ⟨hp, hr⟩ := h
    have hl' : Late us g l := ⟨fun c hc => hl.pure c (List.mem_cons_of_mem _ hc), fun c hc => hl.uses c (List.mem_cons_of_mem _ hc), fun c hc => hl.dst c (List.mem_cons_of_mem _ hc), hl.own, fun c hc => hl.own2 c (List.mem_cons_of_mem _ hc), (List.pairwise_cons.1 hl.ord).2⟩
    obtain ⟨e, ⟨v0, hv0, hg0⟩, hend, hsto⟩ := runX_sto l (fun c hc => hl'.pure c hc) hr
    obtain ⟨v, hv, hs⟩ := past hc hd0 l (effG GL b st) hl' hr
    have hbu := hl.uses b List.mem_cons_self
    have hbd := hl.dst b List.mem_cons_self
    have hord := (List.pairwise_cons.1 hl.ord).1
    have hput : ∀ u, getE (effG GL b st).env u = updE (putG GL b st) (getE st.env) u := (effG_get hp).1
    have hwr := pureX_wr (GL := GL) (g := b) (st := st) (hl.pure b List.mem_cons_self)
    have hsto0 : ∀ m, getS e.sto m = getS st.sto m := fun m => by rw [hsto, (effG_get hp).2, hwr]; rfl
    have hSP : SimP (putG GL b st) v st := ⟨fun i => by rw [hv.1, hput], fun m => by rw [hv.2, (effG_get hp).2, hwr]; rfl⟩
    have keepb : ∀ q, (∀ d, b.1.ins.dst = some d → d ≠ q) → getE (effG GL b st).env q = getE st.env q := fun q hq => by
      rw [hput]
      cases hz : putG GL b st with
      | none => rfl
      | some z => obtain ⟨d, x⟩ := z; simp only [updE]; rw [if_neg (hq d (putG_dst hp hz))]
    have hg1 : gdOf g.gd v = gdOf g.gd st := gdOf_same fun q hq => by rw [hv.1, keepb q fun d hd e => (hbd d hd).2.2.2 (e ▸ hq)]
    have hg2 : gdOf g.gd v0 = gdOf g.gd st := gdOf_same fun q hq => by
      rw [hv0.1, hend q fun c hc hcd => (hl'.dst c hc q hcd).2.2.2 hq, keepb q fun d hd e => (hbd d hd).2.2.2 (e ▸ hq)]
    have fin : ∀ (s' q : St), (∀ i ∈ guse b.1, getE st.env i = getE s'.env i) → (gdOf b.1.gd st = some true → preG P GL sn b s' ∧ putG GL b s' = putG GL b st) → runX P GL sn l q (fun s => ∃ q, Sim q s ∧ T q) → SimP (putG GL b st) q s' →
        runX P GL sn (b :: l) s' (fun s => ∃ q, Sim q s ∧ T q) := fun s' q heq hloc hq hqs => by
      by_cases hgd : gdOf b.1.gd st = some true
      · obtain ⟨l1, l2⟩ := hloc hgd
        have l3 : wrG GL b s' = none := pureX_wr (hl.pure b List.mem_cons_self)
        refine ⟨l1, ?_⟩
        have hsim : Sim q (effG GL b s') := ⟨fun i => by rw [(effG_get l1).1, l2, hqs.1], fun m => by rw [(effG_get l1).2, l3, hqs.2]; rfl⟩
        refine runX_mono l ?_ (runX_sim l hsim hq)
        rintro u ⟨w, ⟨q2, hq2, hq3⟩, hw2⟩
        exact ⟨q2, hq2.trans hw2, hq3⟩
      ·
        have hgs : gdOf b.1.gd s' = gdOf b.1.gd st := (gdOf_same heq).symm
        have hps : preG P GL sn b s' := by
          unfold preG at hp ⊢
          rw [hgs]
          split at hp
          · exact hp.elim
          · rename_i h; exact absurd h hgd
          · rename_i h; simp only []
        have hpp : putG GL b s' = putG GL b st := by
          unfold putG
          rw [hgs]
          split
          · rename_i h; exact absurd h hgd
          · split <;> simp_all
        have hww : wrG GL b s' = none := pureX_wr (hl.pure b List.mem_cons_self)
        refine ⟨hps, ?_⟩
        have hsim : Sim q (effG GL b s') := ⟨fun i => by rw [(effG_get hps).1, hpp, hqs.1], fun m => by rw [(effG_get hps).2, hww, hqs.2]; rfl⟩
        refine runX_mono l ?_ (runX_sim l hsim hq)
        rintro u ⟨w, ⟨q2, hq2, hq3⟩, hw2⟩
        exact ⟨q2, hq2.trans hw2, hq3⟩
    cases hgq : gdOf g.gd st with
    | none => unfold stepH at hs; rw [hg1, hgq] at hs; exact hs.elim
    | some wt =>
      cases wt with
      | false =>
        unfold stepH at hs
        rw [hg1, hgq] at hs
        have e1 : ∀ s : St, skipI g.ins s = s.put d0 (.i .undef) := fun s => by unfold skipI; rw [hd0]
        simp only [e1] at hs
        refine ⟨st, Sim.refl _, ?_⟩
        unfold stepH
        rw [hgq]
        simp only [e1]
        have same : ∀ i ∈ usesG b.1, getE st.env i = getE (st.put d0 (.i .undef)).env i := fun i hi => by
          simp only [St.put, getE]; rw [if_neg fun e : d0 = i => hl.own2 b List.mem_cons_self d0 hd0 (e ▸ hi)]
        refine fin _ _ (fun i hi => same i (guse_sub hi)) (fun _ => ?_) hs ⟨fun i => ?_, hSP.2⟩
        · obtain ⟨l1, l2, _⟩ := local_G (t := st.put d0 (.i .undef)) same (fun o ho nm hn _ _ => rfl) (fun d zs e _ _ => by have := hl.pure b List.mem_cons_self; rw [e] at this; simp [pureX] at this) hp
          exact ⟨l1, l2⟩
        · simp only [St.put, getE, hSP.1]
          cases hz : putG GL b st with
          | none => rfl
          | some z =>
            obtain ⟨d, x⟩ := z
            have hne : d0 ≠ d := fun e => hl.own d0 hd0 (e ▸ (hbd d (putG_dst hp hz)).1)
            simp only [updE]
            by_cases h1 : d = i
            · subst h1; rw [if_neg hne, if_pos rfl, if_pos rfl]
            · rw [if_neg h1, if_neg h1]
      | true =>
        unfold stepH at hs
        rw [hg1, hgq] at hs
        unfold stepG at hg0
        rw [hg2, hgq] at hg0
        have he := dataV_iff.1 (dataV_sim hg0.1 hv0)
        rw [nmC_sim hv0] at he
        have hN : nmC GL g.ins e = nmC GL g.ins st := nmC_congr (fun o ho => by
          cases o <;> simp only [opv]
          rename_i q
          rw [hend q fun c hc hcd => (hl'.dst c hc q hcd).2.2.1 _ ho (by simp [usesO]), keepb q fun d hd e => (hbd d hd).2.2.1 _ ho (by simp [usesO, e])]) hsto0
        rw [hN] at he
        have hdata : ∀ u ∈ usesL b.1, ∀ m ∈ (getE st.env u).nms, m ∉ nmC GL g.ins st ∧ blkNo (getS st.sto m) := fun u hu m hm => by
          have h1 := he u (hbu u hu) m
          rw [hend u (fun c hc hcd => (hord c hc u hcd).1 (usesL_sub hu)), keepb u (fun d hd e => (hbd d hd).2.1 (e ▸ usesL_sub hu)), hsto0] at h1
          exact h1 hm
        have hx : ∀ d x, putG GL b st = some (d, x) → (∀ m ∈ x.nms, m ∉ nmC GL g.ins st) ∧ (∀ o ∈ opsC g.ins, d ∉ usesO o) ∧ d0 ≠ d := fun d x hq => by
          have hbd' := putG_dst hp hq
          have h1 := he d (hbd d hbd').1
          rw [hend d (fun c hc hcd => (hord c hc d hcd).2 hbd'), hput, hq] at h1
          simp only [updE, if_pos] at h1
          exact ⟨fun m hm => (h1 m hm).1, (hbd d hbd').2.2.1, fun e : d0 = d => hl.own d0 hd0 (e ▸ (hbd d hbd').1)⟩
        refine ⟨st, Sim.refl _, ?_⟩
        unfold stepH
        rw [hgq]
        refine step_mono (frame hc hd0 hSP hx hs) ?_
        rintro s' ⟨⟨q, hq, hqs⟩, hk⟩
        have heq : ∀ i ∈ usesL b.1, getE st.env i = getE s'.env i := fun i hi => (hk.out i (fun e : d0 = i => hl.own2 b List.mem_cons_self d0 hd0 (e ▸ usesL_sub hi)) (fun m hm => (hdata i hi m hm).1)).symm
        refine fin s' q (fun i hi => heq i (guse_subL hi)) (fun hgt => ?_) hq hqs
        by_cases hext : ∃ d o i, b.1.ins = .ext d o i
        ·
          obtain ⟨d, o, i, he⟩ := hext
          have hput1 : putG GL b st = some (d, (pv (opv GL st) (getS st.sto) (.ext d o i)).1) := by
            unfold putG; rw [hgt]; simp only [putI, he, pureDst]
          have hpre : (pv (opv GL st) (getS st.sto) (.ext d o i)).2 := by
            unfold preG at hp; rw [hgt] at hp; simp only [he] at hp; exact hp.2.1
          have hnm := (hx _ _ hput1).1
          have key : pv (opv GL s') (getS s'.sto) (.ext d o i) = pv (opv GL st) (getS st.sto) (.ext d o i) := by
            cases o with
            | t u =>
              obtain ⟨⟨L, hL, hu⟩, _⟩ := hk
              have hu := hu u (fun e : d0 = u => hl.own2 b List.mem_cons_self d0 hd0 (by unfold usesG; rw [he]; simp [opsOf, usesO, e]))
              simp only [pv, opv, hu] at hnm ⊢
              cases hv : getE st.env u with
              | i x => rw [sbsD_i]
              | tup cs =>
                rw [hv] at hnm
                rw [sbsD_tup]
                simp only [List.length_map] at hnm ⊢
                have hc : ((cs.map (sbsC L)).getD i .any).toD = (cs.getD i .any).toD := by
                  rw [List.getD_eq_getElem?_getD, List.getD_eq_getElem?_getD, List.getElem?_map]
                  cases hci : cs[i]? with
                  | none => rfl
                  | some c =>
                    simp only [Option.map_some, Option.getD_some]
                    rw [List.getD_eq_getElem?_getD, hci] at hnm
                    rw [sbsC_out L fun q hq hm => hnm q.1 (by cases c <;> simp_all [Cp.toD, D.nms, Cp.nms]) (hL q hq)]
                rw [hc]
              | _ =>
                exfalso
                simp only [pv, opv, hv] at hpre
            | _ => rfl
          have hgs' : gdOf b.1.gd s' = some true := by rw [← hgt]; exact (gdOf_same fun i hi => heq i (guse_subL hi)).symm
          constructor
          · unfold preG
            rw [hgs']
            simp only [he]
            exact ⟨rfl, by rw [key]; exact hpre, fun h => by simp [looks] at h⟩
          · unfold putG
            rw [hgs', hgt]
            simp only [putI, he, pureDst, key]
        · have hne : ∀ d o i, b.1.ins ≠ .ext d o i := fun d o i e => hext ⟨d, o, i, e⟩
          have eL : usesL b.1 = usesG b.1 := by
            unfold usesL
            split
            · rename_i e; exact absurd e (hne _ _ _)
            · rfl
          rw [eL] at heq hdata
          obtain ⟨l1, l2, _⟩ := local_G (t := s') heq (fun o ho nm hn _ _ => by
            have hnm : nm ∉ nmC GL g.ins st ∧ blkNo (getS st.sto nm) := by
              have ho2 := opsK_sub ho
              clear ho
              cases o with
              | t n => exact hdata n (by unfold usesG; exact List.mem_append.2 (.inr (List.mem_flatMap.2 ⟨_, ho2, by simp [usesO]⟩))) nm hn
              | _ => simp [opv, D.nms] at hn
            cases hg : getS st.sto nm with
            | none => rw [hg] at hnm; exact hnm.2.elim
            | some bl => rw [hg] at hnm; exact (hk.2 nm bl hg hnm.1 hnm.2).symm) (fun d zs e _ _ => by have := hl.pure b List.mem_cons_self; rw [e] at this; simp [pureX] at this) hp
          exact ⟨l1, l2⟩
end
end Go.Dl
