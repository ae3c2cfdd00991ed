/- A part of the proofs of WorkersExclude and WorkersMatchesSteps: A25. -/
import Derived.Test.YtcgjldimifeffaaGreatDoorA24
set_option linter.all false
namespace Go.Dl
open Go Go.RowKit
def scSplit (s : Nat) (w : Bool) : List GI → Option (List GI × O × Nat × List GI)
  | [] => none
  | ⟨none, .pick d (.t q) x y⟩ :: r => if q = s then (if w then (match y with | .c (.bool false) => some ([], x, d, r) | _ => none) else match x with | .c (.bool true) => some ([], y, d, r) | _ => none) else none
  | g :: r => match scSplit s w r with
    | some (b, o, d, r') => some (g :: b, o, d, r')
    | none => none
def scIns : Ins → Bool
  | .call (some _) _ _ => true
  | .callv (some _) _ _ => true
  | i => (pureDst i).isSome
def scOk (s : Nat) (w : Bool) : List Nat → List GI → Bool
  | _, [] => true
  | ds, g :: r => (match g.gd with | some (q, u) => (q == s && u == w) || ds.contains q | none => false) && scIns g.ins && (match g.ins.dst with | some d => d != s && scOk s w (d :: ds) r | none => false)
def strip1 (s : Nat) (w : Bool) (g : GI) : GI := match g.gd with | some (q, u) => if q = s ∧ u = w then ⟨none, g.ins⟩ else g | none => g
def strip (s : Nat) (w : Bool) (l : List GI) : List GI := l.map (strip1 s w)
def dstL (l : List GI) : List Nat := l.filterMap fun g => g.ins.dst
def putF (f : Nat → D) : Nat → List Nat → St → St
  | _, [], st => st
  | k, d :: ds, st => putF f (k + 1) ds (st.put d (f k))
def scV (w b v : Bool) : Bool := if w then b && v else b || v
section
variable {P : Program} {GL : List (Nat × List I)} {sn : List Nat} {s : Nat} {w : Bool}
theorem putF_sto (f : Nat → D) : ∀ (ds : List Nat) (k : Nat) (st : St), (putF f k ds st).sto = st.sto
  | [], _, _ => rfl
  | d :: ds, k, st => by simp only [putF]; rw [putF_sto f ds]; rfl
theorem putF_get (f : Nat → D) : ∀ (ds : List Nat) (k : Nat) (st : St), s ∉ ds → getE (putF f k ds st).env s = getE st.env s
  | [], _, _, _ => rfl
  | d :: ds, k, st, h => by
    simp only [putF]
    rw [putF_get f ds _ _ (fun hm => h (List.mem_cons_of_mem _ hm))]
    grind [St.put,getE]
theorem putF_ext (f g : Nat → D) : ∀ (ds : List Nat) (k : Nat) (st : St), (∀ j, k ≤ j → f j = g j) → putF f k ds st = putF g k ds st
  | [], _, _, _ => rfl
  | d :: ds, k, st, h => by
    simp only [putF, h k (Nat.le_refl _)]
    exact putF_ext f g ds (k + 1) _ fun j hj => h j (by omega)
def consF (k : Nat) (x : D) (f : Nat → D) : Nat → D := fun j => if j = k then x else f j
theorem putF_cons (k : Nat) (x : D) (f : Nat → D) (d : Nat) (ds : List Nat) (st : St) : putF (consF k x f) k (d :: ds) st = putF f (k + 1) ds (st.put d x) := by grind [putF,consF,putF_ext]
theorem scIns_draw {ins : Ins} (h : scIns ins = true) : drawable ins = true := by cases ins <;> first | rfl | exact h | (simp only [scIns, pureDst, Option.isSome_none, Bool.false_eq_true] at h; done) | (rename_i d _ _; cases d <;> first | rfl | simp [scIns, pureDst] at h)
theorem stepD_put {ins : Ins} {st : St} {K : St → Prop} {d : Nat} (hi : scIns ins = true) (hd : ins.dst = some d) (h : stepD P GL sn ins st K) : stepD P GL sn ins st (fun s' => K s' ∧ ∃ x, s' = st.put d x) := by
  cases ins
  case call d' f args =>
    cases d' with
    | none => simp [Ins.dst] at hd
    | some d' => simp only [Ins.dst, Option.some.injEq] at hd; subst hd; obtain ⟨h1, y, h2, h3⟩ := h; exact ⟨h1, y, h2, h3, _, rfl⟩
  case callv d' f args =>
    cases d' with
    | none => simp [Ins.dst] at hd
    | some d' =>
      simp only [Ins.dst, Option.some.injEq] at hd; subst hd
      obtain ⟨h0, h1, h⟩ := h
      refine ⟨h0, h1, ?_⟩
      split at h
      · obtain ⟨y, h2, h3⟩ := h; exact ⟨y, h2, h3, _, rfl⟩
      · exact h.elim
  all_goals first
    | (simp [scIns, pureDst] at hi; done)
    | (simp only [Ins.dst, Option.some.injEq] at hd
       subst hd
       obtain ⟨h0, h⟩ := h
       obtain ⟨h1, h2⟩ := (step_pv P GL rfl st _).1 h
       exact ⟨h0, (step_pv P GL rfl st _).2 ⟨h1, h2, _, rfl⟩⟩)
theorem ev_of_stepD {ins : Ins} {st : St} {K : St → Prop} (hi : scIns ins = true) (h : stepD P GL sn ins st K) : step P GL ins (frzNs (preN GL ins st) st) K := by
  obtain ⟨x, hp, hk⟩ := pre_of_step (scIns_draw hi) h
  have hpre : preN GL ins st = [] := by
    have noD : ∀ v : D, isI v = true → v.nms = [] := fun v hv => by cases v <;> simp [isI] at hv; rfl
    have no1 : ∀ os : List O, (∀ o ∈ os, isI (opv GL st o) = true) → oN GL st os = [] := fun os ho => by simp_all [opv,oN,deepN]
    cases ins
    case bsn d e k ps =>
      obtain ⟨_, h2, _⟩ := hp
      simp only [pv, List.all_eq_true, Bool.and_eq_true] at h2
      exact no1 _ fun o ho => (h2.2 o ho).1.1
    case build d zs ps =>
      obtain ⟨_, h2, _⟩ := hp
      simp only [pv, List.all_eq_true, Bool.and_eq_true] at h2
      exact no1 _ fun o ho => by grind
    case load d x k ag =>
      cases ag with
      | false => rfl
      | true =>
        obtain ⟨_, h2, _⟩ := hp
        simp only [preN]
        unfold ldN
        split
        · rename_i nm off e
          simp only [pv, e] at h2
          split at h2
          · rename_i cs hg
            have ha := h2.2 trivial
            have : inMk (getS st.sto nm) off k = [] := by simp_all [inMk,allI]
            rw [this]; rfl
          · exact h2.elim
        · rfl
    case ofb d x =>
      obtain ⟨_, h2, _⟩ := hp
      simp only [pv] at h2
      refine no1 _ fun o ho => ?_
      simp only [List.mem_singleton] at ho
      subst ho
      split at h2
      · rename_i e; rw [e]; rfl
      · exact h2.elim
    all_goals first
      | rfl
      | (simp [scIns, pureDst] at hi; done)
  rw [hpre]
  exact step_of_pre hp hk
theorem scOk_cons {ds : List Nat} {g : GI} {r : List GI} (h : scOk s w ds (g :: r) = true) : ∃ q u d, g.gd = some (q, u) ∧ ((q = s ∧ u = w) ∨ q ∈ ds) ∧ scIns g.ins = true ∧ g.ins.dst = some d ∧ d ≠ s ∧ scOk s w (d :: ds) r = true := by grind [scOk]
structure Evl (P : Program) (GL : List (Nat × List I)) (sn : List Nat) (E : List GI → St → (St → Prop) → Prop) : Prop where
  go : ∀ g r st K, scIns g.ins = true → g.gd = none → stepD P GL sn g.ins st (fun s => E r s K) → E (g :: r) st K
  gd : ∀ q u i r st K, scIns i = true → gdE (getE st.env q) u (stepD P GL sn i st fun s => E r s K) (E r (skipI i st) K) → E (⟨some (q, u), i⟩ :: r) st K
theorem Evl.yes {E : List GI → St → (St → Prop) → Prop} (hE : Evl P GL sn E) {tail : List GI} {K : St → Prop} : ∀ (l : List GI) (ds : List Nat) (st : St), scOk s w ds l = true → getE st.env s = .i (.bool w) →
    evD P GL sn (strip s w l) st (fun st' => E tail st' K) → E (l ++ tail) st K
  | [], ds, st, _, _, h => h
  | g :: r, ds, st, hok, hs, h => by
    obtain ⟨q, u, d, e, hq, hi, hd, hds, hr⟩ := scOk_cons hok
    have next : ∀ st', evD P GL sn (strip s w r) st' (fun st' => E tail st' K) → getE st'.env s = .i (.bool w) → E (r ++ tail) st' K := fun st' h' hs' => Evl.yes hE r (d :: ds) st' hr hs' h'
    have keep : ∀ st' x, st' = st.put d x → getE st'.env s = .i (.bool w) := fun st' x e => by grind [St.put,getE]
    have put : ∀ {st0 : St} {K1 K2 : St → Prop}, stepD P GL sn g.ins st0 K1 → (∀ x, K1 (st0.put d x) → K2 (st0.put d x)) → stepD P GL sn g.ins st0 K2 := fun {st0 K1 K2} h1 h2 =>
      stepD_mono (stepD_put hi hd h1) fun s' ⟨k1, x, e⟩ => by grind
    obtain ⟨gd, ins⟩ := g
    simp only at e hi hd hq
    subst e
    show E (⟨some (q, u), ins⟩ :: (r ++ tail)) st K
    refine hE.gd q u ins _ st K hi ?_
    grind [strip,strip1,evD,gdE,br_true,gdE_mono,skipI]
theorem evD_match {g : GI} {r : List GI} {st : St} {K : St → Prop} : evD P GL sn (g :: r) st K ↔ match g.gd with
      | none => stepD P GL sn g.ins st fun s' => evD P GL sn r s' K
      | some (q, u) => gdE (getE st.env q) u (stepD P GL sn g.ins st fun s' => evD P GL sn r s' K) (evD P GL sn r (skipI g.ins st) K) := by
  obtain ⟨gd, ins⟩ := g
  cases gd with
  | none => exact Iff.rfl
  | some p => exact Iff.rfl
theorem evD_putF {K : St → Prop} : ∀ (l : List GI) (ds : List Nat) (st : St) (k : Nat), scOk s w ds l = true → evD P GL sn (strip s w l) st K → evD P GL sn (strip s w l) st (fun st' => K st' ∧ ∃ f, st' = putF f k (dstL l) st)
  | [], ds, st, k, _, h => ⟨h, fun _ => .any, rfl⟩
  | g :: r, ds, st, k, hok, h => by
    obtain ⟨q, u, d, e, hq, hi, hd, hds, hr⟩ := scOk_cons hok
    have hdl : dstL (g :: r) = d :: dstL r := by simp [dstL, hd]
    have ins1 : (strip1 s w g).ins = g.ins := by grind [strip1]
    have fin : ∀ x, evD P GL sn (strip s w r) (st.put d x) K → evD P GL sn (strip s w r) (st.put d x) (fun st' => K st' ∧ ∃ f, st' = putF f k (dstL (g :: r)) st) := fun x hx => by
      refine evD_mono (evD_putF r (d :: ds) _ (k + 1) hr hx) ?_
      rintro s' ⟨k1, f, rfl⟩
      exact ⟨k1, consF k x f, by rw [hdl, putF_cons]⟩
    have st1 : stepD P GL sn g.ins st (fun s' => evD P GL sn (strip s w r) s' K) → stepD P GL sn g.ins st (fun s' => evD P GL sn (strip s w r) s' (fun st' => K st' ∧ ∃ f, st' = putF f k (dstL (g :: r)) st)) := fun h1 => by
      refine stepD_mono (stepD_put hi hd h1) ?_
      grind
    have h : Dl.evD P GL sn (strip1 s w g :: strip s w r) st K := h
    grind [strip1,strip,evD_match,gdE_mono,skipI]
theorem Evl.no {E : List GI → St → (St → Prop) → Prop} (hE : Evl P GL sn E) {tail : List GI} {K : St → Prop} {b : Bool} (hb : (b == w) = false) : ∀ (l : List GI) (ds : List Nat) (st : St) (k : Nat), scOk s w ds l = true → getE st.env s = .i (.bool b) → (∀ q ∈ ds, getE st.env q = .i .undef) →
    E tail (putF (fun _ => .i .undef) k (dstL l) st) K → E (l ++ tail) st K
  | [], ds, st, k, _, _, _, h => h
  | g :: r, ds, st, k, hok, hs, hu, h => by
    obtain ⟨q, u, d, e, hq, hi, hd, hds, hr⟩ := scOk_cons hok
    have hdl : dstL (g :: r) = d :: dstL r := by simp [dstL, hd]
    rw [hdl] at h
    simp only [putF] at h
    have hnext : E (r ++ tail) (skipI g.ins st) K := by
      simp only [skipI, hd]
      refine Evl.no hE hb r (d :: ds) _ (k + 1) hr ?_ ?_ h
      all_goals grind [St.put,getE]
    obtain ⟨gd, ins⟩ := g
    simp only at e hi hd hq hnext
    subst e
    show E (⟨some (q, u), ins⟩ :: (r ++ tail)) st K
    refine hE.gd q u ins _ st K hi ?_
    grind [gdE,br_false]
theorem scSplit_eq : ∀ {l b r : List GI} {o : O} {d : Nat}, scSplit s w l = some (b, o, d, r) → l = b ++ ⟨none, .pick d (.t s) (if w then o else .c (.bool true)) (if w then .c (.bool false) else o)⟩ :: r := by
  intro l
  induction l with
  | nil => intro b r o d h; simp [scSplit] at h
  | cons g l ih =>
    intro b r o d h
    have other : ∀ g : GI, (match scSplit s w l with | some (b, o, d, r') => some (g :: b, o, d, r') | none => none) = some (b, o, d, r) → g :: l = b ++ ⟨none, .pick d (.t s) (if w then o else .c (.bool true)) (if w then .c (.bool false) else o)⟩ :: r := fun g h => by grind
    unfold scSplit at h
    grind
theorem Evl.ev : Evl P GL sn (Dl.ev P GL) where
  go := fun g r st K hi hg h => by grind [ev_cons,ev_of_stepD]
  gd := fun q u i r st K hi h => by grind [ev_cons,gdE_mono,ev_of_stepD]
theorem Evl.evD : Evl P GL sn (Dl.evD P GL sn) where
  go := fun g r st K hi hg h => by grind [evD_match]
  gd := fun q u i r st K hi h => by grind [evD_match]
theorem Evl.sc {E : List GI → St → (St → Prop) → Prop} (hE : Evl P GL sn E) (hpk : ∀ d s x y r st K, pickE (opv GL st (.t s)) d (opv GL st x) (opv GL st y) st (fun s' => E r s' K) → E (⟨none, .pick d (.t s) x y⟩ :: r) st K)
    {s : Nat} {b w v : Bool} {l blk r' : List GI} {R : O} {d : Nat} {st : St} {K : St → Prop} (hsp : scSplit s w l = some (blk, R, d, r')) (hok : scOk s w [] blk = true) (hs : getE st.env s = .i (.bool b))
    (h1 : b = w → Dl.evD P GL sn (strip s w blk) st (fun st' => opv GL st' R = .i (.bool v))) (h2 : ∀ f, E r' ((putF f 0 (dstL blk) st).put d (.i (.bool (scV w b v)))) K) : E l st K := by
  rw [scSplit_eq hsp]
  have hpick : ∀ f st', st' = putF f 0 (dstL blk) st → (∀ x, opv GL st' (if w then R else .c (.bool true)) = x → ∀ y, opv GL st' (if w then .c (.bool false) else R) = y → getE st'.env s = .i (.bool b) → (if b then x else y) = .i (.bool (scV w b v))) → s ∉ dstL blk →
      E (⟨none, .pick d (.t s) (if w then R else .c (.bool true)) (if w then .c (.bool false) else R)⟩ :: r') st' K := fun f st' e hv hns => by
    have hg : getE st'.env s = .i (.bool b) := by grind [putF_get]
    have := hv _ rfl _ rfl hg
    refine hpk _ _ _ _ _ _ _ ?_
    have hg' : opv GL st' (.t s) = .i (.bool b) := hg
    rw [hg']
    simp only [pickE]
    cases b with
    | true => rw [br_true]; simp only [if_true] at this; rw [this, e]; exact h2 f
    | false => rw [br_false]; simp only [Bool.false_eq_true, if_false] at this; rw [this, e]; exact h2 f
  have hns : s ∉ dstL blk := by
    have : ∀ (l : List GI) (ds : List Nat), scOk s w ds l = true → s ∉ dstL l := by
      intro l
      induction l with
      | nil => intro ds _ hm; simp [dstL] at hm
      | cons g l ih =>
        grind [scOk_cons,dstL]
    grind
  by_cases hb : b = w
  · subst hb
    refine hE.yes blk [] st hok hs ?_
    refine evD_mono (evD_putF blk [] st 0 hok (h1 rfl)) ?_
    rintro st' ⟨hR, f, rfl⟩
    refine hpick f _ rfl ?_ hns
    intro x hx y hy _
    cases b with
    | true => simp only [if_true] at hx ⊢; rw [← hx, hR]; rfl
    | false => simp only [Bool.false_eq_true, if_false] at hy ⊢; rw [← hy, hR]; rfl
  · have hb' : (b == w) = false := by simpa using hb
    refine hE.no hb' blk [] st 0 hok hs (fun q hq => by cases hq) (hpick _ _ rfl ?_ hns)
    intro x hx y hy _
    cases w with
    | true =>
      have : b = false := by grind
      subst this
      simp only [if_true, Bool.false_eq_true, if_false] at hy ⊢
      rw [← hy]; rfl
    | false =>
      have : b = true := by grind
      subst this
      simp only [Bool.false_eq_true, if_false, if_true] at hx ⊢
      rw [← hx]; rfl
theorem gdV_sc {s : Nat} {b w v : Bool} {i : Ins} {r blk r' : List GI} {R : O} {d : Nat} {e : Env} {so : List (Nat × Blk)} {K : St → Prop} (hsp : scSplit s w (⟨some (s, w), i⟩ :: r) = some (blk, R, d, r')) (hok : scOk s w [] blk = true) (hs : getE e s = .i (.bool b))
    (h1 : b = w → Dl.evD P GL [] (strip s w blk) ⟨e, so⟩ (fun st' => opv GL st' R = .i (.bool v))) (h2 : ∀ f, Dl.ev P GL r' ((putF f 0 (dstL blk) ⟨e, so⟩).put d (.i (.bool (scV w b v)))) K) : Dl.ev P GL (⟨some (s, w), i⟩ :: r) ⟨e, so⟩ K :=
  Evl.ev.sc (fun _ _ _ _ _ _ _ h => h) hsp hok hs h1 h2
theorem gdD_sc {s : Nat} {b w v : Bool} {i : Ins} {r blk r' : List GI} {R : O} {d : Nat} {e : Env} {so : List (Nat × Blk)} {K : St → Prop} (hsp : scSplit s w (⟨some (s, w), i⟩ :: r) = some (blk, R, d, r')) (hok : scOk s w [] blk = true) (hs : getE e s = .i (.bool b))
    (h1 : b = w → Dl.evD P GL sn (strip s w blk) ⟨e, so⟩ (fun st' => opv GL st' R = .i (.bool v))) (h2 : ∀ f, Dl.evD P GL sn r' ((putF f 0 (dstL blk) ⟨e, so⟩).put d (.i (.bool (scV w b v)))) K) : Dl.evD P GL sn (⟨some (s, w), i⟩ :: r) ⟨e, so⟩ K :=
  Evl.evD.sc (fun _ _ _ _ _ _ _ h => ⟨rfl, h⟩) hsp hok hs h1 h2
theorem gdV_sc' {s : Nat} {b w v : Bool} {i : Ins} {r blk r' : List GI} {R : O} {d : Nat} {e : Env} {so : List (Nat × Blk)} {K : St → Prop} (hsp : scSplit s w (⟨some (s, w), i⟩ :: r) = some (blk, R, d, r')) (hok : scOk s w [] blk = true)     (hs : getE e s = .i (.bool b)) (h1 : b = w → Dl.evD P GL [] (strip s w blk) ⟨e, so⟩ (fun st' => opv GL st' R = .i (.bool v))) (h2 : ∀ f, Dl.ev P GL r' ((putF f 0 (dstL blk) ⟨e, so⟩).put d (.i (.bool (scV w b v)))) K) : gdV P GL s (.i (.bool b)) w i r ⟨e, so⟩ K := by
  have := gdV_sc (P := P) (GL := GL) (so := so) hsp hok hs h1 h2
  rw [ev_cons] at this
  simp only [hs] at this
  exact this
theorem gdD_sc' {s : Nat} {b w v : Bool} {i : Ins} {r blk r' : List GI} {R : O} {d : Nat} {e : Env} {so : List (Nat × Blk)} {K : St → Prop} (hsp : scSplit s w (⟨some (s, w), i⟩ :: r) = some (blk, R, d, r')) (hok : scOk s w [] blk = true)     (hs : getE e s = .i (.bool b)) (h1 : b = w → Dl.evD P GL sn (strip s w blk) ⟨e, so⟩ (fun st' => opv GL st' R = .i (.bool v))) (h2 : ∀ f, Dl.evD P GL sn r' ((putF f 0 (dstL blk) ⟨e, so⟩).put d (.i (.bool (scV w b v)))) K) : gdD P GL s (.i (.bool b)) w sn i r ⟨e, so⟩ K := by
  have := gdD_sc (P := P) (GL := GL) (so := so) hsp hok hs h1 h2
  rw [evD_match] at this
  simp only [hs] at this
  exact this
theorem hole (x : Bool) : D.i (I.bool x) = D.i (I.bool x) := rfl
end
theorem V22' :
    (∀ b v, scV true b v = (b && v)) ∧ (∀ b v, scV false b v = (b || v)) ∧ (∀ s w, strip s w [] = []) ∧ (∀ s w q u i r, strip s w (⟨some (q, u), i⟩ :: r) = (if q = s ∧ u = w then ⟨none, i⟩ else ⟨some (q, u), i⟩) :: strip s w r) ∧ (dstL [] = []) ∧ (∀ g i r, dstL (⟨g, i⟩ :: r) = i.dst.toList ++ dstL r) ∧ (∀ d : Nat, (some d).toList = [d]) := by
  and_intros <;> intros <;> first | rfl | (rename_i g i r; cases h : i.dst <;> simp [dstL, h])
def V22 := cj @putF.eq_1 (cj @putF.eq_2 @V22')
end Go.Dl
