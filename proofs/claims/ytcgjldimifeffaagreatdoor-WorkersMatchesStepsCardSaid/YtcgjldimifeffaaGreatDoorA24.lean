/- A part of the proofs of WorkersExclude and WorkersMatchesSteps: A24. -/
import Derived.Test.YtcgjldimifeffaaGreatDoorA23
set_option linter.all false
namespace Go.Dl
open Go Go.RowKit
theorem cj {A B : Prop} (a : A) (b : B) : A ∧ B := ⟨a, b⟩
section
variable (P : Program) (GL : List (Nat × List I))
def evR (r : List GI) (K : St → Prop) (st : St) : Prop := ev P GL r st K
def evDR (sn : List Nat) (r : List GI) (K : St → Prop) (st : St) : Prop := evD P GL sn r st K
def evF (i : Ins) (r : List GI) (K : St → Prop) (l : List Nat) (st : St) : Prop := step P GL i (frzNs l st) (evR P GL r K)
def gdV (s : Nat) (v : D) (w : Bool) (i : Ins) (r : List GI) (st : St) (K : St → Prop) : Prop := gdE v w (step P GL i (frzNs (preN GL i st) st) (evR P GL r K)) (evR P GL r K (skipI i st))
def gdD (s : Nat) (v : D) (w : Bool) (sn : List Nat) (i : Ins) (r : List GI) (st : St) (K : St → Prop) : Prop := gdE v w (stepD P GL sn i st (evDR P GL sn r K)) (evDR P GL sn r K (skipI i st))
def stN (GL : List (Nat × List I)) (st : St) (v : O) : D → List Nat
  | .ref (.lel _ _ _ _) => oN GL st [v]
  | _ => []
def frzM (b : Option Blk) (nm : Nat) (st : St) : St := match b with
  | some b => if frzOk b = true then st.frz nm b else st
  | none => st
def cpR (b : Blk) (r : Ref) : Cp := match r, b with
  | .loc _ off, .cells cs => .i (.elt (cs.map unI) off)
  | .sl _ k lo hi, .rows _ k' rs => if k = k' ∧ hi ≤ rs.length then .i (.sl ((rs.take hi).drop lo)) else .any
  | .lel _ k row off, .rows _ k' rs => if k = k' ∧ row < rs.length then .i (.elt (rs.getD row []) off) else .any
  | .mp _, .map _ es => .i (.map es)
  | .mp _, .gmap _ _ es => if (es.all fun e => isI e.2.2) = true then .i (.map (es.map fun e => (e.1, unI e.2.2))) else .any
  | _, _ => .any
def appM (GL : List (Nat × List I)) (st : St) (y : O) (b : Option Blk) : List Nat := match b with
  | some (.arr _ _ _) => []
  | _ => oN GL st [y]
def appN (GL : List (Nat × List I)) (st : St) (y : O) (x : D) : List Nat := match x with
  | .ref (.sl nm _ _ _) => appM GL st y (getS st.sto nm)
  | _ => oN GL st [y]
def appAo (fr : Option Blk) (e' k' : Nat) (rs : List (Option (List I))) (nm k0 lo hi d e k b : Nat) (ys : Option (List (List I))) (st : St) (K : St → Prop) : Prop := match ys with
  | some ys => appA fr e' k' rs nm k0 lo hi d e k b ys st K
  | none => False
def callL (f : FuncId) (xs : List I) (st : St) (d : Option Nat) (K : St → Prop) : Prop := ∃ y, Is1 P GL f (xs.map .i) y ∧ K (putO st d (.i y))
def callLv (fv : D) (xs : List I) (st : St) (d : Option Nat) (K : St → Prop) : Prop := match fv with
  | .i (.fn f first caps) => callL P GL f (first ++ xs ++ caps) st d K
  | _ => False
def callLm (o : Option FuncId) (y : I) (xs : List I) (st : St) (d : Option Nat) (K : St → Prop) : Prop := match o with
  | some f => callL P GL f (y :: xs) st d K
  | none => False
def callLi (v : D) (m : String) (xs : List I) (st : St) (d : Option Nat) (K : St → Prop) : Prop := match v with
  | .i (.iface t y) => callLm P GL (methF P t m) y xs st d K
  | _ => False
def callOo (f : FuncId) (os : List O) (d : Nat) (st : St) (K : St → Prop) : Prop := callO P GL f (os.map (opv GL st)) d st K
def postK (post : List Nat) (K : Exit → St → Prop) (s : St) : Prop := K .normal (frzNs (slotN post s) s)
def dI (st : St) : Ins → List Nat
  | .call _ _ args => oN GL st args
  | .callv _ fo args => oN GL st (fo :: args)
  | .callo _ _ args => oN GL st args
  | .build _ _ ps => oN GL st (ps.map (·.2.2))
  | .bsn _ _ _ ps => oN GL st ps
  | .mupd _ q v _ => oN GL st [q, v]
  | .load _ x k true => ldN st k (opv GL st x)
  | .ofb _ x => oN GL st [x]
  | _ => []
def dN (gs : List GI) (st : St) : List Nat := gs.flatMap fun g => dI GL st g.ins
def dregE (sn : List Nat) (gs : List GI) (post : List Nat) (K : Exit → St → Prop) (st : St) : Prop := evD P GL sn gs st (postK post K)
def newR (b : Option Blk) (d e k : Nat) (st : St) (K : St → Prop) : Prop := step.nilsE' b d e k st K
def slcK1 (rows : List (List I)) (d : Nat) (st : St) (K : St → Prop) (a c : Nat) : Prop := K (st.put d (.i (.sl ((rows.take c).drop a))))
def slcK2 (nm k lo d : Nat) (st : St) (K : St → Prop) (a c : Nat) : Prop := K (st.put d (.ref (.sl nm k (lo + a) (lo + c))))
def slcK3 (s : List UInt8) (d : Nat) (st : St) (K : St → Prop) (a c : Nat) : Prop := K (st.put d (.i (.str ((s.take c).drop a))))
def rsM (st : St) (r : RV) : List Nat := (getE st.env (match r with | .tmp t => t | .cell t _ _ => t)).nms
def storeD (sn : List Nat) (x v : D) (k : Nat) (st : St) (K : St → Prop) : Prop := (match x with | .ref (.loc nm _) => nm ∈ sn | _ => False) ∧ storeE x v k st K
def isR (y : I) (r : D) (s : List (Nat × Blk)) : Prop := r = .i y ∧ s = []
def retP (R : D → List (Nat × Blk) → Prop) (x : Option D) : Prop := match x with
  | some (.i y) => R (.i y) []
  | _ => False
def rvC1 (b : Option Blk) (off k : Nat) (ag : Bool) : Option D := match b with
  | some (.cells cs) => if Nat.ble (off + k) cs.length && (!ag || allI ((cs.drop off).take k)) then some (pkD ag cs off k) else none
  | _ => none
def rvC (v : D) (k : Nat) (ag : Bool) (st : St) : Option D := match v with
  | .i (.elt cs off) => if Nat.ble (off + k) cs.length then some (.i (pk ag cs off k)) else none
  | .ref (.loc nm off) => rvC1 (getS st.sto nm) off k ag
  | _ => none
def rvT (v : D) : Option D := match v with | .any => none | x => some x
def consO (a : Option D) (b : Option (List D)) : Option (List D) := match a, b with | some x, some xs => some (x :: xs) | _, _ => none
def outO (x : Option (List D)) : Option D := match x with | some xs => outD xs | none => none
def rsN (rs : List RV) (st : St) : List Nat := deepN st.sto (rs.flatMap (rsM st))
end
section
variable {P : Program} {GL : List (Nat × List I)}
theorem gdV_intro {s : Nat} {b w : Bool} {i : Ins} {r : List GI} {st : St} {K : St → Prop} (h : b = true → gdV P GL s (.i (.bool true)) w i r st K) (k : b = false → gdV P GL s (.i (.bool false)) w i r st K) : gdV P GL s (.i (.bool b)) w i r st K := by
  cases b
  all_goals grind
theorem gdD_intro {s : Nat} {b w : Bool} {sn : List Nat} {i : Ins} {r : List GI} {st : St} {K : St → Prop} (h : b = true → gdD P GL s (.i (.bool true)) w sn i r st K) (k : b = false → gdD P GL s (.i (.bool false)) w sn i r st K) : gdD P GL s (.i (.bool b)) w sn i r st K := by
  cases b
  all_goals grind
theorem pickE_intro {b : Bool} {d : Nat} {A C : D} {st : St} {K : St → Prop} (h : b = true → pickE (.i (.bool true)) d A C st K) (k : b = false → pickE (.i (.bool false)) d A C st K) : pickE (.i (.bool b)) d A C st K := by
  cases b
  all_goals grind
theorem sbR_cp (nm : Nat) (b : Blk) (r : Ref) : sbR nm b r = if r.nm = nm then cpR b r else .ref r := by rfl
theorem allI_os {os : List O} {st : St} (hI : (os.all fun o => isI (opv GL st o)) = true) : os.map (opv GL st) = (os.map fun o => unI (opv GL st o)).map D.i := by
  rw [List.map_map]
  refine List.map_congr_left fun o ho => ?_
  rw [List.all_eq_true] at hI
  have := hI o ho
  simp only [Function.comp]
  cases hv : opv GL st o <;> simp [hv, isI] at this; rfl
theorem callG_I {f : FuncId} {os : List O} {st : St} {d : Option Nat} {K : St → Prop} (hI : (os.all fun o => isI (opv GL (frzNs (oN GL st os) st) o)) = true) (h : callL P GL f (os.map fun o => unI (opv GL (frzNs (oN GL st os) st) o)) (frzNs (oN GL st os) st) d K) : callG P GL (getC GL f os) st d K := by
  obtain ⟨y, h1, h2⟩ := h
  rw [← allI_os hI] at h1
  rw [List.all_eq_true] at hI
  refine ⟨oN GL st os, .inl ⟨[], [], _, h1, trivial, rfl, ?_, rfl, ?_⟩⟩
  · rw [List.all_eq_true]; intro v hv
    obtain ⟨o, ho, rfl⟩ := List.mem_map.1 hv
    have := hI o ho
    generalize opv GL _ o = v at this ⊢
    cases v <;> simp [isI] at this; rfl
  · rintro r s ⟨rfl, rfl⟩
    exact ⟨fun nm hm => by simp [renS] at hm, fun nm hm => by simp at hm, h2⟩
theorem callG_Iv {fo : O} {os : List O} {st : St} {d : Option Nat} {K : St → Prop} (hI : (os.all fun o => isI (opv GL (frzNs (oN GL st (fo :: os)) st) o)) = true)
    (h : callLv P GL (opv GL (frzNs (oN GL st (fo :: os)) st) fo) (os.map fun o => unI (opv GL (frzNs (oN GL st (fo :: os)) st) o)) (frzNs (oN GL st (fo :: os)) st) d K) : callG P GL (getCv GL fo os) st d K := by
  generalize hl : oN GL st (fo :: os) = l at hI h
  unfold callLv at h
  split at h
  · rename_i f first caps e
    obtain ⟨y, h1, h2⟩ := h
    rw [List.map_append, List.map_append, ← allI_os hI] at h1
    rw [List.all_eq_true] at hI
    refine ⟨l, ?_⟩
    simp only [getCv, getV, e]
    refine .inl ⟨[], [], _, h1, trivial, rfl, ?_, rfl, ?_⟩
    · rw [List.all_eq_true]; intro v hv
      simp only [List.mem_append, List.mem_map] at hv
      rcases hv with (⟨z, _, rfl⟩ | ⟨o, ho, rfl⟩) | ⟨z, _, rfl⟩
      · rfl
      · have := hI o ho
        generalize opv GL _ o = v at this ⊢
        cases v <;> simp [isI] at this; rfl
      · rfl
    · rintro r s ⟨rfl, rfl⟩
      exact ⟨fun nm hm => by simp [renS] at hm, fun nm hm => by simp at hm, h2⟩
  · exact h.elim
theorem callG_Ii {m : String} {x : O} {os : List O} {st : St} {d : Option Nat} {K : St → Prop} (hI : (os.all fun o => isI (opv GL (frzNs (oN GL st (x :: os)) st) o)) = true)
    (h : callLi P GL (opv GL (frzNs (oN GL st (x :: os)) st) x) m (os.map fun o => unI (opv GL (frzNs (oN GL st (x :: os)) st) o)) (frzNs (oN GL st (x :: os)) st) d K) : callG P GL (getIv P GL m x os) st d K := by
  generalize hl : oN GL st (x :: os) = l at hI h
  unfold callLi at h
  split at h
  · rename_i t y e
    unfold callLm at h
    split at h
    · rename_i f hf
      obtain ⟨z, h1, h2⟩ := h
      rw [List.map_cons, ← allI_os hI] at h1
      rw [List.all_eq_true] at hI
      refine ⟨l, ?_⟩
      simp only [getIv, getIm, e, hf, Option.map_some]
      refine .inl ⟨[], [], _, h1, trivial, rfl, ?_, rfl, ?_⟩
      · rw [List.all_eq_true]; intro v hv
        simp only [List.mem_cons, List.mem_map] at hv
        rcases hv with rfl | ⟨o, ho, rfl⟩
        · rfl
        · have := hI o ho
          generalize opv GL _ o = v at this ⊢
          cases v <;> simp [isI] at this; rfl
      · rintro r s ⟨rfl, rfl⟩
        exact ⟨fun nm hm => by simp [renS] at hm, fun nm hm => by simp at hm, h2⟩
    · exact h.elim
  · exact h.elim
theorem callL_of {f : FuncId} {xs : List I} {y : I} {st : St} {d : Option Nat} {K : St → Prop} (h : Is1 P GL f (xs.map .i) y) (k : K (putO st d (.i y))) : callL P GL f xs st d K := ⟨y, h, k⟩
theorem ret_I {rs : List RV} {given mv : List Nat} {R : D → List (Nat × Blk) → Prop} {st : St} (h : retP R (retD (frzNs (rsN rs st) st) rs)) : resV rs given mv R st := by
  refine ⟨rsN rs st, [], ?_⟩
  unfold retP at h
  have hs : ∀ s : List (Nat × Blk), resS [] s = [] := fun s => by induction s with | nil => rfl | cons x r ih => obtain ⟨k, b⟩ := x; simp [resS, ih]
  split at h
  · rename_i y e
    rw [e]
    refine ⟨rfl, ?_, ?_⟩
    · rw [List.map_nil, hs]; exact ⟨rfl, rfl⟩
    · rw [List.map_nil, hs]; exact h
  · exact h.elim
def roundI (F : Nat → St) (I : Nat → Prop) (n i : Nat) (K : Exit → St → Prop) : Exit → St → Prop
  | .normal, s => i < n ∧ I (i + 1) ∧ Sub (F (i + 1)) s
  | e, s => K e s
def stopK (φ : Prop) (S : St) (K : Exit → St → Prop) : Exit → St → Prop
  | .normal, s => φ ∧ Sub S s
  | e, s => K e s
def V0 := cj @St.put.eq_1 (cj @St.bind.eq_1 (cj @St.setB.eq_1 (cj @St.frz.eq_1 (cj @getE.eq_1 (cj @getE.eq_2 (cj @getE.eq_3 (cj @getL.eq_1 (cj @getL.eq_2 (cj @getS.eq_1 (cj @getS.eq_2 (cj @setS.eq_1 (cj @setS.eq_2 (cj @delS.eq_1 (cj @delS.eq_2 (cj @sbS.eq_1 (cj @sbS.eq_2 (cj @putO.eq_1 @putO.eq_2)))))))))))))))))
theorem V1' :
    (∀ n b x, sbD n b (.i x) = .i x) ∧ (∀ n b, sbD n b .any = .any) ∧ (∀ n b r, sbD n b (.ref r) = (if r.nm = n then cpR b r else .ref r).toD) ∧ (∀ n b x, sbC n b (.i x) = .i x) ∧ (∀ n b, sbC n b .any = .any) ∧ (∀ n b r, sbC n b (.ref r) = if r.nm = n then cpR b r else .ref r) ∧ (∀ n b e k rs, sbB n b (.rows e k rs) = .rows e k rs) ∧ (∀ n b ls es, sbB n b (.map ls es) = .map ls es) ∧ (∀ n b c r, sbB n b (.iter c r) = .iter c r) ∧ (∀ n b e k rs, sbB n b (.arr e k rs) = .arr e k rs) ∧ (∀ c r x, cpR (.iter c r) x = .any) := by
  and_intros <;> intros <;> first | rfl | (simp only [sbD, sbC, sbR_cp]; done) | (rename_i x; cases x <;> rfl)
def V1 := cj @sbD.eq_2 (cj @Cp.toD.eq_2 (cj @Cp.toD.eq_1 (cj @Cp.toD.eq_3 (cj @sbB.eq_1 (cj @sbB.eq_3 (cj @sbB.eq_2 (cj @sbD.eq_3 (cj @cpR.eq_5 (cj @Ref.nm.eq_1 (cj @Ref.nm.eq_2 (cj @Ref.nm.eq_3 (cj @Ref.nm.eq_4 (cj @Ref.nm.eq_5 (cj @cpR.eq_1 (cj @cpR.eq_2 (cj @cpR.eq_3 (cj @cpR.eq_4 @V1')))))))))))))))))
def V2 := cj @opv.eq_1 (cj @opv.eq_2 (cj @opv.eq_3 @opv.eq_4))
theorem V3' (r : List GI) (K : St → Prop) :
    (∀ i st, ev P GL (⟨none, i⟩ :: r) st K = evF P GL i r K (preN GL i st) st) ∧ (∀ s w i st, ev P GL (⟨some (s, w), i⟩ :: r) st K = gdV P GL s (getE st.env s) w i r st K) ∧ (∀ i st, evF P GL i r K [] st = step P GL i st (evR P GL r K)) ∧ (∀ i nm l st, evF P GL i r K (nm :: l) st = evF P GL i r K l (st.frzN nm)) ∧ (∀ s i st, gdV P GL s (.i (.bool true)) true i r st K = evF P GL i r K (preN GL i st) st) ∧ (∀ s i st, gdV P GL s (.i (.bool false)) true i r st K = evR P GL r K (skipI i st)) ∧ (∀ s i st, gdV P GL s (.i (.bool true)) false i r st K = evR P GL r K (skipI i st)) ∧ (∀ s i st, gdV P GL s (.i (.bool false)) false i r st K = evF P GL i r K (preN GL i st) st) ∧ (∀ s w i st, gdV P GL s (.i .undef) w i r st K = evR P GL r K (skipI i st)) := by
  and_intros <;> intros <;> first | rfl | (simp [gdV, gdE, br, evF]; done)
def V3 := cj @evR.eq_1 @V3'
theorem V4' (st : St) :
    (∀ d x, preN GL (.mov d x) st = []) ∧ (∀ d c a b, preN GL (.pick d c a b) st = []) ∧ (∀ d x, preN GL (.boxm d x) st = []) ∧ (∀ d zs, preN GL (.alloc d zs) st = []) ∧ (∀ d x k, preN GL (.load d x k false) st = []) ∧ (∀ x v k, preN GL (.store x v k) st = stN GL st v (opv GL st x)) ∧ (∀ d x o, preN GL (.fa d x o) st = []) ∧ (∀ d x o k ag, preN GL (.fld d x o k ag) st = []) ∧ (∀ d s i k, preN GL (.ia d s i k) st = []) ∧ (∀ d s i, preN GL (.idx d s i) st = []) ∧ (∀ d x i k len ag, preN GL (.aidx d x i k len ag) st = []) ∧ (∀ d op x y, preN GL (.bin d op x y) st = []) ∧ (∀ d op x y, preN GL (.sh d op x y) st = []) ∧ (∀ d n ls x y, preN GL (.eqs d n ls x y) st = []) ∧ (∀ d n x y, preN GL (.eqb d n x y) st = []) ∧ (∀ d q n x, preN GL (.isnil d q n x) st = []) ∧ (∀ d op x, preN GL (.un d op x) st = []) ∧ (∀ d x, preN GL (.lens d x) st = []) ∧ (∀ d x, preN GL (.lenl d x) st = []) ∧ (∀ d x i, preN GL (.ext d x i) st = []) ∧ (∀ d f a b, preN GL (.mkfn d f a b) st = []) ∧ (∀ d f a, preN GL (.call d f a) st = []) ∧ (∀ d f a, preN GL (.callv d f a) st = []) ∧ (∀ d x y, preN GL (.max d x y) st = []) ∧ (∀ d x y, preN GL (.min d x y) st = []) ∧ (∀ d k x, preN GL (.conv d k x) st = []) ∧ (∀ d e k b x y, preN GL (.app d e k b x y) st = appN GL st y (opv GL st x)) ∧ (∀ y x, appN GL st y (.i x) = oN GL st [y]) ∧ (∀ y e k rs, appM GL st y (some (.rows e k rs)) = oN GL st [y]) ∧ (∀ d x lo hi k, preN GL (.slc d x lo hi k) st = []) ∧ (∀ d x lo hi, preN GL (.sslc d x lo hi) st = []) ∧ (∀ d x q z ok ls, preN GL (.lookup d x q z ok ls) st = []) ∧ (∀ d x, preN GL (.lenm d x) st = []) ∧ (∀ d x, preN GL (.nxt d x) st = []) ∧ (∀ d x, preN GL (.ent d x) st = []) ∧ (∀ d x i k l, preN GL (.iaa d x i k l) st = []) ∧ (∀ d x, preN GL (.bytes d x) st = []) ∧ (∀ d, preN GL (.no d) st = []) ∧ (∀ v x, stN GL st v (.i x) = []) ∧ (∀ v n o, stN GL st v (.ref (.loc n o)) = []) := by
  and_intros <;> intros <;> first | rfl | (simp only [preN, stN]; split <;> first | rfl | simp_all) | (simp [deepN, List.flatMap_cons]; done)
def V4 := cj @preN.eq_13 (cj @preN.eq_9 (cj @preN.eq_5 (cj @preN.eq_12 (cj @preN.eq_2 (cj @preN.eq_3 (cj @preN.eq_4 (cj @ownE.eq_1 (cj @preN.eq_1 (cj @appN.eq_1 (cj @appM.eq_1 (cj @preN.eq_10 (cj @preN.eq_14 (cj @preN.eq_7 (cj @preN.eq_8 (cj @preN.eq_11 (cj @stN.eq_1 (cj @oN.eq_1 @V4')))))))))))))))))
theorem V5' (st : St) (K : St → Prop) :
    (∀ d e k, step P GL (.bsl d e k []) st K = newR (getS st.sto d) d e k st K) ∧ (∀ d e k p ps, step P GL (.bsl d e k (p :: ps)) st K = (((p :: ps).all fun o => isI (opv GL st o) && ((cellsI (unI (opv GL st o))).length == k) && (cellsI (unI (opv GL st o))).all I.one) = true ∧ K (st.put d (.i (.sl ((p :: ps).map fun o => cellsI (unI (opv GL st o)))))))) ∧ (∀ d e k p ps, step P GL (.bsn d e k (p :: ps)) st K = (((p :: ps).all fun o => isI (opv GL st o) && ((cellsI (unI (opv GL st o))).length == k) && (cellsI (unI (opv GL st o))).all I.one) = true ∧ K (st.put d (.i (.sl ((p :: ps).map fun o => cellsI (unI (opv GL st o)))))))) ∧ (∀ d e k p ps, step P GL (.bso d e k (p :: ps)) st K = (((p :: ps).all fun o => isI (opv GL st o) && ((cellsI (unI (opv GL st o))).length == k) && (cellsI (unI (opv GL st o))).all I.one) = true ∧ ownE (getS st.sto d) d e k ((p :: ps).map fun o => cellsI (unI (opv GL st o))) st K)) := by
  and_intros <;> intros <;> rfl
def V5 := cj @step.eq_1 (cj @step.eq_2 (cj @step.eq_3 (cj @step.eq_4 (cj @step.eq_5 (cj @step.eq_6 (cj @step.eq_7 (cj @step.eq_8 (cj @step.eq_9 (cj @step.eq_10 (cj @step.eq_11 (cj @step.eq_12 (cj @step.eq_13 (cj @step.eq_14 (cj @step.eq_15 (cj @step.eq_16 (cj @step.eq_17 (cj @step.eq_18 (cj @step.eq_19 (cj @step.eq_20 (cj @step.eq_21 (cj @step.eq_22 (cj @step.eq_23 (cj @step.eq_28 (cj @step.eq_29 (cj @step.eq_30 (cj @step.eq_31 (cj @step.eq_36 (cj @step.eq_37 (cj @step.eq_38 (cj @step.eq_39 (cj @step.eq_40 (cj @step.eq_41 (cj @step.eq_42 (cj @step.eq_43 (cj @step.eq_44 (cj @step.eq_45 (cj @step.eq_46 (cj @step.eq_47 (cj @step.eq_48 (cj @step.eq_49 (cj @step.eq_50 (cj @step.eq_51 (cj @step.eq_52 (cj @step.eq_53 @V5'))))))))))))))))))))))))))))))))))))))))))))
theorem V6' (st : St) (K : St → Prop) (d : Nat) :
    (∀ A C, pickE (.i (.bool true)) d A C st K = K (st.put d A)) ∧ (∀ A C, pickE (.i (.bool false)) d A C st K = K (st.put d C)) ∧ (∀ e k, newR none d e k st K = K ((st.bind d (.rows e k [])).put d (.ref (.sl d k 0 0)))) ∧ (∀ cs off k, loadB (some (.cells cs)) d off k true st K = (off + k ≤ cs.length ∧ allI ((cs.drop off).take k) = true ∧ K (st.put d (pkD true cs off k)))) ∧ (∀ cs off k, loadB (some (.cells cs)) d off k false st K = (off + k ≤ cs.length ∧ K (st.put d (pkD false cs off k)))) ∧ (∀ r, eqsO (some r) true d st K = K (st.put d (.i (.bool (!r))))) ∧ (∀ r, eqsO (some r) false d st K = K (st.put d (.i (.bool r)))) ∧ (∀ a b, eqbE true (.i (.bool a)) (.i (.bool b)) d st K = K (st.put d (.i (.bool (!(a == b)))))) ∧ (∀ a b, eqbE false (.i (.bool a)) (.i (.bool b)) d st K = K (st.put d (.i (.bool (a == b))))) ∧ (∀ k a q b, maxE true (.i (.int k a)) (.i (.int q b)) d st K = K (st.put d (.i (.int k (if b > a then b else a))))) ∧ (∀ k a q b, maxE false (.i (.int k a)) (.i (.int q b)) d st K = K (st.put d (.i (.int k (if b < a then b else a))))) ∧ (∀ fr σ e' k' rs nm k0 lo hi rows e k b, appS (some (.rows e' k' rs)) fr σ nm k0 lo hi (.i (.sl rows)) d e k b st K = appB (some (.rows e' k' rs)) nm k0 lo hi d e k b rows st K) ∧ (∀ fr σ e' k' rs nm k0 lo hi y e k b, appS (some (.arr e' k' rs)) fr σ nm k0 lo hi y d e k b st K = appAo fr e' k' rs nm k0 lo hi d e k b (srcK σ y) st K) ∧ (∀ rows l h k, slcE (.i (.sl rows)) l h d k st K = ((∀ r ∈ rows, r.length = k) ∧ slcO (loV l) (hiV rows.length h) rows.length (slcK1 rows d st K))) ∧ (∀ e k' rs nm k0 lo hi k l h, slcR (some (.rows e k' rs)) nm k0 lo hi d k l h st K = (k' = k ∧ k0 = k ∧ slcO (loV l) (hiV ((hi - lo : Nat) : Int) h) (rs.length - lo) (slcK2 nm k lo d st K))) ∧ (∀ s l h, sslcE (.i (.str s)) l h d st K = slcO (loV l) (hiV s.length h) s.length (slcK3 s d st K)) ∧ (∀ neg, isnilE .pt neg (.i .nilp) d st K = K (st.put d (.i (.bool (true != neg))))) ∧ (∀ neg, isnilE .fn neg (.i .nilfn) d st K = K (st.put d (.i (.bool (true != neg))))) ∧ (∀ neg, isnilE .mp neg (.i .nilmap) d st K = K (st.put d (.i (.bool (true != neg))))) ∧ (∀ neg c o, isnilE .pt neg (.i (.elt c o)) d st K = K (st.put d (.i (.bool (false != neg))))) ∧ (∀ neg f a b, isnilE .fn neg (.i (.fn f a b)) d st K = K (st.put d (.i (.bool (false != neg))))) ∧ (∀ neg f a b, isnilE .fn neg (.fn f a b) d st K = K (st.put d (.i (.bool (false != neg))))) ∧ (∀ neg es, isnilE .mp neg (.i (.map es)) d st K = K (st.put d (.i (.bool (false != neg))))) ∧ (∀ neg n o, isnilE .pt neg (.ref (.loc n o)) d st K = K (st.put d (.i (.bool (false != neg))))) ∧ (∀ neg n k r o, isnilE .pt neg (.ref (.lel n k r o)) d st K = K (st.put d (.i (.bool (false != neg))))) ∧ (∀ neg n, isnilE .mp neg (.ref (.mp n)) d st K = K (st.put d (.i (.bool (false != neg))))) := by
  and_intros <;> intros <;> first | rfl | (simp only [pickE, br]; simp; done) | (simp [loadB]; done) | (simp only [unE]; done)
def V6 := cj @nilsE.eq_1 (cj @nilsE.eq_2 (cj @boxE.eq_1 (cj @newE.eq_1 (cj @loadE.eq_1 (cj @loadE.eq_2 (cj @loadE.eq_3 (cj @loadR.eq_1 (cj @faE.eq_1 (cj @faE.eq_2 (cj @faE.eq_3 (cj @fldE.eq_1 (cj @iaE.eq_1 (cj @iaE.eq_2 (cj @iaR.eq_1 (cj @idxE.eq_1 (cj @aidxE.eq_1 (cj @binE.eq_1 (cj @shE.eq_1 (cj @eqsE.eq_1 (cj @unE.eq_1 (cj @unE.eq_2 (cj @lensE.eq_1 (cj @lenlE.eq_1 (cj @lenlE.eq_2 (cj @extE.eq_1 (cj @mkfnE.eq_1 (cj @convE.eq_1 (cj @appE.eq_1 (cj @appB.eq_1 (cj @slcE.eq_2 (cj @slcK1.eq_1 (cj @slcK2.eq_1 (cj @slcK3.eq_1 (cj @slc0E.eq_1 (cj @mkmapE.eq_1 (cj @lookE.eq_1 (cj @lookE.eq_2 (cj @lookE.eq_3 (cj @lookB.eq_1 (cj @lenmE.eq_1 (cj @lenmE.eq_2 (cj @lenmE.eq_3 (cj @lenmB.eq_1 (cj @rngE.eq_1 (cj @rngE.eq_2 (cj @nxtE.eq_1 (cj @entE.eq_1 (cj @entB.eq_1 (cj @iaaE.eq_1 (cj @iaaE.eq_2 (cj @iaaE.eq_3 (cj @bytesE.eq_1 (cj @ofbE.eq_1 (cj @ofbO.eq_1 @V6'))))))))))))))))))))))))))))))))))))))))))))))))))))))
def V20 := cj @storeE.eq_1 (cj @storeE.eq_2 (cj @storeB.eq_1 (cj @storeR.eq_1 (cj @stfrzE.eq_1 (cj @stfrzB.eq_1 (cj @mupdE.eq_1 @mupdB.eq_1))))))
theorem V7 :
    (∀ (α β : Type) (f : α → β) a l, (a :: l).map f = f a :: l.map f) ∧ (∀ (α β : Type) (f : α → β), ([] : List α).map f = []) ∧ (∀ (α : Type) (l : List α), l.drop 0 = l) ∧ (∀ (α : Type) (a : α) l n, (a :: l).drop (n + 1) = l.drop n) ∧ (∀ (α : Type) (l : List α), l.take 0 = []) ∧
    (∀ (α : Type) (a : α) l n, (a :: l).take (n + 1) = a :: l.take n) ∧ (∀ (α : Type) (a d : α) l, (a :: l).getD 0 d = a) ∧ (∀ (α : Type) (a d : α) l n, (a :: l).getD (n + 1) d = l.getD n d) ∧ (∀ (α : Type) (a : α) l, (a :: l).length = l.length + 1) ∧ (∀ (α : Type), ([] : List α).length = 0) ∧
    (∀ (α : Type) (p : α → Bool) a l, (a :: l).all p = (p a && l.all p)) ∧ (∀ (α : Type) (p : α → Bool), ([] : List α).all p = true) ∧ (∀ (α : Type) (a : α) l m, (a :: l) ++ m = a :: (l ++ m)) ∧ (∀ (α : Type) (m : List α), [] ++ m = m) ∧ (∀ (α : Type) (m : List α), m ++ [] = m) ∧
    (∀ (α β : Type) (f : α → List β), ([] : List α).flatMap f = []) ∧ (∀ (α β : Type) (f : α → List β) a l, (a :: l).flatMap f = f a ++ l.flatMap f) ∧ (∀ (α : Type) (n : Nat), ([] : List α).drop n = []) ∧ (∀ (α : Type) (n : Nat), ([] : List α).take n = []) ∧ (∀ (α β : Type) (f : α → β), Option.map f none = none) ∧ (∀ (α β : Type) (f : α → β) a, Option.map f (some a) = some (f a)) ∧
    (∀ l : List I, (l.map D.i).flatMap D.nms = []) ∧ (∀ l : List I, allI (l.map D.i) = true) ∧ (∀ x l, allI (.i x :: l) = allI l) ∧ (allI [] = true) ∧ (∀ r l, allI (.ref r :: l) = false) ∧ (∀ l, allI (.any :: l) = false) ∧ (∀ l : List I, (l.map D.i).all oneD = l.all I.one) ∧ (∀ l : List I, (l.map D.i).map unI = l) ∧ (∀ nm c (l : List I), (l.map D.i).map (sbD nm c) = l.map D.i) := by
  and_intros <;> intros <;> first | rfl | (simp; done) | (simp [allI, isI]; done) | (simp only [List.all_map]; rfl) | skip
  · rename_i l; induction l with | nil => rfl | cons a l ih => simp [D.nms]
  · rename_i l; induction l with | nil => rfl | cons a l ih => simpa [unI] using ih
  · rename_i nm c l; simp [sbD]
theorem V8' :
    (∀ b, cellsI (.bool b) = [.bool b]) ∧ (∀ k n, cellsI (.int k n) = [.int k n]) ∧ (∀ s, cellsI (.str s) = [.str s]) ∧ (∀ r, cellsI (.sl r) = [.sl r]) ∧ (∀ f a b, cellsI (.fn f a b) = [.fn f a b]) ∧ (∀ c o, cellsI (.elt c o) = [.elt c o]) ∧ cellsI .nilfn = [.nilfn] ∧ cellsI .nilp = [.nilp] ∧ cellsI .nilmap = [.nilmap] ∧ (∀ es, cellsI (.map es) = [.map es]) ∧ (∀ b, cellsD (.i (.bool b)) = [.i (.bool b)]) ∧ (∀ k n, cellsD (.i (.int k n)) = [.i (.int k n)]) ∧ (∀ s, cellsD (.i (.str s)) = [.i (.str s)]) ∧ (∀ r, cellsD (.i (.sl r)) = [.i (.sl r)]) ∧ (∀ f a b, cellsD (.i (.fn f a b)) = [.i (.fn f a b)]) ∧ (∀ c o, cellsD (.i (.elt c o)) = [.i (.elt c o)]) ∧ cellsD (.i .nilfn) = [.i .nilfn] ∧ cellsD (.i .nilp) = [.i .nilp] ∧ cellsD (.i .nilmap) = [.i .nilmap] ∧ (∀ es, cellsD (.i (.map es)) = [.i (.map es)]) ∧ (∀ r, cellsD (.ref r) = [.ref r]) ∧ (∀ f a b, cellsD (.fn f a b) = [.fn f a b]) ∧ (∀ r, isI (.ref r) = false) ∧ (isI .any = false) ∧ (∀ f a b, isI (.fn f a b) = false) ∧ (∀ r, oneD (.ref r) = true) ∧ (∀ f a b, oneD (.fn f a b) = true) ∧ (∀ b, I.one (.bool b) = true) ∧ (∀ k n, I.one (.int k n) = true) ∧ (∀ s, I.one (.str s) = true) ∧ (∀ r, I.one (.sl r) = true) ∧ (∀ f a b, I.one (.fn f a b) = true) ∧ (∀ c o, I.one (.elt c o) = true) ∧ I.one .nilfn = true ∧ I.one .nilp = true ∧ I.one .nilmap = true ∧ (∀ es, I.one (.map es) = true) ∧ (∀ c cs off k, pk true (c :: cs) off k = .agg (((c :: cs).drop off).take k)) ∧ (∀ c cs off k, pk false (c :: cs) off k = (c :: cs).getD off .undef) ∧ (∀ c cs off k, pkD true (c :: cs) off k = .i (.agg ((((c :: cs).drop off).take k).map unI))) ∧ (∀ c cs off k, pkD false (c :: cs) off k = (c :: cs).getD off .any) ∧ (∀ l off k, pkD true (l.map D.i) off k = .i (pk true l off k)) ∧ (∀ (l : List I) off k, allI (((l.map D.i).drop off).take k) = true) ∧ (∀ r, iCp (.ref r) = false) ∧ (iCp .any = false) := by
  have hu : ∀ l : List I, (l.map D.i).map unI = l := fun l => by induction l with | nil => rfl | cons a l ih => simp_all [unI]
  have ha : ∀ l : List I, allI (l.map D.i) = true := fun l => by simp [allI, isI]
  and_intros <;> intros <;> first | rfl | (simp only [pkD, pk, if_true, ← List.map_drop, ← List.map_take, hu]; done) | (rw [← List.map_drop, ← List.map_take]; exact ha _)
theorem setLe : (∀ (cs : List I) off vs, setL cs off vs = cs.take off ++ vs ++ cs.drop (off + vs.length)) ∧ (∀ (cs : List D) off vs, setL cs off vs = cs.take off ++ vs ++ cs.drop (off + vs.length)) := ⟨fun _ _ _ => rfl, fun _ _ _ => rfl⟩
def V8 := cj @cellsI.eq_1 (cj @cellsD.eq_1 (cj @unI.eq_1 (cj @isI.eq_1 (cj @oneD.eq_2 (cj @fillI.eq_1 (cj @fillI.eq_2 (cj setLe ((cj @toCp.eq_2 (cj @toCp.eq_3 (cj @toCp.eq_1 (cj @fnD.eq_1 (cj @iCp.eq_1 (cj @unC.eq_1 @V8'))))))))))))))
theorem V10' :
    (∀ x y, isR y (.i x) [] = (x = y)) ∧ (∀ st rs, retD st rs = outO (rvsD st rs)) ∧ (outD [] = some (.i (.tup []))) ∧ (∀ x y l, outD (x :: y :: l) = if allI (x :: y :: l) then some (.i (.tup ((x :: y :: l).map unI))) else none) ∧ (∀ st r rs, rvsD st (r :: rs) = consO (rvD st r) (rvsD st rs)) ∧ (∀ st t, rvD st (.tmp t) = rvT (getE st.env t)) ∧ (∀ st t k ag, rvD st (.cell t k ag) = rvC (getE st.env t) k ag st) ∧ (∀ x, rvT (.i x) = some (.i x)) ∧ (∀ r, rvT (.ref r) = some (.ref r)) ∧ (∀ f a b, rvT (.fn f a b) = some (.fn f a b)) ∧ (∀ cs off k, rvC1 (some (.cells cs)) off k true = if Nat.ble (off + k) cs.length && allI ((cs.drop off).take k) then some (pkD true cs off k) else none) ∧ (∀ cs off k, rvC1 (some (.cells cs)) off k false = if Nat.ble (off + k) cs.length then some (pkD false cs off k) else none) := by
  and_intros <;> intros <;> first | rfl | (simp [isR]; done) | (simp [rvC1]; done) | (simp only [rsN]; congr 1; congr 1; funext r; cases r <;> rfl)
def V10 := cj @retP.eq_1 (cj @outO.eq_1 (cj @outD.eq_1 (cj @rvsD.eq_1 (cj @consO.eq_1 (cj @rvC.eq_1 (cj @rvC.eq_2 (cj @rsN.eq_1 (cj @rsM.eq_1 (cj @rsM.eq_2 @V10')))))))))
theorem V11' :
    (∀ S, inS S [] = true) ∧ (∀ S m l, inS S (m :: l) = ((getS S m).isSome && inS S l)) ∧ (∀ e k rs, Blk.nms (.rows e k rs) = []) ∧ (∀ l es, Blk.nms (.map l es) = []) ∧ (∀ c r, Blk.nms (.iter c r) = []) := by
  and_intros <;> intros <;> rfl
def V11 := cj @Sub.eq_1 (cj @subE.eq_1 (cj @subE.eq_2 (cj @subS.eq_1 (cj @subS.eq_2 (cj @clE.eq_1 (cj @clE.eq_2 (cj @clS.eq_1 (cj @clS.eq_2 (cj @Blk.nms.eq_1 @V11')))))))))
theorem V12 (st : St) : (∀ i, skipI i st = putO st i.dst (.i .undef)) := fun i => by rfl
theorem V13' (sn : List Nat) (r : List GI) (K : St → Prop) :
    (∀ i st, evD P GL sn (⟨none, i⟩ :: r) st K = stepD P GL sn i st (evDR P GL sn r K)) ∧ (∀ s w i st, evD P GL sn (⟨some (s, w), i⟩ :: r) st K = gdD P GL s (getE st.env s) w sn i r st K) ∧ (∀ s i st, gdD P GL s (.i (.bool true)) true sn i r st K = stepD P GL sn i st (evDR P GL sn r K)) ∧ (∀ s i st, gdD P GL s (.i (.bool false)) true sn i r st K = evDR P GL sn r K (skipI i st)) ∧ (∀ s i st, gdD P GL s (.i (.bool true)) false sn i r st K = evDR P GL sn r K (skipI i st)) ∧ (∀ s i st, gdD P GL s (.i (.bool false)) false sn i r st K = stepD P GL sn i st (evDR P GL sn r K)) ∧ (∀ s w i st, gdD P GL s (.i .undef) w sn i r st K = evDR P GL sn r K (skipI i st)) := by
  and_intros <;> intros <;> first | rfl | (simp [gdD, gdE, br]; done) | (simp [notIn, D.nms]; done) | (simp; done)
def V13 := cj @evDR.eq_1 @V13'
theorem V14 (sn : List Nat) (st : St) (K : St → Prop) :
    (∀ d x, stepD P GL sn (.mov d x) st K = K (st.put d (opv GL st x))) ∧ (∀ d c a b, stepD P GL sn (.pick d c a b) st K = pickE (opv GL st c) d (opv GL st a) (opv GL st b) st K) ∧ (∀ d zs, stepD P GL sn (.alloc d zs) st K = newE (getS st.sto d) d (zs.map .i) st K) ∧
    (∀ d x k ag, stepD P GL sn (.load d x k ag) st K = (notIn sn (opv GL st x) ∧ loadE (opv GL st x) d k ag st K)) ∧ (∀ x v k, stepD P GL sn (.store x v k) st K = storeD sn (opv GL st x) (opv GL st v) k st K) ∧
    (∀ d x o, stepD P GL sn (.fa d x o) st K = faE (opv GL st x) d o st K) ∧ (∀ d x o k ag, stepD P GL sn (.fld d x o k ag) st K = fldE (opv GL st x) d o k ag st K) ∧ (∀ d s i k, stepD P GL sn (.ia d s i k) st K = ((notIn sn (opv GL st s) ∧ notIn sn (opv GL st i)) ∧ iaE (opv GL st s) (opv GL st i) d k st K)) ∧
    (∀ d s i, stepD P GL sn (.idx d s i) st K = idxE (opv GL st s) (opv GL st i) d st K) ∧ (∀ d x i k len ag, stepD P GL sn (.aidx d x i k len ag) st K = aidxE (opv GL st x) (opv GL st i) d k len ag st K) ∧ (∀ d op x y, stepD P GL sn (.bin d op x y) st K = binE op (opv GL st x) (opv GL st y) d st K) ∧
    (∀ d op x y, stepD P GL sn (.sh d op x y) st K = shE op (opv GL st x) (opv GL st y) d st K) ∧ (∀ d n ls x y, stepD P GL sn (.eqs d n ls x y) st K = eqsE n ls (opv GL st x) (opv GL st y) d st K) ∧ (∀ d n x y, stepD P GL sn (.eqb d n x y) st K = eqbE n (opv GL st x) (opv GL st y) d st K) ∧
    (∀ d op x, stepD P GL sn (.un d op x) st K = unE op (opv GL st x) d st K) ∧ (∀ d x, stepD P GL sn (.lens d x) st K = lensE (opv GL st x) d st K) ∧ (∀ d x, stepD P GL sn (.lenl d x) st K = lenlE (opv GL st x) d st K) ∧ (∀ d x i, stepD P GL sn (.ext d x i) st K = extE (opv GL st x) i d st K) ∧
    (∀ d e k p ps, stepD P GL sn (.bsn d e k (p :: ps)) st K = (((p :: ps).all fun o => isI (opv GL st o) && ((cellsI (unI (opv GL st o))).length == k) && (cellsI (unI (opv GL st o))).all I.one) = true ∧ K (st.put d (.i (.sl ((p :: ps).map fun o => cellsI (unI (opv GL st o)))))))) ∧
    (∀ d zs ps, stepD P GL sn (.build d zs ps) st K = ((ps.all fun p => isI (opv GL st p.2.2) && ((cellsI (unI (opv GL st p.2.2))).length == p.2.1)) = true ∧ K (st.put d (.i (.agg (fillI zs (ps.map fun p => (p.1, cellsI (unI (opv GL st p.2.2)))))))))) ∧
    (∀ d f a b, stepD P GL sn (.mkfn d f a b) st K = mkfnE f (a.mapM fun o => toCp (opv GL st o)) (b.mapM fun o => toCp (opv GL st o)) d st K) ∧ (∀ d f args, stepD P GL sn (.call d f args) st K = ((args.all fun o => isI (opv GL st o)) = true ∧ callL P GL f (args.map fun o => unI (opv GL st o)) st d K)) ∧ (∀ d f args, stepD P GL sn (.callv d f args) st K = ((args.all fun o => isI (opv GL st o)) = true ∧ callLv P GL (opv GL st f) (args.map fun o => unI (opv GL st o)) st d K)) ∧
    (∀ d x y, stepD P GL sn (.max d x y) st K = maxE true (opv GL st x) (opv GL st y) d st K) ∧ (∀ d x y, stepD P GL sn (.min d x y) st K = maxE false (opv GL st x) (opv GL st y) d st K) ∧ (∀ d k x, stepD P GL sn (.conv d k x) st K = convE k (opv GL st x) d st K) ∧
    (∀ d x lo hi, stepD P GL sn (.sslc d x lo hi) st K = sslcE (opv GL st x) (lo.map (opv GL st)) (hi.map (opv GL st)) d st K) ∧ (∀ d x q z ok ls, stepD P GL sn (.lookup d x q z ok ls) st K = lookE (opv GL st x) (opv GL st q) z ok ls d st K) ∧
    (∀ x q v ls, stepD P GL sn (.mupd x q v ls) st K = mupdE (opv GL st x) (opv GL st q) (opv GL st v) ls st K) ∧ (∀ d x, stepD P GL sn (.lenm d x) st K = lenmE (opv GL st x) d st K) ∧ (∀ d x i k l, stepD P GL sn (.iaa d x i k l) st K = iaaE (opv GL st x) (opv GL st i) d k l st K) ∧ (∀ d x, stepD P GL sn (.bytes d x) st K = bytesE (opv GL st x) d st K) ∧ (∀ d x, stepD P GL sn (.ofb d x) st K = ofbE (opv GL st x) d st K) := by
  have hc : ∀ d f args, stepD P GL sn (.call d f args) st K = ((args.all fun o => isI (opv GL st o)) = true ∧ callL P GL f (args.map fun o => unI (opv GL st o)) st d K) := fun d f args => by
    simp only [stepD]
    refine propext ⟨fun ⟨h, y, h1, h2⟩ => ⟨h, y, by rw [← allI_os h]; exact h1, h2⟩, fun ⟨h, y, h1, h2⟩ => ⟨h, y, by rw [allI_os h]; exact h1, h2⟩⟩
  have hv : ∀ d f args, stepD P GL sn (.callv d f args) st K = ((args.all fun o => isI (opv GL st o)) = true ∧ callLv P GL (opv GL st f) (args.map fun o => unI (opv GL st o)) st d K) := fun d f args => by
    simp only [stepD, callLv]
    refine propext ⟨fun ⟨h0, h, hh⟩ => ⟨h, ?_⟩, fun ⟨h, hh⟩ => ?_⟩
    · cases hf : opv GL st f with
      | i x =>
        rw [hf] at hh
        cases x <;> simp only [getV] at hh
        case fn g a b =>
          obtain ⟨y, h1, h2⟩ := hh
          exact ⟨y, by rw [List.map_append, List.map_append, ← allI_os h]; exact h1, h2⟩
      | _ => rw [hf] at h0; simp [isI] at h0
    · cases hf : opv GL st f with
      | i x =>
        rw [hf] at hh
        cases x <;> simp only [] at hh
        case fn g a b =>
          obtain ⟨y, h1, h2⟩ := hh
          refine ⟨rfl, h, ?_⟩
          simp only [getV]
          exact ⟨y, by rw [List.map_append, List.map_append, ← allI_os h] at h1; exact h1, h2⟩
      | _ => rw [hf] at hh; exact hh.elim
  and_intros <;> intros <;> first | exact hc _ _ _ | exact hv _ _ _ | rfl | (simp only [stepD, pureDst, Option.isSome, true_and, step]; done) | (simp []; done) | (simp only [stepD, pureDst, Option.isSome, true_and, step]; rfl)
theorem V15' :
    (∀ e s nm, St.frzN ⟨e, s⟩ nm = frzM (getS s nm) nm ⟨e, s⟩) ∧ (∀ e k rs, frzOk (.rows e k rs) = true) ∧ (∀ ls es, frzOk (.map ls es) = true) ∧ (∀ c rs, frzOk (.iter c rs) = true) ∧ (∀ s, deepN s [] = []) ∧ (∀ s nm l, deepN s (nm :: l) = inM (getS s nm) ++ nm :: deepN s l) ∧ (∀ st k x, ldN st k (.i x) = []) ∧ (∀ st k, ldN st k .any = []) ∧ (∀ st k nm kk row off, ldN st k (.ref (.lel nm kk row off)) = []) ∧ (inM none = []) ∧ (∀ e k rs, inM (some (.rows e k rs)) = []) ∧ (∀ ls es, inM (some (.map ls es)) = []) ∧ (∀ c r, inM (some (.iter c r)) = []) ∧ (∀ x, D.nms (.i x) = []) ∧ (D.nms .any = []) ∧ (∀ x, Cp.nms (.i x) = []) ∧ (Cp.nms .any = []) ∧ (∀ s, slotN [] s = []) ∧ (∀ t l s, slotN (t :: l) s = (getE s.env t).nms ++ slotN l s) ∧ (∀ s x, notIn s (.i x) = True) ∧ (∀ s, notIn s .any = True) ∧ (∀ s r, notIn s (.ref r) = (s.contains r.nm = false)) ∧ (∀ (n : Nat), ([] : List Nat).contains n = false) ∧ (∀ (n m : Nat) l, (m :: l).contains n = (n == m || l.contains n)) ∧ (∀ sn st K nm o v k, storeD sn (.ref (.loc nm o)) v k st K = (sn.contains nm = true ∧ storeE (.ref (.loc nm o)) v k st K)) ∧ (∀ a b, Nat.ble a b = decide (a ≤ b)) ∧ (∀ a b, Nat.blt a b = decide (a < b)) := by
  and_intros <;> intros <;> first | rfl | (simp [deepN, List.flatMap_cons]; done) | (simp [notIn, D.nms]; done) | (simp [storeD]; done) | (rw [Bool.eq_iff_iff]; simp) | (simp; done)
def V15 := cj @frzM.eq_1 (cj @frzM.eq_2 (cj @frzNs.eq_1 (cj @frzNs.eq_2 (cj @frzOk.eq_1 (cj @ldN.eq_1 (cj @inMk.eq_1 (cj @inM.eq_1 (cj @D.nms.eq_1 (cj @D.nms.eq_2 (cj @Cp.nms.eq_1 (cj @slcO.eq_1 (cj @loV.eq_1 (cj @loV.eq_2 (cj @hiV.eq_1 (cj @hiV.eq_2 (cj @postK.eq_1 @V15'))))))))))))))))
theorem V16' (K : Exit → St → Prop) (st : St) :
    (∀ id, blockK id K .normal st = K .normal st) ∧ (∀ id, blockK id K .ret st = K .ret st) ∧ (∀ F I n i id, roundI F I n i K (.exit id) st = K (.exit id) st) ∧ (∀ F I n i, roundI F I n i K .ret st = K .ret st) ∧ (∀ φ S id, stopK φ S K (.exit id) st = K (.exit id) st) ∧ (∀ φ S, stopK φ S K .ret st = K .ret st) := by
  and_intros <;> intros <;> rfl
def V16 := cj @blockK.eq_1 (cj @roundI.eq_1 (cj @stopK.eq_1 @V16'))
def V17 := cj @bodyK.eq_1 @bodyK.eq_2
def V21 := @callLv.eq_1
def V18 := cj @dregE.eq_1 (cj @ev.eq_1 @evD.eq_1)
theorem V19 (st : St) : (dN GL [] st = []) ∧ (∀ g i r, dN GL (⟨g, i⟩ :: r) st = dI GL st i ++ dN GL r st) := ⟨rfl, fun _ _ _ => rfl⟩
theorem MC_of_val {f : FuncId} {args : List I} {y : I}
    (h : ∀ (M : Mem) (w : World) (vs : Array Value), RepL M args vs.toList → ∃ v, Rep M y v ∧ (callFunc f vs).run P w = .ok (.value v) w) (hfy : Nat.blt f 1000000000 = true := by first | rfl | assumption) : MC P GL f (args.map D.i) [] [] (isR y) := by
  intro M μ w vs h1 h2 h3
  have hr : RepL M args vs.toList := ⟨by simpa using h3.1, fun j a b => by have := h3.2 j (by simpa using a) b; rw [List.getElem_map] at this; exact this⟩
  obtain ⟨v, hv, hc⟩ := h M w vs hr
  exact .inr (.inr (.inl ⟨hfy, v, w, hc, .i y, [], M, μ, ⟨rfl, rfl⟩, h1, repD_i hv, MExt.refl _ _, Keeps.refl _ _, fun _ _ _ => rfl⟩))
theorem MC_of_same {f : FuncId} {args : List I} {y : I} (hen : enters P f = true)
    (h : ∀ (M : Mem) (w : World) (vs : Array Value), M.Sub w → GlobOk GL M → RepL M args vs.toList → ∃ v, Rep M y v ∧ Calls P f vs w fun e w' => e = .returned v ∧ w' = w) : MC P GL f (args.map D.i) [] [] (isR y) := by
  intro M μ w vs h1 h2 h3
  have hr : RepL M args vs.toList := ⟨by simpa using h3.1, fun j a b => by have := h3.2 j (by simpa using a) b; rw [List.getElem_map] at this; exact this⟩
  obtain ⟨v, hv, hc⟩ := h M w vs h1.sub h2 hr
  refine .inl ⟨hen, hc.mono ?_⟩
  rintro e w' ⟨rfl, rfl⟩
  exact ⟨v, rfl, .i y, [], M, μ, ⟨rfl, rfl⟩, h1, repD_i hv, MExt.refl _ _, Keeps.refl _ _, fun _ _ _ => rfl⟩
def nmO (GL : List (Nat × List I)) (st : St) : List O → List Nat
  | [] => []
  | o :: r => (opv GL st o).nms ++ nmO GL st r
theorem nmO_eq (st : St) (os : List O) : (os.flatMap fun o => (opv GL st o).nms) = nmO GL st os := by
  induction os with
  | nil => rfl
  | cons o r ih => simp only [List.flatMap_cons, nmO, ih]
@[go_sem] theorem V47 (sn : List Nat) (st : St) (K : St → Prop) : (∀ d e k b x y, stepD P GL sn (.app d e k b x y) st K = (dataV ((opv GL st x).nms ++ (opv GL st y).nms) st (usOf sn) ∧ step P GL (.app d e k b x y) st K)) ∧ (∀ d e k, stepD P GL sn (.bsl d e k []) st K = (dataV [] st (usOf sn) ∧ step P GL (.bsl d e k []) st K)) ∧ (∀ d e k p ps, stepD P GL sn (.bsl d e k (p :: ps)) st K = (dataV (nmO GL st (p :: ps)) st (usOf sn) ∧ step P GL (.bsl d e k (p :: ps)) st K)) ∧ (∀ d e k p ps, stepD P GL sn (.bso d e k (p :: ps)) st K = (dataV (nmO GL st (p :: ps)) st (usOf sn) ∧ step P GL (.bso d e k (p :: ps)) st K)) ∧
    (∀ d x q z ls e k, stepD P GL sn (.ment d x q z ls e k) st K = (dataV ((opv GL st x).nms ++ (opv GL st q).nms) st (usOf sn) ∧ step P GL (.ment d x q z ls e k) st K)) ∧
    (∀ d x k, stepD P GL sn (.slc d x none none k) st K = (notIn sn (opv GL st x) ∧ step P GL (.slc d x none none k) st K)) ∧ (∀ d x l k, stepD P GL sn (.slc d x (some l) none k) st K = ((notIn sn (opv GL st x) ∧ notIn sn (opv GL st l)) ∧ step P GL (.slc d x (some l) none k) st K)) ∧
    (∀ d x h k, stepD P GL sn (.slc d x none (some h) k) st K = ((notIn sn (opv GL st x) ∧ notIn sn (opv GL st h)) ∧ step P GL (.slc d x none (some h) k) st K)) ∧ (∀ d x l h k, stepD P GL sn (.slc d x (some l) (some h) k) st K = ((notIn sn (opv GL st x) ∧ notIn sn (opv GL st l) ∧ notIn sn (opv GL st h)) ∧ step P GL (.slc d x (some l) (some h) k) st K)) := by
  refine ⟨fun d e k b x y => ?_, fun _ _ _ => rfl, fun d e k p ps => ?_, fun d e k p ps => ?_, fun d x q z ls e k => ?_, fun d x k => ?_, fun d x l k => ?_, fun d x h k => ?_, fun d x l h k => ?_⟩
  · simp [stepD, stepC, nmC, opsC, List.flatMap_cons]
  · have e : nmC GL (.bsl d e k (p :: ps)) st = nmO GL st (p :: ps) := nmO_eq _ _
    simp only [stepD, stepC, e]
  · have e : nmC GL (.bso d e k (p :: ps)) st = nmO GL st (p :: ps) := nmO_eq _ _
    simp only [stepD, stepC, e]
  · simp [stepD, stepC, nmC, opsC, List.flatMap_cons]
  all_goals simp [stepD, opsOf]
theorem V51' (sn : List Nat) (st : St) (K : St → Prop) :
    (∀ d f args, step P GL (.callo d f args) st K = callOo P GL f args d st K) ∧ (∀ d f args, preN GL (.callo d f args) st = []) ∧ (∀ d f args, stepD P GL sn (.callo d f args) st K = (dataV (nmO GL st args) st (usOf sn) ∧ callOo P GL f args d st K)) := by
  refine ⟨fun _ _ _ => rfl, fun _ _ _ => rfl, fun d f args => ?_⟩
  have e : nmC GL (.callo d f args) st = nmO GL st args := nmO_eq _ _
  simp only [stepD, stepC, e]; rfl
@[go_sem] def V51 := cj @nmO.eq_1 (cj @nmO.eq_2 @V51')
@[go_sem] theorem V53 (st : St) (K : St → Prop) : (∀ d t x, step P GL (.mkif d t x) st K = mkifE (opv GL st x) d t st K) ∧
    (∀ d m x os, step P GL (.inv d m x os) st K = callG P GL (getIv P GL m x os) st d K) ∧ (∀ t y m xs d, callLi P GL (.i (.iface t y)) m xs st d K = callLm P GL (methF P t m) y xs st d K) ∧ (∀ f y xs d, callLm P GL (some f) y xs st d K = callL P GL f (y :: xs) st d K) :=
  ⟨fun _ _ _ => rfl, fun _ _ _ _ => rfl, fun _ _ _ _ _ => rfl, fun _ _ _ _ => rfl⟩
theorem V57a (st : St) (K : St → Prop) (y : I) (d t : Nat) : mkifE (.i y) d t st K = K (st.put d (.i (.iface t y))) := rfl
@[go_sem] def V57 := cj @V57a @V57a
@[go_sem] theorem V54 (st : St) : (∀ d t x, preN GL (.mkif d t x) st = []) ∧ (∀ d m x os, preN GL (.inv d m x os) st = []) := ⟨fun _ _ _ => rfl, fun _ _ _ _ => rfl⟩
@[go_sem] theorem V55 (sn : List Nat) (st : St) (K : St → Prop) (d t : Nat) (x : O) : stepD P GL sn (.mkif d t x) st K = mkifE (opv GL st x) d t st K := by simp [stepD, pureDst, step]
@[go_sem] theorem V52 (sn : List Nat) (st : St) (K : St → Prop) : (∀ d f args, stepD P GL sn (.callf d f args) st K = (dataV (oN GL st args) st (usOf sn) ∧ callF P GL (getC GL f args) args d st K)) ∧ (∀ d f args, stepD P GL sn (.callvf d f args) st K = (dataV (oN GL st (f :: args)) st (usOf sn) ∧ callF P GL (getCv GL f args) (f :: args) d st K)) :=
  ⟨fun _ _ _ => rfl, fun _ _ _ => rfl⟩
theorem callF_I {f : FuncId} {os : List O} {st : St} {d : Option Nat} {K : St → Prop} (hI : (os.all fun o => isI (opv GL (frzNs (oN GL st os) st) o)) = true) (h : callL P GL f (os.map fun o => unI (opv GL (frzNs (oN GL st os) st) o)) (frzNs (oN GL st os) st) d K) : callF P GL (getC GL f os) os d st K := by
  obtain ⟨y, h1, h2⟩ := h
  rw [← allI_os hI] at h1
  exact ⟨hI, y, h1, h2⟩
theorem callF_Iv {fo : O} {os : List O} {st : St} {d : Option Nat} {K : St → Prop} (hI : ((fo :: os).all fun o => isI (opv GL (frzNs (oN GL st (fo :: os)) st) o)) = true)
    (h : callLv P GL (opv GL (frzNs (oN GL st (fo :: os)) st) fo) (os.map fun o => unI (opv GL (frzNs (oN GL st (fo :: os)) st) o)) (frzNs (oN GL st (fo :: os)) st) d K) : callF P GL (getCv GL fo os) (fo :: os) d st K := by
  unfold callF
  generalize frzNs (oN GL st (fo :: os)) st = s1 at hI h
  unfold callLv at h
  split at h
  · rename_i f first caps e
    obtain ⟨y, h1, h2⟩ := h
    have hI2 : (os.all fun o => isI (opv GL s1 o)) = true := by grind
    rw [List.map_append, List.map_append, ← allI_os hI2] at h1
    simp only [callF2, getCv, getV, e]
    exact ⟨hI, y, h1, h2⟩
  · exact h.elim
@[congr] theorem callF_cg {P : Program} {GL : List (Nat × List I)} {get : St → Option (FuncId × List D)} {os : List O} {d : Option Nat} {st : St} {K : St → Prop} : @callF P GL get os d st K = @callF P GL get os d st K := rfl
theorem callO_M {f : FuncId} {os : List O} {st : St} {d : Nat} {K : St → Prop} {ds : List D} {R : D → List (Nat × Blk) → Prop} (h : MC P GL f ds [] [] R) (hds : os.map (opv GL st) = ds) (hI : (ds.all isI) = true)
    (k : ∀ r sto', R r sto' → ((renS d sto').map (·.1)).all (fun nm => (getS st.sto nm).isNone && Nat.blt nm 5000) = true ∧ K ((⟨st.env, renS d sto' ++ st.sto⟩ : St).put d (renD d r))) : callOo P GL f os d st K := by
  subst hds
  refine ⟨hI, R, h, fun r s hr => ?_⟩
  obtain ⟨k1, k2⟩ := k r s hr
  rw [List.all_eq_true] at k1
  refine ⟨fun nm hm => ?_, k2⟩
  have := k1 nm hm
  rw [Bool.and_eq_true] at this
  exact ⟨by simpa using this.1, by simpa using this.2⟩
@[congr] theorem callOo_cg {P : Program} {GL : List (Nat × List I)} {f : FuncId} {os : List O} {d : Nat} {st : St} {K : St → Prop} : @callOo P GL f os d st K = @callOo P GL f os d st K := rfl
@[go_sem] def V48 := cj @dataV.eq_1 (cj @dataV.eq_2 (cj @okMs.eq_1 @okMs.eq_2))
@[go_sem] def V50 := cj @blkNo.eq_1 @blkNo.eq_2
@[go_sem] theorem V49 : (usOf [] = []) ∧ (∀ q r, usOf (q :: r) = if 1000000 ≤ q then (q - 1000000) :: usOf r else usOf r) := ⟨rfl, fun q r => by
  simp only [usOf, List.filter_cons, decide_eq_true_eq]
  show _ = if encB ≤ q then (q - encB) :: _ else _
  split <;> simp⟩
end
@[go_sem] def V59 := @mkmapE.eq_2
@[go_sem] def V45 := @ovN.eq_1
@[go_sem] def V46 := @ovN.eq_2
end Go.Dl
