/- A part of the proofs of WorkersExclude and WorkersMatchesSteps: A11. -/
import Derived.Test.YtcgjldimifeffaaGreatDoorA10
set_option linter.unusedVariables false
namespace Go.Dl
open Go Go.RowKit
section
variable {P : Program} {GL : List (Nat × List I)} {n : Nat} {S : Sh} {M : Mem} {μ : Place} {st : St} {a : Act} {w : World} {K : St → Prop} {Q : Exit → Act → World → Prop} {o : Oper} {d : Nat}
theorem foldl_set (us : List Value) : ∀ (off j : Nat) (cs : Array Value), ((us.zipIdx j).foldl (fun cs x => cs.setIfInBounds (off + x.2) x.1) cs).size = cs.size ∧
    ∀ p, ((us.zipIdx j).foldl (fun cs x => cs.setIfInBounds (off + x.2) x.1) cs)[p]? = if off + j ≤ p ∧ p < off + j + us.length ∧ p < cs.size then us[p - off - j]? else cs[p]? := by
  induction us with
  | nil => intro off j cs; refine ⟨rfl, fun p => ?_⟩; rw [if_neg (by simp; omega)]; rfl
  | cons u us ih =>
    intro off j cs
    simp only [List.zipIdx_cons, List.foldl_cons]
    obtain ⟨h1, h2⟩ := ih off (j + 1) (cs.setIfInBounds (off + j) u)
    refine ⟨by rw [h1]; simp, fun p => ?_⟩
    rw [h2 p]
    simp only [Array.size_setIfInBounds, List.length_cons, Array.getElem?_setIfInBounds]
    by_cases hp : p = off + j
    · subst hp
      rw [if_neg (fun hh => by omega)]
      by_cases hs : off + j < cs.size
      · rw [if_pos rfl, if_pos hs, if_pos ⟨Nat.le_refl _, by omega, hs⟩]
        simp
      · rw [if_pos rfl, if_neg hs, if_neg (fun hh => hs hh.2.2)]
        simp; omega
    · by_cases hc : off + (j + 1) ≤ p ∧ p < off + (j + 1) + us.length ∧ p < cs.size
      · rw [if_pos hc, if_pos ⟨by omega, by omega, hc.2.2⟩]
        rw [show p - off - j = (p - off - (j + 1)) + 1 by omega]
        simp
      · rw [if_neg hc, if_neg (fun h => hp h.symm), if_neg (fun hh => hc ⟨by omega, by omega, hh.2.2⟩)]
theorem foldl_setL (us cs : Array Value) (off : Nat) (h : off + us.size ≤ cs.size) : (us.zipIdx.foldl (fun cs (c, j) => cs.setIfInBounds (off + j) c) cs) = (setL cs.toList off us.toList).toArray := by
  have := foldl_set us.toList off 0 cs
  have e : us.zipIdx.foldl (fun cs (c, j) => cs.setIfInBounds (off + j) c) cs = (us.toList.zipIdx 0).foldl (fun cs x => cs.setIfInBounds (off + x.2) x.1) cs := by rw [← Array.foldl_toList, Array.toList_zipIdx]
  rw [e]
  apply Array.ext_getElem?
  grind [getElem_setL]
theorem RepL.setL {zs cs : List I} {vs us : List Value} {off : Nat} (h : RepL M zs vs) (k : RepL M cs us) (hfit : off + cs.length ≤ zs.length) : RepL M (setL zs off cs) (Dl.setL vs off us) := by
  have e1 := h.1
  have e2 := k.1
  refine ⟨by rw [length_setL _ _ _ (by omega), length_setL _ _ _ (by omega)]; exact e1, fun j a b => ?_⟩
  have g1 : (Dl.setL zs off cs)[j]? = some ((Dl.setL zs off cs)[j]) := List.getElem?_eq_getElem a
  have g2 : (Dl.setL vs off us)[j]? = some ((Dl.setL vs off us)[j]) := List.getElem?_eq_getElem b
  rw [getElem_setL _ _ _ (by omega)] at g1 g2
  rw [length_setL _ _ _ (by omega)] at a b
  by_cases hc : off ≤ j ∧ j < off + cs.length
  · rw [if_pos hc, List.getElem?_eq_getElem (by omega)] at g1
    rw [if_pos (by omega), List.getElem?_eq_getElem (by omega)] at g2
    rw [← Option.some.inj g1, ← Option.some.inj g2]
    exact k.2 _ (by omega) (by omega)
  · rw [if_neg hc, List.getElem?_eq_getElem a] at g1
    rw [if_neg (by omega), List.getElem?_eq_getElem b] at g2
    rw [← Option.some.inj g1, ← Option.some.inj g2]
    exact h.2 _ a b
def fitsPart (place : Nat → Option (Nat × Nat)) (len : Nat) (i : Nat) (off size : Nat) : Prop := place i = some (off, size) ∧ off + size ≤ len
theorem fill_rep {place : Nat → Option (Nat × Nat)} : ∀ (parts : List (Nat × Nat × Nat × I × Value)) (zs : List I) (cells : Array Value), RepL M zs cells.toList →
    (∀ p ∈ parts, place p.1 = some (p.2.1, p.2.2.1) ∧ p.2.1 + p.2.2.1 ≤ zs.length ∧ (cellsI p.2.2.2.1).length = p.2.2.1 ∧ Rep M p.2.2.2.1 p.2.2.2.2) →
    ∃ cells', Instr.fill place cells (parts.map fun p => (p.1, p.2.2.2.2)) = some cells' ∧ RepL M (fillI zs (parts.map fun p => (p.2.1, cellsI p.2.2.2.1))) cells'.toList
  | [], zs, cells, h, _ => ⟨cells, rfl, h⟩
  | (i, off, size, x, v) :: r, zs, cells, h, hp => by
    obtain ⟨h1, h2, h3, h4⟩ := hp (i, off, size, x, v) (by simp)
    simp only at h1 h2 h3 h4
    have hc := h4.cellsI
    have hsz : v.cells.size = size := by have := hc.1; simp at this; omega
    have hcs : cells.size = zs.length := by have := h.1; simpa using this
    have hstep : RepL M (setL zs off (cellsI x)) (setL cells.toList off v.cells.toList).toArray.toList := by simpa using h.setL hc (by omega)
    obtain ⟨cells', e1, e2⟩ := fill_rep r (setL zs off (cellsI x)) _ hstep (fun p hpp => by
      obtain ⟨a1, a2, a3, a4⟩ := hp p (by simp [hpp])
      exact ⟨a1, by rw [length_setL _ _ _ (by omega)]; exact a2, a3, a4⟩)
    refine ⟨cells', ?_, e2⟩
    simp only [List.map_cons, Instr.fill, h1]
    rw [if_neg (by simp; omega)]
    rw [foldl_setL _ _ _ (by omega)]
    exact e1
theorem length_fillI : ∀ (parts : List (Nat × List I)) (zs : List I), (∀ p ∈ parts, p.1 + p.2.length ≤ zs.length) → (fillI zs parts).length = zs.length
  | [], _, _ => rfl
  | (off, cs) :: r, zs, h => by
    have h0 := h (off, cs) (by simp)
    simp only [fillI]
    rw [length_fillI r _ (fun p hp => by rw [length_setL _ _ _ h0]; exact h p (by simp [hp])), length_setL _ _ _ h0]
theorem parts_rep (h : Rel GL n S M μ st a w) : ∀ (parts : List (Nat × Operand)) (qs : List (Nat × Nat × O)) (place : Nat → Option (Nat × Nat)) (len : Nat),
    parts.mapM (fun p => match place p.1, cO GL p.2 with | some (off, size), some oo => if off + size ≤ len then some (off, size, oo) else none | _, _ => none) = some qs →
    (qs.all fun p => isI (opv GL st p.2.2) && ((cellsI (unI (opv GL st p.2.2))).length == p.2.1)) = true →
    ∃ ps : List (Nat × Nat × Nat × I × Value), ps.map (fun p => (p.1, p.2.2.2.2)) = parts.map (fun p => (p.1, a.eval p.2)) ∧ ps.map (fun p => (p.2.1, cellsI p.2.2.2.1)) = qs.map (fun p => (p.1, cellsI (unI (opv GL st p.2.2)))) ∧
      ∀ p ∈ ps, place p.1 = some (p.2.1, p.2.2.1) ∧ p.2.1 + p.2.2.1 ≤ len ∧ (cellsI p.2.2.2.1).length = p.2.2.1 ∧ Rep M p.2.2.2.1 p.2.2.2.2
  | [], qs, place, len, hq, _ => by simp_all
  | (i, x) :: r, qs, place, len, hq, hi => by
    rw [List.mapM_cons] at hq
    simp only at hq
    cases hp : place i with
    | none => simp [hp] at hq
    | some os =>
      obtain ⟨off, size⟩ := os
      cases hx : cO GL x with
      | none => simp [hp, hx] at hq
      | some oo =>
        by_cases hf : off + size ≤ len
        · simp only [hp, hx, if_pos hf, Option.pure_def, Option.bind_eq_bind, Option.bind_some, Option.bind_eq_some_iff, Option.some.injEq] at hq
          obtain ⟨qs', hq', rfl⟩ := hq
          simp only [List.all_cons, Bool.and_eq_true, beq_iff_eq] at hi
          obtain ⟨ps, e1, e2, e3⟩ := parts_rep h r qs' place len hq' hi.2
          refine ⟨(i, off, size, unI (opv GL st oo), a.eval x) :: ps, by simp [e1], by simp [e2], ?_⟩
          intro p hpm
          rcases List.mem_cons.1 hpm with rfl | hpm
          · exact ⟨hp, hf, hi.1.2, rep_of_isI (opv_rep h hx) hi.1.1⟩
          · grind
        all_goals grind
theorem run_fieldPlaces {fs : Array Field} {ks : List Nat} (hks : fs.toList.mapM (fun f => szT P f.type) = some ks) (w : World) :
    (fs.mapM fun f => (do pure (f.offset, ← sizeOf f.type) : Sem (Nat × Nat))).run P w = .ok ((fs.toList.zip ks).map fun p => (p.1.offset, p.2)).toArray w := by
  have key : ∀ (l : List Field) (ks : List Nat), l.mapM (fun f => szT P f.type) = some ks → (l.mapM fun f => (do pure (f.offset, ← sizeOf f.type) : Sem (Nat × Nat))).run P w = .ok ((l.zip ks).map fun p => (p.1.offset, p.2)) w := by
    intro l
    induction l with
    | nil => intro ks h; simp at h; subst h; rfl
    | cons f r ih =>
      intro ks h
      rw [List.mapM_cons] at h
      cases h1 : szT P f.type with
      | none => simp [h1] at h
      | some k =>
        cases h2 : r.mapM (fun f => szT P f.type) with
        | none => simp [h1, h2] at h
        | some ks' =>
          simp [h1, h2] at h
          subst h
          simp_all [run_sizeOf']
  rw [← Array.toArray_toList (xs := fs), List.mapM_toArray]
  simp only [Sem.run_map, key _ _ hks, Result.andThen_ok]
end
def placesT (P : Program) (fs : Array Field) : Option (List (Nat × Nat)) := (fs.toList.mapM (fun f => szT P f.type)).map fun ks => (fs.toList.zip ks).map fun p => (p.1.offset, p.2)
def partsO (GL : List (Nat × List I)) (place : Nat → Option (Nat × Nat)) (len : Nat) (parts : List (Nat × Operand)) : Option (List (Nat × Nat × O)) :=
  parts.mapM (fun p => match place p.1, cO GL p.2 with | some (off, size), some oo => if off + size ≤ len then some (off, size, oo) else none | _, _ => none)
section
variable {P : Program} {GL : List (Nat × List I)} {n : Nat} {S : Sh} {M : Mem} {μ : Place} {st : St} {a : Act} {w : World} {K : St → Prop} {Q : Exit → Act → World → Prop} {o : Oper} {d : Nat}
theorem snd_build (h : Rel GL n S M μ st a w) {t : TypeId} {parts : Array (Nat × Operand)} {i : TypeInfo} {z : Value} {zi : I} {fs : Array Field} {pl : List (Nat × Nat)} {qs : List (Nat × Nat × O)}
    (ho : o.op = .build t parts) (hd : o.dst = some d) (hn : d < n) (hi : P.info? t = some i) (hz : i.zero = some z) (hc : constI z = some zi) (hu : P.underlying t = some (.struct fs)) (hpl : placesT P fs = some pl)
    (hq : partsO GL (fun j => pl[j]?) (cellsI zi).length parts.toList = some qs) (hs : step P GL (.build d (cellsI zi) qs) st K) : o.wpX P a w (Goal GL n S M w K) Q := by
  obtain ⟨hall, hs⟩ := hs
  have hrz : RepL M (cellsI zi) z.cells.toList := (constI_rep hc).cellsI
  obtain ⟨ps, e1, e2, e3⟩ := parts_rep h parts.toList qs _ _ hq hall
  obtain ⟨cells', e4, e5⟩ := fill_rep (place := fun j => pl[j]?) ps (cellsI zi) z.cells hrz e3
  unfold placesT at hpl
  cases hks : fs.toList.mapM (fun f => szT P f.type) with
  | none => simp [hks] at hpl
  | some ks =>
    simp [hks] at hpl
    rw [e2] at e5
    refine wp_put h hd hn (v := .agg cells') ?_ (repD_i (Rep.agg' e5)) hs
    rw [e1] at e4
    have e4' : Instr.fill (fun x => ((fs.toList.zip ks).map fun p => (p.1.offset, p.2)).toArray[x]?) z.cells ((parts.map fun (i, x) => (i, a.eval x)).toList) = some cells' := by simp_all
    simp only [execOp, ho, Instr.build, Sem.run_bind, zeroValue, typeInfo, hi, hz, run_program, Result.andThen_ok, Sem.run_pure, run_underlying hu w, run_fieldPlaces hks w, e4']
theorem fillI_rows (k : Nat) : ∀ (rows : List (List I)) (pre zs : List I), (∀ r ∈ rows, r.length = k) → zs.length = rows.length * k → ∀ m, pre.length = m * k →
    fillI (pre ++ zs) ((rows.zipIdx m).map fun p => (p.2 * k, p.1)) = pre ++ rows.flatten
  | [], pre, zs, _, hz, m, hm => by simp_all [fillI]
  | r :: rows, pre, zs, hr, hz, m, hm => by
    have hk : r.length = k := hr r (by simp)
    simp only [List.zipIdx_cons, List.map_cons, fillI]
    have hz' : zs.length = rows.length * k + k := by grind
    have e : setL (pre ++ zs) (m * k) r = (pre ++ r) ++ zs.drop k := by
      simp only [setL]
      rw [List.take_append_of_le_length (by omega), List.take_of_length_le (by omega), ← hm, List.drop_append]
      simp_all
    rw [e, fillI_rows k rows (pre ++ r) (zs.drop k) (fun x hx => hr x (by simp [hx])) (by simp; omega) (m + 1) (by simp [Nat.add_mul, hm, hk])]
    simp
theorem flatten_get {k : Nat} : ∀ {rows : List (List I)}, (∀ r ∈ rows, r.length = k) → ∀ i (hi : i < rows.length) j (hj : j < rows[i].length), rows.flatten[i * k + j]? = some (rows[i][j])
  | r :: rows, hr, 0, hi, j, hj => by grind
  | r :: rows, hr, i + 1, hi, j, hj => by
    have hk : r.length = k := hr r (by simp)
    simp only [List.flatten_cons, List.getElem_cons_succ]
    rw [List.getElem?_append_right (by rw [Nat.add_mul]; omega), show (i + 1) * k + j - r.length = i * k + j by rw [Nat.add_mul]; omega]
    exact flatten_get (fun x hx => hr x (by simp [hx])) i (by simpa using hi) j (by simpa using hj)
theorem length_flatten {k : Nat} {rows : List (List I)} (h : ∀ r ∈ rows, r.length = k) : rows.flatten.length = rows.length * k := by
  induction rows with
  | nil => simp
  | cons r rows ih =>
    grind
theorem zeros_rep {z : Value} {zi : I} {k len : Nat} (hz : Rep M zi z) (hk : (cellsI zi).length = k) (hk0 : 0 < k) :
    ∃ zs : List I, zs.length = len * k ∧ RepL M zs ((Array.range (len * k)).map (fun x => z.cells[x % z.cells.size]!)).toList := by
  have hl := hz.cellsI
  have hs : z.cells.size = k := by have := hl.1; simp at this; omega
  refine ⟨(List.range (len * k)).map fun x => (cellsI zi).getD (x % k) .undef, by simp, by simp, fun j a b => ?_⟩
  simp at a
  have hm : j % k < k := Nat.mod_lt _ hk0
  have := hl.2 (j % k) (by omega) (by simp; omega)
  simp only [List.getElem_map, List.getElem_range, Array.toList_map, Array.toList_range, hs]
  rw [List.getD_eq_getElem?_getD, List.getElem?_eq_getElem (by omega), Option.getD_some, getElem!_pos _ _ (by omega)]
  simpa using this
theorem step_bsn {e k : Nat} {os : List O} (hs : step P GL (.bsn d e k os) st K) : step P GL (.bsl d e k os) st K := by grind [step]
theorem bsl_run (h : Rel GL n S M μ st a w) {t e : TypeId} {len k : Nat} {parts : Array (Nat × Operand)} {i : TypeInfo} {z : Value} {zi : I} {os : List O}
    (ho : o.op = .buildSlice t len parts) (hu : P.underlying t = some (.slice e)) (hi : P.info? e = some i) (hk : i.size = k) (hz : i.zero = some z) (hc : constI z = some zi)
    (hzk : (cellsI zi).length = k) (hk0 : 0 < k) (hlen : len * k ≤ 16777216) (hidx : parts.toList.map (·.1) = List.range len) (hos : (parts.toList.map (·.2)).mapM (cO GL) = some os)
    (hne0 : os ≠ []) (hall : (os.all fun o => isI (opv GL st o) && ((cellsI (unI (opv GL st o))).length == k) && (cellsI (unI (opv GL st o))).all I.one) = true) {rows : List (List I)} (hrows : os.map (fun o => cellsI (unI (opv GL st o))) = rows) :
    ∃ cells', (execOp a.eval o).run P w = .ok (.value (.slice (some ⟨w.heap.size, 0, none⟩) len len)) (w.alloc (.cells cells' e)) ∧ rows.length = len ∧ 0 < len ∧ cells'.size = len * k ∧ (∀ r ∈ rows, r.length = k) ∧
      ∀ i (hi : i < rows.length) j (hj : j < rows[i].length), ∃ u, cells'[i * k + j]? = some u ∧ Rep M (rows[i][j]) u := by
  have hsz : szT P e = some k := by simp [szT, hi, hk]
  have hpl : parts.toList.length = len := by have := congrArg List.length hidx; simpa using this
  have hol : os.length = len := by
    have : ∀ (xs : List Operand) (os : List O), xs.mapM (cO GL) = some os → os.length = xs.length := by
      intro xs
      induction xs with
      | nil => intro os h; simp at h; subst h; rfl
      | cons x xs ih =>
        intro os h
        rw [List.mapM_cons] at h
        cases h1 : cO GL x with
        | none => simp [h1] at h
        | some o =>
          cases h2 : xs.mapM (cO GL) with
          | none => simp [h1, h2] at h
          | some os' => simp [h1, h2] at h; subst h; simp [ih os' h2]
    rw [this _ _ hos]; simpa using hpl
  cases os with
  | nil => exact (hne0 rfl).elim
  | cons o1 orest =>
    have hlpos : 0 < len := by simp at hol; omega
    have hrk : ∀ r ∈ (o1 :: orest).map (fun o => cellsI (unI (opv GL st o))), r.length = k := fun r hr => by
      obtain ⟨oo, ho, rfl⟩ := List.mem_map.1 hr
      rw [List.all_eq_true] at hall
      have := hall oo ho
      simp only [Bool.and_eq_true, beq_iff_eq] at this
      exact this.1.2
    have hparts : ∀ (ps : List (Nat × Operand)) (m : Nat) (os : List O), ps.map (·.1) = List.range' m ps.length → m + ps.length ≤ len → (ps.map (·.2)).mapM (cO GL) = some os →
        partsO GL (fun i => some (i * k, k)) (len * k) ps = some ((os.zipIdx m).map fun p => (p.2 * k, k, p.1)) := by
      intro ps
      induction ps with
      | nil => intro m os _ _ h; simp at h; subst h; rfl
      | cons p ps ih =>
        intro m os h1 h2 h3
        obtain ⟨i, x⟩ := p
        simp only [List.map_cons, List.length_cons, List.range'_succ, List.cons.injEq] at h1
        obtain ⟨rfl, h1⟩ := h1
        rw [List.map_cons, List.mapM_cons] at h3
        simp only at h3
        cases hx : cO GL x with
        | none => simp [hx] at h3
        | some oo =>
          cases hr : (ps.map (·.2)).mapM (cO GL) with
          | none => simp [hx, hr] at h3
          | some os' =>
            simp [hx, hr] at h3
            subst h3
            have := ih (i + 1) os' h1 (by simp at h2; omega) hr
            have hf : i * k + k ≤ len * k := by
              have : (i + 1) * k ≤ len * k := Nat.mul_le_mul_right _ (by simp at h2; omega)
              rw [Nat.add_mul] at this; omega
            unfold partsO at this ⊢
            rw [List.mapM_cons]
            simp only [hx, if_pos hf, this]
            simp [List.zipIdx_cons]
    have hq := hparts parts.toList 0 (o1 :: orest) (by rw [hidx, List.range_eq_range', hpl]) (by omega) hos
    obtain ⟨zs, hzl, hzr⟩ := zeros_rep (M := M) (len := len) (constI_rep hc) hzk hk0
    have hall2 : (((o1 :: orest).zipIdx 0).map fun p => (p.2 * k, k, p.1)).all (fun p => isI (opv GL st p.2.2) && ((cellsI (unI (opv GL st p.2.2))).length == p.2.1)) = true := by
      simp only [List.all_map, List.all_eq_true]
      rintro ⟨oo, m⟩ hm
      have hm' : oo ∈ o1 :: orest := (List.mem_zipIdx hm).2.2 ▸ List.getElem_mem _
      rw [List.all_eq_true] at hall
      have := hall oo hm'
      simp only [Bool.and_eq_true] at this
      simp [this.1.1, this.1.2]
    obtain ⟨ps, e1, e2, e3⟩ := parts_rep h parts.toList _ (fun i => some (i * k, k)) (len * k) hq hall2
    have hzsz : z.cells.size = k := by have := (constI_rep (M := M) hc).cellsI.1; simp at this; omega
    obtain ⟨cells', e4, e5⟩ := fill_rep (place := fun i => some (i * k, k)) ps zs _ hzr (fun p hp => by rw [hzl]; exact e3 p hp)
    rw [e2] at e5
    have e6 : fillI zs ((((o1 :: orest).zipIdx 0).map fun p => (p.2 * k, k, p.1)).map fun p => (p.1, cellsI (unI (opv GL st p.2.2)))) = ((o1 :: orest).map fun o => cellsI (unI (opv GL st o))).flatten := by
      have := fillI_rows k ((o1 :: orest).map fun o => cellsI (unI (opv GL st o))) [] zs hrk (by rw [hzl, List.length_map, hol]) 0 (by simp)
      simp only [List.nil_append] at this
      rw [← this]
      congr 1
      rw [List.map_map, List.zipIdx_map, List.map_map]
      apply List.map_congr_left
      rintro ⟨x, y⟩ _
      rfl
    rw [e6] at e5
    rw [hrows] at e5 hrk
    have hrl : rows.length = len := by rw [← hrows]; simpa using hol
    have hcs : cells'.size = len * k := by have := e5.1; rw [length_flatten hrk, hrl] at this; simpa using this
    have hin : ∀ i (hi : i < rows.length) j, j < rows[i].length → i * k + j < cells'.size := fun i hi j hj => by
      have : (i + 1) * k ≤ rows.length * k := Nat.mul_le_mul_right _ hi
      have h2 := hrk _ (List.getElem_mem hi)
      rw [Nat.add_mul] at this; rw [hcs, ← hrl]; omega
    refine ⟨cells', ?_, hrl, hlpos, hcs, hrk, fun i hi j hj => ?_⟩
    · have hne : ¬ (len * k > 2 ^ 24) := by simpa using hlen
      have hne2 : len * k ≠ 0 := Nat.ne_of_gt (Nat.mul_pos hlpos hk0)
      rw [e1] at e4
      have e4' : Instr.fill (fun i => some (i * k, k)) ((Array.range (len * k)).map (z.cells[· % z.cells.size]!)) ((parts.map fun (i, x) => (i, a.eval x)).toList) = some cells' := by
        rw [← e4]; congr 1; simp
      simp only [execOp, ho, Instr.buildSlice, Sem.run_bind, run_underlying hu w, Result.andThen_ok, run_sizeOf' hsz, if_neg hne, if_neg hne2, zeroValue, typeInfo, hi, hz, run_program, Sem.run_pure, e4', newRow, run_newObj]
      rfl
    · have hlt := hin i hi j hj
      have hfl : i * k + j < rows.flatten.length := by rw [length_flatten hrk, hrl, ← hcs]; exact hlt
      have := e5.2 (i * k + j) hfl (by simpa using hlt)
      have e7 := flatten_get hrk i hi j hj
      rw [List.getElem?_eq_getElem hfl] at e7
      rw [Option.some.inj e7] at this
      exact ⟨cells'[i * k + j], by simp [hlt], by simpa using this⟩
theorem snd_bsl (h : Rel GL n S M μ st a w) {t e : TypeId} {len k : Nat} {parts : Array (Nat × Operand)} {i : TypeInfo} {z : Value} {zi : I} {os : List O}
    (ho : o.op = .buildSlice t len parts) (hd : o.dst = some d) (hn : d < n) (hu : P.underlying t = some (.slice e)) (hi : P.info? e = some i) (hk : i.size = k) (hz : i.zero = some z) (hc : constI z = some zi)
    (hzk : (cellsI zi).length = k) (hk0 : 0 < k) (hlen : len * k ≤ 16777216) (hidx : parts.toList.map (·.1) = List.range len) (hos : (parts.toList.map (·.2)).mapM (cO GL) = some os)
    (hs : step P GL (.bsl d e k os) st K) : o.wpX P a w (Goal GL n S M w K) Q := by
  cases os with
  | nil =>
    have hsz : szT P e = some k := by simp [szT, hi, hk]
    have hp : parts = #[] := by
      cases hp : parts.toList with
      | nil => exact Array.ext' hp
      | cons p ps => rw [hp] at hos; simp [List.mapM_cons, Option.bind_eq_some_iff] at hos
    subst hp
    obtain rfl : len = 0 := by have := congrArg List.length hidx; simpa using this.symm
    simp only [step, step.nilsE'] at hs
    split at hs
    · rename_i hnm
      have hex : (execOp a.eval o).run P w = .ok (.value (.slice (some ⟨w.heap.size, 0, none⟩) 0 0)) (w.alloc (.cells #[] e)) := by
        simp only [execOp, ho, Instr.buildSlice, Sem.run_bind, run_underlying hu w, Result.andThen_ok, run_sizeOf' hsz, Nat.zero_mul]
        have e0 : Array.map (fun x => (default : Value)) (Array.range 0) = #[] := by simp
        simp [Instr.fill, newRow, e0]
      have h0 : Rel GL n S M μ st a (w.alloc (.cells #[] e)) := h.of (h.toStoOk.alloc _) (Mem.le_refl _) fun _ _ hv => hv
      exact wp_value hex ⟨_, hs, M, _, by rw [hd]; exact (h0.bindEmpty hnm hn (some ⟨w.heap.size, 0, none⟩) e k).put hn ⟨names_self, by rw [updP_self]; exact slAt_empty _ _⟩, MExt.refl _ _, keeps_alloc w _ h.low⟩
    · exact hs.elim
  | cons o1 orest =>
    simp only [step] at hs
    obtain ⟨hall, hs⟩ := hs
    generalize hrows : (o1 :: orest).map (fun o => cellsI (unI (opv GL st o))) = rows at *
    obtain ⟨cells', hrun, hrl, hlpos, hcs, hrk, hrep⟩ := bsl_run h ho hu hi hk hz hc hzk hk0 hlen hidx hos (by simp) hall hrows
    obtain ⟨h2, hm, hb⟩ := h.allocKnown cells' e
    have hp : Rep (M.with w.heap.size cells') (.sl rows) (.slice (some ⟨w.heap.size, 0, none⟩) rows.length len) := by
      refine Rep.sl rows k w.heap.size 0 len (fun i j => cells'.getD (i * k + j) Go.undef) hrk (by omega) (fun i hi j hj => ?_) (fun i hi j hj => ?_)
      all_goals
        obtain ⟨u, hu, hr⟩ := hrep i hi j hj
        have := hr.mono hm.le
        first | (simp [Mem.with, hu]; done) | simpa [Mem.with, hu] using this
    rw [hrl] at hp
    exact wp_value hrun ⟨_, hs, _, μ, by rw [hd]; exact h2.put hn (repD_i hp), hm, hb⟩
theorem snd_bso (h : Rel GL n S M μ st a w) {t e : TypeId} {len k : Nat} {parts : Array (Nat × Operand)} {i : TypeInfo} {z : Value} {zi : I} {os : List O}
    (ho : o.op = .buildSlice t len parts) (hd : o.dst = some d) (hn : d < n) (hu : P.underlying t = some (.slice e)) (hi : P.info? e = some i) (hk : i.size = k) (hz : i.zero = some z) (hc : constI z = some zi)
    (hzk : (cellsI zi).length = k) (hk0 : 0 < k) (hlen : len * k ≤ 16777216) (hidx : parts.toList.map (·.1) = List.range len) (hos : (parts.toList.map (·.2)).mapM (cO GL) = some os)
    (hs : step P GL (.bso d e k os) st K) : o.wpX P a w (Goal GL n S M w K) Q := by
  cases os with
  | nil => simp [step] at hs
  | cons o1 orest =>
    simp only [step, List.isEmpty_cons, Bool.not_false, Bool.true_and] at hs
    obtain ⟨hall, hs⟩ := hs
    generalize hrows : (o1 :: orest).map (fun o => cellsI (unI (opv GL st o))) = rows at *
    obtain ⟨cells', hrun, hrl, hlpos, hcs, hrk, hrep⟩ := bsl_run h ho hu hi hk hz hc hzk hk0 hlen hidx hos (by simp) hall hrows
    unfold ownE at hs
    split at hs
    · rename_i hnm
      have hml : len ≤ maxLen := by
        have : len * 1 ≤ len * k := Nat.mul_le_mul_left _ hk0
        simp only [maxLen]; omega
      have h0 : Rel GL n S M μ st a (w.alloc (.cells cells' e)) := h.of (h.toStoOk.alloc _) (Mem.le_refl _) fun _ _ hv => hv
      have h1 := h0.bindName hnm hn (b := .rows e k rows) (x := .slice (some ⟨w.heap.size, 0, none⟩) 0 len)
        ⟨some ⟨w.heap.size, 0, none⟩, len, updP_self _ _ _, .inr ⟨w.heap.size, 0, cells', rfl, hlpos, ⟨fun hS => by have := h.low _ hS; omega, heap_alloc_self w _, Mem.unk_new h.sub (Nat.le_refl _)⟩, hml, by rw [hcs, Nat.zero_add], by omega, hrk, fun i hi j hj => by simpa using hrep i hi j hj⟩⟩
        (fun m q hm hq => by
          have := (h.toStoOk.lt hm hq).1
          simp only [blockOf]; rw [if_neg (by omega)]
          intro e; cases e; omega)
      exact wp_value (v := .slice (some ⟨w.heap.size, 0, none⟩) len len) (w' := w.alloc (.cells cells' e)) hrun ⟨_, hs, M, _, by rw [hd]; exact h1.put hn ⟨names_self, by rw [updP_self]; exact ⟨some ⟨w.heap.size, 0, none⟩, len, rfl, Nat.zero_le _, by omega, .inr ⟨w.heap.size, 0, rfl, by simp [hrl]⟩⟩⟩, MExt.refl _ _, keeps_alloc w _ h.low⟩
    · exact hs.elim
end
end Go.Dl
