/- A part of the proofs of WorkersExclude and WorkersMatchesSteps: A29. -/
import Derived.Test.YtcgjldimifeffaaGreatDoorA28
import Derived.Carry
import Derived.OpenShut
import Derived.Deep.DeepHandedRow
set_option linter.all false
namespace Go.Dl
open Go Go.RowKit Go.ChangeShapes Go.WideShapes
section
variable {H : Type} {enc : TypeId × Value → H} {P : Program} {W : World}
theorem calls_of_MC {GL : List (Nat × List I)} {f : FuncId} {args : List I} {y : I} {vs : Array Value} (hen : enters P f = true) (h : MC P GL f (args.map D.i) [] [] (isR y)) (hg : GlobOk GL (fullM W)) (hr : RepL (fullM W) args vs.toList) :
    Calls P f vs W fun e W' => ∃ v M', e = .returned v ∧ Rep M' y v ∧ Below W.heap.size W W' := by
  let μ : Place := fun _ => Go.undef
  have hn : ∀ nm, ¬ names [] nm := fun nm hn => by grind [names,getS]
  have h0 : StoOk (shut μ [] W) (fullM W) μ [] W := ⟨fullM_sub W, fun nm b hb => by simp [getS] at hb, fun nm nm' k k' _ h => absurd h (hn nm), fun b hb => hb.1⟩
  have hD : RepDs (fullM W) μ (names []) (args.map D.i) vs.toList := ⟨by simpa using hr.1, fun j a b => by
    rw [List.getElem_map]; exact hr.2 j (by simpa using a) b⟩
  rcases h (fullM W) μ W vs h0 hg hD with ⟨_, h2⟩ | ⟨_, row, h1, _⟩ | ⟨_, v, w', h1, _⟩ | ⟨h1, _⟩
  · refine h2.mono ?_
    rintro e W' ⟨v, rfl, r, sto', M', μ', ⟨rfl, rfl⟩, _, hv, _, hk, _⟩
    exact ⟨v, M', rfl, hv, hk.os, hk.tape, hk.output, hk.size, fun k hk2 => hk.block k ⟨hk2, fun nm h => absurd h (hn nm)⟩⟩
  · rw [run_callFunc hen] at h1; cases h1
  · rw [run_callFunc hen] at h1; cases h1
  · unfold enters at hen; rw [h1] at hen; cases hen
def argI (P : Program) (t : TypeId) (cs : List I) : I := match P.underlying t with
  | some (.struct _) => .agg cs
  | _ => cs.headD .undef
def argsI (P : Program) : List TypeId → List (DataW H) → List I
  | t :: ts, d :: ds => argI P t (flatD d) :: argsI P ts ds
  | _, _ => []
theorem arg_rep {l : List TypeId} (hpl : plainT P l = true) {r : Reach} {b0 : Nat} {base : Nat} {spare : Nat → Bool} {held : Bool} {t : TypeId} {v : Value} {d : DataW H} {ps : List MemPlace} (ht : l.contains t = true) (hv : Value.okWide P W r b0 t v) (h : DataW.Trod enc P W base spare held t v d ps) :
    Rep (fullM W) (argI P t (flatD d)) v := by
  obtain ⟨n, hn⟩ := h
  have hR := trod_flat hpl n t _ _ ht hn
  have hp := hpl
  simp only [plainT, List.all_eq_true] at hp
  have hp := hp t (List.contains_iff_mem.1 ht)
  have one : ∀ x : I, (∀ fs, P.underlying t ≠ some (.struct fs)) → v.cells.toList = [v] → RepL (fullM W) (flatD d) v.cells.toList → Rep (fullM W) (argI P t (flatD d)) v := fun x hne hc hR => by
    rw [hc] at hR
    have e : argI P t (flatD d) = (flatD d).headD .undef := by simp [argI]
    rw [e]
    have hl := hR.1
    cases hf : flatD d with
    | nil => rw [hf] at hl; simp at hl
    | cons a r => have := hR.2 0 (by rw [hf]; simp) (by simp); simp only [hf, List.getElem_cons_zero] at this; exact this
  split at hp
  · rename_i hu
    obtain ⟨b, rfl⟩ := okWide_bool hu hv
    exact one .undef (fun fs e => by rw [hu] at e; cases e) rfl hR
  · rename_i k hu
    obtain ⟨m, rfl⟩ := okWide_int hu hv
    exact one .undef (fun fs e => by rw [hu] at e; cases e) rfl hR
  · rename_i hu
    obtain ⟨s, rfl⟩ := okWide_string hu hv
    exact one .undef (fun fs e => by rw [hu] at e; cases e) rfl hR
  · rename_i e hu
    obtain ⟨a, ln, cp, rfl⟩ := okWide_slice hu hv
    exact one .undef (fun fs e => by rw [hu] at e; cases e) rfl hR
  · rename_i fs hu
    obtain ⟨cs, rfl, _⟩ := okWide_struct hu hv
    unfold argI; rw [hu]
    exact Rep.agg' hR
  · cases hp
theorem args_rep {l : List TypeId} (hpl : plainT P l = true) {r : Reach} {b0 : Nat} {base : Nat} {spare : Nat → Bool} {held : Bool} : ∀ {ts : List TypeId} {vs : List Value} {ds : List (DataW H)} {ps : List MemPlace}, (∀ t ∈ ts, l.contains t = true) →
    (∀ (j : Nat) t v, ts[j]? = some t → vs[j]? = some v → Value.okWide P W r b0 t v) → DataW.TrodAll enc P W base spare held ts vs ds ps → RepL (fullM W) (argsI P ts ds) vs
  | [], [], [], _, _, _, _ => RepL.nil _
  | t :: ts, v :: vs, d :: ds, ps, ht, hv, ⟨p, q, h1, h2, _⟩ => RepL.cons (arg_rep hpl (ht t (by simp)) (hv 0 t v rfl rfl) h1) (args_rep hpl (fun t' h' => ht t' (by simp [h'])) (fun j t' v' a b => hv (j + 1) t' v' a b) h2)
theorem trodAll_below (hl : laidOutB P = true) {W' : World} {sp : Nat → Bool} (hb : Below W.heap.size W W') : ∀ {ts : List TypeId} {vs : List Value} {ds : List (DataW H)} {ps : List MemPlace}, (ts.all fun t => P.readableRec t && decide (t < P.types.size)) = true →
    DataW.TrodAll enc P W 0 (fun _ => true) true ts vs ds ps → (∀ p ∈ ps, p.block < W.heap.size) → (∀ p ∈ ps, sp p.block = true) → DataW.TrodAll enc P W' 0 sp true ts vs ds ps
  | [], [], [], _, _, h, _, _ => h
  | t :: ts, v :: vs, d :: ds, ps, ht, ⟨p, q, h1, h2, e⟩, hlt, hs => by
    simp only [List.all_cons, Bool.and_eq_true, decide_eq_true_eq] at ht
    refine ⟨p, q, WideElems.Trod_stays hl ht.1.1 ht.1.2 h1 (fun x hx => hb.same (hlt x (by rw [e]; simp [hx]))) (fun x hx => hs x (by rw [e]; simp [hx])), trodAll_below hl hb ht.2 h2 (fun x hx => hlt x (by rw [e]; simp [hx])) (fun x hx => hs x (by rw [e]; simp [hx])), e⟩
theorem post_true {f : Func} {s : ChangeSpec} {apart fresh handsOn again : Bool} {W' : World} {args : Array Value} {tb : TypeId} {ds gs : List (DataW H)} {before : List MemPlace} (hl : laidOutB P = true) (ht : (f.params.toList.all fun t => P.readableRec t && decide (t < P.types.size)) = true)
    (hvars : s.vars = []) (hrt : f.resultTypes = #[tb]) (hub : P.underlying tb = some .bool) (hfn : ∀ xs : List (DataW H), xs.length = f.params.size → s.fn H xs = { results := [.lit (.bool true)], args := xs })
    (hW : DataW.Whole enc P f.params.toList s.vars apart W args.toList ds gs before) (hb : Below W.heap.size W W') : s.post enc P f apart fresh handsOn again W args (.bool true) W' := by
  have hWlt : ∀ p ∈ before, p.block < W.heap.size := fun p hp => by simpa using hW.lt p hp
  have hW0 := hW
  obtain ⟨p, q, hA, hV, rfl, hfz, hnd⟩ := hW
  rw [hvars] at hV
  obtain ⟨rfl, rfl⟩ := trodVars_none hV
  have hlen : ∀ {ts : List TypeId} {vs : List Value} {ds : List (DataW H)} {ps : List MemPlace}, DataW.TrodAll enc P W 0 (fun _ => true) true ts vs ds ps → ds.length = ts.length := by
    intro ts
    induction ts with
    | nil => intro vs ds ps h; obtain ⟨_, rfl, _⟩ := trodAll_nil h; rfl
    | cons t ts ih => intro vs ds ps h; obtain ⟨v, vs', d, ds', a, b, rfl, rfl, rfl, _, h2⟩ := trodAll_cons h; simp [ih h2]
  have hf := hfn ds (by rw [hlen hA]; simp)
  have hA' : ∀ sp : Nat → Bool, (∀ x ∈ p, sp x.block = true) → DataW.TrodAll enc P W' 0 sp true f.params.toList args.toList ds p := fun sp hs => trodAll_below hl hb ht hA (fun x hx => hWlt x (by simp [hx])) hs
  have hold : ∀ x ∈ p, (fun b => decide (b < W.heap.size)) x.block = true := fun x hx => by grind
  have hres : ∀ (b : Nat) (sp : Nat → Bool) (hd : Bool), DataW.TrodAll enc P W' b sp hd f.resultTypes.toList ((Value.bool true).resultList f.resultTypes.size) [.lit (.bool true)] [] := fun b sp hd => by rw [hrt]; exact trodAll_cons_mk (shut_bool hub _) trodAll_mk0
  refine ⟨ds, [], p ++ [], [], p, [], by rw [hvars] at hW0 ⊢; exact hW0, ?_, ?_, ?_, World.keptBut_mono (fun x hx => hx) (hb.frame _), fun _ => ?_⟩
  · rw [List.append_nil, hf]; exact hres _ _ _
  · rw [List.append_nil, hf]; exact hA' _ hold
  · rw [List.append_nil, hf, hvars]; rfl
  · refine ⟨ok_one hrt rfl (okWide_bool_mk hub _), [.lit (.bool true)] ++ ds, [], ([] ++ p) ++ [], ⟨[] ++ p, [], trodAll_append (hA' (fun _ => true) fun _ _ => rfl) (hres _ _ _), by rw [hvars]; rfl, rfl, ?_, ?_⟩, ?_⟩
    · intro b off hp
      have hp' : MemPlace.cell b off ∈ p := by grind
      have := hWlt _ (show MemPlace.cell b off ∈ p ++ [] by simpa using hp')
      rw [hb.frozen (p := ⟨b, off, none⟩) this]
      exact hfz b off (by simpa using hp')
    · intro ha; have := hnd ha; simpa using this
    · intro x hx _; simpa using hx
end
end Go.Dl
