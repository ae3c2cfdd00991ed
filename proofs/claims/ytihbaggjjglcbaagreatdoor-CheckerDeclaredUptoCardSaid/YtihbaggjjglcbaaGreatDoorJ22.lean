/-
  What the laws of this seat share, part 22: no statement of its own.
-/
import Derived.Test.YtihbaggjjglcbaaGreatDoorJ21
set_option linter.unusedVariables false
set_option linter.unusedSimpArgs false

section
/-
  A data-level logic, second edition: code.
-/
set_option linter.unusedVariables false
set_option linter.unusedSimpArgs false
namespace Go.Dl
open Go Go.RowKit

/-- Code, with its operations resolved. -/
inductive IR where
  | skip
  | reg (gs : List GI)
  | dreg (sn : List Nat) (gs : List GI) (post : List Nat)
  | seq (a b : IR)
  | cut (a b : IR)
  | cond (c : O) (a b : IR)
  | block (id : Nat) (c : IR)
  | loop (c : IR)
  | exit (id : Nat)
  | ret

section
variable (P : Program) (GL : List (Nat × List I)) (n : Nat) (mu : List Nat)

def compG (ops : Array Oper) (o : Oper) : Option GI :=
  let ins := (compOp P GL n mu o).getD (.no o.dst)
  match o.guard with
  | none => some ⟨none, ins⟩
  | some (j, want) => match (ops[j]?).bind (·.dst) with
    | some t => if t < n ∧ ins.dst = o.dst ∧ dstOk n o = true then some ⟨some (t, want), ins⟩ else none
    | none => none

def compOps (ops : Array Oper) : Option (List GI) := ops.toList.mapM (compG P GL n mu ops)

/-- The operations that an operation waits for, at first or at second hand. -/
def ancL (ops : List Oper) : List (List Nat) :=
  ops.foldl (fun acc o => acc ++ [let ds := (o.after.toList.filter fun e => Region.binds .any e).map (·.on); (ds ++ ds.flatMap fun d => acc.getD d []).eraseDups]) []
/-- Every edge points back; of what is waited for there are edges. -/
def ancOk (ops : List Oper) (anc : List (List Nat)) : Bool :=
  (List.range ops.length).all fun i => match ops[i]? with
    | some o => (o.after.all fun e => !Region.binds .any e || decide (e.on < i)) && (anc.getD i []).all fun j => o.after.any fun e => Region.binds .any e && (e.on == j || (anc.getD e.on []).contains j)
    | none => false
/-- The pairs that may stand in either order have nothing to do with each other. -/
def drOk (ops : List Oper) (gs : List GI) : Bool :=
  let anc := ancL ops
  ancOk ops anc && (List.range ops.length).all fun i => match gs[i]? with
    | some g => (List.range i).all fun j => (anc.getD i []).contains j || (match gs[j]? with | some h => indep h g | none => false)
    | none => false
/-- There is one order alone. -/
def soOk (ops : List Oper) : Bool :=
  (List.range ops.length).all fun i => match ops[i]? with
    | some o => (o.after.all fun e => !Region.binds .any e || decide (e.on < i)) && (i == 0 || o.after.any fun e => Region.binds .any e && e.on + 1 == i)
    | none => false
def stored (gs : List GI) : List Nat := gs.filterMap fun g => match g.ins with | .store (.t s) _ _ => some s | _ => none
def compD (rt : List (Nat × Nat)) (ops : Array Oper) : Option IR :=
  if P.follows .mixedOrders = true then
    if soOk ops.toList = true then (compOps P GL n mu ops).map .reg
    else match compOps P GL n (List.range n) ops with
      | some gs => if drOk ops.toList gs = true then
          some (.dreg ((stored gs).map fun s => match rt.find? (·.1 == s) with | some p => p.2 | none => s) gs ((stored gs).filter fun s => !mu.contains s && !(rt.any (·.1 == s))))
        else none
      | none => none
  else none

/-- Is there a choice in it, outside of loops? -/
def hasC : IR → Bool
  | .cond _ _ _ => true
  | .cut _ _ => true
  | .reg gs => gs.any fun g => g.gd.isSome
  | .dreg _ gs _ => gs.any fun g => g.gd.isSome
  | .seq a b => hasC a || hasC b
  | .block _ c => hasC c
  | _ => false
def comp (rt : List (Nat × Nat)) : Code → Option IR
  | .skip => some .skip
  | .region _ ops draw => if draw then compD P GL n mu rt ops else (compOps P GL n mu ops).map .reg
  | .seq a b => match comp rt a, comp rt b with | some x, some y => some (.cut x y) | _, _ => none
  | .cond c a b => match cO GL c, comp rt a, comp rt b with | some oc, some x, some y => some (.cond oc x y) | _, _, _ => none
  | .block id c => (comp rt c).map (.block id)
  | .loop c => (comp rt c).map .loop
  | .exit id => some (.exit id)
  | .ret => some .ret
  | _ => none

def thenK (W : (Exit → St → Prop) → St → Prop) (K : Exit → St → Prop) : Exit → St → Prop
  | .normal, s => W K s
  | e, s => K e s
def blockK (id : Nat) (K : Exit → St → Prop) : Exit → St → Prop
  | .exit id', s => if id' = id then K .normal s else K (.exit id') s
  | e, s => K e s
/-- All that is said of one state holds in another. -/
def subE : List (Nat × D) → Env → Prop
  | [], _ => True
  | (m, d) :: r, e => getE e m = d ∧ subE r e
def clE (l : List (Nat × Blk)) : List (Nat × D) → Bool
  | [] => true
  | (_, d) :: r => inS l d.nms && clE l r
def Sub (s t : St) : Prop := match s.env with
  | .l es => subE es t.env ∧ subS s.sto t.sto ∧ clE s.sto es = true ∧ clS s.sto s.sto = true
  | _ => False
def loopK {ι : Type} (F : ι → St) (μ : ι → Nat) (m : Nat) (K : Exit → St → Prop) : Exit → St → Prop
  | .normal, s => ∃ i, μ i < m ∧ Sub (F i) s
  | e, s => K e s

def notIn (sn : List Nat) (d : D) : Prop := ∀ nm ∈ d.nms, nm ∉ sn
/-- A step of an open region. -/
def stepD (sn : List Nat) (ins : Ins) (st : St) (K : St → Prop) : Prop :=
  match ins with
  | .call d f args => (args.all fun o => isI (opv GL st o)) = true ∧ ∃ y, Is1 P GL f (args.map (opv GL st)) y ∧ K (putO st d (.i y))
  | .callv d fo args => isI (opv GL st fo) = true ∧ (args.all fun o => isI (opv GL st o)) = true ∧ match getV (opv GL st fo) (args.map (opv GL st)) with
    | some p => ∃ y, Is1 P GL p.1 p.2 y ∧ K (putO st d (.i y))
    | none => False
  | .alloc d zs => step P GL (.alloc d zs) st K
  | .mupd ox oq ov ls => step P GL (.mupd ox oq ov ls) st K
  | .store ox ov k => (match opv GL st ox with | .ref (.loc nm _) => nm ∈ sn | _ => False) ∧ step P GL (.store ox ov k) st K
  | .load d x k ag => notIn sn (opv GL st x) ∧ step P GL (.load d x k ag) st K
  | .ia d s i k => (notIn sn (opv GL st s) ∧ notIn sn (opv GL st i)) ∧ step P GL (.ia d s i k) st K
  | .slc d x lo hi k => (∀ o ∈ opsOf (.slc d x lo hi k), notIn sn (opv GL st o)) ∧ step P GL (.slc d x lo hi k) st K
  | ins => (pureDst ins).isSome = true ∧ step P GL ins st K
def evD (sn : List Nat) : List GI → St → (St → Prop) → Prop
  | [], st, K => K st
  | g :: r, st, K =>
    match g.gd with
    | none => stepD P GL sn g.ins st fun s => evD sn r s K
    | some (s, want) => gdE (getE st.env s) want (stepD P GL sn g.ins st fun s => evD sn r s K) (evD sn r (skipI g.ins st) K)

/-- Some slots of a state. -/
def snap (e : Env) : List Nat → List (Nat × D)
  | [] => []
  | s :: r => (s, getE e s) :: snap e r
def prn (ks : List Nat) (s : St) : St := ⟨.l (snap s.env ks), s.sto⟩
/-- Behind a piece of code: on, or on from less. -/
def cutK (W : (Exit → St → Prop) → St → Prop) (K : Exit → St → Prop) : Exit → St → Prop
  | .normal, s => W K s ∨ (∃ S, Sub S s ∧ W K S) ∨ ∃ ks, W K (prn ks s)
  | e, s => K e s
def slotN (post : List Nat) (s : St) : List Nat := post.flatMap fun t => (getE s.env t).nms
/-- What code asks of a state. -/
def W : IR → (Exit → St → Prop) → St → Prop
  | .skip, K, st => K .normal st
  | .reg gs, K, st => ev P GL gs st (K .normal)
  | .dreg sn gs post, K, st => ∃ l, evD P GL sn gs (frzNs l st) fun s => K .normal (frzNs (slotN post s) s)
  | .seq a b, K, st => W a (thenK (W b) K) st
  | .cut a b, K, st => W a (cutK (W b) K) st
  | .cond c a b, K, st => match opv GL st c with
    | .i (.bool t) => br t (W a K st) (W b K st)
    | _ => False
  | .block id c, K, st => W c (blockK id K) st
  | .loop c, K, st => ∃ (ι : Type) (F : ι → St) (m : ι → Nat) (i₀ : ι), Sub (F i₀) st ∧ ∀ i, W c (loopK F m (m i) K) (F i)
  | .exit id, K, st => K (.exit id) st
  | .ret, K, st => K .ret st
end

section
variable {P : Program} {GL : List (Nat × List I)} {n : Nat} {S : Sh} {mu : List Nat}

/-- The post-condition at the level of worlds. -/
def liftQ (GL : List (Nat × List I)) (n : Nat) (S : Sh) (M : Mem) (w : World) (K : Exit → St → Prop) : Exit → Act → World → Prop :=
  fun e a' w' => ∃ st', K e st' ∧ Res GL n S M w st' a' w'

theorem Res.trans {M M' : Mem} {μ' : Place} {w w' w'' : World} {st' st'' : St} {a' a'' : Act} (_h : Rel GL n S M' μ' st' a' w') (hm : MExt S M M') (hb : Keeps S w w') (k : Res GL n S M' w' st'' a'' w'') : Res GL n S M w st'' a'' w'' := by
  obtain ⟨M2, μ2, h2, hm2, hb2⟩ := k
  exact ⟨M2, μ2, h2, hm.trans hm2, hb.trans hb2⟩

theorem skip_rel {M : Mem} {μ : Place} {st : St} {a : Act} {w : World} (h : Rel GL n S M μ st a w) {ins : Ins} {o : Oper} (hd : ins.dst = o.dst) (hn : ∀ d, o.dst = some d → d < n) :
    Rel GL n S M μ (skipI ins st) (a.put o.dst Go.undef) w := by
  unfold skipI
  rw [hd]
  cases hod : o.dst with
  | none => exact h
  | some d => exact h.put (hn d hod) (repD_i .undef)

theorem wp_mono_next' {P : Program} {o : Oper} {a : Act} {w : World} {nx nx' : Act → World → Prop} {Q Q' : Exit → Act → World → Prop} (h : o.wp P a w nx Q) (hn : ∀ a w, nx a w → nx' a w) (hq : ∀ e a w, Q e a w → Q' e a w) : o.wp P a w nx' Q' := by
  unfold Oper.wp at *
  generalize (execOp a.eval o).run P w = r at h
  unfold Oper.upon at *
  split <;> simp only at h
  · exact hn _ _ h
  · exact hn _ _ h
  · exact hn _ _ h
  · refine Calls.mono h ?_
    intro e w' hh
    cases e with
    | returned v => exact hn _ _ hh
    | panicked c => exact hq _ _ _ hh
    | outgrown => obtain ⟨a0, w0, h2⟩ := hh; exact ⟨a0, w0, hq _ _ _ h2⟩
  · exact Rows.mono h (fun v w' hh => hn _ _ hh)
  · exact hq _ _ _ h
theorem wpOps_mono {P : Program} {ops : Array Oper} {Q Q' : Exit → Act → World → Prop} : ∀ {l : List Nat} {a : Act} {w : World}, wpOps P ops Q l a w → (∀ e a w, Q e a w → Q' e a w) → wpOps P ops Q' l a w
  | [], a, w, h, hq => hq _ _ _ h
  | i :: l, a, w, h, hq => by
    simp only [wpOps] at h ⊢
    split
    · rename_i ho; simp only [ho] at h; exact wpOps_mono h hq
    · rename_i o ho
      simp only [ho] at h
      split
      · rename_i hw
        rw [if_pos hw] at h
        rcases h with h | ⟨h1, a0, w0, h2⟩
        · exact .inl (wp_mono_next' h (fun a w hh => wpOps_mono hh hq) hq)
        · exact .inr ⟨h1, a0, w0, hq _ _ _ h2⟩
      · rename_i hw
        rw [if_neg hw] at h
        exact wpOps_mono h hq

/-- Does the model take the operation up? -/
theorem gd_wanted {ops : Array Oper} {M : Mem} {μ : Place} {st : St} {a : Act} {w : World} (h : Rel GL n S M μ st a w) {o : Oper} {g : GI} (hg : compG P GL n mu ops o = some g) {b : Bool}
    (hb : gdOf g.gd st = some b) : Region.wanted o (yielded ops a.tmps) = b := by
  unfold compG at hg
  cases hgd : o.guard with
  | none =>
    simp only [hgd, Option.some.injEq] at hg
    subst hg
    simp only [gdOf, Option.some.injEq] at hb
    subst hb
    simp [Region.wanted, hgd]
  | some jw =>
    obtain ⟨j, want⟩ := jw
    simp only [hgd] at hg
    cases hj : (ops[j]?).bind (·.dst) with
    | none => simp [hj] at hg
    | some t =>
      simp only [hj] at hg
      split at hg
      · rename_i hcond
        cases hg
        have htmp : a.tmps[t]? = some (a.tmps.getD t Go.undef) := by
          have : t < a.tmps.size := by rw [h.size]; exact hcond.1
          simp [this]
        have hy : yielded ops a.tmps j = match a.tmps.getD t Go.undef with | .bool b => some b | _ => none := by
          unfold yielded; rw [hj]; simp only [Option.bind_some]; rw [htmp]; cases a.tmps.getD t Go.undef <;> rfl
        have hre := h.env t
        simp only [gdOf] at hb
        split at hb
        · rename_i b' heq
          cases hb
          rw [heq] at hre
          have hbv := bool_inv (repD_i_inv hre)
          rw [hbv] at hy
          simp only [Region.wanted, hgd, hy]
          cases want <;> cases b' <;> rfl
        · rename_i heq
          cases hb
          rw [heq] at hre
          have hbv : a.tmps.getD t Go.undef = Go.undef := by
            have := repD_i_inv hre
            generalize a.tmps.getD t Go.undef = v at this
            cases this; rfl
          rw [hbv] at hy
          simp only [Go.undef] at hy
          simp [Region.wanted, hgd, hy]
        · cases hb
      · cases hg
theorem compG_ins {ops : Array Oper} {o : Oper} {g : GI} (hg : compG P GL n mu ops o = some g) : (compOp P GL n mu o).getD (.no o.dst) = g.ins ∧ (g.gd ≠ none → g.ins.dst = o.dst ∧ ∀ d, o.dst = some d → d < n) := by
  unfold compG at hg
  dsimp only at hg
  split at hg
  · cases hg; exact ⟨rfl, fun h => (h rfl).elim⟩
  · split at hg
    · split at hg <;> cases hg
      rename_i hcond
      exact ⟨rfl, fun _ => ⟨hcond.2.1, fun d hd => by have := hcond.2.2; unfold dstOk at this; rw [hd] at this; simpa using this⟩⟩
    · cases hg
/-- What was not compiled asks for what is not to be had. -/
theorem snd_opN {M : Mem} {μ : Place} {st : St} {a : Act} {w : World} {K : St → Prop} {Q : Exit → Act → World → Prop} {o : Oper} (h : Rel GL n S M μ st a w) {ins : Ins} (hc : (compOp P GL n mu o).getD (.no o.dst) = ins) (hs : step P GL ins st K) : o.wp P a w (Goal GL n S M w K) Q := by
  cases hop : compOp P GL n mu o with
  | none => rw [hop] at hc; simp only [Option.getD_none] at hc; subst hc; exact (show False from hs).elim
  | some i => rw [hop] at hc; simp only [Option.getD_some] at hc; subst hc; exact snd_op h hop hs

/-- One operation of a region, whatever stands behind it. -/
theorem snd_one {ops : Array Oper} {o : Oper} {g : GI} (hg : compG P GL n mu ops o = some g) {M : Mem} {μ : Place} {st : St} {a : Act} {w : World} (h : Rel GL n S M μ st a w) {K : St → Prop} {Q : Exit → Act → World → Prop}
    (hs : match g.gd with | none => step P GL g.ins (frzNs (preN GL g.ins st) st) K | some (s, want) => gdE (getE st.env s) want (step P GL g.ins (frzNs (preN GL g.ins st) st) K) (K (skipI g.ins st))) :
    (Region.wanted o (yielded ops a.tmps) = true ∧ o.wp P a w (Goal GL n S M w K) Q) ∨ (Region.wanted o (yielded ops a.tmps) = false ∧ Goal GL n S M w K (a.put o.dst Go.undef) w) := by
  obtain ⟨hop, hdst⟩ := compG_ins hg
  have run : step P GL g.ins (frzNs (preN GL g.ins st) st) K → o.wp P a w (Goal GL n S M w K) Q := fun hst => by
    obtain ⟨M1, h1, m1⟩ := h.frzNs (preN GL g.ins st)
    refine wp_mono_next' (snd_opN (Q := Q) h1 hop hst) ?_ (fun _ _ _ h => h)
    rintro a' w' ⟨st', hs', M', μ', h', hm, hb⟩
    exact ⟨st', hs', M', μ', h', m1.trans hm, hb⟩
  cases hgd : g.gd with
  | none =>
    rw [hgd] at hs
    exact .inl ⟨gd_wanted h hg (by rw [hgd]; rfl), run hs⟩
  | some p =>
    obtain ⟨s, want⟩ := p
    rw [hgd] at hs
    obtain ⟨hdd, hdn⟩ := hdst (by rw [hgd]; simp)
    have skip : K (skipI g.ins st) → Goal GL n S M w K (a.put o.dst Go.undef) w := fun hk => ⟨_, hk, Res.of (skip_rel h hdd hdn)⟩
    simp only [gdE] at hs
    split at hs
    · rename_i b hb
      have hw := gd_wanted (b := b == want) h hg (by rw [hgd]; simp only [gdOf, hb])
      cases hbw : b == want with
      | true => rw [hbw] at hw hs; exact .inl ⟨hw, run (hs.1 rfl)⟩
      | false => rw [hbw] at hw hs; exact .inr ⟨hw, skip (hs.2 rfl)⟩
    · rename_i hb
      exact .inr ⟨gd_wanted h hg (by rw [hgd]; simp only [gdOf, hb]), skip hs⟩
    · exact hs.elim

theorem ev_cons {g : GI} {r : List GI} {st : St} {K : St → Prop} : ev P GL (g :: r) st K ↔ match g.gd with | none => step P GL g.ins (frzNs (preN GL g.ins st) st) (fun s => ev P GL r s K) | some (s, want) => gdE (getE st.env s) want (step P GL g.ins (frzNs (preN GL g.ins st) st) (fun s => ev P GL r s K)) (ev P GL r (skipI g.ins st) K) := by
  cases hg : g.gd <;> simp only [ev, hg]

theorem snd_ops {ops : Array Oper} {K : Exit → St → Prop} : ∀ (l : List Nat) (gs : List GI) (M : Mem) (μ : Place) (st : St) (a : Act) (w : World),
    (l.mapM fun i => (ops[i]?).bind (compG P GL n mu ops)) = some gs → Rel GL n S M μ st a w → ev P GL gs st (K .normal) → wpOps P ops (liftQ GL n S M w K) l a w
  | [], gs, M, μ, st, a, w, hc, h, hs => by
    simp at hc; subst hc
    exact ⟨st, hs, Res.of h⟩
  | i :: l, gs, M, μ, st, a, w, hc, h, hs => by
    rw [List.mapM_cons] at hc
    cases ho : ops[i]? with
    | none => simp [ho] at hc
    | some o =>
      simp only [ho, Option.bind_some] at hc
      cases hg : compG P GL n mu ops o with
      | none => simp [hg] at hc
      | some g =>
        cases hr : (l.mapM fun i => (ops[i]?).bind (compG P GL n mu ops)) with
        | none => simp [hg, hr] at hc
        | some gs' =>
          simp [hg, hr] at hc
          subst hc
          have next : ∀ a' w', Goal GL n S M w (fun s => ev P GL gs' s (K .normal)) a' w' → wpOps P ops (liftQ GL n S M w K) l a' w' := by
            rintro a' w' ⟨st', hs', M', μ', h', hm, hb⟩
            refine wpOps_mono (snd_ops l gs' M' μ' st' a' w' hr h' hs') ?_
            rintro e a'' w'' ⟨st'', hk, hres⟩
            exact ⟨st'', hk, hres.trans h' hm hb⟩
          simp only [wpOps, ho]
          rcases snd_one (Q := liftQ GL n S M w K) hg h (ev_cons.1 hs) with ⟨hw, h2⟩ | ⟨hw, h2⟩
          · rw [if_pos hw]
            exact .inl (wp_mono_next' h2 next (fun _ _ _ h => h))
          · rw [if_neg (by rw [hw]; simp)]
            exact next _ _ h2

theorem br_mono {b : Bool} {A A' C C' : Prop} (h : br b A C) (h1 : A → A') (h2 : C → C') : br b A' C' := ⟨fun e => h1 (h.1 e), fun e => h2 (h.2 e)⟩
theorem gdE_mono {v : D} {b : Bool} {A A' C C' : Prop} (h : gdE v b A C) (h1 : A → A') (h2 : C → C') : gdE v b A' C' := by
  unfold gdE at *
  split at h
  · exact br_mono h h1 h2
  · exact h2 h
  · exact h.elim
theorem slcO_mono {lo hi : Option Int} {top : Nat} {K K' : Nat → Nat → Prop} (h : slcO lo hi top K) (hk : ∀ a c, K a c → K' a c) : slcO lo hi top K' := by
  unfold slcO at *; split at h
  · exact ⟨h.1, hk _ _ h.2⟩
  · exact h
theorem callG_mono {get : St → Option (FuncId × List D)} {st : St} {d : Option Nat} {K K' : St → Prop} (h : callG P GL get st d K) (hk : ∀ s, K s → K' s) : callG P GL get st d K' := by
  obtain ⟨l, h⟩ := h
  refine ⟨l, ?_⟩
  split at h
  · rcases h with ⟨sto, mv, R, h1, h2, h3, h4, h6, h5⟩ | ⟨R, h1, h2, h3⟩
    · exact .inl ⟨sto, mv, R, h1, h2, h3, h4, h6, fun r s hr => ⟨(h5 r s hr).1, (h5 r s hr).2.1, hk _ (h5 r s hr).2.2⟩⟩
    · exact .inr ⟨R, h1, h2, fun r s hr => by obtain ⟨y, e1, e2, e3⟩ := h3 r s hr; exact ⟨y, e1, e2, hk _ e3⟩⟩
  · exact h.elim
theorem step_mono {ins : Ins} {st : St} {K K' : St → Prop} (h : step P GL ins st K) (hk : ∀ s, K s → K' s) : step P GL ins st K' := by
  cases hd : pureDst ins with
  | some d =>
    obtain ⟨h1, h2⟩ := (step_pv P GL hd st K).1 h
    exact (step_pv P GL hd st K').2 ⟨h1, hk _ h2⟩
  | none =>
    cases ins <;> simp only [pureDst, reduceCtorEq] at hd <;> simp only [step] at h ⊢
    case nils => unfold nilsE at *; split at h <;> exact hk _ h
    case box => unfold boxE at *; split at h; exact hk _ h; exact h
    case boxm => unfold newE at *; split at h; exact ⟨h.1, hk _ h.2⟩; exact h
    case alloc => unfold newE at *; split at h; exact ⟨h.1, hk _ h.2⟩; exact h
    case store =>
      unfold storeE at *; split at h
      · unfold storeB at *; split at h; exact ⟨h.1, h.2.1, h.2.2.1, hk _ h.2.2.2⟩; exact h
      · unfold storeR at *; split at h; exact ⟨h.1, h.2.1, h.2.2.1, h.2.2.2.1, h.2.2.2.2.1, h.2.2.2.2.2.1, hk _ h.2.2.2.2.2.2⟩; exact h
      · exact h
    case stfrz =>
      unfold stfrzE at *; split at h
      · unfold stfrzB at *; split at h; exact ⟨h.1, h.2.1, h.2.2.1, h.2.2.2.1, h.2.2.2.2.1, hk _ h.2.2.2.2.2⟩; exact h
      · exact h
    case isnil =>
      unfold isnilE at *; split at h
      · exact hk _ h
      · split at h <;> first | exact fun b => hk _ (h b) | exact h
    case bso d e k ps => exact ⟨h.1, by have h2 := h.2; unfold ownE at *; split at h2; exact hk _ h2; exact h2⟩
    case bsl d e k ps =>
      cases ps with
      | nil => simp only [step.nilsE'] at h ⊢; split at h; exact hk _ h; exact h
      | cons p ps => exact ⟨h.1, hk _ h.2⟩
    case call => exact callG_mono h hk
    case callv => exact callG_mono h hk
    case app =>
      unfold appE at *; split at h
      · unfold appB at *; split at h; exact ⟨h.1, h.2.1, h.2.2.1, h.2.2.2.1, h.2.2.2.2.1, h.2.2.2.2.2.1, h.2.2.2.2.2.2.1, h.2.2.2.2.2.2.2.1, h.2.2.2.2.2.2.2.2.1, hk _ h.2.2.2.2.2.2.2.2.2⟩; exact h
      · exact h
    case slc0 => unfold slc0E at *; split at h; exact hk _ h; exact h
    case mkmap => unfold mkmapE at *; split at h; exact hk _ h; exact h
    case mupd =>
      unfold mupdE at *; split at h
      · refine ⟨h.1, ?_⟩
        have h := h.2
        unfold mupdB at *; split at h; exact ⟨h.1, hk _ h.2⟩; exact h
      · exact h
    case rng => unfold rngE at *; split at h; exact hk _ h; exact hk _ h; exact h
    case nxt =>
      unfold nxtE at *; split at h
      · unfold nxtB at *; split at h; exact ⟨fun e => hk _ (h.1 e), fun i hi => hk _ (h.2 i hi)⟩; exact h
      · exact h
    case ent =>
      unfold entE at *; split at h
      · unfold entB at *; split at h; exact hk _ h; exact h
      · exact h
theorem ev_mono : ∀ {gs : List GI} {st : St} {K K' : St → Prop}, ev P GL gs st K → (∀ s, K s → K' s) → ev P GL gs st K'
  | [], st, K, K', h, hk => hk _ h
  | g :: r, st, K, K', h, hk => by
    have q1 : ∀ s, ev P GL r s K → ev P GL r s K' := fun s hs => ev_mono hs hk
    rw [ev_cons] at h ⊢
    split at h
    · exact step_mono h q1
    · exact gdE_mono h (fun hh => step_mono hh q1) (q1 _)
theorem stepD_mono {sn : List Nat} {ins : Ins} {st : St} {K K' : St → Prop} (h : stepD P GL sn ins st K) (hk : ∀ s, K s → K' s) : stepD P GL sn ins st K' := by
  cases ins <;> simp only [stepD] at h ⊢
  case call => obtain ⟨h1, y, h2, h3⟩ := h; exact ⟨h1, y, h2, hk _ h3⟩
  case callv =>
    refine ⟨h.1, h.2.1, ?_⟩
    have h := h.2.2
    split at h
    · obtain ⟨y, h2, h3⟩ := h; exact ⟨y, h2, hk _ h3⟩
    · exact h
  case alloc => exact step_mono h hk
  case mupd => exact step_mono h hk
  all_goals exact ⟨h.1, step_mono h.2 hk⟩
theorem evD_mono {sn : List Nat} : ∀ {gs : List GI} {st : St} {K K' : St → Prop}, evD P GL sn gs st K → (∀ s, K s → K' s) → evD P GL sn gs st K'
  | [], st, K, K', h, hk => hk _ h
  | g :: r, st, K, K', h, hk => by
    have q1 : ∀ s, evD P GL sn r s K → evD P GL sn r s K' := fun s hs => evD_mono hs hk
    simp only [evD] at h ⊢
    split at h
    · exact stepD_mono h q1
    · exact gdE_mono h (fun hh => stepD_mono hh q1) (q1 _)
theorem W_mono : ∀ (ir : IR) {st : St} {K K' : Exit → St → Prop}, W P GL ir K st → (∀ e s, K e s → K' e s) → W P GL ir K' st
  | .skip, st, K, K', h, hk => hk _ _ h
  | .reg gs, st, K, K', h, hk => ev_mono h (hk _)
  | .dreg sn gs post, st, K, K', h, hk => by obtain ⟨l, h⟩ := h; exact ⟨l, evD_mono h (fun s hs => hk _ _ hs)⟩
  | .seq a b, st, K, K', h, hk => W_mono a h (fun e s hs => by
      cases e with
      | normal => exact W_mono b hs hk
      | _ => exact hk _ _ hs)
  | .cut a b, st, K, K', h, hk => W_mono a h (fun e s hs => by
      cases e with
      | normal => exact hs.elim (fun q => .inl (W_mono b q hk)) (fun q => q.elim (fun ⟨S, q1, q2⟩ => .inr (.inl ⟨S, q1, W_mono b q2 hk⟩)) (fun ⟨ks, q⟩ => .inr (.inr ⟨ks, W_mono b q hk⟩)))
      | _ => exact hk _ _ hs)
  | .cond c a b, st, K, K', h, hk => by
    simp only [W] at h ⊢
    split at h
    · exact br_mono h (fun hh => W_mono a hh hk) (fun hh => W_mono b hh hk)
    · exact h
  | .block id c, st, K, K', h, hk => W_mono c h (fun e s hs => by
      cases e with
      | exit id' => simp only [blockK] at hs ⊢; split at hs; rename_i e; rw [if_pos e]; exact hk _ _ hs; rename_i e; rw [if_neg e]; exact hk _ _ hs
      | _ => exact hk _ _ hs)
  | .loop c, st, K, K', h, hk => by
    obtain ⟨ι, F, m, i0, h0, hr⟩ := h
    refine ⟨ι, F, m, i0, h0, fun i => W_mono c (hr i) (fun e s hs => ?_)⟩
    cases e with
    | normal => exact hs
    | _ => exact hk _ _ hs
  | .exit id, st, K, K', h, hk => hk _ _ h
  | .ret, st, K, K', h, hk => hk _ _ h

theorem subE_get : ∀ {l : List (Nat × D)} {e : Env}, subE l e → ∀ s, getL l s = .any ∨ getL l s = getE e s
  | [], e, _, s => .inl rfl
  | (m, d) :: r, e, h, s => by
    simp only [getL]
    split
    · rename_i e; subst e; exact .inr h.1.symm
    · exact subE_get h.2 s
theorem clE_get {T : List (Nat × Blk)} : ∀ {l : List (Nat × D)}, clE T l = true → ∀ s, ∀ q ∈ (getL l s).nms, names T q
  | [], _, s => fun q hq => by simp [getL, D.nms] at hq
  | (m, d) :: r, h, s => by
    simp only [clE, Bool.and_eq_true] at h
    simp only [getL]
    split
    · exact inS_mem h.1
    · exact clE_get h.2 s
theorem StoOk.less {M : Mem} {μ : Place} {sto sto' : List (Nat × Blk)} {w : World} (h : StoOk S M μ sto w) (hs : subS sto' sto) (hc : clS sto' sto' = true) : StoOk S M μ sto' w where
  sub := h.sub
  blk := fun nm b hb => (h.blk nm b (subS_get hs nm b hb)).mono (Mem.le_refl _) rfl (fun m hm _ => ⟨clS_get hc nm b hb m hm, rfl⟩) (fun _ _ _ => rfl) (fun _ _ _ => Mem.same_refl _ _)
  sep := fun m m' k k' hne h1 h2 => by
    refine h.sep m m' k k' hne ?_ ?_
    · obtain ⟨x, hx⟩ := Option.isSome_iff_exists.1 h1; simp [names, subS_get hs m x hx]
    · obtain ⟨x, hx⟩ := Option.isSome_iff_exists.1 h2; simp [names, subS_get hs m' x hx]
  low := h.low
theorem Rel.sub' {M : Mem} {μ : Place} {st st' : St} {a : Act} {w : World} (h : Rel GL n S M μ st a w) (hs : Sub st' st) : Rel GL n S M μ st' a w := by
  unfold Sub at hs
  split at hs
  · rename_i es he
    obtain ⟨h1, h2, h3, h4⟩ := hs
    refine { toStoOk := h.toStoOk.less h2 h4, small := h.small, pin := h.pin, defers := h.defers, size := h.size, env := fun s => ?_, glob := h.glob }
    rw [he]
    simp only [getE]
    rcases subE_get h1 s with e | e
    · rw [e]; trivial
    · have := clE_get h3 s
      rw [e] at this ⊢
      exact (h.env s).mono' (Mem.le_refl _) fun q hq _ => ⟨this q hq, rfl⟩
  · exact hs.elim

theorem getL_snap (e : Env) (s : Nat) : ∀ ks, getL (snap e ks) s = .any ∨ getL (snap e ks) s = getE e s
  | [] => .inl rfl
  | k :: r => by
    simp only [snap, getL]
    split
    · rename_i h; subst h; exact .inr rfl
    · exact getL_snap e s r
theorem Rel.prn {M : Mem} {μ : Place} {st : St} {a : Act} {w : World} (h : Rel GL n S M μ st a w) (ks : List Nat) : Rel GL n S M μ (prn ks st) a w :=
  { toStoOk := h.toStoOk, small := h.small, pin := h.pin, defers := h.defers, size := h.size, glob := h.glob, env := fun s => by
      simp only [Dl.prn, getE]
      rcases getL_snap st.env s ks with e | e
      · rw [e]; trivial
      · rw [e]; exact h.env s }
theorem step_of_pre {sn : List Nat} {ins : Ins} {x : Option I} {st : St} {K : St → Prop} (h : preI P GL sn ins x st) (hk : K (effI GL ins x st)) : step P GL ins st K := by
  have calls : ∀ {f : FuncId} {ds : List D} {y : I} {d : Option Nat}, (∀ v ∈ ds, isI v = true) → Is1 P GL f ds y → K (putO st d (.i y)) → callT P GL f ds st d K := fun {f ds y d} hI h2 hk => by
    refine ⟨[], [], _, h2, trivial, rfl, ?_, rfl, ?_⟩
    · rw [List.all_eq_true]; intro v hv
      have := hI v hv
      cases v <;> simp [isI] at this; rfl
    · rintro r s ⟨rfl, rfl⟩
      refine ⟨fun nm hm => by simp [renS] at hm, fun nm hm => by simp at hm, ?_⟩
      exact hk
  have nofrz : ∀ (st : St), frzNs [] st = st := fun _ => rfl
  cases ins
  case call d f args =>
    obtain ⟨h1, y, rfl, h2⟩ := h
    rw [List.all_eq_true] at h1
    refine ⟨[], ?_⟩
    simp only [nofrz, getC]
    refine .inl (calls (y := y) (fun v hv => by obtain ⟨o, ho, rfl⟩ := List.mem_map.1 hv; exact h1 o ho) h2 ?_)
    cases d <;> exact hk
  case callv d fo args =>
    obtain ⟨h0, h1, p, y, h2, rfl, h3⟩ := h
    rw [List.all_eq_true] at h1
    refine ⟨[], ?_⟩
    simp only [nofrz, getCv, h2]
    refine .inl (calls (y := y) (fun v hv => ?_) h3 ?_)
    · unfold getV at h2
      split at h2
      · cases h2
        simp only [List.mem_append, List.mem_map] at hv
        rcases hv with (⟨z, _, rfl⟩ | ⟨o, ho, rfl⟩) | ⟨z, _, rfl⟩
        · rfl
        · exact h1 o ho
        · rfl
      · rename_i e; rw [e] at h0; simp [isI] at h0
      · cases h2
    · cases d <;> exact hk
  case alloc d zs =>
    simp only [step, newE]
    obtain ⟨h, h1⟩ : getS st.sto d = none ∧ (zs.map D.i).all oneD = true := h
    rw [h]
    exact ⟨h1, hk⟩
  case mupd ox oq ov ls =>
    simp only [preI] at h
    simp only [effI] at hk
    simp only [step, mupdE]
    split at h
    · rename_i nm q u e1 e2 e3
      obtain ⟨h1, h⟩ := h
      split at h
      · rename_i ls' es hg
        simp only [e1, e2, e3, hg, mupdB] at hk ⊢
        exact ⟨h1, h, hk⟩
      · exact h.elim
    · exact h.elim
  case store ox ov k =>
    simp only [preI] at h
    simp only [effI] at hk
    simp only [step, storeE]
    split at h
    · rename_i nm off e
      obtain ⟨_, h⟩ := h
      split at h
      · rename_i cs hg
        simp only [e, hg, storeB] at hk ⊢
        exact ⟨h.1, h.2.1, h.2.2, hk⟩
      · exact h.elim
    · exact h.elim
  all_goals
    obtain ⟨h1, h2, _⟩ := h
    first
      | (simp [pureDst] at h1; done)
      | (refine (step_pv P GL (d := _) rfl st K).2 ⟨h2, ?_⟩; exact hk)

theorem pre_of_step {sn : List Nat} {ins : Ins} {st : St} {K : St → Prop} (h : stepD P GL sn ins st K) : ∃ x, preI P GL sn ins x st ∧ K (effI GL ins x st) := by
  have pure : ∀ ins : Ins, ∀ d, pureDst ins = some d → step P GL ins st K → (∀ o ∈ opsOf ins, looks ins = true → ∀ nm ∈ (opv GL st o).nms, nm ∉ sn) →
      ((pureDst ins).isSome ∧ (pv (opv GL st) (getS st.sto) ins).2 ∧ (looks ins = true → ∀ o ∈ opsOf ins, ∀ nm ∈ (opv GL st o).nms, nm ∉ sn)) ∧ K (st.put d (pv (opv GL st) (getS st.sto) ins).1) := fun ins d hd hs hl => by
    obtain ⟨h1, h2⟩ := (step_pv P GL hd st K).1 hs
    exact ⟨⟨by rw [hd]; rfl, h1, fun l o ho nm hn => hl o ho l nm hn⟩, h2⟩
  cases ins
  case call d f args =>
    obtain ⟨h1, y, h2, h3⟩ := h
    refine ⟨some y, ⟨h1, y, rfl, h2⟩, ?_⟩
    cases d <;> exact h3
  case callv d fo args =>
    obtain ⟨h0, h1, h⟩ := h
    split at h
    · rename_i p hp
      obtain ⟨y, h2, h3⟩ := h
      refine ⟨some y, ⟨h0, h1, p, y, hp, rfl, h2⟩, ?_⟩
      cases d <;> exact h3
    · exact h.elim
  case alloc d zs =>
    refine ⟨none, ?_⟩
    simp only [stepD, step, newE] at h
    split at h
    · rename_i hg; exact ⟨⟨hg, h.1⟩, h.2⟩
    · exact h.elim
  case mupd ox oq ov ls =>
    refine ⟨none, ?_⟩
    simp only [stepD, step, mupdE] at h
    simp only [preI, effI]
    split at h
    · rename_i nm q u e1 e2 e3
      obtain ⟨h1, h⟩ := h
      unfold mupdB at h
      split at h
      · rename_i ls' es hg
        simp only [e1, e2, e3, hg]
        exact ⟨⟨h1, h.1⟩, h.2⟩
      · exact h.elim
    · exact h.elim
  case store ox ov k =>
    obtain ⟨h1, h⟩ := h
    refine ⟨none, ?_⟩
    simp only [step, storeE] at h
    simp only [preI, effI]
    split at h
    · rename_i nm off e
      rw [e] at h1
      unfold storeB at h
      split at h
      · rename_i cs hg
        simp only [e, hg]
        exact ⟨⟨h1, h.1, h.2.1, h.2.2.1⟩, h.2.2.2⟩
      · exact h.elim
    · rename_i e
      rw [e] at h1; exact h1.elim
    · exact h.elim
  case load d x k ag =>
    obtain ⟨h1, h⟩ := h
    exact ⟨none, pure (.load d x k ag) d rfl h (fun o ho _ nm hn => by simp [opsOf] at ho; subst ho; exact h1 nm hn)⟩
  case ia d s i k =>
    obtain ⟨⟨h1, h2⟩, h⟩ := h
    exact ⟨none, pure (.ia d s i k) d rfl h (fun o ho _ nm hn => by
      simp [opsOf] at ho
      rcases ho with rfl | rfl
      · exact h1 nm hn
      · exact h2 nm hn)⟩
  case slc d x lo hi k =>
    obtain ⟨h1, h⟩ := h
    exact ⟨none, pure (.slc d x lo hi k) d rfl h (fun o ho _ nm hn => h1 o ho nm hn)⟩
  all_goals
    obtain ⟨h1, h⟩ := h
    first
      | (simp [pureDst] at h1; done)
      | (refine ⟨none, pure _ _ rfl h (fun o ho hl => by simp [looks] at hl)⟩)

theorem run_of_evD {sn : List Nat} : ∀ (gs : List GI) (st : St) (K : St → Prop), evD P GL sn gs st K → ∃ xs : List X, xs.map (·.1) = gs ∧ runX P GL sn xs st K
  | [], st, K, h => ⟨[], rfl, h⟩
  | g :: r, st, K, h => by
    have go : stepD P GL sn g.ins st (fun s => evD P GL sn r s K) → gdOf g.gd st = some true → ∃ xs : List X, xs.map (·.1) = g :: r ∧ runX P GL sn xs st K := fun hs hg => by
      obtain ⟨x, h1, h2⟩ := pre_of_step hs
      obtain ⟨xs, e, hr⟩ := run_of_evD r _ K h2
      refine ⟨(g, x) :: xs, by simp [e], ?_, ?_⟩
      · unfold preG; simp only [hg]; exact h1
      · unfold effG; simp only [hg]; exact hr
    have skip : evD P GL sn r (skipI g.ins st) K → gdOf g.gd st = some false → ∃ xs : List X, xs.map (·.1) = g :: r ∧ runX P GL sn xs st K := fun hs hg => by
      obtain ⟨xs, e, hr⟩ := run_of_evD r _ K hs
      refine ⟨(g, none) :: xs, by simp [e], ?_, ?_⟩
      · unfold preG; simp only [hg]
      · unfold effG; simp only [hg]; exact hr
    simp only [evD] at h
    split at h
    · rename_i e; exact go h (by rw [e]; rfl)
    · rename_i s want e
      unfold gdE at h
      split at h
      · rename_i b hb
        have hg : gdOf g.gd st = some (b == want) := by rw [e]; simp only [gdOf, hb]
        cases hbw : b == want with
        | true => rw [hbw] at h hg; exact go (h.1 rfl) hg
        | false => rw [hbw] at h hg; exact skip (h.2 rfl) hg
      · rename_i hb
        exact skip h (by rw [e]; simp only [gdOf, hb])
      · exact h.elim

end
end Go.Dl
end
