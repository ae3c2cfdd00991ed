/- A part of the proofs of WorkersExclude and WorkersMatchesSteps: A21. -/
import Derived.Test.YtcgjldimifeffaaGreatDoorM1
set_option linter.all false
namespace Go.Dl
open Go Go.RowKit
inductive IR where
  | skip
  | reg (gs : List GI)
  | dreg (sn : List Nat) (gs : List GI) (post : List Nat)
  | cut (a b : IR)
  | cond (c : O) (a b : IR)
  | block (id : Nat) (c : IR)
  | loop (c : IR)
  | exit (id : Nat)
  | ret
  | rf (n : Nat) (og : O) (ps : List Nat) (ia ib : IR)
inductive J where
  | skip
  | rg (gs : List GI)
  | dr (sn : List Nat) (fz : List O) (gs : List GI) (post : List Nat)
  | sq (ks : List Nat) (a b : J)
  | ct (ks : List Nat) (a b : J)
  | cond (c : O) (a b : J)
  | block (id : Nat) (c : J)
  | lp (c : J)
  | exit (id : Nat)
  | ret
  | rf (n : Nat) (og : O) (ps : List Nat) (a b : J)
def J.ir : J → IR
  | .skip => .skip
  | .rg gs => .reg gs
  | .dr sn _ gs post => .dreg sn gs post
  | .sq _ a b => .cut a.ir b.ir
  | .ct _ a b => .cut a.ir b.ir
  | .cond c a b => .cond c a.ir b.ir
  | .block id c => .block id c.ir
  | .lp c => .loop c.ir
  | .exit id => .exit id
  | .ret => .ret
  | .rf n og ps a b => .rf n og ps a.ir b.ir
def mkD (b : Nat) : Deferred := { target := .collected b, args := #[] }
structure Grow (S S' : Sh) (w' : World) : Prop where
  p : ∀ b, S.p b → S'.p b
  q : S'.q = S.q
  ds : ∃ bs : List Nat, S'.ds = bs.map mkD ++ S.ds ∧ bs.Nodup ∧ ∀ b ∈ bs, S'.p b ∧ ¬ S.p b ∧ w'.heap[b]? = some (.deferred (some []))
theorem Grow.refl (S : Sh) (w : World) : Grow S S w := ⟨fun _ h => h, rfl, [], rfl, List.nodup_nil, by simp⟩
theorem Grow.trans {S S' S'' : Sh} {w' w'' : World} (h : Grow S S' w') (k : Grow S' S'' w'') (hk : Keeps S'.p w' w'') : Grow S S'' w'' := by
  obtain ⟨bs, e, nd, hb⟩ := h.ds
  obtain ⟨cs, e', nd', hc⟩ := k.ds
  refine ⟨fun b hb => k.p b (h.p b hb), k.q.trans h.q, cs ++ bs, by rw [e', e]; simp, ?_, ?_⟩
  · rw [List.nodup_append]
    refine ⟨nd', nd, fun x hx y hy hxy => ?_⟩
    subst hxy
    exact (hc x hx).2.1 (hb x hy).1
  · intro b hm
    rcases List.mem_append.1 hm with hm | hm
    · obtain ⟨h1, h2, h3⟩ := hc b hm
      exact ⟨h1, fun hp => h2 (h.p b hp), h3⟩
    · obtain ⟨h1, h2, h3⟩ := hb b hm
      exact ⟨k.p b h1, h2, (hk.block b h1).trans h3⟩
def ResC (GL : List (Nat × List I)) (n : Nat) (S : Sh) (M : Mem) (w : World) (st' : St) (a' : Act) (w' : World) : Prop :=
  ∃ S', Grow S S' w' ∧ ∃ M' μ', Rel GL n S' M' μ' st' a' w' ∧ MExt S.p M M' ∧ Keeps S.p w w'
theorem MExt.less {S S' : Nat → Prop} {M M' : Mem} (h : MExt S M M') (hs : ∀ b, S' b → S b) : MExt S' M M' := ⟨h.le, fun b hb => h.old b (hs b hb)⟩
section
variable {GL : List (Nat × List I)} {n : Nat} {S S' : Sh}
theorem Res.c {M : Mem} {w w' : World} {st' : St} {a' : Act} (h : Res GL n S M w st' a' w') : ResC GL n S M w st' a' w' := by
  obtain ⟨M', μ', h, hm, hb⟩ := h
  exact ⟨S, Grow.refl S _, M', μ', h, hm, hb⟩
theorem ResC.of {M : Mem} {μ : Place} {w : World} {st : St} {a : Act} (h : Rel GL n S M μ st a w) : ResC GL n S M w st a w := (Res.of h).c
theorem ResC.trans {M M' : Mem} {w w' w'' : World} {st'' : St} {a'' : Act} (hg : Grow S S' w') (hm : MExt S.p M M') (hb : Keeps S.p w w') (k : ResC GL n S' M' w' st'' a'' w'') : ResC GL n S M w st'' a'' w'' := by
  obtain ⟨S2, g2, M2, μ2, h2, hm2, hb2⟩ := k
  exact ⟨S2, hg.trans g2 hb2, M2, μ2, h2, hm.trans (hm2.less hg.p), hb.trans (hb2.mono hg.p)⟩
end
def liftQ (GL : List (Nat × List I)) (n : Nat) (S : Sh) (M : Mem) (w : World) (K : Exit → St → Prop) : Exit → Act → World → Prop :=
  fun e a' w' => ∃ st', K e st' ∧ ResC GL n S M w st' a' w'
def FR (r : Option Nat) : Fence := { Fence.wide with round := r }
theorem FR_none : FR none = Fence.wide := rfl
section
variable (P : Program) (GL : List (Nat × List I)) (n : Nat) (mu : List Nat)
def compG (ops : Array Oper) (o : Oper) : Option GI :=
  let ins := (compOp P GL n mu o).getD (.no o.dst)
  match o.guard with
  | none => some ⟨none, ins⟩
  | some (j, want) => match (ops[j]?).bind (·.dst) with
    | some t => if t < n ∧ ins.dst = o.dst ∧ dstOk n o = true then some ⟨some (t, want), ins⟩ else none
    | none => none
def compOps (ops : Array Oper) : Option (List GI) := ops.toList.mapM (compG P GL n mu ops)
def stored (gs : List GI) : List Nat := gs.filterMap fun g => match g.ins with | .store (.t s) _ _ => some s | _ => none
def drawable (ins : Ins) : Bool := match ins with
  | .call _ _ _ | .callv _ _ _ | .alloc _ _ | .mupd _ _ _ _ | .store _ _ _ => true
  | ins => (pureDst ins).isSome
def chainIns : Ins → Bool
  | .app _ _ _ _ _ _ => true
  | .bsl _ _ _ _ => true
  | .bso _ _ _ _ => true
  | .callf _ _ _ => true
  | .callvf _ _ _ => true
  | .ment _ _ _ _ _ _ _ => true
  | .callo _ _ _ => true
  | _ => false
def opsC : Ins → List O
  | .app _ _ _ _ x y => [x, y]
  | .ment _ x k _ _ _ _ => [x, k]
  | .callo _ _ args => args
  | .callf _ _ args => args
  | .callvf _ f args => f :: args
  | .bsl _ _ _ ps => ps
  | .bso _ _ _ ps => ps
  | _ => []
def snOf (rt : List (Nat × Nat)) (gs : List GI) : List Nat := (stored gs).map fun s => match rt.find? (·.1 == s) with | some p => p.2 | none => s
def postOf (rt : List (Nat × Nat)) (gs : List GI) : List Nat := (stored gs).filter fun s => !mu.contains s && !(rt.any (·.1 == s))
def encB : Nat := 1000000
def gAt (gs : List GI) (i : Nat) : GI := gs.getD i ⟨none, .no none⟩
def dstG (g : GI) : List Nat := match g.ins.dst with | some d => [d] | none => []
def toF : Ins → Ins
  | .call d f args => .callf d f args
  | .callv d f args => .callvf d f args
  | .bsn d e k (p :: ps) => .bsl d e k (p :: ps)
  | ins => ins
def gF (gs : List GI) (i : Nat) : GI := ⟨(gAt gs i).gd, toF (gAt gs i).ins⟩
def guse (g : GI) : List Nat := match g.gd with | some (s, _) => [s] | none => []
def usOf (sn : List Nat) : List Nat := (sn.filter fun q => decide (encB ≤ q)).map fun q => q - encB
def chX (ql : List Nat) (p0 p : Nat) : List Nat := (List.range' p0 (p - p0)).filter fun i => !ql.contains i
def chQ (ql : List Nat) (p0 p : Nat) : List Nat := (List.range' p0 (p - p0)).filter fun i => ql.contains i
def usesL (g : GI) : List Nat := match g.ins with
  | .ext _ _ _ => guse g
  | _ => usesG g
def pureX (ins : Ins) : Bool := match ins with
  | .call _ _ _ | .callv _ _ _ => true
  | .alloc _ _ | .store _ _ _ | .mupd _ _ _ _ => false
  | ins => (pureDst ins).isSome
def rfFree : IR → Bool
  | .rf _ _ _ _ _ => false
  | .cut a b => rfFree a && rfFree b
  | .cond _ a b => rfFree a && rfFree b
  | .block _ c => rfFree c
  | .loop c => rfFree c
  | _ => true
def muD : List Nat := 9000 :: mu.filter fun q => Nat.ble 5000 q
def depL (ops : Array Oper) : List (List Nat) := ops.toList.map fun o => (o.after.toList.filter fun e => Region.binds .any e).map (·.on)
def ancT (ds : List (List Nat)) : List (List Nat) := ds.foldl (fun acc d => acc ++ [(d ++ d.flatMap fun j => acc.getD j []).eraseDups]) []
def ckE (ds : List (List Nat)) (n : Nat) : Bool := (List.range n).all fun i => (ds.getD i []).all fun d => Nat.blt d i
def ckA (ds anc : List (List Nat)) (n : Nat) : Bool := (List.range n).all fun i => (anc.getD i []).all fun j => (ds.getD i []).any fun d => Nat.beq d j || (anc.getD d []).contains j
def ckB (anc : List (List Nat)) (n p : Nat) : Bool := (List.range n).all fun i => Nat.blt i p || (List.range p).all fun j => (anc.getD i []).contains j
def ckS (ds : List (List Nat)) (p0 p1 : Nat) : Bool := (List.range p1).all fun i => Nat.ble i p0 || (ds.getD i []).contains (i - 1)
def chkC (anc : List (List Nat)) (gs gs' : List GI) (ql us : List Nat) (p0 p1 : Nat) : Bool :=
  let X := chX ql p0 p1
  let Q := chQ ql p0 p1
  (X.all fun i => drawable (gAt gs i).ins && X.all fun j => Nat.ble i j || ((anc.getD i []).contains j || indep (gAt gs j) (gAt gs i))) &&
  (Q.isEmpty || (((X.filter fun i => Q.any fun q => !(anc.getD q []).contains i).all fun i => (usesL (gAt gs i) ++ dstG (gAt gs i)).all us.contains)
    && (Q.all fun q => chainIns (gF gs' q).ins && (gF gs' q).ins.dst.isSome && ((dstG (gF gs' q)).all fun d => !us.contains d) && (Q.all fun r => Nat.ble r q || (anc.getD r []).contains q)
      && X.all fun i => (anc.getD q []).contains i || (pureX (gAt gs i).ins && ((dstG (gF gs' q)).all fun d => !(usesG (gAt gs i)).contains d) && (dstG (gAt gs i)).all fun d => !((opsC (gF gs' q).ins).flatMap usesO ++ guse (gF gs' q)).contains d))
    && X.all fun i => (dstG (gAt gs i)).all fun d => !(usesG (gAt gs i)).contains d && X.all fun j => Nat.ble i j || (!(usesG (gAt gs j)).contains d && !(dstG (gAt gs j)).contains d)))
def cutI (a : IR) : IR → IR
  | .skip => a
  | b => .cut a b
/-- The pieces of an open region, as they are told: where a piece ends (0: at the end); one after the other (0); or in any order; or what of them waits, and the slots that it leaves alone. -/
def endP (n : Nat) : List Nat → Nat
  | 0 :: _ | [] => n
  | p :: _ => p
def endL : List Nat → List Nat
  | [] => [0]
  | _ :: l => l
def pieceI (c : Bool) (rt : List (Nat × Nat)) (ops : Array Oper) (gs gs' : List GI) (p0 p1 : Nat) (y : IR) : List Nat → Option IR
  | 0 :: _ => if (match c with | true => ckS (depL ops) p0 p1 | _ => true) = true then some (cutI (.reg ((gs'.take p1).drop p0)) y) else none
  | [] =>
    let G := (gs.take p1).drop p0
    if (match c with | true => chkC (ancT (depL ops)) gs gs' [] (usOf (snOf rt G)) p0 p1 | _ => true) = true then some (cutI (.dreg (snOf rt G) G (postOf mu rt G)) y) else none
  | k :: l => if (match c with | true => chkC (ancT (depL ops)) gs gs' (l.take k) (usOf ((l.drop k).map (· + encB))) p0 p1 | _ => true) = true then some (cutI (.dreg ((l.drop k).map (· + encB)) ((chX (l.take k) p0 p1).map (gAt gs) ++ (chQ (l.take k) p0 p1).map (gF gs')) []) y) else none
def regC (c : Bool) (rt : List (Nat × Nat)) (ops : Array Oper) (gs gs' : List GI) (n : Nat) : List (List Nat) → Nat → Option IR
  | [], p0 => if (match c with | true => Nat.ble n p0 | _ => true) = true then some .skip else none
  | h :: r, p0 => if (match c with | true => Nat.ble p0 (endP n h) && (Nat.beq (endP n h) n || (Nat.ble (endP n h) n && ckB (ancT (depL ops)) n (endP n h))) | _ => true) = true then
      (regC c rt ops gs gs' n r (endP n h)).bind fun y => pieceI mu c rt ops gs gs' p0 (endP n h) y (endL h)
    else none
def getH (k : Nat) : List (Nat × List (List Nat)) → List (List Nat)
  | [] => []
  | p :: r => if Nat.beq p.1 k then p.2 else getH k r
/-- What the compiler gives, by what is told about the open regions; c: what is told is checked. -/
def comp (c : Bool) (rt : List (Nat × Nat)) (h : List (Nat × List (List Nat))) : Code → Option IR
  | .skip => some .skip
  | .region i ops draw => match (if draw then getH i h else []) with
    | [] => if (match c with | true => !draw || (P.follows .mixedOrders && (ckE (depL ops) ops.size && ckS (depL ops) 0 ops.size)) | _ => true) = true then (compOps P GL n mu ops).map .reg else none
    | [] :: [] :: _ => some (.reg [⟨none, .no none⟩])
    | hs => match compOps P GL n (muD mu) ops, compOps P GL n mu ops with
      | some gs, some gs' => if (match c with | true => P.follows .mixedOrders && (ckE (depL ops) ops.size && ckA (depL ops) (ancT (depL ops)) ops.size) | _ => true) = true then regC mu c rt ops gs gs' ops.size hs 0 else none
      | _, _ => none
  | .seq a b => match comp c rt h a, comp c rt h b with | some x, some y => some (.cut x y) | _, _ => none
  | .cond x a b => match cO GL x, comp c rt h a, comp c rt h b with | some oc, some a, some b => some (.cond oc a b) | _, _, _ => none
  | .block id x => (comp c rt h x).map (.block id)
  | .loop x => (comp c rt h x).map .loop
  | .exit id => some (.exit id)
  | .ret => some .ret
  | .rangeFunc g ps x y => match cO GL g, comp c rt h x, comp c rt h y with
    | some og, some ix, some iy => if (rfFree ix && rfFree iy && ps.toList.all fun p => Nat.blt p n) = true then some (.rf n og ps.toList ix iy) else none
    | _, _, _ => none
  | _ => none
def blockK (id : Nat) (K : Exit → St → Prop) : Exit → St → Prop
  | .exit id', s => if id' = id then K .normal s else K (.exit id') s
  | e, s => K e s
def loopK {ι : Type} (F : ι → St) (μ : ι → Nat) (m : Nat) (K : Exit → St → Prop) : Exit → St → Prop
  | .normal, s => ∃ i, μ i < m ∧ Sub (F i) s
  | e, s => K e s
def notIn (sn : List Nat) (d : D) : Prop := ∀ nm ∈ d.nms, nm ∉ sn
def blkNo : Option Blk → Prop
  | none => False
  | some b => b.nms = []
def okMs (N : List Nat) (st : St) : List Nat → Prop
  | [] => True
  | m :: r => (N.contains m = false ∧ blkNo (getS st.sto m)) ∧ okMs N st r
def dataV (N : List Nat) (st : St) : List Nat → Prop
  | [] => True
  | u :: r => okMs N st (getE st.env u).nms ∧ dataV N st r
def nmC (ins : Ins) (st : St) : List Nat := match ins with
  | .callf _ _ args => oN GL st args
  | .callvf _ f args => oN GL st (f :: args)
  | ins => (opsC ins).flatMap fun o => (opv GL st o).nms
def stepC (sn : List Nat) (ins : Ins) (st : St) (K : St → Prop) : Prop := dataV (nmC GL ins st) st (usOf sn) ∧ step P GL ins st K
def stepD (sn : List Nat) (ins : Ins) (st : St) (K : St → Prop) : Prop :=
  match ins with
  | .call d f args => (args.all fun o => isI (opv GL st o)) = true ∧ ∃ y, Is1 P GL f (args.map (opv GL st)) y ∧ K (putO st d (.i y))
  | .callv d fo args => isI (opv GL st fo) = true ∧ (args.all fun o => isI (opv GL st o)) = true ∧ match getV (opv GL st fo) (args.map (opv GL st)) with
    | some p => ∃ y, Is1 P GL p.1 p.2 y ∧ K (putO st d (.i y))
    | none => False
  | .alloc d zs => step P GL (.alloc d zs) st K
  | .mupd ox oq ov ls => step P GL (.mupd ox oq ov ls) st K
  | .store ox ov k => (match opv GL st ox with | .ref (.loc nm _) => nm ∈ sn | _ => False) ∧ step P GL (.store ox ov k) st K
  | .load d x k ag => notIn sn (opv GL st x) ∧ step P GL (.load d x k ag) st K
  | .ia d s i k => (notIn sn (opv GL st s) ∧ notIn sn (opv GL st i)) ∧ step P GL (.ia d s i k) st K
  | .slc d x lo hi k => (∀ o ∈ opsOf (.slc d x lo hi k), notIn sn (opv GL st o)) ∧ step P GL (.slc d x lo hi k) st K
  | .app d e k b x y => stepC P GL sn (.app d e k b x y) st K
  | .bsl d e k ps => stepC P GL sn (.bsl d e k ps) st K
  | .bso d e k ps => stepC P GL sn (.bso d e k ps) st K
  | .callf d f args => stepC P GL sn (.callf d f args) st K
  | .callvf d f args => stepC P GL sn (.callvf d f args) st K
  | .ment d x key zero ls e k => stepC P GL sn (.ment d x key zero ls e k) st K
  | .callo d f args => stepC P GL sn (.callo d f args) st K
  | ins => (pureDst ins).isSome = true ∧ step P GL ins st K
def evD (sn : List Nat) : List GI → St → (St → Prop) → Prop
  | [], st, K => K st
  | g :: r, st, K =>
    match g.gd with
    | none => stepD P GL sn g.ins st fun s => evD sn r s K
    | some (s, want) => gdE (getE st.env s) want (stepD P GL sn g.ins st fun s => evD sn r s K) (evD sn r (skipI g.ins st) K)
def snap (e : Env) : List Nat → List (Nat × D)
  | [] => []
  | s :: r => (s, getE e s) :: snap e r
def prn (ks : List Nat) (s : St) : St := ⟨.l (snap s.env ks), s.sto⟩
def SubQ (S s : St) : Prop := S = s ∨ Sub S s ∨ ∃ ks, S = prn ks s
def cutK (W : (Exit → St → Prop) → St → Prop) (K : Exit → St → Prop) : Exit → St → Prop
  | .normal, s => ∃ S, SubQ S s ∧ W K S
  | e, s => K e s
theorem cutK_mono {W W' : (Exit → St → Prop) → St → Prop} {K K' : Exit → St → Prop} (hw : ∀ s, W K s → W' K' s) (hk : ∀ e s, K e s → K' e s) : ∀ e s, cutK W K e s → cutK W' K' e s
  | .normal, s, ⟨S, h, h1⟩ => ⟨S, h, hw S h1⟩
  | .exit _, s, h | .goto _, s, h | .ret, s, h | .panic _, s, h | .outgrown, s, h => hk _ s h
def slotN (post : List Nat) (s : St) : List Nat := post.flatMap fun t => (getE s.env t).nms
inductive Jm where
  | none
  | ret
  | exit (id : Nat)
  deriving DecidableEq
def Jm.code : Jm → Option Code
  | .none => Option.none
  | .ret => some .ret
  | .exit id => some (.exit id)
def Jm.ex : Jm → Exit
  | .none => .normal
  | .ret => .ret
  | .exit id => .exit id
def Jm.go : Jm → Bool
  | .none => true
  | _ => false
def okY (mv : List Nat) (l : List (Nat × Blk)) : Bool := ((l.map (·.1)).all fun q => (Nat.ble 5000 q && Nat.blt q 5500) || (mv.contains q && Nat.ble 5500 q && Nat.blt q 6000)) && clS l l && nodupB (l.map (·.1))
def okV (mv : List Nat) : Bool := mv.all fun q => Nat.ble 5500 q && Nat.blt q 6000
def SeqC (gf : FuncId) (caps : List I) (xs : List (List I)) : Prop :=
  ∀ (y : FuncId) (m : Nat → List (Nat × Blk)) (mv : List Nat) (N : Nat) (go : Nat → Bool), okV mv = true → (∀ j, okY mv (m j) = true ∧ (m j).map (·.1) = (m 0).map (·.1)) →
    N ≤ xs.length → (∀ j, j + 1 < N → go j = true) → (N < xs.length → 0 < N ∧ go (N - 1) = false) →
    (∀ j, j < N → MC P GL y ((xs.getD j []).map .i) (m j) mv (fun r s => r = .i (.bool (go j)) ∧ s = m (j + 1))) →
    MC P GL gf (.i (.fn y [] []) :: caps.map .i) (m 0) mv (fun r s => r = .i (.tup []) ∧ s = m N)
def SeqG (gf : FuncId) (caps : List I) (ι : Type) (i0 : ι) (Nx : ι → List I → ι → Prop) (Fin : ι → Prop) : Prop :=
  ∀ (y : FuncId) (m : ι → List (Nat × Blk)) (mv : List Nat) (stop : ι → Bool), okV mv = true → stop i0 = false → (∀ i, okY mv (m i) = true ∧ (m i).map (·.1) = (m i0).map (·.1)) →
    (∀ i x i', Nx i x i' → stop i = false → MC P GL y (x.map .i) (m i) mv (fun r s => r = .i (.bool (!stop i')) ∧ s = m i')) →
    MC P GL gf (.i (.fn y [] []) :: caps.map .i) (m i0) mv (fun r s => r = .i (.tup []) ∧ ∃ i, (stop i = true ∨ Fin i) ∧ s = m i)
theorem first_stop (stop : Nat → Bool) : ∀ L : Nat, ∃ N, N ≤ L ∧ (∀ j, j < N → stop j = false) ∧ (N = L ∨ stop N = true)
  | 0 => ⟨0, Nat.le_refl _, fun j h => absurd h (Nat.not_lt_zero j), .inl rfl⟩
  | L + 1 => by
    obtain ⟨N, h1, h2, h3⟩ := first_stop stop L
    grind
theorem SeqC.g {gf : FuncId} {caps : List I} {xs : List (List I)} (h : SeqC P GL gf caps xs) : SeqG P GL gf caps Nat 0 (fun j x j' => j < xs.length ∧ x = xs.getD j [] ∧ j' = j + 1) (fun j => j = xs.length) := by
  intro y m mv stop hV h0 hm hy
  obtain ⟨N, h1, h2, h3⟩ := first_stop stop xs.length
  refine (h y m mv N (fun j => !stop (j + 1)) hV hm h1 (fun j hj => by simp only [h2 (j + 1) hj]; rfl) (fun hlt => ?_) (fun j hj => hy j _ (j + 1) ⟨by omega, rfl, rfl⟩ (h2 j hj))).mono ?_
  all_goals grind
def rfK (nx : List (Nat × Blk)) (j : Jm) : Exit → St → Prop := fun e s => e = j.ex ∧ ∃ l, subS nx (frzNs l s).sto
def asgK (W : (Exit → St → Prop) → St → Prop) (K : Exit → St → Prop) : Exit → St → Prop
  | .normal, s => cutK W K .normal s
  | _, _ => False
def setP : List Nat → List I → List (Nat × D) → List (Nat × D)
  | p :: ps, x :: xs, e => setP ps xs ((p, .i x) :: e)
  | _, _, e => e
def subL (f : List (Nat × Nat)) : Nat → List D → Env → Prop
  | _, [], _ => True
  | i, x :: xs, e => (x = .any ∨ getE e i = mpD (swi f) x) ∧ subL f (i + 1) xs e
def okL (l : List (Nat × Blk)) (L : List D) : Bool := L.all fun x => inS l x.nms && x.nms.all fun q => Nat.ble 5000 q && Nat.blt q 5499
def no99 (l : List (Nat × Blk)) : Bool := (l.map (·.1)).all fun q => !(q == 5499)
def rfAft (st : St) (mv : List Nat) (m0 mN : List (Nat × Blk)) (K : St → Prop) : Prop :=
  (∀ nm ∈ (renS 999 mN).map (·.1), (getS m0 nm).isSome = true ∨ (getS st.sto nm = none ∧ nm < 5000)) ∧ (∀ nm ∈ m0.map (·.1), (getS mN nm).isSome = true → ren 999 nm = nm) ∧ (mv.all fun m => Nat.blt m 5000 || Nat.ble 5500 m) = true ∧ K (callSt st m0 mN mv 999)
def rfW (n : Nat) (og : O) (ps : List Nat) (Wa Wb : (Exit → St → Prop) → St → Prop) (K : Exit → St → Prop) (st : St) : Prop :=
  ∃ gf caps, ∃ (ι : Type) (i0 : ι) (Nx : ι → List I → ι → Prop) (Fin : ι → Prop), opv GL st og = .i (.fn gf [] caps) ∧ enters P gf = true ∧ SeqG P GL gf caps ι i0 Nx Fin ∧
    ∃ (f : List (Nat × Nat)) (L : List D) (m : ι → List (Nat × Blk)) (mv : List Nat) (jm : ι → Jm),
      jm i0 = .none ∧ okV mv = true ∧ (∀ i, okY mv (m i) = true ∧ no99 (m i) = true ∧ okL (m i) L = true ∧ (m i).map (·.1) = (m i0).map (·.1)) ∧
      L.length = n ∧ subL f 0 L st.env ∧ sws f 5499 = 5499 ∧ subS (mpS (swi f) (m i0)) st.sto ∧
      (∀ i x i', Nx i x i' → jm i = .none → x.length = ps.length ∧ Wa (asgK Wb (rfK (m i') (jm i'))) ⟨.l (setP ps x (env0 0 L)), m i⟩) ∧
      ∀ i, (jm i ≠ .none ∨ Fin i) → rfAft st (mv.map (swi f)) (mpS (swi f) (m i0)) (mpS (swi f) (m i)) (K (jm i).ex)
theorem rfW_mono {n : Nat} {og : O} {ps : List Nat} {Wa Wa' Wb Wb' : (Exit → St → Prop) → St → Prop} {K K' : Exit → St → Prop} {st : St} (h : rfW P GL n og ps Wa Wb K st)
    (ha : ∀ {K K' : Exit → St → Prop} {s}, Wa K s → (∀ e s, K e s → K' e s) → Wa' K' s) (hb : ∀ {K : Exit → St → Prop} {s}, Wb K s → Wb' K s) (hk : ∀ e s, K e s → K' e s) : rfW P GL n og ps Wa' Wb' K' st := by
  obtain ⟨gf, caps, ι, i0, Nx, Fin, e1, e2, e3, f, L, m, mv, jm, q1, q2, q3, q4, q5, q6, q7, q8, q9⟩ := h
  refine ⟨gf, caps, ι, i0, Nx, Fin, e1, e2, e3, f, L, m, mv, jm, q1, q2, q3, q4, q5, q6, q7, fun i x i' hx hi => ⟨(q8 i x i' hx hi).1, ha (q8 i x i' hx hi).2 fun e s hs => ?_⟩, fun i hi => ⟨(q9 i hi).1, (q9 i hi).2.1, (q9 i hi).2.2.1, hk _ _ (q9 i hi).2.2.2⟩⟩
  cases e with
  | normal => exact cutK_mono (fun s h => hb h) (fun _ _ h => h) .normal s hs
  | _ => exact hs
def prnK (ks : List Nat) (W : (Exit → St → Prop) → St → Prop) (K : Exit → St → Prop) : Exit → St → Prop
  | .normal, s => W K (prn ks s)
  | e, s => K e s
def W2 : J → (Exit → St → Prop) → St → Prop
  | .skip, K, st => K .normal st
  | .rg gs, K, st => ev P GL gs st (K .normal)
  | .dr sn _ gs post, K, st => ∃ l, evD P GL sn gs (frzNs l st) fun s => K .normal (frzNs (slotN post s) s)
  | .sq ks a b, K, st => W2 a (prnK ks (W2 b) K) st
  | .ct _ a b, K, st => W2 a (cutK (W2 b) K) st
  | .cond c a b, K, st => match opv GL st c with
    | .i (.bool t) => br t (W2 a K st) (W2 b K st)
    | _ => False
  | .block id c, K, st => W2 c (blockK id K) st
  | .lp c, K, st => ∃ (ι : Type) (F : ι → St) (m : ι → Nat) (i₀ : ι), Sub (F i₀) st ∧ ∀ i, W2 c (loopK F m (m i) K) (F i)
  | .exit id, K, st => K (.exit id) st
  | .ret, K, st => K .ret st
  | .rf n og ps a b, K, st => rfW P GL n og ps (W2 a) (W2 b) K st
end
section
variable {P : Program} {GL : List (Nat × List I)} {n : Nat} {S : Sh} {mu : List Nat}
theorem skip_rel {M : Mem} {μ : Place} {st : St} {a : Act} {w : World} (h : Rel GL n S M μ st a w) {ins : Ins} {o : Oper} (hd : ins.dst = o.dst) (hn : ∀ d, o.dst = some d → d < n) :
    Rel GL n S M μ (skipI ins st) (a.put o.dst Go.undef) w := by
  unfold skipI
  rw [hd]
  cases hod : o.dst with
  | none => exact h
  | some d => exact h.put (hn d hod) (repD_i .undef)
theorem wpX_in {P : Program} {o : Oper} {a : Act} {w : World} {nx : Act → World → Prop} {Q : Exit → Act → World → Prop} (r : Option Nat) (hd : ∀ c, o.op ≠ .defer c) (h : o.wpX P a w nx Q) : o.wpIn (FR r) 0 P a w nx Q := by
  refine ⟨fun _ _ => trivial, ?_⟩
  have e : o.semAt (FR r).round a.eval = execOp a.eval o := by
    cases r with
    | none => exact Oper.semAt_none _ _
    | some l => exact Oper.semAt_some l _ o hd
  rw [e]
  exact h
theorem gd_wanted {ops : Array Oper} {M : Mem} {μ : Place} {st : St} {a : Act} {w : World} (h : Rel GL n S M μ st a w) {o : Oper} {g : GI} (hg : compG P GL n mu ops o = some g) {b : Bool}
    (hb : gdOf g.gd st = some b) : Region.wanted o (yielded ops a.tmps) = b := by
  unfold compG at hg
  cases hgd : o.guard with
  | none =>
    simp only [hgd, Option.some.injEq] at hg
    subst hg
    simp only [gdOf, Option.some.injEq] at hb
    subst hb
    simp [Region.wanted, hgd]
  | some jw =>
    obtain ⟨j, want⟩ := jw
    simp only [hgd] at hg
    cases hj : (ops[j]?).bind (·.dst) with
    | none => simp [hj] at hg
    | some t =>
      simp only [hj] at hg
      split at hg
      · rename_i hcond
        cases hg
        have htmp : a.tmps[t]? = some (a.tmps.getD t Go.undef) := by
          have : t < a.tmps.size := by rw [h.size]; exact hcond.1
          simp [this]
        have hy : yielded ops a.tmps j = match a.tmps.getD t Go.undef with | .bool b => some b | _ => none := by unfold yielded; rw [hj]; simp only [Option.bind_some]; rw [htmp]; cases a.tmps.getD t Go.undef <;> rfl
        have hre := h.env t
        simp only [gdOf] at hb
        split at hb
        · rename_i b' heq
          cases hb
          rw [heq] at hre
          have hbv := bool_inv (repD_i_inv hre)
          rw [hbv] at hy
          simp only [Region.wanted, hgd, hy]
          cases want <;> cases b' <;> rfl
        · rename_i heq
          cases hb
          rw [heq] at hre
          have hbv : a.tmps.getD t Go.undef = Go.undef := by
            have := repD_i_inv hre
            generalize a.tmps.getD t Go.undef = v at this
            cases this; rfl
          rw [hbv] at hy
          simp only [Go.undef] at hy
          simp [Region.wanted, hgd, hy]
        · cases hb
      · cases hg
theorem compG_ins {ops : Array Oper} {o : Oper} {g : GI} (hg : compG P GL n mu ops o = some g) : (compOp P GL n mu o).getD (.no o.dst) = g.ins ∧ (g.gd ≠ none → g.ins.dst = o.dst ∧ ∀ d, o.dst = some d → d < n) := by grind [compG,dstOk]
theorem compOp_ndef {o : Oper} {ins : Ins} (h : compOp P GL n mu o = some ins) : ∀ c, o.op ≠ .defer c := fun c e => by grind [compOp]
theorem step_ndef {st : St} {K : St → Prop} {o : Oper} {ins : Ins} (hc : (compOp P GL n mu o).getD (.no o.dst) = ins) (hs : step P GL ins st K) : ∀ c, o.op ≠ .defer c := by
  cases hop : compOp P GL n mu o with
  | none => rw [hop] at hc; simp only [Option.getD_none] at hc; subst hc; exact (show False from hs).elim
  | some i => exact compOp_ndef hop
theorem snd_opN {M : Mem} {μ : Place} {st : St} {a : Act} {w : World} {K : St → Prop} {Q : Exit → Act → World → Prop} {o : Oper} (h : Rel GL n S M μ st a w) {ins : Ins} (hc : (compOp P GL n mu o).getD (.no o.dst) = ins) (hs : step P GL ins st K) : o.wpX P a w (Goal GL n S M w K) Q := by
  cases hop : compOp P GL n mu o with
  | none => rw [hop] at hc; simp only [Option.getD_none] at hc; subst hc; exact (show False from hs).elim
  | some i => rw [hop] at hc; simp only [Option.getD_some] at hc; subst hc; exact snd_op h hop hs
theorem ev_cons {g : GI} {r : List GI} {st : St} {K : St → Prop} : ev P GL (g :: r) st K ↔ match g.gd with | none => step P GL g.ins (frzNs (preN GL g.ins st) st) (fun s => ev P GL r s K) | some (s, want) => gdE (getE st.env s) want (step P GL g.ins (frzNs (preN GL g.ins st) st) (fun s => ev P GL r s K)) (ev P GL r (skipI g.ins st) K) := by rfl
theorem br_mono {b : Bool} {A A' C C' : Prop} (h : br b A C) (h1 : A → A') (h2 : C → C') : br b A' C' := ⟨fun e => h1 (h.1 e), fun e => h2 (h.2 e)⟩
theorem gdE_mono {v : D} {b : Bool} {A A' C C' : Prop} (h : gdE v b A C) (h1 : A → A') (h2 : C → C') : gdE v b A' C' := by
  unfold gdE at *
  grind [br_mono]
theorem slcO_mono {lo hi : Option Int} {top : Nat} {K K' : Nat → Nat → Prop} (h : slcO lo hi top K) (hk : ∀ a c, K a c → K' a c) : slcO lo hi top K' := by
  unfold slcO at *; split at h
  all_goals grind
theorem callG_mono {get : St → Option (FuncId × List D)} {st : St} {d : Option Nat} {K K' : St → Prop} (h : callG P GL get st d K) (hk : ∀ s, K s → K' s) : callG P GL get st d K' := by
  obtain ⟨l, h⟩ := h
  refine ⟨l, ?_⟩
  split at h
  · rcases h with ⟨sto, mv, R, h1, h2, h3, h4, h6, h5⟩ | ⟨R, h1, h2, h3⟩ | ⟨sto, mv, R, h1, h2, h3, h4, h6, h5⟩
    · exact .inl ⟨sto, mv, R, h1, h2, h3, h4, h6, fun r s hr => ⟨(h5 r s hr).1, (h5 r s hr).2.1, hk _ (h5 r s hr).2.2⟩⟩
    · exact .inr (.inl ⟨R, h1, h2, fun r s hr => by obtain ⟨y, e1, e2, e3⟩ := h3 r s hr; exact ⟨y, e1, e2, hk _ e3⟩⟩)
    · exact .inr (.inr ⟨sto, mv, R, h1, h2, h3, h4, h6, fun r s hr => by obtain ⟨k1, k2, y, s', k3, k4, k5⟩ := h5 r s hr; exact ⟨k1, k2, y, s', k3, k4, hk _ k5⟩⟩)
  · exact h.elim
theorem appA_mono {fr : Option Blk} {e' k' : Nat} {rs : List (Option (List I))} {nm k0 lo hi d e k b : Nat} {ys : List (List I)} {st : St} {K K' : St → Prop} (h : appA fr e' k' rs nm k0 lo hi d e k b ys st K) (hk : ∀ s, K s → K' s) : appA fr e' k' rs nm k0 lo hi d e k b ys st K' := by
  obtain ⟨q1, q2, q3, q4, q5, q6, q7, q8⟩ := h
  exact ⟨q1, q2, q3, q4, q5, q6, fun hh => hk _ (q7 hh), fun hh => by obtain ⟨as, r1, r2, r3, r4, r5, r6⟩ := q8 hh; exact ⟨as, r1, r2, r3, r4, r5, fun c => hk _ (r6 c)⟩⟩
theorem appE_mono {x y : D} {d e k b : Nat} {st : St} {K K' : St → Prop} (h : appE x y d e k b st K) (hk : ∀ s, K s → K' s) : appE x y d e k b st K' := by
  unfold appE at *; split at h
  · unfold appS at *; split at h
    · split at h
      · obtain ⟨q1, q2, q3, q4, q5, q6, q7, q8⟩ := h
        exact ⟨q1, q2, q3, q4, q5, q6, fun hh => hk _ (q7 hh), fun hh => by obtain ⟨as, r1, r2, r3, r4, r5, r6⟩ := q8 hh; exact ⟨as, r1, r2, r3, r4, r5, fun c => hk _ (r6 c)⟩⟩
      · exact h
    · split at h
      · unfold appB at *; split at h; exact ⟨h.1, h.2.1, h.2.2.1, h.2.2.2.1, h.2.2.2.2.1, h.2.2.2.2.2.1, h.2.2.2.2.2.2.1, h.2.2.2.2.2.2.2.1, h.2.2.2.2.2.2.2.2.1, hk _ h.2.2.2.2.2.2.2.2.2⟩; exact h
      · exact h
  · exact h
theorem lookB_mono {b : Option Blk} {ls : List LK} {q zero : I} {ok : Bool} {d : Nat} {st : St} {K K' : St → Prop} (h : lookB b ls q zero ok d st K) (hk : ∀ s, K s → K' s) : lookB b ls q zero ok d st K' := by unfold lookB at *; split at h; exact ⟨h.1, hk _ h.2⟩; exact h
theorem lookE_mono {x key : D} {zero : I} {ok : Bool} {ls : List LK} {d : Nat} {st : St} {K K' : St → Prop} (h : lookE x key zero ok ls d st K) (hk : ∀ s, K s → K' s) : lookE x key zero ok ls d st K' := by
  unfold lookE at *
  split at h
  all_goals grind [lookB_mono]
theorem gout_mono {ok : Bool} {r : Option D} {zero : I} {d : Nat} {st : St} {K K' : St → Prop} (h : gout ok r zero d st K) (hk : ∀ s, K s → K' s) : gout ok r zero d st K' := by
  unfold gout at *
  grind
theorem step_mono {ins : Ins} {st : St} {K K' : St → Prop} (h : step P GL ins st K) (hk : ∀ s, K s → K' s) : step P GL ins st K' := by
  cases hd : pureDst ins with
  | some d =>
    simp_all [step_pv]
  | none =>
    cases ins <;> simp only [pureDst, reduceCtorEq] at hd <;> simp only [step] at h ⊢
    case nils => unfold nilsE at *; split at h <;> exact hk _ h
    case box => unfold boxE at *; split at h; exact hk _ h; exact h
    case boxm => unfold newE at *; split at h; exact ⟨h.1, hk _ h.2⟩; exact h
    case alloc => unfold newE at *; split at h; exact ⟨h.1, hk _ h.2⟩; exact h
    case store =>
      unfold storeE at *; split at h
      · unfold storeB at *; split at h; exact ⟨h.1, h.2.1, h.2.2.1, hk _ h.2.2.2⟩; exact h
      · unfold storeR at *; split at h; exact ⟨h.1, h.2.1, h.2.2.1, h.2.2.2.1, h.2.2.2.2.1, h.2.2.2.2.2.1, hk _ h.2.2.2.2.2.2⟩; exact h
      · exact h
    case stfrz =>
      unfold stfrzE at *; split at h
      · unfold stfrzB at *; split at h; exact ⟨h.1, h.2.1, h.2.2.1, h.2.2.2.1, h.2.2.2.2.1, hk _ h.2.2.2.2.2⟩; exact h
      · exact h
    case isnil =>
      unfold isnilE at *; split at h
      · exact hk _ h
      · split at h <;> first | exact fun b => hk _ (h b) | exact h
    case bso d e k ps => exact ⟨h.1, by have h2 := h.2; unfold ownE at *; split at h2; exact hk _ h2; exact h2⟩
    case bsl d e k ps =>
      cases ps with
      | nil => simp only [step.nilsE'] at h ⊢; split at h; exact hk _ h; exact h
      | cons p ps => exact ⟨h.1, hk _ h.2⟩
    case call => exact callG_mono h hk
    case callv => exact callG_mono h hk
    case inv => exact callG_mono h hk
    case calln => unfold callnE at *; split at h; exact callG_mono h hk; exact h
    case callf => unfold callF callF2 at *; split at h; exact ⟨h.1, h.2.choose, h.2.choose_spec.1, hk _ h.2.choose_spec.2⟩; exact h
    case callvf => unfold callF callF2 at *; split at h; exact ⟨h.1, h.2.choose, h.2.choose_spec.1, hk _ h.2.choose_spec.2⟩; exact h
    case callo => obtain ⟨h1, R, h2, h3⟩ := h; exact ⟨h1, R, h2, fun r s hr => ⟨(h3 r s hr).1, hk _ (h3 r s hr).2⟩⟩
    case app => exact appE_mono h hk
    case appz =>
      unfold appzE at *; split at h
      · unfold appzB at *; split at h; exact ⟨h.1, h.2.1, h.2.2.1, appA_mono h.2.2.2 hk⟩; exact h
      · exact h
    case mkgm => unfold mkgmE at *; split at h; exact hk _ h; exact h
    case lookg =>
      unfold lookgE at *; split at h
      · refine ⟨h.1, ?_⟩
        have h := h.2
        unfold lookgB at *; split at h
        · exact ⟨h.1, gout_mono h.2 hk⟩
        · exact lookB_mono h hk
      · exact lookE_mono h hk
    case mupdg =>
      unfold mupdgE at *; split at h
      · refine ⟨h.1, ?_⟩
        have h := h.2
        unfold mupdgB at *; split at h
        · exact ⟨h.1, hk _ h.2⟩
        · exact ⟨h.1, hk _ h.2⟩
        · exact h
      · exact h
    case ment =>
      unfold mentE at *; split at h
      · refine ⟨h.1, ?_⟩
        have h := h.2
        unfold mentB at *; split at h
        · refine ⟨h.1, ?_⟩
          have h := h.2
          split at h
          · unfold mentV at *; split at h
            · split at h; exact hk _ h; exact h
            · exact h
          · unfold mentZ at *; split at h; exact hk _ h; exact h
        · exact h
      · exact h
    case ests =>
      unfold estsE at *; split at h
      · unfold estsB at *; split at h; exact ⟨h.1, hk _ h.2⟩; exact h
      · exact h
    case cap =>
      unfold capE at *; split at h
      · unfold capB at *; split at h; exact hk _ h; exact fun c hc => hk _ (h c hc); exact h
      · exact h
    case cpy =>
      unfold cpyE at *; split at h
      · unfold cpyB at *; split at h; exact ⟨h.1, h.2.1, h.2.2.1, h.2.2.2.1, h.2.2.2.2.1, hk _ h.2.2.2.2.2⟩; exact h
      · exact h
    case clr =>
      unfold clrE at *; split at h
      · unfold clrB at *; split at h; exact ⟨h.1, h.2.1, h.2.2.1, hk _ h.2.2.2⟩; exact ⟨h.1, h.2.1, h.2.2.1, hk _ h.2.2.2⟩; exact h
      · exact h
    case mksl => unfold mkslE at *; split at h; exact ⟨h.1, h.2.1, h.2.2.1, hk _ h.2.2.2⟩; exact h
    case slc3 => unfold slc3E at *; split at h; exact ⟨h.1, hk _ h.2⟩; exact ⟨h.1, hk _ h.2⟩; exact h
    case slc0 => unfold slc0E at *; split at h; exact hk _ h; exact h
    case mkmap => unfold mkmapE at *; split at h <;> exact hk _ h
    case mupd =>
      unfold mupdE at *; split at h
      · refine ⟨h.1, ?_⟩
        have h := h.2
        unfold mupdB at *; split at h; exact ⟨h.1, hk _ h.2⟩; exact h
      · exact h
    case rng => unfold rngE at *; split at h; exact hk _ h; exact hk _ h; exact h
    case nxt =>
      unfold nxtE at *; split at h
      · unfold nxtB at *; split at h; exact ⟨fun e => hk _ (h.1 e), fun i hi => hk _ (h.2 i hi)⟩; exact h
      · exact h
    case ent =>
      unfold entE at *; split at h
      · unfold entB at *; split at h; exact hk _ h; exact h
      · exact h
theorem ev_mono : ∀ {gs : List GI} {st : St} {K K' : St → Prop}, ev P GL gs st K → (∀ s, K s → K' s) → ev P GL gs st K'
  | [], st, K, K', h, hk => hk _ h
  | g :: r, st, K, K', h, hk => by
    have q1 : ∀ s, ev P GL r s K → ev P GL r s K' := fun s hs => ev_mono hs hk
    grind [ev_cons,step_mono,gdE_mono]
theorem stepD_mono {sn : List Nat} {ins : Ins} {st : St} {K K' : St → Prop} (h : stepD P GL sn ins st K) (hk : ∀ s, K s → K' s) : stepD P GL sn ins st K' := by
  cases ins <;> simp only [stepD] at h ⊢
  case call => obtain ⟨h1, y, h2, h3⟩ := h; exact ⟨h1, y, h2, hk _ h3⟩
  case callv =>
    refine ⟨h.1, h.2.1, ?_⟩
    have h := h.2.2
    split at h
    · obtain ⟨y, h2, h3⟩ := h; exact ⟨y, h2, hk _ h3⟩
    · exact h
  case alloc => exact step_mono h hk
  case mupd => exact step_mono h hk
  case app => exact ⟨h.1, step_mono h.2 hk⟩
  case ment => exact ⟨h.1, step_mono h.2 hk⟩
  case callo => exact ⟨h.1, step_mono h.2 hk⟩
  case callf => exact ⟨h.1, step_mono h.2 hk⟩
  case callvf => exact ⟨h.1, step_mono h.2 hk⟩
  case bsl => exact ⟨h.1, step_mono h.2 hk⟩
  all_goals exact ⟨h.1, step_mono h.2 hk⟩
theorem evD_mono {sn : List Nat} : ∀ {gs : List GI} {st : St} {K K' : St → Prop}, evD P GL sn gs st K → (∀ s, K s → K' s) → evD P GL sn gs st K'
  | [], st, K, K', h, hk => hk _ h
  | g :: r, st, K, K', h, hk => by
    have q1 : ∀ s, evD P GL sn r s K → evD P GL sn r s K' := fun s hs => evD_mono hs hk
    grind [evD,stepD_mono,gdE_mono]
theorem W2_mono : ∀ (c : J) {st : St} {K K' : Exit → St → Prop}, W2 P GL c K st → (∀ e s, K e s → K' e s) → W2 P GL c K' st
  | .skip, st, K, K', h, hk => hk _ _ h
  | .rg gs, st, K, K', h, hk => ev_mono h (hk _)
  | .dr sn _ gs post, st, K, K', h, hk => by obtain ⟨l, h⟩ := h; exact ⟨l, evD_mono h (fun s hs => hk _ _ hs)⟩
  | .sq ks a b, st, K, K', h, hk => W2_mono a h (fun e s hs => by
      cases e with
      | normal => exact W2_mono b hs hk
      | _ => exact hk _ _ hs)
  | .ct _ a b, st, K, K', h, hk => W2_mono a h (cutK_mono (fun s q => W2_mono b q hk) hk)
  | .cond c a b, st, K, K', h, hk => by
    simp only [W2] at h ⊢
    split at h
    · exact br_mono h (fun hh => W2_mono a hh hk) (fun hh => W2_mono b hh hk)
    · exact h
  | .block id c, st, K, K', h, hk => W2_mono c h (fun e s hs => by
      cases e with
      | exit id' => simp only [blockK] at hs ⊢; split at hs; rename_i e; rw [if_pos e]; exact hk _ _ hs; rename_i e; rw [if_neg e]; exact hk _ _ hs
      | _ => exact hk _ _ hs)
  | .lp c, st, K, K', h, hk => by
    obtain ⟨ι, F, m, i0, h0, hr⟩ := h
    refine ⟨ι, F, m, i0, h0, fun i => W2_mono c (hr i) (fun e s hs => ?_)⟩
    cases e with
    | normal => exact hs
    | _ => exact hk _ _ hs
  | .exit id, st, K, K', h, hk => hk _ _ h
  | .ret, st, K, K', h, hk => hk _ _ h
  | .rf n og ps a b, st, K, K', h, hk => rfW_mono P GL h (fun q1 q2 => W2_mono a q1 q2) (fun q => q) hk
theorem getL_snap (e : Env) (s : Nat) : ∀ ks, getL (snap e ks) s = .any ∨ getL (snap e ks) s = getE e s
  | [] => .inl rfl
  | k :: r => by
    simp only [snap, getL]
    split
    · rename_i h; subst h; exact .inr rfl
    · exact getL_snap e s r
theorem Rel.prn {M : Mem} {μ : Place} {st : St} {a : Act} {w : World} (h : Rel GL n S M μ st a w) (ks : List Nat) : Rel GL n S M μ (prn ks st) a w :=
  { toStoOk := h.toStoOk, small := h.small, pin := h.pin, defers := h.defers, size := h.size, glob := h.glob, env := fun s => by
      simp only [Dl.prn, getE]
      rcases getL_snap st.env s ks with e | e
      · rw [e]; trivial
      · rw [e]; exact h.env s }
theorem Rel.subQ {M : Mem} {μ : Place} {st s : St} {a : Act} {w : World} (h : Rel GL n S M μ st a w) : SubQ s st → Rel GL n S M μ s a w
  | .inl e => e ▸ h
  | .inr (.inl e) => h.sub' e
  | .inr (.inr ⟨ks, e⟩) => e ▸ h.prn ks
theorem step_of_pre {sn : List Nat} {ins : Ins} {x : Option I} {st : St} {K : St → Prop} (h : preI P GL sn ins x st) (hk : K (effI GL ins x st)) : step P GL ins st K := by
  have calls : ∀ {f : FuncId} {ds : List D} {y : I} {d : Option Nat}, (∀ v ∈ ds, isI v = true) → Is1 P GL f ds y → K (putO st d (.i y)) → callT P GL f ds st d K := fun {f ds y d} hI h2 hk => by
    refine ⟨[], [], _, h2, trivial, rfl, ?_, rfl, ?_⟩
    · rw [List.all_eq_true]; intro v hv
      have := hI v hv
      cases v <;> simp [isI] at this; rfl
    · rintro r s ⟨rfl, rfl⟩
      refine ⟨fun nm hm => by simp [renS] at hm, fun nm hm => by simp at hm, ?_⟩
      exact hk
  have nofrz : ∀ (st : St), frzNs [] st = st := fun _ => rfl
  cases ins
  case call d f args =>
    obtain ⟨h1, y, rfl, h2⟩ := h
    rw [List.all_eq_true] at h1
    refine ⟨[], ?_⟩
    simp only [nofrz, getC]
    refine .inl (calls (y := y) (fun v hv => by obtain ⟨o, ho, rfl⟩ := List.mem_map.1 hv; exact h1 o ho) h2 ?_)
    cases d <;> exact hk
  case callv d fo args =>
    obtain ⟨h0, h1, p, y, h2, rfl, h3⟩ := h
    rw [List.all_eq_true] at h1
    refine ⟨[], ?_⟩
    simp only [nofrz, getCv, h2]
    refine .inl (calls (y := y) (fun v hv => ?_) h3 ?_)
    · unfold getV at h2
      split at h2
      · cases h2
        simp only [List.mem_append, List.mem_map] at hv
        rcases hv with (⟨z, _, rfl⟩ | ⟨o, ho, rfl⟩) | ⟨z, _, rfl⟩
        · rfl
        · exact h1 o ho
        · rfl
      · rename_i e; rw [e] at h0; simp [isI] at h0
      · cases h2
    · cases d <;> exact hk
  case alloc d zs =>
    simp only [step, newE]
    obtain ⟨h, h1⟩ : getS st.sto d = none ∧ (zs.map D.i).all oneD = true := h
    rw [h]
    exact ⟨h1, hk⟩
  case mupd ox oq ov ls =>
    simp only [preI] at h
    simp only [effI] at hk
    simp only [step, mupdE]
    split at h
    · rename_i nm q u e1 e2 e3
      obtain ⟨h1, h⟩ := h
      split at h
      · rename_i ls' es hg
        simp only [e1, e2, e3, hg, mupdB] at hk ⊢
        exact ⟨h1, h, hk⟩
      · exact h.elim
    · exact h.elim
  case store ox ov k =>
    simp only [preI] at h
    simp only [effI] at hk
    simp only [step, storeE]
    split at h
    · rename_i nm off e
      obtain ⟨_, h⟩ := h
      split at h
      · rename_i cs hg
        simp only [e, hg, storeB] at hk ⊢
        exact ⟨h.1, h.2.1, h.2.2, hk⟩
      · exact h.elim
    · exact h.elim
  all_goals
    obtain ⟨h1, h2, _⟩ := h
    first
      | (simp [pureDst] at h1; done)
      | (refine (step_pv P GL (d := _) rfl st K).2 ⟨h2, ?_⟩; exact hk)
theorem pre_of_step {sn : List Nat} {ins : Ins} {st : St} {K : St → Prop} (hdr : drawable ins = true) (h : stepD P GL sn ins st K) : ∃ x, preI P GL sn ins x st ∧ K (effI GL ins x st) := by
  have pure : ∀ ins : Ins, ∀ d, pureDst ins = some d → step P GL ins st K → (∀ o ∈ opsOf ins, looks ins = true → ∀ nm ∈ (opv GL st o).nms, nm ∉ sn) →
      ((pureDst ins).isSome ∧ (pv (opv GL st) (getS st.sto) ins).2 ∧ (looks ins = true → ∀ o ∈ opsOf ins, ∀ nm ∈ (opv GL st o).nms, nm ∉ sn)) ∧ K (st.put d (pv (opv GL st) (getS st.sto) ins).1) := fun ins d hd hs hl => by
    obtain ⟨h1, h2⟩ := (step_pv P GL hd st K).1 hs
    exact ⟨⟨by rw [hd]; rfl, h1, fun l o ho nm hn => hl o ho l nm hn⟩, h2⟩
  cases ins
  case call d f args =>
    obtain ⟨h1, y, h2, h3⟩ := h
    refine ⟨some y, ⟨h1, y, rfl, h2⟩, ?_⟩
    cases d <;> exact h3
  case callv d fo args =>
    obtain ⟨h0, h1, h⟩ := h
    split at h
    · rename_i p hp
      obtain ⟨y, h2, h3⟩ := h
      refine ⟨some y, ⟨h0, h1, p, y, hp, rfl, h2⟩, ?_⟩
      cases d <;> exact h3
    · exact h.elim
  case alloc d zs =>
    refine ⟨none, ?_⟩
    simp only [stepD, step, newE] at h
    split at h
    · rename_i hg; exact ⟨⟨hg, h.1⟩, h.2⟩
    · exact h.elim
  case mupd ox oq ov ls =>
    refine ⟨none, ?_⟩
    simp only [stepD, step, mupdE] at h
    simp only [preI, effI]
    split at h
    · rename_i nm q u e1 e2 e3
      obtain ⟨h1, h⟩ := h
      unfold mupdB at h
      split at h
      · rename_i ls' es hg
        simp only [e1, e2, e3, hg]
        exact ⟨⟨h1, h.1⟩, h.2⟩
      · exact h.elim
    · exact h.elim
  case store ox ov k =>
    obtain ⟨h1, h⟩ := h
    refine ⟨none, ?_⟩
    simp only [step, storeE] at h
    simp only [preI, effI]
    split at h
    · rename_i nm off e
      rw [e] at h1
      unfold storeB at h
      split at h
      · rename_i cs hg
        simp only [e, hg]
        exact ⟨⟨h1, h.1, h.2.1, h.2.2.1⟩, h.2.2.2⟩
      · exact h.elim
    · rename_i e
      rw [e] at h1; exact h1.elim
    · exact h.elim
  case load d x k ag =>
    obtain ⟨h1, h⟩ := h
    exact ⟨none, pure (.load d x k ag) d rfl h (fun o ho _ nm hn => by simp [opsOf] at ho; subst ho; exact h1 nm hn)⟩
  case ia d s i k =>
    obtain ⟨⟨h1, h2⟩, h⟩ := h
    exact ⟨none, pure (.ia d s i k) d rfl h (fun o ho _ nm hn => by
      simp [opsOf] at ho
      rcases ho with rfl | rfl
      · exact h1 nm hn
      · exact h2 nm hn)⟩
  case slc d x lo hi k =>
    obtain ⟨h1, h⟩ := h
    exact ⟨none, pure (.slc d x lo hi k) d rfl h (fun o ho _ nm hn => h1 o ho nm hn)⟩
  all_goals
    first
      | (simp [drawable, pureDst] at hdr; done)
      | (obtain ⟨h1, h⟩ := h; exact ⟨none, pure _ _ rfl h (fun o ho hl => by simp [looks] at hl)⟩)
theorem run_of_evD {sn : List Nat} : ∀ (gs : List GI) (st : St) (K : St → Prop), (gs.all fun g => drawable g.ins) = true → evD P GL sn gs st K → ∃ xs : List X, xs.map (·.1) = gs ∧ runX P GL sn xs st K
  | [], st, K, _, h => ⟨[], rfl, h⟩
  | g :: r, st, K, hd, h => by
    rw [List.all_cons, Bool.and_eq_true] at hd
    have go : stepD P GL sn g.ins st (fun s => evD P GL sn r s K) → gdOf g.gd st = some true → ∃ xs : List X, xs.map (·.1) = g :: r ∧ runX P GL sn xs st K := fun hs hg => by
      obtain ⟨x, h1, h2⟩ := pre_of_step hd.1 hs
      obtain ⟨xs, e, hr⟩ := run_of_evD r _ K hd.2 h2
      refine ⟨(g, x) :: xs, by simp [e], ?_, ?_⟩
      · unfold preG; simp only [hg]; exact h1
      · unfold effG; simp only [hg]; exact hr
    have skip : evD P GL sn r (skipI g.ins st) K → gdOf g.gd st = some false → ∃ xs : List X, xs.map (·.1) = g :: r ∧ runX P GL sn xs st K := fun hs hg => by
      obtain ⟨xs, e, hr⟩ := run_of_evD r _ K hd.2 hs
      refine ⟨(g, none) :: xs, by simp [e], ?_, ?_⟩
      · unfold preG; simp only [hg]
      · unfold effG; simp only [hg]; exact hr
    simp only [evD] at h
    split at h
    · rename_i e; exact go h (by rw [e]; rfl)
    · rename_i s want e
      unfold gdE at h
      split at h
      · rename_i b hb
        have hg : gdOf g.gd st = some (b == want) := by rw [e]; simp only [gdOf, hb]
        cases hbw : b == want with
        | true => rw [hbw] at h hg; exact go (h.1 rfl) hg
        | false => rw [hbw] at h hg; exact skip (h.2 rfl) hg
      · rename_i hb
        exact skip h (by rw [e]; simp only [gdOf, hb])
      · exact h.elim
theorem evD_append {sn : List Nat} : ∀ (a b : List GI) (st : St) (K : St → Prop), evD P GL sn (a ++ b) st K = evD P GL sn a st (fun s => evD P GL sn b s K)
  | [], b, st, K => rfl
  | g :: a, b, st, K => by
    simp only [List.cons_append, evD]
    have e : (fun s => evD P GL sn (a ++ b) s K) = fun s => evD P GL sn a s (fun s => evD P GL sn b s K) := funext fun s => evD_append a b s K
    rw [e, evD_append a b]
end
end Go.Dl
