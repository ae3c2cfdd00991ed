/- A part of the proofs of WorkersExclude and WorkersMatchesSteps: A17. -/
import Derived.Test.YtcgjldimifeffaaGreatDoorA16
set_option linter.all false
namespace Go.Dl
open Go Go.RowKit
section
variable (P : Program) (GL : List (Nat × List I))
def pv (ρ : O → D) (σ : Nat → Option Blk) : Ins → D × Prop
  | .mov _ x => (ρ x, True)
  | .pick _ c a b => match ρ c with
    | .i (.bool t) => (if t then ρ a else ρ b, True)
    | _ => (.any, False)
  | .load _ x k ag => match ρ x with
    | .i (.elt cs off) => (.i (pk ag cs off k), off + k ≤ cs.length)
    | .ref (.loc nm off) => match σ nm with
      | some (.cells cs) => (pkD ag cs off k, off + k ≤ cs.length ∧ (ag = true → allI ((cs.drop off).take k) = true))
      | _ => (.any, False)
    | .ref (.lel nm kk row off) => match σ nm with
      | some (.rows _ k' rs) => (.i (pk ag (rs.getD row []) off k), kk = k' ∧ row < rs.length ∧ off + k ≤ (rs.getD row []).length)
      | _ => (.any, False)
    | _ => (.any, False)
  | .fa _ x off => match ρ x with
    | .i (.elt cs o) => (.i (.elt cs (o + off)), True)
    | .ref (.loc nm o) => (.ref (.loc nm (o + off)), True)
    | .ref (.lel nm k row o) => (.ref (.lel nm k row (o + off)), True)
    | _ => (.any, False)
  | .ia _ s i k => match ρ s, ρ i with
    | .i (.sl rows), .i (.int _ n) => (.i (.elt (rows.getD n.toNat []) 0), (0 ≤ n ∧ n < rows.length) ∧ (rows.getD n.toNat []).length = k)
    | .ref (.sl nm k0 lo hi), .i (.int _ n) => match σ nm with
      | some (.rows _ k' _) => (.ref (.lel nm k (lo + n.toNat) 0), k' = k ∧ k0 = k ∧ (0 ≤ n ∧ n < ((hi - lo : Nat) : Int)))
      | _ => (.any, False)
    | _, _ => (.any, False)
  | .fld _ x off k ag => match ρ x with
    | .i (.agg cs) => (.i (pk ag cs off k), off + k ≤ cs.length)
    | _ => (.any, False)
  | .aidx _ x i k len ag => match ρ x, ρ i with
    | .i (.agg cs), .i (.int _ n) => (.i (pk ag cs (n.toNat * k) k), (0 ≤ n ∧ n < (len : Int)) ∧ n.toNat * k + k ≤ cs.length)
    | _, _ => (.any, False)
  | .sh _ op x y => match ρ x, ρ y with
    | .i (.int k a), .i (.int _ b) => (.i (shV op k a b), 0 ≤ b)
    | _, _ => (.any, False)
  | .min _ x y => match ρ x, ρ y with
    | .i (.int k a), .i (.int _ b) => (.i (.int k (if b < a then b else a)), True)
    | _, _ => (.any, False)
  | .slc _ x lo hi k => match ρ x with
    | .i (.sl rows) => match loV (lo.map ρ), hiV rows.length (hi.map ρ) with
      | some l, some h => (.i (.sl ((rows.take h.toNat).drop l.toNat)), (∀ r ∈ rows, r.length = k) ∧ (0 ≤ l ∧ l ≤ h ∧ h ≤ (rows.length : Int)))
      | _, _ => (.any, False)
    | .ref (.sl nm k0 a c) => match σ nm with
      | some (.rows _ k' rs) => match loV (lo.map ρ), hiV ((c - a : Nat) : Int) (hi.map ρ) with
        | some l, some h => (.ref (.sl nm k (a + l.toNat) (a + h.toNat)), k' = k ∧ k0 = k ∧ (0 ≤ l ∧ l ≤ h ∧ h ≤ ((rs.length - a : Nat) : Int)))
        | _, _ => (.any, False)
      | some (.arr _ k' rs) => match loV (lo.map ρ), hiV ((c - a : Nat) : Int) (hi.map ρ) with
        | some l, some h => (.ref (.sl nm k (a + l.toNat) (a + h.toNat)), k' = k ∧ k0 = k ∧ (0 ≤ l ∧ l ≤ h ∧ h ≤ ((rs.length - a : Nat) : Int)))
        | _, _ => (.any, False)
      | _ => (.any, False)
    | _ => (.any, False)
  | .sslc _ x lo hi => match ρ x with
    | .i (.str s) => match loV (lo.map ρ), hiV s.length (hi.map ρ) with
      | some l, some h => (.i (.str ((s.take h.toNat).drop l.toNat)), 0 ≤ l ∧ l ≤ h ∧ h ≤ (s.length : Int))
      | _, _ => (.any, False)
    | _ => (.any, False)
  | .lookup _ x key zero ok ls => match ρ key with
    | .i q => match ρ x with
      | .i .nilmap => (.i (mlook [] q zero ok), fitQ ls q = true)
      | .i (.map es) => (.i (mlook es q zero ok), fitQ ls q = true ∧ (∀ e ∈ es, fitQ ls e.1 = true))
      | .ref (.mp nm) => match σ nm with
        | some (.map ls' es) => (.i (mlook es q zero ok), fitQ ls q = true ∧ ls' = ls)
        | _ => (.any, False)
      | _ => (.any, False)
    | _ => (.any, False)
  | .lenm _ x => match ρ x with
    | .i .nilmap => (.i (.int .i64 0), True)
    | .i (.map es) => (.i (.int .i64 es.length), True)
    | .ref (.mp nm) => match σ nm with
      | some (.map _ es) => (.i (.int .i64 es.length), True)
      | _ => (.any, False)
    | _ => (.any, False)
  | .idx _ s i => match ρ s, ρ i with
    | .i (.str l), .i (.int _ n) => (.i (.int .u8 ((l.getD n.toNat 0).toNat : Int)), 0 ≤ n ∧ n < l.length)
    | _, _ => (.any, False)
  | .bin _ op x y => match ρ x, ρ y with
    | .i a, .i b => (.i (binV op a b), binOk op a b)
    | _, _ => (.any, False)
  | .eqs _ neg ls x y => match ρ x, ρ y with
    | .i (.agg a), .i (.agg b) => match eqL ls a b with
      | some r => (.i (.bool (if neg then !r else r)), True)
      | none => (.any, False)
    | _, _ => (.any, False)
  | .eqb _ neg x y => match ρ x, ρ y with
    | .i (.bool a), .i (.bool b) => (.i (.bool (if neg then !(a == b) else a == b)), True)
    | _, _ => (.any, False)
  | .un _ op x => match op, ρ x with
    | .not, .i (.bool b) => (.i (.bool !b), True)
    | .neg, .i (.int k n) => (.i (.int k (k.wrap (0 - n))), True)
    | _, _ => (.any, False)
  | .lens _ x => match ρ x with
    | .i (.str s) => (.i (.int .i64 s.length), True)
    | _ => (.any, False)
  | .lenl _ x => match ρ x with
    | .i (.sl rows) => (.i (.int .i64 rows.length), True)
    | .ref (.sl _ _ lo hi) => (.i (.int .i64 ((hi - lo : Nat) : Int)), True)
    | .i .nilsl => (.i (.int .i64 0), True)
    | _ => (.any, False)
  | .ext _ x i => match ρ x with
    | .i (.tup vs) => (.i (vs.getD i .undef), i < vs.length)
    | .tup cs => ((cs.getD i .any).toD, i < cs.length)
    | _ => (.any, False)
  | .bsn _ _ k ps => (.i (.sl (ps.map fun o => cellsI (unI (ρ o)))), (!ps.isEmpty && (ps.all fun o => isI (ρ o) && ((cellsI (unI (ρ o))).length == k) && (cellsI (unI (ρ o))).all I.one)) = true)
  | .build _ zs parts => (.i (.agg (fillI zs (parts.map fun p => (p.1, cellsI (unI (ρ p.2.2)))))), (parts.all fun p => isI (ρ p.2.2) && ((cellsI (unI (ρ p.2.2))).length == p.2.1)) = true)
  | .mkfn _ f first caps => match first.mapM fun o => toCp (ρ o), caps.mapM fun o => toCp (ρ o) with
    | some a, some b => (fnD f a b, True)
    | _, _ => (.any, False)
  | .max _ x y => match ρ x, ρ y with
    | .i (.int k a), .i (.int _ b) => (.i (.int k (if b > a then b else a)), True)
    | _, _ => (.any, False)
  | .conv _ k x => match ρ x with
    | .i (.int _ n) => (.i (.int k (k.wrap n)), True)
    | _ => (.any, False)
  | .iaa _ x i k len => match ρ x, ρ i with
    | .i (.elt cs o), .i (.int _ n) => (.i (.elt cs (o + n.toNat * k)), 0 ≤ n ∧ n < (len : Int))
    | .ref (.loc nm o), .i (.int _ n) => (.ref (.loc nm (o + n.toNat * k)), 0 ≤ n ∧ n < (len : Int))
    | .ref (.lel nm kk row o), .i (.int _ n) => (.ref (.lel nm kk row (o + n.toNat * k)), 0 ≤ n ∧ n < (len : Int))
    | _, _ => (.any, False)
  | .mkif _ t x => match ρ x with
    | .i y => (.i (.iface t y), True)
    | _ => (.any, False)
  | .bytes _ x => match ρ x with
    | .i (.str s) => (.i (.sl (rowsB s)), True)
    | _ => (.any, False)
  | .ofb _ x => match ρ x with
    | .i (.sl rows) => match bytesI rows with
      | some l => (.i (.str l), True)
      | none => (.any, False)
    | _ => (.any, False)
  | _ => (.any, False)
def pureDst : Ins → Option Nat
  | .mov d _ | .pick d _ _ _ | .load d _ _ _ | .fa d _ _ | .ia d _ _ _ | .idx d _ _ | .bin d _ _ _ | .eqs d _ _ _ _ | .eqb d _ _ _ | .un d _ _ | .lens d _ | .lenl d _ | .ext d _ _
  | .bsn d _ _ _ | .build d _ _ | .mkfn d _ _ _ | .max d _ _ | .min d _ _ | .conv d _ _ | .fld d _ _ _ _ | .aidx d _ _ _ _ _ | .sh d _ _ _ | .slc d _ _ _ _ | .sslc d _ _ _ | .lookup d _ _ _ _ _ | .lenm d _ | .iaa d _ _ _ _ | .bytes d _ | .ofb d _ | .mkif d _ _ => some d
  | _ => none
theorem step_pv {ins : Ins} {d : Nat} (hd : pureDst ins = some d) (st : St) (K : St → Prop) :
    step P GL ins st K ↔ (pv (opv GL st) (getS st.sto) ins).2 ∧ K (st.put d (pv (opv GL st) (getS st.sto) ins).1) := by
  cases ins <;> simp only [pureDst, Option.some.injEq, reduceCtorEq] at hd <;> subst hd <;> simp only [step, pv]
  case mov => simp
  case pick d c a b => unfold pickE; split <;> simp_all [br]; rename_i t _; cases t <;> simp
  case load => unfold loadE; split <;> simp_all <;> first | (unfold loadB; split <;> simp_all [and_assoc]) | (unfold loadR; split <;> simp_all [and_assoc])
  case fa => unfold faE; split <;> simp_all
  case fld => unfold fldE; split <;> simp_all
  case ia => unfold iaE; split <;> simp_all [and_assoc]; unfold iaR; split <;> simp_all [and_assoc]
  case idx => unfold idxE; split <;> simp_all
  case aidx => unfold aidxE; split <;> simp_all [and_assoc]
  case bin => unfold binE; split <;> simp_all
  case sh => unfold shE; split <;> simp_all
  case eqs => unfold eqsE; split <;> simp_all; unfold eqsO; split <;> simp_all
  case eqb => unfold eqbE; split <;> simp_all
  case un => unfold unE; split <;> simp_all
  case lens => unfold lensE; split <;> simp_all
  case lenl => unfold lenlE; split <;> simp_all
  case ext => unfold extE; split <;> simp_all
  case mkfn => unfold mkfnE; split <;> simp_all
  case max => unfold maxE; split <;> simp_all
  case min => unfold maxE; split <;> simp_all
  case conv => unfold convE; split <;> simp_all
  case slc => unfold slcE; split <;> simp_all [slcO]; (split <;> simp_all [and_assoc]); unfold slcR; split <;> simp_all [slcO] <;> (split <;> simp_all [and_assoc])
  case sslc => unfold sslcE; split <;> simp_all [slcO]; split <;> simp_all [and_assoc]
  case lookup => unfold lookE; split <;> simp_all []; split <;> simp_all [and_assoc]; unfold lookB; split <;> simp_all [and_assoc]
  case lenm => unfold lenmE; split <;> simp_all; unfold lenmB; split <;> simp_all
  case iaa => unfold iaaE; split <;> simp_all [and_assoc]
  case bytes => unfold bytesE; split <;> simp_all
  case mkif => unfold mkifE; split <;> simp_all
  case ofb => unfold ofbE; split <;> simp_all; unfold ofbO; split <;> simp_all
def opsOf : Ins → List O
  | .mov _ x => [x]
  | .pick _ c a b => [c, a, b]
  | .load _ x _ _ => [x]
  | .fa _ x _ => [x]
  | .ia _ s i _ => [s, i]
  | .idx _ s i => [s, i]
  | .bin _ _ x y => [x, y]
  | .eqs _ _ _ x y => [x, y]
  | .eqb _ _ x y => [x, y]
  | .un _ _ x => [x]
  | .lens _ x => [x]
  | .lenl _ x => [x]
  | .ext _ x _ => [x]
  | .bsn _ _ _ ps => ps
  | .build _ _ ps => ps.map (·.2.2)
  | .mkfn _ _ first caps => first ++ caps
  | .max _ x y => [x, y]
  | .conv _ _ x => [x]
  | .min _ x y => [x, y]
  | .fld _ x _ _ _ => [x]
  | .aidx _ x i _ _ _ => [x, i]
  | .sh _ _ x y => [x, y]
  | .slc _ x lo hi _ => x :: (lo.toList ++ hi.toList)
  | .sslc _ x lo hi => x :: (lo.toList ++ hi.toList)
  | .lookup _ x k _ _ _ => [x, k]
  | .lenm _ x => [x]
  | .iaa _ x i _ _ => [x, i]
  | .bytes _ x => [x]
  | .mkif _ _ x => [x]
  | .inv _ _ x args => x :: args
  | .ofb _ x => [x]
  | .call _ _ args => args
  | .callv _ f args => f :: args
  | .callo _ _ args => args
  | .callf _ _ args => args
  | .callvf _ f args => f :: args
  | .store x v _ => [x, v]
  | .mupd x k v _ => [x, k, v]
  | _ => []
theorem pv_local {ins : Ins} {ρ ρ' : O → D} {σ σ' : Nat → Option Blk} (hρ : ∀ o ∈ opsOf ins, ρ o = ρ' o) (hσ : ∀ o ∈ opsOf ins, ∀ nm ∈ (ρ o).nms, σ nm = σ' nm) : pv ρ σ ins = pv ρ' σ' ins := by
  cases ins <;> simp only [opsOf, List.mem_cons, List.not_mem_nil, or_false, forall_eq_or_imp, forall_eq] at hρ hσ <;> simp only [pv]
  case load => rw [hρ] at hσ; rw [hρ]; split <;> simp_all [D.nms, Ref.nm]
  case ia => rw [hρ.1] at hσ; rw [hρ.1, hρ.2]; split <;> simp_all [D.nms, Ref.nm]
  case slc x lo hi k =>
    have e1 : lo.map ρ = lo.map ρ' := by cases lo with | none => rfl | some z => simp [hρ.2 z (by simp)]
    have e2 : hi.map ρ = hi.map ρ' := by cases hi with | none => rfl | some z => simp [hρ.2 z (by simp)]
    have h0 := hσ.1
    rw [hρ.1] at h0
    rw [e1, e2, hρ.1]; split <;> simp_all [D.nms, Ref.nm]
  case sslc x lo hi =>
    have e1 : lo.map ρ = lo.map ρ' := by cases lo with | none => rfl | some z => simp [hρ.2 z (by simp)]
    have e2 : hi.map ρ = hi.map ρ' := by cases hi with | none => rfl | some z => simp [hρ.2 z (by simp)]
    rw [e1, e2, hρ.1]
  case lookup => rw [hρ.1, hρ.2] at hσ; rw [hρ.1, hρ.2]; split <;> simp_all [D.nms, Ref.nm]; split <;> simp_all []
  case lenm => rw [hρ] at hσ; rw [hρ]; split <;> simp_all [D.nms, Ref.nm]
  case bsn k ps =>
    have e1 : (ps.map fun o => cellsI (unI (ρ o))) = ps.map fun o => cellsI (unI (ρ' o)) := List.map_congr_left (fun p hp => by rw [hρ p hp])
    have e2 : (ps.all fun o => isI (ρ o) && ((cellsI (unI (ρ o))).length == k) && (cellsI (unI (ρ o))).all I.one) = (ps.all fun o => isI (ρ' o) && ((cellsI (unI (ρ' o))).length == k) && (cellsI (unI (ρ' o))).all I.one) := by grind
    rw [e1, e2]
  case build ps =>
    have e : ∀ p ∈ ps, ρ p.2.2 = ρ' p.2.2 := fun p hp => hρ _ (List.mem_map.2 ⟨p, hp, rfl⟩)
    have e1 : (ps.map fun p => (p.1, cellsI (unI (ρ p.2.2)))) = ps.map fun p => (p.1, cellsI (unI (ρ' p.2.2))) := List.map_congr_left (fun p hp => by rw [e p hp])
    have e2 : (ps.all fun p => isI (ρ p.2.2) && ((cellsI (unI (ρ p.2.2))).length == p.2.1)) = (ps.all fun p => isI (ρ' p.2.2) && ((cellsI (unI (ρ' p.2.2))).length == p.2.1)) := by grind
    rw [e1, e2]
  case mkfn f first caps =>
    have e1 : ∀ l : List O, (∀ o ∈ l, ρ o = ρ' o) → (l.mapM fun o => toCp (ρ o)) = l.mapM fun o => toCp (ρ' o) := by
      intro l
      induction l with
      | nil => intro _; rfl
      | cons x l ih => intro h; rw [List.mapM_cons, List.mapM_cons, h x (by simp), ih fun o ho => h o (by simp [ho])]
    rw [e1 _ fun o ho => hρ o (List.mem_append.2 (.inl ho)), e1 _ fun o ho => hρ o (List.mem_append.2 (.inr ho))]
  all_goals simp_all
end
end Go.Dl
