/- A part of the proofs of WorkersExclude and WorkersMatchesSteps: A7. -/
import Derived.Test.YtcgjldimifeffaaGreatDoorA6
set_option linter.unusedVariables false
namespace Go.Dl
open Go Go.RowKit
theorem toList_bytesOf (s : List UInt8) : (bytesOf s).toList = s := by rw [ByteArray.toList_eq] <;> rfl
theorem size_bytesOf (s : List UInt8) : (bytesOf s).size = s.length := rfl
theorem bytesOf_append (s t : List UInt8) : bytesOf s ++ bytesOf t = bytesOf (s ++ t) := by rfl
section
variable {P : Program} {GL : List (Nat × List I)} {n : Nat} {S : Sh} {M : Mem} {μ : Place} {st : St} {a : Act} {w : World} {K : St → Prop} {Q : Exit → Act → World → Prop} {o : Oper} {d : Nat}
theorem snd_bin (h : Rel GL n S M μ st a w) {op : BinOp} {t t' : TypeId} {x y : Operand} {ox oy : O} (ho : o.op = .binOp op t x y t') (hd : o.dst = some d) (hn : d < n)
    (hx : cO GL x = some ox) (hy : cO GL y = some oy) (hs : step P GL (.bin d op ox oy) st K) : o.wpX P a w (Goal GL n S M w K) Q := by
  have hr := opv_rep h hx
  have hr' := opv_rep h hy
  simp only [step, binE] at hs
  split at hs
  · rename_i u v e1 e2
    rw [e1] at hr; rw [e2] at hr'
    have hr := repD_i_inv hr
    have hr' := repD_i_inv hr'
    obtain ⟨hok, hs⟩ := hs
    obtain ⟨k, i, k', j, rfl, rfl⟩ | ⟨s1, s2, rfl, rfl⟩ : (∃ k i k' j, u = .int k i ∧ v = .int k' j) ∨ (∃ s1 s2, u = .str s1 ∧ v = .str s2) := by cases u <;> cases v <;> first | exact hok.elim | exact .inl ⟨_, _, _, _, rfl, rfl⟩ | exact .inr ⟨_, _, rfl, rfl⟩
    · clear e1 e2
      obtain ⟨rfl, hok⟩ := hok
      have e3 := int_inv hr
      have e4 := int_inv hr'
      have hg : (eqGuard op t x y (.int k i) (.int k j)).run P w = .ok () w := by cases op <;> simp [eqGuard]
      have hex : ∀ V, (binOp op t (.int k i) (.int k j)).run P w = .ok V w → (execOp a.eval o).run P w = .ok (.value V) w := fun V hV => by simp only [execOp, ho, e3, e4, Sem.run_bind, hg, hV, Result.andThen_ok, Sem.run_pure]
      cases op <;> simp only [binV, bitsV] at hs <;> first
        | exact hok.elim
        | (refine wp_put h hd hn (hex _ ?_) (repD_i (.int _ _)) hs
           simp [binOp, Op.intArith, Op.intDiv, Op.intBits, hok])
        | (refine wp_put h hd hn (hex _ ?_) (repD_i (.bool _)) hs
           simp [binOp, Op.intCmp])
    · have e3 := str_inv hr
      have e4 := str_inv hr'
      have hg : (eqGuard op t x y (.string (bytesOf s1)) (.string (bytesOf s2))).run P w = .ok () w := by cases op <;> simp [eqGuard]
      have hex : ∀ V, (binOp op t (.string (bytesOf s1)) (.string (bytesOf s2))).run P w = .ok V w → (execOp a.eval o).run P w = .ok (.value V) w := fun V hV => by simp only [execOp, ho, e3, e4, Sem.run_bind, hg, hV, Result.andThen_ok, Sem.run_pure]
      cases op <;> simp only [binV] at hs <;> first
        | exact hok.elim
        | (refine wp_put h hd hn (hex _ ?_) (repD_i (.bool _)) hs
           simp [binOp, Op.stringOp, toList_bytesOf])
        | (refine wp_put h hd hn (hex _ ?_) (repD_i (.str _)) hs
           have hok' : s1.length + s2.length ≤ 9223372036854775807 := hok
           have : ¬ ((9223372036854775807 : Int) < (s1.length : Int) + (s2.length : Int)) := by omega
           simp [binOp, Op.stringOp, size_bytesOf, this, bytesOf_append])
  · exact hs.elim
theorem snd_sh (h : Rel GL n S M μ st a w) {op : BinOp} (hop : op = .shl ∨ op = .shr) {t t' : TypeId} {x y : Operand} {ox oy : O} (ho : o.op = .binOp op t x y t') (hd : o.dst = some d) (hn : d < n)
    (hx : cO GL x = some ox) (hy : cO GL y = some oy) (hs : step P GL (.sh d op ox oy) st K) : o.wpX P a w (Goal GL n S M w K) Q := by
  have hr := opv_rep h hx
  have hr' := opv_rep h hy
  simp only [step, shE] at hs
  split at hs
  · rename_i k i k' j e1 e2
    rw [e1] at hr; rw [e2] at hr'
    have e3 := int_inv (repD_i_inv hr)
    have e4 := int_inv (repD_i_inv hr')
    obtain ⟨hb, hs⟩ := hs
    have hg : (eqGuard op t x y (.int k i) (.int k' j)).run P w = .ok () w := by rcases hop with rfl | rfl <;> simp [eqGuard]
    have hnb : ¬ j < 0 := by omega
    rcases hop with rfl | rfl
    · refine wp_put h hd hn (v := .int k (k.wrap (i * 2 ^ (Nat.min j.toNat k.bits)))) ?_ (repD_i (.int _ _)) hs
      simp only [execOp, ho, e3, e4, Sem.run_bind, hg, Result.andThen_ok, binOp, Op.shift, if_neg hnb, Sem.run_pure]
      try rfl
    · refine wp_put h hd hn (v := .int k (i.fdiv (2 ^ (Nat.min j.toNat k.bits)))) ?_ (repD_i (.int _ _)) hs
      simp only [execOp, ho, e3, e4, Sem.run_bind, hg, Result.andThen_ok, binOp, Op.shift, if_neg hnb, Sem.run_pure]
      try rfl
  · exact hs.elim
theorem snd_eqb (h : Rel GL n S M μ st a w) {neg : Bool} {t t' : TypeId} {x y : Operand} {ox oy : O} (ho : o.op = .binOp (if neg then .neq else .eql) t x y t') (hd : o.dst = some d) (hn : d < n)
    (hx : cO GL x = some ox) (hy : cO GL y = some oy) (hu : P.underlying t = some .bool) (hs : step P GL (.eqb d neg ox oy) st K) : o.wpX P a w (Goal GL n S M w K) Q := by
  have hr := opv_rep h hx
  have hr' := opv_rep h hy
  simp only [step, eqbE] at hs
  split at hs
  · rename_i u v e1 e2
    rw [e1] at hr; rw [e2] at hr'
    have e3 := bool_inv (repD_i_inv hr)
    have e4 := bool_inv (repD_i_inv hr')
    refine wp_put h hd hn ?_ (repD_i (.bool _)) hs
    cases neg <;> simp only [Bool.false_eq_true, if_true, if_false] at ho ⊢
    · have hg : (eqGuard .eql t x y (.bool u) (.bool v)).run P w = .ok () w := by simp [eqGuard]
      simp only [execOp, ho, e3, e4, Sem.run_bind, hg, Result.andThen_ok, run_eql_bool w t u v hu, Sem.run_pure]
    · have hg : (eqGuard .neq t x y (.bool u) (.bool v)).run P w = .ok () w := by simp [eqGuard]
      simp only [execOp, ho, e3, e4, Sem.run_bind, hg, Result.andThen_ok, run_neq_bool w t u v hu, Sem.run_pure]
  · exact hs.elim
theorem run_eqn_slice {t e : TypeId} (hu : P.underlying t = some (.slice e)) (a : Option Addr) (l c : Nat) : (Op.equal t (.slice a l c) (.slice none 0 0)).run P w = .ok a.isNone w := by
  have h : ∀ q : Nat, (Op.equalIn (q + 1) t (.slice a l c) (.slice none 0 0)).run P w = .ok a.isNone w := fun q => by cases a <;> simp [Op.equalIn, run_underlying hu]
  exact h 9999
theorem run_eqn_map {t k e : TypeId} (hu : P.underlying t = some (.map k e)) (a : Option Nat) : (Op.equal t (.map a) (.map none)).run P w = .ok a.isNone w := by
  have h : ∀ q : Nat, (Op.equalIn (q + 1) t (.map a) (.map none)).run P w = .ok a.isNone w := fun q => by cases a <;> simp [Op.equalIn, run_underlying hu]
  exact h 9999
theorem run_eqn_ptr {t e : TypeId} (hu : P.underlying t = some (.pointer e)) (a : Option Addr) : (Op.equal t (.pointer a) (.pointer none)).run P w = .ok a.isNone w := by
  have h : ∀ q : Nat, (Op.equalIn (q + 1) t (.pointer a) (.pointer none)).run P w = .ok a.isNone w := fun q => by cases a <;> simp [Op.equalIn, run_underlying hu]
  exact h 9999
theorem run_eqn_fn {t : TypeId} {ps rs : Array TypeId} {vr : Bool} (hu : P.underlying t = some (.func ps rs vr)) (f : Fn) (x y : Array Value) : (Op.equal t (.func f x y) .nilFunc).run P w = .ok false w := by
  have h : ∀ q : Nat, (Op.equalIn (q + 1) t (.func f x y) .nilFunc).run P w = .ok false w := fun q => by simp [Op.equalIn, run_underlying hu]
  exact h 9999
theorem run_eqn_nilfn {t : TypeId} {ps rs : Array TypeId} {vr : Bool} (hu : P.underlying t = some (.func ps rs vr)) : (Op.equal t .nilFunc .nilFunc).run P w = .ok true w := by
  have h : ∀ q : Nat, (Op.equalIn (q + 1) t .nilFunc .nilFunc).run P w = .ok true w := fun q => by simp [Op.equalIn, run_underlying hu]
  exact h 9999
theorem run_eqn_if {t t' : TypeId} {m} {x : Value} (hu : P.underlying t = some (.interface m)) : (Op.equal t (.iface t' x) .nilIface).run P w = .ok false w := by
  have h : ∀ q : Nat, (Op.equalIn (q + 1) t (.iface t' x) .nilIface).run P w = .ok false w := fun q => by simp [Op.equalIn, run_underlying hu]
  exact h 9999
theorem run_isnilif {neg : Bool} {t t' : TypeId} {x : Operand} {m} (ho : o.op = .binOp (if neg then .neq else .eql) t x (.const .nilIface) t') (hX : a.eval x = .nilIface) (hu : P.underlying t = some (.interface m)) : (execOp a.eval o).run P w = .ok (.value (.bool (true != neg))) w := by
  have hY : a.eval (.const .nilIface) = .nilIface := rfl
  have hg : ∀ op, (eqGuard op t x (.const .nilIface) .nilIface .nilIface).run P w = .ok () w := fun op => by
    unfold eqGuard; split <;> simp
  have hv : (Op.equal t .nilIface .nilIface).run P w = .ok true w := by
    have h : ∀ q : Nat, (Op.equalIn (q + 1) t .nilIface .nilIface).run P w = .ok true w := fun q => by simp [Op.equalIn, run_underlying hu]
    exact h 9999
  cases neg <;> simp only [Bool.false_eq_true, if_true, if_false] at ho
  · simp [execOp, ho, hX, hY, hg, binOp, hv]
  · simp [execOp, ho, hX, hY, hg, binOp, hv]
def nilOf (dsc : TypeDesc) (y : Operand) : Option NK := match dsc, y with
  | .slice _, .const (.slice none 0 0) => some .sl
  | .map _ _, .const (.map none) => some .mp
  | .func _ _ _, .const .nilFunc => some .fn
  | .pointer _, .const (.pointer none) => some .pt
  | .interface _, .const .nilIface => some .nf
  | _, _ => none
theorem run_isnil {neg : Bool} {t t' : TypeId} {x y : Operand} (ho : o.op = .binOp (if neg then .neq else .eql) t x y t') {X Y : Value} (hX : a.eval x = X) (hY : a.eval y = Y) {b : Bool} (hv : (Op.equal t X Y).run P w = .ok b w)
    (hyk : Y = .slice none 0 0 ∨ Y = .map none ∨ Y = .nilFunc ∨ Y = .pointer none ∨ Y = .nilIface) (k1 : ∀ i k, X ≠ .int i k) (k2 : ∀ cs, X ≠ .agg cs) (k3 : X ≠ .nilIface) : (execOp a.eval o).run P w = .ok (.value (.bool (b != neg))) w := by
  have hg : ∀ op : BinOp, (eqGuard op t x y X Y).run P w = .ok () w := fun op => by
    unfold eqGuard
    simp_all
  cases neg <;> simp only [Bool.false_eq_true, if_true, if_false] at ho
  · have hb : (binOp .eql t X Y).run P w = .ok (.bool b) w := by
      have : binOp .eql t X Y = (do pure (.bool (← Op.equal t X Y)) : Sem Value) := by cases X <;> rcases hyk with rfl | rfl | rfl | rfl | rfl <;> first | rfl | (exact absurd rfl (k1 _ _))
      simp_all
    simp only [execOp, ho, hX, hY, Sem.run_bind, hg, hb, Result.andThen_ok, Sem.run_pure]
    cases b <;> rfl
  · have hb : (binOp .neq t X Y).run P w = .ok (.bool (!b)) w := by
      have : binOp .neq t X Y = (do pure (.bool (!(← Op.equal t X Y))) : Sem Value) := by cases X <;> rcases hyk with rfl | rfl | rfl | rfl | rfl <;> first | rfl | (exact absurd rfl (k1 _ _))
      simp_all
    simp only [execOp, ho, hX, hY, Sem.run_bind, hg, hb, Result.andThen_ok, Sem.run_pure]
    cases b <;> rfl
theorem snd_isnil (h : Rel GL n S M μ st a w) {neg : Bool} {t t' : TypeId} {x y : Operand} {ox : O} {dsc : TypeDesc} {q : NK} (ho : o.op = .binOp (if neg then .neq else .eql) t x y t') (hd : o.dst = some d) (hn : d < n)
    (hx : cO GL x = some ox) (hu : P.underlying t = some dsc) (hy : nilOf dsc y = some q) (hs : step P GL (.isnil d q neg ox) st K) : o.wpX P a w (Goal GL n S M w K) Q := by
  have hr := opv_rep h hx
  simp only [step] at hs
  generalize opv GL st ox = V at hr hs
  generalize hX : a.eval x = X at hr
  have put : ∀ {b : Bool} {Y : Value}, a.eval y = Y → (Op.equal t X Y).run P w = .ok b w → (Y = .slice none 0 0 ∨ Y = .map none ∨ Y = .nilFunc ∨ Y = .pointer none ∨ Y = .nilIface) → (∀ i k, X ≠ .int i k) → (∀ cs, X ≠ .agg cs) → X ≠ .nilIface →
      K (st.put d (.i (.bool (b != neg)))) → o.wpX P a w (Goal GL n S M w K) Q := fun hY hv hyk k1 k2 k3 hk => wp_put h hd hn (run_isnil ho hX hY hv hyk k1 k2 k3) (repD_i (.bool _)) hk
  unfold nilOf at hy
  split at hy <;> cases hy
  ·
    have sl : ∀ aa l c, X = .slice aa l c → K (st.put d (.i (.bool (aa.isNone != neg)))) → o.wpX P a w (Goal GL n S M w K) Q := fun aa l c e hk => by
      subst e
      exact put (Y := .slice none 0 0) rfl (run_eqn_slice hu aa l c) (.inl rfl) (fun _ _ => by simp) (fun _ => by simp) (by simp) hk
    cases V with
    | i z =>
      cases z with
      | sl rows =>
        have hr := repD_i_inv hr
        cases rows with
        | nil =>
          simp only [isnilE, nilV] at hs
          cases hr with
          | slnil => exact sl _ _ _ rfl (hs _)
          | slempty => exact sl _ _ _ rfl (hs _)
          | sl => exact sl _ _ _ rfl (hs _)
        | cons r rs =>
          simp only [isnilE, nilV] at hs
          cases hr with
          | sl => exact sl _ _ _ rfl hs
      | nilsl =>
        have hr := repD_i_inv hr
        cases hr
        exact sl _ _ _ rfl hs
      | _ => exact hs.elim
    | ref r =>
      cases r with
      | sl nm k lo hi =>
        simp only [isnilE, nilV] at hs
        obtain ⟨_, aa, cap, _, _, _, hh⟩ := hr
        rcases hh with ⟨_, a', rfl⟩ | ⟨_, _, _, rfl⟩
        · exact sl _ _ _ rfl (hs _)
        · exact sl _ _ _ rfl (hs _)
      | _ => exact hs.elim
    | _ => exact hs.elim
  · have mp : ∀ aa, X = .map aa → K (st.put d (.i (.bool (aa.isNone != neg)))) → o.wpX P a w (Goal GL n S M w K) Q := fun aa e hk => by
      subst e
      exact put (Y := .map none) rfl (run_eqn_map hu aa) (.inr (.inl rfl)) (fun _ _ => by simp) (fun _ => by simp) (by simp) hk
    cases V with
    | i z =>
      cases z <;> simp only [isnilE, nilV] at hs
      · have hr := repD_i_inv hr; cases hr; exact mp _ rfl hs
      · have hr := repD_i_inv hr; cases hr; exact mp _ rfl hs
    | ref r =>
      cases r <;> simp only [isnilE, nilV] at hs
      obtain ⟨_, b, _, rfl⟩ := hr
      exact mp _ rfl hs
    | _ => exact hs.elim
  · cases V with
    | i z =>
      cases z <;> simp only [isnilE, nilV] at hs
      · have hr := repD_i_inv hr; cases hr
        exact put (Y := .nilFunc) rfl (run_eqn_nilfn hu) (.inr (.inr (.inl rfl))) (fun _ _ => by simp) (fun _ => by simp) (by simp) hs
      · have hr := repD_i_inv hr; cases hr
        exact put (Y := .nilFunc) rfl (run_eqn_fn hu _ _ _) (.inr (.inr (.inl rfl))) (fun _ _ => by simp) (fun _ => by simp) (by simp) hs
    | fn f first caps =>
      simp only [isnilE, nilV] at hs
      obtain ⟨va, vb, rfl, _⟩ := hr
      exact put (Y := .nilFunc) rfl (run_eqn_fn hu _ _ _) (.inr (.inr (.inl rfl))) (fun _ _ => by simp) (fun _ => by simp) (by simp) hs
    | ref r => cases r <;> exact hs.elim
    | any => exact hs.elim
    | tup cs => exact hs.elim
  · have pt : ∀ aa, X = .pointer aa → K (st.put d (.i (.bool (aa.isNone != neg)))) → o.wpX P a w (Goal GL n S M w K) Q := fun aa e hk => by
      subst e
      exact put (Y := .pointer none) rfl (run_eqn_ptr hu aa) (.inr (.inr (.inr (.inl rfl)))) (fun _ _ => by simp) (fun _ => by simp) (by simp) hk
    cases V with
    | i z =>
      cases z <;> simp only [isnilE, nilV] at hs
      · have hr := repD_i_inv hr; cases hr; exact pt _ rfl hs
      · have hr := repD_i_inv hr; cases hr; exact pt _ rfl hs
    | ref r =>
      cases r <;> simp only [isnilE, nilV] at hs
      · obtain ⟨_, b, _, rfl⟩ := hr; exact pt _ rfl hs
      · obtain ⟨_, b, _, _, _, _, rfl⟩ := hr; exact pt _ rfl hs
    | _ => exact hs.elim
  · cases V with
    | i z =>
      cases z <;> simp only [isnilE, nilV] at hs
      · have hr := repD_i_inv hr; cases hr
        exact put (Y := .nilIface) rfl (run_eqn_if hu) (.inr (.inr (.inr (.inr rfl)))) (fun _ _ => by simp) (fun _ => by simp) (by simp) hs
      · have hr := repD_i_inv hr; cases hr
        exact wp_put h hd hn (run_isnilif ho hX hu) (repD_i (.bool _)) hs
    | _ => exact hs.elim
theorem snd_un (h : Rel GL n S M μ st a w) {op : UnOp} {t : TypeId} {x : Operand} {ox : O} (ho : o.op = .unOp op t x) (hd : o.dst = some d) (hn : d < n)
    (hx : cO GL x = some ox) (hs : step P GL (.un d op ox) st K) : o.wpX P a w (Goal GL n S M w K) Q := by
  have hr := opv_rep h hx
  simp only [step, unE] at hs
  split at hs
  · rename_i u e1
    rw [e1] at hr
    have e3 := bool_inv (repD_i_inv hr)
    exact wp_put h hd hn (by simp [execOp, ho, e3, Op.unary]) (repD_i (.bool _)) hs
  · rename_i k i e1
    rw [e1] at hr
    have e3 := int_inv (repD_i_inv hr)
    exact wp_put h hd hn (by simp [execOp, ho, e3, Op.unary, Op.intArith]) (repD_i (.int _ _)) hs
  · exact hs.elim
theorem run_builtin1 {b : Builtin} {t : TypeId} {x : Operand} {V : Value} (ho : o.op = .call { callee := .builtin b, args := #[x], argTypes := #[t] }) (hb : b = .len)
    (hv : (Builtin.len_ #[t] o.type #[a.eval x]).run P w = .ok V w) : (execOp a.eval o).run P w = .ok (.value V) w := by
  subst hb
  simp only [execOp, ho, resolve, Sem.run_bind, Sem.run_pure, Result.andThen_ok, invoke, builtin, List.map_toArray, List.map_cons, List.map_nil, hv]
theorem snd_lens (h : Rel GL n S M μ st a w) {t : TypeId} {x : Operand} {ox : O} (ho : o.op = .call { callee := .builtin .len, args := #[x], argTypes := #[t] }) (hd : o.dst = some d) (hn : d < n)
    (hx : cO GL x = some ox) (hu : P.underlying t = some .string) (hs : step P GL (.lens d ox) st K) : o.wpX P a w (Goal GL n S M w K) Q := by
  have hr := opv_rep h hx
  simp only [step, lensE] at hs
  split at hs
  · rename_i s e1
    rw [e1] at hr
    have e3 := str_inv (repD_i_inv hr)
    refine wp_put h hd hn (run_builtin1 ho rfl ?_) (repD_i (.int .i64 s.length)) hs
    rw [e3]
    simp [Builtin.len_, run_underlying hu w, goInt, size_bytesOf]
  · exact hs.elim
theorem snd_lenl (h : Rel GL n S M μ st a w) {t e : TypeId} {x : Operand} {ox : O} (ho : o.op = .call { callee := .builtin .len, args := #[x], argTypes := #[t] }) (hd : o.dst = some d) (hn : d < n)
    (hx : cO GL x = some ox) (hu : P.underlying t = some (.slice e)) (hs : step P GL (.lenl d ox) st K) : o.wpX P a w (Goal GL n S M w K) Q := by
  have hr := opv_rep h hx
  have hex : ∀ b l c, a.eval x = .slice b l c → (execOp a.eval o).run P w = .ok (.value (.int .i64 l)) w := fun b l c e3 => by
    refine run_builtin1 ho rfl ?_
    rw [e3]
    simp [Builtin.len_, run_underlying hu w, goInt]
  simp only [step, lenlE] at hs
  split at hs
  · rename_i rows e1
    rw [e1] at hr
    have hr := repD_i_inv hr
    refine wp_put h hd hn (v := .int .i64 rows.length) ?_ (repD_i (.int .i64 rows.length)) hs
    generalize hv : a.eval x = vx at hr
    cases hr with
    | slnil => exact hex _ _ _ hv
    | slempty => exact hex _ _ _ hv
    | sl => exact hex _ _ _ hv
  · rename_i nm k lo hi e1
    rw [e1] at hr
    obtain ⟨_, aa, cap, _, h1, h2, hh⟩ := hr
    refine wp_put h hd hn (v := .int .i64 ((hi - lo : Nat) : Int)) ?_ (repD_i (.int .i64 _)) hs
    rcases hh with ⟨rfl, a', e3⟩ | ⟨_, _, _, e3⟩
    · have : hi - cap = 0 := by omega
      rw [this]; exact hex _ _ _ e3
    · exact hex _ _ _ e3
  · rename_i e1
    rw [e1] at hr
    have hr := repD_i_inv hr
    generalize hv : a.eval x = vx at hr
    cases hr
    exact wp_put h hd hn (v := .int .i64 0) (hex _ _ _ hv) (repD_i (.int .i64 0)) hs
  · exact hs.elim
theorem snd_ext (h : Rel GL n S M μ st a w) {x : Operand} {ox : O} {i : Nat} (ho : o.op = .extract x i) (hd : o.dst = some d) (hn : d < n)
    (hx : cO GL x = some ox) (hs : step P GL (.ext d ox i) st K) : o.wpX P a w (Goal GL n S M w K) Q := by
  have hr := opv_rep h hx
  simp only [step, extE] at hs
  split at hs
  · rename_i vs e1
    rw [e1] at hr
    obtain ⟨us, e3, hl⟩ := (repD_i_inv hr).tup_inv
    obtain ⟨hi, hs⟩ := hs
    have hi' : i < us.size := by have := hl.1; simp at this; omega
    have e : vs.getD i .undef = vs[i] := by grind
    rw [e] at hs
    refine wp_put h hd hn (v := us[i]) ?_ (repD_i ?_) hs
    · simp [execOp, ho, e3, Instr.extract, hi']
    · have := hl.2 i hi (by simpa using hi')
      simpa using this
  · rename_i cs e1
    rw [e1] at hr
    obtain ⟨us, e3, hl⟩ := hr
    obtain ⟨hi, hs⟩ := hs
    have hi' : i < us.size := by have := hl.1; simp at this; omega
    have e : cs.getD i .any = cs[i] := by grind
    rw [e] at hs
    refine wp_put h hd hn (v := us[i]) ?_ ?_ hs
    · simp [execOp, ho, e3, Instr.extract, hi']
    · have := (hl.2 i hi (by simpa using hi')).toD
      simpa using this
  · exact hs.elim
theorem snd_max (h : Rel GL n S M μ st a w) {mx : Bool} {t t' : TypeId} {x y : Operand} {ox oy : O} (ho : o.op = .call { callee := .builtin (if mx then .max else .min), args := #[x, y], argTypes := #[t, t'] }) (hd : o.dst = some d) (hn : d < n)
    (hx : cO GL x = some ox) (hy : cO GL y = some oy) (hs : maxE mx (opv GL st ox) (opv GL st oy) d st K) : o.wpX P a w (Goal GL n S M w K) Q := by
  have hr := opv_rep h hx
  have hr' := opv_rep h hy
  unfold maxE at hs
  split at hs
  · rename_i k i k' j e1 e2
    rw [e1] at hr; rw [e2] at hr'
    have e3 := int_inv (repD_i_inv hr)
    have e4 := int_inv (repD_i_inv hr')
    refine wp_put h hd hn ?_ (repD_i (.int _ _)) hs
    cases mx <;> simp only [Bool.false_eq_true, if_true, if_false] at ho ⊢
    · simp only [execOp, ho, resolve, Sem.run_bind, Sem.run_pure, Result.andThen_ok, invoke, builtin, List.map_toArray, List.map_cons, List.map_nil, e3, e4, run_min_int2]
    · simp only [execOp, ho, resolve, Sem.run_bind, Sem.run_pure, Result.andThen_ok, invoke, builtin, List.map_toArray, List.map_cons, List.map_nil, e3, e4, run_max_int2]
  · exact hs.elim
def notIf : TypeDesc → Bool
  | .interface _ => false
  | _ => true
theorem snd_conv (h : Rel GL n S M μ st a w) {t t' : TypeId} {x : Operand} {ox : O} {k : IntKind} {ds : TypeDesc} (ho : o.op = .convert t t' x) (hd : o.dst = some d) (hn : d < n)
    (hx : cO GL x = some ox) (hu : P.underlying t = some ds) (hu' : P.underlying t' = some (.int k)) (hs : step P GL (.conv d k ox) st K) : o.wpX P a w (Goal GL n S M w K) Q := by
  have hr := opv_rep h hx
  simp only [step, convE] at hs
  split at hs
  · rename_i k' i e1
    rw [e1] at hr
    have e3 := int_inv (repD_i_inv hr)
    refine wp_put h hd hn ?_ (repD_i (.int _ _)) hs
    simp only [execOp, ho, convert, Sem.run_bind, run_underlying hu w, run_underlying hu' w, Result.andThen_ok, e3, Conv.intToInt, Sem.run_pure]
  · exact hs.elim
theorem snd_mkif (h : Rel GL n S M μ st a w) {t : TypeId} {x : Operand} {ox : O} {u : TypeDesc} (ho : o.op = .makeInterface t x) (hd : o.dst = some d) (hn : d < n) (hx : cO GL x = some ox) (hu : P.underlying t = some u) (hi : notIf u = true) (hs : step P GL (.mkif d t ox) st K) : o.wpX P a w (Goal GL n S M w K) Q := by
  have hr := opv_rep h hx
  simp only [step, mkifE] at hs
  split at hs
  · rename_i y e1
    rw [e1] at hr
    refine wp_put h hd hn ?_ (repD_i (.iface t y _ (repD_i_inv hr))) hs
    simp only [execOp, ho, Instr.makeInterface, Sem.run_bind, run_underlying hu w, Result.andThen_ok]
    unfold notIf at hi
    split
    · cases hi
    · simp only [Sem.run_pure, Result.andThen_ok]
  · exact hs.elim
theorem toCp_rep {x : D} {c : Cp} {v : Value} {N : Nat → Prop} (h : RepD M μ N x v) (hc : toCp x = some c) : RepC M μ N c v := by cases x <;> simp [toCp] at hc <;> subst hc <;> exact h
theorem toCps_rep {N : Nat → Prop} : ∀ {xs : List D} {cs : List Cp} {vs : List Value}, RepDs M μ N xs vs → xs.mapM toCp = some cs → RepCs M μ N cs vs
  | [], cs, vs, h, hc => by simp at hc; subst hc; exact ⟨h.1, fun j hj => by simp at hj⟩
  | x :: xs, cs, vs, h, hc => by
    rw [List.mapM_cons] at hc
    cases h1 : toCp x with
    | none => simp [h1] at hc
    | some c =>
      cases h2 : xs.mapM toCp with
      | none => simp [h1, h2] at hc
      | some cs' =>
        simp [h1, h2] at hc
        subst hc
        obtain ⟨q1, q2⟩ := h
        cases vs with
        | nil => simp at q1
        | cons v vs =>
          have := toCps_rep (vs := vs) ⟨by simpa using q1, fun j a b => by have := q2 (j + 1) (by simp; omega) (by simp; omega); exact this⟩ h2
          refine ⟨by simpa using this.1, fun j a b => ?_⟩
          cases j with
          | zero => exact toCp_rep (q2 0 (by simp) (by simp)) h1
          | succ j => exact this.2 j (by simpa using a) (by simpa using b)
theorem repCs_i {N : Nat → Prop} {cs : List Cp} {vs : List Value} (h : RepCs M μ N cs vs) (hi : cs.all iCp = true) : RepL M (cs.map unC) vs := by
  refine ⟨by simpa using h.1, fun j a b => ?_⟩
  rw [List.getElem_map]
  have := h.2 j (by simpa using a) b
  have hj : iCp (cs[j]'(by simpa using a)) = true := by grind
  revert this hj
  generalize cs[j]'(by simpa using a) = c
  intro this hj
  cases c <;> simp [iCp] at hj
  exact this
theorem snd_mkfn (h : Rel GL n S M μ st a w) {f : FuncId} {first caps : Array Operand} {of oc : List O} (hfy : Nat.blt f 1000000000 = true) (ho : o.op = .makeFunc (.func f) first caps) (hd : o.dst = some d) (hn : d < n)
    (hf : first.toList.mapM (cO GL) = some of) (hc : caps.toList.mapM (cO GL) = some oc) (hs : step P GL (.mkfn d f of oc) st K) : o.wpX P a w (Goal GL n S M w K) Q := by
  simp only [step, mkfnE] at hs
  split at hs
  · rename_i x y e1 e2
    have e1' : (of.map (opv GL st)).mapM toCp = some x := by rw [List.mapM_map]; exact e1
    have e2' : (oc.map (opv GL st)).mapM toCp = some y := by rw [List.mapM_map]; exact e2
    have r1 := toCps_rep (opvs_repD h hf) e1'
    have r2 := toCps_rep (opvs_repD h hc) e2'
    refine wp_put h hd hn (v := .func (.func f) (first.map a.eval) (caps.map a.eval)) ?_ ?_ hs
    · simp [execOp, ho, Instr.makeFunc]
    · unfold fnD
      split
      · rename_i hall
        rw [Bool.and_eq_true] at hall
        exact Rep.fn' hfy (by simpa using repCs_i r1 hall.1) (by simpa using repCs_i r2 hall.2)
      · exact ⟨_, _, by rw [cdFn, if_pos hfy], .inl hfy, by simpa using r1, by simpa using r2⟩
  · exact hs.elim
def wrapT (P : Program) (t : TypeId) (cs : Array Value) : Value := if aggT P t = some true then .agg cs else cs.getD 0 Go.undef
theorem run_part {t : TypeId} {k off : Nat} {cs : Array Value} {ag : Bool} (hk : szT P t = some k) (ha : aggT P t = some ag) (h1 : ag = false → k = 1) (hfit : off + k ≤ cs.size) (w : World) :
    (part t cs off).run P w = .ok (wrapT P t (cs.extract off (off + k))) w := by
  unfold part wrapT
  cases ag with
  | true =>
    simp only [Sem.run_bind, run_isAgg' ha, Result.andThen_ok, if_true, run_sizeOf' hk, Sem.run_pure, ha]
  | false =>
    obtain rfl := h1 rfl
    have hlt : off < cs.size := by omega
    simp only [Sem.run_bind, run_isAgg' ha, Result.andThen_ok, Bool.false_eq_true, if_false, ha, Option.some.injEq]
    have : off < off + 1 := by omega
    simp [hlt, Array.getD_eq_getD_getElem?, show 0 < min (off + 1) cs.size - off by omega]
theorem RepL.slice {cs : List I} {vs : Array Value} (h : RepL M cs vs.toList) (off k : Nat) (hfit : off + k ≤ cs.length) : RepL M ((cs.drop off).take k) (vs.extract off (off + k)).toList := by
  have e := h.1
  simp at e
  refine ⟨by simp; omega, fun j a b => ?_⟩
  simp at a b
  have := h.2 (off + j) (by omega) (by simp; omega)
  grind
theorem rep_part {t : TypeId} {k off : Nat} {cs : List I} {vs : Array Value} {ag : Bool} (ha : aggT P t = some ag) (h1 : ag = false → k = 1) (h : RepL M cs vs.toList) (hfit : off + k ≤ cs.length) :
    Rep M (pk ag cs off k) (wrapT P t (vs.extract off (off + k))) := by
  have hs := h.slice off k hfit
  have e := h.1
  simp at e
  unfold wrapT
  cases ag with
  | true => simp only [ha, if_true, pk]; exact Rep.agg' hs
  | false =>
    obtain rfl := h1 rfl
    simp only [ha, pk, Bool.false_eq_true, if_false, Option.some.injEq]
    have := h.2 off (by omega) (by simp; omega)
    have e1 : cs.getD off .undef = cs[off]'(by omega) := by grind
    rw [e1]
    simpa [Array.getD_eq_getD_getElem?, show 0 < min (off + 1) vs.size - off by omega] using this
theorem snd_fld (h : Rel GL n S M μ st a w) {t : TypeId} {x : Operand} {ox : O} {f k : Nat} {fs : Array Field} {fl : Field} {ag : Bool} (ho : o.op = .field t x f) (hd : o.dst = some d) (hn : d < n)
    (hx : cO GL x = some ox) (hu : P.underlying t = some (.struct fs)) (hf : fs[f]? = some fl) (hk : szT P fl.type = some k) (ha : aggT P fl.type = some ag) (h1 : (ag || k == 1) = true)
    (hs : step P GL (.fld d ox fl.offset k ag) st K) : o.wpX P a w (Goal GL n S M w K) Q := by
  replace h1 : ag = false → k = 1 := fun e => by subst e; simpa using h1
  have hr := opv_rep h hx
  simp only [step, fldE] at hs
  split at hs
  · rename_i cs e
    rw [e] at hr
    obtain ⟨vs, e3, hl⟩ := (repD_i_inv hr).agg_inv
    obtain ⟨hfit, hs⟩ := hs
    have hl' := hl.1
    simp at hl'
    refine wp_put h hd hn ?_ (repD_i (rep_part (P := P) (t := fl.type) ha h1 hl hfit)) hs
    simp only [execOp, ho, e3, Instr.field, Sem.run_bind, run_underlying hu w, Result.andThen_ok, hf, asAgg, Sem.run_pure, run_part hk ha h1 (show fl.offset + k ≤ vs.size by omega)]
  · exact hs.elim
theorem snd_aidx (h : Rel GL n S M μ st a w) {t e : TypeId} {x ix : Operand} {ox oi : O} {k len : Nat} {ag : Bool} (ho : o.op = .index t x ix) (hd : o.dst = some d) (hn : d < n)
    (hx : cO GL x = some ox) (hi : cO GL ix = some oi) (hu : P.underlying t = some (.array len e)) (hk : szT P e = some k) (ha : aggT P e = some ag) (h1 : (ag || k == 1) = true)
    (hs : step P GL (.aidx d ox oi k len ag) st K) : o.wpX P a w (Goal GL n S M w K) Q := by
  replace h1 : ag = false → k = 1 := fun e => by subst e; simpa using h1
  have hr := opv_rep h hx
  have hri := opv_rep h hi
  simp only [step, aidxE] at hs
  split at hs
  · rename_i cs kk i e1 e2
    rw [e1] at hr; rw [e2] at hri
    have hri := int_inv (repD_i_inv hri)
    obtain ⟨vs, e3, hl⟩ := (repD_i_inv hr).agg_inv
    obtain ⟨hb, hfit, hs⟩ := hs
    have hl' := hl.1
    simp at hl'
    refine wp_put h hd hn ?_ (repD_i (rep_part (P := P) (t := e) ha h1 hl hfit)) hs
    simp only [execOp, ho, e3, hri, Instr.index, asIntOf, Sem.run_bind, run_underlying hu w, Result.andThen_ok, Sem.run_pure, hb, and_self, if_true, run_sizeOf' hk, run_part hk ha h1 (show i.toNat * k + k ≤ vs.size by omega)]
  · exact hs.elim
end
end Go.Dl
