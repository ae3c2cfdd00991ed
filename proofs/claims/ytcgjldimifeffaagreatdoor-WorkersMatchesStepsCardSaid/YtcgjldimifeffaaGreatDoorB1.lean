/- A part of the proofs of WorkersExclude and WorkersMatchesSteps: B1. -/
import Derived.Test.YtcgjldimifeffaaGreatDoorA15
import Derived.Lib.ConvBytes
import Derived.Laws.BytesString
set_option linter.unusedVariables false
set_option linter.unusedSimpArgs false
namespace Go.Dl
open Go Go.RowKit
section
variable {P : Program} {GL : List (Nat × List I)} {n : Nat} {S : Sh} {M : Mem} {μ : Place} {st : St} {a : Act} {w : World} {K : St → Prop} {Q : Exit → Act → World → Prop} {o : Oper} {d : Nat}
theorem snd_iaa (h : Rel GL n S M μ st a w) {t e : TypeId} {x ix : Operand} {ox oi : O} {k len : Nat} (ho : o.op = .indexAddr t x ix) (hd : o.dst = some d) (hn : d < n)
    (hx : cO GL x = some ox) (hi : cO GL ix = some oi) (hu : P.underlying t = some (.array len e)) (hk : szT P e = some k)
    (hs : step P GL (.iaa d ox oi k len) st K) : o.wpX P a w (Goal GL n S M w K) Q := by
  have hr := opv_rep h hx
  have hri := opv_rep h hi
  have hex : ∀ kk (i : Int) b oo, a.eval x = .pointer (some ⟨b, oo, none⟩) → a.eval ix = .int kk i → 0 ≤ i ∧ i < (len : Int) →
      (execOp a.eval o).run P w = .ok (.value (.pointer (some ⟨b, oo + i.toNat * k, none⟩))) w := fun kk i b oo e1 e2 hb => by
    simp only [execOp, ho, e1, e2, Instr.indexAt, Instr.sureAddr, asIntOf, Sem.run_bind, run_underlying hu w, Result.andThen_ok, Sem.run_pure, hb, and_self, if_true, run_sizeOf' hk, add_zero_spot]
  simp only [step, iaaE] at hs
  split at hs
  · rename_i cs oo kk i e1 e2
    rw [e1] at hr; rw [e2] at hri
    have hri := int_inv (repD_i_inv hri)
    have hr := repD_i_inv hr
    obtain ⟨hb, hs⟩ := hs
    generalize hv : a.eval x = vx at hr
    cases hr with
    | elt _ _ b o' v hm hvv =>
      refine wp_put h hd hn (hex _ _ _ _ hv hri hb) (repD_i ?_) hs
      rw [Nat.add_assoc]
      exact .elt _ _ _ _ _ hm hvv
  · rename_i nm oo kk i e1 e2
    rw [e1] at hr; rw [e2] at hri
    have hri := int_inv (repD_i_inv hri)
    obtain ⟨hb, hs⟩ := hs
    obtain ⟨hN, b, hμ, hv⟩ := hr
    exact wp_put h hd hn (x := .ref (.loc nm (oo + i.toNat * k))) (hex _ _ _ _ hv hri hb) ⟨hN, b, hμ, rfl⟩ hs
  · rename_i nm kk row oo q i e1 e2
    rw [e1] at hr; rw [e2] at hri
    have hri := int_inv (repD_i_inv hri)
    obtain ⟨hb, hs⟩ := hs
    obtain ⟨hN, b, o', c, hμ, hrc, hv⟩ := hr
    exact wp_put h hd hn (x := .ref (.lel nm kk row (oo + i.toNat * k))) (hex _ _ _ _ hv hri hb) ⟨hN, b, o', c, hμ, hrc, by rw [Nat.add_assoc]⟩ hs
  · exact hs.elim
theorem snd_buildA (h : Rel GL n S M μ st a w) {t e : TypeId} {len k : Nat} {parts : Array (Nat × Operand)} {i : TypeInfo} {z : Value} {zi : I} {qs : List (Nat × Nat × O)}
    (ho : o.op = .build t parts) (hd : o.dst = some d) (hn : d < n) (hi : P.info? t = some i) (hz : i.zero = some z) (hc : constI z = some zi) (hu : P.underlying t = some (.array len e)) (hk : szT P e = some k)
    (hq : partsO GL (fun j => some (j * k, k)) (cellsI zi).length parts.toList = some qs) (hs : step P GL (.build d (cellsI zi) qs) st K) : o.wpX P a w (Goal GL n S M w K) Q := by
  obtain ⟨hall, hs⟩ := hs
  have hrz : RepL M (cellsI zi) z.cells.toList := (constI_rep hc).cellsI
  obtain ⟨ps, e1, e2, e3⟩ := parts_rep h parts.toList qs (fun j => some (j * k, k)) (cellsI zi).length hq hall
  obtain ⟨cells', e4, e5⟩ := fill_rep (place := fun j => some (j * k, k)) ps (cellsI zi) z.cells hrz e3
  rw [e2] at e5
  refine wp_put h hd hn (v := .agg cells') ?_ (repD_i (Rep.agg' e5)) hs
  rw [e1] at e4
  have e4' : Instr.fill (fun x => some (x * k, k)) z.cells ((parts.map fun (i, x) => (i, a.eval x)).toList) = some cells' := by simp_all
  simp only [execOp, ho, Instr.build, Sem.run_bind, zeroValue, typeInfo, hi, hz, run_program, Result.andThen_ok, Sem.run_pure, run_underlying hu w, run_sizeOf' hk, e4']
theorem rowsB_get (s : List UInt8) (i : Nat) (h : i < (rowsB s).length) : (rowsB s)[i] = [.int .u8 ((s[i]'(by simpa [rowsB] using h)).toNat : Int)] := by simp [rowsB]
theorem snd_bytes (h : Rel GL n S M μ st a w) {t t' e : TypeId} {x : Operand} {ox : O} {u : TypeDesc} (ho : o.op = .convert t t' x) (hd : o.dst = some d) (hn : d < n) (hx : cO GL x = some ox)
    (hu : P.underlying t = some u) (hu' : P.underlying t' = some (.slice e)) (he : P.underlying e = some (.int .u8)) (hs : step P GL (.bytes d ox) st K) : o.wpX P a w (Goal GL n S M w K) Q := by
  have hr := opv_rep h hx
  simp only [step, bytesE] at hs
  split at hs
  · rename_i s e1
    rw [e1] at hr
    have hv := str_inv (repD_i_inv hr)
    have hex : (execOp a.eval o).run P w = .ok (.value (.slice (some ⟨w.heap.size, 0, none⟩) (bytesOf s).size (grownCap w (bytesOf s).size 0 e))) (Lib.bytesWorld w e (bytesOf s)) := by simp only [execOp, ho, hv, Sem.run_bind, Lib.run_convert_string_bytes w t t' e (bytesOf s) hu hu' he, Result.andThen_ok, Sem.run_pure]
    have hlen : (bytesOf s).size = s.length := by rfl
    have hcap : s.length ≤ grownCap w s.length 0 e := by exact grownCap_ge w s.length 0 e
    have hM : M.le (M.with w.heap.size (Lib.bytesCells w e (bytesOf s))) := Mem.le_with (Mem.unk_new h.sub (Nat.le_refl _))
    have h1 : StoOk S.p M μ st.sto (Lib.bytesWorld w e (bytesOf s)) := h.toStoOk.world (by rw [Lib.bytesWorld_size]; omega) fun k hk => Lib.bytesWorld_at_old w e _ k hk
    have h2 : StoOk S.p (M.with w.heap.size (Lib.bytesCells w e (bytesOf s))) μ st.sto (Lib.bytesWorld w e (bytesOf s)) :=
      h1.know hM (h1.sub.with (Lib.bytesWorld_at_new w e _)) fun m k hm hk => Mem.with_same (by have := h.toStoOk.lt hm hk; omega)
    have h3 : Rel GL n S (M.with w.heap.size (Lib.bytesCells w e (bytesOf s))) μ st a (Lib.bytesWorld w e (bytesOf s)) := h.of h2 hM fun s v hv => hv.mono hM fun _ k => k
    have hrep : Rep (M.with w.heap.size (Lib.bytesCells w e (bytesOf s))) (.sl (rowsB s)) (.slice (some ⟨w.heap.size, 0, none⟩) s.length (grownCap w s.length 0 e)) := by
      have hl : (rowsB s).length = s.length := by simp [rowsB]
      have := Rep.sl (M := M.with w.heap.size (Lib.bytesCells w e (bytesOf s))) (rowsB s) 1 w.heap.size 0 (grownCap w s.length 0 e) (fun i _ => .int .u8 ((s.getD i 0).toNat : Int)) (fun r hr => by
          obtain ⟨b, _, rfl⟩ := List.mem_map.1 hr; rfl) (by rw [hl]; exact hcap) (fun i hi j hj => by
          rw [rowsB_get s i hi] at hj
          have hj0 : j = 0 := by grind
          subst hj0
          have hi' : i < s.length := by omega
          simp [Mem.with, Lib.bytesCells, bytesOf, Array.getElem?_append, hi']) (fun i hi j hj => by
          have hj' := hj
          rw [rowsB_get s i hi] at hj'
          have hj0 : j = 0 := by grind
          subst hj0
          have hi' : i < s.length := by omega
          simp only [rowsB_get s i hi, List.getElem_cons_zero]
          have : s.getD i 0 = s[i] := by grind
          rw [this]
          exact .int _ _)
      grind
    rw [hlen] at hex
    refine wp_value hex ⟨_, hs, _, μ, by rw [hd]; exact h3.put hn (repD_i hrep), ⟨hM, fun b hb => Mem.with_same (by have := h.low b hb; omega)⟩, ⟨?_, ?_, ?_, ?_, ?_, ?_⟩⟩
    · rfl
    · rfl
    · rfl
    · rw [Lib.bytesWorld_size]; omega
    · exact fun k hk => Lib.bytesWorld_at_old w e _ k (h.low k hk)
    · exact (by unfold Lib.bytesWorld; first | exact Nat.le_refl _ | exact Nat.le_succ _ | simp)
  · exact hs.elim
theorem bytesI_get : ∀ {rows : List (List I)} {l : List UInt8}, bytesI rows = some l → ∃ ns : List Int, ns.length = rows.length ∧ (∀ i (h : i < rows.length) (h' : i < ns.length), rows[i] = [.int .u8 ns[i]]) ∧ l = ns.map fun n => UInt8.ofNat n.toNat
  | [], l, h => by simp [bytesI] at h; subst h; exact ⟨[], rfl, fun i h => by simp at h, rfl⟩
  | r :: rows, l, h => by
    unfold bytesI at h
    split at h
    · rename_i heq; cases heq
    · rename_i n r' heq
      cases heq
      obtain ⟨l', hl, rfl⟩ := Option.map_eq_some_iff.1 h
      obtain ⟨ns, h1, h2, rfl⟩ := bytesI_get hl
      refine ⟨n :: ns, by simp [h1], fun i a b => ?_, rfl⟩
      cases i with
      | zero => rfl
      | succ i => exact h2 i (by simpa using a) (by simpa using b)
    · cases h
theorem foldl_push : ∀ (ns : List Int) (r : ByteArray), ns.foldl (fun r n => r.push (UInt8.ofNat n.toNat)) r = ⟨r.data ++ (ns.map fun n => UInt8.ofNat n.toNat).toArray⟩
  | [], r => by simp
  | n :: ns, r => by
    simp only [List.foldl_cons]
    rw [foldl_push ns]
    simp
theorem snd_ofb (h : Rel GL n S M μ st a w) {t t' e : TypeId} {x : Operand} {ox : O} (ho : o.op = .convert t t' x) (hd : o.dst = some d) (hn : d < n) (hx : cO GL x = some ox)
    (hu : P.underlying t = some (.slice e)) (hu' : P.underlying t' = some .string) (he : P.underlying e = some (.int .u8)) (hs : step P GL (.ofb d ox) st K) : o.wpX P a w (Goal GL n S M w K) Q := by
  have hr := opv_rep h hx
  simp only [step, ofbE] at hs
  split at hs
  · rename_i rows e1
    rw [e1] at hr
    have hr := repD_i_inv hr
    unfold ofbO at hs
    split at hs
    · rename_i l hl
      obtain ⟨ns, q1, q2, rfl⟩ := bytesI_get hl
      have fin : ∀ aa len cap, a.eval x = .slice aa len cap → (Conv.bytesToString (.slice aa len cap)).run P w = .ok (.string (bytesOf (ns.map fun n => UInt8.ofNat n.toNat))) w → o.wpX P a w (Goal GL n S M w K) Q := fun aa len cap ee hh => by
        refine wp_put h hd hn (v := .string (bytesOf (ns.map fun n => UInt8.ofNat n.toNat))) ?_ (repD_i (.str _)) hs
        simp only [execOp, ho, ee, Sem.run_bind, run_convert_bytes_string w t t' e aa len cap hu he hu', hh, Result.andThen_ok, Sem.run_pure]
      have go : ∀ (aa : Addr) cap, a.eval x = .slice (some aa) rows.length cap → (loadCells aa rows.length).run P w = .ok (ns.map (Value.int .u8)).toArray w → o.wpX P a w (Goal GL n S M w K) Q := fun aa cap ee hh => by
        refine fin _ _ _ ee ?_
        rw [run_bytesToString w aa rows.length cap ns hh, foldl_push]
        simp [bytesOf]
      generalize hv : a.eval x = vx at hr
      cases hr with
      | slnil =>
        have : ns = [] := List.eq_nil_of_length_eq_zero (by simpa using q1)
        subst this
        exact fin _ _ _ hv rfl
      | slempty aa cap =>
        refine go aa cap hv ?_
        have : ns = [] := List.eq_nil_of_length_eq_zero (by simpa using q1)
        subst this
        simp only [loadCells]; rfl
      | sl _ k b oo cap v hk hc hm hvv =>
        refine go _ cap hv ?_
        have := run_loadCells (P := P) w ⟨b, oo, none⟩ rows.length (fun j => .int .u8 (ns.getD j 0)) fun j hj => by
          have e0 := q2 j hj (by omega)
          have hl1 : (rows[j]).length = 1 := by rw [e0]; rfl
          have hk1 : k = 1 := by rw [← hk _ (List.getElem_mem hj)]; exact hl1
          subst hk1
          have h1 := hm j hj 0 (by omega)
          have h2 := hvv j hj 0 (by omega)
          simp only [e0, List.getElem_cons_zero] at h2
          have h3 := int_inv h2
          rw [h3] at h1
          have := h.sub.1 _ _ _ h1
          simp only [Nat.mul_one, Nat.add_zero] at this
          rw [add_zero_spot, this]; simp [List.getD, show j < ns.length by omega]
        rw [this]
        congr 1
        apply Array.ext'
        simp only
        apply List.ext_getElem
        · simp [q1]
        · intro j h1 h2
          simp at h1 h2
          simp [List.getD, h2]
    · exact hs.elim
  · exact hs.elim
end
end Go.Dl
