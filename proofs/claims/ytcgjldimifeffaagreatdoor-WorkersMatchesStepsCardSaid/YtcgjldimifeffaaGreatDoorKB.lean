/- A part of the proofs of WorkersExclude and WorkersMatchesSteps: E78 E79 E76 E81. -/
import Derived.Test.YtcgjldimifeffaaGreatDoorKA
import Derived.Test.YtcgjldimifeffaaGreatDoorA31
import Derived.WalkKit
import Derived.LaidEql
import Derived.Stop.Asserts
import Derived.RowKitTokens
set_option linter.all false
set_option maxRecDepth 100000
set_option maxHeartbeats 8000000
namespace Go.Proofs.YtcgjldimifeffaaGreatDoor
open Go Go.Dl Go.As Go.Proofs Go.RowKit Go.Extern.Stop Go.Stop Go.Extern
/-! errors.As, at the target that is used. -/
theorem xSize : Tryz.prog.types.size = 670 := by kernel_rfl
theorem xValueOf (t : Addr) (w : World) : (ReflectliteValue.unpack (.iface 143 (.pointer (some t)))).run Tryz.prog w
    = .ok (.agg #[.pointer (some ⟨10, 143, none⟩), .pointer (some ⟨w.heap.size, 0, none⟩), .int .u64 150]) (w.alloc (.cells #[.pointer (some t)] 143)) := by kernel_rfl
theorem xType (a : Addr) (w : World) : (ReflectliteValue.methodAny (ReflectliteValue.valueError "reflectlite.Value.Type" 0) (fun t _ _ _ => ReflectliteType.toType t) #[.agg #[.pointer (some ⟨10, 143, none⟩), .pointer (some a), .int .u64 150]]).run Tryz.prog w
    = .ok (.iface 260 (.agg #[.pointer (some ⟨10, 143, none⟩)])) w := by kernel_rfl
theorem xMKind (h : Value) (w : World) : (Go.method (670 + 100) 260 (.agg #[h]) "Kind").run Tryz.prog w = .ok (512, h) w := by kernel_rfl
theorem xKindP (w : World) : ((ReflectliteType.abiMethod fun t => (fun a : Nat => Value.int IntKind.u8 (a : Int)) <$> Rtype.kind t) #[.pointer (some ⟨10, 143, none⟩)]).run Tryz.prog w = .ok (.int .u8 22) w := by kernel_rfl
theorem xKindS (w : World) : ((ReflectliteType.abiMethod fun t => (fun a : Nat => Value.int IntKind.u8 (a : Int)) <$> Rtype.kind t) #[.pointer (some ⟨10, 141, none⟩)]).run Tryz.prog w = .ok (.int .u8 25) w := by kernel_rfl
theorem rlm (z : Sem Value) (f : TypeId → Addr → Nat → Nat → Sem Value) (v : Value) :
    ReflectliteValue.method z f #[v] = (do match ← ReflectliteValue.parts v with | none => z | some (t, a, fl) => f t a fl (fl % 32)) := rfl
theorem xParts (a : Addr) (w : World) : (ReflectliteValue.parts (.agg #[.pointer (some ⟨10, 143, none⟩), .pointer (some a), .int .u64 150])).run Tryz.prog w = .ok (some (143, a, 150)) w := by kernel_rfl
theorem xIsNil (a p : Addr) (W : World) (ha : W.cell? a = some (.pointer (some p))) :
    (ReflectliteValue.method (ReflectliteValue.valueError "reflectlite.Value.IsNil" 0) ReflectliteValue.isNil #[.agg #[.pointer (some ⟨10, 143, none⟩), .pointer (some a), .int .u64 150]]).run Tryz.prog W = .ok (.bool false) W := by
  rw [rlm]
  simp only [Sem.run_bind, xParts, Result.andThen]
  simp [ReflectliteValue.isNil, loadVar, isAgg, underlying, Tryz.underlying143, ha, Result.andThen]
theorem xMElem (h : Value) (w : World) : (Go.method (670 + 100) 260 (.agg #[h]) "Elem").run Tryz.prog w = .ok (530, .agg #[h]) w := by kernel_rfl
theorem xMImpl (h : Value) (w : World) : (Go.method (670 + 100) 260 (.agg #[h]) "Implements").run Tryz.prog w = .ok (531, .agg #[h]) w := by kernel_rfl
theorem xMAssign (h : Value) (w : World) : (Go.method (670 + 100) 260 (.agg #[h]) "AssignableTo").run Tryz.prog w = .ok (528, .agg #[h]) w := by kernel_rfl
theorem xElem (w : World) : (ReflectliteType.method ReflectliteType.elem #[.agg #[.pointer (some ⟨10, 143, none⟩)]]).run Tryz.prog w = .ok (.iface 260 (.agg #[.pointer (some ⟨10, 141, none⟩)])) w := by kernel_rfl
theorem xImpl (w : World) : (ReflectliteType.relation "Implements" ReflectliteType.implements_ #[.agg #[.pointer (some ⟨10, 141, none⟩)], .iface 260 (.agg #[.pointer (some ⟨10, 114, none⟩)])]).run Tryz.prog w = .ok (.bool true) w := by kernel_rfl
theorem xTypeOf1 (v : Value) (w : World) : (ReflectliteType.typeOf #[.iface 141 v]).run Tryz.prog w = .ok (.iface 260 (.agg #[.pointer (some ⟨10, 141, none⟩)])) w := by kernel_rfl
theorem xTypeOf2 (v : Value) (w : World) : (ReflectliteType.typeOf #[.iface 149 v]).run Tryz.prog w = .ok (.iface 260 (.agg #[.pointer (some ⟨10, 149, none⟩)])) w := by kernel_rfl
theorem xAssign1 (w : World) : (ReflectliteType.relation "AssignableTo" ReflectliteType.assignableTo #[.agg #[.pointer (some ⟨10, 141, none⟩)], .iface 260 (.agg #[.pointer (some ⟨10, 141, none⟩)])]).run Tryz.prog w = .ok (.bool true) w := by kernel_rfl
theorem xAssign2 (w : World) : (ReflectliteType.relation "AssignableTo" ReflectliteType.assignableTo #[.agg #[.pointer (some ⟨10, 149, none⟩)], .iface 260 (.agg #[.pointer (some ⟨10, 141, none⟩)])]).run Tryz.prog w = .ok (.bool false) w := by kernel_rfl
theorem xValueOf1 (e : Int) (w : World) : (ReflectliteValue.unpack (.iface 141 (.agg #[.int .i64 e]))).run Tryz.prog w
    = .ok (.agg #[.pointer (some ⟨10, 141, none⟩), .pointer (some ⟨w.heap.size, 0, none⟩), .int .u64 153]) (w.alloc (.cells #[.int .i64 e] 141)) := by kernel_rfl
theorem xElemOf (w : World) : (Rtype.elem? 143).run Tryz.prog w = .ok (some 141) w := by kernel_rfl
theorem xMk (p : Addr) (w : World) : (ReflectliteValue.mk 141 p ReflectliteValue.flagAddr).run Tryz.prog w = .ok (.agg #[.pointer (some ⟨10, 141, none⟩), .pointer (some p), .int .u64 409]) w := by kernel_rfl
theorem xElemV (a p : Addr) (W : World) (ha : W.cell? a = some (.pointer (some p))) :
    (ReflectliteValue.method (ReflectliteValue.valueError "reflectlite.Value.Elem" 0) ReflectliteValue.elem #[.agg #[.pointer (some ⟨10, 143, none⟩), .pointer (some a), .int .u64 150]]).run Tryz.prog W
      = .ok (.agg #[.pointer (some ⟨10, 141, none⟩), .pointer (some p), .int .u64 409]) W := by
  rw [rlm]
  simp only [Sem.run_bind, xParts, Result.andThen]
  simp [ReflectliteValue.elem, loadVar, isAgg, underlying, Tryz.underlying143, ha, Result.andThen, xElemOf, xMk]
theorem rls (v x : Value) : ReflectliteValue.set #[v, x] = (do
    let (some (dst, a, fl), some (src, b, _)) := (← ReflectliteValue.parts v, ← ReflectliteValue.parts x)
      | unsupported (.noEntry "extern/(internal/reflectlite.Value).Set.zeroValue")
    if fl / ReflectliteValue.flagAddr % 2 == 0 then unsupported (.noEntry "extern/(internal/reflectlite.Value).Set.unaddressable")
    let val ← loadVar src b
    if ← Rtype.directlyAssignable dst src then storeVar dst a val
    else if ← Rtype.implements dst src then
      if (← Rtype.kind src) == 20 then
        match val with
        | .nilIface => unsupported (.noEntry "extern/reflectlite: a nil value of one interface type handed on as a value of another")
        | _ => storeVar dst a val
      else storeVar dst a (.iface src val)
    else panicString ("reflectlite.Set: value of type " ++ (← Rtype.spelt src) ++ " is not assignable to type " ++ (← Rtype.spelt dst))
    pure (.tuple #[])) := rfl
theorem xParts1a (a : Addr) (w : World) : (ReflectliteValue.parts (.agg #[.pointer (some ⟨10, 141, none⟩), .pointer (some a), .int .u64 409])).run Tryz.prog w = .ok (some (141, a, 409)) w := by kernel_rfl
theorem xParts1 (a : Addr) (w : World) : (ReflectliteValue.parts (.agg #[.pointer (some ⟨10, 141, none⟩), .pointer (some a), .int .u64 153])).run Tryz.prog w = .ok (some (141, a, 153)) w := by kernel_rfl
theorem xDirect1 (w : World) : (Rtype.directlyAssignable 141 141).run Tryz.prog w = .ok true w := by kernel_rfl
theorem xSize1 (w : World) : (sizeOf 141).run Tryz.prog w = .ok 1 w := by kernel_rfl
theorem xSet (ta b : Addr) (e : Int) (old : Value) (W : World) (hb : W.cell? b = some (.int .i64 e)) (ht : W.cell? ta = some old) (hf : W.frozen? ta = false) :
    (ReflectliteValue.set #[.agg #[.pointer (some ⟨10, 141, none⟩), .pointer (some ta), .int .u64 409], .agg #[.pointer (some ⟨10, 141, none⟩), .pointer (some b), .int .u64 153]]).run Tryz.prog W
      = .ok (.tuple #[]) (W.setCell ta (.int .i64 e)) := by
  have hl : (loadCells b 1).run Tryz.prog W = .ok #[.int .i64 e] W := run_loadCells_list W b [.int .i64 e] (fun j v h => by
    cases j with
    | zero => simp at h; subst h; simpa [Addr.add] using hb
    | succ j => simp at h)
  rw [rls]
  simp only [Sem.run_bind, xParts1a, xParts1, Result.andThen]
  simp [ReflectliteValue.flagAddr, loadVar, isAgg, underlying, Tryz.underlying141, hl, Result.andThen, xDirect1, storeVar, Value.cells, storeCells, Addr.add, xSize1]
  rw [run_store Tryz.prog W ta _ _ (by rfl)]
  simp [ht, hf]
theorem xNoAs (v : Value) (xT : TypeId) (w : World) : (Instr.typeAssert (.iface 149 v) xT 265 true).run Tryz.prog w = .ok (.tuple #[.nilIface, .bool false]) w := run_typeAssert_lacksB Tryz.underlying265 (by kernel_rfl) (by kernel_rfl) v xT w
theorem xUnw (v : Value) (xT : TypeId) (w : World) : (Instr.typeAssert (.iface 149 v) xT 268 true).run Tryz.prog w = .ok (.tuple #[.iface 149 v, .bool true]) w := run_typeAssert_hasB Tryz.underlying268 (by kernel_rfl) v xT w
theorem xMUnwrap (v : Value) (w : World) : (Go.method (670 + 100) 149 v "Unwrap").run Tryz.prog w = .ok (523, v) w := by kernel_rfl
theorem unwrap_run (s x : Value) (w : World) : Calls Tryz.prog 523 #[.agg #[s, x]] w fun r w' => r = .returned x ∧ w' = w.alloc (.cells #[s, x] 149) := by
  go_enter Tryz.func523, Tryz.ntmps523
  go_wp2
  go_ret
  exact ⟨rfl, rfl⟩
theorem as_nil (t : Value) (w : World) : Calls Tryz.prog 62 #[.nilIface, t] w fun e w' => e = .returned (.bool false) ∧ w' = w := by
  go_enter Tryz.func62, Tryz.ntmps62
  go_wp2
  go_ret
  exact ⟨rfl, rfl⟩
theorem code_step_run (s1 s2 : Value) (e : Int) (w : World) (hg : w.cell? ⟨0, 0, none⟩ = some (.iface 260 (.agg #[.pointer (some ⟨10, 114, none⟩)]))) : Calls Tryz.prog 42 #[.iface 149 (.agg #[s1, .iface 149 (.agg #[s2, .iface 141 (.agg #[.int .i64 e])])])] w fun r w' => r = .returned (.int .i64 e) ∧ Below w.heap.size w w' ∧ w.drawn ≤ w'.drawn := by
  have h88 := @run_callFunc_extern Tryz.prog 88 _ (fun args => ReflectliteValue.unpack (args.getD 0 (.tuple #[]))) Tryz.func88 (by kernel_rfl) (by kernel_rfl) (by kernel_rfl) (by kernel_rfl)
  have h89 := @run_callFunc_extern Tryz.prog 89 _ (ReflectliteValue.methodAny (ReflectliteValue.valueError "reflectlite.Value.Type" 0) (fun t _ _ _ => ReflectliteType.toType t)) Tryz.func89 (by kernel_rfl) (by kernel_rfl) (by kernel_rfl) (by kernel_rfl)
  have h90 := @run_callFunc_extern Tryz.prog 90 _ (ReflectliteValue.method (ReflectliteValue.valueError "reflectlite.Value.IsNil" 0) ReflectliteValue.isNil) Tryz.func90 (by kernel_rfl) (by kernel_rfl) (by kernel_rfl) (by kernel_rfl)
  have hK := @run_callFunc_extern Tryz.prog 512 _ (ReflectliteType.abiMethod fun t => do pure (.int .u8 (← Rtype.kind t))) Tryz.func512 (by kernel_rfl) (by kernel_rfl) (by kernel_rfl) (by kernel_rfl)
  have hE := @run_callFunc_extern Tryz.prog 530 _ (ReflectliteType.method ReflectliteType.elem) Tryz.func530 (by kernel_rfl) (by kernel_rfl) (by kernel_rfl) (by kernel_rfl)
  have hI := @run_callFunc_extern Tryz.prog 531 _ (ReflectliteType.relation "Implements" ReflectliteType.implements_) Tryz.func531 (by kernel_rfl) (by kernel_rfl) (by kernel_rfl) (by kernel_rfl)
  have hT := @run_callFunc_extern Tryz.prog 133 _ ReflectliteType.typeOf Tryz.func133 (by kernel_rfl) (by kernel_rfl) (by kernel_rfl) (by kernel_rfl)
  have hA := @run_callFunc_extern Tryz.prog 528 _ (ReflectliteType.relation "AssignableTo" ReflectliteType.assignableTo) Tryz.func528 (by kernel_rfl) (by kernel_rfl) (by kernel_rfl) (by kernel_rfl)
  have hVE := @run_callFunc_extern Tryz.prog 134 _ (ReflectliteValue.method (ReflectliteValue.valueError "reflectlite.Value.Elem" 0) ReflectliteValue.elem) Tryz.func134 (by kernel_rfl) (by kernel_rfl) (by kernel_rfl) (by kernel_rfl)
  have hVS := @run_callFunc_extern Tryz.prog 135 _ ReflectliteValue.set Tryz.func135 (by kernel_rfl) (by kernel_rfl) (by kernel_rfl) (by kernel_rfl)
  have xA := xValueOf
  have xB := xType
  have xC := xMKind
  have xD := xKindP
  have xE := xKindS
  have xF := xMElem
  have xG := xMImpl
  have xH := xMAssign
  have xI := xElem
  have xJ := xImpl
  have xK := xTypeOf1
  have xL := xTypeOf2
  have xM := xAssign1
  have xN := xAssign2
  have xO := xValueOf1
  have xP := xNoAs
  have xQ := xUnw
  have xR := xMUnwrap
  have hlt : 0 < w.heap.size := by
    rcases Nat.eq_zero_or_pos w.heap.size with h0 | h
    · simp [World.cell?, h0] at hg
    · exact h
  have n90 := xIsNil ⟨w.heap.size + 1, 0, none⟩ ⟨w.heap.size, 0, none⟩ (((w.alloc (.cells #[.int .i64 0] 141)).alloc (.cells #[.pointer (some ⟨w.heap.size, 0, none⟩)] 143)).alloc (.cells #[.pointer (some ⟨10, 143, none⟩), .pointer (some ⟨w.heap.size + 1, 0, none⟩), .int .u64 150] 195)) (by rw [World.cell?_alloc_lt _ _ ⟨w.heap.size + 1, 0, none⟩ (by simp)]; simp)
  have hg2 : (((w.alloc (.cells #[.int .i64 0] 141)).alloc (.cells #[.pointer (some ⟨w.heap.size, 0, none⟩)] 143)).alloc (.cells #[.pointer (some ⟨10, 143, none⟩), .pointer (some ⟨w.heap.size + 1, 0, none⟩), .int .u64 150] 195)).cell? ⟨0, 0, none⟩ = some (.iface 260 (.agg #[.pointer (some ⟨10, 114, none⟩)])) := by
    rw [World.cell?_alloc_lt _ _ ⟨0, 0, none⟩ (by simp), World.cell?_alloc_lt _ _ ⟨0, 0, none⟩ (by simp), World.cell?_alloc_lt _ _ ⟨0, 0, none⟩ hlt]; exact hg
  have nE := xElemV ⟨w.heap.size + 1, 0, none⟩ ⟨w.heap.size, 0, none⟩ ((((((w.alloc (.cells #[.int .i64 0] 141)).alloc (.cells #[.pointer (some ⟨w.heap.size, 0, none⟩)] 143)).alloc (.cells #[.pointer (some ⟨10, 143, none⟩), .pointer (some ⟨w.heap.size + 1, 0, none⟩), .int .u64 150] 195)).alloc (.cells #[.pointer (some ⟨10, 143, none⟩), .pointer (some ⟨w.heap.size + 1, 0, none⟩), .int .u64 150] 195)).alloc (.cells #[s1, .iface 149 (.agg #[s2, .iface 141 (.agg #[.int .i64 e])])] 149)).alloc (.cells #[s2, .iface 141 (.agg #[.int .i64 e])] 149)) (by rw [World.cell?_alloc_lt _ _ ⟨w.heap.size + 1, 0, none⟩ (by simp; try omega), World.cell?_alloc_lt _ _ ⟨w.heap.size + 1, 0, none⟩ (by simp; try omega), World.cell?_alloc_lt _ _ ⟨w.heap.size + 1, 0, none⟩ (by simp; try omega), World.cell?_alloc_lt _ _ ⟨w.heap.size + 1, 0, none⟩ (by simp; try omega)]; simp)
  have nS := xSet ⟨w.heap.size, 0, none⟩ ⟨w.heap.size + 1 + 1 + 1 + 1 + 1 + 1, 0, none⟩ e (.int .i64 0) (((((((w.alloc (.cells #[.int .i64 0] 141)).alloc (.cells #[.pointer (some ⟨w.heap.size, 0, none⟩)] 143)).alloc (.cells #[.pointer (some ⟨10, 143, none⟩), .pointer (some ⟨w.heap.size + 1, 0, none⟩), .int .u64 150] 195)).alloc (.cells #[.pointer (some ⟨10, 143, none⟩), .pointer (some ⟨w.heap.size + 1, 0, none⟩), .int .u64 150] 195)).alloc (.cells #[s1, .iface 149 (.agg #[s2, .iface 141 (.agg #[.int .i64 e])])] 149)).alloc (.cells #[s2, .iface 141 (.agg #[.int .i64 e])] 149)).alloc (.cells #[.int .i64 e] 141)) (by rw [World.cell?_alloc_at _ _ _ _ (by simp)]; rfl)
    (by rw [World.cell?_alloc_lt _ _ ⟨w.heap.size, 0, none⟩ (by simp; try omega), World.cell?_alloc_lt _ _ ⟨w.heap.size, 0, none⟩ (by simp; try omega), World.cell?_alloc_lt _ _ ⟨w.heap.size, 0, none⟩ (by simp; try omega), World.cell?_alloc_lt _ _ ⟨w.heap.size, 0, none⟩ (by simp; try omega), World.cell?_alloc_lt _ _ ⟨w.heap.size, 0, none⟩ (by simp; try omega), World.cell?_alloc_lt _ _ ⟨w.heap.size, 0, none⟩ (by simp; try omega)]; simp)
    (by rw [World.frozen?_alloc_old _ _ ⟨w.heap.size, 0, none⟩ (by simp; try omega), World.frozen?_alloc_old _ _ ⟨w.heap.size, 0, none⟩ (by simp; try omega), World.frozen?_alloc_old _ _ ⟨w.heap.size, 0, none⟩ (by simp; try omega), World.frozen?_alloc_old _ _ ⟨w.heap.size, 0, none⟩ (by simp; try omega), World.frozen?_alloc_old _ _ ⟨w.heap.size, 0, none⟩ (by simp; try omega), World.frozen?_alloc_old _ _ ⟨w.heap.size, 0, none⟩ (by simp; try omega)]; simp)
  go_enter Tryz.func42, Tryz.ntmps42
  go_wp2
  refine wp_loop_rounds 3 ?_
  rw [rounds_succ]
  go_wp2_with (go_at_call 523; refine (unwrap_run _ _ _).mono ?_; rintro r w' ⟨rfl, rfl⟩)
  rw [rounds_succ]
  go_wp2_with (go_at_call 523; refine (unwrap_run _ _ _).mono ?_; rintro r w' ⟨rfl, rfl⟩)
  rw [rounds_succ]
  go_wp2
  go_ret
  refine ⟨rfl, ?_, Nat.le_refl _⟩
  refine Below.alloc (Below.alloc (Below.alloc (Below.alloc (Below.alloc (Below.alloc (Below.alloc (Below.refl _ _) ?_ _) ?_ _) ?_ _) ?_ _) ?_ _) ?_ _) ?_ _ <;> (simp; try omega)
theorem code_nil_run (w : World) : Calls Tryz.prog 42 #[.nilIface] w fun r w' => r = .returned (.int .i64 0) ∧ Below w.heap.size w w' ∧ w.drawn ≤ w'.drawn := by
  go_enter Tryz.func42, Tryz.ntmps42
  go_wp2_with (go_at_call 62; refine (as_nil _ _).mono ?_; rintro e w' ⟨rfl, rfl⟩)
  go_ret
  refine ⟨rfl, ?_, Nat.le_refl _⟩
  refine Below.alloc (Below.refl _ _) ?_ _ <;> (simp; try omega)
end Go.Proofs.YtcgjldimifeffaaGreatDoor
set_option maxRecDepth 100000
set_option maxHeartbeats 8000000
namespace Go.Proofs.YtcgjldimifeffaaGreatDoor
open Go Go.Dl Go.As Go.Proofs
variable {mx : Int}
/-! The code of an error, as a contract. -/
theorem rep_agg1 {M : Mem} {x : I} {v : Value} (h : Rep M (.agg [x]) v) : ∃ u, v = .agg #[u] ∧ Rep M x u := by
  cases h with
  | agg _ vs h hr =>
    obtain ⟨l⟩ := vs
    match l, h with
    | [u], _ => exact ⟨u, rfl, hr 0 (by simp)⟩
theorem rep_tptr {M : Mem} {b o : Nat} {v : Value} (h : Rep M (.tptr b o) v) : v = .pointer (some ⟨b, o, none⟩) := by cases h; rfl
theorem rep_int {M : Mem} {k : IntKind} {n : Int} {v : Value} (h : Rep M (.int k n) v) : v = .int k n := by cases h; rfl
theorem rep_nilif {M : Mem} {v : Value} (h : Rep M .nilif v) : v = .nilIface := by cases h; rfl
theorem rep_agg2 {M : Mem} {x y : I} {v : Value} (h : Rep M (.agg [x, y]) v) : ∃ u z, v = .agg #[u, z] ∧ Rep M x u ∧ Rep M y z := by
  cases h with
  | agg _ vs h hr =>
    obtain ⟨l⟩ := vs
    match l, h with
    | [u, z], _ => exact ⟨u, z, rfl, hr 0 (by simp), hr 1 (by simp)⟩
theorem rep_if {M : Mem} {x : I} {t : Nat} {v : Value} (h : Rep M (.iface t x) v) : ∃ u, v = .iface t u ∧ Rep M x u := by
  cases h; exact ⟨_, rfl, by assumption⟩
theorem etype_of {M : Mem} {w : World} (h1 : ∀ b o v, M.c b o = some v → w.cell? ⟨b, o, none⟩ = some v) (h2 : GlobOk (GLm mx) M) : w.cell? ⟨0, 0, none⟩ = some (.iface 260 (.agg #[.pointer (some ⟨10, 114, none⟩)])) := by
  have := h2 0 [.iface 260 (.agg [.tptr 10 114])] (by simp [GLm])
  generalize hp : Value.pointer (some ⟨0, 0, none⟩) = p at this
  generalize hx : I.elt [.iface 260 (.agg [.tptr 10 114])] 0 = x at this
  cases this <;> cases hx
  rename_i b o v h hr
  injection hp with hp; injection hp with hp
  injection hp with hb ho
  have e := h 0 (by simp)
  have r := hr 0 (by simp)
  simp only [List.getElem_cons_zero, Nat.add_zero] at r e ho
  subst hb; subst ho
  rw [h1 _ _ _ e]
  obtain ⟨u, hu, r⟩ := rep_if r
  obtain ⟨z, hz, r⟩ := rep_agg1 r
  rw [hu, hz, rep_tptr r]
theorem repl_one {M : Mem} {x : I} {vs : Array Value} (h : RepL M [x] vs.toList) : ∃ v, vs = #[v] ∧ Rep M x v := by
  obtain ⟨hl, hr⟩ := h
  obtain ⟨l⟩ := vs
  match l, hl with
  | [v], _ => exact ⟨v, rfl, hr 0 (by simp) (by simp)⟩
theorem code_nil : Is mx 42 [.nilif] (iI 0) := by
  refine MC_of_below (by kernel_rfl) fun M w vs h1 h2 h3 => ?_
  obtain ⟨v, rfl, hv⟩ := repl_one h3
  obtain rfl := rep_nilif hv
  refine (code_nil_run w).mono ?_
  rintro r w' ⟨h, hb, hd⟩
  exact ⟨_, h, hb, hd, .int _ _⟩
theorem code_step (s t : Str) (e : Int) : Is mx 42 [stepI s (stepI t (refI e))] (iI e) := by
  refine MC_of_below (by kernel_rfl) fun M w vs h1 h2 h3 => ?_
  obtain ⟨v, rfl, hv⟩ := repl_one h3
  simp only [stepI, refI] at hv
  obtain ⟨u1, e1, k1⟩ := rep_if hv
  obtain ⟨a, b, e2, ha, k2⟩ := rep_agg2 k1
  obtain ⟨u2, e3, k3⟩ := rep_if k2
  obtain ⟨c, d, e4, hc, k4⟩ := rep_agg2 k3
  obtain ⟨u3, e5, k5⟩ := rep_if k4
  obtain ⟨z, e6, k6⟩ := rep_agg1 k5
  have e7 := rep_int k6
  subst e7; subst e6; subst e5; subst e4; subst e3; subst e2; subst e1
  refine (code_step_run a c e w (etype_of h1.1 h2)).mono ?_
  rintro r w' ⟨h, hb, hd⟩
  exact ⟨_, h, hb, hd, .int _ _⟩
end Go.Proofs.YtcgjldimifeffaaGreatDoor
set_option maxRecDepth 100000
set_option maxHeartbeats 8000000
namespace Go.Proofs.YtcgjldimifeffaaGreatDoor
open Go Go.Dl Go.As Go.Proofs
variable {mx : Int}
attribute [local irreducible] callG callL MC W2 evT ev evD step stepD
/-! The value of a feature that is not there. -/
def ask0 : List I := [.str [110, 111, 110, 101], .bool false, .str [117], .int .i64 1]
abbrev zFtr : List I := [.str [], .str [], .int .i64 0, .sl [], .str [], .int .i64 0, .str [], .str [], .str [], .int .i64 0, .int .i64 0, .str [], .sl [], .int .i64 0, .int .i64 0, .int .i64 0, .sl [], .int .i64 0]
theorem ftrIdx0_is (f : Nat) (c x : List I) : Is mx 99 [.sl [], .fn f c x] (iI (-1)) := by
  refine MX F99 ?_
  refine Kbn ?_
  refine lS [0, 1, 7] (fun i => [(8, .i (iI i))]) (fun _ => []) (fun _ => True) 0 ?_
  intro i hi _
  obtain rfl : i = 0 := by omega
  (repeat' first
  | exact hole _
  | simp (maxSteps := 9999999) (disch := omega) only [go_sem, simprocAttr]
  | (first | refine' gdV_S (fun hq => ?_) (fun f => ?_) | refine' gdD_S (fun hq => ?_) (fun f => ?_)) <;> try (have hq' := hq; try simp only [HB] at hq')
  | refine Sx.s ?_ ?_ <;> try (intro h; have h' := h; try simp only [HB] at h'; try rewrite [h]; try simp only [h])
  | refine ct_I ?_
  | refine callG_Iv ?_ ?_
  | refine drJ_I ?_
  | refine Sz.s ?_
  | refine nxt_I (fun hr => ?_) (fun q hq => ?_)
  | refine isnil_I (fun hnil b => ?_) (fun hnil => ?_)
  | (refine And.intro ?_ ?_; focus omega)
  | fail)
theorem cfind0_is (n : Str) : Is mx 68 [.sl [], .str n] (.tup [.agg zFtr, .bool false]) := by
  have h1 := fun f c x => ftrIdx0_is (mx := mx) f c x
  refine MX F68 ?_
  (repeat' first
  | exact hole _
  | simp (maxSteps := 9999999) (disch := omega) only [go_sem, simprocAttr]
  | (first | refine' gdV_S (fun hq => ?_) (fun f => ?_) | refine' gdD_S (fun hq => ?_) (fun f => ?_)) <;> try (have hq' := hq; try simp only [HB] at hq')
  | refine callL_of (h1 _ _ _) ?_
  | refine Sx.s ?_ ?_ <;> try (intro h; have h' := h; try simp only [HB] at h'; try rewrite [h]; try simp only [h])
  | refine ct_I ?_
  | refine callG_Iv ?_ ?_
  | refine drJ_I ?_
  | refine Sz.s ?_
  | refine nxt_I (fun hr => ?_) (fun q hq => ?_)
  | refine isnil_I (fun hnil b => ?_) (fun hnil => ?_)
  | (refine And.intro ?_ ?_; focus omega)
  | fail)
theorem cFeature0_is (t d p : I) (n : Str) : Is mx 45 [.agg [t, .sl [], d, p], .str n] (.tup [.agg zFtr, .bool false]) := by
  have h1 := cfind0_is (mx := mx) n
  refine MX F45 ?_
  (repeat' first
  | exact hole _
  | simp (maxSteps := 9999999) (disch := omega) only [go_sem, simprocAttr]
  | (first | refine' gdV_S (fun hq => ?_) (fun f => ?_) | refine' gdD_S (fun hq => ?_) (fun f => ?_)) <;> try (have hq' := hq; try simp only [HB] at hq')
  | refine callL_of (h1) ?_
  | refine Sx.s ?_ ?_ <;> try (intro h; have h' := h; try simp only [HB] at h'; try rewrite [h]; try simp only [h])
  | refine ct_I ?_
  | refine callG_Iv ?_ ?_
  | refine drJ_I ?_
  | refine Sz.s ?_
  | refine nxt_I (fun hr => ?_) (fun q hq => ?_)
  | refine isnil_I (fun hnil b => ?_) (fun hnil => ?_)
  | (refine And.intro ?_ ?_; focus omega)
  | fail)
theorem vCheck_is : Is mx 63 [.agg [.int .i64 5, .int .i64 0, .str [117]]] (iI 0) := by
  refine MX F63 ?_
  (repeat' first
  | exact hole _
  | simp (maxSteps := 9999999) (disch := omega) only [go_sem, simprocAttr]
  | (first | refine' gdV_S (fun hq => ?_) (fun f => ?_) | refine' gdD_S (fun hq => ?_) (fun f => ?_)) <;> try (have hq' := hq; try simp only [HB] at hq')
  | refine Sx.s ?_ ?_ <;> try (intro h; have h' := h; try simp only [HB] at h'; try rewrite [h]; try simp only [h])
  | refine ct_I ?_
  | refine callG_Iv ?_ ?_
  | refine drJ_I ?_
  | refine Sz.s ?_
  | refine nxt_I (fun hr => ?_) (fun q hq => ?_)
  | refine isnil_I (fun hnil b => ?_) (fun hnil => ?_)
  | (refine And.intro ?_ ?_; focus omega)
  | fail)
  refine lS [1, 6, 88] (fun i => [(89, .i (iI i))]) (fun _ => []) (fun _ => True) 1 ?_
  intro i hi _
  rcases Nat.lt_or_ge i 1 with h | h
  · obtain rfl : i = 0 := by omega
    (repeat' first
    | exact hole _
    | simp (maxSteps := 9999999) (disch := omega) only [go_sem, simprocAttr]
    | (first | refine' gdV_S (fun hq => ?_) (fun f => ?_) | refine' gdD_S (fun hq => ?_) (fun f => ?_)) <;> try (have hq' := hq; try simp only [HB] at hq')
    | refine Sx.s ?_ ?_ <;> try (intro h; have h' := h; try simp only [HB] at h'; try rewrite [h]; try simp only [h])
    | refine ct_I ?_
    | refine callG_Iv ?_ ?_
    | refine drJ_I ?_
    | refine Sz.s ?_
    | refine nxt_I (fun hr => ?_) (fun q hq => ?_)
    | refine isnil_I (fun hnil b => ?_) (fun hnil => ?_)
    | (refine And.intro ?_ ?_; focus omega)
    | fail)
  · obtain rfl : i = 1 := by omega
    (repeat' first
    | exact hole _
    | simp (maxSteps := 9999999) (disch := omega) only [go_sem, simprocAttr]
    | (first | refine' gdV_S (fun hq => ?_) (fun f => ?_) | refine' gdD_S (fun hq => ?_) (fun f => ?_)) <;> try (have hq' := hq; try simp only [HB] at hq')
    | refine Sx.s ?_ ?_ <;> try (intro h; have h' := h; try simp only [HB] at h'; try rewrite [h]; try simp only [h])
    | refine ct_I ?_
    | refine callG_Iv ?_ ?_
    | refine drJ_I ?_
    | refine Sz.s ?_
    | refine nxt_I (fun hr => ?_) (fun q hq => ?_)
    | refine isnil_I (fun hnil b => ?_) (fun hnil => ?_)
    | (refine And.intro ?_ ?_; focus omega)
    | fail)
theorem eValue_is (g : Eng) : Is mx 44 [.agg (eEng g), .agg ask0] (.tup [.agg [.int .i64 0, .int .i64 0, .str []], iI 4]) := by
  have h1 := vCheck_is (mx := mx)
  have h2 := cFeature0_is (mx := mx) (.sl (g.tabs.map eTbl)) (.sl []) (.sl []) [110, 111, 110, 101]
  refine MX F44 ?_
  (repeat' first
  | exact hole _
  | simp (maxSteps := 9999999) (disch := omega) only [go_sem, simprocAttr, ask0.eq_1]
  | (first | refine' gdV_S (fun hq => ?_) (fun f => ?_) | refine' gdD_S (fun hq => ?_) (fun f => ?_)) <;> try (have hq' := hq; try simp only [HB] at hq')
  | refine callL_of (h1) ?_
  | refine callL_of (h2) ?_
  | refine Sx.s ?_ ?_ <;> try (intro h; have h' := h; try simp only [HB] at h'; try rewrite [h]; try simp only [h])
  | refine ct_I ?_
  | refine callG_Iv ?_ ?_
  | refine drJ_I ?_
  | refine Sz.s ?_
  | refine nxt_I (fun hr => ?_) (fun q hq => ?_)
  | refine isnil_I (fun hnil b => ?_) (fun hnil => ?_)
  | (refine And.intro ?_ ?_; focus omega)
  | fail)
def zSrv : List I := [.str [], .bool false, .str [], .int .i64 0, .int .i64 0, .int .i64 0, .int .i64 0, .str [], .int .i64 0, .int .i64 0, .sl []]
def codeR (w : Wrk) : Int := if (askR w 0).1 = 0 then 4 else (askR w 0).1
theorem Answer_is (w : Wrk) (l : List (List I)) (hl : w.leases.length ≤ 1000) (hs : SrtR w.leases) (hq : (askR w 0).1 = 0 → l = []) : Is mx 26 [.agg (eWrk w), .sl l, iI 1, .agg ask0] (.tup [.agg zSrv, iI (codeR w)]) := by
  have h1 := wRange_is (mx := mx) [117] 1 (by decide)
  have e1 : rangeR [117] 1 = (0, 0) := by unfold rangeR; rw [if_neg (by decide), Int.emod_one]
  rw [e1] at h1
  have h2 := permitted_is (mx := mx) w 0 (.sl l) hl hs (fun h => by rw [hq h])
  have h3 := eValue_is (mx := mx) w.eng
  have ci : ∀ t x, cellsI (.iface t x) = [.iface t x] := fun _ _ => rfl
  have co : ∀ t x, I.one (.iface t x) = true := fun _ _ => rfl
  refine MX F26 ?_
  by_cases hz : (askR w 0).1 = 0
  · have e2 : permI (askR w 0) = .nilif := by unfold permI; rw [if_pos hz]
    have e3 : codeR w = 4 := by unfold codeR; rw [if_pos hz]
    rw [e2] at h2; rw [e3]
    have h4 := code_nil (mx := mx)
    (repeat' first
    | exact hole _
    | simp (maxSteps := 9999999) (disch := omega) only [go_sem, simprocAttr, ask0.eq_1, zSrv.eq_1, ci, co, List.length_cons, List.length_nil, List.all_cons, List.all_nil, Nat.reduceAdd, beq_self_eq_true]
    | (first | refine' gdV_S (fun hq => ?_) (fun f => ?_) | refine' gdD_S (fun hq => ?_) (fun f => ?_)) <;> try (have hq' := hq; try simp only [HB] at hq')
    | refine callL_of (h1) ?_
    | refine callL_of (h2) ?_
    | refine callL_of (h3) ?_
    | refine callL_of (h4) ?_
    | refine Sx.s ?_ ?_ <;> try (intro h; have h' := h; try simp only [HB] at h'; try rewrite [h]; try simp only [h])
    | refine ct_I ?_
    | refine callG_Iv ?_ ?_
    | refine drJ_I ?_
    | refine Sz.s ?_
    | refine nxt_I (fun hr => ?_) (fun q hq => ?_)
    | refine isnil_I (fun hnil b => ?_) (fun hnil => ?_)
    | (refine And.intro ?_ ?_; focus omega)
    | fail)
  · have e2 : permI (askR w 0) = stepI [97, 110, 115, 119, 101, 114] (stepI (askR w 0).2 (refI (askR w 0).1)) := by unfold permI; rw [if_neg hz]
    have e3 : codeR w = (askR w 0).1 := by unfold codeR; rw [if_neg hz]
    rw [e2] at h2; rw [e3]
    have h4 := code_step (mx := mx) [97, 110, 115, 119, 101, 114] (askR w 0).2 (askR w 0).1
    have e4 : decide ((askR w 0).1 ≠ 0) = true := by simp [hz]
    (repeat' first
    | exact hole _
    | simp (maxSteps := 9999999) (disch := omega) only [go_sem, simprocAttr, ask0.eq_1, zSrv.eq_1, ci, co, List.length_cons, List.length_nil, List.all_cons, List.all_nil, Nat.reduceAdd, beq_self_eq_true, e4, hz]
    | (first | refine' gdV_S (fun hq => ?_) (fun f => ?_) | refine' gdD_S (fun hq => ?_) (fun f => ?_)) <;> try (have hq' := hq; try simp only [HB] at hq')
    | refine callL_of (h1) ?_
    | refine callL_of (h2) ?_
    | refine callL_of (h4) ?_
    | refine Sx.s ?_ ?_ <;> try (intro h; have h' := h; try simp only [HB] at h'; try rewrite [h]; try simp only [h])
    | refine ct_I ?_
    | refine callG_Iv ?_ ?_
    | refine drJ_I ?_
    | refine Sz.s ?_
    | refine nxt_I (fun hr => ?_) (fun q hq => ?_)
    | refine isnil_I (fun hnil b => ?_) (fun hnil => ?_)
    | (refine And.intro ?_ ?_; focus omega)
    | fail)
end Go.Proofs.YtcgjldimifeffaaGreatDoor
set_option maxRecDepth 100000
set_option maxHeartbeats 8000000
namespace Go.Proofs.YtcgjldimifeffaaGreatDoor
open Go Go.Dl Go.As Go.Proofs
variable {mx : Int}
attribute [local irreducible] callG callL MC W2 evT ev evD step stepD
/-! WorkersExclude: the program. -/
def wOf (k now : Int) (l : List Lea) : Wrk := ⟨k, now, 0, eng0, l, eng0⟩
def oneL (k : Int) (l : List Lea) : Prop := match l with
  | [] => True
  | x :: r => r = [] ∧ x.range = 0 ∧ x.worker = k ∧ x.floor = 0
theorem late_one {g : Grt} {k now : Int} {l : List Lea} (h : lateE g k now l) : oneL k l := by
  unfold lateE at h; unfold oneL
  cases l with
  | nil => trivial
  | cons x r => exact ⟨h.1, h.2.1, h.2.2.1, h.2.2.2.1⟩
theorem one_srt {k : Int} {l : List Lea} (h : oneL k l) : SrtR l := by
  unfold oneL at h
  cases l with
  | nil => intro i j _ h2; simp at h2
  | cons x r =>
    obtain ⟨rfl, _⟩ := h
    intro i j h1 h2; simp at h2; omega
theorem one_len {k : Int} {l : List Lea} (h : oneL k l) : l.length ≤ 1 := by
  unfold oneL at h
  cases l with
  | nil => simp
  | cons x r => obtain ⟨rfl, _⟩ := h; simp
theorem one_adopt {k : Int} {l : List Lea} (h : oneL k l) (x : Lea) (hx : x.range = 0) : adoptL l x = [x] := by
  unfold oneL at h
  cases l with
  | nil => simp [adoptL, hasR, lbR, insAt]
  | cons y r =>
    obtain ⟨rfl, h2, _⟩ := h
    simp [adoptL, hasR, lbR, hx, h2]
theorem one_code {k now : Int} {l : List Lea} (h : oneL k l) : codeR (wOf k now l) = ansE now l := by
  unfold oneL at h
  cases l with
  | nil => simp [codeR, askR, wOf, hasR, lbR, ansE]
  | cons y r =>
    obtain ⟨rfl, h2, h3, h4⟩ := h
    by_cases hn : now < y.to <;> simp [codeR, askR, wOf, hasR, lbR, ansE, h2, h3, h4, hn, eng0]
theorem adv0 (k now n : Int) (l : List Lea) (h0 : 0 ≤ now) (h1 : 0 ≤ n) (h2 : now + n ≤ 2199023255552) : advR (wOf k now l) n 0 = (wOf k (now + n) l, 0) := by
  unfold advR wOf
  rw [if_neg (by simp; omega), if_neg (by simp; omega)]
  simp
def sE (n d p q : Int) (ms : List Mov) (i : Nat) : Ex := (ms.take i).foldl stepE ⟨gr0 n d, p, [], q, []⟩
theorem sE_succ {n d p q : Int} {ms : List Mov} {i : Nat} (h : i < ms.length) : sE n d p q ms (i + 1) = stepE (sE n d p q ms i) (ms.getD i default) := by
  unfold sE; rw [List.take_succ_eq_append_getElem h, List.foldl_append, getD_lt h]; rfl
@[simp] theorem sE_zero {n d p q : Int} {ms : List Mov} : sE n d p q ms 0 = ⟨⟨0, n, d, []⟩, p, [], q, []⟩ := by simp [sE, gr0]
theorem Exclude_is (n d : Int) (ms : List Mov) (p q : Int) (hms : ∀ m ∈ ms, okM m) (hl : ms.length ≤ 140737488355328) (hex : Is mx 5 [] (.bool true)) : Is mx 4 [iI n, iI d, .sl (ms.map eMov), iI p, iI q] (.bool true) := by
  have h1 := lNew_is (mx := mx) n d
  have w1 := wNew_is (mx := mx) 1
  have w2 := wNew_is (mx := mx) 2
  have x1 : wNewR 1 = (wOf 1 0 [], 0) := rfl
  have x2 : wNewR 2 = (wOf 2 0 [], 0) := rfl
  rw [x1] at w1; rw [x2] at w2
  refine MX F4 ?_
  cases hr : newR n d with
  | false =>
    rw [hr] at h1
    (repeat' first
    | exact hole _
    | simp (maxSteps := 9999999) (disch := omega) only [go_sem, simprocAttr, Bool.false_eq_true, if_false]
    | (first | refine' gdV_S (fun hq => ?_) (fun f => ?_) | refine' gdD_S (fun hq => ?_) (fun f => ?_)) <;> try (have hq' := hq; try simp only [HB] at hq')
    | refine callL_of (hex) ?_
    | refine callL_of (h1) ?_
    | refine Sx.s ?_ ?_ <;> try (intro h; have h' := h; try simp only [HB] at h'; try rewrite [h]; try simp only [h])
    | refine ct_I ?_
    | refine callG_Iv ?_ ?_
    | refine drJ_I ?_
    | refine Sz.s ?_
    | refine nxt_I (fun hr => ?_) (fun q hq => ?_)
    | refine isnil_I (fun hnil b => ?_) (fun hnil => ?_)
    | (refine And.intro ?_ ?_; focus omega)
    | fail)
  | true =>
    rw [hr] at h1
    have hn : 1 ≤ n ∧ 0 ≤ d ∧ d ≤ 500 := by unfold newR at hr; simp at hr; omega
    by_cases hc : (decide (1048576 < n) || decide (p < 0) || decide (q < 0) || decide (1048576 < p) || decide (1048576 < q) || decide ((60 : Int) < (ms.length : Int))) = true
    · skip
      (repeat' first
      | exact hole _
      | simp (maxSteps := 9999999) (disch := omega) only [go_sem, simprocAttr, if_true, hc]
      | (first | refine' gdV_S (fun hq => ?_) (fun f => ?_) | refine' gdD_S (fun hq => ?_) (fun f => ?_)) <;> try (have hq' := hq; try simp only [HB] at hq')
      | refine callL_of (hex) ?_
      | refine callL_of (h1) ?_
      | refine Sx.s ?_ ?_ <;> try (intro h; have h' := h; try simp only [HB] at h'; try rewrite [h]; try simp only [h])
      | refine ct_I ?_
      | refine callG_Iv ?_ ?_
      | refine drJ_I ?_
      | refine Sz.s ?_
      | refine nxt_I (fun hr => ?_) (fun q hq => ?_)
      | refine isnil_I (fun hnil b => ?_) (fun hnil => ?_)
      | (refine And.intro ?_ ?_; focus omega)
      | fail)
    · replace hc : (decide (1048576 < n) || decide (p < 0) || decide (q < 0) || decide (1048576 < p) || decide (1048576 < q) || decide ((60 : Int) < (ms.length : Int))) = false := by simpa using hc
      have hb : n ≤ 1048576 ∧ 0 ≤ p ∧ 0 ≤ q ∧ p ≤ 1048576 ∧ q ≤ 1048576 ∧ ms.length ≤ 60 := by simp at hc; omega
      have a1 := wAdvance_is (mx := mx) (wOf 1 0 []) p 0 (by decide) (by decide) (by decide) (by decide) (by omega) (by decide)
      have a2 := wAdvance_is (mx := mx) (wOf 2 0 []) q 0 (by decide) (by decide) (by decide) (by decide) (by omega) (by decide)
      rw [adv0 1 0 p [] (by decide) (by omega) (by omega)] at a1
      rw [adv0 2 0 q [] (by decide) (by omega) (by omega)] at a2
      (repeat' first
      | exact hole _
      | simp (maxSteps := 9999999) (disch := omega) only [go_sem, simprocAttr, if_true, hc, eWE.eq_1, wOf.eq_1, gr0.eq_1, eng0.eq_1, List.map_nil, Int.zero_add]
      | (first | refine' gdV_S (fun hq => ?_) (fun f => ?_) | refine' gdD_S (fun hq => ?_) (fun f => ?_)) <;> try (have hq' := hq; try simp only [HB] at hq')
      | refine callL_of (hex) ?_
      | refine callL_of (h1) ?_
      | refine callL_of (w1) ?_
      | refine callL_of (w2) ?_
      | refine callL_of (a1) ?_
      | refine callL_of (a2) ?_
      | refine Sx.s ?_ ?_ <;> try (intro h; have h' := h; try simp only [HB] at h'; try rewrite [h]; try simp only [h])
      | refine ct_I ?_
      | refine callG_Iv ?_ ?_
      | refine drJ_I ?_
      | refine Sz.s ?_
      | refine nxt_I (fun hr => ?_) (fun q hq => ?_)
      | refine isnil_I (fun hnil b => ?_) (fun hnil => ?_)
      | (refine And.intro ?_ ?_; focus omega)
      | fail)
      refine lS [2, 11, 12, 14, 16, 18] (fun i => [(19, .i (iI i))]) (fun i => [(16, .cells [.i (iI 2), .i (iI (sE n d p q ms i).nb), .i (iI 0), .i (iI 0), .i (iI 0), .i (.sl []), .i (.sl []), .i (.sl []), .i (.sl []), .i (.sl []), .i (.sl ((sE n d p q ms i).lb.map eLea)), .i (iI 0), .i (iI 0), .i (.sl []), .i (.sl []), .i (.sl []), .i (.sl []), .i (.sl [])]), (14, .cells [.i (iI 1), .i (iI (sE n d p q ms i).na), .i (iI 0), .i (iI 0), .i (iI 0), .i (.sl []), .i (.sl []), .i (.sl []), .i (.sl []), .i (.sl []), .i (.sl ((sE n d p q ms i).la.map eLea)), .i (iI 0), .i (iI 0), .i (.sl []), .i (.sl []), .i (.sl []), .i (.sl []), .i (.sl [])]), (12, .cells [.i (iI (sE n d p q ms i).g.now), .i (iI (sE n d p q ms i).g.length), .i (iI (sE n d p q ms i).g.drift), .i (.sl ((sE n d p q ms i).g.last.map eLea))])]) (fun i => okE (sE n d p q ms i) i) ms.length ?_ (by
        rw [sE_zero]
        exact ⟨by omega, by omega, ⟨by show (0 : Int) ≤ 0; omega, by show (0 : Int) ≤ 255 * 0; omega, hn.1, hb.1, hn.2.1, hn.2.2, trivial⟩, hb.2.1, by show p ≤ 1048576 + 510 * 0; omega, hb.2.2.1, by show q ≤ 1048576 + 510 * 0; omega, trivial, trivial⟩)
      intro i hi hinv
      by_cases hi' : i < ms.length
      · have hS := sE_succ (n := n) (d := d) (p := p) (q := q) hi'
        have hm := hms _ (getD_mem hi')
        have hok := step_ok hinv hm (by omega)
        rw [← hS] at hok
        have hi60 : (i : Int) ≤ 60 := by omega
        have hii : ((i + 1 : Nat) : Int) = (i : Int) + 1 := by omega
        generalize hmd : ms.getD i default = m at hS hm
        generalize hs : sE n d p q ms i = s at hS hinv ⊢
        generalize hs' : sE n d p q ms (i + 1) = s' at hS hok
        obtain ⟨⟨now, len, dr, last⟩, na, la, nb, lb⟩ := s
        obtain ⟨mn, ma, mb, mg⟩ := m
        have hk := hinv
        obtain ⟨i0, i1, hg, k1, k2, k3, k4, l1, l2⟩ := hinv
        obtain ⟨m1, m2, m3, m4, m5, m6⟩ := hm
        simp only at i0 i1 hg k1 k2 k3 k4 l1 l2 m1 m2 m3 m4 m5 m6
        have hg' := hg
        obtain ⟨q1, q2, q3, q4, q5, q6, q7⟩ := hg'
        simp only at q1 q2 q3 q4 q5 q6 q7
        have sb := slow_b m1 q5 q6
        have ca := lAdvance_is (mx := mx) ⟨now, len, dr, last⟩ i mn hg i1 m1 m2
        have cs := Slowest_is (mx := mx) ⟨now, len, dr, last⟩ i mn hg i1 m1 (by omega)
        have cA := wAdvance_is (mx := mx) (wOf 1 na la) (slowR dr mn + ma) 0 k1 (by show na ≤ _; omega) (by show (0 : Int) ≤ 0; decide) (by show (0 : Int) ≤ _; decide) (by omega) (by decide)
        have cB := wAdvance_is (mx := mx) (wOf 2 nb lb) (slowR dr mn + mb) 0 k3 (by show nb ≤ _; omega) (by show (0 : Int) ≤ 0; decide) (by show (0 : Int) ≤ _; decide) (by omega) (by decide)
        rw [adv0 1 na _ la k1 (by omega) (by omega)] at cA
        rw [adv0 2 nb _ lb k3 (by omega) (by omega)] at cB
        by_cases hgr : (decide (mg = 1) || decide (mg = 2)) = true
        · have hka : okE ⟨⟨now + mn, len, dr, last⟩, na + (slowR dr mn + ma), la, nb + (slowR dr mn + mb), lb⟩ (i + 1) := adv_ok (m := ⟨mn, ma, mb, mg⟩) hk ⟨m1, m2, m3, m4, m5, m6⟩ (by omega)
          obtain ⟨_, _, hg1, _, z1, _, z2, p1, p2⟩ := id hka
          simp only at hg1 z1 z2 p1 p2
          have w1 := late_one p1
          have w2 := late_one p2
          have hmg : mg = 1 ∨ mg = 2 := by simpa using hgr
          have cg := Grant_is (mx := mx) ⟨now + mn, len, dr, last⟩ (i + 1) mg hg1 (by omega) hmg
          have e0 : s' = giveE ⟨⟨now + mn, len, dr, last⟩, na + (slowR dr mn + ma), la, nb + (slowR dr mn + mb), lb⟩ mg := by rw [hS]; unfold stepE; simp only [hgr, if_true]; rfl
          cases hgg : grantR ⟨now + mn, len, dr, last⟩ mg with
          | none =>
            rw [hgg] at cg
            have e1 : s' = ⟨⟨now + mn, len, dr, last⟩, na + (slowR dr mn + ma), la, nb + (slowR dr mn + mb), lb⟩ := by rw [e0]; unfold giveE; simp only [hgg]
            subst e1
            have hx := excl hok
            obtain ⟨_, _, _, _, _, _, _, r1, r2⟩ := id hok
            have o1 := late_one r1
            have o2 := late_one r2
            simp only at hx o1 o2
            have aA := Answer_is (mx := mx) (wOf 1 (na + (slowR dr mn + ma)) la) [] (by have := one_len o1; show (la).length ≤ _; omega) (one_srt o1) (fun _ => rfl)
            have aB := Answer_is (mx := mx) (wOf 2 (nb + (slowR dr mn + mb)) lb) [] (by have := one_len o2; show (lb).length ≤ _; omega) (one_srt o2) (fun _ => rfl)
            rw [one_code o1] at aA
            rw [one_code o2] at aB
            have e2 : (decide (ansE (na + (slowR dr mn + ma)) la ≠ 420) && decide (ansE (nb + (slowR dr mn + mb)) lb ≠ 420)) = false := by rcases hx with h | h <;> simp [h]
            (repeat' first
            | exact hole _
            | simp (maxSteps := 9999999) (disch := omega) only [go_sem, simprocAttr, ltT hi', hmd, hgr, e2, hs', zSrv.eq_1, eWE.eq_1, wOf.eq_1, eng0.eq_1, List.map_nil]
            | (first | refine' gdV_S (fun hq => ?_) (fun f => ?_) | refine' gdD_S (fun hq => ?_) (fun f => ?_)) <;> try (have hq' := hq; try simp only [HB] at hq')
            | refine callL_of (ca) ?_
            | refine callL_of (cs) ?_
            | refine callL_of (cA) ?_
            | refine callL_of (cB) ?_
            | refine callL_of (cg) ?_
            | refine callL_of (aA) ?_
            | refine callL_of (aB) ?_
            | refine Sx.s ?_ ?_ <;> try (intro h; have h' := h; try simp only [HB] at h'; try rewrite [h]; try simp only [h])
            | refine ct_I ?_
            | refine callG_Iv ?_ ?_
            | refine drJ_I ?_
            | refine Sz.s ?_
            | refine nxt_I (fun hr => ?_) (fun q hq => ?_)
            | refine isnil_I (fun hnil b => ?_) (fun hnil => ?_)
            | (refine And.intro ?_ ?_; focus omega)
            | fail)
            all_goals first | exact r1 | exact r2
          | some t =>
            rw [hgg] at cg
            obtain ⟨ep, rfl, he1, he2⟩ : ∃ ep, t = ⟨0, mg, ep, now + mn + len, 0⟩ ∧ 1 ≤ ep ∧ ep ≤ 2000 := by
              unfold grantR at hgg
              cases last with
              | nil => simp only at hgg; cases hgg; exact ⟨1, rfl, by omega, by omega⟩
              | cons y r =>
                simp only at q7 hgg
                split at hgg
                · cases hgg
                · cases hgg; exact ⟨_, rfl, by omega, by omega⟩
            have hown : leaOk ⟨0, mg, ep, now + mn + len, 0⟩ = true := by simp [leaOk, tickR]; omega
            have hb0 := slow_b (n := len) (by omega) q5 q6
            rcases hmg with rfl | rfl
            · have e1 : s' = ⟨⟨now + mn, len, dr, [⟨0, 1, ep, now + mn + len, 0⟩]⟩, na + (slowR dr mn + ma), [⟨0, 1, ep, na + (slowR dr mn + ma) + slowR dr len, 0⟩], nb + (slowR dr mn + mb), lb⟩ := by rw [e0]; unfold giveE; simp only [hgg, if_true]
              subst e1
              have cl := Local_is (mx := mx) ⟨now + mn, len, dr, last⟩ (i + 1) 0 1 ep 0 (na + (slowR dr mn + ma)) hg1 (by omega) hown (by omega) (by omega)
              have cd := Adopt_is (mx := mx) (wOf 1 (na + (slowR dr mn + ma)) la) ⟨0, 1, ep, na + (slowR dr mn + ma) + slowR dr len, 0⟩ (by have := one_len w1; show la.length ≤ _; omega) (one_srt w1)
              rw [show (wOf 1 (na + (slowR dr mn + ma)) la).leases = la from rfl, one_adopt w1 _ rfl] at cd
              have hx := excl hok
              obtain ⟨_, _, _, _, _, _, _, r1, r2⟩ := id hok
              have o1 := late_one r1
              have o2 := late_one r2
              simp only at hx o1 o2
              have aA := Answer_is (mx := mx) (wOf 1 (na + (slowR dr mn + ma)) [⟨0, 1, ep, na + (slowR dr mn + ma) + slowR dr len, 0⟩]) [] (by have := one_len o1; show ([⟨0, 1, ep, na + (slowR dr mn + ma) + slowR dr len, 0⟩]).length ≤ _; omega) (one_srt o1) (fun _ => rfl)
              have aB := Answer_is (mx := mx) (wOf 2 (nb + (slowR dr mn + mb)) lb) [] (by have := one_len o2; show (lb).length ≤ _; omega) (one_srt o2) (fun _ => rfl)
              rw [one_code o1] at aA
              rw [one_code o2] at aB
              have e2 : (decide (ansE (na + (slowR dr mn + ma)) [⟨0, 1, ep, na + (slowR dr mn + ma) + slowR dr len, 0⟩] ≠ 420) && decide (ansE (nb + (slowR dr mn + mb)) lb ≠ 420)) = false := by rcases hx with h | h <;> simp [h]
              (repeat' first
              | exact hole _
              | simp (maxSteps := 9999999) (disch := omega) only [go_sem, simprocAttr, ltT hi', hmd, hgr, e2, hs', zSrv.eq_1, eWE.eq_1, wOf.eq_1, eng0.eq_1, List.map_nil]
              | (first | refine' gdV_S (fun hq => ?_) (fun f => ?_) | refine' gdD_S (fun hq => ?_) (fun f => ?_)) <;> try (have hq' := hq; try simp only [HB] at hq')
              | refine callL_of (ca) ?_
              | refine callL_of (cs) ?_
              | refine callL_of (cA) ?_
              | refine callL_of (cB) ?_
              | refine callL_of (cg) ?_
              | refine callL_of (cl) ?_
              | refine callL_of (cd) ?_
              | refine callL_of (aA) ?_
              | refine callL_of (aB) ?_
              | refine Sx.s ?_ ?_ <;> try (intro h; have h' := h; try simp only [HB] at h'; try rewrite [h]; try simp only [h])
              | refine ct_I ?_
              | refine callG_Iv ?_ ?_
              | refine drJ_I ?_
              | refine Sz.s ?_
              | refine nxt_I (fun hr => ?_) (fun q hq => ?_)
              | refine isnil_I (fun hnil b => ?_) (fun hnil => ?_)
              | (refine And.intro ?_ ?_; focus omega)
              | fail)
              all_goals first | exact r1 | exact r2
            · have e1 : s' = ⟨⟨now + mn, len, dr, [⟨0, 2, ep, now + mn + len, 0⟩]⟩, na + (slowR dr mn + ma), la, nb + (slowR dr mn + mb), [⟨0, 2, ep, nb + (slowR dr mn + mb) + slowR dr len, 0⟩]⟩ := by rw [e0]; unfold giveE; simp only [hgg]; rfl
              subst e1
              have cl := Local_is (mx := mx) ⟨now + mn, len, dr, last⟩ (i + 1) 0 2 ep 0 (nb + (slowR dr mn + mb)) hg1 (by omega) hown (by omega) (by omega)
              have cd := Adopt_is (mx := mx) (wOf 2 (nb + (slowR dr mn + mb)) lb) ⟨0, 2, ep, nb + (slowR dr mn + mb) + slowR dr len, 0⟩ (by have := one_len w2; show lb.length ≤ _; omega) (one_srt w2)
              rw [show (wOf 2 (nb + (slowR dr mn + mb)) lb).leases = lb from rfl, one_adopt w2 _ rfl] at cd
              have hx := excl hok
              obtain ⟨_, _, _, _, _, _, _, r1, r2⟩ := id hok
              have o1 := late_one r1
              have o2 := late_one r2
              simp only at hx o1 o2
              have aA := Answer_is (mx := mx) (wOf 1 (na + (slowR dr mn + ma)) la) [] (by have := one_len o1; show (la).length ≤ _; omega) (one_srt o1) (fun _ => rfl)
              have aB := Answer_is (mx := mx) (wOf 2 (nb + (slowR dr mn + mb)) [⟨0, 2, ep, nb + (slowR dr mn + mb) + slowR dr len, 0⟩]) [] (by have := one_len o2; show ([⟨0, 2, ep, nb + (slowR dr mn + mb) + slowR dr len, 0⟩]).length ≤ _; omega) (one_srt o2) (fun _ => rfl)
              rw [one_code o1] at aA
              rw [one_code o2] at aB
              have e2 : (decide (ansE (na + (slowR dr mn + ma)) la ≠ 420) && decide (ansE (nb + (slowR dr mn + mb)) [⟨0, 2, ep, nb + (slowR dr mn + mb) + slowR dr len, 0⟩] ≠ 420)) = false := by rcases hx with h | h <;> simp [h]
              (repeat' first
              | exact hole _
              | simp (maxSteps := 9999999) (disch := omega) only [go_sem, simprocAttr, ltT hi', hmd, hgr, e2, hs', zSrv.eq_1, eWE.eq_1, wOf.eq_1, eng0.eq_1, List.map_nil]
              | (first | refine' gdV_S (fun hq => ?_) (fun f => ?_) | refine' gdD_S (fun hq => ?_) (fun f => ?_)) <;> try (have hq' := hq; try simp only [HB] at hq')
              | refine callL_of (ca) ?_
              | refine callL_of (cs) ?_
              | refine callL_of (cA) ?_
              | refine callL_of (cB) ?_
              | refine callL_of (cg) ?_
              | refine callL_of (cl) ?_
              | refine callL_of (cd) ?_
              | refine callL_of (aA) ?_
              | refine callL_of (aB) ?_
              | refine Sx.s ?_ ?_ <;> try (intro h; have h' := h; try simp only [HB] at h'; try rewrite [h]; try simp only [h])
              | refine ct_I ?_
              | refine callG_Iv ?_ ?_
              | refine drJ_I ?_
              | refine Sz.s ?_
              | refine nxt_I (fun hr => ?_) (fun q hq => ?_)
              | refine isnil_I (fun hnil b => ?_) (fun hnil => ?_)
              | (refine And.intro ?_ ?_; focus omega)
              | fail)
              all_goals first | exact r1 | exact r2
        · replace hgr : (decide (mg = 1) || decide (mg = 2)) = false := by simpa using hgr
          have e1 : s' = ⟨⟨now + mn, len, dr, last⟩, na + (slowR dr mn + ma), la, nb + (slowR dr mn + mb), lb⟩ := by rw [hS]; unfold stepE; simp only [hgr, Bool.false_eq_true, if_false]; rfl
          subst e1
          have hx := excl hok
          obtain ⟨_, _, _, _, _, _, _, r1, r2⟩ := id hok
          have o1 := late_one r1
          have o2 := late_one r2
          simp only at hx o1 o2
          have aA := Answer_is (mx := mx) (wOf 1 (na + (slowR dr mn + ma)) la) [] (by have := one_len o1; show la.length ≤ _; omega) (one_srt o1) (fun _ => rfl)
          have aB := Answer_is (mx := mx) (wOf 2 (nb + (slowR dr mn + mb)) lb) [] (by have := one_len o2; show lb.length ≤ _; omega) (one_srt o2) (fun _ => rfl)
          rw [one_code o1] at aA
          rw [one_code o2] at aB
          have e2 : (decide (ansE (na + (slowR dr mn + ma)) la ≠ 420) && decide (ansE (nb + (slowR dr mn + mb)) lb ≠ 420)) = false := by rcases hx with h | h <;> simp [h]
          (repeat' first
          | exact hole _
          | simp (maxSteps := 9999999) (disch := omega) only [go_sem, simprocAttr, ltT hi', hmd, hgr, e2, hs', zSrv.eq_1, eWE.eq_1, wOf.eq_1, eng0.eq_1, List.map_nil]
          | (first | refine' gdV_S (fun hq => ?_) (fun f => ?_) | refine' gdD_S (fun hq => ?_) (fun f => ?_)) <;> try (have hq' := hq; try simp only [HB] at hq')
          | refine callL_of (ca) ?_
          | refine callL_of (cs) ?_
          | refine callL_of (cA) ?_
          | refine callL_of (cB) ?_
          | refine callL_of (aA) ?_
          | refine callL_of (aB) ?_
          | refine Sx.s ?_ ?_ <;> try (intro h; have h' := h; try simp only [HB] at h'; try rewrite [h]; try simp only [h])
          | refine ct_I ?_
          | refine callG_Iv ?_ ?_
          | refine drJ_I ?_
          | refine Sz.s ?_
          | refine nxt_I (fun hr => ?_) (fun q hq => ?_)
          | refine isnil_I (fun hnil b => ?_) (fun hnil => ?_)
          | (refine And.intro ?_ ?_; focus omega)
          | fail)
          all_goals first | exact r1 | exact r2
      · skip
        (repeat' first
        | exact hole _
        | simp (maxSteps := 9999999) (disch := omega) only [go_sem, simprocAttr, ltF hi']
        | (first | refine' gdV_S (fun hq => ?_) (fun f => ?_) | refine' gdD_S (fun hq => ?_) (fun f => ?_)) <;> try (have hq' := hq; try simp only [HB] at hq')
        | refine Sx.s ?_ ?_ <;> try (intro h; have h' := h; try simp only [HB] at h'; try rewrite [h]; try simp only [h])
        | refine ct_I ?_
        | refine callG_Iv ?_ ?_
        | refine drJ_I ?_
        | refine Sz.s ?_
        | refine nxt_I (fun hr => ?_) (fun q hq => ?_)
        | refine isnil_I (fun hnil b => ?_) (fun hnil => ?_)
        | (refine And.intro ?_ ?_; focus omega)
        | fail)
end Go.Proofs.YtcgjldimifeffaaGreatDoor
