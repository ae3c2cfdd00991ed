/- A part of the proofs of WorkersExclude and WorkersMatchesSteps: A16. -/
import Derived.Test.YtcgjldimifeffaaGreatDoorB2
set_option linter.all false
namespace Go.Dl
open Go Go.RowKit
def dstOf (n : Nat) (o : Oper) : Option Nat := match o.dst with | some d => if d < n then some d else none | none => none
def dstOk (n : Nat) (o : Oper) : Bool := match o.dst with | some d => decide (d < n) | none => true
def sameO : Operand → Operand → Bool
  | .tmp p, .tmp q => decide (p = q)
  | .const (.int k m), .const (.int k2 m2) => decide (k = k2 ∧ m = m2)
  | _, _ => false
theorem sameO_eq {x y : Operand} (h : sameO x y = true) : x = y := by
  unfold sameO at h
  grind
def optO (GL : List (Nat × List I)) : Option Operand → Option (Option O)
  | none => some none
  | some x => (cO GL x).map some
section
variable (P : Program) (GL : List (Nat × List I)) (n : Nat) (mu : List Nat)
def slT (t : TypeId) : Option TypeId := match P.underlying t with | some (.slice e) => some e | _ => none
def mpT (t : TypeId) : Option (TypeId × TypeId) := match P.underlying t with | some (.map k e) => some (k, e) | _ => none
def arT (t : TypeId) : Option (Nat × TypeId) := match P.underlying t with | some (.array k e) => some (k, e) | _ => none
def stT (t : TypeId) : Option (Array Field) := match P.underlying t with | some (.struct fs) => some fs | _ => none
def zrT (e : TypeId) : Option (TypeInfo × Value × I) := do
  let i ← P.info? e
  let z ← i.zero
  some (i, z, ← constI z)
def u8T (e : TypeId) : Bool := match P.underlying e with | some (.int .u8) => true | _ => false
def refT (e : TypeId) : Bool := match P.underlying e with | some (.slice _) | some (.map _ _) => true | _ => false
def cBuiltin (o : Oper) (D : Option Nat) (b : Builtin) (args : List Operand) (tys : List TypeId) : Option Ins :=
  match b, args, tys with
  | .len, [x], [t] => match P.underlying t with
    | some .string => do some (.lens (← D) (← cO GL x))
    | some (.slice _) => do some (.lenl (← D) (← cO GL x))
    | some (.map _ _) => do some (.lenm (← D) (← cO GL x)) --@lenm
    | _ => none
  | .append, [x, y], [t, t'] => do
    let d ← D
    let ox ← cO GL x
    let oy ← cO GL y
    let e ← slT P t
    if t = t' then (do
      let i ← P.info? e
      let z ← i.zero
      if z.cells.size = i.size ∧ 0 < i.size then some (.app d e i.size i.bytes ox oy) else none)
    else match P.underlying t' with
    | some (.int _) => do
      let r ← zrT P e
      if (cellsI r.2.2).all I.one = true ∧ r.2.1.cells.size = r.1.size ∧ 0 < r.1.size then some (.appz d e r.1.size r.1.bytes ox oy (cellsI r.2.2)) else none
    | _ => none
  | .max, [x, y], [_, _] => do some (.max (← D) (← cO GL x) (← cO GL y))
  | .min, [x, y], [_, _] => do some (.min (← D) (← cO GL x) (← cO GL y))
  | .cap, [x], [t] => do
    let d ← D
    let ox ← cO GL x
    let _ ← slT P t
    some (.cap d ox)
  | .copy, [x, y], [t, _] => do
    let ox ← cO GL x
    let oy ← cO GL y
    let e ← slT P t
    let k ← szT P e
    if dstOk n o = true then some (.cpy o.dst ox oy e k) else none
  | .clear, [x], [t] => do
    let ox ← cO GL x
    let r ← zrT P (← slT P t)
    if dstOk n o = true ∧ (cellsI r.2.2).all I.one = true then some (.clr o.dst ox (cellsI r.2.2)) else none
  | _, _, _ => none
def cFun (o : Oper) (D : Option Nat) (f : FuncId) (args : List Operand) (tys : List TypeId) : Option Ins := do
  let os ← args.mapM (cO GL)
  if Nat.blt f 1000000000 = true ∧ n ≤ 999 ∧ dstOk n o = true then (match D with
    | some d => if mu.contains (d + 5000) = true then some (.callo d f os) else if mu.contains (d + 3000) = true then (do
        let p ← (args.zip tys).find? fun p => isNil0 p.1
        let e ← slT P p.2
        some (.calln d f e (← szT P e) (← args.mapM (cN GL)))) else some (.call o.dst f os)
    | none => some (.call o.dst f os)) else none
def compOp (o : Oper) : Option Ins :=
  let D := dstOf n o
  let C := cO GL
  match o.op with
  | .move x | .assign x => match x with
    | .const (.slice none 0 0) => do
      let d ← D
      if mu.contains (d + 2000) = true then some (.mov d (.c .nilsl)) else (do
        let e ← slT P o.type
        some (.nils d e (← szT P e)))
    | x => do some (.mov (← D) (← C x))
  | .pick c x y => do some (.pick (← D) (← C c) (← C x) (← C y))
  | .box _ x => do
    let d ← D
    let ox ← C x
    if (mu.contains d || mu.contains 9000) = true then some (.boxm d ox) else some (.box d ox)
  | .alloc t => do some (.alloc (← D) (cellsI (← zrT P t).2.2))
  | .load t x => do
    let k ← szT P t
    let ag ← aggT P t
    if (ag || k == 1) = true then (do some (.load (← D) (← C x) k ag)) else none
  | .store t x v => do
    let ox ← C x
    let ov ← C v
    let k ← szT P t
    if o.dst = none then (match x with | .tmp s => if (mu.contains s || mu.contains 9000) = true then some (.store ox ov k) else some (.stfrz ox ov k) | _ => some (.store ox ov k)) else none
  | .fieldAddr t x f => do
    let fs ← stT P t
    let fl ← fs[f]?
    let k ← szT P fl.type
    if k ≠ 0 then (do some (.fa (← D) (← C x) fl.offset)) else none
  | .indexAddr t x ix => match P.underlying t with
    | some (.slice e) => do some (.ia (← D) (← C x) (← C ix) (← szT P e))
    | some (.array len e) => do some (.iaa (← D) (← C x) (← C ix) (← szT P e) len) --@iaa
    | _ => none
  | .index t x ix => match P.underlying t with
    | some .string => do some (.idx (← D) (← C x) (← C ix))
    | some (.array len e) => (do let k ← szT P e; let ag ← aggT P e; if (ag || k == 1) = true then (do some (.aidx (← D) (← C x) (← C ix) k len ag)) else none) --@aidx
    | _ => none
  | .binOp op t x y _ => do
    let d ← D
    let ox ← C x
    let u ← P.underlying t
    match nilOf u y, op with
    | some q, .eql => some (.isnil d q false ox)
    | some q, .neq => some (.isnil d q true ox)
    | _, op => do
      let oy ← C y
      match u, op with
      | .int _, .shl => some (.sh d .shl ox oy)
      | .int _, .shr => some (.sh d .shr ox oy)
      | .int _, op => some (.bin d op ox oy)
      | .string, op => some (.bin d op ox oy)
      | .bool, .eql => some (.eqb d false ox oy)
      | .bool, .neq => some (.eqb d true ox oy)
      | .struct _, op => do
        let ls ← flatT P 10000 t
        if P.eqGuardType P.depth t = false then (match op with | .eql => some (.eqs d false ls ox oy) | .neq => some (.eqs d true ls ox oy) | _ => none) else none
      | _, _ => none
  | .unOp op _ x => do some (.un (← D) op (← C x))
  | .convert t t' x => do
    let d ← D
    let ox ← C x
    let u ← P.underlying t
    let u' ← P.underlying t'
    match u, u' with
    | _, .int k => some (.conv d k ox)
    | .string, .slice e => if u8T P e = true then some (.bytes d ox) else none
    | .slice e, .string => if u8T P e = true then some (.ofb d ox) else none --@ofb
    | _, _ => none
  | .extract x i => do some (.ext (← D) (← C x) i)
  | .makeFunc (.func f) first caps => if Nat.blt f 1000000000 = true then (do some (.mkfn (← D) f (← first.toList.mapM C) (← caps.toList.mapM C))) else none
  | .build t parts => do
    let d ← D
    let r ← zrT P t
    match P.underlying t with
    | some (.struct fs) => do
      let pl ← placesT P fs
      some (.build d (cellsI r.2.2) (← partsO GL (fun j => pl[j]?) (cellsI r.2.2).length parts.toList))
    | some (.array _ e) => do
      let k ← szT P e
      some (.build d (cellsI r.2.2) (← partsO GL (fun j => some (j * k, k)) (cellsI r.2.2).length parts.toList))
    | _ => none
  | .buildSlice t len parts => do
    let d ← D
    let e ← slT P t
    let os ← (parts.toList.map (·.2)).mapM C
    let r ← zrT P e
    if (cellsI r.2.2).length = r.1.size ∧ 0 < r.1.size ∧ len * r.1.size ≤ 16777216 ∧ parts.toList.map (·.1) = List.range len then
      (if os.isEmpty = true then some (.bsl d e r.1.size os) else if mu.contains (d + 1000) = true then some (.bso d e r.1.size os) else some (.bsn d e r.1.size os)) else none
  | .call c => match c.callee with
    | .builtin b => cBuiltin P GL n o D b c.args.toList c.argTypes.toList
    | .value fv => match fv with
      | .func f => cFun P GL n mu o D f c.args.toList c.argTypes.toList
      | fv => do
        let of ← C fv
        let os ← c.args.toList.mapM C
        if n ≤ 999 ∧ dstOk n o = true then some (.callv o.dst of os) else none
    | .invoke x m => do
      let ox ← C x
      let os ← c.args.toList.mapM C
      if n ≤ 999 ∧ dstOk n o = true then some (.inv o.dst m ox os) else none
  | .makeInterface t x => do
    let d ← D
    let ox ← C x
    let u ← P.underlying t
    if notIf u = true then some (.mkif d t ox) else none
  | .field t x f => (do let fs ← stT P t; let fl ← fs[f]?; let k ← szT P fl.type; let ag ← aggT P fl.type; if (ag || k == 1) = true then (do some (.fld (← D) (← C x) fl.offset k ag)) else none) --@fld
  | .slice t x lo hi none => do
    let d ← D
    let ox ← C x
    let olo ← optO GL lo
    let ohi ← optO GL hi
    match P.underlying t with
    | some (.slice e) => do some (.slc d ox olo ohi (← szT P e))
    | some .string => some (.sslc d ox olo ohi) --@sslc
    | _ => none
  | .slice t x lo (some hi) (some m) => do --@slc3
    let d ← D --@slc3
    let ox ← C x --@slc3
    let e ← slT P t --@slc3
    let k ← szT P e --@slc3
    match lo, hi, m with --@slc3
    | none, .const (.int _ 0), .const (.int _ 0) => some (.slc0 d e k ox) --@slc3
    | lo, hi, m => do some (.slc3 d ox (← optO GL lo) (← C hi) (← C m)) --@slc3
  | .makeMap t none => do
    let d ← D
    let m ← mpT P t
    let ls ← keyT P m.1
    if (refT P m.2 || mu.contains (d + 4000)) = true then some (.mkgm d ls) else some (.mkmap d ls)
  | .lookup t x ix ok => do
    let d ← D
    let ox ← C x
    let oi ← C ix
    let m ← mpT P t
    let ls ← keyT P m.1
    let r ← zrT P m.2
    if (refT P m.2 || mu.contains (d + 4000)) = true then some (.lookg d ox oi r.2.2 ok ls) else some (.lookup d ox oi r.2.2 ok ls)
  | .mapUpdate t x ix y | .insert t x ix y => do
    let ox ← C x
    let oi ← C ix
    let oy ← C y
    let m ← mpT P t
    let ls ← keyT P m.1
    if o.dst = none then (if refT P m.2 = true then some (.mupdg ox oi oy ls) else some (.mupd ox oi oy ls)) else none
  | .mapEntry t x ix => do
    let m ← mpT P t
    let r ← zrT P m.2
    some (.ment (← D) (← C x) (← C ix) r.2.2 (← keyT P m.1) ((slT P m.2).getD 0) (((slT P m.2).bind (szT P)).getD 0))
  | .entryStore _ x s y => if o.dst = none then (do some (.ests (← C x) (← C s) (← C y))) else none
  | .makeSlice t x y => do
    let e ← slT P t
    let r ← zrT P e
    if sameO x y = true ∧ r.2.1.cells.size = r.1.size then (do some (.mksl (← D) e r.1.size r.1.bytes (cellsI r.2.2) (← C x))) else none
  | .range t x => do
    let _ ← mpT P t
    some (.rng (← D) (← C x))
  | .next x false => do some (.nxt (← D) (← C x))
  | .entry x => do some (.ent (← D) (← C x))
  | _ => none
end
section
variable {P : Program} {n : Nat} {o : Oper} {d : Nat}
theorem dst_iff : dstOf n o = some d ↔ o.dst = some d ∧ d < n := by grind [dstOf]
theorem dok_iff : dstOk n o = true ↔ ∀ d, o.dst = some d → d < n := by grind [dstOk]
theorem slT_iff {t e : TypeId} : slT P t = some e ↔ P.underlying t = some (.slice e) := by grind [slT]
theorem mpT_iff {t : TypeId} {m : TypeId × TypeId} : mpT P t = some m ↔ P.underlying t = some (.map m.1 m.2) := by grind [mpT]
theorem stT_iff {t : TypeId} {fs : Array Field} : stT P t = some fs ↔ P.underlying t = some (.struct fs) := by grind [stT]
theorem u8T_iff {e : TypeId} : u8T P e = true ↔ P.underlying e = some (.int .u8) := by grind [u8T]
theorem zrT_iff {e : TypeId} {r : TypeInfo × Value × I} : zrT P e = some r ↔ P.info? e = some r.1 ∧ r.1.zero = some r.2.1 ∧ constI r.2.1 = some r.2.2 := by
  obtain ⟨i, z, y⟩ := r
  simp only [zrT, Option.bind_eq_bind, Option.bind_eq_some_iff, Option.some.injEq, Prod.mk.injEq]
  grind
theorem optO_iff {GL : List (Nat × List I)} {x : Option Operand} {y : Option O} : optO GL x = some y ↔ x.map (cO GL) = y.map some := by cases x <;> cases y <;> simp [optO]
theorem callE {c : Call} {b : Callee} {l : Array Operand} {t : Array TypeId} (ho : o.op = .call c) (h1 : c.callee = b) (h2 : c.args.toList = l.toList) (h3 : c.argTypes.toList = t.toList) : o.op = .call ⟨b, l, t⟩ := by
  rw [ho, ← h1, ← Array.ext' h2, ← Array.ext' h3]
end
variable {P : Program} {GL : List (Nat × List I)} {n : Nat} {S : Sh} {M : Mem} {μ : Place} {st : St} {a : Act} {w : World} {K : St → Prop} {Q : Exit → Act → World → Prop} {o : Oper} {mu : List Nat}
set_option maxHeartbeats 2000000
theorem snd_op (h : Rel GL n S M μ st a w) {ins : Ins} (hc : compOp P GL n mu o = some ins) (hs : step P GL ins st K) : o.wpX P a w (Goal GL n S M w K) Q := by
  unfold compOp at hc
  simp only at hc
  split at hc <;> rename_i ho
  all_goals
    try unfold cBuiltin at hc
    try unfold cFun at hc
    repeat' first
      | (cases hc; done)
      | (obtain ⟨_, hc⟩ := hc)
      | (simp only [Option.bind_eq_bind, Option.ite_none_right_eq_some, Option.bind_eq_some_iff, Option.some.injEq, dst_iff, dok_iff, slT_iff, mpT_iff, stT_iff, u8T_iff, zrT_iff, optO_iff, and_assoc] at hc)
      | split at hc
  all_goals first
    | (apply snd_pick h ho <;> first | assumption | exact hs | rfl)
    | (apply snd_box h ho <;> first | assumption | exact hs | rfl)
    | (apply snd_boxm h ho <;> first | assumption | exact hs | rfl)
    | (apply snd_alloc h ho <;> first | assumption | exact hs | rfl)
    | (apply snd_load h ho <;> first | assumption | exact hs | rfl)
    | (apply snd_store h ho <;> first | assumption | exact hs | rfl)
    | (apply snd_stfrz h ho <;> first | assumption | exact hs | rfl)
    | (apply snd_fa h ho <;> first | assumption | exact hs | rfl)
    | (apply snd_ia h ho <;> first | assumption | exact hs | rfl)
    | (apply snd_iaa h ho <;> first | assumption | exact hs | rfl) --@iaa
    | (apply snd_idx h ho <;> first | assumption | exact hs | rfl)
    | (apply snd_aidx h ho <;> first | assumption | exact hs | rfl) --@aidx
    | (apply snd_bin h ho <;> first | assumption | exact hs | rfl)
    | (apply snd_un h ho <;> first | assumption | exact hs | rfl)
    | (apply snd_conv h ho <;> first | assumption | exact hs | rfl)
    | (apply snd_bytes h ho <;> first | assumption | exact hs | rfl)
    | (apply snd_ofb h ho <;> first | assumption | exact hs | rfl) --@ofb
    | (apply snd_ext h ho <;> first | assumption | exact hs | rfl)
    | (apply snd_build h ho <;> first | assumption | exact hs | rfl)
    | (apply snd_buildA h ho <;> first | assumption | exact hs | rfl)
    | (apply snd_bso h ho <;> first | assumption | exact hs | rfl)
    | (apply snd_fld h ho <;> first | assumption | exact hs | rfl) --@fld
    | (apply snd_slc h ho <;> first | assumption | exact hs | rfl)
    | (apply snd_sslc h ho <;> first | assumption | exact hs | rfl) --@sslc
    | (apply snd_slc3 h ho <;> first | assumption | exact hs | rfl) --@slc3
    | (apply snd_lookg h ho <;> first | assumption | exact hs | rfl)
    | (apply snd_lookup h ho <;> first | assumption | exact hs | rfl)
    | (apply snd_ment h ho <;> first | assumption | exact hs | rfl)
    | (apply snd_ests h ho <;> first | assumption | exact hs | rfl)
    | (apply snd_rng h ho <;> first | assumption | exact hs | rfl)
    | (apply snd_nxt h ho <;> first | assumption | exact hs | rfl)
    | (apply snd_ent h ho <;> first | assumption | exact hs | rfl)
    | (apply snd_bsl h ho <;> first | assumption | exact step_bsn hs | rfl)
    | (apply snd_mkfn h ‹_› ho <;> first | assumption | exact hs | rfl)
    | (obtain rfl := sameO_eq ‹_›; apply snd_mksl h ho <;> assumption)
    | (apply snd_slc0 h ho rfl rfl <;> first | assumption | exact hs | rfl) --@slc3
    | (apply snd_mkgm h ho rfl <;> first | assumption | exact hs | rfl)
    | (apply snd_mkmap h ho rfl <;> first | assumption | exact hs | rfl)
    | (apply snd_mov h (.inl ho) <;> first | assumption | exact hs | rfl)
    | (apply snd_mov h (.inr ho) <;> first | assumption | exact hs | rfl)
    | (apply snd_nils h (.inl ho) <;> first | assumption | exact hs | rfl)
    | (apply snd_nils h (.inr ho) <;> first | assumption | exact hs | rfl)
    | (apply snd_mupdg h (.inl ho) <;> first | assumption | exact hs | rfl)
    | (apply snd_mupdg h (.inr ho) <;> first | assumption | exact hs | rfl)
    | (apply snd_mupd h (.inl ho) <;> first | assumption | exact hs | rfl)
    | (apply snd_mupd h (.inr ho) <;> first | assumption | exact hs | rfl)
    | (apply snd_isnil (neg := false) h ho <;> first | assumption | exact hs | rfl)
    | (apply snd_eqb (neg := false) h ho <;> first | assumption | exact hs | rfl)
    | (apply snd_eqs (neg := false) h ho <;> first | assumption | exact aggT_of ‹_›)
    | (apply snd_isnil (neg := true) h ho <;> first | assumption | exact hs | rfl)
    | (apply snd_eqb (neg := true) h ho <;> first | assumption | exact hs | rfl)
    | (apply snd_eqs (neg := true) h ho <;> first | assumption | exact aggT_of ‹_›)
    | (apply snd_sh h (.inl rfl) ho <;> first | assumption | exact hs | rfl)
    | (apply snd_sh h (.inr rfl) ho <;> first | assumption | exact hs | rfl)
    | (apply snd_lens h (callE ho ‹_› ‹_› ‹_›) <;> first | assumption | exact hs | rfl)
    | (apply snd_lenl h (callE ho ‹_› ‹_› ‹_›) <;> first | assumption | exact hs | rfl)
    | (apply snd_lenm h (callE ho ‹_› ‹_› ‹_›) <;> first | assumption | exact hs | rfl) --@lenm
    | (apply snd_app h (callE ho ‹_› ‹_› ‹_›) <;> first | assumption | exact hs | rfl)
    | (apply snd_appz h (callE ho ‹_› ‹_› ‹_›) <;> first | assumption | exact hs | rfl)
    | (apply snd_cap h (callE ho ‹_› ‹_› ‹_›) <;> first | assumption | exact hs | rfl)
    | (apply snd_cpy h (callE ho ‹_› ‹_› ‹_›) <;> first | assumption | exact hs | rfl)
    | (apply snd_clr h (callE ho ‹_› ‹_› ‹_›) <;> first | assumption | exact hs | rfl)
    | (apply snd_max (mx := true) h (callE ho ‹_› ‹_› ‹_›) <;> first | assumption | exact hs | rfl)
    | (apply snd_max (mx := false) h (callE ho ‹_› ‹_› ‹_›) <;> first | assumption | exact hs | rfl)
    | (apply snd_call h ‹_› (callE ho ‹_› rfl rfl) <;> first | assumption | exact hs | rfl)
    | (apply snd_calln h ‹_› (callE ho ‹_› rfl rfl) <;> first | assumption | exact (dst_iff.1 ‹_›).1 | exact (dst_iff.1 ‹_›).2)
    | (apply snd_callo h ‹_› (callE ho ‹_› rfl rfl) <;> first | assumption | exact (dst_iff.1 ‹_›).1 | exact (dst_iff.1 ‹_›).2)
    | (apply snd_mkif h ho <;> first | assumption | exact hs | rfl)
    | (apply snd_inv h (callE ho ‹_› rfl rfl) <;> first | assumption | exact hs | rfl)
    | (apply snd_callv h (callE ho ‹_› rfl rfl) <;> first | assumption | exact hs | rfl)
    | exact wp_put h ‹_› ‹_› (v := .slice none 0 0) (by simp [execOp, ho, Act.eval]) (repD_i .nilsl) hs
end Go.Dl
