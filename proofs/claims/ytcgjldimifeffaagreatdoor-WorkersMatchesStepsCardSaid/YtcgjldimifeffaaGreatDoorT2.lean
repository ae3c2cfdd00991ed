/- A part of the proofs of WorkersExclude and WorkersMatchesSteps: T2. -/
import Derived.Test.YtcgjldimifeffaaGreatDoorT1
set_option linter.all false
namespace Go.As
open Go Go.Dl
structure Fid where
  source : Str
  seq : Int
deriving DecidableEq, Inhabited
structure Fct where
  id : Fid
  kind : Int
  ref : Int
  table : Str
  key : Str
  event : Int
  fields : List Val
deriving Inhabited
structure Ers where
  kind : Int
  entity : Str
  key : Str
  id : Fid
deriving DecidableEq, Inhabited
structure Chg where
  kind : Int
  table : Tbl
  feature : Ftr
  name : Str
deriving Inhabited
structure Ent where
  no : Int
  tick : Int
  kind : Int
  fact : Fct
  erasure : Ers
  change : Chg
deriving Inhabited
structure Rw where
  id : Fid
  table : Str
  key : Str
  event : Int
  fields : List Val
  no : Int
  tick : Int
deriving Inhabited
theorem eE_eq2 : ∀ x : Xpr, eE x = [.int .i64 x.kind, .str x.op, .str x.name, .str x.table, .int .i64 x.val.kind, .int .i64 x.val.n, .str x.val.s, .sl (x.unit.map eFac), .int .i64 x.param, .int .i64 x.win.kind, .int .i64 x.win.size, .sl (x.args.map eE)] := fun x => by cases x; simp [eE, eEs_map, Xpr.kind, Xpr.op, Xpr.name, Xpr.table, Xpr.val, Xpr.unit, Xpr.param, Xpr.win, Xpr.args]
def eFid (x : Fid) : List I := [.str x.source, .int .i64 x.seq]
def eFct (x : Fct) : List I := eFid x.id ++ [.int .i64 x.kind, .int .i64 x.ref, .str x.table, .str x.key, .int .i64 x.event, .sl (x.fields.map eVal)]
def eErs (x : Ers) : List I := [.int .i64 x.kind, .str x.entity, .str x.key] ++ eFid x.id
def eChg (x : Chg) : List I := [.int .i64 x.kind] ++ eTbl x.table ++ eFtr x.feature ++ [.str x.name]
def eEnt (x : Ent) : List I := [.int .i64 x.no, .int .i64 x.tick, .int .i64 x.kind] ++ eFct x.fact ++ eErs x.erasure ++ eChg x.change
def eRw (x : Rw) : List I := eFid x.id ++ [.str x.table, .str x.key, .int .i64 x.event, .sl (x.fields.map eVal), .int .i64 x.no, .int .i64 x.tick]
theorem eFid_eq (x : Fid) : eFid x = [.str x.source, .int .i64 x.seq] := by rfl
theorem eFct_eq (x : Fct) : eFct x = [.str x.id.source, .int .i64 x.id.seq, .int .i64 x.kind, .int .i64 x.ref, .str x.table, .str x.key, .int .i64 x.event, .sl (x.fields.map eVal)] := by rfl
theorem eErs_eq (x : Ers) : eErs x = [.int .i64 x.kind, .str x.entity, .str x.key, .str x.id.source, .int .i64 x.id.seq] := by rfl
theorem eChg_eq (x : Chg) : eChg x = [.int .i64 x.kind, .str x.table.name, .str x.table.entity, .sl (x.table.fields.map eFld), .int .i64 x.table.keep, .str x.feature.name, .str x.feature.entity, .int .i64 x.feature.typ.kind, .sl (x.feature.typ.unit.map eFac), .str x.feature.typ.of, .int .i64 x.feature.body.kind, .str x.feature.body.op, .str x.feature.body.name, .str x.feature.body.table, .int .i64 x.feature.body.val.kind, .int .i64 x.feature.body.val.n, .str x.feature.body.val.s, .sl (x.feature.body.unit.map eFac), .int .i64 x.feature.body.param, .int .i64 x.feature.body.win.kind, .int .i64 x.feature.body.win.size, .sl (x.feature.body.args.map eE), .int .i64 x.feature.version, .str x.name] := by simp [eChg,eTbl,eFtr,eTyp,eE_eq2]
theorem eEnt_eq (x : Ent) : eEnt x = [.int .i64 x.no, .int .i64 x.tick, .int .i64 x.kind, .str x.fact.id.source, .int .i64 x.fact.id.seq, .int .i64 x.fact.kind, .int .i64 x.fact.ref, .str x.fact.table, .str x.fact.key, .int .i64 x.fact.event, .sl (x.fact.fields.map eVal), .int .i64 x.erasure.kind, .str x.erasure.entity, .str x.erasure.key, .str x.erasure.id.source, .int .i64 x.erasure.id.seq, .int .i64 x.change.kind, .str x.change.table.name, .str x.change.table.entity, .sl (x.change.table.fields.map eFld), .int .i64 x.change.table.keep, .str x.change.feature.name, .str x.change.feature.entity, .int .i64 x.change.feature.typ.kind, .sl (x.change.feature.typ.unit.map eFac), .str x.change.feature.typ.of, .int .i64 x.change.feature.body.kind, .str x.change.feature.body.op, .str x.change.feature.body.name, .str x.change.feature.body.table, .int .i64 x.change.feature.body.val.kind, .int .i64 x.change.feature.body.val.n, .str x.change.feature.body.val.s, .sl (x.change.feature.body.unit.map eFac), .int .i64 x.change.feature.body.param, .int .i64 x.change.feature.body.win.kind, .int .i64 x.change.feature.body.win.size, .sl (x.change.feature.body.args.map eE), .int .i64 x.change.feature.version, .str x.change.name] := by simp only [eFid, eFct, eErs, eChg, eEnt, eTbl, eFtr, eTyp, eE_eq2, List.cons_append, List.nil_append]
theorem eRw_eq (x : Rw) : eRw x = [.str x.id.source, .int .i64 x.id.seq, .str x.table, .str x.key, .int .i64 x.event, .sl (x.fields.map eVal), .int .i64 x.no, .int .i64 x.tick] := by rfl
theorem ETl2 : (∀ x, (eFid x).length = 2) ∧ (∀ x, (eFct x).length = 8) ∧ (∀ x, (eErs x).length = 5) ∧ (∀ x, (eChg x).length = 24) ∧ (∀ x, (eEnt x).length = 40) ∧ (∀ x, (eRw x).length = 8) := by simp [eFid_eq,eFct_eq,eErs_eq,eChg_eq,eEnt_eq,eRw_eq]
theorem ET_Fid :
    (∀ x, pk false (eFid x) 0 1 = .str x.source) ∧
    (∀ x, pk false (eFid x) 1 1 = .int .i64 x.seq) ∧
    (∀ x, pk true (eFid x) 0 2 = .agg (eFid x)) := by
  and_intros <;> intro x <;> simp only [eFid] <;> rfl
theorem ET_Fct :
    (∀ x, pk true (eFct x) 0 2 = .agg (eFid x.id)) ∧
    (∀ x, pk false (eFct x) 0 1 = .str x.id.source) ∧
    (∀ x, pk false (eFct x) 1 1 = .int .i64 x.id.seq) ∧
    (∀ x, pk false (eFct x) 2 1 = .int .i64 x.kind) ∧
    (∀ x, pk false (eFct x) 3 1 = .int .i64 x.ref) ∧
    (∀ x, pk false (eFct x) 4 1 = .str x.table) ∧
    (∀ x, pk false (eFct x) 5 1 = .str x.key) ∧
    (∀ x, pk false (eFct x) 6 1 = .int .i64 x.event) ∧
    (∀ x, pk false (eFct x) 7 1 = .sl (x.fields.map eVal)) ∧
    (∀ x, pk true (eFct x) 0 8 = .agg (eFct x)) := by
  and_intros <;> intro x <;> simp only [eFid, eFct, List.cons_append, List.nil_append] <;> rfl
theorem ET_Ers :
    (∀ x, pk false (eErs x) 0 1 = .int .i64 x.kind) ∧
    (∀ x, pk false (eErs x) 1 1 = .str x.entity) ∧
    (∀ x, pk false (eErs x) 2 1 = .str x.key) ∧
    (∀ x, pk true (eErs x) 3 2 = .agg (eFid x.id)) ∧
    (∀ x, pk false (eErs x) 3 1 = .str x.id.source) ∧
    (∀ x, pk false (eErs x) 4 1 = .int .i64 x.id.seq) ∧
    (∀ x, pk true (eErs x) 0 5 = .agg (eErs x)) := by
  and_intros <;> intro x <;> simp only [eFid, eErs, List.cons_append, List.nil_append] <;> rfl
theorem ET_Chg :
    (∀ x, pk false (eChg x) 0 1 = .int .i64 x.kind) ∧
    (∀ x, pk true (eChg x) 1 4 = .agg (eTbl x.table)) ∧
    (∀ x, pk false (eChg x) 1 1 = .str x.table.name) ∧
    (∀ x, pk false (eChg x) 2 1 = .str x.table.entity) ∧
    (∀ x, pk false (eChg x) 3 1 = .sl (x.table.fields.map eFld)) ∧
    (∀ x, pk false (eChg x) 4 1 = .int .i64 x.table.keep) ∧
    (∀ x, pk true (eChg x) 5 18 = .agg (eFtr x.feature)) ∧
    (∀ x, pk false (eChg x) 5 1 = .str x.feature.name) ∧
    (∀ x, pk false (eChg x) 6 1 = .str x.feature.entity) ∧
    (∀ x, pk true (eChg x) 7 3 = .agg (eTyp x.feature.typ)) ∧
    (∀ x, pk false (eChg x) 7 1 = .int .i64 x.feature.typ.kind) ∧
    (∀ x, pk false (eChg x) 8 1 = .sl (x.feature.typ.unit.map eFac)) ∧
    (∀ x, pk false (eChg x) 9 1 = .str x.feature.typ.of) ∧
    (∀ x, pk true (eChg x) 10 12 = .agg (eE x.feature.body)) ∧
    (∀ x, pk false (eChg x) 10 1 = .int .i64 x.feature.body.kind) ∧
    (∀ x, pk false (eChg x) 11 1 = .str x.feature.body.op) ∧
    (∀ x, pk false (eChg x) 12 1 = .str x.feature.body.name) ∧
    (∀ x, pk false (eChg x) 13 1 = .str x.feature.body.table) ∧
    (∀ x, pk true (eChg x) 14 3 = .agg (eVal x.feature.body.val)) ∧
    (∀ x, pk false (eChg x) 14 1 = .int .i64 x.feature.body.val.kind) ∧
    (∀ x, pk false (eChg x) 15 1 = .int .i64 x.feature.body.val.n) ∧
    (∀ x, pk false (eChg x) 16 1 = .str x.feature.body.val.s) ∧
    (∀ x, pk false (eChg x) 17 1 = .sl (x.feature.body.unit.map eFac)) ∧
    (∀ x, pk false (eChg x) 18 1 = .int .i64 x.feature.body.param) ∧
    (∀ x, pk true (eChg x) 19 2 = .agg (eWin x.feature.body.win)) ∧
    (∀ x, pk false (eChg x) 19 1 = .int .i64 x.feature.body.win.kind) ∧
    (∀ x, pk false (eChg x) 20 1 = .int .i64 x.feature.body.win.size) ∧
    (∀ x, pk false (eChg x) 21 1 = .sl (x.feature.body.args.map eE)) ∧
    (∀ x, pk false (eChg x) 22 1 = .int .i64 x.feature.version) ∧
    (∀ x, pk false (eChg x) 23 1 = .str x.name) ∧
    (∀ x, pk true (eChg x) 0 24 = .agg (eChg x)) := by
  and_intros <;> intro x <;> simp only [eChg, eTbl, eFtr, eTyp, eVal, eWin, eE_eq2, List.cons_append, List.nil_append] <;> rfl
theorem ET_Ent :
    (∀ x, pk false (eEnt x) 0 1 = .int .i64 x.no) ∧
    (∀ x, pk false (eEnt x) 1 1 = .int .i64 x.tick) ∧
    (∀ x, pk false (eEnt x) 2 1 = .int .i64 x.kind) ∧
    (∀ x, pk true (eEnt x) 3 8 = .agg (eFct x.fact)) ∧
    (∀ x, pk true (eEnt x) 3 2 = .agg (eFid x.fact.id)) ∧
    (∀ x, pk false (eEnt x) 3 1 = .str x.fact.id.source) ∧
    (∀ x, pk false (eEnt x) 4 1 = .int .i64 x.fact.id.seq) ∧
    (∀ x, pk false (eEnt x) 5 1 = .int .i64 x.fact.kind) ∧
    (∀ x, pk false (eEnt x) 6 1 = .int .i64 x.fact.ref) ∧
    (∀ x, pk false (eEnt x) 7 1 = .str x.fact.table) ∧
    (∀ x, pk false (eEnt x) 8 1 = .str x.fact.key) ∧
    (∀ x, pk false (eEnt x) 9 1 = .int .i64 x.fact.event) ∧
    (∀ x, pk false (eEnt x) 10 1 = .sl (x.fact.fields.map eVal)) ∧
    (∀ x, pk true (eEnt x) 11 5 = .agg (eErs x.erasure)) ∧
    (∀ x, pk false (eEnt x) 11 1 = .int .i64 x.erasure.kind) ∧
    (∀ x, pk false (eEnt x) 12 1 = .str x.erasure.entity) ∧
    (∀ x, pk false (eEnt x) 13 1 = .str x.erasure.key) ∧
    (∀ x, pk true (eEnt x) 14 2 = .agg (eFid x.erasure.id)) ∧
    (∀ x, pk false (eEnt x) 14 1 = .str x.erasure.id.source) ∧
    (∀ x, pk false (eEnt x) 15 1 = .int .i64 x.erasure.id.seq) ∧
    (∀ x, pk true (eEnt x) 16 24 = .agg (eChg x.change)) ∧
    (∀ x, pk false (eEnt x) 16 1 = .int .i64 x.change.kind) ∧
    (∀ x, pk true (eEnt x) 17 4 = .agg (eTbl x.change.table)) ∧
    (∀ x, pk false (eEnt x) 17 1 = .str x.change.table.name) ∧
    (∀ x, pk false (eEnt x) 18 1 = .str x.change.table.entity) ∧
    (∀ x, pk false (eEnt x) 19 1 = .sl (x.change.table.fields.map eFld)) ∧
    (∀ x, pk false (eEnt x) 20 1 = .int .i64 x.change.table.keep) ∧
    (∀ x, pk true (eEnt x) 21 18 = .agg (eFtr x.change.feature)) ∧
    (∀ x, pk false (eEnt x) 21 1 = .str x.change.feature.name) ∧
    (∀ x, pk false (eEnt x) 22 1 = .str x.change.feature.entity) ∧
    (∀ x, pk true (eEnt x) 23 3 = .agg (eTyp x.change.feature.typ)) ∧
    (∀ x, pk false (eEnt x) 23 1 = .int .i64 x.change.feature.typ.kind) ∧
    (∀ x, pk false (eEnt x) 24 1 = .sl (x.change.feature.typ.unit.map eFac)) ∧
    (∀ x, pk false (eEnt x) 25 1 = .str x.change.feature.typ.of) ∧
    (∀ x, pk true (eEnt x) 26 12 = .agg (eE x.change.feature.body)) ∧
    (∀ x, pk false (eEnt x) 26 1 = .int .i64 x.change.feature.body.kind) ∧
    (∀ x, pk false (eEnt x) 27 1 = .str x.change.feature.body.op) ∧
    (∀ x, pk false (eEnt x) 28 1 = .str x.change.feature.body.name) ∧
    (∀ x, pk false (eEnt x) 29 1 = .str x.change.feature.body.table) ∧
    (∀ x, pk true (eEnt x) 30 3 = .agg (eVal x.change.feature.body.val)) ∧
    (∀ x, pk false (eEnt x) 30 1 = .int .i64 x.change.feature.body.val.kind) ∧
    (∀ x, pk false (eEnt x) 31 1 = .int .i64 x.change.feature.body.val.n) ∧
    (∀ x, pk false (eEnt x) 32 1 = .str x.change.feature.body.val.s) ∧
    (∀ x, pk false (eEnt x) 33 1 = .sl (x.change.feature.body.unit.map eFac)) ∧
    (∀ x, pk false (eEnt x) 34 1 = .int .i64 x.change.feature.body.param) ∧
    (∀ x, pk true (eEnt x) 35 2 = .agg (eWin x.change.feature.body.win)) ∧
    (∀ x, pk false (eEnt x) 35 1 = .int .i64 x.change.feature.body.win.kind) ∧
    (∀ x, pk false (eEnt x) 36 1 = .int .i64 x.change.feature.body.win.size) ∧
    (∀ x, pk false (eEnt x) 37 1 = .sl (x.change.feature.body.args.map eE)) ∧
    (∀ x, pk false (eEnt x) 38 1 = .int .i64 x.change.feature.version) ∧
    (∀ x, pk false (eEnt x) 39 1 = .str x.change.name) ∧
    (∀ x, pk true (eEnt x) 0 40 = .agg (eEnt x)) := by
  and_intros <;> intro x <;> simp only [eFid, eFct, eErs, eChg, eEnt, eTbl, eFtr, eTyp, eVal, eWin, eE_eq2, List.cons_append, List.nil_append] <;> rfl
theorem ET_Rw :
    (∀ x, pk true (eRw x) 0 2 = .agg (eFid x.id)) ∧
    (∀ x, pk false (eRw x) 0 1 = .str x.id.source) ∧
    (∀ x, pk false (eRw x) 1 1 = .int .i64 x.id.seq) ∧
    (∀ x, pk false (eRw x) 2 1 = .str x.table) ∧
    (∀ x, pk false (eRw x) 3 1 = .str x.key) ∧
    (∀ x, pk false (eRw x) 4 1 = .int .i64 x.event) ∧
    (∀ x, pk false (eRw x) 5 1 = .sl (x.fields.map eVal)) ∧
    (∀ x, pk false (eRw x) 6 1 = .int .i64 x.no) ∧
    (∀ x, pk false (eRw x) 7 1 = .int .i64 x.tick) ∧
    (∀ x, pk true (eRw x) 0 8 = .agg (eRw x)) := by
  and_intros <;> intro x <;> simp only [eFid, eRw, List.cons_append, List.nil_append] <;> rfl
theorem EOne2 : (∀ x, (eFid x).all I.one = true) ∧ (∀ x, (eFct x).all I.one = true) ∧ (∀ x, (eErs x).all I.one = true) ∧ (∀ x, (eChg x).all I.one = true) ∧ (∀ x, (eEnt x).all I.one = true) ∧ (∀ x, (eRw x).all I.one = true) := by refine ⟨?_, ?_, ?_, ?_, ?_, ?_⟩ <;> intro x <;> simp only [eFid_eq, eFct_eq, eErs_eq, eChg_eq, eEnt_eq, eRw_eq] <;> rfl
attribute [go_sem] ETl2 EOne2 ET_Fid ET_Fct ET_Ers ET_Chg ET_Ent ET_Rw eFid eErs
end Go.As
