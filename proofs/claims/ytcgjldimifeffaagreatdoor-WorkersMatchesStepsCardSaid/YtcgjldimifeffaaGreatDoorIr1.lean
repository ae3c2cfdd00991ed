/- A part of the proofs of WorkersExclude and WorkersMatchesSteps: Ir1. -/
import Derived.Test.YtcgjldimifeffaaGreatDoorIr0
set_option linter.all false
set_option maxRecDepth 100000
namespace Go.Proofs.YtcgjldimifeffaaGreatDoor
open Go Go.Dl Go.As Go.Proofs
-- asof/asoflaw43.WorkersMatchesSteps
noncomputable def F3 : FT 3 := .of Tryz.f3 [20,79,78,77] [] [(13,[[0]])]
-- asof/workers.New
noncomputable def F6 : FT 6 := .of Tryz.f6 [2]
-- asof/asofref43.Range
noncomputable def F9 : FT 9 := .of Tryz.f9
-- asof/asofref43.Clock
noncomputable def F12 : FT 12 := .of Tryz.f12
-- asof/workers.Adopt
noncomputable def F15 : FT 15 := .of Tryz.f15 [4,2,29,8,22]
-- asof/asofref43.Save
noncomputable def F18 : FT 18 := .of Tryz.f18 [2,1,5,3]
-- asof/lease.New
noncomputable def F21 : FT 21 := .of Tryz.f21 [4]
-- asof/lease.Grant
noncomputable def F24 : FT 24 := .of Tryz.f24 [15,11,9,8,4,109,102,98,75,73,72,69,65,59,57,52,48,43,37,26,20,18] [(72,9),(73,9)] [(15,[[9],[]]),(26,[[3],[]])]
-- asof/asoflaw43.owner
noncomputable def F27 : FT 27 := .of Tryz.f27 [7,6,19]
-- asof/asofref23.New
noncomputable def F30 : FT 30 := .of Tryz.f30 [0]
-- asof/asofref43.SameLeases
noncomputable def F33 : FT 33 := .of Tryz.f33 [] [] [(6,[[0]])]
-- slices.Clone[[]asof/api.Lease,asof/api.Lease]
noncomputable def F36 : FT 36 := .of Tryz.f36
-- asof/lease.valid
noncomputable def F39 : FT 39 := .of Tryz.f39 [] [] [(6,[[0]])]
-- asof/workers.permitted
noncomputable def F43 : FT 43 := .of Tryz.f43
-- asof/catalog.Draft
noncomputable def F46 : FT 46 := .of Tryz.f46 [4]
-- asof/asofref03.Mix
noncomputable def F52 : FT 52 := .of Tryz.f52
-- asof/asofref23.SameParts
noncomputable def F55 : FT 55 := .of Tryz.f55 [] [] [(6,[[0]])]
-- cmp.Compare[int]
noncomputable def F58 : FT 58 := .of Tryz.f58
-- asof/engine.newIndex[asof/api.Part]
noncomputable def F64 : FT 64 := .of Tryz.f64 [4] [] [(5,[[0]]),(7,[[0]])]
-- asof/asofref12.SameFeatures
noncomputable def F83 : FT 83 := .of Tryz.f83 [] [] [(6,[[0]])]
-- asof/catalog.find$1
noncomputable def F100 : FT 100 := .of Tryz.f100
-- asof/lower.Aggregates
noncomputable def F123 : FT 123 := .of Tryz.f123 [3]
-- slices.IndexFunc[[]asof/api.Field,asof/api.Field]
noncomputable def F144 : FT 144 := .of Tryz.f144
-- asof/catalog.Check
noncomputable def F185 : FT 185 := .of Tryz.f185 [] [] [(9,[[0]])]
-- asof/units.Check
noncomputable def F196 : FT 196 := .of Tryz.f196 [] [] [(10,[[0]])]
-- asof/lexer.Keyword
noncomputable def F199 : FT 199 := .of Tryz.f199
-- asof/changes.rules$1
noncomputable def F255 : FT 255 := .of Tryz.f255
-- asof/changes.noTable
noncomputable def F259 : FT 259 := .of Tryz.f259
-- asof/catalog.checkVersions
noncomputable def F265 : FT 265 := .of Tryz.f265 [] [] [(16,[[0]])]
-- asof/units.outside
noncomputable def F281 : FT 281 := .of Tryz.f281
-- slices.Insert[[]asof/api.Table,asof/api.Table]
noncomputable def F333 : FT 333 := .of Tryz.f333 [] [] [(11,[[8],[]]),(15,[[8],[]])]
-- asof/checker.Table$1
noncomputable def F339 : FT 339 := .of Tryz.f339
-- maps.Keys[map[string]map[string]bool,string,map[string]bool]
noncomputable def F343 : FT 343 := .of Tryz.f343
-- maps.Keys[map[string]map[string]bool,string,map[string]bool]$1
noncomputable def F405 : FT 405 := .of Tryz.f405
-- asof/lease.Valid
noncomputable def F516 : FT 516 := .of Tryz.f516
-- slices.ContainsFunc[[]asof/api.Entry,asof/api.Entry]
noncomputable def F519 : FT 519 := .of Tryz.f519
end Go.Proofs.YtcgjldimifeffaaGreatDoor
