/- A part of the proofs of WorkersExclude and WorkersMatchesSteps: Ir3. -/
import Derived.Test.YtcgjldimifeffaaGreatDoorIr0
set_option linter.all false
set_option maxRecDepth 100000
namespace Go.Proofs.YtcgjldimifeffaaGreatDoor
open Go Go.Dl Go.As Go.Proofs
-- asof/asoflaw43.example
noncomputable def F5 : FT 5 := .of Tryz.f5 [11,54] [] [(4,[[0]]),(5,[[0]])]
-- asof/workers.Range
noncomputable def F8 : FT 8 := .of Tryz.f8
-- asof/asofref43.Sorted
noncomputable def F11 : FT 11 := .of Tryz.f11 [] [] [(4,[[0]])]
-- asof/asofref43.Advance
noncomputable def F14 : FT 14 := .of Tryz.f14 [6,3,38,34,33,29,23,18,12]
-- asof/workers.Save
noncomputable def F17 : FT 17 := .of Tryz.f17 [2,1,5,3]
-- asof/asofref43.Crash
noncomputable def F20 : FT 20 := .of Tryz.f20 [2,1,6,5,3]
-- asof/lease.Slowest
noncomputable def F23 : FT 23 := .of Tryz.f23
-- asof/workers.Answer
noncomputable def F26 : FT 26 := .of Tryz.f26 [8] [] [(15,[[0]]),(16,[[0]])]
-- asof/engine.New
noncomputable def F29 : FT 29 := .of Tryz.f29 [0]
-- asof/asofref03.Hash
noncomputable def F32 : FT 32 := .of Tryz.f32
-- asof/asofref43.over
noncomputable def F35 : FT 35 := .of Tryz.f35
-- slices.Insert[[]asof/api.Lease,asof/api.Lease]
noncomputable def F38 : FT 38 := .of Tryz.f38 [] [] [(11,[[8],[]]),(15,[[8],[]])]
-- (asof/lease.record).own
noncomputable def F41 : FT 41 := .of Tryz.f41
-- asof/catalog.Feature
noncomputable def F45 : FT 45 := .of Tryz.f45 [4]
-- asof/checksum.mix
noncomputable def F51 : FT 51 := .of Tryz.f51
-- asof/asofref12.SameCatalog
noncomputable def F54 : FT 54 := .of Tryz.f54 [] [] [(6,[[0]])]
-- asof/workers.find$1
noncomputable def F57 : FT 57 := .of Tryz.f57
-- asof/values.Check
noncomputable def F63 : FT 63 := .of Tryz.f63
-- (asof/engine.step).define
noncomputable def F81 : FT 81 := .of Tryz.f81 [10,3,2,69,64,59,32,27,16,14,5053] [] [(11,[[0]]),(14,[[6,1,2,1,54,54,55,55,56],[]])]
-- slices.IndexFunc[[]asof/api.Feature,asof/api.Feature]
noncomputable def F99 : FT 99 := .of Tryz.f99
-- asof/changes.Apply
noncomputable def F122 : FT 122 := .of Tryz.f122 [4,2] [] [(1,[[0]])]
-- asof/lexer.Name
noncomputable def F138 : FT 138 := .of Tryz.f138
-- asof/changes.rules
noncomputable def F184 : FT 184 := .of Tryz.f184
-- asof/checker.isNumber
noncomputable def F195 : FT 195 := .of Tryz.f195
-- asof/checker.Type$1
noncomputable def F198 : FT 198 := .of Tryz.f198
-- asof/changes.addTable
noncomputable def F254 : FT 254 := .of Tryz.f254 [6,5,4,2,39,31,12,9,5033] [(39,2)] [(9,[[7,1,2,6,34,3,35,35,36,36,37],[]])]
-- asof/changes.rules$2
noncomputable def F258 : FT 258 := .of Tryz.f258
-- asof/checker.Table
noncomputable def F264 : FT 264 := .of Tryz.f264
-- asof/units.word
noncomputable def F280 : FT 280 := .of Tryz.f280
-- slices.Backward[[]asof/api.Table,asof/api.Table]
noncomputable def F332 : FT 332 := .of Tryz.f332
-- slices.ContainsFunc[[]asof/api.Field,asof/api.Field]
noncomputable def F338 : FT 338 := .of Tryz.f338
-- slices.Sorted[string]
noncomputable def F342 : FT 342 := .of Tryz.f342
-- slices.Collect[string]
noncomputable def F404 : FT 404 := .of Tryz.f404 [3004]
-- (asof/workers.leased).ask
noncomputable def F515 : FT 515 := .of Tryz.f515 [] [] [(2,[[0]]),(4,[[0]]),(6,[[0]])]
-- (asof/workers.erased).ask
noncomputable def F518 : FT 518 := .of Tryz.f518
-- (asof/workers.step).Unwrap
noncomputable def F523 : FT 523 := .of Tryz.f523
end Go.Proofs.YtcgjldimifeffaaGreatDoor
