/- A part of the proofs of WorkersExclude and WorkersMatchesSteps: Ir2. -/
import Derived.Test.YtcgjldimifeffaaGreatDoorIr0
set_option linter.all false
set_option maxRecDepth 100000
namespace Go.Proofs.YtcgjldimifeffaaGreatDoor
open Go Go.Dl Go.As Go.Proofs
-- asof/asoflaw43.WorkersExclude
noncomputable def F4 : FT 4 := .of Tryz.f4 [16,14,12,190,175] [] [(20,[[0]]),(24,[[8],[]]),(26,[[8],[]])]
-- asof/asofref43.New
noncomputable def F7 : FT 7 := .of Tryz.f7 [2]
-- asof/asofref43.Same
noncomputable def F10 : FT 10 := .of Tryz.f10
-- asof/workers.Advance
noncomputable def F13 : FT 13 := .of Tryz.f13 [6,3,40,36,35,31,25,19,12]
-- asof/asofref43.Adopt
noncomputable def F16 : FT 16 := .of Tryz.f16 [4,2,50,16,10]
-- asof/workers.Crash
noncomputable def F19 : FT 19 := .of Tryz.f19 [2,1,6,5,3]
-- asof/lease.Advance
noncomputable def F22 : FT 22 := .of Tryz.f22 [4,2,26,22,17]
-- asof/lease.Local
noncomputable def F25 : FT 25 := .of Tryz.f25 [6,4,47,40,28,21]
-- asof/workers.Catch
noncomputable def F28 : FT 28 := .of Tryz.f28 [6,3,45,31,27,26] [] [(8,[[0]])]
-- asof/checksum.Hash
noncomputable def F31 : FT 31 := .of Tryz.f31
-- asof/asofref23.SameEngine
noncomputable def F34 : FT 34 := .of Tryz.f34
-- asof/workers.find
noncomputable def F37 : FT 37 := .of Tryz.f37
-- asof/lease.tick
noncomputable def F40 : FT 40 := .of Tryz.f40
-- asof/engine.Value
noncomputable def F44 : FT 44 := .of Tryz.f44 [6,4,62,56] [] [(8,[[],[]])]
-- asof/engine.Apply
noncomputable def F50 : FT 50 := .of Tryz.f50 [6,55,54] [(55,6),(54,6)] [(9,[[0]])]
-- asof/asofref03.Group
noncomputable def F53 : FT 53 := .of Tryz.f53
-- slices.BinarySearchFunc[[]asof/api.Lease,asof/api.Lease,int]
noncomputable def F56 : FT 56 := .of Tryz.f56
-- asof/lease.all
noncomputable def F61 : FT 61 := .of Tryz.f61
-- asof/catalog.find
noncomputable def F68 : FT 68 := .of Tryz.f68 [4]
-- cmp.isNaN[int]
noncomputable def F86 : FT 86 := .of Tryz.f86
-- slices.IndexFunc[[]asof/api.Entry,asof/api.Entry]
noncomputable def F107 : FT 107 := .of Tryz.f107
-- asof/checker.Type
noncomputable def F137 : FT 137 := .of Tryz.f137
-- slices.Sort[[]string,string]
noncomputable def F168 : FT 168 := .of Tryz.f168
-- slices.Concat[[]asof/api.Feature,asof/api.Feature]
noncomputable def F186 : FT 186 := .of Tryz.f186 [3024]
-- slices.ContainsFunc[[]asof/api.Factor,asof/api.Factor]
noncomputable def F197 : FT 197 := .of Tryz.f197
-- slices.pdqsortOrdered[string]
noncomputable def F248 : FT 248 := .of Tryz.f248 [] [] [(17,[[0]])]
-- asof/changes.noFeature
noncomputable def F256 : FT 256 := .of Tryz.f256
-- asof/changes.named
noncomputable def F261 : FT 261 := .of Tryz.f261
-- asof/catalog.Cycle
noncomputable def F267 : FT 267 := .of Tryz.f267 [2002]
-- slices.IndexFunc[[]asof/api.Factor,asof/api.Factor]
noncomputable def F282 : FT 282 := .of Tryz.f282
-- slices.Clone[[]asof/api.Table,asof/api.Table]
noncomputable def F334 : FT 334 := .of Tryz.f334
-- asof/catalog.dependencies
noncomputable def F341 : FT 341 := .of Tryz.f341 [3]
-- slices.Backward[[]asof/api.Table,asof/api.Table]$1
noncomputable def F392 : FT 392 := .of Tryz.f392
-- slices.AppendSeq[[]string,string]
noncomputable def F442 : FT 442 := .of Tryz.f442 [2]
-- asof/workers.failed
noncomputable def F517 : FT 517 := .of Tryz.f517
-- (asof/workers.erased).ask$1
noncomputable def F520 : FT 520 := .of Tryz.f520
end Go.Proofs.YtcgjldimifeffaaGreatDoor
