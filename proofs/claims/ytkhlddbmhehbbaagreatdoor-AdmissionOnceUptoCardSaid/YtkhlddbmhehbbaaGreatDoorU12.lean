/-Lemmas.-/
import Derived.Test.YtkhlddbmhehbbaaGreatDoorU11
set_option linter.all false
set_option maxRecDepth 100000
set_option maxHeartbeats 8000000
namespace Go.Proofs.YtkhlddbmhehbbaaGreatDoor
open Go Go.Dl Go.As Go.Proofs
variable {mx:Int}
attribute[local irreducible] Ah Ai MC W2 EM ev evD step Ad
noncomputable def F3:FT 3:=.of Tryz.f3 [] [] [(5,[[0]])]
noncomputable def F7:FT 7:=.of Tryz.f7
noncomputable def F11:FT 11:=.of Tryz.f11
noncomputable def F15:FT 15:=.of Tryz.f15 [25,206,205] [] [(3,[[0]]),(5,[[0]]),(6,[[0]]),(7,[[0]]),(8,[[0]]),(9,[[0]]),(10,[[0]]),(13,[[7,2,0,2,3,142,11,144,144,145,145,146,146,147],[]]),(14,[[0]]),(15,[[0]]),(23,[[10,3,0,2,7,3,209,23,211,211,212,212,213,213,214,4,216,25,217],[11,0],[12,0],[15],[16,0]])]
noncomputable def F19:FT 19:=.of Tryz.f19
noncomputable def F23:FT 23:=.of Tryz.f23 [4]
noncomputable def F27:FT 27:=.of Tryz.f27
noncomputable def F31:FT 31:=.of Tryz.f31
noncomputable def F35:FT 35:=.of Tryz.f35
noncomputable def F39:FT 39:=.of Tryz.f39 [4]
noncomputable def F43:FT 43:=.of Tryz.f43 [4]
noncomputable def F47:FT 47:=.of Tryz.f47 [6]
noncomputable def F51:FT 51:=.of Tryz.f51
noncomputable def F55:FT 55:=.of Tryz.f55 [4,30,18]
noncomputable def F59:FT 59:=.of Tryz.f59
noncomputable def F63:FT 63:=.of Tryz.f63 [3,23,18,6]
noncomputable def F67:FT 67:=.of Tryz.f67
noncomputable def F71:FT 71:=.of Tryz.f71
noncomputable def F75:FT 75:=.of Tryz.f75 [4]
noncomputable def F80:FT 80:=.of Tryz.f80 [8,5,43,39,38,37,36,31,23]
noncomputable def F85:FT 85:=.of Tryz.f85 [5,4] [] [(6,[[0]])]
noncomputable def F89:FT 89:=.of Tryz.f89 [2]
noncomputable def F93:FT 93:=.of Tryz.f93 [] [] [(6,[[0]]),(7,[[0]])]
noncomputable def F97:FT 97:=.of Tryz.f97
noncomputable def nv:FT 101:=.of Tryz.f101
noncomputable def ny:FT 105:=.of Tryz.f105
noncomputable def nz:FT 111:=.of Tryz.f111
noncomputable def nB:FT 115:=.of Tryz.f115
noncomputable def Y4:FT 120:=.of Tryz.f120
noncomputable def nC:FT 124:=.of Tryz.f124
noncomputable def nD:FT 128:=.of Tryz.f128 [6,5,4,2,39,31,12,9,5033] [(39,2)] [(9,[[7,1,2,6,34,3,35,35,36,36,37],[]])]
noncomputable def nE:FT 132:=.of Tryz.f132
noncomputable def nF:FT 136:=.of Tryz.f136 [4,2,68,64,63,57,53,52,46,44,36,18,10] [(63,2),(52,2)] [(12,[[7],[]]),(13,[[9],[]])]
noncomputable def nG:FT 140:=.of Tryz.f140
noncomputable def nH:FT 144:=.of Tryz.f144
noncomputable def nI:FT 148:=.of Tryz.f148 [4,2,55,51,50,44,43,37,35,30,23,16,9] [(50,2),(43,2)] [(8,[[7],[]]),(9,[[5],[]])]
noncomputable def nJ:FT 152:=.of Tryz.f152
noncomputable def nK:FT 165:=.of Tryz.f165
noncomputable def nL:FT 177:=.of Tryz.f177
noncomputable def nM:FT 181:=.of Tryz.f181 [] [] [(6,[[0]])]
noncomputable def nN:FT 186:=.of Tryz.f186
noncomputable def nO:FT 190:=.of Tryz.f190
noncomputable def nP:FT 194:=.of Tryz.f194 [6]
noncomputable def nQ:FT 198:=.of Tryz.f198
noncomputable def nR:FT 202:=.of Tryz.f202
noncomputable def nS:FT 206:=.of Tryz.f206
noncomputable def nT:FT 210:=.of Tryz.f210 [6]
noncomputable def nU:FT 222:=.of Tryz.f222
noncomputable def nV:FT 232:=.of Tryz.f232
noncomputable def nW:FT 236:=.of Tryz.f236
noncomputable def nX:FT 240:=.of Tryz.f240
noncomputable def nY:FT 244:=.of Tryz.f244 [2]
noncomputable def nZ:FT 248:=.of Tryz.f248
noncomputable def n0:FT 253:=.of Tryz.f253
noncomputable def n7:FT 257:=.of Tryz.f257
noncomputable def n8:FT 261:=.of Tryz.f261 [] [] [(6,[[0]])]
noncomputable def n9:FT 273:=.of Tryz.f273
noncomputable def oa:FT 277:=.of Tryz.f277
noncomputable def oe:FT 281:=.of Tryz.f281 [] [] [(6,[[0]])]
noncomputable def oh:FT 286:=.of Tryz.f286
noncomputable def oj:FT 290:=.of Tryz.f290 [4]
noncomputable def ol:FT 294:=.of Tryz.f294
noncomputable def om:FT 302:=.of Tryz.f302 [6]
noncomputable def ot:FT 306:=.of Tryz.f306 [6]
noncomputable def ou:FT 310:=.of Tryz.f310 [6] [] [(1,[[0]])]
noncomputable def ow:FT 323:=.of Tryz.f323
noncomputable def oz:FT 327:=.of Tryz.f327 [6]
noncomputable def oA:FT 333:=.of Tryz.f333 [6]
noncomputable def oB:FT 340:=.of Tryz.f340
noncomputable def oC:FT 344:=.of Tryz.f344
noncomputable def oD:FT 349:=.of Tryz.f349
noncomputable def oE:FT 353:=.of Tryz.f353 [4]
noncomputable def oF:FT 357:=.of Tryz.f357 [2]
noncomputable def oG:FT 362:=.of Tryz.f362 [] [] [(6,[[0]])]
noncomputable def Y5:FT 366:=.of Tryz.f366
noncomputable def oH:FT 370:=.of Tryz.f370 [2]
noncomputable def oI:FT 374:=.of Tryz.f374 [4,27] [] [(6,[[11],[]])]
end Go.Proofs.YtkhlddbmhehbbaaGreatDoor
