/-Lemmas.-/
import Derived.Test.YtojgbkiejjingaaGreatDoorV11
set_option linter.all false
set_option maxRecDepth 100000
set_option maxHeartbeats 8000000
namespace Go.Proofs.YtojgbkiejjingaaGreatDoor
open Go Go.Dl Go.As Go.Proofs
variable {mx:Int}
attribute[local irreducible] Ah Ai MC W2 Fq ev evD step Ad
noncomputable def F5:FT 5:=.of Tryz.f5 [58,68]
noncomputable def F9:FT 9:=.of Tryz.f9 [] [] [(17,[[0]]),(19,[[0]]),(23,[[0]])]
noncomputable def F13:FT 13:=.of Tryz.f13 [1017] [] [(10,[[0]]),(12,[[0]]),(16,[[5,2,0,2,3,107,6,109,109,110],[]]),(17,[[0]]),(18,[[23,5,13,15,18,19,21,141,3,143,141,7,145,141,145,146,141,1,149,141,1,151],[]])]
noncomputable def F21:FT 21:=.of Tryz.f21
noncomputable def F29:FT 29:=.of Tryz.f29 [] [] [(9,[[0]])]
noncomputable def F33:FT 33:=.of Tryz.f33
noncomputable def F37:FT 37:=.of Tryz.f37
noncomputable def F41:FT 41:=.of Tryz.f41
noncomputable def F45:FT 45:=.of Tryz.f45 [6]
noncomputable def F49:FT 49:=.of Tryz.f49 [] [] [(11,[[6],[7,0],[10,1,8,67],[11,0]])]
noncomputable def F55:FT 55:=.of Tryz.f55 [] [] [(3,[[0]])]
noncomputable def F59:FT 59:=.of Tryz.f59
noncomputable def F63:FT 63:=.of Tryz.f63
noncomputable def F67:FT 67:=.of Tryz.f67 [33]
noncomputable def F71:FT 71:=.of Tryz.f71
noncomputable def F75:FT 75:=.of Tryz.f75
noncomputable def F79:FT 79:=.of Tryz.f79 [] [] [(9,[[0]])]
noncomputable def F83:FT 83:=.of Tryz.f83
noncomputable def F87:FT 87:=.of Tryz.f87
noncomputable def F94:FT 94:=.of Tryz.f94
noncomputable def F98:FT 98:=.of Tryz.f98 [8,6,55,54,53] [] [(7,[[0]])]
noncomputable def oz:FT 102:=.of Tryz.f102
noncomputable def oA:FT 106:=.of Tryz.f106
noncomputable def oB:FT 110:=.of Tryz.f110 [6,4,2,70,66,64,58,55,44,33,31,30,18,16,12]
noncomputable def oC:FT 114:=.of Tryz.f114
noncomputable def Yw:FT 118:=.of Tryz.f118 [] [] [(16,[[0]])]
noncomputable def oD:FT 122:=.of Tryz.f122
noncomputable def oE:FT 126:=.of Tryz.f126
noncomputable def oF:FT 130:=.of Tryz.f130 [] [] [(6,[[0]])]
noncomputable def oG:FT 151:=.of Tryz.f151
noncomputable def oH:FT 156:=.of Tryz.f156
noncomputable def oI:FT 160:=.of Tryz.f160
noncomputable def oJ:FT 164:=.of Tryz.f164
noncomputable def Yx:FT 168:=.of Tryz.f168
noncomputable def oK:FT 172:=.of Tryz.f172
noncomputable def oL:FT 176:=.of Tryz.f176 [4,2,52,47,38,25,20] [(52,2)] [(5,[[0]]),(8,[[8,1,3,2,47,47,48,8,49,48,49,50],[]])]
noncomputable def oM:FT 180:=.of Tryz.f180 [4,2,18,14,7]
noncomputable def oO:FT 184:=.of Tryz.f184
noncomputable def oP:FT 202:=.of Tryz.f202
noncomputable def oQ:FT 206:=.of Tryz.f206
noncomputable def oR:FT 210:=.of Tryz.f210
noncomputable def oS:FT 214:=.of Tryz.f214 [2]
noncomputable def oT:FT 218:=.of Tryz.f218
noncomputable def oU:FT 223:=.of Tryz.f223
noncomputable def oV:FT 227:=.of Tryz.f227
noncomputable def oW:FT 231:=.of Tryz.f231 [] [] [(2,[[0]]),(5,[[7,1,3,0,32,5,33,32,33,34],[]])]
noncomputable def oX:FT 235:=.of Tryz.f235
noncomputable def oY:FT 239:=.of Tryz.f239 [] [] [(6,[[0]])]
noncomputable def oZ:FT 247:=.of Tryz.f247
noncomputable def pa:FT 251:=.of Tryz.f251
noncomputable def pb:FT 255:=.of Tryz.f255
noncomputable def pc:FT 260:=.of Tryz.f260
noncomputable def pd:FT 264:=.of Tryz.f264
noncomputable def pe:FT 268:=.of Tryz.f268 [] [] [(7,[[0]]),(9,[[0]])]
noncomputable def pf:FT 272:=.of Tryz.f272 [] [] [(7,[[0]])]
noncomputable def pg:FT 280:=.of Tryz.f280
noncomputable def ph:FT 284:=.of Tryz.f284 [6] [] [(3,[[0]])]
noncomputable def pi:FT 288:=.of Tryz.f288 [6] [] [(3,[[0]])]
noncomputable def pj:FT 301:=.of Tryz.f301 [] [] [(17,[[0]]),(19,[[0]]),(21,[[0]])]
noncomputable def pm:FT 305:=.of Tryz.f305 [6] [] [(11,[[0]]),(13,[[0]]),(21,[[0]]),(26,[[0]])]
noncomputable def pn:FT 318:=.of Tryz.f318
noncomputable def po:FT 322:=.of Tryz.f322
noncomputable def pp:FT 326:=.of Tryz.f326 [6]
noncomputable def pq:FT 331:=.of Tryz.f331
noncomputable def TI:FT 335:=.of Tryz.f335
noncomputable def pr:FT 339:=.of Tryz.f339 [] [] [(5,[[14],[]])]
noncomputable def pw:FT 343:=.of Tryz.f343
noncomputable def px:FT 348:=.of Tryz.f348 [] [] [(6,[[0]])]
noncomputable def py:FT 352:=.of Tryz.f352 [2]
noncomputable def pz:FT 356:=.of Tryz.f356
noncomputable def pA:FT 360:=.of Tryz.f360 [] [] [(5,[[11],[]])]
end Go.Proofs.YtojgbkiejjingaaGreatDoor
