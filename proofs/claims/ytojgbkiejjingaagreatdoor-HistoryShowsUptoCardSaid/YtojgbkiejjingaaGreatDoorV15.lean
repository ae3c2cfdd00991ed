/-Lemmas.-/
import Derived.Test.YtojgbkiejjingaaGreatDoorV11
set_option linter.all false
set_option maxRecDepth 100000
set_option maxHeartbeats 8000000
namespace Go.Proofs.YtojgbkiejjingaaGreatDoor
open Go Go.Dl Go.As Go.Proofs
variable {mx:Int}
attribute[local irreducible] Ah Ai MC W2 Fq ev evD step Ad
noncomputable def F6:FT 6:=.of Tryz.f6 [7,48,40] [] [(7,[[5,2,0,2,0,50,7,52,52,53],[]]),(20,[[0]])]
noncomputable def F10:FT 10:=.of Tryz.f10
noncomputable def F14:FT 14:=.of Tryz.f14
noncomputable def F18:FT 18:=.of Tryz.f18 [] [] [(6,[[0]])]
noncomputable def F22:FT 22:=.of Tryz.f22 [4]
noncomputable def F30:FT 30:=.of Tryz.f30 [6]
noncomputable def F34:FT 34:=.of Tryz.f34
noncomputable def F38:FT 38:=.of Tryz.f38
noncomputable def F42:FT 42:=.of Tryz.f42 [4,2] [] [(1,[[0]])]
noncomputable def F46:FT 46:=.of Tryz.f46
noncomputable def F50:FT 50:=.of Tryz.f50 [2]
noncomputable def F56:FT 56:=.of Tryz.f56
noncomputable def F64:FT 64:=.of Tryz.f64 [5,4] [] [(6,[[0]])]
noncomputable def F68:FT 68:=.of Tryz.f68
noncomputable def F72:FT 72:=.of Tryz.f72
noncomputable def F76:FT 76:=.of Tryz.f76
noncomputable def F80:FT 80:=.of Tryz.f80
noncomputable def F84:FT 84:=.of Tryz.f84 [4]
noncomputable def F91:FT 91:=.of Tryz.f91
noncomputable def F99:FT 99:=.of Tryz.f99 [4]
noncomputable def pB:FT 103:=.of Tryz.f103
noncomputable def pC:FT 107:=.of Tryz.f107 [6,5,4,2,39,31,12,9,5033] [(39,2)] [(9,[[7,1,2,6,34,3,35,35,36,36,37],[]])]
noncomputable def pD:FT 111:=.of Tryz.f111
noncomputable def pE:FT 115:=.of Tryz.f115 [4,2,68,64,63,57,53,52,46,44,36,18,10] [(63,2),(52,2)] [(12,[[7],[]]),(13,[[9],[]])]
noncomputable def pF:FT 119:=.of Tryz.f119
noncomputable def pG:FT 123:=.of Tryz.f123
noncomputable def Yy:FT 127:=.of Tryz.f127 [3,25,18,13]
noncomputable def pH:FT 131:=.of Tryz.f131
noncomputable def pI:FT 152:=.of Tryz.f152
noncomputable def pJ:FT 157:=.of Tryz.f157
noncomputable def pK:FT 161:=.of Tryz.f161
noncomputable def pL:FT 165:=.of Tryz.f165 [6]
noncomputable def Yz:FT 169:=.of Tryz.f169
noncomputable def pM:FT 173:=.of Tryz.f173
noncomputable def pN:FT 177:=.of Tryz.f177 [4,3,2,41,37,36,32,26,13,11,7]
noncomputable def pO:FT 181:=.of Tryz.f181 [] [] [(7,[[0]])]
noncomputable def pP:FT 185:=.of Tryz.f185 [1045]
noncomputable def pQ:FT 199:=.of Tryz.f199
noncomputable def pR:FT 203:=.of Tryz.f203 [] [] [(11,[[8],[]]),(15,[[8],[]])]
noncomputable def pS:FT 207:=.of Tryz.f207
noncomputable def pT:FT 211:=.of Tryz.f211
noncomputable def pU:FT 215:=.of Tryz.f215 [6,4,43] [] [(19,[[0]])]
noncomputable def pV:FT 219:=.of Tryz.f219
noncomputable def pW:FT 224:=.of Tryz.f224
noncomputable def pX:FT 228:=.of Tryz.f228
noncomputable def pY:FT 232:=.of Tryz.f232
noncomputable def pZ:FT 236:=.of Tryz.f236
noncomputable def p3:FT 240:=.of Tryz.f240 [22,68]
noncomputable def p4:FT 248:=.of Tryz.f248
noncomputable def p5:FT 252:=.of Tryz.f252
noncomputable def p6:FT 256:=.of Tryz.f256
noncomputable def p7:FT 261:=.of Tryz.f261
noncomputable def p8:FT 265:=.of Tryz.f265 [] [] [(11,[[0]])]
noncomputable def p9:FT 269:=.of Tryz.f269 [6,4] [] [(11,[[0]])]
noncomputable def qA:FT 273:=.of Tryz.f273
noncomputable def qB:FT 281:=.of Tryz.f281 [6]
noncomputable def qC:FT 285:=.of Tryz.f285 [6]
noncomputable def qD:FT 289:=.of Tryz.f289 [6] [] [(1,[[0]])]
noncomputable def qE:FT 302:=.of Tryz.f302 [] [] [(6,[[0]])]
noncomputable def qF:FT 306:=.of Tryz.f306
noncomputable def qG:FT 312:=.of Tryz.f312 [6]
noncomputable def qH:FT 319:=.of Tryz.f319
noncomputable def qI:FT 323:=.of Tryz.f323 [4]
noncomputable def qJ:FT 327:=.of Tryz.f327 [4]
noncomputable def qK:FT 332:=.of Tryz.f332
noncomputable def qL:FT 336:=.of Tryz.f336
noncomputable def qM:FT 340:=.of Tryz.f340 [4]
noncomputable def qN:FT 344:=.of Tryz.f344 [] [] [(6,[[0]]),(8,[[0]])]
noncomputable def qO:FT 349:=.of Tryz.f349 [2]
noncomputable def YA:FT 357:=.of Tryz.f357
noncomputable def qP:FT 361:=.of Tryz.f361 [4]
end Go.Proofs.YtojgbkiejjingaaGreatDoor
