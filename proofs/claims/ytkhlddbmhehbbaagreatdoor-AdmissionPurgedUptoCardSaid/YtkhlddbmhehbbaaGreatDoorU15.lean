/-Lemmas.-/
import Derived.Test.YtkhlddbmhehbbaaGreatDoorU11
set_option linter.all false
set_option maxRecDepth 100000
set_option maxHeartbeats 8000000
namespace Go.Proofs.YtkhlddbmhehbbaaGreatDoor
open Go Go.Dl Go.As Go.Proofs
variable {mx:Int}
attribute[local irreducible] Ah Ai MC W2 EM ev evD step Ad
noncomputable def F6:FT 6:=.of Tryz.f6 [] [] [(20,[[0]])]
noncomputable def F10:FT 10:=.of Tryz.f10
noncomputable def F14:FT 14:=.of Tryz.f14
noncomputable def F18:FT 18:=.of Tryz.f18 [] [] [(6,[[0]])]
noncomputable def F22:FT 22:=.of Tryz.f22 [] [] [(13,[[0]])]
noncomputable def F26:FT 26:=.of Tryz.f26 [1021] [] [(2,[[10,1,9,0,1,5,12,13,14,15],[11,0],[0]])]
noncomputable def F30:FT 30:=.of Tryz.f30 [5,28,26,24,19,14] [] [(6,[[8],[]])]
noncomputable def F34:FT 34:=.of Tryz.f34 [] [] [(6,[[0]])]
noncomputable def F38:FT 38:=.of Tryz.f38 [] [] [(2,[[0]])]
noncomputable def F42:FT 42:=.of Tryz.f42 [] [] [(9,[[0]])]
noncomputable def F46:FT 46:=.of Tryz.f46 [2,1,5]
noncomputable def F50:FT 50:=.of Tryz.f50 [4]
noncomputable def F54:FT 54:=.of Tryz.f54 [] [] [(1,[[0]])]
noncomputable def F58:FT 58:=.of Tryz.f58
noncomputable def F62:FT 62:=.of Tryz.f62
noncomputable def F66:FT 66:=.of Tryz.f66
noncomputable def F70:FT 70:=.of Tryz.f70 [] [] [(1,[[0]])]
noncomputable def F74:FT 74:=.of Tryz.f74
noncomputable def F79:FT 79:=.of Tryz.f79
noncomputable def F84:FT 84:=.of Tryz.f84 [] [] [(4,[[0]])]
noncomputable def F88:FT 88:=.of Tryz.f88 [] [] [(1,[[0]])]
noncomputable def F92:FT 92:=.of Tryz.f92
noncomputable def F96:FT 96:=.of Tryz.f96
noncomputable def rr:FT 100:=.of Tryz.f100 [] [] [(1,[[0]])]
noncomputable def ru:FT 104:=.of Tryz.f104
noncomputable def Y8:FT 108:=.of Tryz.f108 [] [] [(15,[[0]]),(20,[[0]]),(25,[[0]])]
noncomputable def rz:FT 114:=.of Tryz.f114 [] [] [(6,[[0]])]
noncomputable def rA:FT 119:=.of Tryz.f119
noncomputable def rB:FT 123:=.of Tryz.f123 [] [] [(6,[[0]])]
noncomputable def rD:FT 127:=.of Tryz.f127
noncomputable def rE:FT 131:=.of Tryz.f131 [6,4,2,70,66,64,58,55,44,33,31,30,18,16,12]
noncomputable def rF:FT 135:=.of Tryz.f135
noncomputable def rG:FT 139:=.of Tryz.f139 [] [] [(16,[[0]])]
noncomputable def rH:FT 143:=.of Tryz.f143
noncomputable def rI:FT 147:=.of Tryz.f147 [4,2,50,46,45,41,40,34,32,26,25,21,16,9] [(40,2)] [(8,[[7],[]])]
noncomputable def rJ:FT 151:=.of Tryz.f151
noncomputable def rK:FT 176:=.of Tryz.f176
noncomputable def rL:FT 180:=.of Tryz.f180
noncomputable def rM:FT 185:=.of Tryz.f185
noncomputable def rN:FT 189:=.of Tryz.f189
noncomputable def rO:FT 193:=.of Tryz.f193
noncomputable def rQ:FT 197:=.of Tryz.f197
noncomputable def rS:FT 201:=.of Tryz.f201
noncomputable def rT:FT 205:=.of Tryz.f205
noncomputable def rU:FT 209:=.of Tryz.f209
noncomputable def rV:FT 213:=.of Tryz.f213 [22,68]
noncomputable def rW:FT 226:=.of Tryz.f226
noncomputable def rX:FT 231:=.of Tryz.f231
noncomputable def rY:FT 235:=.of Tryz.f235 [] [] [(5,[[6],[]])]
noncomputable def rZ:FT 239:=.of Tryz.f239
noncomputable def sd:FT 243:=.of Tryz.f243 [5,164,154,84,83,82,81,56,27,26,25] [(84,5),(83,5),(82,5),(81,5),(27,5),(26,5),(25,5)] [(6,[[0]]),(18,[[0]])]
noncomputable def se:FT 247:=.of Tryz.f247
noncomputable def sf:FT 252:=.of Tryz.f252
noncomputable def sg:FT 256:=.of Tryz.f256 [] [] [(11,[[0]])]
noncomputable def si:FT 260:=.of Tryz.f260 [6,4] [] [(11,[[0]])]
noncomputable def sj:FT 264:=.of Tryz.f264
noncomputable def sk:FT 272:=.of Tryz.f272
noncomputable def sm:FT 276:=.of Tryz.f276
noncomputable def sr:FT 280:=.of Tryz.f280
noncomputable def su:FT 285:=.of Tryz.f285
noncomputable def sv:FT 289:=.of Tryz.f289 [0]
noncomputable def sx:FT 293:=.of Tryz.f293 [4]
noncomputable def sy:FT 301:=.of Tryz.f301
noncomputable def sz:FT 305:=.of Tryz.f305 [6] [] [(3,[[0]])]
noncomputable def sA:FT 309:=.of Tryz.f309 [6] [] [(3,[[0]])]
noncomputable def sB:FT 322:=.of Tryz.f322 [] [] [(6,[[0]])]
noncomputable def sC:FT 326:=.of Tryz.f326 [6]
noncomputable def sD:FT 339:=.of Tryz.f339
noncomputable def T7:FT 343:=.of Tryz.f343
noncomputable def sE:FT 348:=.of Tryz.f348 [] [] [(5,[[14],[]])]
noncomputable def sF:FT 352:=.of Tryz.f352 [6] [] [(6,[[7],[]])]
noncomputable def sG:FT 356:=.of Tryz.f356
noncomputable def sH:FT 361:=.of Tryz.f361 [2,1,10,8,3]
noncomputable def sI:FT 365:=.of Tryz.f365
noncomputable def sJ:FT 369:=.of Tryz.f369 [] [] [(5,[[11],[]])]
noncomputable def sK:FT 373:=.of Tryz.f373 [4]
end Go.Proofs.YtkhlddbmhehbbaaGreatDoor
