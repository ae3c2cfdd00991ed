/-Lemmas.-/
import Derived.Test.YtojgbkiejjingaaGreatDoorV11
set_option linter.all false
set_option maxRecDepth 100000
set_option maxHeartbeats 8000000
namespace Go.Proofs.YtojgbkiejjingaaGreatDoor
open Go Go.Dl Go.As Go.Proofs
variable {mx:Int}
attribute[local irreducible] Ah Ai MC W2 Fq ev evD step Ad
noncomputable def F8:FT 8:=.of Tryz.f8
noncomputable def F12:FT 12:=.of Tryz.f12 [3]
noncomputable def F16:FT 16:=.of Tryz.f16 [5,28,26,24,19,14] [] [(6,[[8],[]])]
noncomputable def F20:FT 20:=.of Tryz.f20 [] [] [(6,[[0]])]
noncomputable def F24:FT 24:=.of Tryz.f24
noncomputable def F32:FT 32:=.of Tryz.f32
noncomputable def F36:FT 36:=.of Tryz.f36 [] [] [(1,[[0]])]
noncomputable def F40:FT 40:=.of Tryz.f40 [] [] [(13,[[0]])]
noncomputable def F44:FT 44:=.of Tryz.f44 [2]
noncomputable def F48:FT 48:=.of Tryz.f48
noncomputable def F52:FT 52:=.of Tryz.f52 [8,5,43,39,38,37,36,31,23]
noncomputable def F62:FT 62:=.of Tryz.f62 [] [] [(2,[[0]]),(4,[[0]])]
noncomputable def F66:FT 66:=.of Tryz.f66 [] [] [(2,[[0]])]
noncomputable def F70:FT 70:=.of Tryz.f70
noncomputable def F74:FT 74:=.of Tryz.f74
noncomputable def F78:FT 78:=.of Tryz.f78
noncomputable def F82:FT 82:=.of Tryz.f82 [] [] [(4,[[0]])]
noncomputable def F86:FT 86:=.of Tryz.f86 [] [] [(6,[[0]]),(7,[[0]])]
noncomputable def F97:FT 97:=.of Tryz.f97 [4]
noncomputable def nj:FT 101:=.of Tryz.f101
noncomputable def nk:FT 105:=.of Tryz.f105
noncomputable def nl:FT 109:=.of Tryz.f109
noncomputable def nn:FT 113:=.of Tryz.f113 [4,2,52,48,47,43,42,36,34,27,26,22,17,9] [(42,2)] [(8,[[7],[]])]
noncomputable def nq:FT 117:=.of Tryz.f117
noncomputable def nr:FT 121:=.of Tryz.f121
noncomputable def nt:FT 125:=.of Tryz.f125
noncomputable def Ys:FT 129:=.of Tryz.f129 [] [] [(15,[[0]]),(20,[[0]]),(25,[[0]])]
noncomputable def nu:FT 155:=.of Tryz.f155 [] [] [(11,[[8],[]]),(15,[[8],[]])]
noncomputable def nv:FT 159:=.of Tryz.f159 [5014] [] [(4,[[5,1,1,5,15,3,16,16,17],[]])]
noncomputable def ny:FT 163:=.of Tryz.f163
noncomputable def Yt:FT 167:=.of Tryz.f167 [3]
noncomputable def nz:FT 171:=.of Tryz.f171
noncomputable def nC:FT 175:=.of Tryz.f175
noncomputable def nE:FT 179:=.of Tryz.f179 [4,2,55,51,50,44,43,37,35,30,23,16,9] [(50,2),(43,2)] [(8,[[7],[]]),(9,[[5],[]])]
noncomputable def nF:FT 183:=.of Tryz.f183
noncomputable def nG:FT 196:=.of Tryz.f196
noncomputable def nH:FT 201:=.of Tryz.f201
noncomputable def nI:FT 205:=.of Tryz.f205 [] [] [(5,[[6],[]])]
noncomputable def nJ:FT 209:=.of Tryz.f209
noncomputable def nK:FT 213:=.of Tryz.f213 [5,164,154,84,83,82,81,56,27,26,25] [(84,5),(83,5),(82,5),(81,5),(27,5),(26,5),(25,5)] [(6,[[0]]),(18,[[0]])]
noncomputable def nL:FT 217:=.of Tryz.f217
noncomputable def Yu:FT 222:=.of Tryz.f222
noncomputable def nM:FT 226:=.of Tryz.f226
noncomputable def nN:FT 230:=.of Tryz.f230 [] [] [(1,[[9,3,0,3,6,2,9,9,10,2,12,12,13,2,15,15,16],[]])]
noncomputable def nO:FT 234:=.of Tryz.f234 [] [] [(13,[[0]])]
noncomputable def nP:FT 238:=.of Tryz.f238
noncomputable def nQ:FT 250:=.of Tryz.f250
noncomputable def nR:FT 254:=.of Tryz.f254 [3]
noncomputable def Yv:FT 258:=.of Tryz.f258 [2]
noncomputable def nS:FT 263:=.of Tryz.f263
noncomputable def nT:FT 267:=.of Tryz.f267
noncomputable def nU:FT 271:=.of Tryz.f271
noncomputable def nV:FT 283:=.of Tryz.f283 [6]
noncomputable def nW:FT 287:=.of Tryz.f287 [13,6,142,133,130] [] [(1,[[0]])]
noncomputable def nX:FT 300:=.of Tryz.f300
noncomputable def nY:FT 304:=.of Tryz.f304 [4]
noncomputable def nZ:FT 308:=.of Tryz.f308
noncomputable def n0:FT 314:=.of Tryz.f314
noncomputable def n8:FT 321:=.of Tryz.f321
noncomputable def oa:FT 325:=.of Tryz.f325 [6]
noncomputable def oe:FT 329:=.of Tryz.f329
noncomputable def TH:FT 334:=.of Tryz.f334
noncomputable def oh:FT 338:=.of Tryz.f338
noncomputable def oj:FT 342:=.of Tryz.f342
noncomputable def ol:FT 347:=.of Tryz.f347 [2,1,10,8,3]
noncomputable def om:FT 351:=.of Tryz.f351
noncomputable def ot:FT 355:=.of Tryz.f355 [2]
noncomputable def ou:FT 359:=.of Tryz.f359 [] [] [(4,[[0]]),(5,[[0]])]
noncomputable def ow:FT 364:=.of Tryz.f364 [4,27] [] [(6,[[11],[]])]
end Go.Proofs.YtojgbkiejjingaaGreatDoor
