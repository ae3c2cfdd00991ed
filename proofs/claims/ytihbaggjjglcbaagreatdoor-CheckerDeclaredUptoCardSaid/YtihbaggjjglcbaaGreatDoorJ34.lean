/-
  What the laws of this seat share, part 34: no statement of its own.
-/
import Derived.Test.YtihbaggjjglcbaaGreatDoorJ33
import Derived.Test.YtihbaggjjglcbaaGreatDoorProg
set_option linter.unusedVariables false
set_option linter.unusedSimpArgs false

section
set_option maxRecDepth 100000
set_option linter.unusedVariables false
set_option linter.unusedSimpArgs false
namespace Go.Proofs.YtihbaggjjglcbaaGreatDoor
open Go Go.Dl Go.As Go.Proofs
/-- The package's variables. -/
def names0 : List (List UInt8) := [[99, 111, 117, 110, 116], [115, 117, 109], [109, 101, 97, 110], [109, 105, 110], [109, 97, 120], [102, 105, 114, 115, 116], [108, 97, 115, 116], [100, 105, 115, 116, 105, 110, 99, 116], [113, 117, 97, 110, 116, 105, 108, 101], [100, 101, 99, 97, 121]]
def names1 : List (List UInt8) := [[45], [110, 111, 116], [110, 117, 108, 108]]
def names2 : List (List UInt8) := [[43], [45], [42], [47], [61, 61], [33, 61], [60], [60, 61], [97, 110, 100], [111, 114]]
def GLm (mx : Int) : List (Nat × List I) := [(5, [.int .i64 mx]), (0, [.sl (names0.map fun s => [.str s])]), (1, [.sl (names1.map fun s => [.str s])]), (2, [.sl (names2.map fun s => [.str s])])]
variable {mx : Int}
theorem GLe : getG (GLm mx) 0 = [.sl (names0.map fun s => [.str s])] ∧ getG (GLm mx) 1 = [.sl (names1.map fun s => [.str s])] ∧ getG (GLm mx) 2 = [.sl (names2.map fun s => [.str s])] := ⟨rfl, rfl, rfl⟩
def R3 : Nat → List GI
| 0 => [⟨none, .box 4 (.t 0)⟩,
  ⟨none, .box 6 (.t 2)⟩,
  ⟨none, .box 7 (.t 3)⟩,
  ⟨none, .mov 8 (.c (.bool false))⟩]
| 1 => [⟨none, .call (some 21) 8 []⟩,
  ⟨none, .mov 9 (.t 21)⟩]
| 2 => [⟨none, .load 23 (.t 4) 4 true⟩,
  ⟨none, .mov 24 (.t 1)⟩,
  ⟨none, .load 25 (.t 6) 12 true⟩,
  ⟨none, .call (some 26) 9 [(.t 23), (.t 24), (.t 25)]⟩,
  ⟨none, .mov 22 (.t 26)⟩,
  ⟨none, .ext 27 (.t 22) 0⟩,
  ⟨none, .ext 28 (.t 22) 1⟩,
  ⟨none, .alloc 10 [(.int .i64 0), (.sl []), (.str [])]⟩,
  ⟨none, .stfrz (.t 10) (.t 27) 3⟩,
  ⟨none, .mov 11 (.t 28)⟩]
| 3 => [⟨none, .load 30 (.t 4) 4 true⟩,
  ⟨none, .mov 31 (.t 1)⟩,
  ⟨none, .load 32 (.t 7) 12 true⟩,
  ⟨none, .call (some 33) 9 [(.t 30), (.t 31), (.t 32)]⟩,
  ⟨none, .mov 29 (.t 33)⟩,
  ⟨none, .ext 34 (.t 29) 0⟩,
  ⟨none, .ext 35 (.t 29) 1⟩,
  ⟨none, .alloc 12 [(.int .i64 0), (.sl []), (.str [])]⟩,
  ⟨none, .stfrz (.t 12) (.t 34) 3⟩,
  ⟨none, .mov 13 (.t 35)⟩]
| 4 => [⟨none, .mov 36 (.t 11)⟩,
  ⟨none, .bin 37 .neq (.t 36) (.c (.int .i64 0))⟩,
  ⟨none, .mov 38 (.t 37)⟩,
  ⟨some (38, false), .mov 39 (.t 13)⟩,
  ⟨some (38, false), .bin 40 .neq (.t 39) (.c (.int .i64 0))⟩,
  ⟨none, .pick 41 (.t 38) (.c (.bool true)) (.t 40)⟩,
  ⟨none, .mov 42 (.t 41)⟩,
  ⟨some (42, false), .load 43 (.t 10) 3 true⟩,
  ⟨some (42, false), .call (some 44) 10 [(.t 43)]⟩,
  ⟨some (42, false), .un 45 .not (.t 44)⟩,
  ⟨none, .pick 46 (.t 42) (.c (.bool true)) (.t 45)⟩,
  ⟨none, .mov 47 (.t 46)⟩,
  ⟨some (47, false), .load 48 (.t 12) 3 true⟩,
  ⟨some (47, false), .call (some 49) 10 [(.t 48)]⟩,
  ⟨some (47, false), .un 50 .not (.t 49)⟩,
  ⟨none, .pick 51 (.t 47) (.c (.bool true)) (.t 50)⟩,
  ⟨none, .mov 52 (.t 51)⟩,
  ⟨some (52, false), .load 53 (.t 6) 12 true⟩,
  ⟨some (52, false), .load 54 (.t 7) 12 true⟩,
  ⟨some (52, false), .call (some 55) 12 [(.c (.str [42])), (.t 53), (.t 54)]⟩,
  ⟨some (52, false), .call (some 56) 11 [(.t 55)]⟩,
  ⟨some (52, false), .bin 57 .neq (.t 56) (.c (.int .i64 0))⟩,
  ⟨none, .pick 58 (.t 52) (.c (.bool true)) (.t 57)⟩]
| 5 => [⟨none, .mov 59 (.t 9)⟩,
  ⟨none, .mov 8 (.t 59)⟩]
| 6 => [⟨none, .mov 14 (.c (.int .i64 3))⟩]
| 7 => [⟨none, .fa 60 (.t 10) 0⟩,
  ⟨none, .load 61 (.t 60) 1 false⟩,
  ⟨none, .bin 62 .eql (.t 61) (.c (.int .i64 2))⟩,
  ⟨none, .mov 63 (.t 62)⟩,
  ⟨some (63, true), .fa 64 (.t 12) 0⟩,
  ⟨some (63, true), .load 65 (.t 64) 1 false⟩,
  ⟨some (63, true), .bin 66 .eql (.t 65) (.c (.int .i64 2))⟩,
  ⟨none, .pick 67 (.t 63) (.t 66) (.c (.bool false))⟩]
| 8 => [⟨none, .mov 14 (.c (.int .i64 2))⟩]
| 9 => [⟨none, .fa 69 (.t 10) 1⟩,
  ⟨none, .load 70 (.t 69) 1 false⟩,
  ⟨none, .fa 71 (.t 12) 1⟩,
  ⟨none, .load 72 (.t 71) 1 false⟩,
  ⟨none, .call (some 73) 13 [(.t 70), (.t 72)]⟩,
  ⟨none, .mov 68 (.t 73)⟩,
  ⟨none, .ext 74 (.t 68) 0⟩,
  ⟨none, .ext 75 (.t 68) 1⟩,
  ⟨none, .mov 15 (.t 74)⟩,
  ⟨none, .mov 16 (.t 75)⟩]
| 10 => [⟨none, .load 77 (.t 4) 4 true⟩,
  ⟨none, .mov 78 (.t 1)⟩,
  ⟨none, .load 79 (.t 6) 12 true⟩,
  ⟨none, .load 80 (.t 7) 12 true⟩,
  ⟨none, .call (some 81) 12 [(.c (.str [42])), (.t 79), (.t 80)]⟩,
  ⟨none, .call (some 82) 9 [(.t 77), (.t 78), (.t 81)]⟩,
  ⟨none, .mov 76 (.t 82)⟩,
  ⟨none, .ext 83 (.t 76) 0⟩,
  ⟨none, .ext 84 (.t 76) 1⟩,
  ⟨none, .alloc 17 [(.int .i64 0), (.sl []), (.str [])]⟩,
  ⟨none, .store (.t 17) (.t 83) 3⟩,
  ⟨none, .mov 18 (.t 84)⟩]
| 11 => [⟨none, .mov 85 (.t 16)⟩,
  ⟨none, .bin 86 .eql (.t 85) (.c (.int .i64 0))⟩,
  ⟨none, .mov 87 (.t 18)⟩,
  ⟨none, .bin 88 .eql (.t 87) (.c (.int .i64 0))⟩,
  ⟨none, .eqb 89 true (.t 86) (.t 88)⟩,
  ⟨none, .mov 90 (.t 89)⟩,
  ⟨some (90, false), .mov 91 (.t 18)⟩,
  ⟨some (90, false), .bin 92 .neq (.t 91) (.c (.int .i64 0))⟩,
  ⟨some (90, false), .mov 93 (.t 92)⟩,
  ⟨some (93, true), .mov 94 (.t 18)⟩,
  ⟨some (93, true), .bin 95 .neq (.t 94) (.c (.int .i64 70))⟩,
  ⟨some (90, false), .pick 96 (.t 93) (.t 95) (.c (.bool false))⟩,
  ⟨none, .pick 97 (.t 90) (.c (.bool true)) (.t 96)⟩,
  ⟨none, .mov 98 (.t 97)⟩,
  ⟨some (98, false), .mov 99 (.t 18)⟩,
  ⟨some (98, false), .bin 100 .eql (.t 99) (.c (.int .i64 0))⟩,
  ⟨some (98, false), .mov 101 (.t 100)⟩,
  ⟨some (101, true), .load 102 (.t 17) 3 true⟩,
  ⟨some (101, true), .mov 103 (.t 14)⟩,
  ⟨some (101, true), .mov 104 (.t 15)⟩,
  ⟨some (101, true), .build 105 [(.int .i64 0), (.sl []), (.str [])] [(0, 1, (.t 103)), (1, 1, (.t 104))]⟩,
  ⟨some (101, true), .call (some 106) 14 [(.t 102), (.t 105)]⟩,
  ⟨some (101, true), .un 107 .not (.t 106)⟩,
  ⟨some (98, false), .pick 108 (.t 101) (.t 107) (.c (.bool false))⟩,
  ⟨none, .pick 109 (.t 98) (.c (.bool true)) (.t 108)⟩]
| 12 => [⟨none, .mov 8 (.c (.bool false))⟩]
| 13 => [⟨none, .fa 111 (.t 10) 1⟩,
  ⟨none, .load 112 (.t 111) 1 false⟩,
  ⟨none, .fa 113 (.t 12) 1⟩,
  ⟨none, .load 114 (.t 113) 1 false⟩,
  ⟨none, .call (some 115) 15 [(.t 112), (.t 114)]⟩,
  ⟨none, .mov 110 (.t 115)⟩,
  ⟨none, .ext 116 (.t 110) 0⟩,
  ⟨none, .ext 117 (.t 110) 1⟩,
  ⟨none, .mov 15 (.t 116)⟩,
  ⟨none, .mov 16 (.t 117)⟩]
| 14 => [⟨none, .load 119 (.t 4) 4 true⟩,
  ⟨none, .mov 120 (.t 1)⟩,
  ⟨none, .load 121 (.t 6) 12 true⟩,
  ⟨none, .load 122 (.t 7) 12 true⟩,
  ⟨none, .call (some 123) 12 [(.c (.str [47])), (.t 121), (.t 122)]⟩,
  ⟨none, .call (some 124) 9 [(.t 119), (.t 120), (.t 123)]⟩,
  ⟨none, .mov 118 (.t 124)⟩,
  ⟨none, .ext 125 (.t 118) 0⟩,
  ⟨none, .ext 126 (.t 118) 1⟩,
  ⟨none, .store (.t 17) (.t 125) 3⟩,
  ⟨none, .mov 18 (.t 126)⟩]
| 15 => [⟨none, .mov 127 (.t 16)⟩,
  ⟨none, .bin 128 .eql (.t 127) (.c (.int .i64 0))⟩,
  ⟨none, .mov 129 (.t 18)⟩,
  ⟨none, .bin 130 .eql (.t 129) (.c (.int .i64 0))⟩,
  ⟨none, .eqb 131 true (.t 128) (.t 130)⟩,
  ⟨none, .mov 132 (.t 131)⟩,
  ⟨some (132, false), .mov 133 (.t 18)⟩,
  ⟨some (132, false), .bin 134 .neq (.t 133) (.c (.int .i64 0))⟩,
  ⟨some (132, false), .mov 135 (.t 134)⟩,
  ⟨some (135, true), .mov 136 (.t 18)⟩,
  ⟨some (135, true), .bin 137 .neq (.t 136) (.c (.int .i64 70))⟩,
  ⟨some (132, false), .pick 138 (.t 135) (.t 137) (.c (.bool false))⟩,
  ⟨none, .pick 139 (.t 132) (.c (.bool true)) (.t 138)⟩,
  ⟨none, .mov 140 (.t 139)⟩,
  ⟨some (140, false), .mov 141 (.t 18)⟩,
  ⟨some (140, false), .bin 142 .eql (.t 141) (.c (.int .i64 0))⟩,
  ⟨some (140, false), .mov 143 (.t 142)⟩,
  ⟨some (143, true), .load 144 (.t 17) 3 true⟩,
  ⟨some (143, true), .mov 145 (.t 15)⟩,
  ⟨some (143, true), .build 146 [(.int .i64 0), (.sl []), (.str [])] [(0, 1, (.c (.int .i64 3))), (1, 1, (.t 145))]⟩,
  ⟨some (143, true), .call (some 147) 14 [(.t 144), (.t 146)]⟩,
  ⟨some (143, true), .un 148 .not (.t 147)⟩,
  ⟨some (140, false), .pick 149 (.t 143) (.t 148) (.c (.bool false))⟩,
  ⟨none, .pick 150 (.t 140) (.c (.bool true)) (.t 149)⟩]
| 16 => [⟨none, .mov 8 (.c (.bool false))⟩]
| 17 => [⟨none, .load 152 (.t 4) 4 true⟩,
  ⟨none, .mov 153 (.t 1)⟩,
  ⟨none, .load 154 (.t 6) 12 true⟩,
  ⟨none, .load 155 (.t 7) 12 true⟩,
  ⟨none, .call (some 156) 12 [(.c (.str [45])), (.t 154), (.t 155)]⟩,
  ⟨none, .call (some 157) 9 [(.t 152), (.t 153), (.t 156)]⟩,
  ⟨none, .mov 151 (.t 157)⟩,
  ⟨none, .ext 158 (.t 151) 0⟩,
  ⟨none, .ext 159 (.t 151) 1⟩,
  ⟨none, .store (.t 17) (.t 158) 3⟩,
  ⟨none, .mov 18 (.t 159)⟩]
| 18 => [⟨none, .load 161 (.t 4) 4 true⟩,
  ⟨none, .mov 162 (.t 1)⟩,
  ⟨none, .load 163 (.t 6) 12 true⟩,
  ⟨none, .load 164 (.t 7) 12 true⟩,
  ⟨none, .call (some 165) 12 [(.c (.str [60])), (.t 163), (.t 164)]⟩,
  ⟨none, .call (some 166) 9 [(.t 161), (.t 162), (.t 165)]⟩,
  ⟨none, .mov 160 (.t 166)⟩,
  ⟨none, .ext 167 (.t 160) 0⟩,
  ⟨none, .ext 168 (.t 160) 1⟩,
  ⟨none, .alloc 19 [(.int .i64 0), (.sl []), (.str [])]⟩,
  ⟨none, .store (.t 19) (.t 167) 3⟩,
  ⟨none, .mov 20 (.t 168)⟩]
| 19 => [⟨none, .fa 169 (.t 10) 1⟩,
  ⟨none, .load 170 (.t 169) 1 false⟩,
  ⟨none, .fa 171 (.t 12) 1⟩,
  ⟨none, .load 172 (.t 171) 1 false⟩,
  ⟨none, .call (some 173) 16 [(.t 170), (.t 172)]⟩,
  ⟨none, .un 174 .not (.t 173)⟩]
| 20 => [⟨none, .mov 175 (.t 9)⟩,
  ⟨none, .mov 176 (.t 175)⟩,
  ⟨some (176, true), .mov 177 (.t 18)⟩,
  ⟨some (176, true), .bin 178 .eql (.t 177) (.c (.int .i64 70))⟩,
  ⟨none, .pick 179 (.t 176) (.t 178) (.c (.bool false))⟩,
  ⟨none, .mov 180 (.t 179)⟩,
  ⟨some (180, true), .mov 181 (.t 20)⟩,
  ⟨some (180, true), .bin 182 .eql (.t 181) (.c (.int .i64 70))⟩,
  ⟨none, .pick 183 (.t 180) (.t 182) (.c (.bool false))⟩,
  ⟨none, .mov 8 (.t 183)⟩]
| 21 => [⟨none, .mov 184 (.t 9)⟩,
  ⟨none, .mov 185 (.t 184)⟩,
  ⟨some (185, true), .mov 186 (.t 18)⟩,
  ⟨some (185, true), .bin 187 .eql (.t 186) (.c (.int .i64 0))⟩,
  ⟨none, .pick 188 (.t 185) (.t 187) (.c (.bool false))⟩,
  ⟨none, .mov 189 (.t 188)⟩,
  ⟨some (189, true), .mov 190 (.t 20)⟩,
  ⟨some (189, true), .bin 191 .eql (.t 190) (.c (.int .i64 0))⟩,
  ⟨none, .pick 192 (.t 189) (.t 191) (.c (.bool false))⟩,
  ⟨none, .mov 193 (.t 192)⟩,
  ⟨some (193, true), .load 194 (.t 17) 3 true⟩,
  ⟨some (193, true), .mov 195 (.t 14)⟩,
  ⟨some (193, true), .fa 196 (.t 10) 1⟩,
  ⟨some (193, true), .load 197 (.t 196) 1 false⟩,
  ⟨some (193, true), .build 198 [(.int .i64 0), (.sl []), (.str [])] [(0, 1, (.t 195)), (1, 1, (.t 197))]⟩,
  ⟨some (193, true), .call (some 199) 14 [(.t 194), (.t 198)]⟩,
  ⟨none, .pick 200 (.t 193) (.t 199) (.c (.bool false))⟩,
  ⟨none, .mov 201 (.t 200)⟩,
  ⟨some (201, true), .fa 202 (.t 19) 0⟩,
  ⟨some (201, true), .load 203 (.t 202) 1 false⟩,
  ⟨some (201, true), .bin 204 .eql (.t 203) (.c (.int .i64 1))⟩,
  ⟨none, .pick 205 (.t 201) (.t 204) (.c (.bool false))⟩,
  ⟨none, .mov 8 (.t 205)⟩]
| _ => []
def c3 : J := (.sq [1, 4, 6, 7] (.rg R3 0) (.sq [1, 4, 6, 7, 9] (.rg R3 1) (.sq [1, 4, 6, 7, 9, 10, 11] (.rg R3 2) (.sq [1, 4, 6, 7, 9, 10, 11, 12, 13] (.rg R3 3) (.ct [1, 4, 6, 7, 9, 10, 12] (.sq [1, 4, 6, 7, 9, 10, 12, 58] (.rg R3 4) (.cond (.t 58) (.sq [8] (.rg R3 5) .ret) .skip)) (.sq [1, 4, 6, 7, 9, 10, 12, 14] (.rg R3 6) (.ct [1, 4, 6, 7, 9, 10, 12, 14] (.sq [1, 4, 6, 7, 9, 10, 12, 14, 67] (.rg R3 7) (.cond (.t 67) (.rg R3 8) .skip)) (.sq [1, 4, 6, 7, 9, 10, 12, 14, 15, 16] (.rg R3 9) (.sq [1, 4, 6, 7, 9, 10, 12, 14, 15, 16, 17, 18] (.dr [17] [(.t 1)] R3 10 []) (.ct [1, 4, 6, 7, 9, 10, 12, 14, 17] (.sq [1, 4, 6, 7, 9, 10, 12, 14, 17, 109] (.rg R3 11) (.cond (.t 109) (.sq [8] (.rg R3 12) .ret) .skip)) (.sq [1, 4, 6, 7, 9, 10, 12, 14, 15, 16, 17] (.rg R3 13) (.sq [1, 4, 6, 7, 9, 10, 12, 14, 15, 16, 17, 18] (.dr [17] [(.t 1)] R3 14 []) (.ct [1, 4, 6, 7, 9, 10, 12, 14, 17] (.sq [1, 4, 6, 7, 9, 10, 12, 14, 17, 150] (.rg R3 15) (.cond (.t 150) (.sq [8] (.rg R3 16) .ret) .skip)) (.sq [1, 4, 6, 7, 9, 10, 12, 14, 17, 18] (.dr [17] [(.t 1)] R3 17 []) (.sq [9, 10, 12, 14, 17, 18, 19, 20] (.dr [19] [(.t 1)] R3 18 [19]) (.ct [9, 10, 14, 17, 18, 19, 20] (.sq [9, 10, 14, 17, 18, 19, 20, 174] (.rg R3 19) (.cond (.t 174) (.sq [8] (.rg R3 20) .ret) .skip)) (.sq [8] (.rg R3 21) .ret)))))))))))))))))
theorem comp3 : Tryz.f3.body.bind (comp Tryz.prog (GLm mx) 206 [17] []) = some c3.ir := by kernel_rfl
theorem rv3 : Tryz.f3.results.toList.mapM (compRV Tryz.prog) = some [.tmp 8] := by kernel_rfl

def R4 : Nat → List GI
| 0 => [⟨none, .box 3 (.t 0)⟩,
  ⟨none, .mov 6 (.c (.bool false))⟩]
| 1 => [⟨none, .call (some 13) 8 []⟩,
  ⟨none, .mov 7 (.t 13)⟩]
| 2 => [⟨none, .load 14 (.t 3) 3 true⟩,
  ⟨none, .mov 15 (.t 1)⟩,
  ⟨none, .mov 16 (.t 2)⟩,
  ⟨none, .build 17 [(.int .i64 0), (.str []), (.str []), (.str []), (.int .i64 0), (.int .i64 0), (.str []), (.sl []), (.int .i64 0), (.int .i64 0), (.int .i64 0), (.sl [])] [(0, 1, (.c (.int .i64 1))), (4, 3, (.t 14)), (7, 1, (.t 15)), (2, 1, (.t 16))]⟩,
  ⟨none, .alloc 8 [(.int .i64 0), (.str []), (.str []), (.str []), (.int .i64 0), (.int .i64 0), (.str []), (.sl []), (.int .i64 0), (.int .i64 0), (.int .i64 0), (.sl [])]⟩,
  ⟨none, .stfrz (.t 8) (.t 17) 12⟩]
| 3 => [⟨none, .build 19 [(.sl []), (.sl []), (.sl []), (.sl [])] []⟩,
  ⟨none, .load 20 (.t 8) 12 true⟩,
  ⟨none, .call (some 21) 9 [(.t 19), (.c (.str [117, 115, 101, 114])), (.t 20)]⟩,
  ⟨none, .mov 18 (.t 21)⟩,
  ⟨none, .ext 22 (.t 18) 0⟩,
  ⟨none, .ext 23 (.t 18) 1⟩,
  ⟨none, .alloc 9 [(.int .i64 0), (.sl []), (.str [])]⟩,
  ⟨none, .stfrz (.t 9) (.t 22) 3⟩,
  ⟨none, .mov 10 (.t 23)⟩]
| 4 => [⟨none, .load 24 (.t 3) 3 true⟩,
  ⟨none, .call (some 25) 17 [(.t 24)]⟩,
  ⟨none, .bin 26 .eql (.t 25) (.c (.int .i64 0))⟩,
  ⟨none, .mov 27 (.t 26)⟩,
  ⟨some (27, true), .fa 28 (.t 3) 0⟩,
  ⟨some (27, true), .load 29 (.t 28) 1 false⟩,
  ⟨some (27, true), .bin 30 .neq (.t 29) (.c (.int .i64 0))⟩,
  ⟨none, .pick 31 (.t 27) (.t 30) (.c (.bool false))⟩,
  ⟨none, .mov 32 (.t 31)⟩,
  ⟨some (32, true), .fa 33 (.t 3) 1⟩,
  ⟨some (32, true), .load 34 (.t 33) 1 false⟩,
  ⟨some (32, true), .bin 35 .geq (.t 34) (.c (.int .i64 0))⟩,
  ⟨none, .pick 36 (.t 32) (.t 35) (.c (.bool false))⟩,
  ⟨none, .mov 11 (.t 36)⟩]
| 5 => [⟨none, .fa 37 (.t 3) 0⟩,
  ⟨none, .load 38 (.t 37) 1 false⟩]
| 6 => [⟨none, .bin 50 .eql (.t 38) (.c (.int .i64 2))⟩,
  ⟨none, .mov 49 (.t 50)⟩]
| 7 => [⟨none, .bin 51 .eql (.t 38) (.c (.int .i64 3))⟩,
  ⟨none, .mov 49 (.t 51)⟩]
| 8 => [⟨none, .mov 52 (.t 11)⟩,
  ⟨none, .mov 53 (.t 52)⟩,
  ⟨some (53, true), .mov 54 (.t 2)⟩,
  ⟨some (53, true), .bin 55 .eql (.t 54) (.c (.str []))⟩,
  ⟨none, .pick 56 (.t 53) (.t 55) (.c (.bool false))⟩,
  ⟨none, .mov 57 (.t 56)⟩,
  ⟨some (57, true), .mov 58 (.t 1)⟩,
  ⟨some (57, true), .call (some 59) 18 [(.t 58)]⟩,
  ⟨some (57, true), .bin 60 .eql (.t 59) (.c (.int .i64 0))⟩,
  ⟨none, .pick 61 (.t 57) (.t 60) (.c (.bool false))⟩,
  ⟨none, .mov 11 (.t 61)⟩]
| 9 => [⟨none, .mov 12 (.c (.int .i64 0))⟩]
| 10 => [⟨none, .mov 62 (.t 12)⟩,
  ⟨none, .mov 63 (.t 1)⟩,
  ⟨none, .lenl 64 (.t 63)⟩,
  ⟨none, .bin 65 .lss (.t 62) (.t 64)⟩]
| 11 => [⟨none, .mov 68 (.t 11)⟩,
  ⟨none, .mov 69 (.t 68)⟩,
  ⟨some (69, true), .mov 70 (.t 1)⟩,
  ⟨some (69, true), .mov 71 (.t 12)⟩,
  ⟨some (69, true), .ia 72 (.t 70) (.t 71) 2⟩,
  ⟨some (69, true), .fa 73 (.t 72) 0⟩,
  ⟨some (69, true), .load 74 (.t 73) 1 false⟩,
  ⟨some (69, true), .call (some 75) 19 [(.t 74)]⟩,
  ⟨none, .pick 76 (.t 69) (.t 75) (.c (.bool false))⟩,
  ⟨none, .mov 11 (.t 76)⟩]
| 12 => [⟨none, .mov 66 (.t 12)⟩,
  ⟨none, .bin 67 .add (.t 66) (.c (.int .i64 1))⟩,
  ⟨none, .mov 12 (.t 67)⟩]
| 13 => [⟨none, .bin 78 .eql (.t 38) (.c (.int .i64 5))⟩,
  ⟨none, .mov 77 (.t 78)⟩]
| 14 => [⟨none, .mov 79 (.t 11)⟩,
  ⟨none, .mov 80 (.t 79)⟩,
  ⟨some (80, true), .mov 81 (.t 1)⟩,
  ⟨some (80, true), .lenl 82 (.t 81)⟩,
  ⟨some (80, true), .bin 83 .eql (.t 82) (.c (.int .i64 0))⟩,
  ⟨none, .pick 84 (.t 80) (.t 83) (.c (.bool false))⟩,
  ⟨none, .mov 85 (.t 84)⟩,
  ⟨some (85, true), .mov 86 (.t 2)⟩,
  ⟨some (85, true), .call (some 87) 19 [(.t 86)]⟩,
  ⟨none, .pick 88 (.t 85) (.t 87) (.c (.bool false))⟩,
  ⟨none, .mov 11 (.t 88)⟩]
| 15 => [⟨none, .mov 39 (.t 11)⟩,
  ⟨none, .mov 40 (.t 39)⟩,
  ⟨some (40, true), .mov 41 (.t 1)⟩,
  ⟨some (40, true), .lenl 42 (.t 41)⟩,
  ⟨some (40, true), .bin 43 .eql (.t 42) (.c (.int .i64 0))⟩,
  ⟨none, .pick 44 (.t 40) (.t 43) (.c (.bool false))⟩,
  ⟨none, .mov 45 (.t 44)⟩,
  ⟨some (45, true), .mov 46 (.t 2)⟩,
  ⟨some (45, true), .bin 47 .eql (.t 46) (.c (.str []))⟩,
  ⟨none, .pick 48 (.t 45) (.t 47) (.c (.bool false))⟩,
  ⟨none, .mov 11 (.t 48)⟩]
| 16 => [⟨none, .mov 89 (.t 11)⟩,
  ⟨none, .un 90 .not (.t 89)⟩]
| 17 => [⟨none, .mov 91 (.t 7)⟩,
  ⟨none, .mov 92 (.t 91)⟩,
  ⟨some (92, true), .mov 93 (.t 10)⟩,
  ⟨some (92, true), .bin 94 .eql (.t 93) (.c (.int .i64 3))⟩,
  ⟨none, .pick 95 (.t 92) (.t 94) (.c (.bool false))⟩,
  ⟨none, .mov 6 (.t 95)⟩]
| 18 => [⟨none, .mov 96 (.t 7)⟩,
  ⟨none, .mov 97 (.t 96)⟩,
  ⟨some (97, true), .mov 98 (.t 10)⟩,
  ⟨some (97, true), .bin 99 .eql (.t 98) (.c (.int .i64 0))⟩,
  ⟨none, .pick 100 (.t 97) (.t 99) (.c (.bool false))⟩,
  ⟨none, .mov 101 (.t 100)⟩,
  ⟨some (101, true), .load 102 (.t 9) 3 true⟩,
  ⟨some (101, true), .fa 103 (.t 3) 0⟩,
  ⟨some (101, true), .load 104 (.t 103) 1 false⟩,
  ⟨some (101, true), .mov 105 (.t 1)⟩,
  ⟨some (101, true), .mov 106 (.t 2)⟩,
  ⟨some (101, true), .build 107 [(.int .i64 0), (.sl []), (.str [])] [(0, 1, (.t 104)), (1, 1, (.t 105)), (2, 1, (.t 106))]⟩,
  ⟨some (101, true), .call (some 108) 14 [(.t 102), (.t 107)]⟩,
  ⟨none, .pick 109 (.t 101) (.t 108) (.c (.bool false))⟩,
  ⟨none, .mov 110 (.t 109)⟩,
  ⟨some (110, true), .load 111 (.t 9) 3 true⟩,
  ⟨some (110, true), .call (some 112) 20 [(.t 111)]⟩,
  ⟨some (110, true), .bin 113 .eql (.t 112) (.c (.int .i64 0))⟩,
  ⟨none, .pick 114 (.t 110) (.t 113) (.c (.bool false))⟩,
  ⟨none, .mov 115 (.t 114)⟩,
  ⟨some (115, true), .load 116 (.t 3) 3 true⟩,
  ⟨some (115, true), .load 117 (.t 9) 3 true⟩,
  ⟨some (115, true), .call (some 118) 21 [(.t 116), (.t 117)]⟩,
  ⟨none, .pick 119 (.t 115) (.t 118) (.c (.bool false))⟩,
  ⟨none, .mov 6 (.t 119)⟩]
| _ => []
def L4_0 : Nat → J
| _ => (.ct [1, 2, 3, 7, 9, 10, 11, 12] (.sq [1, 2, 3, 7, 9, 10, 11, 12, 65] (.rg R4 10) (.cond (.t 65) .skip (.exit 1))) (.sq [1, 2, 3, 7, 9, 10, 11, 12] (.block 2 (.rg R4 11)) (.rg R4 12)))
def c4 : J := (.sq [1, 2, 3] (.rg R4 0) (.sq [1, 2, 3, 7] (.rg R4 1) (.sq [1, 2, 3, 7, 8] (.rg R4 2) (.sq [1, 2, 3, 7, 9, 10] (.rg R4 3) (.sq [1, 2, 3, 7, 9, 10, 11] (.rg R4 4) (.ct [1, 2, 3, 7, 9, 10, 11] (.sq [1, 2, 3, 7, 9, 10, 11, 38] (.rg R4 5) (.block 0 (.ct [1, 2, 3, 7, 9, 10, 11, 38, 49] (.sq [1, 2, 3, 7, 9, 10, 11, 38, 49] (.rg R4 6) (.cond (.t 49) .skip (.rg R4 7))) (.cond (.t 49) (.sq [1, 2, 3, 7, 9, 10, 11] (.rg R4 8) (.sq [1, 2, 3, 7, 9, 10, 11, 12] (.rg R4 9) (.block 1 (.lp L4_0 0)))) (.sq [1, 2, 3, 7, 9, 10, 11, 77] (.rg R4 13) (.cond (.t 77) (.rg R4 14) (.rg R4 15))))))) (.ct [1, 2, 3, 7, 9, 10] (.sq [1, 2, 3, 7, 9, 10, 90] (.rg R4 16) (.cond (.t 90) (.sq [6] (.rg R4 17) .ret) .skip)) (.sq [6] (.rg R4 18) .ret))))))))
theorem comp4 : Tryz.f4.body.bind (comp Tryz.prog (GLm mx) 120 [] []) = some c4.ir := by kernel_rfl
theorem rv4 : Tryz.f4.results.toList.mapM (compRV Tryz.prog) = some [.tmp 6] := by kernel_rfl

def R5 : Nat → List GI
| 0 => [⟨none, .box 5 (.t 0)⟩,
  ⟨none, .box 7 (.t 2)⟩,
  ⟨none, .mov 10 (.c (.bool false))⟩]
| 1 => [⟨none, .call (some 18) 8 []⟩,
  ⟨none, .mov 11 (.t 18)⟩]
| 2 => [⟨none, .load 20 (.t 5) 4 true⟩,
  ⟨none, .mov 21 (.t 1)⟩,
  ⟨none, .load 22 (.t 7) 12 true⟩,
  ⟨none, .call (some 23) 9 [(.t 20), (.t 21), (.t 22)]⟩,
  ⟨none, .mov 19 (.t 23)⟩,
  ⟨none, .ext 24 (.t 19) 0⟩,
  ⟨none, .ext 25 (.t 19) 1⟩,
  ⟨none, .alloc 12 [(.int .i64 0), (.sl []), (.str [])]⟩,
  ⟨none, .stfrz (.t 12) (.t 24) 3⟩,
  ⟨none, .mov 13 (.t 25)⟩]
| 3 => [⟨none, .mov 26 (.t 13)⟩,
  ⟨none, .bin 27 .neq (.t 26) (.c (.int .i64 0))⟩]
| 4 => [⟨none, .mov 28 (.t 11)⟩,
  ⟨none, .mov 10 (.t 28)⟩]
| 5 => [⟨none, .load 29 (.t 5) 4 true⟩,
  ⟨none, .alloc 14 [(.sl []), (.sl []), (.sl []), (.sl [])]⟩,
  ⟨none, .store (.t 14) (.t 29) 4⟩]
| 6 => [⟨none, .bsl 30 64 4 []⟩,
  ⟨none, .fa 31 (.t 5) 0⟩,
  ⟨none, .load 32 (.t 31) 1 false⟩,
  ⟨none, .app 33 64 4 64 (.t 30) (.t 32)⟩,
  ⟨none, .mov 34 (.t 3)⟩,
  ⟨none, .app 35 64 4 64 (.t 33) (.t 34)⟩,
  ⟨none, .fa 36 (.t 14) 0⟩,
  ⟨none, .store (.t 36) (.t 35) 1⟩]
| 7 => [⟨none, .bsl 37 58 18 []⟩,
  ⟨none, .fa 38 (.t 5) 1⟩,
  ⟨none, .load 39 (.t 38) 1 false⟩,
  ⟨none, .app 40 58 18 248 (.t 37) (.t 39)⟩,
  ⟨none, .mov 41 (.t 4)⟩,
  ⟨none, .app 42 58 18 248 (.t 40) (.t 41)⟩,
  ⟨none, .fa 43 (.t 14) 1⟩,
  ⟨none, .store (.t 43) (.t 42) 1⟩]
| 8 => [⟨none, .load 45 (.t 14) 4 true⟩,
  ⟨none, .mov 46 (.t 1)⟩,
  ⟨none, .load 47 (.t 7) 12 true⟩,
  ⟨none, .call (some 48) 9 [(.t 45), (.t 46), (.t 47)]⟩,
  ⟨none, .mov 44 (.t 48)⟩,
  ⟨none, .ext 49 (.t 44) 0⟩,
  ⟨none, .ext 50 (.t 44) 1⟩,
  ⟨none, .alloc 15 [(.int .i64 0), (.sl []), (.str [])]⟩,
  ⟨none, .stfrz (.t 15) (.t 49) 3⟩,
  ⟨none, .mov 16 (.t 50)⟩]
| 9 => [⟨none, .mov 51 (.t 16)⟩,
  ⟨none, .bin 52 .neq (.t 51) (.c (.int .i64 0))⟩,
  ⟨none, .mov 53 (.t 52)⟩,
  ⟨some (53, false), .load 54 (.t 12) 3 true⟩,
  ⟨some (53, false), .load 55 (.t 15) 3 true⟩,
  ⟨some (53, false), .call (some 56) 14 [(.t 54), (.t 55)]⟩,
  ⟨some (53, false), .un 57 .not (.t 56)⟩,
  ⟨none, .pick 58 (.t 53) (.c (.bool true)) (.t 57)⟩]
| 10 => [⟨none, .mov 10 (.c (.bool false))⟩]
| 11 => [⟨none, .mov 17 (.c (.int .i64 0))⟩]
| 12 => [⟨none, .mov 59 (.t 17)⟩,
  ⟨none, .fa 60 (.t 5) 1⟩,
  ⟨none, .load 61 (.t 60) 1 false⟩,
  ⟨none, .lenl 62 (.t 61)⟩,
  ⟨none, .bin 63 .lss (.t 59) (.t 62)⟩]
| 13 => [⟨none, .load 66 (.t 5) 4 true⟩,
  ⟨none, .fa 67 (.t 5) 1⟩,
  ⟨none, .load 68 (.t 67) 1 false⟩,
  ⟨none, .mov 69 (.t 17)⟩,
  ⟨none, .ia 70 (.t 68) (.t 69) 18⟩,
  ⟨none, .load 71 (.t 70) 18 true⟩,
  ⟨none, .call (some 72) 22 [(.t 66), (.t 71)]⟩,
  ⟨none, .bin 73 .eql (.t 72) (.c (.int .i64 0))⟩,
  ⟨none, .mov 74 (.t 73)⟩,
  ⟨some (74, true), .load 75 (.t 14) 4 true⟩,
  ⟨some (74, true), .fa 76 (.t 5) 1⟩,
  ⟨some (74, true), .load 77 (.t 76) 1 false⟩,
  ⟨some (74, true), .mov 78 (.t 17)⟩,
  ⟨some (74, true), .ia 79 (.t 77) (.t 78) 18⟩,
  ⟨some (74, true), .load 80 (.t 79) 18 true⟩,
  ⟨some (74, true), .call (some 81) 22 [(.t 75), (.t 80)]⟩,
  ⟨some (74, true), .bin 82 .neq (.t 81) (.c (.int .i64 0))⟩,
  ⟨none, .pick 83 (.t 74) (.t 82) (.c (.bool false))⟩]
| 14 => [⟨none, .mov 10 (.c (.bool false))⟩]
| 15 => [⟨none, .mov 64 (.t 17)⟩,
  ⟨none, .bin 65 .add (.t 64) (.c (.int .i64 1))⟩,
  ⟨none, .mov 17 (.t 65)⟩]
| 16 => [⟨none, .mov 84 (.t 11)⟩,
  ⟨none, .mov 10 (.t 84)⟩]
| _ => []
def L5_0 : Nat → J
| _ => (.ct [5, 11, 14, 17] (.sq [5, 11, 14, 17, 63] (.rg R5 12) (.cond (.t 63) .skip (.exit 0))) (.ct [5, 11, 14, 17] (.block 1 (.sq [5, 11, 14, 17, 83] (.dr [] [] R5 13 []) (.cond (.t 83) (.sq [10] (.rg R5 14) .ret) .skip))) (.rg R5 15)))
def c5 : J := (.sq [1, 3, 4, 5, 7] (.rg R5 0) (.sq [1, 3, 4, 5, 7, 11] (.rg R5 1) (.sq [1, 3, 4, 5, 7, 11, 12, 13] (.rg R5 2) (.ct [1, 3, 4, 5, 7, 11, 12] (.sq [1, 3, 4, 5, 7, 11, 12, 27] (.rg R5 3) (.cond (.t 27) (.sq [10] (.rg R5 4) .ret) .skip)) (.sq [1, 3, 4, 5, 7, 11, 12, 14] (.rg R5 5) (.sq [1, 4, 5, 7, 11, 12, 14] (.rg R5 6) (.sq [1, 5, 7, 11, 12, 14] (.rg R5 7) (.sq [5, 11, 12, 14, 15, 16] (.rg R5 8) (.ct [5, 11, 14] (.sq [5, 11, 14, 58] (.rg R5 9) (.cond (.t 58) (.sq [10] (.rg R5 10) .ret) .skip)) (.sq [11] (.sq [5, 11, 14, 17] (.rg R5 11) (.block 0 (.lp L5_0 0))) (.sq [10] (.rg R5 16) .ret)))))))))))
theorem comp5 : Tryz.f5.body.bind (comp Tryz.prog (GLm mx) 85 [14, 43, 36] []) = some c5.ir := by kernel_rfl
theorem rv5 : Tryz.f5.results.toList.mapM (compRV Tryz.prog) = some [.tmp 10] := by kernel_rfl

def R6 : Nat → List GI
| 0 => [⟨none, .box 2 (.t 0)⟩,
  ⟨none, .box 3 (.t 1)⟩,
  ⟨none, .mov 4 (.c (.bool false))⟩]
| 1 => [⟨none, .call (some 14) 8 []⟩,
  ⟨none, .mov 5 (.t 14)⟩]
| 2 => [⟨none, .load 16 (.t 2) 4 true⟩,
  ⟨none, .fa 17 (.t 3) 1⟩,
  ⟨none, .load 18 (.t 17) 1 false⟩,
  ⟨none, .fa 19 (.t 3) 5⟩,
  ⟨none, .load 20 (.t 19) 12 true⟩,
  ⟨none, .call (some 21) 9 [(.t 16), (.t 18), (.t 20)]⟩,
  ⟨none, .mov 15 (.t 21)⟩,
  ⟨none, .ext 22 (.t 15) 0⟩,
  ⟨none, .ext 23 (.t 15) 1⟩,
  ⟨none, .alloc 6 [(.int .i64 0), (.sl []), (.str [])]⟩,
  ⟨none, .stfrz (.t 6) (.t 22) 3⟩,
  ⟨none, .mov 7 (.t 23)⟩]
| 3 => [⟨none, .fa 24 (.t 3) 0⟩,
  ⟨none, .load 25 (.t 24) 1 false⟩,
  ⟨none, .call (some 26) 19 [(.t 25)]⟩,
  ⟨none, .mov 27 (.t 26)⟩,
  ⟨some (27, true), .fa 28 (.t 3) 1⟩,
  ⟨some (27, true), .load 29 (.t 28) 1 false⟩,
  ⟨some (27, true), .call (some 30) 19 [(.t 29)]⟩,
  ⟨none, .pick 31 (.t 27) (.t 30) (.c (.bool false))⟩,
  ⟨none, .mov 32 (.t 31)⟩,
  ⟨some (32, true), .fa 33 (.t 3) 17⟩,
  ⟨some (32, true), .load 34 (.t 33) 1 false⟩,
  ⟨some (32, true), .bin 35 .geq (.t 34) (.c (.int .i64 0))⟩,
  ⟨none, .pick 36 (.t 32) (.t 35) (.c (.bool false))⟩,
  ⟨none, .mov 37 (.t 36)⟩,
  ⟨some (37, true), .fa 38 (.t 3) 2⟩,
  ⟨some (37, true), .load 39 (.t 38) 3 true⟩,
  ⟨some (37, true), .call (some 40) 20 [(.t 39)]⟩,
  ⟨some (37, true), .bin 41 .eql (.t 40) (.c (.int .i64 0))⟩,
  ⟨none, .pick 42 (.t 37) (.t 41) (.c (.bool false))⟩,
  ⟨none, .mov 43 (.t 42)⟩,
  ⟨some (43, true), .mov 44 (.t 7)⟩,
  ⟨some (43, true), .bin 45 .eql (.t 44) (.c (.int .i64 0))⟩,
  ⟨none, .pick 46 (.t 43) (.t 45) (.c (.bool false))⟩,
  ⟨none, .mov 47 (.t 46)⟩,
  ⟨some (47, true), .load 48 (.t 6) 3 true⟩,
  ⟨some (47, true), .fa 49 (.t 3) 2⟩,
  ⟨some (47, true), .load 50 (.t 49) 3 true⟩,
  ⟨some (47, true), .call (some 51) 14 [(.t 48), (.t 50)]⟩,
  ⟨none, .pick 52 (.t 47) (.t 51) (.c (.bool false))⟩,
  ⟨none, .mov 8 (.t 52)⟩]
| 4 => [⟨none, .mov 53 (.t 8)⟩,
  ⟨none, .load 54 (.t 2) 4 true⟩,
  ⟨none, .load 55 (.t 3) 18 true⟩,
  ⟨none, .call (some 56) 22 [(.t 54), (.t 55)]⟩,
  ⟨none, .bin 57 .eql (.t 56) (.c (.int .i64 0))⟩,
  ⟨none, .eqb 58 true (.t 53) (.t 57)⟩]
| 5 => [⟨none, .mov 4 (.c (.bool false))⟩]
| 6 => [⟨none, .mov 59 (.t 8)⟩,
  ⟨none, .un 60 .not (.t 59)⟩]
| 7 => [⟨none, .mov 61 (.t 5)⟩,
  ⟨none, .mov 4 (.t 61)⟩]
| 8 => [⟨none, .load 62 (.t 2) 4 true⟩,
  ⟨none, .alloc 9 [(.sl []), (.sl []), (.sl []), (.sl [])]⟩,
  ⟨none, .store (.t 9) (.t 62) 4⟩]
| 9 => [⟨none, .load 63 (.t 3) 18 true⟩,
  ⟨none, .bso 64 58 18 [(.t 63)]⟩,
  ⟨none, .fa 65 (.t 2) 1⟩,
  ⟨none, .load 66 (.t 65) 1 false⟩,
  ⟨none, .app 67 58 18 248 (.t 64) (.t 66)⟩,
  ⟨none, .fa 68 (.t 9) 1⟩,
  ⟨none, .store (.t 68) (.t 67) 1⟩]
| 10 => [⟨none, .load 70 (.t 9) 4 true⟩,
  ⟨none, .fa 71 (.t 3) 1⟩,
  ⟨none, .load 72 (.t 71) 1 false⟩,
  ⟨none, .fa 73 (.t 3) 0⟩,
  ⟨none, .load 74 (.t 73) 1 false⟩,
  ⟨none, .call (some 75) 23 [(.t 74)]⟩,
  ⟨none, .call (some 76) 9 [(.t 70), (.t 72), (.t 75)]⟩,
  ⟨none, .mov 69 (.t 76)⟩,
  ⟨none, .ext 77 (.t 69) 0⟩,
  ⟨none, .ext 78 (.t 69) 1⟩,
  ⟨none, .alloc 10 [(.int .i64 0), (.sl []), (.str [])]⟩,
  ⟨none, .store (.t 10) (.t 77) 3⟩,
  ⟨none, .mov 11 (.t 78)⟩]
| 11 => [⟨none, .load 80 (.t 9) 4 true⟩,
  ⟨none, .fa 81 (.t 3) 1⟩,
  ⟨none, .load 82 (.t 81) 1 false⟩,
  ⟨none, .bin 83 .add (.t 82) (.c (.str [120]))⟩,
  ⟨none, .fa 84 (.t 3) 0⟩,
  ⟨none, .load 85 (.t 84) 1 false⟩,
  ⟨none, .call (some 86) 23 [(.t 85)]⟩,
  ⟨none, .call (some 87) 9 [(.t 80), (.t 83), (.t 86)]⟩,
  ⟨none, .mov 79 (.t 87)⟩,
  ⟨none, .ext 88 (.t 79) 0⟩,
  ⟨none, .ext 89 (.t 79) 1⟩,
  ⟨none, .alloc 12 [(.int .i64 0), (.sl []), (.str [])]⟩,
  ⟨none, .store (.t 12) (.t 88) 3⟩,
  ⟨none, .mov 13 (.t 89)⟩]
| 12 => [⟨none, .mov 90 (.t 5)⟩,
  ⟨none, .mov 91 (.t 90)⟩,
  ⟨some (91, true), .mov 92 (.t 11)⟩,
  ⟨some (91, true), .bin 93 .eql (.t 92) (.c (.int .i64 0))⟩,
  ⟨none, .pick 94 (.t 91) (.t 93) (.c (.bool false))⟩,
  ⟨none, .mov 95 (.t 94)⟩,
  ⟨some (95, true), .load 96 (.t 10) 3 true⟩,
  ⟨some (95, true), .fa 97 (.t 3) 2⟩,
  ⟨some (95, true), .load 98 (.t 97) 3 true⟩,
  ⟨some (95, true), .call (some 99) 14 [(.t 96), (.t 98)]⟩,
  ⟨none, .pick 100 (.t 95) (.t 99) (.c (.bool false))⟩,
  ⟨none, .mov 101 (.t 100)⟩,
  ⟨some (101, true), .mov 102 (.t 13)⟩,
  ⟨some (101, true), .bin 103 .eql (.t 102) (.c (.int .i64 5))⟩,
  ⟨none, .pick 104 (.t 101) (.t 103) (.c (.bool false))⟩,
  ⟨none, .mov 4 (.t 104)⟩]
| _ => []
def c6 : J := (.sq [2, 3] (.rg R6 0) (.sq [2, 3, 5] (.rg R6 1) (.sq [2, 3, 5, 6, 7] (.rg R6 2) (.sq [2, 3, 5, 8] (.rg R6 3) (.ct [2, 3, 5, 8] (.sq [2, 3, 5, 8, 58] (.rg R6 4) (.cond (.t 58) (.sq [4] (.rg R6 5) .ret) .skip)) (.ct [2, 3, 5] (.sq [2, 3, 5, 60] (.rg R6 6) (.cond (.t 60) (.sq [4] (.rg R6 7) .ret) .skip)) (.sq [2, 3, 5, 9] (.rg R6 8) (.sq [3, 5, 9] (.rg R6 9) (.sq [3, 5, 9, 10, 11] (.dr [10] [] R6 10 [10]) (.sq [3, 5, 10, 11, 13] (.dr [12] [] R6 11 [12]) (.sq [4] (.rg R6 12) .ret)))))))))))
theorem comp6 : Tryz.f6.body.bind (comp Tryz.prog (GLm mx) 105 [1064, 9, 68] []) = some c6.ir := by kernel_rfl
theorem rv6 : Tryz.f6.results.toList.mapM (compRV Tryz.prog) = some [.tmp 4] := by kernel_rfl

def R7 : Nat → List GI
| 0 => [⟨none, .box 2 (.t 0)⟩,
  ⟨none, .box 3 (.t 1)⟩,
  ⟨none, .mov 4 (.c (.bool false))⟩]
| 1 => [⟨none, .call (some 6) 8 []⟩,
  ⟨none, .mov 5 (.t 6)⟩]
| 2 => [⟨none, .mov 7 (.t 5)⟩,
  ⟨none, .mov 8 (.t 7)⟩,
  ⟨some (8, true), .load 9 (.t 2) 3 true⟩,
  ⟨some (8, true), .call (some 10) 20 [(.t 9)]⟩,
  ⟨some (8, true), .load 11 (.t 2) 3 true⟩,
  ⟨some (8, true), .call (some 12) 24 [(.t 11)]⟩,
  ⟨some (8, true), .bin 13 .eql (.t 10) (.t 12)⟩,
  ⟨none, .pick 14 (.t 8) (.t 13) (.c (.bool false))⟩,
  ⟨none, .mov 15 (.t 14)⟩,
  ⟨some (15, true), .load 16 (.t 3) 4 true⟩,
  ⟨some (15, true), .call (some 17) 25 [(.t 16)]⟩,
  ⟨some (15, true), .load 18 (.t 3) 4 true⟩,
  ⟨some (15, true), .call (some 19) 26 [(.t 18)]⟩,
  ⟨some (15, true), .bin 20 .eql (.t 17) (.t 19)⟩,
  ⟨none, .pick 21 (.t 15) (.t 20) (.c (.bool false))⟩,
  ⟨none, .mov 4 (.t 21)⟩]
| _ => []
def c7 : J := (.sq [2, 3] (.rg R7 0) (.sq [2, 3, 5] (.rg R7 1) (.sq [4] (.dr [] [] R7 2 []) .ret)))
theorem comp7 : Tryz.f7.body.bind (comp Tryz.prog (GLm mx) 22 [] []) = some c7.ir := by kernel_rfl
theorem rv7 : Tryz.f7.results.toList.mapM (compRV Tryz.prog) = some [.tmp 4] := by kernel_rfl

def R8 : Nat → List GI
| 0 => [⟨none, .mov 0 (.c (.bool false))⟩]
| 1 => [⟨none, .call (some 7) 23 [(.c (.str [116, 111, 116, 97, 108]))]⟩,
  ⟨none, .alloc 1 [(.int .i64 0), (.str []), (.str []), (.str []), (.int .i64 0), (.int .i64 0), (.str []), (.sl []), (.int .i64 0), (.int .i64 0), (.int .i64 0), (.sl [])]⟩,
  ⟨none, .stfrz (.t 1) (.t 7) 12⟩]
| 2 => [⟨none, .call (some 8) 28 [(.c (.str [115, 117, 109])), (.c (.str [111, 114, 100, 101, 114, 115])), (.c (.str [97, 109, 111, 117, 110, 116]))]⟩,
  ⟨none, .call (some 9) 29 [(.c (.int .i64 1))]⟩,
  ⟨none, .call (some 10) 27 [(.t 8), (.c (.int .i64 3)), (.t 9), (.c (.int .i64 0))]⟩,
  ⟨none, .mov 11 (.t 10)⟩,
  ⟨some (11, true), .load 12 (.t 1) 12 true⟩,
  ⟨some (11, true), .call (some 13) 30 [(.c (.int .i64 2)), (.c (.int .i64 2)), (.c (.sl []))]⟩,
  ⟨some (11, true), .call (some 14) 12 [(.c (.str [47])), (.t 12), (.t 13)]⟩,
  ⟨some (11, true), .call (some 15) 29 [(.c (.int .i64 1))]⟩,
  ⟨some (11, true), .call (some 16) 27 [(.t 14), (.c (.int .i64 3)), (.t 15), (.c (.int .i64 0))]⟩,
  ⟨none, .pick 17 (.t 11) (.t 16) (.c (.bool false))⟩,
  ⟨none, .mov 18 (.t 17)⟩,
  ⟨some (18, true), .load 19 (.t 1) 12 true⟩,
  ⟨some (18, true), .load 20 (.t 1) 12 true⟩,
  ⟨some (18, true), .call (some 21) 12 [(.c (.str [42])), (.t 19), (.t 20)]⟩,
  ⟨some (18, true), .call (some 22) 29 [(.c (.int .i64 2))]⟩,
  ⟨some (18, true), .call (some 23) 27 [(.t 21), (.c (.int .i64 3)), (.t 22), (.c (.int .i64 0))]⟩,
  ⟨none, .pick 24 (.t 18) (.t 23) (.c (.bool false))⟩,
  ⟨none, .mov 2 (.t 24)⟩]
| 3 => [⟨none, .load 25 (.t 1) 12 true⟩,
  ⟨none, .call (some 26) 30 [(.c (.int .i64 2)), (.c (.int .i64 1)), (.c (.sl []))]⟩,
  ⟨none, .call (some 27) 12 [(.c (.str [43])), (.t 25), (.t 26)]⟩,
  ⟨none, .call (some 28) 27 [(.t 27), (.c (.int .i64 0)), (.c (.sl [])), (.c (.int .i64 70))]⟩,
  ⟨none, .mov 29 (.t 28)⟩,
  ⟨some (29, true), .call (some 30) 23 [(.c (.str [114, 97, 110, 107]))]⟩,
  ⟨some (29, true), .call (some 31) 27 [(.t 30), (.c (.int .i64 0)), (.c (.sl [])), (.c (.int .i64 5))]⟩,
  ⟨none, .pick 32 (.t 29) (.t 31) (.c (.bool false))⟩,
  ⟨none, .mov 33 (.t 32)⟩,
  ⟨some (33, true), .call (some 34) 28 [(.c (.str [109, 101, 97, 110])), (.c (.str [111, 114, 100, 101, 114, 115])), (.c (.str [115, 104, 111, 112]))]⟩,
  ⟨some (33, true), .call (some 35) 27 [(.t 34), (.c (.int .i64 0)), (.c (.sl [])), (.c (.int .i64 5))]⟩,
  ⟨none, .pick 36 (.t 33) (.t 35) (.c (.bool false))⟩,
  ⟨none, .mov 37 (.t 36)⟩,
  ⟨some (37, true), .call (some 38) 28 [(.c (.str [115, 117, 109])), (.c (.str [112, 97, 121, 109, 101, 110, 116, 115])), (.c (.str [97, 109, 111, 117, 110, 116]))]⟩,
  ⟨some (37, true), .call (some 39) 27 [(.t 38), (.c (.int .i64 0)), (.c (.sl [])), (.c (.int .i64 4))]⟩,
  ⟨none, .pick 40 (.t 37) (.t 39) (.c (.bool false))⟩,
  ⟨none, .mov 3 (.t 40)⟩]
| 4 => [⟨none, .call (some 41) 28 [(.c (.str [108, 97, 115, 116])), (.c (.str [111, 114, 100, 101, 114, 115])), (.c (.str [115, 104, 111, 112]))]⟩,
  ⟨none, .bsn 42 33 12 [(.t 41)]⟩,
  ⟨none, .build 43 [(.int .i64 0), (.str []), (.str []), (.str []), (.int .i64 0), (.int .i64 0), (.str []), (.sl []), (.int .i64 0), (.int .i64 0), (.int .i64 0), (.sl [])] [(0, 1, (.c (.int .i64 4))), (2, 1, (.c (.str [114, 97, 110, 107]))), (11, 1, (.t 42))]⟩,
  ⟨none, .alloc 4 [(.int .i64 0), (.str []), (.str []), (.str []), (.int .i64 0), (.int .i64 0), (.str []), (.sl []), (.int .i64 0), (.int .i64 0), (.int .i64 0), (.sl [])]⟩,
  ⟨none, .stfrz (.t 4) (.t 43) 12⟩]
| 5 => [⟨none, .load 44 (.t 1) 12 true⟩,
  ⟨none, .bsn 45 33 12 [(.t 44)]⟩,
  ⟨none, .build 46 [(.int .i64 0), (.str []), (.str []), (.str []), (.int .i64 0), (.int .i64 0), (.str []), (.sl []), (.int .i64 0), (.int .i64 0), (.int .i64 0), (.sl [])] [(0, 1, (.c (.int .i64 6))), (1, 1, (.c (.str [110, 117, 108, 108]))), (11, 1, (.t 45))]⟩,
  ⟨none, .alloc 5 [(.int .i64 0), (.str []), (.str []), (.str []), (.int .i64 0), (.int .i64 0), (.str []), (.sl []), (.int .i64 0), (.int .i64 0), (.int .i64 0), (.sl [])]⟩,
  ⟨none, .stfrz (.t 5) (.t 46) 12⟩]
| 6 => [⟨none, .load 47 (.t 1) 12 true⟩,
  ⟨none, .call (some 48) 29 [(.c (.int .i64 1))]⟩,
  ⟨none, .call (some 49) 30 [(.c (.int .i64 3)), (.c (.int .i64 1000000)), (.t 48)]⟩,
  ⟨none, .call (some 50) 12 [(.c (.str [60])), (.t 47), (.t 49)]⟩,
  ⟨none, .call (some 51) 30 [(.c (.int .i64 2)), (.c (.int .i64 1)), (.c (.sl []))]⟩,
  ⟨none, .load 52 (.t 5) 12 true⟩,
  ⟨none, .bsn 53 33 12 [(.t 50), (.t 51), (.t 52)]⟩,
  ⟨none, .build 54 [(.int .i64 0), (.str []), (.str []), (.str []), (.int .i64 0), (.int .i64 0), (.str []), (.sl []), (.int .i64 0), (.int .i64 0), (.int .i64 0), (.sl [])] [(0, 1, (.c (.int .i64 8))), (11, 1, (.t 53))]⟩,
  ⟨none, .alloc 6 [(.int .i64 0), (.str []), (.str []), (.str []), (.int .i64 0), (.int .i64 0), (.str []), (.sl []), (.int .i64 0), (.int .i64 0), (.int .i64 0), (.sl [])]⟩,
  ⟨none, .store (.t 6) (.t 54) 12⟩]
| 7 => [⟨none, .mov 55 (.t 2)⟩,
  ⟨none, .mov 56 (.t 55)⟩,
  ⟨some (56, true), .mov 57 (.t 3)⟩,
  ⟨none, .pick 58 (.t 56) (.t 57) (.c (.bool false))⟩,
  ⟨none, .mov 59 (.t 58)⟩,
  ⟨some (59, true), .load 60 (.t 4) 12 true⟩,
  ⟨some (59, true), .call (some 61) 27 [(.t 60), (.c (.int .i64 2)), (.c (.sl [])), (.c (.int .i64 0))]⟩,
  ⟨none, .pick 62 (.t 59) (.t 61) (.c (.bool false))⟩,
  ⟨none, .mov 63 (.t 62)⟩,
  ⟨some (63, true), .load 64 (.t 6) 12 true⟩,
  ⟨some (63, true), .call (some 65) 27 [(.t 64), (.c (.int .i64 0)), (.c (.sl [])), (.c (.int .i64 5))]⟩,
  ⟨none, .pick 66 (.t 63) (.t 65) (.c (.bool false))⟩,
  ⟨none, .mov 67 (.t 66)⟩,
  ⟨some (67, true), .load 68 (.t 6) 12 true⟩,
  ⟨some (67, true), .call (some 69) 31 [(.t 68)]⟩,
  ⟨some (67, true), .bin 70 .eql (.t 69) (.c (.int .i64 7))⟩,
  ⟨none, .pick 71 (.t 67) (.t 70) (.c (.bool false))⟩,
  ⟨none, .mov 72 (.t 71)⟩,
  ⟨some (72, true), .load 73 (.t 6) 12 true⟩,
  ⟨some (72, true), .call (some 74) 32 [(.t 73)]⟩,
  ⟨some (72, true), .bin 75 .eql (.t 74) (.c (.int .i64 3))⟩,
  ⟨none, .pick 76 (.t 72) (.t 75) (.c (.bool false))⟩,
  ⟨none, .mov 0 (.t 76)⟩]
| _ => []
def c8 : J := (.sq [] (.rg R8 0) (.sq [1] (.rg R8 1) (.sq [1, 2] (.dr [] [] R8 2 []) (.sq [1, 2, 3] (.dr [] [] R8 3 []) (.sq [1, 2, 3, 4] (.rg R8 4) (.sq [1, 2, 3, 4, 5] (.rg R8 5) (.sq [2, 3, 4, 6] (.dr [6] [] R8 6 [6]) (.sq [0] (.rg R8 7) .ret))))))))
theorem comp8 : Tryz.f8.body.bind (comp Tryz.prog (GLm mx) 77 [] []) = some c8.ir := by kernel_rfl
theorem rv8 : Tryz.f8.results.toList.mapM (compRV Tryz.prog) = some [.tmp 0] := by kernel_rfl

def R9 : Nat → List GI
| 0 => [⟨none, .box 3 (.t 0)⟩,
  ⟨none, .box 5 (.t 2)⟩,
  ⟨none, .alloc 6 [(.int .i64 0), (.sl []), (.str [])]⟩,
  ⟨none, .mov 7 (.c (.int .i64 0))⟩]
| 1 => [⟨none, .load 9 (.t 5) 12 true⟩,
  ⟨none, .call (some 10) 11 [(.t 9)]⟩,
  ⟨none, .mov 8 (.t 10)⟩]
| 2 => [⟨none, .mov 11 (.t 8)⟩,
  ⟨none, .bin 12 .neq (.t 11) (.c (.int .i64 0))⟩]
| 3 => [⟨none, .mov 13 (.t 8)⟩,
  ⟨none, .call (some 14) 33 [(.t 13)]⟩,
  ⟨none, .ext 15 (.t 14) 0⟩,
  ⟨none, .ext 16 (.t 14) 1⟩,
  ⟨none, .store (.t 6) (.t 15) 3⟩,
  ⟨none, .mov 7 (.t 16)⟩]
| 4 => [⟨none, .load 17 (.t 3) 4 true⟩,
  ⟨none, .mov 18 (.t 1)⟩,
  ⟨none, .build 19 [(.sl []), (.sl []), (.sl []), (.sl []), (.str []), .nilfn] [(0, 4, (.t 17)), (4, 1, (.t 18))]⟩,
  ⟨none, .load 20 (.t 5) 12 true⟩,
  ⟨none, .call (some 21) 34 [(.t 19), (.t 20)]⟩,
  ⟨none, .ext 22 (.t 21) 0⟩,
  ⟨none, .ext 23 (.t 21) 1⟩,
  ⟨none, .store (.t 6) (.t 22) 3⟩,
  ⟨none, .mov 7 (.t 23)⟩]
| _ => []
def c9 : J := (.sq [1, 3, 5, 6] (.rg R9 0) (.ct [1, 3, 5, 6] (.sq [1, 3, 5, 6, 8] (.rg R9 1) (.sq [1, 3, 5, 6, 8, 12] (.rg R9 2) (.cond (.t 12) (.sq [6, 7] (.rg R9 3) .ret) .skip))) (.sq [6, 7] (.rg R9 4) .ret)))
theorem comp9 : Tryz.f9.body.bind (comp Tryz.prog (GLm mx) 24 [6] []) = some c9.ir := by kernel_rfl
theorem rv9 : Tryz.f9.results.toList.mapM (compRV Tryz.prog) = some [.cell 6 3 true, .tmp 7] := by kernel_rfl

def R10 : Nat → List GI
| 0 => [⟨none, .box 1 (.t 0)⟩,
  ⟨none, .mov 2 (.c (.bool false))⟩]
| 1 => [⟨none, .fa 3 (.t 1) 0⟩,
  ⟨none, .load 4 (.t 3) 1 false⟩,
  ⟨none, .bin 5 .eql (.t 4) (.c (.int .i64 2))⟩,
  ⟨none, .mov 6 (.t 5)⟩,
  ⟨some (6, false), .fa 7 (.t 1) 0⟩,
  ⟨some (6, false), .load 8 (.t 7) 1 false⟩,
  ⟨some (6, false), .bin 9 .eql (.t 8) (.c (.int .i64 3))⟩,
  ⟨none, .pick 10 (.t 6) (.c (.bool true)) (.t 9)⟩,
  ⟨none, .mov 2 (.t 10)⟩]
| _ => []
def c10 : J := (.sq [1] (.rg R10 0) (.sq [2] (.rg R10 1) .ret))
theorem comp10 : Tryz.f10.body.bind (comp Tryz.prog (GLm mx) 11 [] []) = some c10.ir := by kernel_rfl
theorem rv10 : Tryz.f10.results.toList.mapM (compRV Tryz.prog) = some [.tmp 2] := by kernel_rfl

def R11 : Nat → List GI
| 0 => [⟨none, .box 1 (.t 0)⟩,
  ⟨none, .mov 2 (.c (.int .i64 0))⟩]
| 1 => [⟨none, .load 3 (.t 1) 12 true⟩,
  ⟨none, .call (some 4) 31 [(.t 3)]⟩,
  ⟨none, .bin 5 .gtr (.t 4) (.c (.int .i64 64))⟩,
  ⟨none, .mov 6 (.t 5)⟩,
  ⟨some (6, false), .load 7 (.t 1) 12 true⟩,
  ⟨some (6, false), .call (some 8) 32 [(.t 7)]⟩,
  ⟨some (6, false), .bin 9 .gtr (.t 8) (.c (.int .i64 12))⟩,
  ⟨none, .pick 10 (.t 6) (.c (.bool true)) (.t 9)⟩]
| 2 => [⟨none, .mov 2 (.c (.int .i64 2))⟩]
| 3 => [⟨none, .load 11 (.t 1) 12 true⟩,
  ⟨none, .call (some 12) 35 [(.t 11), (.c (.bool false))]⟩,
  ⟨none, .un 13 .not (.t 12)⟩]
| 4 => [⟨none, .mov 2 (.c (.int .i64 3))⟩]
| 5 => [⟨none, .mov 2 (.c (.int .i64 0))⟩]
| _ => []
def c11 : J := (.sq [1] (.rg R11 0) (.ct [1] (.sq [1, 10] (.rg R11 1) (.cond (.t 10) (.sq [2] (.rg R11 2) .ret) .skip)) (.ct [] (.sq [13] (.rg R11 3) (.cond (.t 13) (.sq [2] (.rg R11 4) .ret) .skip)) (.sq [2] (.rg R11 5) .ret))))
theorem comp11 : Tryz.f11.body.bind (comp Tryz.prog (GLm mx) 14 [] []) = some c11.ir := by kernel_rfl
theorem rv11 : Tryz.f11.results.toList.mapM (compRV Tryz.prog) = some [.tmp 2] := by kernel_rfl

def R12 : Nat → List GI
| 0 => [⟨none, .box 4 (.t 1)⟩,
  ⟨none, .box 5 (.t 2)⟩,
  ⟨none, .alloc 6 [(.int .i64 0), (.str []), (.str []), (.str []), (.int .i64 0), (.int .i64 0), (.str []), (.sl []), (.int .i64 0), (.int .i64 0), (.int .i64 0), (.sl [])]⟩]
| 1 => [⟨none, .mov 7 (.t 0)⟩,
  ⟨none, .load 8 (.t 4) 12 true⟩,
  ⟨none, .load 9 (.t 5) 12 true⟩,
  ⟨none, .bsn 10 33 12 [(.t 8), (.t 9)]⟩,
  ⟨none, .build 11 [(.int .i64 0), (.str []), (.str []), (.str []), (.int .i64 0), (.int .i64 0), (.str []), (.sl []), (.int .i64 0), (.int .i64 0), (.int .i64 0), (.sl [])] [(0, 1, (.c (.int .i64 7))), (1, 1, (.t 7)), (11, 1, (.t 10))]⟩,
  ⟨none, .store (.t 6) (.t 11) 12⟩]
| _ => []
def c12 : J := (.sq [0, 4, 5, 6] (.rg R12 0) (.sq [6] (.rg R12 1) .ret))
theorem comp12 : Tryz.f12.body.bind (comp Tryz.prog (GLm mx) 12 [6] []) = some c12.ir := by kernel_rfl
theorem rv12 : Tryz.f12.results.toList.mapM (compRV Tryz.prog) = some [.cell 6 12 true] := by kernel_rfl

def R13 : Nat → List GI
| 0 => [⟨none, .nils 4 52 2⟩,
  ⟨none, .mov 5 (.c (.int .i64 0))⟩]
| 1 => [⟨none, .mov 6 (.t 0)⟩,
  ⟨none, .mov 7 (.t 1)⟩,
  ⟨none, .call (some 8) 36 [(.t 6), (.t 7), (.c (.int .i64 1))]⟩,
  ⟨none, .ext 9 (.t 8) 0⟩,
  ⟨none, .ext 10 (.t 8) 1⟩,
  ⟨none, .mov 4 (.t 9)⟩,
  ⟨none, .mov 5 (.t 10)⟩]
| _ => []
def c13 : J := (.sq [0, 1] (.rg R13 0) (.sq [4, 5] (.rg R13 1) .ret))
theorem comp13 : Tryz.f13.body.bind (comp Tryz.prog (GLm mx) 11 [] []) = some c13.ir := by kernel_rfl
theorem rv13 : Tryz.f13.results.toList.mapM (compRV Tryz.prog) = some [.tmp 4, .tmp 5] := by kernel_rfl

def R14 : Nat → List GI
| 0 => [⟨none, .box 2 (.t 0)⟩,
  ⟨none, .box 3 (.t 1)⟩,
  ⟨none, .mov 4 (.c (.bool false))⟩]
| 1 => [⟨none, .fa 5 (.t 2) 0⟩,
  ⟨none, .load 6 (.t 5) 1 false⟩,
  ⟨none, .fa 7 (.t 3) 0⟩,
  ⟨none, .load 8 (.t 7) 1 false⟩,
  ⟨none, .bin 9 .eql (.t 6) (.t 8)⟩,
  ⟨none, .mov 10 (.t 9)⟩,
  ⟨some (10, true), .fa 11 (.t 2) 1⟩,
  ⟨some (10, true), .load 12 (.t 11) 1 false⟩,
  ⟨some (10, true), .fa 13 (.t 3) 1⟩,
  ⟨some (10, true), .load 14 (.t 13) 1 false⟩,
  ⟨some (10, true), .call (some 15) 37 [(.t 12), (.t 14)]⟩,
  ⟨none, .pick 16 (.t 10) (.t 15) (.c (.bool false))⟩,
  ⟨none, .mov 17 (.t 16)⟩,
  ⟨some (17, true), .fa 18 (.t 2) 2⟩,
  ⟨some (17, true), .load 19 (.t 18) 1 false⟩,
  ⟨some (17, true), .fa 20 (.t 3) 2⟩,
  ⟨some (17, true), .load 21 (.t 20) 1 false⟩,
  ⟨some (17, true), .bin 22 .eql (.t 19) (.t 21)⟩,
  ⟨none, .pick 23 (.t 17) (.t 22) (.c (.bool false))⟩,
  ⟨none, .mov 4 (.t 23)⟩]
| _ => []
def c14 : J := (.sq [2, 3] (.rg R14 0) (.sq [4] (.rg R14 1) .ret))
theorem comp14 : Tryz.f14.body.bind (comp Tryz.prog (GLm mx) 24 [] []) = some c14.ir := by kernel_rfl
theorem rv14 : Tryz.f14.results.toList.mapM (compRV Tryz.prog) = some [.tmp 4] := by kernel_rfl

def R15 : Nat → List GI
| 0 => [⟨none, .nils 4 52 2⟩,
  ⟨none, .mov 5 (.c (.int .i64 0))⟩]
| 1 => [⟨none, .mov 6 (.t 0)⟩,
  ⟨none, .mov 7 (.t 1)⟩,
  ⟨none, .call (some 8) 36 [(.t 6), (.t 7), (.c (.int .i64 (-1)))]⟩,
  ⟨none, .ext 9 (.t 8) 0⟩,
  ⟨none, .ext 10 (.t 8) 1⟩,
  ⟨none, .mov 4 (.t 9)⟩,
  ⟨none, .mov 5 (.t 10)⟩]
| _ => []
def c15 : J := (.sq [0, 1] (.rg R15 0) (.sq [4, 5] (.rg R15 1) .ret))
theorem comp15 : Tryz.f15.body.bind (comp Tryz.prog (GLm mx) 11 [] []) = some c15.ir := by kernel_rfl
theorem rv15 : Tryz.f15.results.toList.mapM (compRV Tryz.prog) = some [.tmp 4, .tmp 5] := by kernel_rfl

def R16 : Nat → List GI
| 0 => [⟨none, .mov 4 (.c (.bool false))⟩]
| 1 => [⟨none, .mov 5 (.t 0)⟩,
  ⟨none, .mov 6 (.t 1)⟩,
  ⟨none, .call (some 7) 38 [(.t 5), (.t 6)]⟩,
  ⟨none, .mov 4 (.t 7)⟩]
| _ => []
def c16 : J := (.sq [0, 1] (.rg R16 0) (.sq [4] (.rg R16 1) .ret))
theorem comp16 : Tryz.f16.body.bind (comp Tryz.prog (GLm mx) 8 [] []) = some c16.ir := by kernel_rfl
theorem rv16 : Tryz.f16.results.toList.mapM (compRV Tryz.prog) = some [.tmp 4] := by kernel_rfl

def R17 : Nat → List GI
| 0 => [⟨none, .box 1 (.t 0)⟩,
  ⟨none, .mov 2 (.c (.int .i64 0))⟩]
| 1 => [⟨none, .fa 9 (.t 1) 0⟩,
  ⟨none, .load 10 (.t 9) 1 false⟩,
  ⟨none, .bin 11 .eql (.t 10) (.c (.int .i64 2))⟩,
  ⟨none, .mov 12 (.t 11)⟩,
  ⟨some (12, false), .fa 13 (.t 1) 0⟩,
  ⟨some (12, false), .load 14 (.t 13) 1 false⟩,
  ⟨some (12, false), .bin 15 .eql (.t 14) (.c (.int .i64 3))⟩,
  ⟨none, .pick 16 (.t 12) (.c (.bool true)) (.t 15)⟩,
  ⟨none, .mov 3 (.t 16)⟩]
| 2 => [⟨none, .fa 17 (.t 1) 0⟩,
  ⟨none, .load 18 (.t 17) 1 false⟩,
  ⟨none, .bin 19 .eql (.t 18) (.c (.int .i64 4))⟩,
  ⟨none, .mov 20 (.t 19)⟩,
  ⟨some (20, false), .fa 21 (.t 1) 0⟩,
  ⟨some (20, false), .load 22 (.t 21) 1 false⟩,
  ⟨some (20, false), .bin 23 .eql (.t 22) (.c (.int .i64 5))⟩,
  ⟨none, .pick 24 (.t 20) (.c (.bool true)) (.t 23)⟩,
  ⟨none, .mov 4 (.t 24)⟩]
| 3 => [⟨none, .fa 26 (.t 1) 0⟩,
  ⟨none, .load 27 (.t 26) 1 false⟩,
  ⟨none, .bin 28 .lss (.t 27) (.c (.int .i64 0))⟩,
  ⟨none, .mov 29 (.t 28)⟩,
  ⟨some (29, false), .fa 30 (.t 1) 0⟩,
  ⟨some (29, false), .load 31 (.t 30) 1 false⟩,
  ⟨some (29, false), .bin 32 .gtr (.t 31) (.c (.int .i64 5))⟩,
  ⟨none, .pick 33 (.t 29) (.c (.bool true)) (.t 32)⟩,
  ⟨none, .mov 25 (.t 33)⟩]
| 4 => [⟨none, .mov 34 (.t 4)⟩,
  ⟨none, .un 35 .not (.t 34)⟩,
  ⟨none, .mov 36 (.t 35)⟩,
  ⟨some (36, true), .fa 37 (.t 1) 2⟩,
  ⟨some (36, true), .load 38 (.t 37) 1 false⟩,
  ⟨some (36, true), .bin 39 .neq (.t 38) (.c (.str []))⟩,
  ⟨none, .pick 40 (.t 36) (.t 39) (.c (.bool false))⟩,
  ⟨none, .mov 25 (.t 40)⟩]
| 5 => [⟨none, .mov 2 (.c (.int .i64 1))⟩]
| 6 => [⟨none, .mov 42 (.t 3)⟩,
  ⟨none, .un 43 .not (.t 42)⟩,
  ⟨none, .mov 44 (.t 43)⟩,
  ⟨some (44, true), .fa 45 (.t 1) 1⟩,
  ⟨some (44, true), .load 46 (.t 45) 1 false⟩,
  ⟨some (44, true), .bin 47 .neq (.t 46) (.c (.int .i64 0))⟩,
  ⟨none, .pick 48 (.t 44) (.t 47) (.c (.bool false))⟩,
  ⟨none, .mov 49 (.t 48)⟩,
  ⟨some (49, true), .fa 50 (.t 1) 0⟩,
  ⟨some (49, true), .load 51 (.t 50) 1 false⟩,
  ⟨some (49, true), .bin 52 .neq (.t 51) (.c (.int .i64 1))⟩,
  ⟨some (49, true), .mov 53 (.t 52)⟩,
  ⟨some (53, false), .fa 54 (.t 1) 1⟩,
  ⟨some (53, false), .load 55 (.t 54) 1 false⟩,
  ⟨some (53, false), .bin 56 .neq (.t 55) (.c (.int .i64 1))⟩,
  ⟨some (49, true), .pick 57 (.t 53) (.c (.bool true)) (.t 56)⟩,
  ⟨none, .pick 58 (.t 49) (.t 57) (.c (.bool false))⟩,
  ⟨none, .mov 41 (.t 58)⟩]
| 7 => [⟨none, .mov 2 (.c (.int .i64 1))⟩]
| 8 => [⟨none, .fa 60 (.t 1) 1⟩,
  ⟨none, .load 61 (.t 60) 1 false⟩,
  ⟨none, .bin 62 .lss (.t 61) (.c (.int .i64 (-1152921504606846976)))⟩,
  ⟨none, .mov 63 (.t 62)⟩,
  ⟨some (63, false), .fa 64 (.t 1) 1⟩,
  ⟨some (63, false), .load 65 (.t 64) 1 false⟩,
  ⟨some (63, false), .bin 66 .gtr (.t 65) (.c (.int .i64 1152921504606846976))⟩,
  ⟨none, .pick 67 (.t 63) (.c (.bool true)) (.t 66)⟩,
  ⟨none, .mov 59 (.t 67)⟩]
| 9 => [⟨none, .mov 2 (.c (.int .i64 2))⟩]
| 10 => [⟨none, .mov 68 (.t 4)⟩,
  ⟨none, .un 69 .not (.t 68)⟩]
| 11 => [⟨none, .mov 2 (.c (.int .i64 0))⟩]
| 12 => [⟨none, .mov 5 (.c (.int .i64 64))⟩,
  ⟨none, .mov 6 (.c (.int .u8 32))⟩]
| 13 => [⟨none, .fa 70 (.t 1) 0⟩,
  ⟨none, .load 71 (.t 70) 1 false⟩,
  ⟨none, .bin 72 .eql (.t 71) (.c (.int .i64 5))⟩]
| 14 => [⟨none, .mov 5 (.c (.int .i64 32))⟩,
  ⟨none, .mov 6 (.c (.int .u8 33))⟩]
| 15 => [⟨none, .fa 73 (.t 1) 2⟩,
  ⟨none, .load 74 (.t 73) 1 false⟩,
  ⟨none, .lens 75 (.t 74)⟩,
  ⟨none, .mov 76 (.t 5)⟩,
  ⟨none, .bin 77 .gtr (.t 75) (.t 76)⟩]
| 16 => [⟨none, .mov 2 (.c (.int .i64 2))⟩]
| 17 => [⟨none, .fa 78 (.t 1) 0⟩,
  ⟨none, .load 79 (.t 78) 1 false⟩,
  ⟨none, .bin 80 .eql (.t 79) (.c (.int .i64 5))⟩,
  ⟨none, .mov 81 (.t 80)⟩,
  ⟨some (81, true), .fa 82 (.t 1) 2⟩,
  ⟨some (81, true), .load 83 (.t 82) 1 false⟩,
  ⟨some (81, true), .bin 84 .eql (.t 83) (.c (.str []))⟩,
  ⟨none, .pick 85 (.t 81) (.t 84) (.c (.bool false))⟩]
| 18 => [⟨none, .mov 2 (.c (.int .i64 3))⟩]
| 19 => [⟨none, .fa 86 (.t 1) 2⟩,
  ⟨none, .load 87 (.t 86) 1 false⟩,
  ⟨none, .lens 88 (.t 87)⟩,
  ⟨none, .mov 89 (.c (.int .i64 0))⟩]
| 20 => [⟨none, .bin 90 .lss (.t 89) (.t 88)⟩]
| 21 => [⟨none, .mov 91 (.t 89)⟩,
  ⟨none, .mov 7 (.t 91)⟩]
| 22 => [⟨none, .fa 92 (.t 1) 2⟩,
  ⟨none, .load 93 (.t 92) 1 false⟩,
  ⟨none, .mov 94 (.t 7)⟩,
  ⟨none, .idx 95 (.t 93) (.t 94)⟩,
  ⟨none, .mov 8 (.t 95)⟩]
| 23 => [⟨none, .mov 96 (.t 8)⟩,
  ⟨none, .mov 97 (.t 6)⟩,
  ⟨none, .bin 98 .lss (.t 96) (.t 97)⟩,
  ⟨none, .mov 99 (.t 98)⟩,
  ⟨some (99, false), .mov 100 (.t 8)⟩,
  ⟨some (99, false), .bin 101 .gtr (.t 100) (.c (.int .u8 126))⟩,
  ⟨none, .pick 102 (.t 99) (.c (.bool true)) (.t 101)⟩,
  ⟨none, .mov 103 (.t 102)⟩,
  ⟨some (103, false), .mov 104 (.t 8)⟩,
  ⟨some (103, false), .bin 105 .eql (.t 104) (.c (.int .u8 34))⟩,
  ⟨none, .pick 106 (.t 103) (.c (.bool true)) (.t 105)⟩,
  ⟨none, .mov 107 (.t 106)⟩,
  ⟨some (107, false), .mov 108 (.t 8)⟩,
  ⟨some (107, false), .bin 109 .eql (.t 108) (.c (.int .u8 92))⟩,
  ⟨none, .pick 110 (.t 107) (.c (.bool true)) (.t 109)⟩]
| 24 => [⟨none, .mov 2 (.c (.int .i64 3))⟩]
| 25 => [⟨none, .bin 111 .add (.t 89) (.c (.int .i64 1))⟩,
  ⟨none, .mov 89 (.t 111)⟩]
| 26 => [⟨none, .mov 2 (.c (.int .i64 0))⟩]
| _ => []
def L17_0 : Nat → J
| _ => (.sq [1, 6, 88, 89, 90] (.rg R17 20) (.ct [1, 6, 88, 89] (.cond (.t 90) .skip (.exit 1)) (.ct [1, 6, 88, 89] (.block 2 (.sq [1, 6, 7, 88, 89] (.rg R17 21) (.sq [1, 6, 8, 88, 89] (.rg R17 22) (.sq [1, 6, 88, 89, 110] (.rg R17 23) (.cond (.t 110) (.sq [2] (.rg R17 24) .ret) .skip))))) (.rg R17 25))))
def c17 : J := (.sq [1] (.rg R17 0) (.sq [1, 3] (.rg R17 1) (.sq [1, 3, 4] (.rg R17 2) (.ct [1, 4] (.block 0 (.ct [1, 3, 4, 25] (.sq [1, 3, 4, 25] (.rg R17 3) (.cond (.t 25) .skip (.rg R17 4))) (.cond (.t 25) (.sq [2] (.rg R17 5) .ret) (.sq [1, 4, 41] (.rg R17 6) (.cond (.t 41) (.sq [2] (.rg R17 7) .ret) (.sq [1, 4, 59] (.rg R17 8) (.cond (.t 59) (.sq [2] (.rg R17 9) .ret) .skip))))))) (.ct [1] (.sq [1, 69] (.rg R17 10) (.cond (.t 69) (.sq [2] (.rg R17 11) .ret) .skip)) (.sq [1, 5, 6] (.rg R17 12) (.ct [1, 5, 6] (.sq [1, 5, 6, 72] (.rg R17 13) (.cond (.t 72) (.rg R17 14) .skip)) (.ct [1, 6] (.sq [1, 6, 77] (.rg R17 15) (.cond (.t 77) (.sq [2] (.rg R17 16) .ret) .skip)) (.ct [1, 6] (.sq [1, 6, 85] (.rg R17 17) (.cond (.t 85) (.sq [2] (.rg R17 18) .ret) .skip)) (.sq [] (.sq [1, 6, 88, 89] (.rg R17 19) (.block 1 (.lp L17_0 0))) (.sq [2] (.rg R17 26) .ret)))))))))))
theorem comp17 : Tryz.f17.body.bind (comp Tryz.prog (GLm mx) 112 [] []) = some c17.ir := by kernel_rfl
theorem rv17 : Tryz.f17.results.toList.mapM (compRV Tryz.prog) = some [.tmp 2] := by kernel_rfl

def R18 : Nat → List GI
| 0 => [⟨none, .mov 2 (.c (.int .i64 0))⟩]
| 1 => [⟨none, .mov 5 (.t 0)⟩,
  ⟨none, .lenl 6 (.t 5)⟩,
  ⟨none, .bin 7 .gtr (.t 6) (.c (.int .i64 4))⟩]
| 2 => [⟨none, .mov 2 (.c (.int .i64 2))⟩]
| 3 => [⟨none, .mov 8 (.t 0)⟩,
  ⟨none, .lenl 9 (.t 8)⟩,
  ⟨none, .mov 10 (.c (.int .i64 0))⟩]
| 4 => [⟨none, .bin 11 .lss (.t 10) (.t 9)⟩]
| 5 => [⟨none, .mov 12 (.t 10)⟩,
  ⟨none, .ia 13 (.t 8) (.t 10) 2⟩,
  ⟨none, .load 14 (.t 13) 2 true⟩,
  ⟨none, .alloc 4 [(.str []), (.int .i64 0)]⟩,
  ⟨none, .mov 3 (.t 12)⟩,
  ⟨none, .stfrz (.t 4) (.t 14) 2⟩]
| 6 => [⟨none, .fa 16 (.t 4) 0⟩,
  ⟨none, .load 17 (.t 16) 1 false⟩,
  ⟨none, .call (some 18) 39 [(.t 17)]⟩,
  ⟨none, .un 19 .not (.t 18)⟩,
  ⟨none, .mov 15 (.t 19)⟩]
| 7 => [⟨none, .mov 2 (.c (.int .i64 1))⟩]
| 8 => [⟨none, .fa 21 (.t 4) 1⟩,
  ⟨none, .load 22 (.t 21) 1 false⟩,
  ⟨none, .bin 23 .eql (.t 22) (.c (.int .i64 0))⟩,
  ⟨none, .mov 24 (.t 23)⟩,
  ⟨some (24, false), .fa 25 (.t 4) 1⟩,
  ⟨some (24, false), .load 26 (.t 25) 1 false⟩,
  ⟨some (24, false), .call (some 27) 40 [(.t 26), (.c (.int .i64 8))]⟩,
  ⟨none, .pick 28 (.t 24) (.c (.bool true)) (.t 27)⟩,
  ⟨none, .mov 20 (.t 28)⟩]
| 9 => [⟨none, .mov 2 (.c (.int .i64 70))⟩]
| 10 => [⟨none, .mov 30 (.t 3)⟩,
  ⟨none, .bin 31 .gtr (.t 30) (.c (.int .i64 0))⟩,
  ⟨none, .mov 32 (.t 31)⟩,
  ⟨some (32, true), .fa 33 (.t 4) 0⟩,
  ⟨some (32, true), .load 34 (.t 33) 1 false⟩,
  ⟨some (32, true), .mov 35 (.t 0)⟩,
  ⟨some (32, true), .mov 36 (.t 3)⟩,
  ⟨some (32, true), .bin 37 .sub (.t 36) (.c (.int .i64 1))⟩,
  ⟨some (32, true), .ia 38 (.t 35) (.t 37) 2⟩,
  ⟨some (32, true), .fa 39 (.t 38) 0⟩,
  ⟨some (32, true), .load 40 (.t 39) 1 false⟩,
  ⟨some (32, true), .bin 41 .leq (.t 34) (.t 40)⟩,
  ⟨none, .pick 42 (.t 32) (.t 41) (.c (.bool false))⟩,
  ⟨none, .mov 29 (.t 42)⟩]
| 11 => [⟨none, .mov 2 (.c (.int .i64 3))⟩]
| 12 => [⟨none, .bin 43 .add (.t 10) (.c (.int .i64 1))⟩,
  ⟨none, .mov 10 (.t 43)⟩]
| 13 => [⟨none, .mov 2 (.c (.int .i64 0))⟩]
| _ => []
def L18_0 : Nat → J
| _ => (.sq [0, 8, 9, 10, 11] (.rg R18 4) (.ct [0, 8, 9, 10] (.cond (.t 11) .skip (.exit 0)) (.ct [0, 8, 9, 10] (.block 1 (.sq [0, 3, 4, 8, 9, 10] (.rg R18 5) (.block 2 (.sq [0, 3, 4, 8, 9, 10, 15] (.rg R18 6) (.cond (.t 15) (.sq [2] (.rg R18 7) .ret) (.sq [0, 3, 4, 8, 9, 10, 20] (.rg R18 8) (.cond (.t 20) (.sq [2] (.rg R18 9) .ret) (.sq [0, 8, 9, 10, 29] (.dr [] [] R18 10 []) (.cond (.t 29) (.sq [2] (.rg R18 11) .ret) .skip))))))))) (.rg R18 12))))
def c18 : J := (.sq [0] (.rg R18 0) (.ct [0] (.sq [0, 7] (.rg R18 1) (.cond (.t 7) (.sq [2] (.rg R18 2) .ret) .skip)) (.sq [] (.sq [0, 8, 9, 10] (.rg R18 3) (.block 0 (.lp L18_0 0))) (.sq [2] (.rg R18 13) .ret))))
theorem comp18 : Tryz.f18.body.bind (comp Tryz.prog (GLm mx) 44 [] []) = some c18.ir := by kernel_rfl
theorem rv18 : Tryz.f18.results.toList.mapM (compRV Tryz.prog) = some [.tmp 2] := by kernel_rfl

def R19 : Nat → List GI
| 0 => [⟨none, .mov 2 (.c (.bool false))⟩]
| 1 => [⟨none, .mov 5 (.t 0)⟩,
  ⟨none, .bin 6 .eql (.t 5) (.c (.str []))⟩,
  ⟨none, .mov 7 (.t 6)⟩,
  ⟨some (7, false), .mov 8 (.t 0)⟩,
  ⟨some (7, false), .lens 9 (.t 8)⟩,
  ⟨some (7, false), .bin 10 .gtr (.t 9) (.c (.int .i64 24))⟩,
  ⟨none, .pick 11 (.t 7) (.c (.bool true)) (.t 10)⟩,
  ⟨none, .mov 12 (.t 11)⟩,
  ⟨some (12, false), .mov 13 (.t 0)⟩,
  ⟨some (12, false), .call (some 14) 41 [(.t 13)]⟩,
  ⟨none, .pick 15 (.t 12) (.c (.bool true)) (.t 14)⟩]
| 2 => [⟨none, .mov 2 (.c (.bool false))⟩]
| 3 => [⟨none, .mov 16 (.t 0)⟩,
  ⟨none, .lens 17 (.t 16)⟩,
  ⟨none, .mov 18 (.c (.int .i64 0))⟩]
| 4 => [⟨none, .bin 19 .lss (.t 18) (.t 17)⟩]
| 5 => [⟨none, .mov 20 (.t 18)⟩,
  ⟨none, .mov 3 (.t 20)⟩]
| 6 => [⟨none, .mov 21 (.t 0)⟩,
  ⟨none, .mov 22 (.t 3)⟩,
  ⟨none, .idx 23 (.t 21) (.t 22)⟩,
  ⟨none, .mov 4 (.t 23)⟩]
| 7 => [⟨none, .mov 25 (.t 4)⟩,
  ⟨none, .bin 26 .geq (.t 25) (.c (.int .u8 97))⟩,
  ⟨none, .mov 27 (.t 26)⟩,
  ⟨some (27, true), .mov 28 (.t 4)⟩,
  ⟨some (27, true), .bin 29 .leq (.t 28) (.c (.int .u8 122))⟩,
  ⟨none, .pick 30 (.t 27) (.t 29) (.c (.bool false))⟩,
  ⟨none, .mov 24 (.t 30)⟩]
| 8 => [⟨none, .mov 32 (.t 3)⟩,
  ⟨none, .bin 33 .gtr (.t 32) (.c (.int .i64 0))⟩,
  ⟨none, .mov 34 (.t 33)⟩,
  ⟨some (34, true), .mov 35 (.t 4)⟩,
  ⟨some (34, true), .bin 36 .geq (.t 35) (.c (.int .u8 48))⟩,
  ⟨some (34, true), .mov 37 (.t 36)⟩,
  ⟨some (37, true), .mov 38 (.t 4)⟩,
  ⟨some (37, true), .bin 39 .leq (.t 38) (.c (.int .u8 57))⟩,
  ⟨some (34, true), .pick 40 (.t 37) (.t 39) (.c (.bool false))⟩,
  ⟨some (34, true), .mov 41 (.t 40)⟩,
  ⟨some (41, false), .mov 42 (.t 4)⟩,
  ⟨some (41, false), .bin 43 .eql (.t 42) (.c (.int .u8 95))⟩,
  ⟨some (34, true), .pick 44 (.t 41) (.c (.bool true)) (.t 43)⟩,
  ⟨none, .pick 45 (.t 34) (.t 44) (.c (.bool false))⟩,
  ⟨none, .mov 31 (.t 45)⟩]
| 9 => [⟨none, .mov 2 (.c (.bool false))⟩]
| 10 => [⟨none, .bin 46 .add (.t 18) (.c (.int .i64 1))⟩,
  ⟨none, .mov 18 (.t 46)⟩]
| 11 => [⟨none, .mov 2 (.c (.bool true))⟩]
| _ => []
def L19_0 : Nat → J
| _ => (.sq [0, 17, 18, 19] (.rg R19 4) (.ct [0, 17, 18] (.cond (.t 19) .skip (.exit 0)) (.ct [0, 17, 18] (.block 1 (.sq [0, 3, 17, 18] (.rg R19 5) (.sq [0, 3, 4, 17, 18] (.rg R19 6) (.block 2 (.sq [0, 3, 4, 17, 18, 24] (.rg R19 7) (.cond (.t 24) .skip (.sq [0, 17, 18, 31] (.rg R19 8) (.cond (.t 31) .skip (.sq [2] (.rg R19 9) .ret))))))))) (.rg R19 10))))
def c19 : J := (.sq [0] (.rg R19 0) (.ct [0] (.sq [0, 15] (.rg R19 1) (.cond (.t 15) (.sq [2] (.rg R19 2) .ret) .skip)) (.sq [] (.sq [0, 17, 18] (.rg R19 3) (.block 0 (.lp L19_0 0))) (.sq [2] (.rg R19 11) .ret))))
theorem comp19 : Tryz.f19.body.bind (comp Tryz.prog (GLm mx) 47 [] []) = some c19.ir := by kernel_rfl
theorem rv19 : Tryz.f19.results.toList.mapM (compRV Tryz.prog) = some [.tmp 2] := by kernel_rfl

def R20 : Nat → List GI
| 0 => [⟨none, .box 1 (.t 0)⟩,
  ⟨none, .mov 2 (.c (.int .i64 0))⟩]
| 1 => [⟨none, .fa 3 (.t 1) 0⟩,
  ⟨none, .load 4 (.t 3) 1 false⟩,
  ⟨none, .bin 5 .lss (.t 4) (.c (.int .i64 1))⟩,
  ⟨none, .mov 6 (.t 5)⟩,
  ⟨some (6, false), .fa 7 (.t 1) 0⟩,
  ⟨some (6, false), .load 8 (.t 7) 1 false⟩,
  ⟨some (6, false), .bin 9 .gtr (.t 8) (.c (.int .i64 5))⟩,
  ⟨none, .pick 10 (.t 6) (.c (.bool true)) (.t 9)⟩,
  ⟨none, .mov 11 (.t 10)⟩,
  ⟨some (11, false), .fa 12 (.t 1) 1⟩,
  ⟨some (11, false), .load 13 (.t 12) 1 false⟩,
  ⟨some (11, false), .lenl 14 (.t 13)⟩,
  ⟨some (11, false), .bin 15 .gtr (.t 14) (.c (.int .i64 0))⟩,
  ⟨some (11, false), .mov 16 (.t 15)⟩,
  ⟨some (16, true), .load 17 (.t 1) 3 true⟩,
  ⟨some (16, true), .call (some 18) 42 [(.t 17)]⟩,
  ⟨some (16, true), .un 19 .not (.t 18)⟩,
  ⟨some (11, false), .pick 20 (.t 16) (.t 19) (.c (.bool false))⟩,
  ⟨none, .pick 21 (.t 11) (.c (.bool true)) (.t 20)⟩]
| 2 => [⟨none, .mov 2 (.c (.int .i64 3))⟩]
| 3 => [⟨none, .fa 22 (.t 1) 0⟩,
  ⟨none, .load 23 (.t 22) 1 false⟩,
  ⟨none, .bin 24 .eql (.t 23) (.c (.int .i64 5))⟩,
  ⟨none, .fa 25 (.t 1) 2⟩,
  ⟨none, .load 26 (.t 25) 1 false⟩,
  ⟨none, .bin 27 .neq (.t 26) (.c (.str []))⟩,
  ⟨none, .eqb 28 true (.t 24) (.t 27)⟩,
  ⟨none, .mov 29 (.t 28)⟩,
  ⟨some (29, false), .fa 30 (.t 1) 2⟩,
  ⟨some (29, false), .load 31 (.t 30) 1 false⟩,
  ⟨some (29, false), .bin 32 .neq (.t 31) (.c (.str []))⟩,
  ⟨some (29, false), .mov 33 (.t 32)⟩,
  ⟨some (33, true), .fa 34 (.t 1) 2⟩,
  ⟨some (33, true), .load 35 (.t 34) 1 false⟩,
  ⟨some (33, true), .call (some 36) 19 [(.t 35)]⟩,
  ⟨some (33, true), .un 37 .not (.t 36)⟩,
  ⟨some (29, false), .pick 38 (.t 33) (.t 37) (.c (.bool false))⟩,
  ⟨none, .pick 39 (.t 29) (.c (.bool true)) (.t 38)⟩]
| 4 => [⟨none, .mov 2 (.c (.int .i64 3))⟩]
| 5 => [⟨none, .fa 40 (.t 1) 1⟩,
  ⟨none, .load 41 (.t 40) 1 false⟩,
  ⟨none, .call (some 42) 18 [(.t 41)]⟩,
  ⟨none, .bin 43 .neq (.t 42) (.c (.int .i64 0))⟩,
  ⟨none, .mov 44 (.t 43)⟩,
  ⟨some (44, false), .fa 45 (.t 1) 1⟩,
  ⟨some (44, false), .load 46 (.t 45) 1 false⟩,
  ⟨some (44, false), .call (some 47) 43 [(.t 46), (.f 44)]⟩,
  ⟨none, .pick 48 (.t 44) (.c (.bool true)) (.t 47)⟩]
| 6 => [⟨none, .mov 2 (.c (.int .i64 70))⟩]
| 7 => [⟨none, .mov 2 (.c (.int .i64 0))⟩]
| _ => []
def c20 : J := (.sq [1] (.rg R20 0) (.ct [1] (.sq [1, 21] (.rg R20 1) (.cond (.t 21) (.sq [2] (.rg R20 2) .ret) .skip)) (.ct [1] (.sq [1, 39] (.rg R20 3) (.cond (.t 39) (.sq [2] (.rg R20 4) .ret) .skip)) (.ct [] (.sq [48] (.rg R20 5) (.cond (.t 48) (.sq [2] (.rg R20 6) .ret) .skip)) (.sq [2] (.rg R20 7) .ret)))))
theorem comp20 : Tryz.f20.body.bind (comp Tryz.prog (GLm mx) 49 [] []) = some c20.ir := by kernel_rfl
theorem rv20 : Tryz.f20.results.toList.mapM (compRV Tryz.prog) = some [.tmp 2] := by kernel_rfl

def R21 : Nat → List GI
| 0 => [⟨none, .box 2 (.t 0)⟩,
  ⟨none, .box 3 (.t 1)⟩,
  ⟨none, .mov 4 (.c (.bool false))⟩]
| 1 => [⟨none, .load 5 (.t 2) 3 true⟩,
  ⟨none, .call (some 6) 17 [(.t 5)]⟩,
  ⟨none, .bin 7 .eql (.t 6) (.c (.int .i64 0))⟩,
  ⟨none, .mov 8 (.t 7)⟩,
  ⟨some (8, true), .fa 9 (.t 2) 0⟩,
  ⟨some (8, true), .load 10 (.t 9) 1 false⟩,
  ⟨some (8, true), .bin 11 .eql (.t 10) (.c (.int .i64 0))⟩,
  ⟨some (8, true), .mov 12 (.t 11)⟩,
  ⟨some (12, false), .fa 13 (.t 2) 0⟩,
  ⟨some (12, false), .load 14 (.t 13) 1 false⟩,
  ⟨some (12, false), .fa 15 (.t 3) 0⟩,
  ⟨some (12, false), .load 16 (.t 15) 1 false⟩,
  ⟨some (12, false), .bin 17 .eql (.t 14) (.t 16)⟩,
  ⟨some (8, true), .pick 18 (.t 12) (.c (.bool true)) (.t 17)⟩,
  ⟨none, .pick 19 (.t 8) (.t 18) (.c (.bool false))⟩,
  ⟨none, .mov 4 (.t 19)⟩]
| _ => []
def c21 : J := (.sq [2, 3] (.rg R21 0) (.sq [4] (.rg R21 1) .ret))
theorem comp21 : Tryz.f21.body.bind (comp Tryz.prog (GLm mx) 20 [] []) = some c21.ir := by kernel_rfl
theorem rv21 : Tryz.f21.results.toList.mapM (compRV Tryz.prog) = some [.tmp 4] := by kernel_rfl

def R22 : Nat → List GI
| 0 => [⟨none, .box 2 (.t 0)⟩,
  ⟨none, .box 3 (.t 1)⟩,
  ⟨none, .mov 4 (.c (.int .i64 0))⟩]
| 1 => [⟨none, .fa 7 (.t 3) 0⟩,
  ⟨none, .load 8 (.t 7) 1 false⟩,
  ⟨none, .call (some 9) 19 [(.t 8)]⟩,
  ⟨none, .un 10 .not (.t 9)⟩,
  ⟨none, .mov 11 (.t 10)⟩,
  ⟨some (11, false), .fa 12 (.t 3) 1⟩,
  ⟨some (11, false), .load 13 (.t 12) 1 false⟩,
  ⟨some (11, false), .call (some 14) 19 [(.t 13)]⟩,
  ⟨some (11, false), .un 15 .not (.t 14)⟩,
  ⟨none, .pick 16 (.t 11) (.c (.bool true)) (.t 15)⟩,
  ⟨none, .mov 17 (.t 16)⟩,
  ⟨some (17, false), .fa 18 (.t 3) 17⟩,
  ⟨some (17, false), .load 19 (.t 18) 1 false⟩,
  ⟨some (17, false), .bin 20 .lss (.t 19) (.c (.int .i64 0))⟩,
  ⟨none, .pick 21 (.t 17) (.c (.bool true)) (.t 20)⟩]
| 2 => [⟨none, .mov 4 (.c (.int .i64 3))⟩]
| 3 => [⟨none, .fa 22 (.t 3) 2⟩,
  ⟨none, .load 23 (.t 22) 3 true⟩,
  ⟨none, .call (some 24) 20 [(.t 23)]⟩,
  ⟨none, .mov 5 (.t 24)⟩]
| 4 => [⟨none, .mov 25 (.t 5)⟩,
  ⟨none, .bin 26 .neq (.t 25) (.c (.int .i64 0))⟩]
| 5 => [⟨none, .mov 27 (.t 5)⟩,
  ⟨none, .mov 4 (.t 27)⟩]
| 6 => [⟨none, .load 29 (.t 2) 4 true⟩,
  ⟨none, .fa 30 (.t 3) 1⟩,
  ⟨none, .load 31 (.t 30) 1 false⟩,
  ⟨none, .fa 32 (.t 3) 5⟩,
  ⟨none, .load 33 (.t 32) 12 true⟩,
  ⟨none, .call (some 34) 9 [(.t 29), (.t 31), (.t 33)]⟩,
  ⟨none, .mov 28 (.t 34)⟩,
  ⟨none, .ext 35 (.t 28) 0⟩,
  ⟨none, .ext 36 (.t 28) 1⟩,
  ⟨none, .alloc 6 [(.int .i64 0), (.sl []), (.str [])]⟩,
  ⟨none, .stfrz (.t 6) (.t 35) 3⟩,
  ⟨none, .mov 4 (.t 36)⟩]
| 7 => [⟨none, .mov 37 (.t 4)⟩,
  ⟨none, .bin 38 .neq (.t 37) (.c (.int .i64 0))⟩]
| 8 => [⟨none, .mov 39 (.t 4)⟩,
  ⟨none, .mov 4 (.t 39)⟩]
| 9 => [⟨none, .load 41 (.t 6) 3 true⟩,
  ⟨none, .fa 42 (.t 3) 2⟩,
  ⟨none, .load 43 (.t 42) 3 true⟩,
  ⟨none, .call (some 44) 45 [(.t 41), (.t 43)]⟩,
  ⟨none, .mov 40 (.t 44)⟩,
  ⟨none, .ext 45 (.t 40) 0⟩,
  ⟨none, .ext 46 (.t 40) 1⟩,
  ⟨none, .mov 4 (.t 46)⟩]
| 10 => [⟨none, .mov 47 (.t 4)⟩,
  ⟨none, .mov 4 (.t 47)⟩]
| _ => []
def c22 : J := (.sq [2, 3] (.rg R22 0) (.ct [2, 3] (.sq [2, 3, 21] (.rg R22 1) (.cond (.t 21) (.sq [4] (.rg R22 2) .ret) .skip)) (.ct [2, 3] (.sq [2, 3, 5] (.rg R22 3) (.sq [2, 3, 5, 26] (.rg R22 4) (.cond (.t 26) (.sq [4] (.rg R22 5) .ret) .skip))) (.sq [3, 4, 6] (.rg R22 6) (.ct [3, 6] (.sq [3, 4, 6, 38] (.rg R22 7) (.cond (.t 38) (.sq [4] (.rg R22 8) .ret) .skip)) (.sq [4] (.rg R22 9) (.sq [4] (.rg R22 10) .ret)))))))
theorem comp22 : Tryz.f22.body.bind (comp Tryz.prog (GLm mx) 48 [] []) = some c22.ir := by kernel_rfl
theorem rv22 : Tryz.f22.results.toList.mapM (compRV Tryz.prog) = some [.tmp 4] := by kernel_rfl

def R23 : Nat → List GI
| 0 => [⟨none, .alloc 2 [(.int .i64 0), (.str []), (.str []), (.str []), (.int .i64 0), (.int .i64 0), (.str []), (.sl []), (.int .i64 0), (.int .i64 0), (.int .i64 0), (.sl [])]⟩]
| 1 => [⟨none, .mov 3 (.t 0)⟩,
  ⟨none, .build 4 [(.int .i64 0), (.str []), (.str []), (.str []), (.int .i64 0), (.int .i64 0), (.str []), (.sl []), (.int .i64 0), (.int .i64 0), (.int .i64 0), (.sl [])] [(0, 1, (.c (.int .i64 3))), (2, 1, (.t 3))]⟩,
  ⟨none, .store (.t 2) (.t 4) 12⟩]
| _ => []
def c23 : J := (.sq [0, 2] (.rg R23 0) (.sq [2] (.rg R23 1) .ret))
theorem comp23 : Tryz.f23.body.bind (comp Tryz.prog (GLm mx) 5 [2] []) = some c23.ir := by kernel_rfl
theorem rv23 : Tryz.f23.results.toList.mapM (compRV Tryz.prog) = some [.cell 2 12 true] := by kernel_rfl

def R24 : Nat → List GI
| 0 => [⟨none, .box 1 (.t 0)⟩,
  ⟨none, .mov 2 (.c (.int .i64 0))⟩]
| 1 => [⟨none, .fa 4 (.t 1) 0⟩,
  ⟨none, .load 5 (.t 4) 1 false⟩,
  ⟨none, .bin 6 .lss (.t 5) (.c (.int .i64 1))⟩,
  ⟨none, .mov 7 (.t 6)⟩,
  ⟨some (7, false), .fa 8 (.t 1) 0⟩,
  ⟨some (7, false), .load 9 (.t 8) 1 false⟩,
  ⟨some (7, false), .bin 10 .gtr (.t 9) (.c (.int .i64 5))⟩,
  ⟨none, .pick 11 (.t 7) (.c (.bool true)) (.t 10)⟩]
| 2 => [⟨none, .mov 2 (.c (.int .i64 3))⟩]
| 3 => [⟨none, .fa 12 (.t 1) 0⟩,
  ⟨none, .load 13 (.t 12) 1 false⟩,
  ⟨none, .bin 14 .eql (.t 13) (.c (.int .i64 5))⟩,
  ⟨none, .mov 15 (.t 14)⟩,
  ⟨some (15, true), .fa 16 (.t 1) 2⟩,
  ⟨some (15, true), .load 17 (.t 16) 1 false⟩,
  ⟨some (15, true), .call (some 18) 46 [(.t 17)]⟩,
  ⟨some (15, true), .un 19 .not (.t 18)⟩,
  ⟨none, .pick 20 (.t 15) (.t 19) (.c (.bool false))⟩,
  ⟨none, .mov 21 (.t 20)⟩,
  ⟨some (21, false), .fa 22 (.t 1) 0⟩,
  ⟨some (21, false), .load 23 (.t 22) 1 false⟩,
  ⟨some (21, false), .bin 24 .neq (.t 23) (.c (.int .i64 5))⟩,
  ⟨some (21, false), .mov 25 (.t 24)⟩,
  ⟨some (25, true), .fa 26 (.t 1) 2⟩,
  ⟨some (25, true), .load 27 (.t 26) 1 false⟩,
  ⟨some (25, true), .bin 28 .neq (.t 27) (.c (.str []))⟩,
  ⟨some (21, false), .pick 29 (.t 25) (.t 28) (.c (.bool false))⟩,
  ⟨none, .pick 30 (.t 21) (.c (.bool true)) (.t 29)⟩,
  ⟨none, .mov 31 (.t 30)⟩,
  ⟨some (31, false), .load 32 (.t 1) 3 true⟩,
  ⟨some (31, false), .call (some 33) 10 [(.t 32)]⟩,
  ⟨some (31, false), .un 34 .not (.t 33)⟩,
  ⟨some (31, false), .mov 35 (.t 34)⟩,
  ⟨some (35, true), .fa 36 (.t 1) 1⟩,
  ⟨some (35, true), .load 37 (.t 36) 1 false⟩,
  ⟨some (35, true), .lenl 38 (.t 37)⟩,
  ⟨some (35, true), .bin 39 .gtr (.t 38) (.c (.int .i64 0))⟩,
  ⟨some (31, false), .pick 40 (.t 35) (.t 39) (.c (.bool false))⟩,
  ⟨none, .pick 41 (.t 31) (.c (.bool true)) (.t 40)⟩]
| 4 => [⟨none, .mov 2 (.c (.int .i64 3))⟩]
| 5 => [⟨none, .fa 42 (.t 1) 1⟩,
  ⟨none, .load 43 (.t 42) 1 false⟩,
  ⟨none, .call (some 44) 47 [(.t 43)]⟩,
  ⟨none, .bin 45 .neq (.t 44) (.c (.int .i64 0))⟩]
| 6 => [⟨none, .mov 2 (.c (.int .i64 70))⟩]
| 7 => [⟨none, .mov 3 (.c (.int .i64 0))⟩]
| 8 => [⟨none, .mov 46 (.t 3)⟩,
  ⟨none, .fa 47 (.t 1) 1⟩,
  ⟨none, .load 48 (.t 47) 1 false⟩,
  ⟨none, .lenl 49 (.t 48)⟩,
  ⟨none, .bin 50 .lss (.t 46) (.t 49)⟩]
| 9 => [⟨none, .fa 53 (.t 1) 1⟩,
  ⟨none, .load 54 (.t 53) 1 false⟩,
  ⟨none, .mov 55 (.t 3)⟩,
  ⟨none, .ia 56 (.t 54) (.t 55) 2⟩,
  ⟨none, .fa 57 (.t 56) 0⟩,
  ⟨none, .load 58 (.t 57) 1 false⟩,
  ⟨none, .call (some 59) 46 [(.t 58)]⟩,
  ⟨none, .un 60 .not (.t 59)⟩]
| 10 => [⟨none, .mov 2 (.c (.int .i64 70))⟩]
| 11 => [⟨none, .mov 51 (.t 3)⟩,
  ⟨none, .bin 52 .add (.t 51) (.c (.int .i64 1))⟩,
  ⟨none, .mov 3 (.t 52)⟩]
| 12 => [⟨none, .mov 2 (.c (.int .i64 0))⟩]
| _ => []
def L24_0 : Nat → J
| _ => (.ct [1, 3] (.sq [1, 3, 50] (.rg R24 8) (.cond (.t 50) .skip (.exit 0))) (.ct [1, 3] (.block 1 (.sq [1, 3, 60] (.rg R24 9) (.cond (.t 60) (.sq [2] (.rg R24 10) .ret) .skip))) (.rg R24 11)))
def c24 : J := (.sq [1] (.rg R24 0) (.ct [1] (.sq [1, 11] (.rg R24 1) (.cond (.t 11) (.sq [2] (.rg R24 2) .ret) .skip)) (.ct [1] (.sq [1, 41] (.rg R24 3) (.cond (.t 41) (.sq [2] (.rg R24 4) .ret) .skip)) (.ct [1] (.sq [1, 45] (.rg R24 5) (.cond (.t 45) (.sq [2] (.rg R24 6) .ret) .skip)) (.sq [] (.sq [1, 3] (.rg R24 7) (.block 0 (.lp L24_0 0))) (.sq [2] (.rg R24 12) .ret))))))
theorem comp24 : Tryz.f24.body.bind (comp Tryz.prog (GLm mx) 61 [] []) = some c24.ir := by kernel_rfl
theorem rv24 : Tryz.f24.results.toList.mapM (compRV Tryz.prog) = some [.tmp 2] := by kernel_rfl

def R25 : Nat → List GI
| 0 => [⟨none, .box 1 (.t 0)⟩,
  ⟨none, .mov 2 (.c (.int .i64 0))⟩]
| 1 => [⟨none, .fa 6 (.t 1) 0⟩,
  ⟨none, .load 7 (.t 6) 1 false⟩,
  ⟨none, .call (some 8) 19 [(.t 7)]⟩,
  ⟨none, .un 9 .not (.t 8)⟩,
  ⟨none, .mov 10 (.t 9)⟩,
  ⟨some (10, false), .fa 11 (.t 1) 1⟩,
  ⟨some (10, false), .load 12 (.t 11) 1 false⟩,
  ⟨some (10, false), .call (some 13) 19 [(.t 12)]⟩,
  ⟨some (10, false), .un 14 .not (.t 13)⟩,
  ⟨none, .pick 15 (.t 10) (.c (.bool true)) (.t 14)⟩,
  ⟨none, .mov 16 (.t 15)⟩,
  ⟨some (16, false), .fa 17 (.t 1) 3⟩,
  ⟨some (16, false), .load 18 (.t 17) 1 false⟩,
  ⟨some (16, false), .bin 19 .lss (.t 18) (.c (.int .i64 0))⟩,
  ⟨none, .pick 20 (.t 16) (.c (.bool true)) (.t 19)⟩,
  ⟨none, .mov 21 (.t 20)⟩,
  ⟨some (21, false), .fa 22 (.t 1) 3⟩,
  ⟨some (21, false), .load 23 (.t 22) 1 false⟩,
  ⟨some (21, false), .bin 24 .gtr (.t 23) (.c (.int .i64 1099511627776))⟩,
  ⟨none, .pick 25 (.t 21) (.c (.bool true)) (.t 24)⟩]
| 2 => [⟨none, .mov 2 (.c (.int .i64 3))⟩]
| 3 => [⟨none, .fa 26 (.t 1) 2⟩,
  ⟨none, .load 27 (.t 26) 1 false⟩,
  ⟨none, .lenl 28 (.t 27)⟩,
  ⟨none, .bin 29 .gtr (.t 28) (.c (.int .i64 8))⟩]
| 4 => [⟨none, .mov 2 (.c (.int .i64 2))⟩]
| 5 => [⟨none, .fa 30 (.t 1) 2⟩,
  ⟨none, .load 31 (.t 30) 1 false⟩,
  ⟨none, .lenl 32 (.t 31)⟩,
  ⟨none, .mov 33 (.c (.int .i64 0))⟩]
| 6 => [⟨none, .bin 34 .lss (.t 33) (.t 32)⟩]
| 7 => [⟨none, .mov 35 (.t 33)⟩,
  ⟨none, .ia 36 (.t 31) (.t 33) 4⟩,
  ⟨none, .load 37 (.t 36) 4 true⟩,
  ⟨none, .alloc 4 [(.str []), (.int .i64 0), (.sl []), (.str [])]⟩,
  ⟨none, .mov 3 (.t 35)⟩,
  ⟨none, .stfrz (.t 4) (.t 37) 4⟩]
| 8 => [⟨none, .fa 38 (.t 4) 0⟩,
  ⟨none, .load 39 (.t 38) 1 false⟩,
  ⟨none, .call (some 40) 19 [(.t 39)]⟩,
  ⟨none, .un 41 .not (.t 40)⟩]
| 9 => [⟨none, .mov 2 (.c (.int .i64 3))⟩]
| 10 => [⟨none, .fa 42 (.t 1) 2⟩,
  ⟨none, .load 43 (.t 42) 1 false⟩,
  ⟨none, .mov 44 (.t 3)⟩,
  ⟨none, .slc 45 (.t 43) none (some (.t 44)) 4⟩,
  ⟨none, .mkfn 46 49 [] [(.t 4)]⟩,
  ⟨none, .call (some 47) 48 [(.t 45), (.t 46)]⟩]
| 11 => [⟨none, .mov 2 (.c (.int .i64 121))⟩]
| 12 => [⟨none, .fa 48 (.t 4) 1⟩,
  ⟨none, .load 49 (.t 48) 3 true⟩,
  ⟨none, .call (some 50) 20 [(.t 49)]⟩,
  ⟨none, .mov 5 (.t 50)⟩]
| 13 => [⟨none, .mov 51 (.t 5)⟩,
  ⟨none, .bin 52 .neq (.t 51) (.c (.int .i64 0))⟩]
| 14 => [⟨none, .mov 53 (.t 5)⟩,
  ⟨none, .mov 2 (.t 53)⟩]
| 15 => [⟨none, .bin 54 .add (.t 33) (.c (.int .i64 1))⟩,
  ⟨none, .mov 33 (.t 54)⟩]
| 16 => [⟨none, .mov 2 (.c (.int .i64 0))⟩]
| _ => []
def L25_0 : Nat → J
| _ => (.sq [1, 31, 32, 33, 34] (.rg R25 6) (.ct [1, 31, 32, 33] (.cond (.t 34) .skip (.exit 0)) (.ct [1, 31, 32, 33] (.block 1 (.sq [1, 3, 4, 31, 32, 33] (.rg R25 7) (.ct [1, 3, 4, 31, 32, 33] (.sq [1, 3, 4, 31, 32, 33, 41] (.rg R25 8) (.cond (.t 41) (.sq [2] (.rg R25 9) .ret) .skip)) (.ct [1, 4, 31, 32, 33] (.sq [1, 4, 31, 32, 33, 47] (.rg R25 10) (.cond (.t 47) (.sq [2] (.rg R25 11) .ret) .skip)) (.sq [1, 5, 31, 32, 33] (.rg R25 12) (.sq [1, 5, 31, 32, 33, 52] (.rg R25 13) (.cond (.t 52) (.sq [2] (.rg R25 14) .ret) .skip))))))) (.rg R25 15))))
def c25 : J := (.sq [1] (.rg R25 0) (.ct [1] (.sq [1, 25] (.rg R25 1) (.cond (.t 25) (.sq [2] (.rg R25 2) .ret) .skip)) (.ct [1] (.sq [1, 29] (.rg R25 3) (.cond (.t 29) (.sq [2] (.rg R25 4) .ret) .skip)) (.sq [] (.sq [1, 31, 32, 33] (.rg R25 5) (.block 0 (.lp L25_0 0))) (.sq [2] (.rg R25 16) .ret)))))
theorem comp25 : Tryz.f25.body.bind (comp Tryz.prog (GLm mx) 55 [] []) = some c25.ir := by kernel_rfl
theorem rv25 : Tryz.f25.results.toList.mapM (compRV Tryz.prog) = some [.tmp 2] := by kernel_rfl

def R26 : Nat → List GI
| 0 => [⟨none, .box 1 (.t 0)⟩,
  ⟨none, .mov 2 (.c (.int .i64 0))⟩]
| 1 => [⟨none, .fa 6 (.t 1) 0⟩,
  ⟨none, .load 7 (.t 6) 1 false⟩,
  ⟨none, .call (some 8) 46 [(.t 7)]⟩,
  ⟨none, .un 9 .not (.t 8)⟩,
  ⟨none, .mov 10 (.t 9)⟩,
  ⟨some (10, false), .fa 11 (.t 1) 1⟩,
  ⟨some (10, false), .load 12 (.t 11) 1 false⟩,
  ⟨some (10, false), .call (some 13) 46 [(.t 12)]⟩,
  ⟨some (10, false), .un 14 .not (.t 13)⟩,
  ⟨none, .pick 15 (.t 10) (.c (.bool true)) (.t 14)⟩,
  ⟨none, .mov 16 (.t 15)⟩,
  ⟨some (16, false), .fa 17 (.t 1) 3⟩,
  ⟨some (16, false), .load 18 (.t 17) 1 false⟩,
  ⟨some (16, false), .bin 19 .lss (.t 18) (.c (.int .i64 0))⟩,
  ⟨none, .pick 20 (.t 16) (.c (.bool true)) (.t 19)⟩,
  ⟨none, .mov 21 (.t 20)⟩,
  ⟨some (21, false), .fa 22 (.t 1) 3⟩,
  ⟨some (21, false), .load 23 (.t 22) 1 false⟩,
  ⟨some (21, false), .bin 24 .gtr (.t 23) (.c (.int .i64 1099511627776))⟩,
  ⟨none, .pick 25 (.t 21) (.c (.bool true)) (.t 24)⟩]
| 2 => [⟨none, .mov 2 (.c (.int .i64 3))⟩]
| 3 => [⟨none, .fa 26 (.t 1) 2⟩,
  ⟨none, .load 27 (.t 26) 1 false⟩,
  ⟨none, .lenl 28 (.t 27)⟩,
  ⟨none, .bin 29 .gtr (.t 28) (.c (.int .i64 8))⟩]
| 4 => [⟨none, .mov 2 (.c (.int .i64 2))⟩]
| 5 => [⟨none, .mov 3 (.c (.int .i64 0))⟩]
| 6 => [⟨none, .mov 30 (.t 3)⟩,
  ⟨none, .fa 31 (.t 1) 2⟩,
  ⟨none, .load 32 (.t 31) 1 false⟩,
  ⟨none, .lenl 33 (.t 32)⟩,
  ⟨none, .bin 34 .lss (.t 30) (.t 33)⟩]
| 7 => [⟨none, .fa 37 (.t 1) 2⟩,
  ⟨none, .load 38 (.t 37) 1 false⟩,
  ⟨none, .mov 39 (.t 3)⟩,
  ⟨none, .ia 40 (.t 38) (.t 39) 4⟩,
  ⟨none, .fa 41 (.t 40) 0⟩,
  ⟨none, .load 42 (.t 41) 1 false⟩,
  ⟨none, .call (some 43) 46 [(.t 42)]⟩,
  ⟨none, .un 44 .not (.t 43)⟩]
| 8 => [⟨none, .mov 2 (.c (.int .i64 3))⟩]
| 9 => [⟨none, .mov 4 (.c (.int .i64 0))⟩]
| 10 => [⟨none, .mov 45 (.t 4)⟩,
  ⟨none, .mov 46 (.t 3)⟩,
  ⟨none, .bin 47 .lss (.t 45) (.t 46)⟩]
| 11 => [⟨none, .fa 50 (.t 1) 2⟩,
  ⟨none, .load 51 (.t 50) 1 false⟩,
  ⟨none, .mov 52 (.t 4)⟩,
  ⟨none, .ia 53 (.t 51) (.t 52) 4⟩,
  ⟨none, .fa 54 (.t 53) 0⟩,
  ⟨none, .load 55 (.t 54) 1 false⟩,
  ⟨none, .fa 56 (.t 1) 2⟩,
  ⟨none, .load 57 (.t 56) 1 false⟩,
  ⟨none, .mov 58 (.t 3)⟩,
  ⟨none, .ia 59 (.t 57) (.t 58) 4⟩,
  ⟨none, .fa 60 (.t 59) 0⟩,
  ⟨none, .load 61 (.t 60) 1 false⟩,
  ⟨none, .bin 62 .eql (.t 55) (.t 61)⟩]
| 12 => [⟨none, .mov 2 (.c (.int .i64 121))⟩]
| 13 => [⟨none, .mov 48 (.t 4)⟩,
  ⟨none, .bin 49 .add (.t 48) (.c (.int .i64 1))⟩,
  ⟨none, .mov 4 (.t 49)⟩]
| 14 => [⟨none, .fa 63 (.t 1) 2⟩,
  ⟨none, .load 64 (.t 63) 1 false⟩,
  ⟨none, .mov 65 (.t 3)⟩,
  ⟨none, .ia 66 (.t 64) (.t 65) 4⟩,
  ⟨none, .fa 67 (.t 66) 1⟩,
  ⟨none, .load 68 (.t 67) 3 true⟩,
  ⟨none, .call (some 69) 24 [(.t 68)]⟩,
  ⟨none, .mov 5 (.t 69)⟩]
| 15 => [⟨none, .mov 70 (.t 5)⟩,
  ⟨none, .bin 71 .neq (.t 70) (.c (.int .i64 0))⟩]
| 16 => [⟨none, .mov 72 (.t 5)⟩,
  ⟨none, .mov 2 (.t 72)⟩]
| 17 => [⟨none, .mov 35 (.t 3)⟩,
  ⟨none, .bin 36 .add (.t 35) (.c (.int .i64 1))⟩,
  ⟨none, .mov 3 (.t 36)⟩]
| 18 => [⟨none, .mov 2 (.c (.int .i64 0))⟩]
| _ => []
def L26_0 : Nat → J
| _ => (.ct [1, 3, 4] (.sq [1, 3, 4, 47] (.rg R26 10) (.cond (.t 47) .skip (.exit 2))) (.ct [1, 3, 4] (.block 3 (.sq [1, 3, 4, 62] (.dr [] [] R26 11 []) (.cond (.t 62) (.sq [2] (.rg R26 12) .ret) .skip))) (.rg R26 13)))
def L26_1 : Nat → J
| _ => (.ct [1, 3] (.sq [1, 3, 34] (.rg R26 6) (.cond (.t 34) .skip (.exit 0))) (.ct [1, 3] (.block 1 (.ct [1, 3] (.sq [1, 3, 44] (.rg R26 7) (.cond (.t 44) (.sq [2] (.rg R26 8) .ret) .skip)) (.sq [1, 3] (.sq [1, 3, 4] (.rg R26 9) (.block 2 (.lp L26_0 0))) (.sq [1, 3, 5] (.rg R26 14) (.sq [1, 3, 5, 71] (.rg R26 15) (.cond (.t 71) (.sq [2] (.rg R26 16) .ret) .skip)))))) (.rg R26 17)))
def c26 : J := (.sq [1] (.rg R26 0) (.ct [1] (.sq [1, 25] (.rg R26 1) (.cond (.t 25) (.sq [2] (.rg R26 2) .ret) .skip)) (.ct [1] (.sq [1, 29] (.rg R26 3) (.cond (.t 29) (.sq [2] (.rg R26 4) .ret) .skip)) (.sq [] (.sq [1, 3] (.rg R26 5) (.block 0 (.lp L26_1 0))) (.sq [2] (.rg R26 18) .ret)))))
theorem comp26 : Tryz.f26.body.bind (comp Tryz.prog (GLm mx) 73 [] []) = some c26.ir := by kernel_rfl
theorem rv26 : Tryz.f26.results.toList.mapM (compRV Tryz.prog) = some [.tmp 2] := by kernel_rfl

def R27 : Nat → List GI
| 0 => [⟨none, .box 4 (.t 0)⟩,
  ⟨none, .mov 8 (.c (.bool false))⟩]
| 1 => [⟨none, .call (some 12) 50 []⟩,
  ⟨none, .load 13 (.t 4) 12 true⟩,
  ⟨none, .call (some 14) 9 [(.t 12), (.c (.str [117, 115, 101, 114])), (.t 13)]⟩,
  ⟨none, .mov 11 (.t 14)⟩,
  ⟨none, .ext 15 (.t 11) 0⟩,
  ⟨none, .ext 16 (.t 11) 1⟩,
  ⟨none, .alloc 9 [(.int .i64 0), (.sl []), (.str [])]⟩,
  ⟨none, .store (.t 9) (.t 15) 3⟩,
  ⟨none, .mov 10 (.t 16)⟩]
| 2 => [⟨none, .mov 17 (.t 10)⟩,
  ⟨none, .mov 18 (.t 3)⟩,
  ⟨none, .bin 19 .eql (.t 17) (.t 18)⟩,
  ⟨none, .mov 20 (.t 19)⟩,
  ⟨some (20, true), .mov 21 (.t 3)⟩,
  ⟨some (20, true), .bin 22 .neq (.t 21) (.c (.int .i64 0))⟩,
  ⟨some (20, true), .mov 23 (.t 22)⟩,
  ⟨some (23, false), .load 24 (.t 9) 3 true⟩,
  ⟨some (23, false), .mov 25 (.t 1)⟩,
  ⟨some (23, false), .mov 26 (.t 2)⟩,
  ⟨some (23, false), .build 27 [(.int .i64 0), (.sl []), (.str [])] [(0, 1, (.t 25)), (1, 1, (.t 26))]⟩,
  ⟨some (23, false), .call (some 28) 14 [(.t 24), (.t 27)]⟩,
  ⟨some (20, true), .pick 29 (.t 23) (.c (.bool true)) (.t 28)⟩,
  ⟨none, .pick 30 (.t 20) (.t 29) (.c (.bool false))⟩,
  ⟨none, .mov 8 (.t 30)⟩]
| _ => []
def c27 : J := (.sq [1, 2, 3, 4] (.rg R27 0) (.sq [1, 2, 3, 9, 10] (.dr [9] [] R27 1 [9]) (.sq [8] (.rg R27 2) .ret)))
theorem comp27 : Tryz.f27.body.bind (comp Tryz.prog (GLm mx) 31 [] []) = some c27.ir := by kernel_rfl
theorem rv27 : Tryz.f27.results.toList.mapM (compRV Tryz.prog) = some [.tmp 8] := by kernel_rfl

def R28 : Nat → List GI
| 0 => [⟨none, .alloc 6 [(.int .i64 0), (.str []), (.str []), (.str []), (.int .i64 0), (.int .i64 0), (.str []), (.sl []), (.int .i64 0), (.int .i64 0), (.int .i64 0), (.sl [])]⟩]
| 1 => [⟨none, .mov 7 (.t 0)⟩,
  ⟨none, .mov 8 (.t 1)⟩,
  ⟨none, .build 9 [(.int .i64 0), (.int .i64 0)] [(0, 1, (.c (.int .i64 1)))]⟩,
  ⟨none, .mov 10 (.t 2)⟩,
  ⟨none, .build 11 [(.int .i64 0), (.str []), (.str []), (.str []), (.int .i64 0), (.int .i64 0), (.str []), (.sl []), (.int .i64 0), (.int .i64 0), (.int .i64 0), (.sl [])] [(0, 1, (.c (.int .i64 2))), (2, 1, (.t 10))]⟩,
  ⟨none, .call (some 12) 51 []⟩,
  ⟨none, .bsn 13 33 12 [(.t 11), (.t 12)]⟩,
  ⟨none, .build 14 [(.int .i64 0), (.str []), (.str []), (.str []), (.int .i64 0), (.int .i64 0), (.str []), (.sl []), (.int .i64 0), (.int .i64 0), (.int .i64 0), (.sl [])] [(0, 1, (.c (.int .i64 5))), (1, 1, (.t 7)), (3, 1, (.t 8)), (9, 2, (.t 9)), (11, 1, (.t 13))]⟩,
  ⟨none, .store (.t 6) (.t 14) 12⟩]
| _ => []
def c28 : J := (.sq [0, 1, 2, 6] (.rg R28 0) (.sq [6] (.rg R28 1) .ret))
theorem comp28 : Tryz.f28.body.bind (comp Tryz.prog (GLm mx) 15 [6] []) = some c28.ir := by kernel_rfl
theorem rv28 : Tryz.f28.results.toList.mapM (compRV Tryz.prog) = some [.cell 6 12 true] := by kernel_rfl

def R29 : Nat → List GI
| 0 => [⟨none, .nils 2 52 2⟩]
| 1 => [⟨none, .mov 3 (.t 0)⟩,
  ⟨none, .build 4 [(.str []), (.int .i64 0)] [(0, 1, (.c (.str [101, 117, 114]))), (1, 1, (.t 3))]⟩,
  ⟨none, .bsn 5 52 2 [(.t 4)]⟩,
  ⟨none, .mov 2 (.t 5)⟩]
| _ => []
def c29 : J := (.sq [0] (.rg R29 0) (.sq [2] (.rg R29 1) .ret))
theorem comp29 : Tryz.f29.body.bind (comp Tryz.prog (GLm mx) 6 [] []) = some c29.ir := by kernel_rfl
theorem rv29 : Tryz.f29.results.toList.mapM (compRV Tryz.prog) = some [.tmp 2] := by kernel_rfl

def R30 : Nat → List GI
| 0 => [⟨none, .alloc 6 [(.int .i64 0), (.str []), (.str []), (.str []), (.int .i64 0), (.int .i64 0), (.str []), (.sl []), (.int .i64 0), (.int .i64 0), (.int .i64 0), (.sl [])]⟩]
| 1 => [⟨none, .mov 7 (.t 0)⟩,
  ⟨none, .mov 8 (.t 1)⟩,
  ⟨none, .build 9 [(.int .i64 0), (.int .i64 0), (.str [])] [(0, 1, (.t 7)), (1, 1, (.t 8))]⟩,
  ⟨none, .mov 10 (.t 2)⟩,
  ⟨none, .build 11 [(.int .i64 0), (.str []), (.str []), (.str []), (.int .i64 0), (.int .i64 0), (.str []), (.sl []), (.int .i64 0), (.int .i64 0), (.int .i64 0), (.sl [])] [(0, 1, (.c (.int .i64 1))), (4, 3, (.t 9)), (7, 1, (.t 10))]⟩,
  ⟨none, .store (.t 6) (.t 11) 12⟩]
| _ => []
def c30 : J := (.sq [0, 1, 2, 6] (.rg R30 0) (.sq [6] (.rg R30 1) .ret))
theorem comp30 : Tryz.f30.body.bind (comp Tryz.prog (GLm mx) 12 [6] []) = some c30.ir := by kernel_rfl
theorem rv30 : Tryz.f30.results.toList.mapM (compRV Tryz.prog) = some [.cell 6 12 true] := by kernel_rfl

def R31 : Nat → List GI
| 0 => [⟨none, .box 1 (.t 0)⟩,
  ⟨none, .mov 2 (.c (.int .i64 0))⟩]
| 1 => [⟨none, .mov 2 (.c (.int .i64 1))⟩]
| 2 => [⟨none, .fa 5 (.t 1) 11⟩,
  ⟨none, .load 6 (.t 5) 1 false⟩,
  ⟨none, .lenl 7 (.t 6)⟩,
  ⟨none, .mov 8 (.c (.int .i64 0))⟩]
| 3 => [⟨none, .bin 9 .lss (.t 8) (.t 7)⟩]
| 4 => [⟨none, .ia 10 (.t 6) (.t 8) 12⟩,
  ⟨none, .load 11 (.t 10) 12 true⟩,
  ⟨none, .alloc 4 [(.int .i64 0), (.str []), (.str []), (.str []), (.int .i64 0), (.int .i64 0), (.str []), (.sl []), (.int .i64 0), (.int .i64 0), (.int .i64 0), (.sl [])]⟩,
  ⟨none, .stfrz (.t 4) (.t 11) 12⟩]
| 5 => [⟨none, .mov 12 (.t 2)⟩,
  ⟨none, .load 13 (.t 4) 12 true⟩,
  ⟨none, .call (some 14) 31 [(.t 13)]⟩,
  ⟨none, .bin 15 .add (.t 12) (.t 14)⟩,
  ⟨none, .mov 2 (.t 15)⟩]
| 6 => [⟨none, .bin 16 .add (.t 8) (.c (.int .i64 1))⟩,
  ⟨none, .mov 8 (.t 16)⟩]
| 7 => [⟨none, .mov 17 (.t 2)⟩,
  ⟨none, .mov 2 (.t 17)⟩]
| _ => []
def L31_0 : Nat → J
| _ => (.sq [2, 6, 7, 8, 9] (.rg R31 3) (.ct [2, 6, 7, 8] (.cond (.t 9) .skip (.exit 0)) (.sq [2, 6, 7, 8] (.block 1 (.sq [2, 4, 6, 7, 8] (.rg R31 4) (.rg R31 5))) (.rg R31 6))))
def c31 : J := (.sq [1] (.rg R31 0) (.sq [1, 2] (.rg R31 1) (.sq [2] (.sq [2, 6, 7, 8] (.rg R31 2) (.block 0 (.lp L31_0 0))) (.sq [2] (.rg R31 7) .ret))))
theorem comp31 : Tryz.f31.body.bind (comp Tryz.prog (GLm mx) 18 [] []) = some c31.ir := by kernel_rfl
theorem rv31 : Tryz.f31.results.toList.mapM (compRV Tryz.prog) = some [.tmp 2] := by kernel_rfl

def R32 : Nat → List GI
| 0 => [⟨none, .box 1 (.t 0)⟩,
  ⟨none, .mov 2 (.c (.int .i64 0))⟩]
| 1 => [⟨none, .fa 5 (.t 1) 11⟩,
  ⟨none, .load 6 (.t 5) 1 false⟩,
  ⟨none, .lenl 7 (.t 6)⟩,
  ⟨none, .mov 8 (.c (.int .i64 0))⟩]
| 2 => [⟨none, .bin 9 .lss (.t 8) (.t 7)⟩]
| 3 => [⟨none, .ia 10 (.t 6) (.t 8) 12⟩,
  ⟨none, .load 11 (.t 10) 12 true⟩,
  ⟨none, .alloc 4 [(.int .i64 0), (.str []), (.str []), (.str []), (.int .i64 0), (.int .i64 0), (.str []), (.sl []), (.int .i64 0), (.int .i64 0), (.int .i64 0), (.sl [])]⟩,
  ⟨none, .stfrz (.t 4) (.t 11) 12⟩]
| 4 => [⟨none, .mov 12 (.t 2)⟩,
  ⟨none, .load 13 (.t 4) 12 true⟩,
  ⟨none, .call (some 14) 32 [(.t 13)]⟩,
  ⟨none, .max 15 (.t 12) (.t 14)⟩,
  ⟨none, .mov 2 (.t 15)⟩]
| 5 => [⟨none, .bin 16 .add (.t 8) (.c (.int .i64 1))⟩,
  ⟨none, .mov 8 (.t 16)⟩]
| 6 => [⟨none, .mov 17 (.t 2)⟩,
  ⟨none, .bin 18 .add (.t 17) (.c (.int .i64 1))⟩,
  ⟨none, .mov 2 (.t 18)⟩]
| _ => []
def L32_0 : Nat → J
| _ => (.sq [2, 6, 7, 8, 9] (.rg R32 2) (.ct [2, 6, 7, 8] (.cond (.t 9) .skip (.exit 0)) (.sq [2, 6, 7, 8] (.block 1 (.sq [2, 4, 6, 7, 8] (.rg R32 3) (.rg R32 4))) (.rg R32 5))))
def c32 : J := (.sq [1, 2] (.rg R32 0) (.sq [2] (.sq [2, 6, 7, 8] (.rg R32 1) (.block 0 (.lp L32_0 0))) (.sq [2] (.rg R32 6) .ret)))
theorem comp32 : Tryz.f32.body.bind (comp Tryz.prog (GLm mx) 19 [] []) = some c32.ir := by kernel_rfl
theorem rv32 : Tryz.f32.results.toList.mapM (compRV Tryz.prog) = some [.tmp 2] := by kernel_rfl

def R33 : Nat → List GI
| 0 => [⟨none, .alloc 2 [(.int .i64 0), (.sl []), (.str [])]⟩,
  ⟨none, .mov 3 (.c (.int .i64 0))⟩]
| 1 => [⟨none, .build 4 [(.int .i64 0), (.sl []), (.str [])] []⟩,
  ⟨none, .mov 5 (.t 0)⟩,
  ⟨none, .store (.t 2) (.t 4) 3⟩,
  ⟨none, .mov 3 (.t 5)⟩]
| _ => []
def c33 : J := (.sq [0, 2] (.rg R33 0) (.sq [2, 3] (.rg R33 1) .ret))
theorem comp33 : Tryz.f33.body.bind (comp Tryz.prog (GLm mx) 6 [2] []) = some c33.ir := by kernel_rfl
theorem rv33 : Tryz.f33.results.toList.mapM (compRV Tryz.prog) = some [.cell 2 3 true, .tmp 3] := by kernel_rfl

def R34 : Nat → List GI
| 0 => [⟨none, .box 2 (.t 0)⟩,
  ⟨none, .box 3 (.t 1)⟩,
  ⟨none, .alloc 4 [(.int .i64 0), (.sl []), (.str [])]⟩,
  ⟨none, .mov 5 (.c (.int .i64 0))⟩]
| 1 => [⟨none, .load 14 (.t 2) 6 true⟩,
  ⟨none, .alloc 6 [(.sl []), (.sl []), (.sl []), (.sl []), (.str []), .nilfn]⟩,
  ⟨none, .store (.t 6) (.t 14) 6⟩]
| 2 => [⟨none, .fa 15 (.t 3) 0⟩,
  ⟨none, .load 16 (.t 15) 1 false⟩,
  ⟨none, .bin 17 .eql (.t 16) (.c (.int .i64 5))⟩]
| 3 => [⟨none, .fa 18 (.t 2) 0⟩,
  ⟨none, .fa 19 (.t 18) 0⟩,
  ⟨none, .load 20 (.t 19) 1 false⟩,
  ⟨none, .mkfn 21 53 [] [(.t 3)]⟩,
  ⟨none, .call (some 22) 52 [(.t 20), (.t 21)]⟩,
  ⟨none, .mov 7 (.t 22)⟩]
| 4 => [⟨none, .mov 23 (.t 7)⟩,
  ⟨none, .bin 24 .lss (.t 23) (.c (.int .i64 0))⟩]
| 5 => [⟨none, .call (some 25) 33 [(.c (.int .i64 4))]⟩,
  ⟨none, .ext 26 (.t 25) 0⟩,
  ⟨none, .ext 27 (.t 25) 1⟩,
  ⟨none, .store (.t 4) (.t 26) 3⟩,
  ⟨none, .mov 5 (.t 27)⟩]
| 6 => [⟨none, .fa 28 (.t 2) 0⟩,
  ⟨none, .fa 29 (.t 28) 0⟩,
  ⟨none, .load 30 (.t 29) 1 false⟩,
  ⟨none, .mov 31 (.t 7)⟩,
  ⟨none, .ia 32 (.t 30) (.t 31) 4⟩,
  ⟨none, .load 33 (.t 32) 4 true⟩,
  ⟨none, .alloc 8 [(.str []), (.str []), (.sl []), (.int .i64 0)]⟩,
  ⟨none, .stfrz (.t 8) (.t 33) 4⟩]
| 7 => [⟨none, .fa 34 (.t 8) 1⟩,
  ⟨none, .load 35 (.t 34) 1 false⟩,
  ⟨none, .fa 36 (.t 2) 4⟩,
  ⟨none, .load 37 (.t 36) 1 false⟩,
  ⟨none, .bin 38 .neq (.t 35) (.t 37)⟩]
| 8 => [⟨none, .call (some 39) 33 [(.c (.int .i64 5))]⟩,
  ⟨none, .ext 40 (.t 39) 0⟩,
  ⟨none, .ext 41 (.t 39) 1⟩,
  ⟨none, .store (.t 4) (.t 40) 3⟩,
  ⟨none, .mov 5 (.t 41)⟩]
| 9 => [⟨none, .mkfn 42 54 [] [(.t 8)]⟩,
  ⟨none, .fa 43 (.t 6) 5⟩,
  ⟨none, .store (.t 43) (.t 42) 1⟩]
| 10 => [⟨none, .nils 9 36 3⟩]
| 11 => [⟨none, .fa 44 (.t 3) 11⟩,
  ⟨none, .load 45 (.t 44) 1 false⟩,
  ⟨none, .lenl 46 (.t 45)⟩,
  ⟨none, .mov 47 (.c (.int .i64 0))⟩]
| 12 => [⟨none, .bin 48 .lss (.t 47) (.t 46)⟩]
| 13 => [⟨none, .ia 49 (.t 45) (.t 47) 12⟩,
  ⟨none, .load 50 (.t 49) 12 true⟩,
  ⟨none, .alloc 11 [(.int .i64 0), (.str []), (.str []), (.str []), (.int .i64 0), (.int .i64 0), (.str []), (.sl []), (.int .i64 0), (.int .i64 0), (.int .i64 0), (.sl [])]⟩,
  ⟨none, .stfrz (.t 11) (.t 50) 12⟩]
| 14 => [⟨none, .load 52 (.t 6) 6 true⟩,
  ⟨none, .load 53 (.t 11) 12 true⟩,
  ⟨none, .call (some 54) 34 [(.t 52), (.t 53)]⟩,
  ⟨none, .mov 51 (.t 54)⟩,
  ⟨none, .ext 55 (.t 51) 0⟩,
  ⟨none, .ext 56 (.t 51) 1⟩,
  ⟨none, .alloc 12 [(.int .i64 0), (.sl []), (.str [])]⟩,
  ⟨none, .stfrz (.t 12) (.t 55) 3⟩,
  ⟨none, .mov 13 (.t 56)⟩]
| 15 => [⟨none, .mov 57 (.t 13)⟩,
  ⟨none, .bin 58 .neq (.t 57) (.c (.int .i64 0))⟩]
| 16 => [⟨none, .mov 59 (.t 13)⟩,
  ⟨none, .call (some 60) 33 [(.t 59)]⟩,
  ⟨none, .ext 61 (.t 60) 0⟩,
  ⟨none, .ext 62 (.t 60) 1⟩,
  ⟨none, .store (.t 4) (.t 61) 3⟩,
  ⟨none, .mov 5 (.t 62)⟩]
| 17 => [⟨none, .mov 63 (.t 9)⟩,
  ⟨none, .load 64 (.t 12) 3 true⟩,
  ⟨none, .bsn 65 36 3 [(.t 64)]⟩,
  ⟨none, .app 66 36 3 48 (.t 63) (.t 65)⟩,
  ⟨none, .mov 9 (.t 66)⟩]
| 18 => [⟨none, .bin 67 .add (.t 47) (.c (.int .i64 1))⟩,
  ⟨none, .mov 47 (.t 67)⟩]
| 19 => [⟨none, .load 68 (.t 2) 6 true⟩,
  ⟨none, .fa 69 (.t 3) 0⟩,
  ⟨none, .load 70 (.t 69) 1 false⟩,
  ⟨none, .call (some 71) 57 [(.t 68), (.t 70)]⟩,
  ⟨none, .load 72 (.t 3) 12 true⟩,
  ⟨none, .mov 73 (.t 9)⟩,
  ⟨none, .callv (some 74) (.t 71) [(.t 72), (.t 73)]⟩,
  ⟨none, .ext 75 (.t 74) 0⟩,
  ⟨none, .ext 76 (.t 74) 1⟩,
  ⟨none, .store (.t 4) (.t 75) 3⟩,
  ⟨none, .mov 5 (.t 76)⟩]
| _ => []
def L34_0 : Nat → J
| _ => (.sq [2, 3, 4, 6, 9, 45, 46, 47, 48] (.rg R34 12) (.ct [2, 3, 4, 6, 9, 45, 46, 47] (.cond (.t 48) .skip (.exit 0)) (.ct [2, 3, 4, 6, 9, 45, 46, 47] (.block 1 (.sq [2, 3, 4, 6, 9, 11, 45, 46, 47] (.rg R34 13) (.sq [2, 3, 4, 6, 9, 12, 13, 45, 46, 47] (.rg R34 14) (.ct [2, 3, 4, 6, 9, 12, 45, 46, 47] (.sq [2, 3, 4, 6, 9, 12, 13, 45, 46, 47, 58] (.rg R34 15) (.cond (.t 58) (.sq [4, 5] (.rg R34 16) .ret) .skip)) (.rg R34 17))))) (.rg R34 18))))
def c34 : J := (.sq [2, 3, 4] (.rg R34 0) (.sq [2, 3, 4, 6] (.rg R34 1) (.ct [2, 3, 4, 6] (.sq [2, 3, 4, 6, 17] (.rg R34 2) (.cond (.t 17) (.sq [2, 3, 4, 6, 7] (.rg R34 3) (.ct [2, 3, 4, 6, 7] (.sq [2, 3, 4, 6, 7, 24] (.rg R34 4) (.cond (.t 24) (.sq [4, 5] (.rg R34 5) .ret) .skip)) (.sq [2, 3, 4, 6, 8] (.rg R34 6) (.ct [2, 3, 4, 6, 8] (.sq [2, 3, 4, 6, 8, 38] (.rg R34 7) (.cond (.t 38) (.sq [4, 5] (.rg R34 8) .ret) .skip)) (.rg R34 9))))) .skip)) (.sq [2, 3, 4, 6, 9] (.rg R34 10) (.sq [2, 3, 4, 9] (.sq [2, 3, 4, 6, 9, 45, 46, 47] (.rg R34 11) (.block 0 (.lp L34_0 0))) (.sq [4, 5] (.dr [4] [(.t 9)] R34 19 []) .ret))))))
theorem comp34 : Tryz.f34.body.bind (comp Tryz.prog (GLm mx) 77 [6, 4, 43] []) = some c34.ir := by kernel_rfl
theorem rv34 : Tryz.f34.results.toList.mapM (compRV Tryz.prog) = some [.cell 4 3 true, .tmp 5] := by kernel_rfl

def R35 : Nat → List GI
| 0 => [⟨none, .box 2 (.t 0)⟩,
  ⟨none, .mov 4 (.c (.bool false))⟩]
| 1 => [⟨none, .fa 12 (.t 2) 0⟩,
  ⟨none, .load 13 (.t 12) 1 false⟩,
  ⟨none, .build 14 [(.int .i64 0), (.str []), (.str []), (.str []), (.int .i64 0), (.int .i64 0), (.str []), (.sl []), (.int .i64 0), (.int .i64 0), (.int .i64 0), (.sl [])] [(0, 1, (.t 13))]⟩,
  ⟨none, .alloc 5 [(.int .i64 0), (.str []), (.str []), (.str []), (.int .i64 0), (.int .i64 0), (.str []), (.sl []), (.int .i64 0), (.int .i64 0), (.int .i64 0), (.sl [])]⟩,
  ⟨none, .store (.t 5) (.t 14) 12⟩]
| 2 => [⟨none, .mov 6 (.c (.int .i64 0))⟩]
| 3 => [⟨none, .fa 15 (.t 2) 0⟩,
  ⟨none, .load 16 (.t 15) 1 false⟩]
| 4 => [⟨none, .bin 18 .eql (.t 16) (.c (.int .i64 1))⟩,
  ⟨none, .mov 17 (.t 18)⟩]
| 5 => [⟨none, .fa 19 (.t 2) 4⟩,
  ⟨none, .load 20 (.t 19) 3 true⟩,
  ⟨none, .fa 21 (.t 2) 7⟩,
  ⟨none, .load 22 (.t 21) 1 false⟩,
  ⟨none, .fa 23 (.t 2) 2⟩,
  ⟨none, .load 24 (.t 23) 1 false⟩,
  ⟨none, .fa 25 (.t 5) 4⟩,
  ⟨none, .store (.t 25) (.t 20) 3⟩,
  ⟨none, .fa 26 (.t 5) 7⟩,
  ⟨none, .store (.t 26) (.t 22) 1⟩,
  ⟨none, .fa 27 (.t 5) 2⟩,
  ⟨none, .store (.t 27) (.t 24) 1⟩]
| 6 => [⟨none, .fa 28 (.t 2) 4⟩,
  ⟨none, .load 29 (.t 28) 3 true⟩,
  ⟨none, .call (some 30) 17 [(.t 29)]⟩,
  ⟨none, .bin 31 .neq (.t 30) (.c (.int .i64 0))⟩,
  ⟨none, .mov 32 (.t 31)⟩,
  ⟨some (32, false), .fa 33 (.t 2) 4⟩,
  ⟨some (32, false), .fa 34 (.t 33) 1⟩,
  ⟨some (32, false), .load 35 (.t 34) 1 false⟩,
  ⟨some (32, false), .bin 36 .lss (.t 35) (.c (.int .i64 0))⟩,
  ⟨none, .pick 37 (.t 32) (.c (.bool true)) (.t 36)⟩,
  ⟨none, .mov 38 (.t 37)⟩,
  ⟨some (38, false), .fa 39 (.t 2) 4⟩,
  ⟨some (38, false), .fa 40 (.t 39) 0⟩,
  ⟨some (38, false), .load 41 (.t 40) 1 false⟩,
  ⟨some (38, false), .fa 42 (.t 2) 7⟩,
  ⟨some (38, false), .load 43 (.t 42) 1 false⟩,
  ⟨some (38, false), .fa 44 (.t 2) 2⟩,
  ⟨some (38, false), .load 45 (.t 44) 1 false⟩,
  ⟨some (38, false), .build 46 [(.int .i64 0), (.sl []), (.str [])] [(0, 1, (.t 41)), (1, 1, (.t 43)), (2, 1, (.t 45))]⟩,
  ⟨some (38, false), .call (some 47) 20 [(.t 46)]⟩,
  ⟨some (38, false), .bin 48 .neq (.t 47) (.c (.int .i64 0))⟩,
  ⟨none, .pick 49 (.t 38) (.c (.bool true)) (.t 48)⟩]
| 7 => [⟨none, .mov 4 (.c (.bool false))⟩]
| 8 => [⟨none, .bin 51 .eql (.t 16) (.c (.int .i64 2))⟩,
  ⟨none, .mov 50 (.t 51)⟩]
| 9 => [⟨none, .bin 52 .eql (.t 16) (.c (.int .i64 3))⟩,
  ⟨none, .mov 50 (.t 52)⟩]
| 10 => [⟨none, .bin 53 .eql (.t 16) (.c (.int .i64 4))⟩,
  ⟨none, .mov 50 (.t 53)⟩]
| 11 => [⟨none, .fa 54 (.t 2) 2⟩,
  ⟨none, .load 55 (.t 54) 1 false⟩,
  ⟨none, .fa 56 (.t 5) 2⟩,
  ⟨none, .store (.t 56) (.t 55) 1⟩]
| 12 => [⟨none, .mov 57 (.t 1)⟩,
  ⟨none, .fa 58 (.t 2) 0⟩,
  ⟨none, .load 59 (.t 58) 1 false⟩,
  ⟨none, .bin 60 .eql (.t 59) (.c (.int .i64 2))⟩,
  ⟨none, .eqb 61 true (.t 57) (.t 60)⟩,
  ⟨none, .mov 62 (.t 61)⟩,
  ⟨some (62, false), .fa 63 (.t 2) 2⟩,
  ⟨some (62, false), .load 64 (.t 63) 1 false⟩,
  ⟨some (62, false), .call (some 65) 19 [(.t 64)]⟩,
  ⟨some (62, false), .un 66 .not (.t 65)⟩,
  ⟨none, .pick 67 (.t 62) (.c (.bool true)) (.t 66)⟩]
| 13 => [⟨none, .mov 4 (.c (.bool false))⟩]
| 14 => [⟨none, .fa 68 (.t 2) 0⟩,
  ⟨none, .load 69 (.t 68) 1 false⟩,
  ⟨none, .bin 70 .eql (.t 69) (.c (.int .i64 4))⟩]
| 15 => [⟨none, .mov 6 (.c (.int .i64 1))⟩]
| 16 => [⟨none, .bin 72 .eql (.t 16) (.c (.int .i64 5))⟩,
  ⟨none, .mov 71 (.t 72)⟩]
| 17 => [⟨none, .fa 73 (.t 2) 1⟩,
  ⟨none, .load 74 (.t 73) 1 false⟩,
  ⟨none, .fa 75 (.t 2) 3⟩,
  ⟨none, .load 76 (.t 75) 1 false⟩,
  ⟨none, .fa 77 (.t 2) 8⟩,
  ⟨none, .load 78 (.t 77) 1 false⟩,
  ⟨none, .fa 79 (.t 2) 9⟩,
  ⟨none, .load 80 (.t 79) 2 true⟩,
  ⟨none, .fa 81 (.t 5) 1⟩,
  ⟨none, .store (.t 81) (.t 74) 1⟩,
  ⟨none, .fa 82 (.t 5) 3⟩,
  ⟨none, .store (.t 82) (.t 76) 1⟩,
  ⟨none, .fa 83 (.t 5) 8⟩,
  ⟨none, .store (.t 83) (.t 78) 1⟩,
  ⟨none, .fa 84 (.t 5) 9⟩,
  ⟨none, .store (.t 84) (.t 80) 2⟩]
| 18 => [⟨none, .mov 6 (.c (.int .i64 2))⟩]
| 19 => [⟨none, .mov 7 (.c (.int .i64 0))⟩,
  ⟨none, .mov 8 (.c (.int .i64 0))⟩]
| 20 => [⟨none, .fa 85 (.t 2) 1⟩,
  ⟨none, .load 86 (.t 85) 1 false⟩]
| 21 => [⟨none, .bin 88 .eql (.t 86) (.c (.str [113, 117, 97, 110, 116, 105, 108, 101]))⟩,
  ⟨none, .mov 87 (.t 88)⟩]
| 22 => [⟨none, .mov 7 (.c (.int .i64 1))⟩,
  ⟨none, .mov 8 (.c (.int .i64 1000))⟩]
| 23 => [⟨none, .bin 90 .eql (.t 86) (.c (.str [100, 101, 99, 97, 121]))⟩,
  ⟨none, .mov 89 (.t 90)⟩]
| 24 => [⟨none, .mov 7 (.c (.int .i64 1))⟩,
  ⟨none, .mov 8 (.c (.int .i64 1073741824))⟩]
| 25 => [⟨none, .mov 91 (.t 1)⟩,
  ⟨none, .mov 92 (.t 91)⟩,
  ⟨some (92, false), .load 93 (.g 0) 1 false⟩,
  ⟨some (92, false), .fa 94 (.t 2) 1⟩,
  ⟨some (92, false), .load 95 (.t 94) 1 false⟩,
  ⟨some (92, false), .call (some 96) 58 [(.t 93), (.t 95)]⟩,
  ⟨some (92, false), .un 97 .not (.t 96)⟩,
  ⟨none, .pick 98 (.t 92) (.c (.bool true)) (.t 97)⟩,
  ⟨none, .mov 99 (.t 98)⟩,
  ⟨some (99, false), .fa 100 (.t 2) 3⟩,
  ⟨some (99, false), .load 101 (.t 100) 1 false⟩,
  ⟨some (99, false), .call (some 102) 19 [(.t 101)]⟩,
  ⟨some (99, false), .un 103 .not (.t 102)⟩,
  ⟨none, .pick 104 (.t 99) (.c (.bool true)) (.t 103)⟩,
  ⟨none, .mov 105 (.t 104)⟩,
  ⟨some (105, false), .fa 106 (.t 2) 8⟩,
  ⟨some (105, false), .load 107 (.t 106) 1 false⟩,
  ⟨some (105, false), .mov 108 (.t 7)⟩,
  ⟨some (105, false), .bin 109 .lss (.t 107) (.t 108)⟩,
  ⟨none, .pick 110 (.t 105) (.c (.bool true)) (.t 109)⟩,
  ⟨none, .mov 111 (.t 110)⟩,
  ⟨some (111, false), .fa 112 (.t 2) 8⟩,
  ⟨some (111, false), .load 113 (.t 112) 1 false⟩,
  ⟨some (111, false), .mov 114 (.t 8)⟩,
  ⟨some (111, false), .bin 115 .gtr (.t 113) (.t 114)⟩,
  ⟨none, .pick 116 (.t 111) (.c (.bool true)) (.t 115)⟩]
| 26 => [⟨none, .mov 4 (.c (.bool false))⟩]
| 27 => [⟨none, .fa 117 (.t 2) 9⟩,
  ⟨none, .fa 118 (.t 117) 0⟩,
  ⟨none, .load 119 (.t 118) 1 false⟩,
  ⟨none, .bin 120 .lss (.t 119) (.c (.int .i64 1))⟩,
  ⟨none, .mov 121 (.t 120)⟩,
  ⟨some (121, false), .fa 122 (.t 2) 9⟩,
  ⟨some (121, false), .fa 123 (.t 122) 0⟩,
  ⟨some (121, false), .load 124 (.t 123) 1 false⟩,
  ⟨some (121, false), .bin 125 .gtr (.t 124) (.c (.int .i64 4))⟩,
  ⟨none, .pick 126 (.t 121) (.c (.bool true)) (.t 125)⟩,
  ⟨none, .mov 127 (.t 126)⟩,
  ⟨some (127, false), .fa 128 (.t 2) 9⟩,
  ⟨some (127, false), .fa 129 (.t 128) 0⟩,
  ⟨some (127, false), .load 130 (.t 129) 1 false⟩,
  ⟨some (127, false), .bin 131 .eql (.t 130) (.c (.int .i64 1))⟩,
  ⟨some (127, false), .fa 132 (.t 2) 9⟩,
  ⟨some (127, false), .fa 133 (.t 132) 1⟩,
  ⟨some (127, false), .load 134 (.t 133) 1 false⟩,
  ⟨some (127, false), .bin 135 .eql (.t 134) (.c (.int .i64 0))⟩,
  ⟨some (127, false), .eqb 136 true (.t 131) (.t 135)⟩,
  ⟨none, .pick 137 (.t 127) (.c (.bool true)) (.t 136)⟩,
  ⟨none, .mov 138 (.t 137)⟩,
  ⟨some (138, false), .fa 139 (.t 2) 9⟩,
  ⟨some (138, false), .fa 140 (.t 139) 1⟩,
  ⟨some (138, false), .load 141 (.t 140) 1 false⟩,
  ⟨some (138, false), .bin 142 .lss (.t 141) (.c (.int .i64 0))⟩,
  ⟨none, .pick 143 (.t 138) (.c (.bool true)) (.t 142)⟩,
  ⟨none, .mov 144 (.t 143)⟩,
  ⟨some (144, false), .fa 145 (.t 2) 9⟩,
  ⟨some (144, false), .fa 146 (.t 145) 1⟩,
  ⟨some (144, false), .load 147 (.t 146) 1 false⟩,
  ⟨some (144, false), .bin 148 .gtr (.t 147) (.c (.int .i64 1099511627776))⟩,
  ⟨none, .pick 149 (.t 144) (.c (.bool true)) (.t 148)⟩]
| 28 => [⟨none, .mov 4 (.c (.bool false))⟩]
| 29 => [⟨none, .mov 1 (.c (.bool true))⟩]
| 30 => [⟨none, .bin 151 .eql (.t 16) (.c (.int .i64 6))⟩,
  ⟨none, .mov 150 (.t 151)⟩]
| 31 => [⟨none, .fa 152 (.t 2) 1⟩,
  ⟨none, .load 153 (.t 152) 1 false⟩,
  ⟨none, .fa 154 (.t 5) 1⟩,
  ⟨none, .store (.t 154) (.t 153) 1⟩,
  ⟨none, .mov 6 (.c (.int .i64 1))⟩]
| 32 => [⟨none, .load 155 (.g 1) 1 false⟩,
  ⟨none, .fa 156 (.t 2) 1⟩,
  ⟨none, .load 157 (.t 156) 1 false⟩,
  ⟨none, .call (some 158) 58 [(.t 155), (.t 157)]⟩,
  ⟨none, .un 159 .not (.t 158)⟩]
| 33 => [⟨none, .mov 4 (.c (.bool false))⟩]
| 34 => [⟨none, .bin 161 .eql (.t 16) (.c (.int .i64 7))⟩,
  ⟨none, .mov 160 (.t 161)⟩]
| 35 => [⟨none, .fa 162 (.t 2) 1⟩,
  ⟨none, .load 163 (.t 162) 1 false⟩,
  ⟨none, .fa 164 (.t 5) 1⟩,
  ⟨none, .store (.t 164) (.t 163) 1⟩,
  ⟨none, .mov 6 (.c (.int .i64 2))⟩]
| 36 => [⟨none, .load 165 (.g 2) 1 false⟩,
  ⟨none, .fa 166 (.t 2) 1⟩,
  ⟨none, .load 167 (.t 166) 1 false⟩,
  ⟨none, .call (some 168) 58 [(.t 165), (.t 167)]⟩,
  ⟨none, .un 169 .not (.t 168)⟩]
| 37 => [⟨none, .mov 4 (.c (.bool false))⟩]
| 38 => [⟨none, .bin 171 .eql (.t 16) (.c (.int .i64 8))⟩,
  ⟨none, .mov 170 (.t 171)⟩]
| 39 => [⟨none, .mov 6 (.c (.int .i64 3))⟩]
| 40 => [⟨none, .bin 173 .eql (.t 16) (.c (.int .i64 9))⟩,
  ⟨none, .mov 172 (.t 173)⟩]
| 41 => [⟨none, .mov 6 (.c (.int .i64 2))⟩]
| 42 => [⟨none, .mov 4 (.c (.bool false))⟩]
| 43 => [⟨none, .load 174 (.t 2) 12 true⟩,
  ⟨none, .load 175 (.t 5) 12 true⟩,
  ⟨none, .call (some 176) 59 [(.t 174), (.t 175)]⟩,
  ⟨none, .un 177 .not (.t 176)⟩,
  ⟨none, .mov 178 (.t 177)⟩,
  ⟨some (178, false), .fa 179 (.t 2) 11⟩,
  ⟨some (178, false), .load 180 (.t 179) 1 false⟩,
  ⟨some (178, false), .lenl 181 (.t 180)⟩,
  ⟨some (178, false), .mov 182 (.t 6)⟩,
  ⟨some (178, false), .bin 183 .neq (.t 181) (.t 182)⟩,
  ⟨none, .pick 184 (.t 178) (.c (.bool true)) (.t 183)⟩]
| 44 => [⟨none, .mov 4 (.c (.bool false))⟩]
| 45 => [⟨none, .fa 185 (.t 2) 11⟩,
  ⟨none, .load 186 (.t 185) 1 false⟩,
  ⟨none, .lenl 187 (.t 186)⟩,
  ⟨none, .mov 188 (.c (.int .i64 0))⟩]
| 46 => [⟨none, .bin 189 .lss (.t 188) (.t 187)⟩]
| 47 => [⟨none, .ia 190 (.t 186) (.t 188) 12⟩,
  ⟨none, .load 191 (.t 190) 12 true⟩,
  ⟨none, .alloc 10 [(.int .i64 0), (.str []), (.str []), (.str []), (.int .i64 0), (.int .i64 0), (.str []), (.sl []), (.int .i64 0), (.int .i64 0), (.int .i64 0), (.sl [])]⟩,
  ⟨none, .stfrz (.t 10) (.t 191) 12⟩]
| 48 => [⟨none, .load 192 (.t 10) 12 true⟩,
  ⟨none, .mov 193 (.t 1)⟩,
  ⟨none, .call (some 194) 35 [(.t 192), (.t 193)]⟩,
  ⟨none, .un 195 .not (.t 194)⟩]
| 49 => [⟨none, .mov 4 (.c (.bool false))⟩]
| 50 => [⟨none, .bin 196 .add (.t 188) (.c (.int .i64 1))⟩,
  ⟨none, .mov 188 (.t 196)⟩]
| 51 => [⟨none, .fa 197 (.t 2) 1⟩,
  ⟨none, .load 198 (.t 197) 1 false⟩,
  ⟨none, .bin 199 .eql (.t 198) (.c (.str [99, 111, 117, 110, 116]))⟩,
  ⟨none, .mov 200 (.t 199)⟩,
  ⟨some (200, true), .fa 201 (.t 2) 0⟩,
  ⟨some (200, true), .load 202 (.t 201) 1 false⟩,
  ⟨some (200, true), .bin 203 .eql (.t 202) (.c (.int .i64 5))⟩,
  ⟨none, .pick 204 (.t 200) (.t 203) (.c (.bool false))⟩]
| 52 => [⟨none, .fa 205 (.t 2) 11⟩,
  ⟨none, .load 206 (.t 205) 1 false⟩,
  ⟨none, .ia 207 (.t 206) (.c (.int .i64 0)) 12⟩,
  ⟨none, .load 208 (.t 207) 12 true⟩,
  ⟨none, .alloc 11 [(.int .i64 0), (.str []), (.str []), (.str []), (.int .i64 0), (.int .i64 0), (.str []), (.sl []), (.int .i64 0), (.int .i64 0), (.int .i64 0), (.sl [])]⟩,
  ⟨none, .stfrz (.t 11) (.t 208) 12⟩]
| 53 => [⟨none, .load 209 (.t 11) 12 true⟩,
  ⟨none, .build 210 [(.int .i64 0), (.int .i64 0), (.str [])] [(0, 1, (.c (.int .i64 1))), (1, 1, (.c (.int .i64 1)))]⟩,
  ⟨none, .build 211 [(.int .i64 0), (.str []), (.str []), (.str []), (.int .i64 0), (.int .i64 0), (.str []), (.sl []), (.int .i64 0), (.int .i64 0), (.int .i64 0), (.sl [])] [(0, 1, (.c (.int .i64 1))), (4, 3, (.t 210))]⟩,
  ⟨none, .call (some 212) 59 [(.t 209), (.t 211)]⟩,
  ⟨none, .mov 4 (.t 212)⟩]
| 54 => [⟨none, .mov 4 (.c (.bool true))⟩]
| _ => []
def L35_0 : Nat → J
| _ => (.sq [1, 2, 186, 187, 188, 189] (.rg R35 46) (.ct [1, 2, 186, 187, 188] (.cond (.t 189) .skip (.exit 2)) (.ct [1, 2, 186, 187, 188] (.block 3 (.sq [1, 2, 10, 186, 187, 188] (.rg R35 47) (.sq [1, 2, 186, 187, 188, 195] (.rg R35 48) (.cond (.t 195) (.sq [4] (.rg R35 49) .ret) .skip)))) (.rg R35 50))))
def c35 : J := (.sq [1, 2] (.rg R35 0) (.sq [1, 2, 5] (.rg R35 1) (.sq [1, 2, 5, 6] (.rg R35 2) (.ct [1, 2, 5, 6] (.sq [1, 2, 5, 6, 16] (.rg R35 3) (.block 0 (.sq [1, 2, 5, 6, 16, 17] (.rg R35 4) (.cond (.t 17) (.sq [1, 2, 5, 6] (.dr [5, 5, 5] [] R35 5 []) (.sq [1, 2, 5, 6, 49] (.rg R35 6) (.cond (.t 49) (.sq [4] (.rg R35 7) .ret) .skip))) (.ct [1, 2, 5, 6, 16, 50] (.sq [1, 2, 5, 6, 16, 50] (.rg R35 8) (.cond (.t 50) .skip (.sq [1, 2, 5, 6, 16, 50] (.rg R35 9) (.cond (.t 50) .skip (.rg R35 10))))) (.cond (.t 50) (.sq [1, 2, 5, 6] (.rg R35 11) (.ct [1, 2, 5, 6] (.sq [1, 2, 5, 6, 67] (.rg R35 12) (.cond (.t 67) (.sq [4] (.rg R35 13) .ret) .skip)) (.sq [1, 2, 5, 6, 70] (.rg R35 14) (.cond (.t 70) (.rg R35 15) .skip)))) (.sq [1, 2, 5, 16, 71] (.rg R35 16) (.cond (.t 71) (.sq [1, 2, 5] (.dr [5, 5, 5, 5] [] R35 17 []) (.sq [1, 2, 5, 6] (.rg R35 18) (.sq [1, 2, 5, 6, 7, 8] (.rg R35 19) (.ct [1, 2, 5, 6, 7, 8] (.sq [1, 2, 5, 6, 7, 8, 86] (.rg R35 20) (.block 1 (.sq [1, 2, 5, 6, 7, 8, 86, 87] (.rg R35 21) (.cond (.t 87) (.rg R35 22) (.sq [1, 2, 5, 6, 7, 8, 89] (.rg R35 23) (.cond (.t 89) (.rg R35 24) .skip)))))) (.ct [2, 5, 6] (.sq [2, 5, 6, 116] (.rg R35 25) (.cond (.t 116) (.sq [4] (.rg R35 26) .ret) .skip)) (.ct [2, 5, 6] (.sq [2, 5, 6, 149] (.rg R35 27) (.cond (.t 149) (.sq [4] (.rg R35 28) .ret) .skip)) (.rg R35 29))))))) (.sq [1, 2, 5, 16, 150] (.rg R35 30) (.cond (.t 150) (.sq [1, 2, 5, 6] (.rg R35 31) (.sq [1, 2, 5, 6, 159] (.rg R35 32) (.cond (.t 159) (.sq [4] (.rg R35 33) .ret) .skip))) (.sq [1, 2, 5, 16, 160] (.rg R35 34) (.cond (.t 160) (.sq [1, 2, 5, 6] (.rg R35 35) (.sq [1, 2, 5, 6, 169] (.rg R35 36) (.cond (.t 169) (.sq [4] (.rg R35 37) .ret) .skip))) (.sq [1, 2, 5, 16, 170] (.rg R35 38) (.cond (.t 170) (.rg R35 39) (.sq [1, 2, 5, 172] (.rg R35 40) (.cond (.t 172) (.rg R35 41) (.sq [4] (.rg R35 42) .ret))))))))))))))))) (.ct [1, 2] (.sq [1, 2, 184] (.rg R35 43) (.cond (.t 184) (.sq [4] (.rg R35 44) .ret) .skip)) (.sq [2] (.sq [1, 2, 186, 187, 188] (.rg R35 45) (.block 2 (.lp L35_0 0))) (.ct [] (.sq [2, 204] (.rg R35 51) (.cond (.t 204) (.sq [11] (.rg R35 52) (.sq [4] (.rg R35 53) .ret)) .skip)) (.sq [4] (.rg R35 54) .ret))))))))
theorem comp35 : Tryz.f35.body.bind (comp Tryz.prog (GLm mx) 213 [5, 164, 154, 84, 83, 82, 81, 56, 27, 26, 25] [(84, 5), (83, 5), (82, 5), (81, 5), (27, 5), (26, 5), (25, 5)]) = some c35.ir := by kernel_rfl
theorem rv35 : Tryz.f35.results.toList.mapM (compRV Tryz.prog) = some [.tmp 4] := by kernel_rfl

def R36 : Nat → List GI
| 0 => [⟨none, .nils 6 52 2⟩,
  ⟨none, .mov 7 (.c (.int .i64 0))⟩]
| 1 => [⟨none, .mov 13 (.t 0)⟩,
  ⟨none, .call (some 14) 18 [(.t 13)]⟩,
  ⟨none, .mov 8 (.t 14)⟩]
| 2 => [⟨none, .mov 15 (.t 8)⟩,
  ⟨none, .bin 16 .neq (.t 15) (.c (.int .i64 0))⟩]
| 3 => [⟨none, .mov 17 (.t 8)⟩,
  ⟨none, .nils 6 52 2⟩,
  ⟨none, .mov 7 (.t 17)⟩]
| 4 => [⟨none, .mov 18 (.t 1)⟩,
  ⟨none, .call (some 19) 18 [(.t 18)]⟩,
  ⟨none, .mov 9 (.t 19)⟩]
| 5 => [⟨none, .mov 20 (.t 9)⟩,
  ⟨none, .bin 21 .neq (.t 20) (.c (.int .i64 0))⟩]
| 6 => [⟨none, .mov 22 (.t 9)⟩,
  ⟨none, .nils 6 52 2⟩,
  ⟨none, .mov 7 (.t 22)⟩]
| 7 => [⟨none, .mov 23 (.t 0)⟩,
  ⟨none, .call (some 24) 60 [(.t 23)]⟩,
  ⟨none, .mov 10 (.t 24)⟩]
| 8 => [⟨none, .mov 25 (.t 1)⟩,
  ⟨none, .lenl 26 (.t 25)⟩,
  ⟨none, .mov 27 (.c (.int .i64 0))⟩]
| 9 => [⟨none, .bin 28 .lss (.t 27) (.t 26)⟩]
| 10 => [⟨none, .ia 29 (.t 25) (.t 27) 2⟩,
  ⟨none, .load 30 (.t 29) 2 true⟩,
  ⟨none, .alloc 12 [(.str []), (.int .i64 0)]⟩,
  ⟨none, .stfrz (.t 12) (.t 30) 2⟩]
| 11 => [⟨none, .mov 31 (.t 10)⟩,
  ⟨none, .fa 32 (.t 12) 0⟩,
  ⟨none, .load 33 (.t 32) 1 false⟩,
  ⟨none, .mov 34 (.t 2)⟩,
  ⟨none, .fa 35 (.t 12) 1⟩,
  ⟨none, .load 36 (.t 35) 1 false⟩,
  ⟨none, .bin 37 .mul (.t 34) (.t 36)⟩,
  ⟨none, .build 38 [(.str []), (.int .i64 0)] [(0, 1, (.t 33)), (1, 1, (.t 37))]⟩,
  ⟨none, .bsn 39 52 2 [(.t 38)]⟩,
  ⟨none, .app 40 52 2 24 (.t 31) (.t 39)⟩,
  ⟨none, .mov 10 (.t 40)⟩]
| 12 => [⟨none, .bin 41 .add (.t 27) (.c (.int .i64 1))⟩,
  ⟨none, .mov 27 (.t 41)⟩]
| 13 => [⟨none, .mov 42 (.t 10)⟩,
  ⟨none, .call (some 43) 61 [(.t 42)]⟩,
  ⟨none, .ext 44 (.t 43) 0⟩,
  ⟨none, .ext 45 (.t 43) 1⟩,
  ⟨none, .mov 6 (.t 44)⟩,
  ⟨none, .mov 7 (.t 45)⟩]
| _ => []
def L36_0 : Nat → J
| _ => (.sq [2, 10, 25, 26, 27, 28] (.rg R36 9) (.ct [2, 10, 25, 26, 27] (.cond (.t 28) .skip (.exit 0)) (.sq [2, 10, 25, 26, 27] (.block 1 (.sq [2, 10, 12, 25, 26, 27] (.rg R36 10) (.rg R36 11))) (.rg R36 12))))
def c36 : J := (.sq [0, 1, 2] (.rg R36 0) (.ct [0, 1, 2] (.sq [0, 1, 2, 8] (.rg R36 1) (.sq [0, 1, 2, 8, 16] (.rg R36 2) (.cond (.t 16) (.sq [6, 7] (.rg R36 3) .ret) .skip))) (.ct [0, 1, 2] (.sq [0, 1, 2, 9] (.rg R36 4) (.sq [0, 1, 2, 9, 21] (.rg R36 5) (.cond (.t 21) (.sq [6, 7] (.rg R36 6) .ret) .skip))) (.sq [1, 2, 10] (.rg R36 7) (.sq [10] (.sq [2, 10, 25, 26, 27] (.rg R36 8) (.block 0 (.lp L36_0 0))) (.sq [6, 7] (.rg R36 13) .ret))))))
theorem comp36 : Tryz.f36.body.bind (comp Tryz.prog (GLm mx) 46 [] []) = some c36.ir := by kernel_rfl
theorem rv36 : Tryz.f36.results.toList.mapM (compRV Tryz.prog) = some [.tmp 6, .tmp 7] := by kernel_rfl

def R37 : Nat → List GI
| 0 => [⟨none, .mov 4 (.c (.bool false))⟩]
| 1 => [⟨none, .mov 6 (.t 0)⟩,
  ⟨none, .lenl 7 (.t 6)⟩,
  ⟨none, .mov 8 (.t 1)⟩,
  ⟨none, .lenl 9 (.t 8)⟩,
  ⟨none, .bin 10 .neq (.t 7) (.t 9)⟩]
| 2 => [⟨none, .mov 4 (.c (.bool false))⟩]
| 3 => [⟨none, .mov 5 (.c (.int .i64 0))⟩]
| 4 => [⟨none, .mov 11 (.t 5)⟩,
  ⟨none, .mov 12 (.t 0)⟩,
  ⟨none, .lenl 13 (.t 12)⟩,
  ⟨none, .bin 14 .lss (.t 11) (.t 13)⟩]
| 5 => [⟨none, .mov 17 (.t 0)⟩,
  ⟨none, .mov 18 (.t 5)⟩,
  ⟨none, .ia 19 (.t 17) (.t 18) 2⟩,
  ⟨none, .load 20 (.t 19) 2 true⟩,
  ⟨none, .mov 21 (.t 1)⟩,
  ⟨none, .mov 22 (.t 5)⟩,
  ⟨none, .ia 23 (.t 21) (.t 22) 2⟩,
  ⟨none, .load 24 (.t 23) 2 true⟩,
  ⟨none, .eqs 25 true [.s, (.i .i64)] (.t 20) (.t 24)⟩]
| 6 => [⟨none, .mov 4 (.c (.bool false))⟩]
| 7 => [⟨none, .mov 15 (.t 5)⟩,
  ⟨none, .bin 16 .add (.t 15) (.c (.int .i64 1))⟩,
  ⟨none, .mov 5 (.t 16)⟩]
| 8 => [⟨none, .mov 4 (.c (.bool true))⟩]
| _ => []
def L37_0 : Nat → J
| _ => (.ct [0, 1, 5] (.sq [0, 1, 5, 14] (.rg R37 4) (.cond (.t 14) .skip (.exit 0))) (.ct [0, 1, 5] (.block 1 (.sq [0, 1, 5, 25] (.dr [] [] R37 5 []) (.cond (.t 25) (.sq [4] (.rg R37 6) .ret) .skip))) (.rg R37 7)))
def c37 : J := (.sq [0, 1] (.rg R37 0) (.ct [0, 1] (.sq [0, 1, 10] (.rg R37 1) (.cond (.t 10) (.sq [4] (.rg R37 2) .ret) .skip)) (.sq [] (.sq [0, 1, 5] (.rg R37 3) (.block 0 (.lp L37_0 0))) (.sq [4] (.rg R37 8) .ret))))
theorem comp37 : Tryz.f37.body.bind (comp Tryz.prog (GLm mx) 26 [] []) = some c37.ir := by kernel_rfl
theorem rv37 : Tryz.f37.results.toList.mapM (compRV Tryz.prog) = some [.tmp 4] := by kernel_rfl

def R38 : Nat → List GI
| 0 => [⟨none, .mov 4 (.c (.bool false))⟩]
| 1 => [⟨none, .mov 6 (.t 0)⟩,
  ⟨none, .lenl 7 (.t 6)⟩,
  ⟨none, .mov 8 (.t 1)⟩,
  ⟨none, .lenl 9 (.t 8)⟩,
  ⟨none, .bin 10 .neq (.t 7) (.t 9)⟩]
| 2 => [⟨none, .mov 4 (.c (.bool false))⟩]
| 3 => [⟨none, .mov 11 (.t 0)⟩,
  ⟨none, .lenl 12 (.t 11)⟩,
  ⟨none, .mov 13 (.c (.int .i64 0))⟩]
| 4 => [⟨none, .bin 14 .lss (.t 13) (.t 12)⟩]
| 5 => [⟨none, .mov 15 (.t 13)⟩,
  ⟨none, .mov 5 (.t 15)⟩]
| 6 => [⟨none, .mov 16 (.t 0)⟩,
  ⟨none, .mov 17 (.t 5)⟩,
  ⟨none, .ia 18 (.t 16) (.t 17) 2⟩,
  ⟨none, .load 19 (.t 18) 2 true⟩,
  ⟨none, .mov 20 (.t 1)⟩,
  ⟨none, .mov 21 (.t 5)⟩,
  ⟨none, .ia 22 (.t 20) (.t 21) 2⟩,
  ⟨none, .load 23 (.t 22) 2 true⟩,
  ⟨none, .eqs 24 true [.s, (.i .i64)] (.t 19) (.t 23)⟩]
| 7 => [⟨none, .mov 4 (.c (.bool false))⟩]
| 8 => [⟨none, .bin 25 .add (.t 13) (.c (.int .i64 1))⟩,
  ⟨none, .mov 13 (.t 25)⟩]
| 9 => [⟨none, .mov 4 (.c (.bool true))⟩]
| _ => []
def L38_0 : Nat → J
| _ => (.sq [0, 1, 12, 13, 14] (.rg R38 4) (.ct [0, 1, 12, 13] (.cond (.t 14) .skip (.exit 0)) (.ct [0, 1, 12, 13] (.block 1 (.sq [0, 1, 5, 12, 13] (.rg R38 5) (.sq [0, 1, 12, 13, 24] (.dr [] [] R38 6 []) (.cond (.t 24) (.sq [4] (.rg R38 7) .ret) .skip)))) (.rg R38 8))))
def c38 : J := (.sq [0, 1] (.rg R38 0) (.ct [0, 1] (.sq [0, 1, 10] (.rg R38 1) (.cond (.t 10) (.sq [4] (.rg R38 2) .ret) .skip)) (.sq [] (.sq [0, 1, 12, 13] (.rg R38 3) (.block 0 (.lp L38_0 0))) (.sq [4] (.rg R38 9) .ret))))
theorem comp38 : Tryz.f38.body.bind (comp Tryz.prog (GLm mx) 26 [] []) = some c38.ir := by kernel_rfl
theorem rv38 : Tryz.f38.results.toList.mapM (compRV Tryz.prog) = some [.tmp 4] := by kernel_rfl

def R39 : Nat → List GI
| 0 => [⟨none, .mov 2 (.c (.bool false))⟩]
| 1 => [⟨none, .mov 5 (.t 0)⟩,
  ⟨none, .lens 6 (.t 5)⟩,
  ⟨none, .bin 7 .eql (.t 6) (.c (.int .i64 0))⟩,
  ⟨none, .mov 8 (.t 7)⟩,
  ⟨some (8, false), .mov 9 (.t 0)⟩,
  ⟨some (8, false), .lens 10 (.t 9)⟩,
  ⟨some (8, false), .bin 11 .gtr (.t 10) (.c (.int .i64 24))⟩,
  ⟨none, .pick 12 (.t 8) (.c (.bool true)) (.t 11)⟩,
  ⟨none, .mov 13 (.t 12)⟩,
  ⟨some (13, false), .mov 14 (.t 0)⟩,
  ⟨some (13, false), .idx 15 (.t 14) (.c (.int .i64 0))⟩,
  ⟨some (13, false), .bin 16 .lss (.t 15) (.c (.int .u8 97))⟩,
  ⟨none, .pick 17 (.t 13) (.c (.bool true)) (.t 16)⟩,
  ⟨none, .mov 18 (.t 17)⟩,
  ⟨some (18, false), .mov 19 (.t 0)⟩,
  ⟨some (18, false), .idx 20 (.t 19) (.c (.int .i64 0))⟩,
  ⟨some (18, false), .bin 21 .gtr (.t 20) (.c (.int .u8 122))⟩,
  ⟨none, .pick 22 (.t 18) (.c (.bool true)) (.t 21)⟩]
| 2 => [⟨none, .mov 2 (.c (.bool false))⟩]
| 3 => [⟨none, .mov 23 (.t 0)⟩,
  ⟨none, .lens 24 (.t 23)⟩,
  ⟨none, .mov 25 (.c (.int .i64 0))⟩]
| 4 => [⟨none, .bin 26 .lss (.t 25) (.t 24)⟩]
| 5 => [⟨none, .mov 27 (.t 25)⟩,
  ⟨none, .mov 3 (.t 27)⟩]
| 6 => [⟨none, .mov 28 (.t 0)⟩,
  ⟨none, .mov 29 (.t 3)⟩,
  ⟨none, .idx 30 (.t 28) (.t 29)⟩,
  ⟨none, .mov 4 (.t 30)⟩]
| 7 => [⟨none, .mov 31 (.t 4)⟩,
  ⟨none, .bin 32 .lss (.t 31) (.c (.int .u8 97))⟩,
  ⟨none, .mov 33 (.t 32)⟩,
  ⟨some (33, false), .mov 34 (.t 4)⟩,
  ⟨some (33, false), .bin 35 .gtr (.t 34) (.c (.int .u8 122))⟩,
  ⟨none, .pick 36 (.t 33) (.c (.bool true)) (.t 35)⟩,
  ⟨none, .mov 37 (.t 36)⟩,
  ⟨some (37, true), .mov 38 (.t 4)⟩,
  ⟨some (37, true), .bin 39 .lss (.t 38) (.c (.int .u8 48))⟩,
  ⟨some (37, true), .mov 40 (.t 39)⟩,
  ⟨some (40, false), .mov 41 (.t 4)⟩,
  ⟨some (40, false), .bin 42 .gtr (.t 41) (.c (.int .u8 57))⟩,
  ⟨some (37, true), .pick 43 (.t 40) (.c (.bool true)) (.t 42)⟩,
  ⟨none, .pick 44 (.t 37) (.t 43) (.c (.bool false))⟩,
  ⟨none, .mov 45 (.t 44)⟩,
  ⟨some (45, true), .mov 46 (.t 4)⟩,
  ⟨some (45, true), .bin 47 .neq (.t 46) (.c (.int .u8 95))⟩,
  ⟨none, .pick 48 (.t 45) (.t 47) (.c (.bool false))⟩]
| 8 => [⟨none, .mov 2 (.c (.bool false))⟩]
| 9 => [⟨none, .bin 49 .add (.t 25) (.c (.int .i64 1))⟩,
  ⟨none, .mov 25 (.t 49)⟩]
| 10 => [⟨none, .mov 2 (.c (.bool true))⟩]
| _ => []
def L39_0 : Nat → J
| _ => (.sq [0, 24, 25, 26] (.rg R39 4) (.ct [0, 24, 25] (.cond (.t 26) .skip (.exit 0)) (.ct [0, 24, 25] (.block 1 (.sq [0, 3, 24, 25] (.rg R39 5) (.sq [0, 4, 24, 25] (.rg R39 6) (.sq [0, 24, 25, 48] (.rg R39 7) (.cond (.t 48) (.sq [2] (.rg R39 8) .ret) .skip))))) (.rg R39 9))))
def c39 : J := (.sq [0] (.rg R39 0) (.ct [0] (.sq [0, 22] (.rg R39 1) (.cond (.t 22) (.sq [2] (.rg R39 2) .ret) .skip)) (.sq [] (.sq [0, 24, 25] (.rg R39 3) (.block 0 (.lp L39_0 0))) (.sq [2] (.rg R39 10) .ret))))
theorem comp39 : Tryz.f39.body.bind (comp Tryz.prog (GLm mx) 50 [] []) = some c39.ir := by kernel_rfl
theorem rv39 : Tryz.f39.results.toList.mapM (compRV Tryz.prog) = some [.tmp 2] := by kernel_rfl

def R40 : Nat → List GI
| 0 => [⟨none, .mov 4 (.c (.bool false))⟩]
| 1 => [⟨none, .mov 5 (.t 0)⟩,
  ⟨none, .mov 6 (.t 1)⟩,
  ⟨none, .bin 7 .gtr (.t 5) (.t 6)⟩,
  ⟨none, .mov 8 (.t 7)⟩,
  ⟨some (8, false), .mov 9 (.t 0)⟩,
  ⟨some (8, false), .mov 10 (.t 1)⟩,
  ⟨some (8, false), .un 11 .neg (.t 10)⟩,
  ⟨some (8, false), .bin 12 .lss (.t 9) (.t 11)⟩,
  ⟨none, .pick 13 (.t 8) (.c (.bool true)) (.t 12)⟩,
  ⟨none, .mov 4 (.t 13)⟩]
| _ => []
def c40 : J := (.sq [0, 1] (.rg R40 0) (.sq [4] (.rg R40 1) .ret))
theorem comp40 : Tryz.f40.body.bind (comp Tryz.prog (GLm mx) 14 [] []) = some c40.ir := by kernel_rfl
theorem rv40 : Tryz.f40.results.toList.mapM (compRV Tryz.prog) = some [.tmp 4] := by kernel_rfl

def R41 : Nat → List GI
| 0 => [⟨none, .mov 2 (.c (.bool false))⟩]
| 1 => [⟨none, .mov 3 (.t 0)⟩,
  ⟨none, .bin 4 .neq (.t 3) (.c (.str []))⟩,
  ⟨none, .mov 5 (.t 4)⟩,
  ⟨some (5, true), .mov 6 (.t 0)⟩,
  ⟨some (5, true), .call (some 7) 62 [(.t 6), (.c (.str [32]))]⟩,
  ⟨some (5, true), .un 8 .not (.t 7)⟩,
  ⟨none, .pick 9 (.t 5) (.t 8) (.c (.bool false))⟩,
  ⟨none, .mov 10 (.t 9)⟩,
  ⟨some (10, true), .mov 11 (.t 0)⟩,
  ⟨some (10, true), .bin 12 .add (.c (.str [32])) (.t 11)⟩,
  ⟨some (10, true), .bin 13 .add (.t 12) (.c (.str [32]))⟩,
  ⟨some (10, true), .call (some 14) 62 [(.c (.str [32, 116, 97, 98, 108, 101, 32, 102, 101, 97, 116, 117, 114, 101, 32, 111, 102, 32, 107, 101, 101, 112, 32, 98, 111, 111, 108, 32, 116, 101, 120, 116, 32, 107, 101, 121, 32, 105, 110, 116, 32, 100, 101, 99, 32, 105, 102, 32, 116, 104, 101, 110, 32, 101, 108, 115, 101, 32, 100, 101, 102, 97, 117, 108, 116, 32, 111, 114, 32, 97, 110, 100, 32, 110, 111, 116, 32, 116, 114, 117, 101, 32, 102, 97, 108, 115, 101, 32, 110, 117, 108, 108, 32, 99, 111, 117, 110, 116, 32, 115, 117, 109, 32, 109, 101, 97, 110, 32, 109, 105, 110, 32, 109, 97, 120, 32, 102, 105, 114, 115, 116, 32, 108, 97, 115, 116, 32, 100, 105, 115, 116, 105, 110, 99, 116, 32, 113, 117, 97, 110, 116, 105, 108, 101, 32, 100, 101, 99, 97, 121, 32, 97, 108, 108, 32, 115, 108, 105, 100, 105, 110, 103, 32, 116, 117, 109, 98, 108, 105, 110, 103, 32, 115, 101, 115, 115, 105, 111, 110, 32, 119, 104, 101, 114, 101, 32])), (.t 13)]⟩,
  ⟨none, .pick 15 (.t 10) (.t 14) (.c (.bool false))⟩,
  ⟨none, .mov 2 (.t 15)⟩]
| _ => []
def c41 : J := (.sq [0] (.rg R41 0) (.sq [2] (.rg R41 1) .ret))
theorem comp41 : Tryz.f41.body.bind (comp Tryz.prog (GLm mx) 16 [] []) = some c41.ir := by kernel_rfl
theorem rv41 : Tryz.f41.results.toList.mapM (compRV Tryz.prog) = some [.tmp 2] := by kernel_rfl

def R42 : Nat → List GI
| 0 => [⟨none, .box 1 (.t 0)⟩,
  ⟨none, .mov 2 (.c (.bool false))⟩]
| 1 => [⟨none, .fa 3 (.t 1) 0⟩,
  ⟨none, .load 4 (.t 3) 1 false⟩,
  ⟨none, .bin 5 .eql (.t 4) (.c (.int .i64 2))⟩,
  ⟨none, .mov 6 (.t 5)⟩,
  ⟨some (6, false), .fa 7 (.t 1) 0⟩,
  ⟨some (6, false), .load 8 (.t 7) 1 false⟩,
  ⟨some (6, false), .bin 9 .eql (.t 8) (.c (.int .i64 3))⟩,
  ⟨none, .pick 10 (.t 6) (.c (.bool true)) (.t 9)⟩,
  ⟨none, .mov 2 (.t 10)⟩]
| _ => []
def c42 : J := (.sq [1] (.rg R42 0) (.sq [2] (.rg R42 1) .ret))
theorem comp42 : Tryz.f42.body.bind (comp Tryz.prog (GLm mx) 11 [] []) = some c42.ir := by kernel_rfl
theorem rv42 : Tryz.f42.results.toList.mapM (compRV Tryz.prog) = some [.tmp 2] := by kernel_rfl

def R43 : Nat → List GI
| 0 => [⟨none, .mov 4 (.c (.bool false))⟩]
| 1 => [⟨none, .mov 5 (.t 0)⟩,
  ⟨none, .mov 6 (.t 1)⟩,
  ⟨none, .call (some 7) 63 [(.t 5), (.t 6)]⟩,
  ⟨none, .bin 8 .geq (.t 7) (.c (.int .i64 0))⟩,
  ⟨none, .mov 4 (.t 8)⟩]
| _ => []
def c43 : J := (.sq [0, 1] (.rg R43 0) (.sq [4] (.rg R43 1) .ret))
theorem comp43 : Tryz.f43.body.bind (comp Tryz.prog (GLm mx) 9 [] []) = some c43.ir := by kernel_rfl
theorem rv43 : Tryz.f43.results.toList.mapM (compRV Tryz.prog) = some [.tmp 4] := by kernel_rfl

def R44 : Nat → List GI
| 0 => [⟨none, .box 1 (.t 0)⟩,
  ⟨none, .mov 2 (.c (.bool false))⟩]
| 1 => [⟨none, .fa 3 (.t 1) 0⟩,
  ⟨none, .load 4 (.t 3) 1 false⟩,
  ⟨none, .call (some 5) 19 [(.t 4)]⟩,
  ⟨none, .un 6 .not (.t 5)⟩,
  ⟨none, .mov 2 (.t 6)⟩]
| _ => []
def c44 : J := (.sq [1] (.rg R44 0) (.sq [2] (.rg R44 1) .ret))
theorem comp44 : Tryz.f44.body.bind (comp Tryz.prog (GLm mx) 7 [] []) = some c44.ir := by kernel_rfl
theorem rv44 : Tryz.f44.results.toList.mapM (compRV Tryz.prog) = some [.tmp 2] := by kernel_rfl

def R45 : Nat → List GI
| 0 => [⟨none, .box 2 (.t 0)⟩,
  ⟨none, .box 3 (.t 1)⟩,
  ⟨none, .alloc 4 [(.int .i64 0), (.sl []), (.str [])]⟩,
  ⟨none, .mov 5 (.c (.int .i64 0))⟩]
| 1 => [⟨none, .fa 6 (.t 2) 0⟩,
  ⟨none, .load 7 (.t 6) 1 false⟩,
  ⟨none, .fa 8 (.t 3) 0⟩,
  ⟨none, .load 9 (.t 8) 1 false⟩,
  ⟨none, .bin 10 .neq (.t 7) (.t 9)⟩,
  ⟨none, .mov 11 (.t 10)⟩,
  ⟨some (11, false), .fa 12 (.t 2) 2⟩,
  ⟨some (11, false), .load 13 (.t 12) 1 false⟩,
  ⟨some (11, false), .fa 14 (.t 3) 2⟩,
  ⟨some (11, false), .load 15 (.t 14) 1 false⟩,
  ⟨some (11, false), .bin 16 .neq (.t 13) (.t 15)⟩,
  ⟨none, .pick 17 (.t 11) (.c (.bool true)) (.t 16)⟩]
| 2 => [⟨none, .call (some 18) 33 [(.c (.int .i64 5))]⟩,
  ⟨none, .ext 19 (.t 18) 0⟩,
  ⟨none, .ext 20 (.t 18) 1⟩,
  ⟨none, .store (.t 4) (.t 19) 3⟩,
  ⟨none, .mov 5 (.t 20)⟩]
| 3 => [⟨none, .fa 21 (.t 2) 1⟩,
  ⟨none, .load 22 (.t 21) 1 false⟩,
  ⟨none, .fa 23 (.t 3) 1⟩,
  ⟨none, .load 24 (.t 23) 1 false⟩,
  ⟨none, .call (some 25) 16 [(.t 22), (.t 24)]⟩,
  ⟨none, .un 26 .not (.t 25)⟩]
| 4 => [⟨none, .call (some 27) 33 [(.c (.int .i64 70))]⟩,
  ⟨none, .ext 28 (.t 27) 0⟩,
  ⟨none, .ext 29 (.t 27) 1⟩,
  ⟨none, .store (.t 4) (.t 28) 3⟩,
  ⟨none, .mov 5 (.t 29)⟩]
| 5 => [⟨none, .load 30 (.t 2) 3 true⟩,
  ⟨none, .store (.t 4) (.t 30) 3⟩,
  ⟨none, .mov 5 (.c (.int .i64 0))⟩]
| _ => []
def c45 : J := (.sq [2, 3, 4] (.rg R45 0) (.ct [2, 3, 4] (.sq [2, 3, 4, 17] (.rg R45 1) (.cond (.t 17) (.sq [4, 5] (.rg R45 2) .ret) .skip)) (.ct [2, 4] (.sq [2, 4, 26] (.rg R45 3) (.cond (.t 26) (.sq [4, 5] (.rg R45 4) .ret) .skip)) (.sq [4, 5] (.rg R45 5) .ret))))
theorem comp45 : Tryz.f45.body.bind (comp Tryz.prog (GLm mx) 31 [4] []) = some c45.ir := by kernel_rfl
theorem rv45 : Tryz.f45.results.toList.mapM (compRV Tryz.prog) = some [.cell 4 3 true, .tmp 5] := by kernel_rfl

def R46 : Nat → List GI
| 0 => [⟨none, .mov 2 (.c (.bool false))⟩]
| 1 => [⟨none, .mov 3 (.t 0)⟩,
  ⟨none, .bin 4 .neq (.t 3) (.c (.str []))⟩,
  ⟨none, .mov 5 (.t 4)⟩,
  ⟨some (5, true), .mov 6 (.t 0)⟩,
  ⟨some (5, true), .lens 7 (.t 6)⟩,
  ⟨some (5, true), .bin 8 .leq (.t 7) (.c (.int .i64 24))⟩,
  ⟨none, .pick 9 (.t 5) (.t 8) (.c (.bool false))⟩,
  ⟨none, .mov 10 (.t 9)⟩,
  ⟨some (10, true), .mov 11 (.t 0)⟩,
  ⟨some (10, true), .bytes 12 (.t 11)⟩,
  ⟨some (10, true), .call (some 13) 64 [(.t 12), (.c (.int .i64 0))]⟩,
  ⟨some (10, true), .mov 14 (.t 0)⟩,
  ⟨some (10, true), .lens 15 (.t 14)⟩,
  ⟨some (10, true), .bin 16 .eql (.t 13) (.t 15)⟩,
  ⟨none, .pick 17 (.t 10) (.t 16) (.c (.bool false))⟩,
  ⟨none, .mov 18 (.t 17)⟩,
  ⟨some (18, true), .mov 19 (.t 0)⟩,
  ⟨some (18, true), .call (some 20) 65 [(.t 19)]⟩,
  ⟨some (18, true), .un 21 .not (.t 20)⟩,
  ⟨none, .pick 22 (.t 18) (.t 21) (.c (.bool false))⟩,
  ⟨none, .mov 2 (.t 22)⟩]
| _ => []
def c46 : J := (.sq [0] (.rg R46 0) (.sq [2] (.rg R46 1) .ret))
theorem comp46 : Tryz.f46.body.bind (comp Tryz.prog (GLm mx) 23 [] []) = some c46.ir := by kernel_rfl
theorem rv46 : Tryz.f46.results.toList.mapM (compRV Tryz.prog) = some [.tmp 2] := by kernel_rfl

def R47 : Nat → List GI
| 0 => [⟨none, .mov 2 (.c (.int .i64 0))⟩]
| 1 => [⟨none, .mov 5 (.t 0)⟩,
  ⟨none, .lenl 6 (.t 5)⟩,
  ⟨none, .bin 7 .gtr (.t 6) (.c (.int .i64 4))⟩]
| 2 => [⟨none, .mov 2 (.c (.int .i64 2))⟩]
| 3 => [⟨none, .mov 3 (.c (.int .i64 0))⟩]
| 4 => [⟨none, .mov 8 (.t 3)⟩,
  ⟨none, .mov 9 (.t 0)⟩,
  ⟨none, .lenl 10 (.t 9)⟩,
  ⟨none, .bin 11 .lss (.t 8) (.t 10)⟩]
| 5 => [⟨none, .mov 14 (.t 0)⟩,
  ⟨none, .mov 15 (.t 3)⟩,
  ⟨none, .ia 16 (.t 14) (.t 15) 2⟩,
  ⟨none, .fa 17 (.t 16) 0⟩,
  ⟨none, .load 18 (.t 17) 1 false⟩,
  ⟨none, .call (some 19) 66 [(.t 18)]⟩,
  ⟨none, .mov 4 (.t 19)⟩]
| 6 => [⟨none, .mov 20 (.t 4)⟩,
  ⟨none, .un 21 .not (.t 20)⟩]
| 7 => [⟨none, .mov 2 (.c (.int .i64 1))⟩]
| 8 => [⟨none, .mov 22 (.t 0)⟩,
  ⟨none, .mov 23 (.t 3)⟩,
  ⟨none, .ia 24 (.t 22) (.t 23) 2⟩,
  ⟨none, .fa 25 (.t 24) 1⟩,
  ⟨none, .load 26 (.t 25) 1 false⟩,
  ⟨none, .bin 27 .eql (.t 26) (.c (.int .i64 0))⟩,
  ⟨none, .mov 28 (.t 27)⟩,
  ⟨some (28, false), .mov 29 (.t 0)⟩,
  ⟨some (28, false), .mov 30 (.t 3)⟩,
  ⟨some (28, false), .ia 31 (.t 29) (.t 30) 2⟩,
  ⟨some (28, false), .fa 32 (.t 31) 1⟩,
  ⟨some (28, false), .load 33 (.t 32) 1 false⟩,
  ⟨some (28, false), .call (some 34) 67 [(.t 33)]⟩,
  ⟨none, .pick 35 (.t 28) (.c (.bool true)) (.t 34)⟩]
| 9 => [⟨none, .mov 2 (.c (.int .i64 70))⟩]
| 10 => [⟨none, .mov 36 (.t 3)⟩,
  ⟨none, .bin 37 .gtr (.t 36) (.c (.int .i64 0))⟩,
  ⟨none, .mov 38 (.t 37)⟩,
  ⟨some (38, true), .mov 39 (.t 0)⟩,
  ⟨some (38, true), .mov 40 (.t 3)⟩,
  ⟨some (38, true), .ia 41 (.t 39) (.t 40) 2⟩,
  ⟨some (38, true), .fa 42 (.t 41) 0⟩,
  ⟨some (38, true), .load 43 (.t 42) 1 false⟩,
  ⟨some (38, true), .mov 44 (.t 0)⟩,
  ⟨some (38, true), .mov 45 (.t 3)⟩,
  ⟨some (38, true), .bin 46 .sub (.t 45) (.c (.int .i64 1))⟩,
  ⟨some (38, true), .ia 47 (.t 44) (.t 46) 2⟩,
  ⟨some (38, true), .fa 48 (.t 47) 0⟩,
  ⟨some (38, true), .load 49 (.t 48) 1 false⟩,
  ⟨some (38, true), .bin 50 .leq (.t 43) (.t 49)⟩,
  ⟨none, .pick 51 (.t 38) (.t 50) (.c (.bool false))⟩]
| 11 => [⟨none, .mov 2 (.c (.int .i64 3))⟩]
| 12 => [⟨none, .mov 12 (.t 3)⟩,
  ⟨none, .bin 13 .add (.t 12) (.c (.int .i64 1))⟩,
  ⟨none, .mov 3 (.t 13)⟩]
| 13 => [⟨none, .mov 2 (.c (.int .i64 0))⟩]
| _ => []
def L47_0 : Nat → J
| _ => (.ct [0, 3] (.sq [0, 3, 11] (.rg R47 4) (.cond (.t 11) .skip (.exit 0))) (.ct [0, 3] (.block 1 (.sq [0, 3, 4] (.rg R47 5) (.ct [0, 3] (.sq [0, 3, 21] (.rg R47 6) (.cond (.t 21) (.sq [2] (.rg R47 7) .ret) .skip)) (.ct [0, 3] (.sq [0, 3, 35] (.rg R47 8) (.cond (.t 35) (.sq [2] (.rg R47 9) .ret) .skip)) (.sq [0, 3, 51] (.dr [] [] R47 10 []) (.cond (.t 51) (.sq [2] (.rg R47 11) .ret) .skip)))))) (.rg R47 12)))
def c47 : J := (.sq [0] (.rg R47 0) (.ct [0] (.sq [0, 7] (.rg R47 1) (.cond (.t 7) (.sq [2] (.rg R47 2) .ret) .skip)) (.sq [] (.sq [0, 3] (.rg R47 3) (.block 0 (.lp L47_0 0))) (.sq [2] (.rg R47 13) .ret))))
theorem comp47 : Tryz.f47.body.bind (comp Tryz.prog (GLm mx) 52 [] []) = some c47.ir := by kernel_rfl
theorem rv47 : Tryz.f47.results.toList.mapM (compRV Tryz.prog) = some [.tmp 2] := by kernel_rfl

def R48 : Nat → List GI
| 0 => [⟨none, .mov 4 (.c (.bool false))⟩]
| 1 => [⟨none, .mov 5 (.t 0)⟩,
  ⟨none, .mov 6 (.t 1)⟩,
  ⟨none, .call (some 7) 55 [(.t 5), (.t 6)]⟩,
  ⟨none, .bin 8 .geq (.t 7) (.c (.int .i64 0))⟩,
  ⟨none, .mov 4 (.t 8)⟩]
| _ => []
def c48 : J := (.sq [0, 1] (.rg R48 0) (.sq [4] (.rg R48 1) .ret))
theorem comp48 : Tryz.f48.body.bind (comp Tryz.prog (GLm mx) 9 [] []) = some c48.ir := by kernel_rfl
theorem rv48 : Tryz.f48.results.toList.mapM (compRV Tryz.prog) = some [.tmp 4] := by kernel_rfl

def R49 : Nat → List GI
| 0 => [⟨none, .box 2 (.t 0)⟩,
  ⟨none, .mov 3 (.c (.bool false))⟩]
| 1 => [⟨none, .fa 4 (.t 2) 0⟩,
  ⟨none, .load 5 (.t 4) 1 false⟩,
  ⟨none, .fa 6 (.t 1) 0⟩,
  ⟨none, .load 7 (.t 6) 1 false⟩,
  ⟨none, .bin 8 .eql (.t 5) (.t 7)⟩,
  ⟨none, .mov 3 (.t 8)⟩]
| _ => []
def c49 : J := (.sq [1, 2] (.rg R49 0) (.sq [3] (.rg R49 1) .ret))
theorem comp49 : Tryz.f49.body.bind (comp Tryz.prog (GLm mx) 9 [] []) = some c49.ir := by kernel_rfl
theorem rv49 : Tryz.f49.results.toList.mapM (compRV Tryz.prog) = some [.tmp 3] := by kernel_rfl

def R50 : Nat → List GI
| 0 => [⟨none, .alloc 0 [(.sl []), (.sl []), (.sl []), (.sl [])]⟩]
| 1 => [⟨none, .call (some 4) 29 [(.c (.int .i64 1))]⟩,
  ⟨none, .build 5 [(.int .i64 0), (.sl []), (.str [])] [(0, 1, (.c (.int .i64 3))), (1, 1, (.t 4))]⟩,
  ⟨none, .build 6 [(.str []), (.int .i64 0), (.sl []), (.str [])] [(0, 1, (.c (.str [97, 109, 111, 117, 110, 116]))), (1, 3, (.t 5))]⟩,
  ⟨none, .build 7 [(.int .i64 0), (.sl []), (.str [])] [(0, 1, (.c (.int .i64 5))), (2, 1, (.c (.str [115, 104, 111, 112])))]⟩,
  ⟨none, .build 8 [(.str []), (.int .i64 0), (.sl []), (.str [])] [(0, 1, (.c (.str [115, 104, 111, 112]))), (1, 3, (.t 7))]⟩,
  ⟨none, .bsn 9 84 4 [(.t 6), (.t 8)]⟩,
  ⟨none, .build 10 [(.str []), (.str []), (.sl []), (.int .i64 0)] [(0, 1, (.c (.str [111, 114, 100, 101, 114, 115]))), (1, 1, (.c (.str [117, 115, 101, 114]))), (2, 1, (.t 9))]⟩,
  ⟨none, .alloc 1 [(.str []), (.str []), (.sl []), (.int .i64 0)]⟩,
  ⟨none, .stfrz (.t 1) (.t 10) 4⟩]
| 2 => [⟨none, .build 11 [(.int .i64 0), (.sl []), (.str [])] [(0, 1, (.c (.int .i64 2)))]⟩,
  ⟨none, .call (some 12) 30 [(.c (.int .i64 2)), (.c (.int .i64 1)), (.c (.sl []))]⟩,
  ⟨none, .build 13 [(.str []), (.str []), (.int .i64 0), (.sl []), (.str []), (.int .i64 0), (.str []), (.str []), (.str []), (.int .i64 0), (.int .i64 0), (.str []), (.sl []), (.int .i64 0), (.int .i64 0), (.int .i64 0), (.sl []), (.int .i64 0)] [(0, 1, (.c (.str [114, 97, 110, 107]))), (1, 1, (.c (.str [115, 104, 111, 112]))), (2, 3, (.t 11)), (5, 12, (.t 12)), (17, 1, (.c (.int .i64 1)))]⟩,
  ⟨none, .alloc 2 [(.str []), (.str []), (.int .i64 0), (.sl []), (.str []), (.int .i64 0), (.str []), (.str []), (.str []), (.int .i64 0), (.int .i64 0), (.str []), (.sl []), (.int .i64 0), (.int .i64 0), (.int .i64 0), (.sl []), (.int .i64 0)]⟩,
  ⟨none, .stfrz (.t 2) (.t 13) 18⟩]
| 3 => [⟨none, .call (some 14) 29 [(.c (.int .i64 1))]⟩,
  ⟨none, .build 15 [(.int .i64 0), (.sl []), (.str [])] [(0, 1, (.c (.int .i64 3))), (1, 1, (.t 14))]⟩,
  ⟨none, .call (some 16) 28 [(.c (.str [115, 117, 109])), (.c (.str [111, 114, 100, 101, 114, 115])), (.c (.str [97, 109, 111, 117, 110, 116]))]⟩,
  ⟨none, .build 17 [(.str []), (.str []), (.int .i64 0), (.sl []), (.str []), (.int .i64 0), (.str []), (.str []), (.str []), (.int .i64 0), (.int .i64 0), (.str []), (.sl []), (.int .i64 0), (.int .i64 0), (.int .i64 0), (.sl []), (.int .i64 0)] [(0, 1, (.c (.str [116, 111, 116, 97, 108]))), (1, 1, (.c (.str [117, 115, 101, 114]))), (2, 3, (.t 15)), (5, 12, (.t 16)), (17, 1, (.c (.int .i64 1)))]⟩,
  ⟨none, .alloc 3 [(.str []), (.str []), (.int .i64 0), (.sl []), (.str []), (.int .i64 0), (.str []), (.str []), (.str []), (.int .i64 0), (.int .i64 0), (.str []), (.sl []), (.int .i64 0), (.int .i64 0), (.int .i64 0), (.sl []), (.int .i64 0)]⟩,
  ⟨none, .stfrz (.t 3) (.t 17) 18⟩]
| 4 => [⟨none, .load 18 (.t 1) 4 true⟩,
  ⟨none, .bsn 19 64 4 [(.t 18)]⟩,
  ⟨none, .load 20 (.t 2) 18 true⟩,
  ⟨none, .load 21 (.t 3) 18 true⟩,
  ⟨none, .bsn 22 58 18 [(.t 20), (.t 21)]⟩,
  ⟨none, .build 23 [(.sl []), (.sl []), (.sl []), (.sl [])] [(0, 1, (.t 19)), (1, 1, (.t 22))]⟩,
  ⟨none, .store (.t 0) (.t 23) 4⟩]
| _ => []
def c50 : J := (.sq [0] (.rg R50 0) (.sq [0, 1] (.rg R50 1) (.sq [0, 1, 2] (.rg R50 2) (.sq [0, 1, 2, 3] (.rg R50 3) (.sq [0] (.rg R50 4) .ret)))))
theorem comp50 : Tryz.f50.body.bind (comp Tryz.prog (GLm mx) 24 [0] []) = some c50.ir := by kernel_rfl
theorem rv50 : Tryz.f50.results.toList.mapM (compRV Tryz.prog) = some [.cell 0 4 true] := by kernel_rfl

def R51 : Nat → List GI
| 0 => [⟨none, .alloc 0 [(.int .i64 0), (.str []), (.str []), (.str []), (.int .i64 0), (.int .i64 0), (.str []), (.sl []), (.int .i64 0), (.int .i64 0), (.int .i64 0), (.sl [])]⟩]
| 1 => [⟨none, .build 1 [(.int .i64 0), (.int .i64 0), (.str [])] [(0, 1, (.c (.int .i64 1))), (1, 1, (.c (.int .i64 1)))]⟩,
  ⟨none, .build 2 [(.int .i64 0), (.str []), (.str []), (.str []), (.int .i64 0), (.int .i64 0), (.str []), (.sl []), (.int .i64 0), (.int .i64 0), (.int .i64 0), (.sl [])] [(0, 1, (.c (.int .i64 1))), (4, 3, (.t 1))]⟩,
  ⟨none, .store (.t 0) (.t 2) 12⟩]
| _ => []
def c51 : J := (.sq [0] (.rg R51 0) (.sq [0] (.rg R51 1) .ret))
theorem comp51 : Tryz.f51.body.bind (comp Tryz.prog (GLm mx) 3 [0] []) = some c51.ir := by kernel_rfl
theorem rv51 : Tryz.f51.results.toList.mapM (compRV Tryz.prog) = some [.cell 0 12 true] := by kernel_rfl

def R52 : Nat → List GI
| 0 => [⟨none, .mov 4 (.c (.int .i64 0))⟩]
| 1 => [⟨none, .mov 6 (.t 0)⟩,
  ⟨none, .lenl 7 (.t 6)⟩,
  ⟨none, .mov 8 (.c (.int .i64 0))⟩]
| 2 => [⟨none, .bin 9 .lss (.t 8) (.t 7)⟩]
| 3 => [⟨none, .mov 10 (.t 8)⟩,
  ⟨none, .mov 5 (.t 10)⟩]
| 4 => [⟨none, .mov 11 (.t 1)⟩,
  ⟨none, .mov 12 (.t 0)⟩,
  ⟨none, .mov 13 (.t 5)⟩,
  ⟨none, .ia 14 (.t 12) (.t 13) 4⟩,
  ⟨none, .load 15 (.t 14) 4 true⟩,
  ⟨none, .callv (some 16) (.t 11) [(.t 15)]⟩]
| 5 => [⟨none, .mov 17 (.t 5)⟩,
  ⟨none, .mov 4 (.t 17)⟩]
| 6 => [⟨none, .bin 18 .add (.t 8) (.c (.int .i64 1))⟩,
  ⟨none, .mov 8 (.t 18)⟩]
| 7 => [⟨none, .mov 4 (.c (.int .i64 (-1)))⟩]
| _ => []
def L52_0 : Nat → J
| _ => (.sq [0, 1, 7, 8, 9] (.rg R52 2) (.ct [0, 1, 7, 8] (.cond (.t 9) .skip (.exit 0)) (.ct [0, 1, 7, 8] (.block 1 (.sq [0, 1, 5, 7, 8] (.rg R52 3) (.sq [0, 1, 5, 7, 8, 16] (.rg R52 4) (.cond (.t 16) (.sq [4] (.rg R52 5) .ret) .skip)))) (.rg R52 6))))
def c52 : J := (.sq [0, 1] (.rg R52 0) (.sq [] (.sq [0, 1, 7, 8] (.rg R52 1) (.block 0 (.lp L52_0 0))) (.sq [4] (.rg R52 7) .ret)))
theorem comp52 : Tryz.f52.body.bind (comp Tryz.prog (GLm mx) 19 [] []) = some c52.ir := by kernel_rfl
theorem rv52 : Tryz.f52.results.toList.mapM (compRV Tryz.prog) = some [.tmp 4] := by kernel_rfl

def R53 : Nat → List GI
| 0 => [⟨none, .box 2 (.t 0)⟩,
  ⟨none, .mov 3 (.c (.bool false))⟩]
| 1 => [⟨none, .fa 4 (.t 2) 0⟩,
  ⟨none, .load 5 (.t 4) 1 false⟩,
  ⟨none, .fa 6 (.t 1) 3⟩,
  ⟨none, .load 7 (.t 6) 1 false⟩,
  ⟨none, .bin 8 .eql (.t 5) (.t 7)⟩,
  ⟨none, .mov 3 (.t 8)⟩]
| _ => []
def c53 : J := (.sq [1, 2] (.rg R53 0) (.sq [3] (.rg R53 1) .ret))
theorem comp53 : Tryz.f53.body.bind (comp Tryz.prog (GLm mx) 9 [] []) = some c53.ir := by kernel_rfl
theorem rv53 : Tryz.f53.results.toList.mapM (compRV Tryz.prog) = some [.tmp 3] := by kernel_rfl

def R54 : Nat → List GI
| 0 => [⟨none, .box 2 (.t 0)⟩,
  ⟨none, .alloc 3 [(.int .i64 0), (.sl []), (.str [])]⟩,
  ⟨none, .mov 4 (.c (.int .i64 0))⟩]
| 1 => [⟨none, .fa 6 (.t 1) 2⟩,
  ⟨none, .load 7 (.t 6) 1 false⟩,
  ⟨none, .mkfn 8 56 [] [(.t 2)]⟩,
  ⟨none, .call (some 9) 55 [(.t 7), (.t 8)]⟩,
  ⟨none, .mov 5 (.t 9)⟩]
| 2 => [⟨none, .mov 10 (.t 5)⟩,
  ⟨none, .bin 11 .lss (.t 10) (.c (.int .i64 0))⟩]
| 3 => [⟨none, .call (some 12) 33 [(.c (.int .i64 4))]⟩,
  ⟨none, .ext 13 (.t 12) 0⟩,
  ⟨none, .ext 14 (.t 12) 1⟩,
  ⟨none, .store (.t 3) (.t 13) 3⟩,
  ⟨none, .mov 4 (.t 14)⟩]
| 4 => [⟨none, .fa 15 (.t 1) 2⟩,
  ⟨none, .load 16 (.t 15) 1 false⟩,
  ⟨none, .mov 17 (.t 5)⟩,
  ⟨none, .ia 18 (.t 16) (.t 17) 4⟩,
  ⟨none, .fa 19 (.t 18) 1⟩,
  ⟨none, .load 20 (.t 19) 3 true⟩,
  ⟨none, .store (.t 3) (.t 20) 3⟩,
  ⟨none, .mov 4 (.c (.int .i64 0))⟩]
| _ => []
def c54 : J := (.sq [1, 2, 3] (.rg R54 0) (.sq [1, 3, 5] (.rg R54 1) (.ct [1, 3, 5] (.sq [1, 3, 5, 11] (.rg R54 2) (.cond (.t 11) (.sq [3, 4] (.rg R54 3) .ret) .skip)) (.sq [3, 4] (.rg R54 4) .ret))))
theorem comp54 : Tryz.f54.body.bind (comp Tryz.prog (GLm mx) 21 [3] []) = some c54.ir := by kernel_rfl
theorem rv54 : Tryz.f54.results.toList.mapM (compRV Tryz.prog) = some [.cell 3 3 true, .tmp 4] := by kernel_rfl

def R55 : Nat → List GI
| 0 => [⟨none, .mov 4 (.c (.int .i64 0))⟩]
| 1 => [⟨none, .mov 6 (.t 0)⟩,
  ⟨none, .lenl 7 (.t 6)⟩,
  ⟨none, .mov 8 (.c (.int .i64 0))⟩]
| 2 => [⟨none, .bin 9 .lss (.t 8) (.t 7)⟩]
| 3 => [⟨none, .mov 10 (.t 8)⟩,
  ⟨none, .mov 5 (.t 10)⟩]
| 4 => [⟨none, .mov 11 (.t 1)⟩,
  ⟨none, .mov 12 (.t 0)⟩,
  ⟨none, .mov 13 (.t 5)⟩,
  ⟨none, .ia 14 (.t 12) (.t 13) 4⟩,
  ⟨none, .load 15 (.t 14) 4 true⟩,
  ⟨none, .callv (some 16) (.t 11) [(.t 15)]⟩]
| 5 => [⟨none, .mov 17 (.t 5)⟩,
  ⟨none, .mov 4 (.t 17)⟩]
| 6 => [⟨none, .bin 18 .add (.t 8) (.c (.int .i64 1))⟩,
  ⟨none, .mov 8 (.t 18)⟩]
| 7 => [⟨none, .mov 4 (.c (.int .i64 (-1)))⟩]
| _ => []
def L55_0 : Nat → J
| _ => (.sq [0, 1, 7, 8, 9] (.rg R55 2) (.ct [0, 1, 7, 8] (.cond (.t 9) .skip (.exit 0)) (.ct [0, 1, 7, 8] (.block 1 (.sq [0, 1, 5, 7, 8] (.rg R55 3) (.sq [0, 1, 5, 7, 8, 16] (.rg R55 4) (.cond (.t 16) (.sq [4] (.rg R55 5) .ret) .skip)))) (.rg R55 6))))
def c55 : J := (.sq [0, 1] (.rg R55 0) (.sq [] (.sq [0, 1, 7, 8] (.rg R55 1) (.block 0 (.lp L55_0 0))) (.sq [4] (.rg R55 7) .ret)))
theorem comp55 : Tryz.f55.body.bind (comp Tryz.prog (GLm mx) 19 [] []) = some c55.ir := by kernel_rfl
theorem rv55 : Tryz.f55.results.toList.mapM (compRV Tryz.prog) = some [.tmp 4] := by kernel_rfl

def R56 : Nat → List GI
| 0 => [⟨none, .box 2 (.t 0)⟩,
  ⟨none, .mov 3 (.c (.bool false))⟩]
| 1 => [⟨none, .fa 4 (.t 2) 0⟩,
  ⟨none, .load 5 (.t 4) 1 false⟩,
  ⟨none, .load 6 (.t 1) 1 false⟩,
  ⟨none, .bin 7 .eql (.t 5) (.t 6)⟩,
  ⟨none, .mov 3 (.t 7)⟩]
| _ => []
def c56 : J := (.sq [1, 2] (.rg R56 0) (.sq [3] (.rg R56 1) .ret))
theorem comp56 : Tryz.f56.body.bind (comp Tryz.prog (GLm mx) 8 [] []) = some c56.ir := by kernel_rfl
theorem rv56 : Tryz.f56.results.toList.mapM (compRV Tryz.prog) = some [.tmp 3] := by kernel_rfl

def R57 : Nat → List GI
| 0 => [⟨none, .box 2 (.t 0)⟩,
  ⟨none, .mov 4 (.c .nilfn)⟩]
| 1 => [⟨none, .mkmap 5 [(.i .i64)]⟩,
  ⟨none, .load 6 (.t 2) 6 true⟩,
  ⟨none, .mkfn 7 68 [(.t 6)] []⟩,
  ⟨none, .mupd (.t 5) (.c (.int .i64 1)) (.t 7) [(.i .i64)]⟩,
  ⟨none, .load 8 (.t 2) 6 true⟩,
  ⟨none, .mkfn 9 69 [(.t 8)] []⟩,
  ⟨none, .mupd (.t 5) (.c (.int .i64 2)) (.t 9) [(.i .i64)]⟩,
  ⟨none, .load 10 (.t 2) 6 true⟩,
  ⟨none, .mkfn 11 70 [(.t 10)] []⟩,
  ⟨none, .mupd (.t 5) (.c (.int .i64 3)) (.t 11) [(.i .i64)]⟩,
  ⟨none, .load 12 (.t 2) 6 true⟩,
  ⟨none, .mkfn 13 71 [(.t 12)] []⟩,
  ⟨none, .mupd (.t 5) (.c (.int .i64 4)) (.t 13) [(.i .i64)]⟩,
  ⟨none, .load 14 (.t 2) 6 true⟩,
  ⟨none, .mkfn 15 72 [(.t 14)] []⟩,
  ⟨none, .mupd (.t 5) (.c (.int .i64 5)) (.t 15) [(.i .i64)]⟩,
  ⟨none, .load 16 (.t 2) 6 true⟩,
  ⟨none, .mkfn 17 73 [(.t 16)] []⟩,
  ⟨none, .mupd (.t 5) (.c (.int .i64 6)) (.t 17) [(.i .i64)]⟩,
  ⟨none, .load 18 (.t 2) 6 true⟩,
  ⟨none, .mkfn 19 74 [(.t 18)] []⟩,
  ⟨none, .mupd (.t 5) (.c (.int .i64 7)) (.t 19) [(.i .i64)]⟩,
  ⟨none, .load 20 (.t 2) 6 true⟩,
  ⟨none, .mkfn 21 75 [(.t 20)] []⟩,
  ⟨none, .mupd (.t 5) (.c (.int .i64 8)) (.t 21) [(.i .i64)]⟩,
  ⟨none, .load 22 (.t 2) 6 true⟩,
  ⟨none, .mkfn 23 76 [(.t 22)] []⟩,
  ⟨none, .mupd (.t 5) (.c (.int .i64 9)) (.t 23) [(.i .i64)]⟩,
  ⟨none, .mov 24 (.t 5)⟩,
  ⟨none, .mov 25 (.t 1)⟩,
  ⟨none, .lookup 26 (.t 24) (.t 25) .nilfn false [(.i .i64)]⟩,
  ⟨none, .mov 4 (.t 26)⟩]
| _ => []
def c57 : J := (.sq [1, 2] (.rg R57 0) (.sq [4] (.rg R57 1) .ret))
theorem comp57 : Tryz.f57.body.bind (comp Tryz.prog (GLm mx) 27 [] []) = some c57.ir := by kernel_rfl
theorem rv57 : Tryz.f57.results.toList.mapM (compRV Tryz.prog) = some [.tmp 4] := by kernel_rfl

def R58 : Nat → List GI
| 0 => [⟨none, .mov 4 (.c (.bool false))⟩]
| 1 => [⟨none, .mov 5 (.t 0)⟩,
  ⟨none, .mov 6 (.t 1)⟩,
  ⟨none, .call (some 7) 77 [(.t 5), (.t 6)]⟩,
  ⟨none, .bin 8 .geq (.t 7) (.c (.int .i64 0))⟩,
  ⟨none, .mov 4 (.t 8)⟩]
| _ => []
def c58 : J := (.sq [0, 1] (.rg R58 0) (.sq [4] (.rg R58 1) .ret))
theorem comp58 : Tryz.f58.body.bind (comp Tryz.prog (GLm mx) 9 [] []) = some c58.ir := by kernel_rfl
theorem rv58 : Tryz.f58.results.toList.mapM (compRV Tryz.prog) = some [.tmp 4] := by kernel_rfl

def R59 : Nat → List GI
| 0 => [⟨none, .box 2 (.t 0)⟩,
  ⟨none, .box 3 (.t 1)⟩,
  ⟨none, .mov 4 (.c (.bool false))⟩]
| 1 => [⟨none, .fa 5 (.t 2) 0⟩,
  ⟨none, .load 6 (.t 5) 1 false⟩,
  ⟨none, .fa 7 (.t 3) 0⟩,
  ⟨none, .load 8 (.t 7) 1 false⟩,
  ⟨none, .bin 9 .eql (.t 6) (.t 8)⟩,
  ⟨none, .mov 10 (.t 9)⟩,
  ⟨some (10, true), .fa 11 (.t 2) 1⟩,
  ⟨some (10, true), .load 12 (.t 11) 1 false⟩,
  ⟨some (10, true), .fa 13 (.t 3) 1⟩,
  ⟨some (10, true), .load 14 (.t 13) 1 false⟩,
  ⟨some (10, true), .bin 15 .eql (.t 12) (.t 14)⟩,
  ⟨none, .pick 16 (.t 10) (.t 15) (.c (.bool false))⟩,
  ⟨none, .mov 17 (.t 16)⟩,
  ⟨some (17, true), .fa 18 (.t 2) 2⟩,
  ⟨some (17, true), .load 19 (.t 18) 1 false⟩,
  ⟨some (17, true), .fa 20 (.t 3) 2⟩,
  ⟨some (17, true), .load 21 (.t 20) 1 false⟩,
  ⟨some (17, true), .bin 22 .eql (.t 19) (.t 21)⟩,
  ⟨none, .pick 23 (.t 17) (.t 22) (.c (.bool false))⟩,
  ⟨none, .mov 24 (.t 23)⟩,
  ⟨some (24, true), .fa 25 (.t 2) 3⟩,
  ⟨some (24, true), .load 26 (.t 25) 1 false⟩,
  ⟨some (24, true), .fa 27 (.t 3) 3⟩,
  ⟨some (24, true), .load 28 (.t 27) 1 false⟩,
  ⟨some (24, true), .bin 29 .eql (.t 26) (.t 28)⟩,
  ⟨none, .pick 30 (.t 24) (.t 29) (.c (.bool false))⟩,
  ⟨none, .mov 31 (.t 30)⟩,
  ⟨some (31, true), .fa 32 (.t 2) 4⟩,
  ⟨some (31, true), .load 33 (.t 32) 3 true⟩,
  ⟨some (31, true), .fa 34 (.t 3) 4⟩,
  ⟨some (31, true), .load 35 (.t 34) 3 true⟩,
  ⟨some (31, true), .eqs 36 false [(.i .i64), (.i .i64), .s] (.t 33) (.t 35)⟩,
  ⟨none, .pick 37 (.t 31) (.t 36) (.c (.bool false))⟩,
  ⟨none, .mov 38 (.t 37)⟩,
  ⟨some (38, true), .fa 39 (.t 2) 7⟩,
  ⟨some (38, true), .load 40 (.t 39) 1 false⟩,
  ⟨some (38, true), .fa 41 (.t 3) 7⟩,
  ⟨some (38, true), .load 42 (.t 41) 1 false⟩,
  ⟨some (38, true), .call (some 43) 38 [(.t 40), (.t 42)]⟩,
  ⟨none, .pick 44 (.t 38) (.t 43) (.c (.bool false))⟩,
  ⟨none, .mov 45 (.t 44)⟩,
  ⟨some (45, true), .fa 46 (.t 2) 8⟩,
  ⟨some (45, true), .load 47 (.t 46) 1 false⟩,
  ⟨some (45, true), .fa 48 (.t 3) 8⟩,
  ⟨some (45, true), .load 49 (.t 48) 1 false⟩,
  ⟨some (45, true), .bin 50 .eql (.t 47) (.t 49)⟩,
  ⟨none, .pick 51 (.t 45) (.t 50) (.c (.bool false))⟩,
  ⟨none, .mov 52 (.t 51)⟩,
  ⟨some (52, true), .fa 53 (.t 2) 9⟩,
  ⟨some (52, true), .load 54 (.t 53) 2 true⟩,
  ⟨some (52, true), .fa 55 (.t 3) 9⟩,
  ⟨some (52, true), .load 56 (.t 55) 2 true⟩,
  ⟨some (52, true), .eqs 57 false [(.i .i64), (.i .i64)] (.t 54) (.t 56)⟩,
  ⟨none, .pick 58 (.t 52) (.t 57) (.c (.bool false))⟩,
  ⟨none, .mov 4 (.t 58)⟩]
| _ => []
def c59 : J := (.sq [2, 3] (.rg R59 0) (.sq [4] (.rg R59 1) .ret))
theorem comp59 : Tryz.f59.body.bind (comp Tryz.prog (GLm mx) 59 [] []) = some c59.ir := by kernel_rfl
theorem rv59 : Tryz.f59.results.toList.mapM (compRV Tryz.prog) = some [.tmp 4] := by kernel_rfl

def R60 : Nat → List GI
| 0 => [⟨none, .nils 2 52 2⟩]
| 1 => [⟨none, .mov 3 (.t 0)⟩,
  ⟨none, .isnil 4 .sl false (.t 3)⟩]
| 2 => [⟨none, .nils 2 52 2⟩]
| 3 => [⟨none, .bsl 5 52 2 []⟩,
  ⟨none, .mov 6 (.t 0)⟩,
  ⟨none, .app 7 52 2 24 (.t 5) (.t 6)⟩,
  ⟨none, .mov 2 (.t 7)⟩]
| _ => []
def c60 : J := (.sq [0] (.rg R60 0) (.ct [0] (.sq [0, 4] (.rg R60 1) (.cond (.t 4) (.sq [2] (.rg R60 2) .ret) .skip)) (.sq [2] (.rg R60 3) .ret)))
theorem comp60 : Tryz.f60.body.bind (comp Tryz.prog (GLm mx) 8 [] []) = some c60.ir := by kernel_rfl
theorem rv60 : Tryz.f60.results.toList.mapM (compRV Tryz.prog) = some [.tmp 2] := by kernel_rfl

def R61 : Nat → List GI
| 0 => [⟨none, .nils 2 52 2⟩,
  ⟨none, .mov 3 (.c (.int .i64 0))⟩]
| 1 => [⟨none, .mkmap 11 [.s]⟩,
  ⟨none, .mov 4 (.t 11)⟩]
| 2 => [⟨none, .mov 12 (.t 0)⟩,
  ⟨none, .lenl 13 (.t 12)⟩,
  ⟨none, .mov 14 (.c (.int .i64 0))⟩]
| 3 => [⟨none, .bin 15 .lss (.t 14) (.t 13)⟩]
| 4 => [⟨none, .ia 16 (.t 12) (.t 14) 2⟩,
  ⟨none, .load 17 (.t 16) 2 true⟩,
  ⟨none, .alloc 6 [(.str []), (.int .i64 0)]⟩,
  ⟨none, .stfrz (.t 6) (.t 17) 2⟩]
| 5 => [⟨none, .fa 18 (.t 6) 0⟩,
  ⟨none, .load 19 (.t 18) 1 false⟩,
  ⟨none, .call (some 20) 39 [(.t 19)]⟩,
  ⟨none, .un 21 .not (.t 20)⟩]
| 6 => [⟨none, .nils 2 52 2⟩,
  ⟨none, .mov 3 (.c (.int .i64 1))⟩]
| 7 => [⟨none, .mov 22 (.t 4)⟩,
  ⟨none, .fa 23 (.t 6) 0⟩,
  ⟨none, .load 24 (.t 23) 1 false⟩,
  ⟨none, .mov 25 (.t 4)⟩,
  ⟨none, .fa 26 (.t 6) 0⟩,
  ⟨none, .load 27 (.t 26) 1 false⟩,
  ⟨none, .lookup 28 (.t 25) (.t 27) (.agg [(.int .i64 0), (.int .u64 0)]) false [.s]⟩,
  ⟨none, .fa 29 (.t 6) 1⟩,
  ⟨none, .load 30 (.t 29) 1 false⟩,
  ⟨none, .call (some 31) 79 [(.t 30)]⟩,
  ⟨none, .call (some 32) 78 [(.t 28), (.t 31)]⟩,
  ⟨none, .mupd (.t 22) (.t 24) (.t 32) [.s]⟩]
| 8 => [⟨none, .bin 33 .add (.t 14) (.c (.int .i64 1))⟩,
  ⟨none, .mov 14 (.t 33)⟩]
| 9 => [⟨none, .mov 34 (.t 4)⟩,
  ⟨none, .call (some 35) 80 [(.t 34)]⟩,
  ⟨none, .lenl 36 (.t 35)⟩,
  ⟨none, .mov 37 (.c (.int .i64 0))⟩]
| 10 => [⟨none, .bin 38 .lss (.t 37) (.t 36)⟩]
| 11 => [⟨none, .ia 39 (.t 35) (.t 37) 1⟩,
  ⟨none, .load 40 (.t 39) 1 false⟩,
  ⟨none, .mov 8 (.t 40)⟩]
| 12 => [⟨none, .mov 42 (.t 4)⟩,
  ⟨none, .mov 43 (.t 8)⟩,
  ⟨none, .lookup 44 (.t 42) (.t 43) (.agg [(.int .i64 0), (.int .u64 0)]) false [.s]⟩,
  ⟨none, .call (some 45) 81 [(.t 44), (.c (.int .i64 1))]⟩,
  ⟨none, .mov 41 (.t 45)⟩,
  ⟨none, .ext 46 (.t 41) 0⟩,
  ⟨none, .ext 47 (.t 41) 1⟩,
  ⟨none, .mov 9 (.t 46)⟩,
  ⟨none, .mov 10 (.t 47)⟩]
| 13 => [⟨none, .mov 48 (.t 10)⟩,
  ⟨none, .un 49 .not (.t 48)⟩,
  ⟨none, .mov 50 (.t 49)⟩,
  ⟨some (50, false), .mov 51 (.t 9)⟩,
  ⟨some (50, false), .call (some 52) 40 [(.t 51), (.c (.int .i64 8))]⟩,
  ⟨none, .pick 53 (.t 50) (.c (.bool true)) (.t 52)⟩]
| 14 => [⟨none, .nils 2 52 2⟩,
  ⟨none, .mov 3 (.c (.int .i64 70))⟩]
| 15 => [⟨none, .mov 54 (.t 9)⟩,
  ⟨none, .bin 55 .neq (.t 54) (.c (.int .i64 0))⟩]
| 16 => [⟨none, .mov 56 (.t 2)⟩,
  ⟨none, .mov 57 (.t 8)⟩,
  ⟨none, .mov 58 (.t 9)⟩,
  ⟨none, .build 59 [(.str []), (.int .i64 0)] [(0, 1, (.t 57)), (1, 1, (.t 58))]⟩,
  ⟨none, .bsn 60 52 2 [(.t 59)]⟩,
  ⟨none, .app 61 52 2 24 (.t 56) (.t 60)⟩,
  ⟨none, .mov 2 (.t 61)⟩]
| 17 => [⟨none, .bin 62 .add (.t 37) (.c (.int .i64 1))⟩,
  ⟨none, .mov 37 (.t 62)⟩]
| 18 => [⟨none, .mov 63 (.t 2)⟩,
  ⟨none, .lenl 64 (.t 63)⟩,
  ⟨none, .bin 65 .gtr (.t 64) (.c (.int .i64 4))⟩]
| 19 => [⟨none, .nils 2 52 2⟩,
  ⟨none, .mov 3 (.c (.int .i64 2))⟩]
| 20 => [⟨none, .mov 66 (.t 2)⟩,
  ⟨none, .mov 2 (.t 66)⟩,
  ⟨none, .mov 3 (.c (.int .i64 0))⟩]
| _ => []
def L61_0 : Nat → J
| _ => (.sq [2, 4, 12, 13, 14, 15] (.rg R61 3) (.ct [2, 4, 12, 13, 14] (.cond (.t 15) .skip (.exit 0)) (.ct [2, 4, 12, 13, 14] (.block 1 (.sq [2, 4, 6, 12, 13, 14] (.rg R61 4) (.ct [2, 4, 6, 12, 13, 14] (.sq [2, 4, 6, 12, 13, 14, 21] (.rg R61 5) (.cond (.t 21) (.sq [2, 3] (.rg R61 6) .ret) .skip)) (.dr [] [] R61 7 [])))) (.rg R61 8))))
def L61_1 : Nat → J
| _ => (.sq [2, 4, 35, 36, 37, 38] (.rg R61 10) (.ct [2, 4, 35, 36, 37] (.cond (.t 38) .skip (.exit 2)) (.ct [2, 4, 35, 36, 37] (.block 3 (.sq [2, 4, 8, 35, 36, 37] (.rg R61 11) (.sq [2, 4, 8, 9, 10, 35, 36, 37] (.rg R61 12) (.ct [2, 4, 8, 9, 35, 36, 37] (.sq [2, 4, 8, 9, 35, 36, 37, 53] (.rg R61 13) (.cond (.t 53) (.sq [2, 3] (.rg R61 14) .ret) .skip)) (.sq [2, 4, 8, 9, 35, 36, 37, 55] (.rg R61 15) (.cond (.t 55) (.rg R61 16) .skip)))))) (.rg R61 17))))
def c61 : J := (.sq [0, 2] (.rg R61 0) (.sq [0, 2, 4] (.rg R61 1) (.sq [2, 4] (.sq [2, 4, 12, 13, 14] (.rg R61 2) (.block 0 (.lp L61_0 0))) (.sq [2] (.sq [2, 4, 35, 36, 37] (.rg R61 9) (.block 2 (.lp L61_1 0))) (.ct [2] (.sq [2, 65] (.rg R61 18) (.cond (.t 65) (.sq [2, 3] (.rg R61 19) .ret) .skip)) (.sq [2, 3] (.rg R61 20) .ret))))))
theorem comp61 : Tryz.f61.body.bind (comp Tryz.prog (GLm mx) 67 [] []) = some c61.ir := by kernel_rfl
theorem rv61 : Tryz.f61.results.toList.mapM (compRV Tryz.prog) = some [.tmp 2, .tmp 3] := by kernel_rfl

def R63 : Nat → List GI
| 0 => [⟨none, .mov 4 (.c (.int .i64 0))⟩]
| 1 => [⟨none, .mov 6 (.t 0)⟩,
  ⟨none, .lenl 7 (.t 6)⟩,
  ⟨none, .mov 8 (.c (.int .i64 0))⟩]
| 2 => [⟨none, .bin 9 .lss (.t 8) (.t 7)⟩]
| 3 => [⟨none, .mov 10 (.t 8)⟩,
  ⟨none, .mov 5 (.t 10)⟩]
| 4 => [⟨none, .mov 11 (.t 1)⟩,
  ⟨none, .mov 12 (.t 0)⟩,
  ⟨none, .mov 13 (.t 5)⟩,
  ⟨none, .ia 14 (.t 12) (.t 13) 2⟩,
  ⟨none, .load 15 (.t 14) 2 true⟩,
  ⟨none, .callv (some 16) (.t 11) [(.t 15)]⟩]
| 5 => [⟨none, .mov 17 (.t 5)⟩,
  ⟨none, .mov 4 (.t 17)⟩]
| 6 => [⟨none, .bin 18 .add (.t 8) (.c (.int .i64 1))⟩,
  ⟨none, .mov 8 (.t 18)⟩]
| 7 => [⟨none, .mov 4 (.c (.int .i64 (-1)))⟩]
| _ => []
def L63_0 : Nat → J
| _ => (.sq [0, 1, 7, 8, 9] (.rg R63 2) (.ct [0, 1, 7, 8] (.cond (.t 9) .skip (.exit 0)) (.ct [0, 1, 7, 8] (.block 1 (.sq [0, 1, 5, 7, 8] (.rg R63 3) (.sq [0, 1, 5, 7, 8, 16] (.rg R63 4) (.cond (.t 16) (.sq [4] (.rg R63 5) .ret) .skip)))) (.rg R63 6))))
def c63 : J := (.sq [0, 1] (.rg R63 0) (.sq [] (.sq [0, 1, 7, 8] (.rg R63 1) (.block 0 (.lp L63_0 0))) (.sq [4] (.rg R63 7) .ret)))
theorem comp63 : Tryz.f63.body.bind (comp Tryz.prog (GLm mx) 19 [] []) = some c63.ir := by kernel_rfl
theorem rv63 : Tryz.f63.results.toList.mapM (compRV Tryz.prog) = some [.tmp 4] := by kernel_rfl

def R64 : Nat → List GI
| 0 => [⟨none, .mov 4 (.c (.int .i64 0))⟩]
| 1 => [⟨none, .mov 6 (.t 0)⟩,
  ⟨none, .mov 7 (.t 1)⟩,
  ⟨none, .ia 8 (.t 6) (.t 7) 1⟩,
  ⟨none, .load 9 (.t 8) 1 false⟩,
  ⟨none, .call (some 10) 83 [(.t 9)]⟩,
  ⟨none, .un 11 .not (.t 10)⟩]
| 2 => [⟨none, .mov 4 (.c (.int .i64 0))⟩]
| 3 => [⟨none, .mov 5 (.c (.int .i64 1))⟩]
| 4 => [⟨none, .mov 12 (.t 1)⟩,
  ⟨none, .mov 13 (.t 5)⟩,
  ⟨none, .bin 14 .add (.t 12) (.t 13)⟩,
  ⟨none, .mov 15 (.t 0)⟩,
  ⟨none, .lenl 16 (.t 15)⟩,
  ⟨none, .bin 17 .lss (.t 14) (.t 16)⟩,
  ⟨none, .mov 18 (.t 17)⟩,
  ⟨some (18, true), .mov 19 (.t 0)⟩,
  ⟨some (18, true), .mov 20 (.t 1)⟩,
  ⟨some (18, true), .mov 21 (.t 5)⟩,
  ⟨some (18, true), .bin 22 .add (.t 20) (.t 21)⟩,
  ⟨some (18, true), .ia 23 (.t 19) (.t 22) 1⟩,
  ⟨some (18, true), .load 24 (.t 23) 1 false⟩,
  ⟨some (18, true), .call (some 25) 83 [(.t 24)]⟩,
  ⟨some (18, true), .mov 26 (.t 25)⟩,
  ⟨some (26, false), .mov 27 (.t 0)⟩,
  ⟨some (26, false), .mov 28 (.t 1)⟩,
  ⟨some (26, false), .mov 29 (.t 5)⟩,
  ⟨some (26, false), .bin 30 .add (.t 28) (.t 29)⟩,
  ⟨some (26, false), .ia 31 (.t 27) (.t 30) 1⟩,
  ⟨some (26, false), .load 32 (.t 31) 1 false⟩,
  ⟨some (26, false), .call (some 33) 84 [(.t 32)]⟩,
  ⟨some (18, true), .pick 34 (.t 26) (.c (.bool true)) (.t 33)⟩,
  ⟨some (18, true), .mov 35 (.t 34)⟩,
  ⟨some (35, false), .mov 36 (.t 0)⟩,
  ⟨some (35, false), .mov 37 (.t 1)⟩,
  ⟨some (35, false), .mov 38 (.t 5)⟩,
  ⟨some (35, false), .bin 39 .add (.t 37) (.t 38)⟩,
  ⟨some (35, false), .ia 40 (.t 36) (.t 39) 1⟩,
  ⟨some (35, false), .load 41 (.t 40) 1 false⟩,
  ⟨some (35, false), .bin 42 .eql (.t 41) (.c (.int .u8 95))⟩,
  ⟨some (18, true), .pick 43 (.t 35) (.c (.bool true)) (.t 42)⟩,
  ⟨none, .pick 44 (.t 18) (.t 43) (.c (.bool false))⟩]
| 5 => [⟨none, .mov 45 (.t 5)⟩,
  ⟨none, .bin 46 .add (.t 45) (.c (.int .i64 1))⟩,
  ⟨none, .mov 5 (.t 46)⟩]
| 6 => [⟨none, .mov 47 (.t 5)⟩,
  ⟨none, .mov 4 (.t 47)⟩]
| _ => []
def L64_0 : Nat → J
| _ => (.ct [0, 1, 5] (.sq [0, 1, 5, 44] (.rg R64 4) (.cond (.t 44) .skip (.exit 0))) (.block 1 (.rg R64 5)))
def c64 : J := (.sq [0, 1] (.rg R64 0) (.ct [0, 1] (.sq [0, 1, 11] (.rg R64 1) (.cond (.t 11) (.sq [4] (.rg R64 2) .ret) .skip)) (.sq [0, 1, 5] (.rg R64 3) (.sq [5] (.block 0 (.lp L64_0 0)) (.sq [4] (.rg R64 6) .ret)))))
theorem comp64 : Tryz.f64.body.bind (comp Tryz.prog (GLm mx) 48 [] []) = some c64.ir := by kernel_rfl
theorem rv64 : Tryz.f64.results.toList.mapM (compRV Tryz.prog) = some [.tmp 4] := by kernel_rfl

def R65 : Nat → List GI
| 0 => [⟨none, .mov 2 (.c (.bool false))⟩]
| 1 => [⟨none, .mov 3 (.t 0)⟩]
| 2 => [⟨none, .bin 5 .eql (.t 3) (.c (.str [116, 97, 98, 108, 101]))⟩,
  ⟨none, .mov 4 (.t 5)⟩]
| 3 => [⟨none, .bin 6 .eql (.t 3) (.c (.str [102, 101, 97, 116, 117, 114, 101]))⟩,
  ⟨none, .mov 4 (.t 6)⟩]
| 4 => [⟨none, .bin 7 .eql (.t 3) (.c (.str [111, 102]))⟩,
  ⟨none, .mov 4 (.t 7)⟩]
| 5 => [⟨none, .bin 8 .eql (.t 3) (.c (.str [107, 101, 101, 112]))⟩,
  ⟨none, .mov 4 (.t 8)⟩]
| 6 => [⟨none, .bin 9 .eql (.t 3) (.c (.str [98, 111, 111, 108]))⟩,
  ⟨none, .mov 4 (.t 9)⟩]
| 7 => [⟨none, .bin 10 .eql (.t 3) (.c (.str [116, 101, 120, 116]))⟩,
  ⟨none, .mov 4 (.t 10)⟩]
| 8 => [⟨none, .bin 11 .eql (.t 3) (.c (.str [107, 101, 121]))⟩,
  ⟨none, .mov 4 (.t 11)⟩]
| 9 => [⟨none, .bin 12 .eql (.t 3) (.c (.str [105, 110, 116]))⟩,
  ⟨none, .mov 4 (.t 12)⟩]
| 10 => [⟨none, .bin 13 .eql (.t 3) (.c (.str [100, 101, 99]))⟩,
  ⟨none, .mov 4 (.t 13)⟩]
| 11 => [⟨none, .bin 14 .eql (.t 3) (.c (.str [105, 102]))⟩,
  ⟨none, .mov 4 (.t 14)⟩]
| 12 => [⟨none, .bin 15 .eql (.t 3) (.c (.str [116, 104, 101, 110]))⟩,
  ⟨none, .mov 4 (.t 15)⟩]
| 13 => [⟨none, .bin 16 .eql (.t 3) (.c (.str [101, 108, 115, 101]))⟩,
  ⟨none, .mov 4 (.t 16)⟩]
| 14 => [⟨none, .bin 17 .eql (.t 3) (.c (.str [100, 101, 102, 97, 117, 108, 116]))⟩,
  ⟨none, .mov 4 (.t 17)⟩]
| 15 => [⟨none, .bin 18 .eql (.t 3) (.c (.str [111, 114]))⟩,
  ⟨none, .mov 4 (.t 18)⟩]
| 16 => [⟨none, .bin 19 .eql (.t 3) (.c (.str [97, 110, 100]))⟩,
  ⟨none, .mov 4 (.t 19)⟩]
| 17 => [⟨none, .bin 20 .eql (.t 3) (.c (.str [110, 111, 116]))⟩,
  ⟨none, .mov 4 (.t 20)⟩]
| 18 => [⟨none, .bin 21 .eql (.t 3) (.c (.str [116, 114, 117, 101]))⟩,
  ⟨none, .mov 4 (.t 21)⟩]
| 19 => [⟨none, .bin 22 .eql (.t 3) (.c (.str [102, 97, 108, 115, 101]))⟩,
  ⟨none, .mov 4 (.t 22)⟩]
| 20 => [⟨none, .bin 23 .eql (.t 3) (.c (.str [110, 117, 108, 108]))⟩,
  ⟨none, .mov 4 (.t 23)⟩]
| 21 => [⟨none, .mov 2 (.c (.bool true))⟩]
| 22 => [⟨none, .bin 25 .eql (.t 3) (.c (.str [99, 111, 117, 110, 116]))⟩,
  ⟨none, .mov 24 (.t 25)⟩]
| 23 => [⟨none, .bin 26 .eql (.t 3) (.c (.str [115, 117, 109]))⟩,
  ⟨none, .mov 24 (.t 26)⟩]
| 24 => [⟨none, .bin 27 .eql (.t 3) (.c (.str [109, 101, 97, 110]))⟩,
  ⟨none, .mov 24 (.t 27)⟩]
| 25 => [⟨none, .bin 28 .eql (.t 3) (.c (.str [109, 105, 110]))⟩,
  ⟨none, .mov 24 (.t 28)⟩]
| 26 => [⟨none, .bin 29 .eql (.t 3) (.c (.str [109, 97, 120]))⟩,
  ⟨none, .mov 24 (.t 29)⟩]
| 27 => [⟨none, .bin 30 .eql (.t 3) (.c (.str [102, 105, 114, 115, 116]))⟩,
  ⟨none, .mov 24 (.t 30)⟩]
| 28 => [⟨none, .bin 31 .eql (.t 3) (.c (.str [108, 97, 115, 116]))⟩,
  ⟨none, .mov 24 (.t 31)⟩]
| 29 => [⟨none, .bin 32 .eql (.t 3) (.c (.str [100, 105, 115, 116, 105, 110, 99, 116]))⟩,
  ⟨none, .mov 24 (.t 32)⟩]
| 30 => [⟨none, .bin 33 .eql (.t 3) (.c (.str [113, 117, 97, 110, 116, 105, 108, 101]))⟩,
  ⟨none, .mov 24 (.t 33)⟩]
| 31 => [⟨none, .bin 34 .eql (.t 3) (.c (.str [100, 101, 99, 97, 121]))⟩,
  ⟨none, .mov 24 (.t 34)⟩]
| 32 => [⟨none, .bin 35 .eql (.t 3) (.c (.str [97, 108, 108]))⟩,
  ⟨none, .mov 24 (.t 35)⟩]
| 33 => [⟨none, .bin 36 .eql (.t 3) (.c (.str [115, 108, 105, 100, 105, 110, 103]))⟩,
  ⟨none, .mov 24 (.t 36)⟩]
| 34 => [⟨none, .bin 37 .eql (.t 3) (.c (.str [116, 117, 109, 98, 108, 105, 110, 103]))⟩,
  ⟨none, .mov 24 (.t 37)⟩]
| 35 => [⟨none, .bin 38 .eql (.t 3) (.c (.str [115, 101, 115, 115, 105, 111, 110]))⟩,
  ⟨none, .mov 24 (.t 38)⟩]
| 36 => [⟨none, .bin 39 .eql (.t 3) (.c (.str [119, 104, 101, 114, 101]))⟩,
  ⟨none, .mov 24 (.t 39)⟩]
| 37 => [⟨none, .mov 2 (.c (.bool true))⟩]
| 38 => [⟨none, .mov 2 (.c (.bool false))⟩]
| _ => []
def c65 : J := (.sq [0] (.rg R65 0) (.ct [] (.sq [3] (.rg R65 1) (.block 0 (.ct [3, 4] (.sq [3, 4] (.rg R65 2) (.cond (.t 4) .skip (.sq [3, 4] (.rg R65 3) (.cond (.t 4) .skip (.sq [3, 4] (.rg R65 4) (.cond (.t 4) .skip (.sq [3, 4] (.rg R65 5) (.cond (.t 4) .skip (.sq [3, 4] (.rg R65 6) (.cond (.t 4) .skip (.sq [3, 4] (.rg R65 7) (.cond (.t 4) .skip (.sq [3, 4] (.rg R65 8) (.cond (.t 4) .skip (.sq [3, 4] (.rg R65 9) (.cond (.t 4) .skip (.sq [3, 4] (.rg R65 10) (.cond (.t 4) .skip (.sq [3, 4] (.rg R65 11) (.cond (.t 4) .skip (.sq [3, 4] (.rg R65 12) (.cond (.t 4) .skip (.sq [3, 4] (.rg R65 13) (.cond (.t 4) .skip (.sq [3, 4] (.rg R65 14) (.cond (.t 4) .skip (.sq [3, 4] (.rg R65 15) (.cond (.t 4) .skip (.sq [3, 4] (.rg R65 16) (.cond (.t 4) .skip (.sq [3, 4] (.rg R65 17) (.cond (.t 4) .skip (.sq [3, 4] (.rg R65 18) (.cond (.t 4) .skip (.sq [3, 4] (.rg R65 19) (.cond (.t 4) .skip (.rg R65 20))))))))))))))))))))))))))))))))))))) (.cond (.t 4) (.sq [2] (.rg R65 21) .ret) (.ct [24] (.sq [3, 24] (.rg R65 22) (.cond (.t 24) .skip (.sq [3, 24] (.rg R65 23) (.cond (.t 24) .skip (.sq [3, 24] (.rg R65 24) (.cond (.t 24) .skip (.sq [3, 24] (.rg R65 25) (.cond (.t 24) .skip (.sq [3, 24] (.rg R65 26) (.cond (.t 24) .skip (.sq [3, 24] (.rg R65 27) (.cond (.t 24) .skip (.sq [3, 24] (.rg R65 28) (.cond (.t 24) .skip (.sq [3, 24] (.rg R65 29) (.cond (.t 24) .skip (.sq [3, 24] (.rg R65 30) (.cond (.t 24) .skip (.sq [3, 24] (.rg R65 31) (.cond (.t 24) .skip (.sq [3, 24] (.rg R65 32) (.cond (.t 24) .skip (.sq [3, 24] (.rg R65 33) (.cond (.t 24) .skip (.sq [3, 24] (.rg R65 34) (.cond (.t 24) .skip (.sq [3, 24] (.rg R65 35) (.cond (.t 24) .skip (.rg R65 36))))))))))))))))))))))))))))) (.cond (.t 24) (.sq [2] (.rg R65 37) .ret) .skip)))))) (.sq [2] (.rg R65 38) .ret)))
theorem comp65 : Tryz.f65.body.bind (comp Tryz.prog (GLm mx) 40 [] []) = some c65.ir := by kernel_rfl
theorem rv65 : Tryz.f65.results.toList.mapM (compRV Tryz.prog) = some [.tmp 2] := by kernel_rfl

def R66 : Nat → List GI
| 0 => [⟨none, .mov 2 (.c (.bool false))⟩]
| 1 => [⟨none, .mov 6 (.t 0)⟩,
  ⟨none, .lens 7 (.t 6)⟩,
  ⟨none, .bin 8 .lss (.t 7) (.c (.int .i64 1))⟩,
  ⟨none, .mov 9 (.t 8)⟩,
  ⟨some (9, false), .mov 10 (.t 0)⟩,
  ⟨some (9, false), .lens 11 (.t 10)⟩,
  ⟨some (9, false), .bin 12 .gtr (.t 11) (.c (.int .i64 24))⟩,
  ⟨none, .pick 13 (.t 9) (.c (.bool true)) (.t 12)⟩,
  ⟨none, .mov 14 (.t 13)⟩,
  ⟨some (14, false), .mov 15 (.t 0)⟩,
  ⟨some (14, false), .idx 16 (.t 15) (.c (.int .i64 0))⟩,
  ⟨some (14, false), .bin 17 .lss (.t 16) (.c (.int .u8 97))⟩,
  ⟨none, .pick 18 (.t 14) (.c (.bool true)) (.t 17)⟩,
  ⟨none, .mov 19 (.t 18)⟩,
  ⟨some (19, false), .mov 20 (.t 0)⟩,
  ⟨some (19, false), .idx 21 (.t 20) (.c (.int .i64 0))⟩,
  ⟨some (19, false), .bin 22 .gtr (.t 21) (.c (.int .u8 122))⟩,
  ⟨none, .pick 23 (.t 19) (.c (.bool true)) (.t 22)⟩]
| 2 => [⟨none, .mov 2 (.c (.bool false))⟩]
| 3 => [⟨none, .mov 3 (.c (.int .i64 0))⟩]
| 4 => [⟨none, .mov 24 (.t 3)⟩,
  ⟨none, .mov 25 (.t 0)⟩,
  ⟨none, .lens 26 (.t 25)⟩,
  ⟨none, .bin 27 .lss (.t 24) (.t 26)⟩]
| 5 => [⟨none, .mov 30 (.t 0)⟩,
  ⟨none, .mov 31 (.t 3)⟩,
  ⟨none, .idx 32 (.t 30) (.t 31)⟩,
  ⟨none, .bin 33 .geq (.t 32) (.c (.int .u8 97))⟩,
  ⟨none, .mov 34 (.t 33)⟩,
  ⟨some (34, true), .mov 35 (.t 0)⟩,
  ⟨some (34, true), .mov 36 (.t 3)⟩,
  ⟨some (34, true), .idx 37 (.t 35) (.t 36)⟩,
  ⟨some (34, true), .bin 38 .leq (.t 37) (.c (.int .u8 122))⟩,
  ⟨none, .pick 39 (.t 34) (.t 38) (.c (.bool false))⟩,
  ⟨none, .mov 4 (.t 39)⟩]
| 6 => [⟨none, .mov 40 (.t 0)⟩,
  ⟨none, .mov 41 (.t 3)⟩,
  ⟨none, .idx 42 (.t 40) (.t 41)⟩,
  ⟨none, .bin 43 .geq (.t 42) (.c (.int .u8 48))⟩,
  ⟨none, .mov 44 (.t 43)⟩,
  ⟨some (44, true), .mov 45 (.t 0)⟩,
  ⟨some (44, true), .mov 46 (.t 3)⟩,
  ⟨some (44, true), .idx 47 (.t 45) (.t 46)⟩,
  ⟨some (44, true), .bin 48 .leq (.t 47) (.c (.int .u8 57))⟩,
  ⟨none, .pick 49 (.t 44) (.t 48) (.c (.bool false))⟩,
  ⟨none, .mov 5 (.t 49)⟩]
| 7 => [⟨none, .mov 50 (.t 4)⟩,
  ⟨none, .un 51 .not (.t 50)⟩,
  ⟨none, .mov 52 (.t 51)⟩,
  ⟨some (52, true), .mov 53 (.t 5)⟩,
  ⟨some (52, true), .un 54 .not (.t 53)⟩,
  ⟨none, .pick 55 (.t 52) (.t 54) (.c (.bool false))⟩,
  ⟨none, .mov 56 (.t 55)⟩,
  ⟨some (56, true), .mov 57 (.t 0)⟩,
  ⟨some (56, true), .mov 58 (.t 3)⟩,
  ⟨some (56, true), .idx 59 (.t 57) (.t 58)⟩,
  ⟨some (56, true), .bin 60 .neq (.t 59) (.c (.int .u8 95))⟩,
  ⟨none, .pick 61 (.t 56) (.t 60) (.c (.bool false))⟩]
| 8 => [⟨none, .mov 2 (.c (.bool false))⟩]
| 9 => [⟨none, .mov 28 (.t 3)⟩,
  ⟨none, .bin 29 .add (.t 28) (.c (.int .i64 1))⟩,
  ⟨none, .mov 3 (.t 29)⟩]
| 10 => [⟨none, .mov 2 (.c (.bool true))⟩]
| _ => []
def L66_0 : Nat → J
| _ => (.ct [0, 3] (.sq [0, 3, 27] (.rg R66 4) (.cond (.t 27) .skip (.exit 0))) (.ct [0, 3] (.block 1 (.sq [0, 3, 4] (.rg R66 5) (.sq [0, 3, 4, 5] (.rg R66 6) (.sq [0, 3, 61] (.rg R66 7) (.cond (.t 61) (.sq [2] (.rg R66 8) .ret) .skip))))) (.rg R66 9)))
def c66 : J := (.sq [0] (.rg R66 0) (.ct [0] (.sq [0, 23] (.rg R66 1) (.cond (.t 23) (.sq [2] (.rg R66 2) .ret) .skip)) (.sq [] (.sq [0, 3] (.rg R66 3) (.block 0 (.lp L66_0 0))) (.sq [2] (.rg R66 10) .ret))))
theorem comp66 : Tryz.f66.body.bind (comp Tryz.prog (GLm mx) 62 [] []) = some c66.ir := by kernel_rfl
theorem rv66 : Tryz.f66.results.toList.mapM (compRV Tryz.prog) = some [.tmp 2] := by kernel_rfl

def R67 : Nat → List GI
| 0 => [⟨none, .mov 2 (.c (.bool false))⟩]
| 1 => [⟨none, .mov 3 (.t 0)⟩,
  ⟨none, .bin 4 .gtr (.t 3) (.c (.int .i64 8))⟩,
  ⟨none, .mov 5 (.t 4)⟩,
  ⟨some (5, false), .mov 6 (.t 0)⟩,
  ⟨some (5, false), .bin 7 .lss (.t 6) (.c (.int .i64 (-8)))⟩,
  ⟨none, .pick 8 (.t 5) (.c (.bool true)) (.t 7)⟩,
  ⟨none, .mov 2 (.t 8)⟩]
| _ => []
def c67 : J := (.sq [0] (.rg R67 0) (.sq [2] (.rg R67 1) .ret))
theorem comp67 : Tryz.f67.body.bind (comp Tryz.prog (GLm mx) 9 [] []) = some c67.ir := by kernel_rfl
theorem rv67 : Tryz.f67.results.toList.mapM (compRV Tryz.prog) = some [.tmp 2] := by kernel_rfl

def R68 : Nat → List GI
| 0 => [⟨none, .box 3 (.t 0)⟩,
  ⟨none, .box 4 (.t 1)⟩,
  ⟨none, .alloc 6 [(.int .i64 0), (.sl []), (.str [])]⟩,
  ⟨none, .mov 7 (.c (.int .i64 0))⟩]
| 1 => [⟨none, .fa 8 (.t 4) 4⟩,
  ⟨none, .fa 9 (.t 8) 0⟩,
  ⟨none, .load 10 (.t 9) 1 false⟩,
  ⟨none, .fa 11 (.t 4) 7⟩,
  ⟨none, .load 12 (.t 11) 1 false⟩,
  ⟨none, .fa 13 (.t 4) 2⟩,
  ⟨none, .load 14 (.t 13) 1 false⟩,
  ⟨none, .build 15 [(.int .i64 0), (.sl []), (.str [])] [(0, 1, (.t 10)), (1, 1, (.t 12)), (2, 1, (.t 14))]⟩,
  ⟨none, .store (.t 6) (.t 15) 3⟩,
  ⟨none, .mov 7 (.c (.int .i64 0))⟩]
| _ => []
def c68 : J := (.sq [4, 6] (.rg R68 0) (.sq [6, 7] (.rg R68 1) .ret))
theorem comp68 : Tryz.f68.body.bind (comp Tryz.prog (GLm mx) 16 [6] []) = some c68.ir := by kernel_rfl
theorem rv68 : Tryz.f68.results.toList.mapM (compRV Tryz.prog) = some [.cell 6 3 true, .tmp 7] := by kernel_rfl

def R69 : Nat → List GI
| 0 => [⟨none, .box 3 (.t 0)⟩,
  ⟨none, .box 4 (.t 1)⟩,
  ⟨none, .alloc 6 [(.int .i64 0), (.sl []), (.str [])]⟩,
  ⟨none, .mov 7 (.c (.int .i64 0))⟩]
| 1 => [⟨none, .fa 8 (.t 3) 5⟩,
  ⟨none, .load 9 (.t 8) 1 false⟩,
  ⟨none, .fa 10 (.t 4) 2⟩,
  ⟨none, .load 11 (.t 10) 1 false⟩,
  ⟨none, .callv (some 12) (.t 9) [(.t 11)]⟩,
  ⟨none, .ext 13 (.t 12) 0⟩,
  ⟨none, .ext 14 (.t 12) 1⟩,
  ⟨none, .store (.t 6) (.t 13) 3⟩,
  ⟨none, .mov 7 (.t 14)⟩]
| _ => []
def c69 : J := (.sq [3, 4, 6] (.rg R69 0) (.sq [6, 7] (.rg R69 1) .ret))
theorem comp69 : Tryz.f69.body.bind (comp Tryz.prog (GLm mx) 15 [6] []) = some c69.ir := by kernel_rfl
theorem rv69 : Tryz.f69.results.toList.mapM (compRV Tryz.prog) = some [.cell 6 3 true, .tmp 7] := by kernel_rfl

def R70 : Nat → List GI
| 0 => [⟨none, .box 3 (.t 0)⟩,
  ⟨none, .box 4 (.t 1)⟩,
  ⟨none, .alloc 6 [(.int .i64 0), (.sl []), (.str [])]⟩,
  ⟨none, .mov 7 (.c (.int .i64 0))⟩]
| 1 => [⟨none, .load 8 (.t 3) 6 true⟩,
  ⟨none, .fa 9 (.t 4) 2⟩,
  ⟨none, .load 10 (.t 9) 1 false⟩,
  ⟨none, .fa 11 (.t 3) 4⟩,
  ⟨none, .load 12 (.t 11) 1 false⟩,
  ⟨none, .call (some 13) 85 [(.t 8), (.t 10), (.t 12)]⟩,
  ⟨none, .ext 14 (.t 13) 0⟩,
  ⟨none, .ext 15 (.t 13) 1⟩,
  ⟨none, .store (.t 6) (.t 14) 3⟩,
  ⟨none, .mov 7 (.t 15)⟩]
| _ => []
def c70 : J := (.sq [3, 4, 6] (.rg R70 0) (.sq [6, 7] (.rg R70 1) .ret))
theorem comp70 : Tryz.f70.body.bind (comp Tryz.prog (GLm mx) 16 [6] []) = some c70.ir := by kernel_rfl
theorem rv70 : Tryz.f70.results.toList.mapM (compRV Tryz.prog) = some [.cell 6 3 true, .tmp 7] := by kernel_rfl

def R71 : Nat → List GI
| 0 => [⟨none, .box 3 (.t 0)⟩,
  ⟨none, .box 4 (.t 1)⟩,
  ⟨none, .alloc 6 [(.int .i64 0), (.sl []), (.str [])]⟩,
  ⟨none, .mov 7 (.c (.int .i64 0))⟩]
| 1 => [⟨none, .mov 8 (.t 2)⟩,
  ⟨none, .ia 9 (.t 8) (.c (.int .i64 0)) 3⟩,
  ⟨none, .fa 10 (.t 9) 0⟩,
  ⟨none, .load 11 (.t 10) 1 false⟩,
  ⟨none, .bin 12 .neq (.t 11) (.c (.int .i64 5))⟩]
| 2 => [⟨none, .call (some 13) 33 [(.c (.int .i64 5))]⟩,
  ⟨none, .ext 14 (.t 13) 0⟩,
  ⟨none, .ext 15 (.t 13) 1⟩,
  ⟨none, .store (.t 6) (.t 14) 3⟩,
  ⟨none, .mov 7 (.t 15)⟩]
| 3 => [⟨none, .load 16 (.t 3) 6 true⟩,
  ⟨none, .fa 17 (.t 4) 2⟩,
  ⟨none, .load 18 (.t 17) 1 false⟩,
  ⟨none, .mov 19 (.t 2)⟩,
  ⟨none, .ia 20 (.t 19) (.c (.int .i64 0)) 3⟩,
  ⟨none, .fa 21 (.t 20) 2⟩,
  ⟨none, .load 22 (.t 21) 1 false⟩,
  ⟨none, .call (some 23) 85 [(.t 16), (.t 18), (.t 22)]⟩,
  ⟨none, .ext 24 (.t 23) 0⟩,
  ⟨none, .ext 25 (.t 23) 1⟩,
  ⟨none, .store (.t 6) (.t 24) 3⟩,
  ⟨none, .mov 7 (.t 25)⟩]
| _ => []
def c71 : J := (.sq [2, 3, 4, 6] (.rg R71 0) (.ct [2, 3, 4, 6] (.sq [2, 3, 4, 6, 12] (.rg R71 1) (.cond (.t 12) (.sq [6, 7] (.rg R71 2) .ret) .skip)) (.sq [6, 7] (.dr [6] [] R71 3 []) .ret)))
theorem comp71 : Tryz.f71.body.bind (comp Tryz.prog (GLm mx) 26 [6] []) = some c71.ir := by kernel_rfl
theorem rv71 : Tryz.f71.results.toList.mapM (compRV Tryz.prog) = some [.cell 6 3 true, .tmp 7] := by kernel_rfl

def R72 : Nat → List GI
| 0 => [⟨none, .box 3 (.t 0)⟩,
  ⟨none, .box 4 (.t 1)⟩,
  ⟨none, .alloc 6 [(.int .i64 0), (.sl []), (.str [])]⟩,
  ⟨none, .mov 7 (.c (.int .i64 0))⟩]
| 1 => [⟨none, .mov 9 (.t 2)⟩,
  ⟨none, .ia 10 (.t 9) (.c (.int .i64 1)) 3⟩,
  ⟨none, .fa 11 (.t 10) 0⟩,
  ⟨none, .load 12 (.t 11) 1 false⟩,
  ⟨none, .bin 13 .neq (.t 12) (.c (.int .i64 1))⟩]
| 2 => [⟨none, .call (some 14) 33 [(.c (.int .i64 5))]⟩,
  ⟨none, .ext 15 (.t 14) 0⟩,
  ⟨none, .ext 16 (.t 14) 1⟩,
  ⟨none, .store (.t 6) (.t 15) 3⟩,
  ⟨none, .mov 7 (.t 16)⟩]
| 3 => [⟨none, .mov 17 (.t 2)⟩,
  ⟨none, .ia 18 (.t 17) (.c (.int .i64 0)) 3⟩,
  ⟨none, .fa 19 (.t 18) 1⟩,
  ⟨none, .load 20 (.t 19) 1 false⟩,
  ⟨none, .build 21 [(.int .i64 0), (.sl []), (.str [])] [(0, 1, (.c (.int .i64 3))), (1, 1, (.t 20))]⟩,
  ⟨none, .alloc 8 [(.int .i64 0), (.sl []), (.str [])]⟩,
  ⟨none, .stfrz (.t 8) (.t 21) 3⟩]
| 4 => [⟨none, .fa 22 (.t 4) 1⟩,
  ⟨none, .load 23 (.t 22) 1 false⟩]
| 5 => [⟨none, .bin 25 .eql (.t 23) (.c (.str [99, 111, 117, 110, 116]))⟩,
  ⟨none, .mov 24 (.t 25)⟩]
| 6 => [⟨none, .bin 26 .eql (.t 23) (.c (.str [100, 105, 115, 116, 105, 110, 99, 116]))⟩,
  ⟨none, .mov 24 (.t 26)⟩]
| 7 => [⟨none, .build 27 [(.int .i64 0), (.sl []), (.str [])] [(0, 1, (.c (.int .i64 2)))]⟩,
  ⟨none, .store (.t 6) (.t 27) 3⟩,
  ⟨none, .mov 7 (.c (.int .i64 0))⟩]
| 8 => [⟨none, .bin 29 .eql (.t 23) (.c (.str [102, 105, 114, 115, 116]))⟩,
  ⟨none, .mov 28 (.t 29)⟩]
| 9 => [⟨none, .bin 30 .eql (.t 23) (.c (.str [108, 97, 115, 116]))⟩,
  ⟨none, .mov 28 (.t 30)⟩]
| 10 => [⟨none, .mov 31 (.t 2)⟩,
  ⟨none, .ia 32 (.t 31) (.c (.int .i64 0)) 3⟩,
  ⟨none, .load 33 (.t 32) 3 true⟩,
  ⟨none, .store (.t 6) (.t 33) 3⟩,
  ⟨none, .mov 7 (.c (.int .i64 0))⟩]
| 11 => [⟨none, .bin 35 .eql (.t 23) (.c (.str [109, 105, 110]))⟩,
  ⟨none, .mov 34 (.t 35)⟩]
| 12 => [⟨none, .bin 36 .eql (.t 23) (.c (.str [109, 97, 120]))⟩,
  ⟨none, .mov 34 (.t 36)⟩]
| 13 => [⟨none, .mov 37 (.t 2)⟩,
  ⟨none, .ia 38 (.t 37) (.c (.int .i64 0)) 3⟩,
  ⟨none, .fa 39 (.t 38) 0⟩,
  ⟨none, .load 40 (.t 39) 1 false⟩,
  ⟨none, .bin 41 .eql (.t 40) (.c (.int .i64 4))⟩]
| 14 => [⟨none, .mov 42 (.t 2)⟩,
  ⟨none, .ia 43 (.t 42) (.c (.int .i64 0)) 3⟩,
  ⟨none, .load 44 (.t 43) 3 true⟩,
  ⟨none, .store (.t 6) (.t 44) 3⟩,
  ⟨none, .mov 7 (.c (.int .i64 0))⟩]
| 15 => [⟨none, .mov 45 (.t 2)⟩,
  ⟨none, .ia 46 (.t 45) (.c (.int .i64 0)) 3⟩,
  ⟨none, .load 47 (.t 46) 3 true⟩,
  ⟨none, .call (some 48) 42 [(.t 47)]⟩,
  ⟨none, .un 49 .not (.t 48)⟩]
| 16 => [⟨none, .call (some 50) 33 [(.c (.int .i64 5))]⟩,
  ⟨none, .ext 51 (.t 50) 0⟩,
  ⟨none, .ext 52 (.t 50) 1⟩,
  ⟨none, .store (.t 6) (.t 51) 3⟩,
  ⟨none, .mov 7 (.t 52)⟩]
| 17 => [⟨none, .fa 53 (.t 4) 1⟩,
  ⟨none, .load 54 (.t 53) 1 false⟩,
  ⟨none, .bin 55 .eql (.t 54) (.c (.str [109, 101, 97, 110]))⟩,
  ⟨none, .mov 56 (.t 55)⟩,
  ⟨some (56, false), .fa 57 (.t 4) 1⟩,
  ⟨some (56, false), .load 58 (.t 57) 1 false⟩,
  ⟨some (56, false), .bin 59 .eql (.t 58) (.c (.str [100, 101, 99, 97, 121]))⟩,
  ⟨none, .pick 60 (.t 56) (.c (.bool true)) (.t 59)⟩]
| 18 => [⟨none, .load 61 (.t 8) 3 true⟩,
  ⟨none, .store (.t 6) (.t 61) 3⟩,
  ⟨none, .mov 7 (.c (.int .i64 0))⟩]
| 19 => [⟨none, .mov 62 (.t 2)⟩,
  ⟨none, .ia 63 (.t 62) (.c (.int .i64 0)) 3⟩,
  ⟨none, .load 64 (.t 63) 3 true⟩,
  ⟨none, .store (.t 6) (.t 64) 3⟩,
  ⟨none, .mov 7 (.c (.int .i64 0))⟩]
| _ => []
def c72 : J := (.sq [2, 4, 6] (.rg R72 0) (.ct [2, 4, 6] (.sq [2, 4, 6, 13] (.rg R72 1) (.cond (.t 13) (.sq [6, 7] (.rg R72 2) .ret) .skip)) (.sq [2, 4, 6, 8] (.rg R72 3) (.ct [2, 4, 6, 8] (.sq [2, 4, 6, 8, 23] (.rg R72 4) (.block 0 (.ct [2, 4, 6, 8, 23, 24] (.sq [2, 4, 6, 8, 23, 24] (.rg R72 5) (.cond (.t 24) .skip (.rg R72 6))) (.cond (.t 24) (.sq [6, 7] (.rg R72 7) .ret) (.ct [2, 4, 6, 8, 23, 28] (.sq [2, 4, 6, 8, 23, 28] (.rg R72 8) (.cond (.t 28) .skip (.rg R72 9))) (.cond (.t 28) (.sq [6, 7] (.rg R72 10) .ret) (.ct [2, 4, 6, 8, 34] (.sq [2, 4, 6, 8, 23, 34] (.rg R72 11) (.cond (.t 34) .skip (.rg R72 12))) (.cond (.t 34) (.sq [2, 4, 6, 8, 41] (.rg R72 13) (.cond (.t 41) (.sq [6, 7] (.rg R72 14) .ret) .skip)) .skip)))))))) (.ct [2, 4, 6, 8] (.sq [2, 4, 6, 8, 49] (.rg R72 15) (.cond (.t 49) (.sq [6, 7] (.rg R72 16) .ret) .skip)) (.ct [2, 6] (.sq [2, 6, 8, 60] (.rg R72 17) (.cond (.t 60) (.sq [6, 7] (.rg R72 18) .ret) .skip)) (.sq [6, 7] (.rg R72 19) .ret)))))))
theorem comp72 : Tryz.f72.body.bind (comp Tryz.prog (GLm mx) 65 [6] []) = some c72.ir := by kernel_rfl
theorem rv72 : Tryz.f72.results.toList.mapM (compRV Tryz.prog) = some [.cell 6 3 true, .tmp 7] := by kernel_rfl

def R73 : Nat → List GI
| 0 => [⟨none, .box 3 (.t 0)⟩,
  ⟨none, .box 4 (.t 1)⟩,
  ⟨none, .alloc 6 [(.int .i64 0), (.sl []), (.str [])]⟩,
  ⟨none, .mov 7 (.c (.int .i64 0))⟩]
| 1 => [⟨none, .fa 9 (.t 4) 1⟩,
  ⟨none, .load 10 (.t 9) 1 false⟩,
  ⟨none, .bin 11 .eql (.t 10) (.c (.str [45]))⟩,
  ⟨none, .mov 12 (.t 11)⟩,
  ⟨some (12, true), .mov 13 (.t 2)⟩,
  ⟨some (12, true), .ia 14 (.t 13) (.c (.int .i64 0)) 3⟩,
  ⟨some (12, true), .load 15 (.t 14) 3 true⟩,
  ⟨some (12, true), .call (some 16) 42 [(.t 15)]⟩,
  ⟨none, .pick 17 (.t 12) (.t 16) (.c (.bool false))⟩,
  ⟨none, .mov 8 (.t 17)⟩]
| 2 => [⟨none, .mov 18 (.t 2)⟩,
  ⟨none, .ia 19 (.t 18) (.c (.int .i64 0)) 3⟩,
  ⟨none, .load 20 (.t 19) 3 true⟩,
  ⟨none, .store (.t 6) (.t 20) 3⟩,
  ⟨none, .mov 7 (.c (.int .i64 0))⟩]
| 3 => [⟨none, .fa 22 (.t 4) 1⟩,
  ⟨none, .load 23 (.t 22) 1 false⟩,
  ⟨none, .bin 24 .eql (.t 23) (.c (.str [110, 117, 108, 108]))⟩,
  ⟨none, .mov 21 (.t 24)⟩]
| 4 => [⟨none, .fa 25 (.t 4) 1⟩,
  ⟨none, .load 26 (.t 25) 1 false⟩,
  ⟨none, .bin 27 .eql (.t 26) (.c (.str [110, 111, 116]))⟩,
  ⟨none, .mov 28 (.t 27)⟩,
  ⟨some (28, true), .mov 29 (.t 2)⟩,
  ⟨some (28, true), .ia 30 (.t 29) (.c (.int .i64 0)) 3⟩,
  ⟨some (28, true), .fa 31 (.t 30) 0⟩,
  ⟨some (28, true), .load 32 (.t 31) 1 false⟩,
  ⟨some (28, true), .bin 33 .eql (.t 32) (.c (.int .i64 1))⟩,
  ⟨none, .pick 34 (.t 28) (.t 33) (.c (.bool false))⟩,
  ⟨none, .mov 21 (.t 34)⟩]
| 5 => [⟨none, .build 35 [(.int .i64 0), (.sl []), (.str [])] [(0, 1, (.c (.int .i64 1)))]⟩,
  ⟨none, .store (.t 6) (.t 35) 3⟩,
  ⟨none, .mov 7 (.c (.int .i64 0))⟩]
| 6 => [⟨none, .call (some 36) 33 [(.c (.int .i64 5))]⟩,
  ⟨none, .ext 37 (.t 36) 0⟩,
  ⟨none, .ext 38 (.t 36) 1⟩,
  ⟨none, .store (.t 6) (.t 37) 3⟩,
  ⟨none, .mov 7 (.t 38)⟩]
| _ => []
def c73 : J := (.sq [2, 4, 6] (.rg R73 0) (.ct [6] (.block 0 (.sq [2, 4, 6, 8] (.rg R73 1) (.cond (.t 8) (.sq [6, 7] (.rg R73 2) .ret) (.ct [6, 21] (.sq [2, 4, 6, 21] (.rg R73 3) (.cond (.t 21) .skip (.rg R73 4))) (.cond (.t 21) (.sq [6, 7] (.rg R73 5) .ret) .skip))))) (.sq [6, 7] (.rg R73 6) .ret)))
theorem comp73 : Tryz.f73.body.bind (comp Tryz.prog (GLm mx) 39 [6] []) = some c73.ir := by kernel_rfl
theorem rv73 : Tryz.f73.results.toList.mapM (compRV Tryz.prog) = some [.cell 6 3 true, .tmp 7] := by kernel_rfl

def R74 : Nat → List GI
| 0 => [⟨none, .box 3 (.t 0)⟩,
  ⟨none, .box 4 (.t 1)⟩,
  ⟨none, .alloc 6 [(.int .i64 0), (.sl []), (.str [])]⟩,
  ⟨none, .mov 7 (.c (.int .i64 0))⟩]
| 1 => [⟨none, .mov 16 (.t 2)⟩,
  ⟨none, .ia 17 (.t 16) (.c (.int .i64 0)) 3⟩,
  ⟨none, .load 18 (.t 17) 3 true⟩,
  ⟨none, .mov 19 (.t 2)⟩,
  ⟨none, .ia 20 (.t 19) (.c (.int .i64 1)) 3⟩,
  ⟨none, .load 21 (.t 20) 3 true⟩,
  ⟨none, .alloc 8 [(.int .i64 0), (.sl []), (.str [])]⟩,
  ⟨none, .alloc 9 [(.int .i64 0), (.sl []), (.str [])]⟩,
  ⟨none, .store (.t 8) (.t 18) 3⟩,
  ⟨none, .store (.t 9) (.t 21) 3⟩]
| 2 => [⟨none, .load 22 (.t 8) 3 true⟩,
  ⟨none, .call (some 23) 42 [(.t 22)]⟩,
  ⟨none, .mov 24 (.t 23)⟩,
  ⟨some (24, true), .load 25 (.t 9) 3 true⟩,
  ⟨some (24, true), .call (some 26) 42 [(.t 25)]⟩,
  ⟨none, .pick 27 (.t 24) (.t 26) (.c (.bool false))⟩,
  ⟨none, .mov 10 (.t 27)⟩]
| 3 => [⟨none, .fa 28 (.t 8) 1⟩,
  ⟨none, .load 29 (.t 28) 1 false⟩,
  ⟨none, .fa 30 (.t 9) 1⟩,
  ⟨none, .load 31 (.t 30) 1 false⟩,
  ⟨none, .call (some 32) 16 [(.t 29), (.t 31)]⟩,
  ⟨none, .mov 11 (.t 32)⟩]
| 4 => [⟨none, .build 33 [(.int .i64 0), (.sl []), (.str [])] [(0, 1, (.c (.int .i64 1)))]⟩,
  ⟨none, .alloc 12 [(.int .i64 0), (.sl []), (.str [])]⟩,
  ⟨none, .stfrz (.t 12) (.t 33) 3⟩]
| 5 => [⟨none, .fa 34 (.t 8) 0⟩,
  ⟨none, .load 35 (.t 34) 1 false⟩,
  ⟨none, .fa 36 (.t 9) 0⟩,
  ⟨none, .load 37 (.t 36) 1 false⟩,
  ⟨none, .max 38 (.t 35) (.t 37)⟩,
  ⟨none, .fa 39 (.t 8) 1⟩,
  ⟨none, .load 40 (.t 39) 1 false⟩,
  ⟨none, .build 41 [(.int .i64 0), (.sl []), (.str [])] [(0, 1, (.t 38)), (1, 1, (.t 40))]⟩,
  ⟨none, .alloc 13 [(.int .i64 0), (.sl []), (.str [])]⟩,
  ⟨none, .store (.t 13) (.t 41) 3⟩]
| 6 => [⟨none, .fa 42 (.t 4) 1⟩,
  ⟨none, .load 43 (.t 42) 1 false⟩]
| 7 => [⟨none, .bin 45 .eql (.t 43) (.c (.str [97, 110, 100]))⟩,
  ⟨none, .mov 44 (.t 45)⟩]
| 8 => [⟨none, .bin 46 .eql (.t 43) (.c (.str [111, 114]))⟩,
  ⟨none, .mov 44 (.t 46)⟩]
| 9 => [⟨none, .fa 47 (.t 8) 0⟩,
  ⟨none, .load 48 (.t 47) 1 false⟩,
  ⟨none, .bin 49 .eql (.t 48) (.c (.int .i64 1))⟩,
  ⟨none, .mov 50 (.t 49)⟩,
  ⟨some (50, true), .fa 51 (.t 9) 0⟩,
  ⟨some (50, true), .load 52 (.t 51) 1 false⟩,
  ⟨some (50, true), .bin 53 .eql (.t 52) (.c (.int .i64 1))⟩,
  ⟨none, .pick 54 (.t 50) (.t 53) (.c (.bool false))⟩]
| 10 => [⟨none, .load 55 (.t 12) 3 true⟩,
  ⟨none, .store (.t 6) (.t 55) 3⟩,
  ⟨none, .mov 7 (.c (.int .i64 0))⟩]
| 11 => [⟨none, .call (some 56) 33 [(.c (.int .i64 5))]⟩,
  ⟨none, .ext 57 (.t 56) 0⟩,
  ⟨none, .ext 58 (.t 56) 1⟩,
  ⟨none, .store (.t 6) (.t 57) 3⟩,
  ⟨none, .mov 7 (.t 58)⟩]
| 12 => [⟨none, .bin 60 .eql (.t 43) (.c (.str [61, 61]))⟩,
  ⟨none, .mov 59 (.t 60)⟩]
| 13 => [⟨none, .bin 61 .eql (.t 43) (.c (.str [33, 61]))⟩,
  ⟨none, .mov 59 (.t 61)⟩]
| 14 => [⟨none, .bin 62 .eql (.t 43) (.c (.str [60]))⟩,
  ⟨none, .mov 59 (.t 62)⟩]
| 15 => [⟨none, .bin 63 .eql (.t 43) (.c (.str [60, 61]))⟩,
  ⟨none, .mov 59 (.t 63)⟩]
| 16 => [⟨none, .fa 64 (.t 8) 0⟩,
  ⟨none, .load 65 (.t 64) 1 false⟩,
  ⟨none, .fa 66 (.t 9) 0⟩,
  ⟨none, .load 67 (.t 66) 1 false⟩,
  ⟨none, .bin 68 .eql (.t 65) (.t 67)⟩,
  ⟨none, .mov 69 (.t 68)⟩,
  ⟨some (69, true), .fa 70 (.t 8) 2⟩,
  ⟨some (69, true), .load 71 (.t 70) 1 false⟩,
  ⟨some (69, true), .fa 72 (.t 9) 2⟩,
  ⟨some (69, true), .load 73 (.t 72) 1 false⟩,
  ⟨some (69, true), .bin 74 .eql (.t 71) (.t 73)⟩,
  ⟨none, .pick 75 (.t 69) (.t 74) (.c (.bool false))⟩,
  ⟨none, .mov 76 (.t 75)⟩,
  ⟨some (76, true), .mov 77 (.t 11)⟩,
  ⟨none, .pick 78 (.t 76) (.t 77) (.c (.bool false))⟩,
  ⟨none, .mov 14 (.t 78)⟩]
| 17 => [⟨none, .fa 79 (.t 4) 1⟩,
  ⟨none, .load 80 (.t 79) 1 false⟩,
  ⟨none, .bin 81 .eql (.t 80) (.c (.str [60]))⟩,
  ⟨none, .mov 82 (.t 81)⟩,
  ⟨some (82, false), .fa 83 (.t 4) 1⟩,
  ⟨some (82, false), .load 84 (.t 83) 1 false⟩,
  ⟨some (82, false), .bin 85 .eql (.t 84) (.c (.str [60, 61]))⟩,
  ⟨none, .pick 86 (.t 82) (.c (.bool true)) (.t 85)⟩]
| 18 => [⟨none, .fa 87 (.t 8) 0⟩,
  ⟨none, .load 88 (.t 87) 1 false⟩,
  ⟨none, .bin 89 .eql (.t 88) (.c (.int .i64 4))⟩,
  ⟨none, .mov 90 (.t 89)⟩,
  ⟨some (90, true), .fa 91 (.t 9) 0⟩,
  ⟨some (90, true), .load 92 (.t 91) 1 false⟩,
  ⟨some (90, true), .bin 93 .eql (.t 92) (.c (.int .i64 4))⟩,
  ⟨none, .pick 94 (.t 90) (.t 93) (.c (.bool false))⟩,
  ⟨none, .mov 14 (.t 94)⟩]
| 19 => [⟨none, .mov 96 (.t 10)⟩,
  ⟨none, .mov 97 (.t 96)⟩,
  ⟨some (97, true), .mov 98 (.t 11)⟩,
  ⟨some (97, true), .un 99 .not (.t 98)⟩,
  ⟨none, .pick 100 (.t 97) (.t 99) (.c (.bool false))⟩,
  ⟨none, .mov 95 (.t 100)⟩]
| 20 => [⟨none, .call (some 101) 33 [(.c (.int .i64 70))]⟩,
  ⟨none, .ext 102 (.t 101) 0⟩,
  ⟨none, .ext 103 (.t 101) 1⟩,
  ⟨none, .store (.t 6) (.t 102) 3⟩,
  ⟨none, .mov 7 (.t 103)⟩]
| 21 => [⟨none, .mov 105 (.t 10)⟩,
  ⟨none, .mov 106 (.t 105)⟩,
  ⟨some (106, false), .mov 107 (.t 14)⟩,
  ⟨none, .pick 108 (.t 106) (.c (.bool true)) (.t 107)⟩,
  ⟨none, .mov 104 (.t 108)⟩]
| 22 => [⟨none, .load 109 (.t 12) 3 true⟩,
  ⟨none, .store (.t 6) (.t 109) 3⟩,
  ⟨none, .mov 7 (.c (.int .i64 0))⟩]
| 23 => [⟨none, .call (some 110) 33 [(.c (.int .i64 5))]⟩,
  ⟨none, .ext 111 (.t 110) 0⟩,
  ⟨none, .ext 112 (.t 110) 1⟩,
  ⟨none, .store (.t 6) (.t 111) 3⟩,
  ⟨none, .mov 7 (.t 112)⟩]
| 24 => [⟨none, .mov 113 (.t 10)⟩,
  ⟨none, .un 114 .not (.t 113)⟩]
| 25 => [⟨none, .call (some 115) 33 [(.c (.int .i64 5))]⟩,
  ⟨none, .ext 116 (.t 115) 0⟩,
  ⟨none, .ext 117 (.t 115) 1⟩,
  ⟨none, .store (.t 6) (.t 116) 3⟩,
  ⟨none, .mov 7 (.t 117)⟩]
| 26 => [⟨none, .mov 15 (.c (.int .i64 0))⟩]
| 27 => [⟨none, .fa 118 (.t 4) 1⟩,
  ⟨none, .load 119 (.t 118) 1 false⟩]
| 28 => [⟨none, .bin 121 .eql (.t 119) (.c (.str [42]))⟩,
  ⟨none, .mov 120 (.t 121)⟩]
| 29 => [⟨none, .fa 123 (.t 8) 1⟩,
  ⟨none, .load 124 (.t 123) 1 false⟩,
  ⟨none, .fa 125 (.t 9) 1⟩,
  ⟨none, .load 126 (.t 125) 1 false⟩,
  ⟨none, .call (some 127) 13 [(.t 124), (.t 126)]⟩,
  ⟨none, .mov 122 (.t 127)⟩,
  ⟨none, .ext 128 (.t 122) 0⟩,
  ⟨none, .ext 129 (.t 122) 1⟩,
  ⟨none, .fa 130 (.t 13) 1⟩,
  ⟨none, .store (.t 130) (.t 128) 1⟩,
  ⟨none, .mov 15 (.t 129)⟩]
| 30 => [⟨none, .bin 132 .eql (.t 119) (.c (.str [47]))⟩,
  ⟨none, .mov 131 (.t 132)⟩]
| 31 => [⟨none, .fa 133 (.t 13) 0⟩,
  ⟨none, .store (.t 133) (.c (.int .i64 3)) 1⟩]
| 32 => [⟨none, .fa 135 (.t 8) 1⟩,
  ⟨none, .load 136 (.t 135) 1 false⟩,
  ⟨none, .fa 137 (.t 9) 1⟩,
  ⟨none, .load 138 (.t 137) 1 false⟩,
  ⟨none, .call (some 139) 15 [(.t 136), (.t 138)]⟩,
  ⟨none, .mov 134 (.t 139)⟩,
  ⟨none, .ext 140 (.t 134) 0⟩,
  ⟨none, .ext 141 (.t 134) 1⟩,
  ⟨none, .fa 142 (.t 13) 1⟩,
  ⟨none, .store (.t 142) (.t 140) 1⟩,
  ⟨none, .mov 15 (.t 141)⟩]
| 33 => [⟨none, .mov 143 (.t 15)⟩,
  ⟨none, .bin 144 .neq (.t 143) (.c (.int .i64 0))⟩,
  ⟨none, .mov 145 (.t 144)⟩,
  ⟨some (145, false), .fa 146 (.t 4) 1⟩,
  ⟨some (145, false), .load 147 (.t 146) 1 false⟩,
  ⟨some (145, false), .bin 148 .eql (.t 147) (.c (.str [43]))⟩,
  ⟨some (145, false), .mov 149 (.t 148)⟩,
  ⟨some (149, false), .fa 150 (.t 4) 1⟩,
  ⟨some (149, false), .load 151 (.t 150) 1 false⟩,
  ⟨some (149, false), .bin 152 .eql (.t 151) (.c (.str [45]))⟩,
  ⟨some (145, false), .pick 153 (.t 149) (.c (.bool true)) (.t 152)⟩,
  ⟨some (145, false), .mov 154 (.t 153)⟩,
  ⟨some (154, true), .mov 155 (.t 11)⟩,
  ⟨some (154, true), .un 156 .not (.t 155)⟩,
  ⟨some (145, false), .pick 157 (.t 154) (.t 156) (.c (.bool false))⟩,
  ⟨none, .pick 158 (.t 145) (.c (.bool true)) (.t 157)⟩]
| 34 => [⟨none, .call (some 159) 33 [(.c (.int .i64 70))]⟩,
  ⟨none, .ext 160 (.t 159) 0⟩,
  ⟨none, .ext 161 (.t 159) 1⟩,
  ⟨none, .store (.t 6) (.t 160) 3⟩,
  ⟨none, .mov 7 (.t 161)⟩]
| 35 => [⟨none, .load 162 (.t 13) 3 true⟩,
  ⟨none, .store (.t 6) (.t 162) 3⟩,
  ⟨none, .mov 7 (.c (.int .i64 0))⟩]
| _ => []
def c74 : J := (.sq [2, 4, 6] (.rg R74 0) (.sq [4, 6, 8, 9] (.dr [8, 9] [] R74 1 [8, 9]) (.sq [4, 6, 8, 9, 10] (.rg R74 2) (.sq [4, 6, 8, 9, 10, 11] (.rg R74 3) (.sq [4, 6, 8, 9, 10, 11, 12] (.rg R74 4) (.sq [4, 6, 8, 9, 10, 11, 12, 13] (.rg R74 5) (.ct [4, 6, 8, 9, 10, 11, 13] (.sq [4, 6, 8, 9, 10, 11, 12, 13, 43] (.rg R74 6) (.block 0 (.ct [4, 6, 8, 9, 10, 11, 12, 13, 43, 44] (.sq [4, 6, 8, 9, 10, 11, 12, 13, 43, 44] (.rg R74 7) (.cond (.t 44) .skip (.rg R74 8))) (.cond (.t 44) (.ct [6] (.sq [6, 12, 54] (.rg R74 9) (.cond (.t 54) (.sq [6, 7] (.rg R74 10) .ret) .skip)) (.sq [6, 7] (.rg R74 11) .ret)) (.ct [4, 6, 8, 9, 10, 11, 12, 13, 59] (.sq [4, 6, 8, 9, 10, 11, 12, 13, 43, 59] (.rg R74 12) (.cond (.t 59) .skip (.sq [4, 6, 8, 9, 10, 11, 12, 13, 43, 59] (.rg R74 13) (.cond (.t 59) .skip (.sq [4, 6, 8, 9, 10, 11, 12, 13, 43, 59] (.rg R74 14) (.cond (.t 59) .skip (.rg R74 15))))))) (.cond (.t 59) (.sq [4, 6, 8, 9, 10, 11, 12, 14] (.rg R74 16) (.ct [6, 10, 11, 12, 14] (.sq [6, 8, 9, 10, 11, 12, 14, 86] (.rg R74 17) (.cond (.t 86) (.rg R74 18) .skip)) (.ct [6] (.block 1 (.sq [6, 10, 12, 14, 95] (.rg R74 19) (.cond (.t 95) (.sq [6, 7] (.rg R74 20) .ret) (.sq [6, 12, 104] (.rg R74 21) (.cond (.t 104) (.sq [6, 7] (.rg R74 22) .ret) .skip))))) (.sq [6, 7] (.rg R74 23) .ret)))) .skip)))))) (.ct [4, 6, 8, 9, 11, 13] (.sq [4, 6, 8, 9, 11, 13, 114] (.rg R74 24) (.cond (.t 114) (.sq [6, 7] (.rg R74 25) .ret) .skip)) (.sq [4, 6, 8, 9, 11, 13, 15] (.rg R74 26) (.ct [4, 6, 11, 13, 15] (.sq [4, 6, 8, 9, 11, 13, 15, 119] (.rg R74 27) (.block 2 (.sq [4, 6, 8, 9, 11, 13, 15, 119, 120] (.rg R74 28) (.cond (.t 120) (.rg R74 29) (.sq [4, 6, 8, 9, 11, 13, 15, 131] (.rg R74 30) (.cond (.t 131) (.sq [4, 6, 8, 9, 11, 13] (.rg R74 31) (.rg R74 32)) .skip)))))) (.ct [6, 13] (.sq [6, 13, 158] (.rg R74 33) (.cond (.t 158) (.sq [6, 7] (.rg R74 34) .ret) .skip)) (.sq [6, 7] (.rg R74 35) .ret))))))))))))
theorem comp74 : Tryz.f74.body.bind (comp Tryz.prog (GLm mx) 163 [13, 6, 142, 133, 130] []) = some c74.ir := by kernel_rfl
theorem rv74 : Tryz.f74.results.toList.mapM (compRV Tryz.prog) = some [.cell 6 3 true, .tmp 7] := by kernel_rfl

def R75 : Nat → List GI
| 0 => [⟨none, .box 3 (.t 0)⟩,
  ⟨none, .box 4 (.t 1)⟩,
  ⟨none, .alloc 6 [(.int .i64 0), (.sl []), (.str [])]⟩,
  ⟨none, .mov 7 (.c (.int .i64 0))⟩]
| 1 => [⟨none, .mov 8 (.t 2)⟩,
  ⟨none, .ia 9 (.t 8) (.c (.int .i64 0)) 3⟩,
  ⟨none, .fa 10 (.t 9) 0⟩,
  ⟨none, .load 11 (.t 10) 1 false⟩,
  ⟨none, .bin 12 .neq (.t 11) (.c (.int .i64 1))⟩]
| 2 => [⟨none, .call (some 13) 33 [(.c (.int .i64 5))]⟩,
  ⟨none, .ext 14 (.t 13) 0⟩,
  ⟨none, .ext 15 (.t 13) 1⟩,
  ⟨none, .store (.t 6) (.t 14) 3⟩,
  ⟨none, .mov 7 (.t 15)⟩]
| 3 => [⟨none, .mov 16 (.t 2)⟩,
  ⟨none, .ia 17 (.t 16) (.c (.int .i64 1)) 3⟩,
  ⟨none, .load 18 (.t 17) 3 true⟩,
  ⟨none, .mov 19 (.t 2)⟩,
  ⟨none, .ia 20 (.t 19) (.c (.int .i64 2)) 3⟩,
  ⟨none, .load 21 (.t 20) 3 true⟩,
  ⟨none, .call (some 22) 45 [(.t 18), (.t 21)]⟩,
  ⟨none, .ext 23 (.t 22) 0⟩,
  ⟨none, .ext 24 (.t 22) 1⟩,
  ⟨none, .store (.t 6) (.t 23) 3⟩,
  ⟨none, .mov 7 (.t 24)⟩]
| _ => []
def c75 : J := (.sq [2, 6] (.rg R75 0) (.ct [2, 6] (.sq [2, 6, 12] (.rg R75 1) (.cond (.t 12) (.sq [6, 7] (.rg R75 2) .ret) .skip)) (.sq [6, 7] (.dr [6] [] R75 3 []) .ret)))
theorem comp75 : Tryz.f75.body.bind (comp Tryz.prog (GLm mx) 25 [6] []) = some c75.ir := by kernel_rfl
theorem rv75 : Tryz.f75.results.toList.mapM (compRV Tryz.prog) = some [.cell 6 3 true, .tmp 7] := by kernel_rfl

def R76 : Nat → List GI
| 0 => [⟨none, .box 3 (.t 0)⟩,
  ⟨none, .box 4 (.t 1)⟩,
  ⟨none, .alloc 6 [(.int .i64 0), (.sl []), (.str [])]⟩,
  ⟨none, .mov 7 (.c (.int .i64 0))⟩]
| 1 => [⟨none, .mov 8 (.t 2)⟩,
  ⟨none, .ia 9 (.t 8) (.c (.int .i64 0)) 3⟩,
  ⟨none, .load 10 (.t 9) 3 true⟩,
  ⟨none, .mov 11 (.t 2)⟩,
  ⟨none, .ia 12 (.t 11) (.c (.int .i64 1)) 3⟩,
  ⟨none, .load 13 (.t 12) 3 true⟩,
  ⟨none, .call (some 14) 45 [(.t 10), (.t 13)]⟩,
  ⟨none, .ext 15 (.t 14) 0⟩,
  ⟨none, .ext 16 (.t 14) 1⟩,
  ⟨none, .store (.t 6) (.t 15) 3⟩,
  ⟨none, .mov 7 (.t 16)⟩]
| _ => []
def c76 : J := (.sq [2, 6] (.rg R76 0) (.sq [6, 7] (.dr [6] [] R76 1 []) .ret))
theorem comp76 : Tryz.f76.body.bind (comp Tryz.prog (GLm mx) 17 [6] []) = some c76.ir := by kernel_rfl
theorem rv76 : Tryz.f76.results.toList.mapM (compRV Tryz.prog) = some [.cell 6 3 true, .tmp 7] := by kernel_rfl

def R77 : Nat → List GI
| 0 => [⟨none, .mov 4 (.c (.int .i64 0))⟩]
| 1 => [⟨none, .mov 6 (.t 0)⟩,
  ⟨none, .lenl 7 (.t 6)⟩,
  ⟨none, .mov 8 (.c (.int .i64 0))⟩]
| 2 => [⟨none, .bin 9 .lss (.t 8) (.t 7)⟩]
| 3 => [⟨none, .mov 10 (.t 8)⟩,
  ⟨none, .mov 5 (.t 10)⟩]
| 4 => [⟨none, .mov 11 (.t 1)⟩,
  ⟨none, .mov 12 (.t 0)⟩,
  ⟨none, .mov 13 (.t 5)⟩,
  ⟨none, .ia 14 (.t 12) (.t 13) 1⟩,
  ⟨none, .load 15 (.t 14) 1 false⟩,
  ⟨none, .bin 16 .eql (.t 11) (.t 15)⟩]
| 5 => [⟨none, .mov 17 (.t 5)⟩,
  ⟨none, .mov 4 (.t 17)⟩]
| 6 => [⟨none, .bin 18 .add (.t 8) (.c (.int .i64 1))⟩,
  ⟨none, .mov 8 (.t 18)⟩]
| 7 => [⟨none, .mov 4 (.c (.int .i64 (-1)))⟩]
| _ => []
def L77_0 : Nat → J
| _ => (.sq [0, 1, 7, 8, 9] (.rg R77 2) (.ct [0, 1, 7, 8] (.cond (.t 9) .skip (.exit 0)) (.ct [0, 1, 7, 8] (.block 1 (.sq [0, 1, 5, 7, 8] (.rg R77 3) (.sq [0, 1, 5, 7, 8, 16] (.rg R77 4) (.cond (.t 16) (.sq [4] (.rg R77 5) .ret) .skip)))) (.rg R77 6))))
def c77 : J := (.sq [0, 1] (.rg R77 0) (.sq [] (.sq [0, 1, 7, 8] (.rg R77 1) (.block 0 (.lp L77_0 0))) (.sq [4] (.rg R77 7) .ret)))
theorem comp77 : Tryz.f77.body.bind (comp Tryz.prog (GLm mx) 19 [] []) = some c77.ir := by kernel_rfl
theorem rv77 : Tryz.f77.results.toList.mapM (compRV Tryz.prog) = some [.tmp 4] := by kernel_rfl

def R78 : Nat → List GI
| 0 => [⟨none, .box 2 (.t 0)⟩,
  ⟨none, .box 3 (.t 1)⟩,
  ⟨none, .alloc 4 [(.int .i64 0), (.int .u64 0)]⟩]
| 1 => [⟨none, .fa 10 (.t 2) 1⟩,
  ⟨none, .load 11 (.t 10) 1 false⟩,
  ⟨none, .fa 12 (.t 3) 1⟩,
  ⟨none, .load 13 (.t 12) 1 false⟩,
  ⟨none, .call (some 14) 86 [(.t 11), (.t 13), (.c (.int .u64 0))]⟩,
  ⟨none, .mov 9 (.t 14)⟩,
  ⟨none, .ext 15 (.t 9) 0⟩,
  ⟨none, .ext 16 (.t 9) 1⟩,
  ⟨none, .mov 5 (.t 15)⟩,
  ⟨none, .mov 6 (.t 16)⟩]
| 2 => [⟨none, .fa 18 (.t 2) 0⟩,
  ⟨none, .load 19 (.t 18) 1 false⟩,
  ⟨none, .conv 20 .u64 (.t 19)⟩,
  ⟨none, .fa 21 (.t 3) 0⟩,
  ⟨none, .load 22 (.t 21) 1 false⟩,
  ⟨none, .conv 23 .u64 (.t 22)⟩,
  ⟨none, .mov 24 (.t 6)⟩,
  ⟨none, .call (some 25) 86 [(.t 20), (.t 23), (.t 24)]⟩,
  ⟨none, .mov 17 (.t 25)⟩,
  ⟨none, .ext 26 (.t 17) 0⟩,
  ⟨none, .ext 27 (.t 17) 1⟩,
  ⟨none, .mov 7 (.t 26)⟩,
  ⟨none, .mov 8 (.t 27)⟩]
| 3 => [⟨none, .mov 28 (.t 7)⟩,
  ⟨none, .conv 29 .i64 (.t 28)⟩,
  ⟨none, .mov 30 (.t 5)⟩,
  ⟨none, .build 31 [(.int .i64 0), (.int .u64 0)] [(0, 1, (.t 29)), (1, 1, (.t 30))]⟩,
  ⟨none, .store (.t 4) (.t 31) 2⟩]
| _ => []
def c78 : J := (.sq [2, 3, 4] (.rg R78 0) (.sq [2, 3, 4, 5, 6] (.rg R78 1) (.sq [4, 5, 7] (.rg R78 2) (.sq [4] (.rg R78 3) .ret))))
theorem comp78 : Tryz.f78.body.bind (comp Tryz.prog (GLm mx) 32 [4] []) = some c78.ir := by kernel_rfl
theorem rv78 : Tryz.f78.results.toList.mapM (compRV Tryz.prog) = some [.cell 4 2 true] := by kernel_rfl

def R79 : Nat → List GI
| 0 => [⟨none, .alloc 2 [(.int .i64 0), (.int .u64 0)]⟩]
| 1 => [⟨none, .mov 3 (.t 0)⟩,
  ⟨none, .sh 4 .shr (.t 3) (.c (.int .u64 63))⟩,
  ⟨none, .mov 5 (.t 0)⟩,
  ⟨none, .conv 6 .u64 (.t 5)⟩,
  ⟨none, .build 7 [(.int .i64 0), (.int .u64 0)] [(0, 1, (.t 4)), (1, 1, (.t 6))]⟩,
  ⟨none, .store (.t 2) (.t 7) 2⟩]
| _ => []
def c79 : J := (.sq [0, 2] (.rg R79 0) (.sq [2] (.rg R79 1) .ret))
theorem comp79 : Tryz.f79.body.bind (comp Tryz.prog (GLm mx) 8 [2] []) = some c79.ir := by kernel_rfl
theorem rv79 : Tryz.f79.results.toList.mapM (compRV Tryz.prog) = some [.cell 2 2 true] := by kernel_rfl

def R80 : Nat → List GI
| 0 => [⟨none, .nils 2 9 1⟩]
| 1 => [⟨none, .nils 3 9 1⟩]
| 2 => [⟨none, .mov 5 (.t 0)⟩,
  ⟨none, .rng 6 (.t 5)⟩]
| 3 => [⟨none, .nxt 7 (.t 6)⟩,
  ⟨none, .ext 8 (.t 7) 0⟩]
| 4 => [⟨none, .ent 9 (.t 6)⟩,
  ⟨none, .ext 10 (.t 9) 0⟩,
  ⟨none, .mov 4 (.t 10)⟩]
| 5 => [⟨none, .mov 11 (.t 3)⟩,
  ⟨none, .mov 12 (.t 4)⟩,
  ⟨none, .bsn 13 9 1 [(.t 12)]⟩,
  ⟨none, .app 14 9 1 16 (.t 11) (.t 13)⟩,
  ⟨none, .mov 3 (.t 14)⟩]
| 6 => [⟨none, .mov 15 (.t 3)⟩,
  ⟨none, .call (some 16) 87 [(.t 15)]⟩]
| 7 => [⟨none, .mov 17 (.t 3)⟩,
  ⟨none, .mov 2 (.t 17)⟩]
| _ => []
def L80_0 : Nat → J
| _ => (.sq [3, 6, 8] (.rg R80 3) (.ct [3, 6] (.cond (.t 8) .skip (.exit 0)) (.block 1 (.sq [3, 4, 6] (.rg R80 4) (.rg R80 5)))))
def c80 : J := (.sq [0] (.rg R80 0) (.sq [0, 3] (.rg R80 1) (.sq [3] (.sq [3, 6] (.rg R80 2) (.block 0 (.lp L80_0 0))) (.sq [3] (.rg R80 6) (.sq [2] (.rg R80 7) .ret)))))
theorem comp80 : Tryz.f80.body.bind (comp Tryz.prog (GLm mx) 18 [] []) = some c80.ir := by kernel_rfl
theorem rv80 : Tryz.f80.results.toList.mapM (compRV Tryz.prog) = some [.tmp 2] := by kernel_rfl

def R81 : Nat → List GI
| 0 => [⟨none, .box 2 (.t 0)⟩,
  ⟨none, .mov 4 (.c (.int .i64 0))⟩,
  ⟨none, .mov 5 (.c (.bool false))⟩]
| 1 => [⟨none, .mov 10 (.t 1)⟩,
  ⟨none, .bin 11 .eql (.t 10) (.c (.int .i64 0))⟩]
| 2 => [⟨none, .mov 4 (.c (.int .i64 0))⟩,
  ⟨none, .mov 5 (.c (.bool false))⟩]
| 3 => [⟨none, .load 12 (.t 2) 2 true⟩,
  ⟨none, .call (some 13) 88 [(.t 12)]⟩,
  ⟨none, .mov 14 (.t 1)⟩,
  ⟨none, .call (some 15) 79 [(.t 14)]⟩,
  ⟨none, .call (some 16) 88 [(.t 15)]⟩,
  ⟨none, .aidx 17 (.t 16) (.c (.int .i64 0)) 1 2 false⟩,
  ⟨none, .alloc 6 [(.int .u64 0), (.int .u64 0)]⟩,
  ⟨none, .stfrz (.t 6) (.t 13) 2⟩,
  ⟨none, .mov 7 (.t 17)⟩]
| 4 => [⟨none, .iaa 18 (.t 6) (.c (.int .i64 1)) 1 2⟩,
  ⟨none, .load 19 (.t 18) 1 false⟩,
  ⟨none, .mov 20 (.t 7)⟩,
  ⟨none, .bin 21 .geq (.t 19) (.t 20)⟩]
| 5 => [⟨none, .mov 4 (.c (.int .i64 0))⟩,
  ⟨none, .mov 5 (.c (.bool false))⟩]
| 6 => [⟨none, .iaa 23 (.t 6) (.c (.int .i64 1)) 1 2⟩,
  ⟨none, .load 24 (.t 23) 1 false⟩,
  ⟨none, .iaa 25 (.t 6) (.c (.int .i64 0)) 1 2⟩,
  ⟨none, .load 26 (.t 25) 1 false⟩,
  ⟨none, .mov 27 (.t 7)⟩,
  ⟨none, .call (some 28) 89 [(.t 24), (.t 26), (.t 27)]⟩,
  ⟨none, .mov 22 (.t 28)⟩,
  ⟨none, .ext 29 (.t 22) 0⟩,
  ⟨none, .ext 30 (.t 22) 1⟩,
  ⟨none, .mov 8 (.t 29)⟩,
  ⟨none, .mov 9 (.t 30)⟩]
| 7 => [⟨none, .mov 31 (.t 9)⟩,
  ⟨none, .mov 32 (.t 7)⟩,
  ⟨none, .mov 33 (.t 9)⟩,
  ⟨none, .bin 34 .sub (.t 32) (.t 33)⟩,
  ⟨none, .bin 35 .gtr (.t 31) (.t 34)⟩,
  ⟨none, .mov 36 (.t 35)⟩,
  ⟨some (36, false), .mov 37 (.t 9)⟩,
  ⟨some (36, false), .mov 38 (.t 7)⟩,
  ⟨some (36, false), .mov 39 (.t 9)⟩,
  ⟨some (36, false), .bin 40 .sub (.t 38) (.t 39)⟩,
  ⟨some (36, false), .bin 41 .eql (.t 37) (.t 40)⟩,
  ⟨some (36, false), .mov 42 (.t 41)⟩,
  ⟨some (42, true), .mov 43 (.t 8)⟩,
  ⟨some (42, true), .bin 44 .rem (.t 43) (.c (.int .u64 2))⟩,
  ⟨some (42, true), .bin 45 .eql (.t 44) (.c (.int .u64 1))⟩,
  ⟨some (36, false), .pick 46 (.t 42) (.t 45) (.c (.bool false))⟩,
  ⟨none, .pick 47 (.t 36) (.c (.bool true)) (.t 46)⟩]
| 8 => [⟨none, .mov 48 (.t 8)⟩,
  ⟨none, .bin 49 .eql (.t 48) (.c (.int .u64 18446744073709551615))⟩]
| 9 => [⟨none, .mov 4 (.c (.int .i64 0))⟩,
  ⟨none, .mov 5 (.c (.bool false))⟩]
| 10 => [⟨none, .mov 50 (.t 8)⟩,
  ⟨none, .bin 51 .add (.t 50) (.c (.int .u64 1))⟩,
  ⟨none, .mov 8 (.t 51)⟩]
| 11 => [⟨none, .mov 52 (.t 8)⟩,
  ⟨none, .bin 53 .gtr (.t 52) (.c (.int .u64 1152921504606846976))⟩]
| 12 => [⟨none, .mov 4 (.c (.int .i64 0))⟩,
  ⟨none, .mov 5 (.c (.bool false))⟩]
| 13 => [⟨none, .fa 54 (.t 2) 0⟩,
  ⟨none, .load 55 (.t 54) 1 false⟩,
  ⟨none, .bin 56 .lss (.t 55) (.c (.int .i64 0))⟩,
  ⟨none, .mov 57 (.t 1)⟩,
  ⟨none, .bin 58 .lss (.t 57) (.c (.int .i64 0))⟩,
  ⟨none, .eqb 59 true (.t 56) (.t 58)⟩]
| 14 => [⟨none, .mov 60 (.t 8)⟩,
  ⟨none, .conv 61 .i64 (.t 60)⟩,
  ⟨none, .un 62 .neg (.t 61)⟩,
  ⟨none, .mov 4 (.t 62)⟩,
  ⟨none, .mov 5 (.c (.bool true))⟩]
| 15 => [⟨none, .mov 63 (.t 8)⟩,
  ⟨none, .conv 64 .i64 (.t 63)⟩,
  ⟨none, .mov 4 (.t 64)⟩,
  ⟨none, .mov 5 (.c (.bool true))⟩]
| _ => []
def c81 : J := (.sq [1, 2] (.rg R81 0) (.ct [1, 2] (.sq [1, 2, 11] (.rg R81 1) (.cond (.t 11) (.sq [4, 5] (.rg R81 2) .ret) .skip)) (.sq [1, 2, 6, 7] (.rg R81 3) (.ct [1, 2, 6, 7] (.sq [1, 2, 6, 7, 21] (.rg R81 4) (.cond (.t 21) (.sq [4, 5] (.rg R81 5) .ret) .skip)) (.sq [1, 2, 7, 8, 9] (.rg R81 6) (.ct [1, 2, 8] (.sq [1, 2, 8, 47] (.rg R81 7) (.cond (.t 47) (.ct [1, 2, 8] (.sq [1, 2, 8, 49] (.rg R81 8) (.cond (.t 49) (.sq [4, 5] (.rg R81 9) .ret) .skip)) (.rg R81 10)) .skip)) (.ct [1, 2, 8] (.sq [1, 2, 8, 53] (.rg R81 11) (.cond (.t 53) (.sq [4, 5] (.rg R81 12) .ret) .skip)) (.ct [8] (.sq [8, 59] (.rg R81 13) (.cond (.t 59) (.sq [4, 5] (.rg R81 14) .ret) .skip)) (.sq [4, 5] (.rg R81 15) .ret)))))))))
theorem comp81 : Tryz.f81.body.bind (comp Tryz.prog (GLm mx) 65 [] []) = some c81.ir := by kernel_rfl
theorem rv81 : Tryz.f81.results.toList.mapM (compRV Tryz.prog) = some [.tmp 4, .tmp 5] := by kernel_rfl

def R83 : Nat → List GI
| 0 => [⟨none, .mov 2 (.c (.bool false))⟩]
| 1 => [⟨none, .mov 3 (.t 0)⟩,
  ⟨none, .bin 4 .geq (.t 3) (.c (.int .u8 97))⟩,
  ⟨none, .mov 5 (.t 4)⟩,
  ⟨some (5, true), .mov 6 (.t 0)⟩,
  ⟨some (5, true), .bin 7 .leq (.t 6) (.c (.int .u8 122))⟩,
  ⟨none, .pick 8 (.t 5) (.t 7) (.c (.bool false))⟩,
  ⟨none, .mov 2 (.t 8)⟩]
| _ => []
def c83 : J := (.sq [0] (.rg R83 0) (.sq [2] (.rg R83 1) .ret))
theorem comp83 : Tryz.f83.body.bind (comp Tryz.prog (GLm mx) 9 [] []) = some c83.ir := by kernel_rfl
theorem rv83 : Tryz.f83.results.toList.mapM (compRV Tryz.prog) = some [.tmp 2] := by kernel_rfl

def R84 : Nat → List GI
| 0 => [⟨none, .mov 2 (.c (.bool false))⟩]
| 1 => [⟨none, .mov 3 (.t 0)⟩,
  ⟨none, .bin 4 .geq (.t 3) (.c (.int .u8 48))⟩,
  ⟨none, .mov 5 (.t 4)⟩,
  ⟨some (5, true), .mov 6 (.t 0)⟩,
  ⟨some (5, true), .bin 7 .leq (.t 6) (.c (.int .u8 57))⟩,
  ⟨none, .pick 8 (.t 5) (.t 7) (.c (.bool false))⟩,
  ⟨none, .mov 2 (.t 8)⟩]
| _ => []
def c84 : J := (.sq [0] (.rg R84 0) (.sq [2] (.rg R84 1) .ret))
theorem comp84 : Tryz.f84.body.bind (comp Tryz.prog (GLm mx) 9 [] []) = some c84.ir := by kernel_rfl
theorem rv84 : Tryz.f84.results.toList.mapM (compRV Tryz.prog) = some [.tmp 2] := by kernel_rfl

def R85 : Nat → List GI
| 0 => [⟨none, .box 3 (.t 0)⟩,
  ⟨none, .box 4 (.t 1)⟩,
  ⟨none, .alloc 6 [(.int .i64 0), (.sl []), (.str [])]⟩,
  ⟨none, .mov 7 (.c (.int .i64 0))⟩]
| 1 => [⟨none, .fa 9 (.t 3) 0⟩,
  ⟨none, .fa 10 (.t 9) 1⟩,
  ⟨none, .load 11 (.t 10) 1 false⟩,
  ⟨none, .mkfn 12 92 [] [(.t 4)]⟩,
  ⟨none, .call (some 13) 91 [(.t 11), (.t 12)]⟩,
  ⟨none, .mov 8 (.t 13)⟩]
| 2 => [⟨none, .mov 15 (.t 8)⟩,
  ⟨none, .bin 16 .lss (.t 15) (.c (.int .i64 0))⟩,
  ⟨none, .mov 14 (.t 16)⟩]
| 3 => [⟨none, .call (some 17) 33 [(.c (.int .i64 4))]⟩,
  ⟨none, .ext 18 (.t 17) 0⟩,
  ⟨none, .ext 19 (.t 17) 1⟩,
  ⟨none, .store (.t 6) (.t 18) 3⟩,
  ⟨none, .mov 7 (.t 19)⟩]
| 4 => [⟨none, .fa 21 (.t 3) 0⟩,
  ⟨none, .fa 22 (.t 21) 1⟩,
  ⟨none, .load 23 (.t 22) 1 false⟩,
  ⟨none, .mov 24 (.t 8)⟩,
  ⟨none, .ia 25 (.t 23) (.t 24) 18⟩,
  ⟨none, .fa 26 (.t 25) 1⟩,
  ⟨none, .load 27 (.t 26) 1 false⟩,
  ⟨none, .mov 28 (.t 2)⟩,
  ⟨none, .bin 29 .neq (.t 27) (.t 28)⟩,
  ⟨none, .mov 20 (.t 29)⟩]
| 5 => [⟨none, .call (some 30) 33 [(.c (.int .i64 5))]⟩,
  ⟨none, .ext 31 (.t 30) 0⟩,
  ⟨none, .ext 32 (.t 30) 1⟩,
  ⟨none, .store (.t 6) (.t 31) 3⟩,
  ⟨none, .mov 7 (.t 32)⟩]
| 6 => [⟨none, .fa 33 (.t 3) 0⟩,
  ⟨none, .fa 34 (.t 33) 1⟩,
  ⟨none, .load 35 (.t 34) 1 false⟩,
  ⟨none, .mov 36 (.t 8)⟩,
  ⟨none, .ia 37 (.t 35) (.t 36) 18⟩,
  ⟨none, .fa 38 (.t 37) 2⟩,
  ⟨none, .load 39 (.t 38) 3 true⟩,
  ⟨none, .store (.t 6) (.t 39) 3⟩,
  ⟨none, .mov 7 (.c (.int .i64 0))⟩]
| _ => []
def c85 : J := (.sq [2, 3, 4, 6] (.rg R85 0) (.sq [2, 3, 6, 8] (.rg R85 1) (.ct [3, 6, 8] (.block 0 (.sq [2, 3, 6, 8, 14] (.rg R85 2) (.cond (.t 14) (.sq [6, 7] (.rg R85 3) .ret) (.sq [3, 6, 8, 20] (.rg R85 4) (.cond (.t 20) (.sq [6, 7] (.rg R85 5) .ret) .skip))))) (.sq [6, 7] (.rg R85 6) .ret))))
theorem comp85 : Tryz.f85.body.bind (comp Tryz.prog (GLm mx) 40 [6] []) = some c85.ir := by kernel_rfl
theorem rv85 : Tryz.f85.results.toList.mapM (compRV Tryz.prog) = some [.cell 6 3 true, .tmp 7] := by kernel_rfl

def R88 : Nat → List GI
| 0 => [⟨none, .boxm 1 (.t 0)⟩,
  ⟨none, .alloc 2 [(.int .u64 0), (.int .u64 0)]⟩]
| 1 => [⟨none, .fa 3 (.t 1) 0⟩,
  ⟨none, .load 4 (.t 3) 1 false⟩,
  ⟨none, .bin 5 .lss (.t 4) (.c (.int .i64 0))⟩]
| 2 => [⟨none, .load 6 (.t 1) 2 true⟩,
  ⟨none, .call (some 7) 95 [(.t 6)]⟩,
  ⟨none, .store (.t 1) (.t 7) 2⟩]
| 3 => [⟨none, .fa 8 (.t 1) 1⟩,
  ⟨none, .load 9 (.t 8) 1 false⟩,
  ⟨none, .fa 10 (.t 1) 0⟩,
  ⟨none, .load 11 (.t 10) 1 false⟩,
  ⟨none, .conv 12 .u64 (.t 11)⟩,
  ⟨none, .build 13 [(.int .u64 0), (.int .u64 0)] [(0, 1, (.t 9)), (1, 1, (.t 12))]⟩,
  ⟨none, .store (.t 2) (.t 13) 2⟩]
| _ => []
def c88 : J := (.sq [1, 2] (.rg R88 0) (.ct [1, 2] (.sq [1, 2, 5] (.rg R88 1) (.cond (.t 5) (.rg R88 2) .skip)) (.sq [2] (.rg R88 3) .ret)))
theorem comp88 : Tryz.f88.body.bind (comp Tryz.prog (GLm mx) 14 [2, 1, 10, 8, 3] []) = some c88.ir := by kernel_rfl
theorem rv88 : Tryz.f88.results.toList.mapM (compRV Tryz.prog) = some [.cell 2 2 true] := by kernel_rfl

def R89 : Nat → List GI
| 0 => [⟨none, .mov 6 (.c (.int .u64 0))⟩,
  ⟨none, .mov 7 (.c (.int .u64 0))⟩]
| 1 => [⟨none, .mov 19 (.t 2)⟩,
  ⟨none, .bin 20 .eql (.t 19) (.c (.int .u64 0))⟩]
| 2 => [⟨none, .no (some 21)⟩,
  ⟨none, .no none⟩]
| 3 => [⟨none, .mov 22 (.t 2)⟩,
  ⟨none, .mov 23 (.t 0)⟩,
  ⟨none, .bin 24 .leq (.t 22) (.t 23)⟩]
| 4 => [⟨none, .no (some 25)⟩,
  ⟨none, .no none⟩]
| 5 => [⟨none, .mov 26 (.t 0)⟩,
  ⟨none, .bin 27 .eql (.t 26) (.c (.int .u64 0))⟩]
| 6 => [⟨none, .mov 28 (.t 1)⟩,
  ⟨none, .mov 29 (.t 2)⟩,
  ⟨none, .bin 30 .quo (.t 28) (.t 29)⟩,
  ⟨none, .mov 31 (.t 1)⟩,
  ⟨none, .mov 32 (.t 2)⟩,
  ⟨none, .bin 33 .rem (.t 31) (.t 32)⟩,
  ⟨none, .mov 6 (.t 30)⟩,
  ⟨none, .mov 7 (.t 33)⟩]
| 7 => [⟨none, .mov 34 (.t 2)⟩,
  ⟨none, .call (some 35) 96 [(.t 34)]⟩,
  ⟨none, .conv 36 .u64 (.t 35)⟩,
  ⟨none, .mov 8 (.t 36)⟩]
| 8 => [⟨none, .mov 37 (.t 2)⟩,
  ⟨none, .mov 38 (.t 8)⟩,
  ⟨none, .sh 39 .shl (.t 37) (.t 38)⟩,
  ⟨none, .mov 2 (.t 39)⟩]
| 9 => [⟨none, .mov 40 (.t 2)⟩,
  ⟨none, .sh 41 .shr (.t 40) (.c (.int .u64 32))⟩,
  ⟨none, .mov 9 (.t 41)⟩]
| 10 => [⟨none, .mov 42 (.t 2)⟩,
  ⟨none, .bin 43 .and (.t 42) (.c (.int .u64 4294967295))⟩,
  ⟨none, .mov 10 (.t 43)⟩]
| 11 => [⟨none, .mov 44 (.t 0)⟩,
  ⟨none, .mov 45 (.t 8)⟩,
  ⟨none, .sh 46 .shl (.t 44) (.t 45)⟩,
  ⟨none, .mov 47 (.t 1)⟩,
  ⟨none, .mov 48 (.t 8)⟩,
  ⟨none, .bin 49 .sub (.c (.int .u64 64)) (.t 48)⟩,
  ⟨none, .sh 50 .shr (.t 47) (.t 49)⟩,
  ⟨none, .bin 51 .or (.t 46) (.t 50)⟩,
  ⟨none, .mov 11 (.t 51)⟩]
| 12 => [⟨none, .mov 52 (.t 1)⟩,
  ⟨none, .mov 53 (.t 8)⟩,
  ⟨none, .sh 54 .shl (.t 52) (.t 53)⟩,
  ⟨none, .mov 12 (.t 54)⟩]
| 13 => [⟨none, .mov 55 (.t 12)⟩,
  ⟨none, .sh 56 .shr (.t 55) (.c (.int .u64 32))⟩,
  ⟨none, .mov 13 (.t 56)⟩]
| 14 => [⟨none, .mov 57 (.t 12)⟩,
  ⟨none, .bin 58 .and (.t 57) (.c (.int .u64 4294967295))⟩,
  ⟨none, .mov 14 (.t 58)⟩]
| 15 => [⟨none, .mov 59 (.t 11)⟩,
  ⟨none, .mov 60 (.t 9)⟩,
  ⟨none, .bin 61 .quo (.t 59) (.t 60)⟩,
  ⟨none, .mov 15 (.t 61)⟩]
| 16 => [⟨none, .mov 62 (.t 11)⟩,
  ⟨none, .mov 63 (.t 15)⟩,
  ⟨none, .mov 64 (.t 9)⟩,
  ⟨none, .bin 65 .mul (.t 63) (.t 64)⟩,
  ⟨none, .bin 66 .sub (.t 62) (.t 65)⟩,
  ⟨none, .mov 16 (.t 66)⟩]
| 17 => [⟨none, .mov 67 (.t 15)⟩,
  ⟨none, .bin 68 .geq (.t 67) (.c (.int .u64 4294967296))⟩,
  ⟨none, .mov 69 (.t 68)⟩,
  ⟨some (69, false), .mov 70 (.t 15)⟩,
  ⟨some (69, false), .mov 71 (.t 10)⟩,
  ⟨some (69, false), .bin 72 .mul (.t 70) (.t 71)⟩,
  ⟨some (69, false), .mov 73 (.t 16)⟩,
  ⟨some (69, false), .bin 74 .mul (.c (.int .u64 4294967296)) (.t 73)⟩,
  ⟨some (69, false), .mov 75 (.t 13)⟩,
  ⟨some (69, false), .bin 76 .add (.t 74) (.t 75)⟩,
  ⟨some (69, false), .bin 77 .gtr (.t 72) (.t 76)⟩,
  ⟨none, .pick 78 (.t 69) (.c (.bool true)) (.t 77)⟩]
| 18 => [⟨none, .mov 79 (.t 15)⟩,
  ⟨none, .bin 80 .sub (.t 79) (.c (.int .u64 1))⟩,
  ⟨none, .mov 15 (.t 80)⟩]
| 19 => [⟨none, .mov 81 (.t 16)⟩,
  ⟨none, .mov 82 (.t 9)⟩,
  ⟨none, .bin 83 .add (.t 81) (.t 82)⟩,
  ⟨none, .mov 16 (.t 83)⟩]
| 20 => [⟨none, .mov 84 (.t 16)⟩,
  ⟨none, .bin 85 .geq (.t 84) (.c (.int .u64 4294967296))⟩]
| 21 => [⟨none, .mov 86 (.t 11)⟩,
  ⟨none, .bin 87 .mul (.t 86) (.c (.int .u64 4294967296))⟩,
  ⟨none, .mov 88 (.t 13)⟩,
  ⟨none, .bin 89 .add (.t 87) (.t 88)⟩,
  ⟨none, .mov 90 (.t 15)⟩,
  ⟨none, .mov 91 (.t 2)⟩,
  ⟨none, .bin 92 .mul (.t 90) (.t 91)⟩,
  ⟨none, .bin 93 .sub (.t 89) (.t 92)⟩,
  ⟨none, .mov 17 (.t 93)⟩]
| 22 => [⟨none, .mov 94 (.t 17)⟩,
  ⟨none, .mov 95 (.t 9)⟩,
  ⟨none, .bin 96 .quo (.t 94) (.t 95)⟩,
  ⟨none, .mov 18 (.t 96)⟩]
| 23 => [⟨none, .mov 97 (.t 17)⟩,
  ⟨none, .mov 98 (.t 18)⟩,
  ⟨none, .mov 99 (.t 9)⟩,
  ⟨none, .bin 100 .mul (.t 98) (.t 99)⟩,
  ⟨none, .bin 101 .sub (.t 97) (.t 100)⟩,
  ⟨none, .mov 16 (.t 101)⟩]
| 24 => [⟨none, .mov 102 (.t 18)⟩,
  ⟨none, .bin 103 .geq (.t 102) (.c (.int .u64 4294967296))⟩,
  ⟨none, .mov 104 (.t 103)⟩,
  ⟨some (104, false), .mov 105 (.t 18)⟩,
  ⟨some (104, false), .mov 106 (.t 10)⟩,
  ⟨some (104, false), .bin 107 .mul (.t 105) (.t 106)⟩,
  ⟨some (104, false), .mov 108 (.t 16)⟩,
  ⟨some (104, false), .bin 109 .mul (.c (.int .u64 4294967296)) (.t 108)⟩,
  ⟨some (104, false), .mov 110 (.t 14)⟩,
  ⟨some (104, false), .bin 111 .add (.t 109) (.t 110)⟩,
  ⟨some (104, false), .bin 112 .gtr (.t 107) (.t 111)⟩,
  ⟨none, .pick 113 (.t 104) (.c (.bool true)) (.t 112)⟩]
| 25 => [⟨none, .mov 114 (.t 18)⟩,
  ⟨none, .bin 115 .sub (.t 114) (.c (.int .u64 1))⟩,
  ⟨none, .mov 18 (.t 115)⟩]
| 26 => [⟨none, .mov 116 (.t 16)⟩,
  ⟨none, .mov 117 (.t 9)⟩,
  ⟨none, .bin 118 .add (.t 116) (.t 117)⟩,
  ⟨none, .mov 16 (.t 118)⟩]
| 27 => [⟨none, .mov 119 (.t 16)⟩,
  ⟨none, .bin 120 .geq (.t 119) (.c (.int .u64 4294967296))⟩]
| 28 => [⟨none, .mov 121 (.t 15)⟩,
  ⟨none, .bin 122 .mul (.t 121) (.c (.int .u64 4294967296))⟩,
  ⟨none, .mov 123 (.t 18)⟩,
  ⟨none, .bin 124 .add (.t 122) (.t 123)⟩,
  ⟨none, .mov 125 (.t 17)⟩,
  ⟨none, .bin 126 .mul (.t 125) (.c (.int .u64 4294967296))⟩,
  ⟨none, .mov 127 (.t 14)⟩,
  ⟨none, .bin 128 .add (.t 126) (.t 127)⟩,
  ⟨none, .mov 129 (.t 18)⟩,
  ⟨none, .mov 130 (.t 2)⟩,
  ⟨none, .bin 131 .mul (.t 129) (.t 130)⟩,
  ⟨none, .bin 132 .sub (.t 128) (.t 131)⟩,
  ⟨none, .mov 133 (.t 8)⟩,
  ⟨none, .sh 134 .shr (.t 132) (.t 133)⟩,
  ⟨none, .mov 6 (.t 124)⟩,
  ⟨none, .mov 7 (.t 134)⟩]
| _ => []
def L89_0 : Nat → J
| _ => (.ct [2, 8, 9, 10, 11, 13, 14, 15, 16] (.sq [2, 8, 9, 10, 11, 13, 14, 15, 16, 78] (.rg R89 17) (.cond (.t 78) .skip (.exit 0))) (.block 1 (.sq [2, 8, 9, 10, 11, 13, 14, 15, 16] (.rg R89 18) (.sq [2, 8, 9, 10, 11, 13, 14, 15, 16] (.rg R89 19) (.sq [2, 8, 9, 10, 11, 13, 14, 15, 16, 85] (.rg R89 20) (.cond (.t 85) (.exit 0) .skip))))))
def L89_1 : Nat → J
| _ => (.ct [2, 8, 9, 10, 14, 15, 16, 17, 18] (.sq [2, 8, 9, 10, 14, 15, 16, 17, 18, 113] (.rg R89 24) (.cond (.t 113) .skip (.exit 2))) (.block 3 (.sq [2, 8, 9, 10, 14, 15, 16, 17, 18] (.rg R89 25) (.sq [2, 8, 9, 10, 14, 15, 16, 17, 18] (.rg R89 26) (.sq [2, 8, 9, 10, 14, 15, 16, 17, 18, 120] (.rg R89 27) (.cond (.t 120) (.exit 2) .skip))))))
def c89 : J := (.sq [0, 1, 2] (.rg R89 0) (.ct [0, 1, 2] (.sq [0, 1, 2, 20] (.rg R89 1) (.cond (.t 20) (.rg R89 2) .skip)) (.ct [0, 1, 2] (.sq [0, 1, 2, 24] (.rg R89 3) (.cond (.t 24) (.rg R89 4) .skip)) (.ct [0, 1, 2] (.sq [0, 1, 2, 27] (.rg R89 5) (.cond (.t 27) (.sq [6, 7] (.dr [] [] R89 6 []) .ret) .skip)) (.sq [0, 1, 2, 8] (.rg R89 7) (.sq [0, 1, 2, 8] (.rg R89 8) (.sq [0, 1, 2, 8, 9] (.rg R89 9) (.sq [0, 1, 2, 8, 9, 10] (.rg R89 10) (.sq [1, 2, 8, 9, 10, 11] (.rg R89 11) (.sq [2, 8, 9, 10, 11, 12] (.rg R89 12) (.sq [2, 8, 9, 10, 11, 12, 13] (.rg R89 13) (.sq [2, 8, 9, 10, 11, 13, 14] (.rg R89 14) (.sq [2, 8, 9, 10, 11, 13, 14, 15] (.rg R89 15) (.sq [2, 8, 9, 10, 11, 13, 14, 15, 16] (.rg R89 16) (.sq [2, 8, 9, 10, 11, 13, 14, 15] (.block 0 (.lp L89_0 0)) (.sq [2, 8, 9, 10, 14, 15, 17] (.rg R89 21) (.sq [2, 8, 9, 10, 14, 15, 17, 18] (.rg R89 22) (.sq [2, 8, 9, 10, 14, 15, 16, 17, 18] (.rg R89 23) (.sq [2, 8, 14, 15, 17, 18] (.block 2 (.lp L89_1 0)) (.sq [6, 7] (.rg R89 28) .ret))))))))))))))))))))
theorem comp89 : Tryz.f89.body.bind (comp Tryz.prog (GLm mx) 135 [] []) = some c89.ir := by kernel_rfl
theorem rv89 : Tryz.f89.results.toList.mapM (compRV Tryz.prog) = some [.tmp 6, .tmp 7] := by kernel_rfl

def R91 : Nat → List GI
| 0 => [⟨none, .mov 4 (.c (.int .i64 0))⟩]
| 1 => [⟨none, .mov 6 (.t 0)⟩,
  ⟨none, .lenl 7 (.t 6)⟩,
  ⟨none, .mov 8 (.c (.int .i64 0))⟩]
| 2 => [⟨none, .bin 9 .lss (.t 8) (.t 7)⟩]
| 3 => [⟨none, .mov 10 (.t 8)⟩,
  ⟨none, .mov 5 (.t 10)⟩]
| 4 => [⟨none, .mov 11 (.t 1)⟩,
  ⟨none, .mov 12 (.t 0)⟩,
  ⟨none, .mov 13 (.t 5)⟩,
  ⟨none, .ia 14 (.t 12) (.t 13) 18⟩,
  ⟨none, .load 15 (.t 14) 18 true⟩,
  ⟨none, .callv (some 16) (.t 11) [(.t 15)]⟩]
| 5 => [⟨none, .mov 17 (.t 5)⟩,
  ⟨none, .mov 4 (.t 17)⟩]
| 6 => [⟨none, .bin 18 .add (.t 8) (.c (.int .i64 1))⟩,
  ⟨none, .mov 8 (.t 18)⟩]
| 7 => [⟨none, .mov 4 (.c (.int .i64 (-1)))⟩]
| _ => []
def L91_0 : Nat → J
| _ => (.sq [0, 1, 7, 8, 9] (.rg R91 2) (.ct [0, 1, 7, 8] (.cond (.t 9) .skip (.exit 0)) (.ct [0, 1, 7, 8] (.block 1 (.sq [0, 1, 5, 7, 8] (.rg R91 3) (.sq [0, 1, 5, 7, 8, 16] (.rg R91 4) (.cond (.t 16) (.sq [4] (.rg R91 5) .ret) .skip)))) (.rg R91 6))))
def c91 : J := (.sq [0, 1] (.rg R91 0) (.sq [] (.sq [0, 1, 7, 8] (.rg R91 1) (.block 0 (.lp L91_0 0))) (.sq [4] (.rg R91 7) .ret)))
theorem comp91 : Tryz.f91.body.bind (comp Tryz.prog (GLm mx) 19 [] []) = some c91.ir := by kernel_rfl
theorem rv91 : Tryz.f91.results.toList.mapM (compRV Tryz.prog) = some [.tmp 4] := by kernel_rfl

def R92 : Nat → List GI
| 0 => [⟨none, .box 2 (.t 0)⟩,
  ⟨none, .mov 3 (.c (.bool false))⟩]
| 1 => [⟨none, .fa 4 (.t 2) 0⟩,
  ⟨none, .load 5 (.t 4) 1 false⟩,
  ⟨none, .load 6 (.t 1) 1 false⟩,
  ⟨none, .bin 7 .eql (.t 5) (.t 6)⟩,
  ⟨none, .mov 3 (.t 7)⟩]
| _ => []
def c92 : J := (.sq [1, 2] (.rg R92 0) (.sq [3] (.rg R92 1) .ret))
theorem comp92 : Tryz.f92.body.bind (comp Tryz.prog (GLm mx) 8 [] []) = some c92.ir := by kernel_rfl
theorem rv92 : Tryz.f92.results.toList.mapM (compRV Tryz.prog) = some [.tmp 3] := by kernel_rfl

def R95 : Nat → List GI
| 0 => [⟨none, .box 1 (.t 0)⟩,
  ⟨none, .alloc 2 [(.int .i64 0), (.int .u64 0)]⟩]
| 1 => [⟨none, .build 3 [(.int .i64 0), (.int .u64 0)] []⟩,
  ⟨none, .load 4 (.t 1) 2 true⟩,
  ⟨none, .call (some 5) 112 [(.t 3), (.t 4)]⟩,
  ⟨none, .store (.t 2) (.t 5) 2⟩]
| _ => []
def c95 : J := (.sq [1, 2] (.rg R95 0) (.sq [2] (.rg R95 1) .ret))
theorem comp95 : Tryz.f95.body.bind (comp Tryz.prog (GLm mx) 6 [2] []) = some c95.ir := by kernel_rfl
theorem rv95 : Tryz.f95.results.toList.mapM (compRV Tryz.prog) = some [.cell 2 2 true] := by kernel_rfl

def R96 : Nat → List GI
| 0 => [⟨none, .mov 2 (.c (.int .i64 0))⟩]
| 1 => [⟨none, .mov 3 (.t 0)⟩,
  ⟨none, .call (some 4) 111 [(.t 3)]⟩,
  ⟨none, .bin 5 .sub (.c (.int .i64 64)) (.t 4)⟩,
  ⟨none, .mov 2 (.t 5)⟩]
| _ => []
def c96 : J := (.sq [0] (.rg R96 0) (.sq [2] (.rg R96 1) .ret))
theorem comp96 : Tryz.f96.body.bind (comp Tryz.prog (GLm mx) 6 [] []) = some c96.ir := by kernel_rfl
theorem rv96 : Tryz.f96.results.toList.mapM (compRV Tryz.prog) = some [.tmp 2] := by kernel_rfl

def R111 : Nat → List GI
| 0 => [⟨none, .mov 2 (.c (.int .i64 0))⟩]
| 1 => [⟨none, .mov 3 (.t 0)⟩,
  ⟨none, .bin 4 .geq (.t 3) (.c (.int .u64 4294967296))⟩]
| 2 => [⟨none, .mov 5 (.t 0)⟩,
  ⟨none, .sh 6 .shr (.t 5) (.c (.int .u64 32))⟩,
  ⟨none, .mov 0 (.t 6)⟩]
| 3 => [⟨none, .mov 2 (.c (.int .i64 32))⟩]
| 4 => [⟨none, .mov 7 (.t 0)⟩,
  ⟨none, .bin 8 .geq (.t 7) (.c (.int .u64 65536))⟩]
| 5 => [⟨none, .mov 9 (.t 0)⟩,
  ⟨none, .sh 10 .shr (.t 9) (.c (.int .u64 16))⟩,
  ⟨none, .mov 0 (.t 10)⟩]
| 6 => [⟨none, .mov 11 (.t 2)⟩,
  ⟨none, .bin 12 .add (.t 11) (.c (.int .i64 16))⟩,
  ⟨none, .mov 2 (.t 12)⟩]
| 7 => [⟨none, .mov 13 (.t 0)⟩,
  ⟨none, .bin 14 .geq (.t 13) (.c (.int .u64 256))⟩]
| 8 => [⟨none, .mov 15 (.t 0)⟩,
  ⟨none, .sh 16 .shr (.t 15) (.c (.int .u64 8))⟩,
  ⟨none, .mov 0 (.t 16)⟩]
| 9 => [⟨none, .mov 17 (.t 2)⟩,
  ⟨none, .bin 18 .add (.t 17) (.c (.int .i64 8))⟩,
  ⟨none, .mov 2 (.t 18)⟩]
| 10 => [⟨none, .mov 19 (.t 2)⟩,
  ⟨none, .mov 20 (.t 0)⟩,
  ⟨none, .conv 21 .u8 (.t 20)⟩,
  ⟨none, .idx 22 (.c (.str [0, 1, 2, 2, 3, 3, 3, 3, 4, 4, 4, 4, 4, 4, 4, 4, 5, 5, 5, 5, 5, 5, 5, 5, 5, 5, 5, 5, 5, 5, 5, 5, 6, 6, 6, 6, 6, 6, 6, 6, 6, 6, 6, 6, 6, 6, 6, 6, 6, 6, 6, 6, 6, 6, 6, 6, 6, 6, 6, 6, 6, 6, 6, 6, 7, 7, 7, 7, 7, 7, 7, 7, 7, 7, 7, 7, 7, 7, 7, 7, 7, 7, 7, 7, 7, 7, 7, 7, 7, 7, 7, 7, 7, 7, 7, 7, 7, 7, 7, 7, 7, 7, 7, 7, 7, 7, 7, 7, 7, 7, 7, 7, 7, 7, 7, 7, 7, 7, 7, 7, 7, 7, 7, 7, 7, 7, 7, 7, 8, 8, 8, 8, 8, 8, 8, 8, 8, 8, 8, 8, 8, 8, 8, 8, 8, 8, 8, 8, 8, 8, 8, 8, 8, 8, 8, 8, 8, 8, 8, 8, 8, 8, 8, 8, 8, 8, 8, 8, 8, 8, 8, 8, 8, 8, 8, 8, 8, 8, 8, 8, 8, 8, 8, 8, 8, 8, 8, 8, 8, 8, 8, 8, 8, 8, 8, 8, 8, 8, 8, 8, 8, 8, 8, 8, 8, 8, 8, 8, 8, 8, 8, 8, 8, 8, 8, 8, 8, 8, 8, 8, 8, 8, 8, 8, 8, 8, 8, 8, 8, 8, 8, 8, 8, 8, 8, 8, 8, 8, 8, 8, 8, 8, 8, 8, 8, 8, 8, 8, 8, 8, 8, 8, 8, 8, 8, 8])) (.t 21)⟩,
  ⟨none, .conv 23 .i64 (.t 22)⟩,
  ⟨none, .bin 24 .add (.t 19) (.t 23)⟩,
  ⟨none, .mov 2 (.t 24)⟩]
| _ => []
def c111 : J := (.sq [0, 2] (.rg R111 0) (.ct [0, 2] (.sq [0, 2, 4] (.rg R111 1) (.cond (.t 4) (.sq [0] (.rg R111 2) (.rg R111 3)) .skip)) (.ct [0, 2] (.sq [0, 2, 8] (.rg R111 4) (.cond (.t 8) (.sq [0, 2] (.rg R111 5) (.rg R111 6)) .skip)) (.ct [0, 2] (.sq [0, 2, 14] (.rg R111 7) (.cond (.t 14) (.sq [0, 2] (.rg R111 8) (.rg R111 9)) .skip)) (.sq [2] (.rg R111 10) .ret)))))
theorem comp111 : Tryz.f111.body.bind (comp Tryz.prog (GLm mx) 25 [] []) = some c111.ir := by kernel_rfl
theorem rv111 : Tryz.f111.results.toList.mapM (compRV Tryz.prog) = some [.tmp 2] := by kernel_rfl

def R112 : Nat → List GI
| 0 => [⟨none, .box 2 (.t 0)⟩,
  ⟨none, .box 3 (.t 1)⟩,
  ⟨none, .alloc 4 [(.int .i64 0), (.int .u64 0)]⟩]
| 1 => [⟨none, .fa 10 (.t 2) 1⟩,
  ⟨none, .load 11 (.t 10) 1 false⟩,
  ⟨none, .fa 12 (.t 3) 1⟩,
  ⟨none, .load 13 (.t 12) 1 false⟩,
  ⟨none, .call (some 14) 121 [(.t 11), (.t 13), (.c (.int .u64 0))]⟩,
  ⟨none, .mov 9 (.t 14)⟩,
  ⟨none, .ext 15 (.t 9) 0⟩,
  ⟨none, .ext 16 (.t 9) 1⟩,
  ⟨none, .mov 5 (.t 15)⟩,
  ⟨none, .mov 6 (.t 16)⟩]
| 2 => [⟨none, .fa 18 (.t 2) 0⟩,
  ⟨none, .load 19 (.t 18) 1 false⟩,
  ⟨none, .conv 20 .u64 (.t 19)⟩,
  ⟨none, .fa 21 (.t 3) 0⟩,
  ⟨none, .load 22 (.t 21) 1 false⟩,
  ⟨none, .conv 23 .u64 (.t 22)⟩,
  ⟨none, .mov 24 (.t 6)⟩,
  ⟨none, .call (some 25) 121 [(.t 20), (.t 23), (.t 24)]⟩,
  ⟨none, .mov 17 (.t 25)⟩,
  ⟨none, .ext 26 (.t 17) 0⟩,
  ⟨none, .ext 27 (.t 17) 1⟩,
  ⟨none, .mov 7 (.t 26)⟩,
  ⟨none, .mov 8 (.t 27)⟩]
| 3 => [⟨none, .mov 28 (.t 7)⟩,
  ⟨none, .conv 29 .i64 (.t 28)⟩,
  ⟨none, .mov 30 (.t 5)⟩,
  ⟨none, .build 31 [(.int .i64 0), (.int .u64 0)] [(0, 1, (.t 29)), (1, 1, (.t 30))]⟩,
  ⟨none, .store (.t 4) (.t 31) 2⟩]
| _ => []
def c112 : J := (.sq [2, 3, 4] (.rg R112 0) (.sq [2, 3, 4, 5, 6] (.rg R112 1) (.sq [4, 5, 7] (.rg R112 2) (.sq [4] (.rg R112 3) .ret))))
theorem comp112 : Tryz.f112.body.bind (comp Tryz.prog (GLm mx) 32 [4] []) = some c112.ir := by kernel_rfl
theorem rv112 : Tryz.f112.results.toList.mapM (compRV Tryz.prog) = some [.cell 4 2 true] := by kernel_rfl

end Go.Proofs.YtihbaggjjglcbaaGreatDoor
end
