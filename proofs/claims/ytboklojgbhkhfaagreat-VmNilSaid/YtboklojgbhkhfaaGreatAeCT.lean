/- The table of compiled functions. Printed by a program. No condition. -/
import Derived.Test.YtboklojgbhkhfaaGreatAeC0
import Derived.Test.YtboklojgbhkhfaaGreatAeC1
import Derived.Test.YtboklojgbhkhfaaGreatAeC2
import Derived.Test.YtboklojgbhkhfaaGreatAeC3
import Derived.Test.YtboklojgbhkhfaaGreatAeC4
import Derived.Test.YtboklojgbhkhfaaGreatAeF
import Derived.Test.YtboklojgbhkhfaaGreatAeQMemo
set_option linter.unusedVariables false
namespace Go.Proofs.YtboklojgbhkhfaaGreat
open Go Go.Ae
set_option maxRecDepth 100000
noncomputable def ccTrllll : Tr CX2 := .nd (.nd (.nd (.nd (.nd (.lf) (some x255) (.lf)) (some x127) (.nd (.lf) (some x383) (.lf))) (some x63) (.nd (.nd (.lf) (some x319) (.lf)) (some x191) (.lf))) (some x31) (.nd (.nd (.lf) (some x159) (.lf)) (some x95) (.nd (.lf) (some x223) (.lf)))) (some x15) (.nd (.nd (.nd (.lf) none (.nd (.lf) (some x399) (.lf))) (some x79) (.nd (.nd (.lf) (some x335) (.lf)) none (.lf))) none (.nd (.nd (.lf) (some x175) (.lf)) (some x111) (.nd (.nd (.lf) (some x367) (.lf)) (some x239) (.lf))))
noncomputable def ccTrlllr : Tr CX2 := .nd (.nd (.nd (.nd (.nd (.lf) (some x263) (.lf)) none (.lf)) (some x71) (.nd (.nd (.lf) (some x327) (.lf)) none (.lf))) (some x39) (.nd (.nd (.lf) (some x167) (.lf)) (some x103) (.nd (.lf) (some x231) (.lf)))) none (.nd (.nd (.nd (.lf) (some x151) (.lf)) none (.lf)) (some x55) (.nd (.nd (.nd (.lf) (some x311) (.lf)) (some x183) (.lf)) (some x119) (.nd (.lf) (some x247) (.lf))))
noncomputable def ccTrllrl : Tr CX2 := .nd (.nd (.nd (.nd (.nd (.lf) (some x259) (.lf)) none (.nd (.lf) (some x387) (.lf))) (some x67) (.nd (.nd (.lf) (some x323) (.lf)) none (.lf))) (some x35) (.nd (.nd (.lf) (some x163) (.lf)) (some x99) (.nd (.lf) (some x227) (.lf)))) none (.nd (.nd (.nd (.lf) (some x147) (.lf)) none (.lf)) none (.nd (.nd (.lf) (some x179) (.lf)) (some x115) (.nd (.lf) (some x243) (.lf))))
noncomputable def ccTrllrr : Tr CX2 := .nd (.nd (.nd (.lf) (some x75) (.nd (.nd (.lf) (some x331) (.lf)) none (.lf))) (some x43) (.nd (.nd (.lf) (some x171) (.lf)) (some x107) (.nd (.nd (.lf) (some x363) (.lf)) (some x235) (.lf)))) (some x27) (.nd (.nd (.nd (.lf) (some x155) (.lf)) none (.nd (.lf) (some x219) (.lf))) (some x59) (.nd (.nd (.nd (.lf) (some x315) (.lf)) (some x187) (.lf)) (some x123) (.nd (.nd (.lf) (some x379) (.lf)) (some x251) (.lf))))
noncomputable def ccTrlrll : Tr CX2 := .nd (.nd (.nd (.nd (.nd (.lf) (some x257) (.lf)) (some x129) (.nd (.lf) (some x385) (.lf))) (some x65) (.nd (.nd (.lf) (some x321) (.lf)) (some x193) (.lf))) (some x33) (.nd (.nd (.lf) (some x161) (.lf)) (some x97) (.nd (.lf) (some x225) (.lf)))) (some x17) (.nd (.nd (.nd (.lf) none (.nd (.lf) (some x401) (.lf))) none (.nd (.nd (.lf) (some x337) (.lf)) none (.lf))) none (.nd (.nd (.lf) (some x177) (.lf)) (some x113) (.nd (.lf) (some x241) (.lf))))
noncomputable def ccTrlrlr : Tr CX2 := .nd (.nd (.nd (.lf) (some x73) (.nd (.nd (.lf) (some x329) (.lf)) none (.lf))) (some x41) (.nd (.nd (.lf) (some x169) (.lf)) (some x105) (.nd (.nd (.lf) (some x361) (.lf)) (some x233) (.lf)))) (some x25) (.nd (.nd (.nd (.lf) (some x153) (.lf)) none (.lf)) (some x57) (.nd (.nd (.nd (.lf) (some x313) (.lf)) (some x185) (.lf)) (some x121) (.nd (.lf) (some x249) (.lf))))
noncomputable def ccTrlrrl : Tr CX2 := .nd (.nd (.nd (.nd (.nd (.lf) (some x261) (.lf)) none (.lf)) (some x69) (.nd (.nd (.lf) (some x325) (.lf)) none (.lf))) (some x37) (.nd (.nd (.lf) (some x165) (.lf)) (some x101) (.nd (.lf) (some x229) (.lf)))) none (.nd (.nd (.nd (.lf) (some x149) (.nd (.lf) (some x405) (.lf))) none (.lf)) none (.nd (.nd (.nd (.lf) (some x309) (.lf)) (some x181) (.lf)) (some x117) (.nd (.lf) (some x245) (.lf))))
noncomputable def ccTrlrrr : Tr CX2 := .nd (.nd (.nd (.lf) (some x77) (.nd (.nd (.lf) (some x333) (.lf)) none (.lf))) none (.nd (.nd (.lf) (some x173) (.lf)) (some x109) (.nd (.nd (.lf) (some x365) (.lf)) (some x237) (.lf)))) (some x29) (.nd (.nd (.nd (.lf) (some x157) (.lf)) none (.nd (.lf) (some x221) (.lf))) (some x61) (.nd (.nd (.nd (.lf) (some x317) (.lf)) (some x189) (.lf)) (some x125) (.nd (.nd (.lf) (some x381) (.lf)) (some x253) (.lf))))
noncomputable def ccTrrlll : Tr CX2 := .nd (.nd (.nd (.nd (.nd (.lf) (some x256) (.lf)) (some x128) (.nd (.lf) (some x384) (.lf))) (some x64) (.nd (.nd (.lf) (some x320) (.lf)) (some x192) (.lf))) (some x32) (.nd (.nd (.lf) (some x160) (.lf)) (some x96) (.nd (.lf) (some x224) (.lf)))) (some x16) (.nd (.nd (.nd (.lf) none (.nd (.lf) (some x400) (.lf))) (some x80) (.nd (.nd (.lf) (some x336) (.lf)) none (.lf))) none (.nd (.nd (.lf) (some x176) (.lf)) (some x112) (.nd (.lf) (some x240) (.lf))))
noncomputable def ccTrrllr : Tr CX2 := .nd (.nd (.nd (.lf) (some x72) (.nd (.nd (.lf) (some x328) (.lf)) none (.lf))) (some x40) (.nd (.nd (.lf) (some x168) (.lf)) (some x104) (.nd (.lf) (some x232) (.lf)))) none (.nd (.nd (.nd (.lf) (some x152) (.nd (.lf) (some x408) (.lf))) none (.lf)) (some x56) (.nd (.nd (.nd (.lf) (some x312) (.lf)) (some x184) (.lf)) (some x120) (.nd (.lf) (some x248) (.lf))))
noncomputable def ccTrrlrl : Tr CX2 := .nd (.nd (.nd (.nd (.nd (.lf) (some x260) (.lf)) none (.nd (.lf) (some x388) (.lf))) (some x68) (.nd (.nd (.lf) (some x324) (.lf)) none (.lf))) (some x36) (.nd (.nd (.lf) (some x164) (.lf)) (some x100) (.nd (.lf) (some x228) (.lf)))) none (.nd (.nd (.nd (.lf) (some x148) (.nd (.lf) (some x404) (.lf))) none (.lf)) none (.nd (.nd (.lf) (some x180) (.lf)) (some x116) (.nd (.lf) (some x244) (.lf))))
noncomputable def ccTrrlrr : Tr CX2 := .nd (.nd (.nd (.lf) (some x76) (.nd (.nd (.lf) (some x332) (.lf)) none (.lf))) none (.nd (.nd (.lf) (some x172) (.lf)) (some x108) (.nd (.nd (.lf) (some x364) (.lf)) (some x236) (.lf)))) (some x28) (.nd (.nd (.nd (.lf) (some x156) (.nd (.lf) (some x412) (.lf))) (some x92) (.nd (.lf) (some x220) (.lf))) (some x60) (.nd (.nd (.nd (.lf) (some x316) (.lf)) (some x188) (.lf)) (some x124) (.nd (.nd (.lf) (some x380) (.lf)) (some x252) (.lf))))
noncomputable def ccTrrrll : Tr CX2 := .nd (.nd (.nd (.nd (.nd (.lf) (some x258) (.lf)) (some x130) (.nd (.lf) (some x386) (.lf))) (some x66) (.nd (.nd (.lf) (some x322) (.lf)) (some x194) (.lf))) (some x34) (.nd (.nd (.lf) (some x162) (.lf)) (some x98) (.nd (.lf) (some x226) (.lf)))) (some x18) (.nd (.nd (.lf) none (.nd (.nd (.lf) (some x338) (.lf)) none (.lf))) none (.nd (.nd (.lf) (some x178) (.lf)) (some x114) (.nd (.lf) (some x242) (.lf))))
noncomputable def ccTrrrlr : Tr CX2 := .nd (.nd (.nd (.lf) (some x74) (.nd (.nd (.lf) (some x330) (.lf)) none (.lf))) (some x42) (.nd (.nd (.lf) (some x170) (.lf)) (some x106) (.nd (.nd (.lf) (some x362) (.lf)) (some x234) (.lf)))) (some x26) (.nd (.nd (.nd (.lf) (some x154) (.lf)) none (.nd (.lf) (some x218) (.lf))) (some x58) (.nd (.nd (.nd (.lf) (some x314) (.lf)) (some x186) (.lf)) (some x122) (.nd (.lf) (some x250) (.lf))))
noncomputable def ccTrrrrl : Tr CX2 := .nd (.nd (.nd (.nd (.nd (.lf) (some x262) (.lf)) none (.lf)) (some x70) (.nd (.nd (.lf) (some x326) (.lf)) none (.lf))) (some x38) (.nd (.nd (.lf) (some x166) (.lf)) (some x102) (.nd (.lf) (some x230) (.lf)))) none (.nd (.nd (.nd (.lf) (some x150) (.lf)) none (.lf)) none (.nd (.nd (.nd (.lf) (some x310) (.lf)) (some x182) (.lf)) (some x118) (.nd (.lf) (some x246) (.lf))))
noncomputable def ccTrrrrr : Tr CX2 := .nd (.nd (.nd (.lf) (some x78) (.nd (.nd (.lf) (some x334) (.lf)) none (.lf))) none (.nd (.nd (.lf) (some x174) (.lf)) (some x110) (.nd (.nd (.lf) (some x366) (.lf)) (some x238) (.lf)))) (some x30) (.nd (.nd (.nd (.lf) (some x158) (.lf)) (some x94) (.nd (.lf) (some x222) (.lf))) (some x62) (.nd (.nd (.nd (.lf) (some x318) (.lf)) (some x190) (.lf)) (some x126) (.nd (.nd (.lf) (some x382) (.lf)) (some x254) (.lf))))
noncomputable def ccTr : Tr CX2 := .nd (.nd (.nd (.nd (ccTrllll) (some x7) (ccTrlllr)) (some x3) (.nd (ccTrllrl) (some x11) (ccTrllrr))) none (.nd (.nd (ccTrlrll) (some x9) (ccTrlrlr)) (some x5) (.nd (ccTrlrrl) (some x13) (ccTrlrrr)))) none (.nd (.nd (.nd (ccTrrlll) (some x8) (ccTrrllr)) none (.nd (ccTrrlrl) (some x12) (ccTrrlrr))) none (.nd (.nd (ccTrrrll) (some x10) (ccTrrrlr)) (some x6) (.nd (ccTrrrrl) (some x14) (ccTrrrrr))))
theorem cgood {f : Nat} {e : FE} {X : CX2} (h : ff f = some e) (y : cOk tt 1000 e X ∧ hasBody e = true) : XGood Tryz.prog f X := xgood_of_cOk mixed tt_ok ff_ok h (hasBody_ne y.2) y.1
theorem q3 : XGood Tryz.prog 3 x3 := cgood (e := e3) (by kernel_rfl) y3
theorem q5 : XGood Tryz.prog 5 x5 := cgood (e := e5) (by kernel_rfl) y5
theorem q6 : XGood Tryz.prog 6 x6 := cgood (e := e6) (by kernel_rfl) y6
theorem q7 : XGood Tryz.prog 7 x7 := cgood (e := e7) (by kernel_rfl) y7
theorem q8 : XGood Tryz.prog 8 x8 := cgood (e := e8) (by kernel_rfl) y8
theorem q9 : XGood Tryz.prog 9 x9 := cgood (e := e9) (by kernel_rfl) y9
theorem q10 : XGood Tryz.prog 10 x10 := cgood (e := e10) (by kernel_rfl) y10
theorem q11 : XGood Tryz.prog 11 x11 := cgood (e := e11) (by kernel_rfl) y11
theorem q12 : XGood Tryz.prog 12 x12 := cgood (e := e12) (by kernel_rfl) y12
theorem q13 : XGood Tryz.prog 13 x13 := cgood (e := e13) (by kernel_rfl) y13
theorem q14 : XGood Tryz.prog 14 x14 := cgood (e := e14) (by kernel_rfl) y14
theorem q15 : XGood Tryz.prog 15 x15 := cgood (e := e15) (by kernel_rfl) y15
theorem q16 : XGood Tryz.prog 16 x16 := cgood (e := e16) (by kernel_rfl) y16
theorem q17 : XGood Tryz.prog 17 x17 := cgood (e := e17) (by kernel_rfl) y17
theorem q18 : XGood Tryz.prog 18 x18 := cgood (e := e18) (by kernel_rfl) y18
theorem q25 : XGood Tryz.prog 25 x25 := cgood (e := e25) (by kernel_rfl) y25
theorem q26 : XGood Tryz.prog 26 x26 := cgood (e := e26) (by kernel_rfl) y26
theorem q27 : XGood Tryz.prog 27 x27 := cgood (e := e27) (by kernel_rfl) y27
theorem q28 : XGood Tryz.prog 28 x28 := cgood (e := e28) (by kernel_rfl) y28
theorem q29 : XGood Tryz.prog 29 x29 := cgood (e := e29) (by kernel_rfl) y29
theorem q30 : XGood Tryz.prog 30 x30 := cgood (e := e30) (by kernel_rfl) y30
theorem q31 : XGood Tryz.prog 31 x31 := cgood (e := e31) (by kernel_rfl) y31
theorem q32 : XGood Tryz.prog 32 x32 := cgood (e := e32) (by kernel_rfl) y32
theorem q33 : XGood Tryz.prog 33 x33 := cgood (e := e33) (by kernel_rfl) y33
theorem q34 : XGood Tryz.prog 34 x34 := cgood (e := e34) (by kernel_rfl) y34
theorem q35 : XGood Tryz.prog 35 x35 := cgood (e := e35) (by kernel_rfl) y35
theorem q36 : XGood Tryz.prog 36 x36 := cgood (e := e36) (by kernel_rfl) y36
theorem q37 : XGood Tryz.prog 37 x37 := cgood (e := e37) (by kernel_rfl) y37
theorem q38 : XGood Tryz.prog 38 x38 := cgood (e := e38) (by kernel_rfl) y38
theorem q39 : XGood Tryz.prog 39 x39 := cgood (e := e39) (by kernel_rfl) y39
theorem q40 : XGood Tryz.prog 40 x40 := cgood (e := e40) (by kernel_rfl) y40
theorem q41 : XGood Tryz.prog 41 x41 := cgood (e := e41) (by kernel_rfl) y41
theorem q42 : XGood Tryz.prog 42 x42 := cgood (e := e42) (by kernel_rfl) y42
theorem q43 : XGood Tryz.prog 43 x43 := cgood (e := e43) (by kernel_rfl) y43
theorem q55 : XGood Tryz.prog 55 x55 := cgood (e := e55) (by kernel_rfl) y55
theorem q56 : XGood Tryz.prog 56 x56 := cgood (e := e56) (by kernel_rfl) y56
theorem q57 : XGood Tryz.prog 57 x57 := cgood (e := e57) (by kernel_rfl) y57
theorem q58 : XGood Tryz.prog 58 x58 := cgood (e := e58) (by kernel_rfl) y58
theorem q59 : XGood Tryz.prog 59 x59 := cgood (e := e59) (by kernel_rfl) y59
theorem q60 : XGood Tryz.prog 60 x60 := cgood (e := e60) (by kernel_rfl) y60
theorem q61 : XGood Tryz.prog 61 x61 := cgood (e := e61) (by kernel_rfl) y61
theorem q62 : XGood Tryz.prog 62 x62 := cgood (e := e62) (by kernel_rfl) y62
theorem q63 : XGood Tryz.prog 63 x63 := cgood (e := e63) (by kernel_rfl) y63
theorem q64 : XGood Tryz.prog 64 x64 := cgood (e := e64) (by kernel_rfl) y64
theorem q65 : XGood Tryz.prog 65 x65 := cgood (e := e65) (by kernel_rfl) y65
theorem q66 : XGood Tryz.prog 66 x66 := cgood (e := e66) (by kernel_rfl) y66
theorem q67 : XGood Tryz.prog 67 x67 := cgood (e := e67) (by kernel_rfl) y67
theorem q68 : XGood Tryz.prog 68 x68 := cgood (e := e68) (by kernel_rfl) y68
theorem q69 : XGood Tryz.prog 69 x69 := cgood (e := e69) (by kernel_rfl) y69
theorem q70 : XGood Tryz.prog 70 x70 := cgood (e := e70) (by kernel_rfl) y70
theorem q71 : XGood Tryz.prog 71 x71 := cgood (e := e71) (by kernel_rfl) y71
theorem q72 : XGood Tryz.prog 72 x72 := cgood (e := e72) (by kernel_rfl) y72
theorem q73 : XGood Tryz.prog 73 x73 := cgood (e := e73) (by kernel_rfl) y73
theorem q74 : XGood Tryz.prog 74 x74 := cgood (e := e74) (by kernel_rfl) y74
theorem q75 : XGood Tryz.prog 75 x75 := cgood (e := e75) (by kernel_rfl) y75
theorem q76 : XGood Tryz.prog 76 x76 := cgood (e := e76) (by kernel_rfl) y76
theorem q77 : XGood Tryz.prog 77 x77 := cgood (e := e77) (by kernel_rfl) y77
theorem q78 : XGood Tryz.prog 78 x78 := cgood (e := e78) (by kernel_rfl) y78
theorem q79 : XGood Tryz.prog 79 x79 := cgood (e := e79) (by kernel_rfl) y79
theorem q80 : XGood Tryz.prog 80 x80 := cgood (e := e80) (by kernel_rfl) y80
theorem q92 : XGood Tryz.prog 92 x92 := cgood (e := e92) (by kernel_rfl) y92
theorem q94 : XGood Tryz.prog 94 x94 := cgood (e := e94) (by kernel_rfl) y94
theorem q95 : XGood Tryz.prog 95 x95 := cgood (e := e95) (by kernel_rfl) y95
theorem q96 : XGood Tryz.prog 96 x96 := cgood (e := e96) (by kernel_rfl) y96
theorem q97 : XGood Tryz.prog 97 x97 := cgood (e := e97) (by kernel_rfl) y97
theorem q98 : XGood Tryz.prog 98 x98 := cgood (e := e98) (by kernel_rfl) y98
theorem q99 : XGood Tryz.prog 99 x99 := cgood (e := e99) (by kernel_rfl) y99
theorem q100 : XGood Tryz.prog 100 x100 := cgood (e := e100) (by kernel_rfl) y100
theorem q101 : XGood Tryz.prog 101 x101 := cgood (e := e101) (by kernel_rfl) y101
theorem q102 : XGood Tryz.prog 102 x102 := cgood (e := e102) (by kernel_rfl) y102
theorem q103 : XGood Tryz.prog 103 x103 := cgood (e := e103) (by kernel_rfl) y103
theorem q104 : XGood Tryz.prog 104 x104 := cgood (e := e104) (by kernel_rfl) y104
theorem q105 : XGood Tryz.prog 105 x105 := cgood (e := e105) (by kernel_rfl) y105
theorem q106 : XGood Tryz.prog 106 x106 := cgood (e := e106) (by kernel_rfl) y106
theorem q107 : XGood Tryz.prog 107 x107 := cgood (e := e107) (by kernel_rfl) y107
theorem q108 : XGood Tryz.prog 108 x108 := cgood (e := e108) (by kernel_rfl) y108
theorem q109 : XGood Tryz.prog 109 x109 := cgood (e := e109) (by kernel_rfl) y109
theorem q110 : XGood Tryz.prog 110 x110 := cgood (e := e110) (by kernel_rfl) y110
theorem q111 : XGood Tryz.prog 111 x111 := cgood (e := e111) (by kernel_rfl) y111
theorem q112 : XGood Tryz.prog 112 x112 := cgood (e := e112) (by kernel_rfl) y112
theorem q113 : XGood Tryz.prog 113 x113 := cgood (e := e113) (by kernel_rfl) y113
theorem q114 : XGood Tryz.prog 114 x114 := cgood (e := e114) (by kernel_rfl) y114
theorem q115 : XGood Tryz.prog 115 x115 := cgood (e := e115) (by kernel_rfl) y115
theorem q116 : XGood Tryz.prog 116 x116 := cgood (e := e116) (by kernel_rfl) y116
theorem q117 : XGood Tryz.prog 117 x117 := cgood (e := e117) (by kernel_rfl) y117
theorem q118 : XGood Tryz.prog 118 x118 := cgood (e := e118) (by kernel_rfl) y118
theorem q119 : XGood Tryz.prog 119 x119 := cgood (e := e119) (by kernel_rfl) y119
theorem q120 : XGood Tryz.prog 120 x120 := cgood (e := e120) (by kernel_rfl) y120
theorem q121 : XGood Tryz.prog 121 x121 := cgood (e := e121) (by kernel_rfl) y121
theorem q122 : XGood Tryz.prog 122 x122 := cgood (e := e122) (by kernel_rfl) y122
theorem q123 : XGood Tryz.prog 123 x123 := cgood (e := e123) (by kernel_rfl) y123
theorem q124 : XGood Tryz.prog 124 x124 := cgood (e := e124) (by kernel_rfl) y124
theorem q125 : XGood Tryz.prog 125 x125 := cgood (e := e125) (by kernel_rfl) y125
theorem q126 : XGood Tryz.prog 126 x126 := cgood (e := e126) (by kernel_rfl) y126
theorem q127 : XGood Tryz.prog 127 x127 := cgood (e := e127) (by kernel_rfl) y127
theorem q128 : XGood Tryz.prog 128 x128 := cgood (e := e128) (by kernel_rfl) y128
theorem q129 : XGood Tryz.prog 129 x129 := cgood (e := e129) (by kernel_rfl) y129
theorem q130 : XGood Tryz.prog 130 x130 := cgood (e := e130) (by kernel_rfl) y130
theorem q147 : XGood Tryz.prog 147 x147 := cgood (e := e147) (by kernel_rfl) y147
theorem q148 : XGood Tryz.prog 148 x148 := cgood (e := e148) (by kernel_rfl) y148
theorem q149 : XGood Tryz.prog 149 x149 := cgood (e := e149) (by kernel_rfl) y149
theorem q150 : XGood Tryz.prog 150 x150 := cgood (e := e150) (by kernel_rfl) y150
theorem q151 : XGood Tryz.prog 151 x151 := cgood (e := e151) (by kernel_rfl) y151
theorem q152 : XGood Tryz.prog 152 x152 := cgood (e := e152) (by kernel_rfl) y152
theorem q153 : XGood Tryz.prog 153 x153 := cgood (e := e153) (by kernel_rfl) y153
theorem q154 : XGood Tryz.prog 154 x154 := cgood (e := e154) (by kernel_rfl) y154
theorem q155 : XGood Tryz.prog 155 x155 := cgood (e := e155) (by kernel_rfl) y155
theorem q156 : XGood Tryz.prog 156 x156 := cgood (e := e156) (by kernel_rfl) y156
theorem q157 : XGood Tryz.prog 157 x157 := cgood (e := e157) (by kernel_rfl) y157
theorem q158 : XGood Tryz.prog 158 x158 := cgood (e := e158) (by kernel_rfl) y158
theorem q159 : XGood Tryz.prog 159 x159 := cgood (e := e159) (by kernel_rfl) y159
theorem q160 : XGood Tryz.prog 160 x160 := cgood (e := e160) (by kernel_rfl) y160
theorem q161 : XGood Tryz.prog 161 x161 := cgood (e := e161) (by kernel_rfl) y161
theorem q162 : XGood Tryz.prog 162 x162 := cgood (e := e162) (by kernel_rfl) y162
theorem q163 : XGood Tryz.prog 163 x163 := cgood (e := e163) (by kernel_rfl) y163
theorem q164 : XGood Tryz.prog 164 x164 := cgood (e := e164) (by kernel_rfl) y164
theorem q165 : XGood Tryz.prog 165 x165 := cgood (e := e165) (by kernel_rfl) y165
theorem q166 : XGood Tryz.prog 166 x166 := cgood (e := e166) (by kernel_rfl) y166
theorem q167 : XGood Tryz.prog 167 x167 := cgood (e := e167) (by kernel_rfl) y167
theorem q168 : XGood Tryz.prog 168 x168 := cgood (e := e168) (by kernel_rfl) y168
theorem q169 : XGood Tryz.prog 169 x169 := cgood (e := e169) (by kernel_rfl) y169
theorem q170 : XGood Tryz.prog 170 x170 := cgood (e := e170) (by kernel_rfl) y170
theorem q171 : XGood Tryz.prog 171 x171 := cgood (e := e171) (by kernel_rfl) y171
theorem q172 : XGood Tryz.prog 172 x172 := cgood (e := e172) (by kernel_rfl) y172
theorem q173 : XGood Tryz.prog 173 x173 := cgood (e := e173) (by kernel_rfl) y173
theorem q174 : XGood Tryz.prog 174 x174 := cgood (e := e174) (by kernel_rfl) y174
theorem q175 : XGood Tryz.prog 175 x175 := cgood (e := e175) (by kernel_rfl) y175
theorem q176 : XGood Tryz.prog 176 x176 := cgood (e := e176) (by kernel_rfl) y176
theorem q177 : XGood Tryz.prog 177 x177 := cgood (e := e177) (by kernel_rfl) y177
theorem q178 : XGood Tryz.prog 178 x178 := cgood (e := e178) (by kernel_rfl) y178
theorem q179 : XGood Tryz.prog 179 x179 := cgood (e := e179) (by kernel_rfl) y179
theorem q180 : XGood Tryz.prog 180 x180 := cgood (e := e180) (by kernel_rfl) y180
theorem q181 : XGood Tryz.prog 181 x181 := cgood (e := e181) (by kernel_rfl) y181
theorem q182 : XGood Tryz.prog 182 x182 := cgood (e := e182) (by kernel_rfl) y182
theorem q183 : XGood Tryz.prog 183 x183 := cgood (e := e183) (by kernel_rfl) y183
theorem q184 : XGood Tryz.prog 184 x184 := cgood (e := e184) (by kernel_rfl) y184
theorem q185 : XGood Tryz.prog 185 x185 := cgood (e := e185) (by kernel_rfl) y185
theorem q186 : XGood Tryz.prog 186 x186 := cgood (e := e186) (by kernel_rfl) y186
theorem q187 : XGood Tryz.prog 187 x187 := cgood (e := e187) (by kernel_rfl) y187
theorem q188 : XGood Tryz.prog 188 x188 := cgood (e := e188) (by kernel_rfl) y188
theorem q189 : XGood Tryz.prog 189 x189 := cgood (e := e189) (by kernel_rfl) y189
theorem q190 : XGood Tryz.prog 190 x190 := cgood (e := e190) (by kernel_rfl) y190
theorem q191 : XGood Tryz.prog 191 x191 := cgood (e := e191) (by kernel_rfl) y191
theorem q192 : XGood Tryz.prog 192 x192 := cgood (e := e192) (by kernel_rfl) y192
theorem q193 : XGood Tryz.prog 193 x193 := cgood (e := e193) (by kernel_rfl) y193
theorem q194 : XGood Tryz.prog 194 x194 := cgood (e := e194) (by kernel_rfl) y194
theorem q218 : XGood Tryz.prog 218 x218 := cgood (e := e218) (by kernel_rfl) y218
theorem q219 : XGood Tryz.prog 219 x219 := cgood (e := e219) (by kernel_rfl) y219
theorem q220 : XGood Tryz.prog 220 x220 := cgood (e := e220) (by kernel_rfl) y220
theorem q221 : XGood Tryz.prog 221 x221 := cgood (e := e221) (by kernel_rfl) y221
theorem q222 : XGood Tryz.prog 222 x222 := cgood (e := e222) (by kernel_rfl) y222
theorem q223 : XGood Tryz.prog 223 x223 := cgood (e := e223) (by kernel_rfl) y223
theorem q224 : XGood Tryz.prog 224 x224 := cgood (e := e224) (by kernel_rfl) y224
theorem q225 : XGood Tryz.prog 225 x225 := cgood (e := e225) (by kernel_rfl) y225
theorem q226 : XGood Tryz.prog 226 x226 := cgood (e := e226) (by kernel_rfl) y226
theorem q227 : XGood Tryz.prog 227 x227 := cgood (e := e227) (by kernel_rfl) y227
theorem q228 : XGood Tryz.prog 228 x228 := cgood (e := e228) (by kernel_rfl) y228
theorem q229 : XGood Tryz.prog 229 x229 := cgood (e := e229) (by kernel_rfl) y229
theorem q230 : XGood Tryz.prog 230 x230 := cgood (e := e230) (by kernel_rfl) y230
theorem q231 : XGood Tryz.prog 231 x231 := cgood (e := e231) (by kernel_rfl) y231
theorem q232 : XGood Tryz.prog 232 x232 := cgood (e := e232) (by kernel_rfl) y232
theorem q233 : XGood Tryz.prog 233 x233 := cgood (e := e233) (by kernel_rfl) y233
theorem q234 : XGood Tryz.prog 234 x234 := cgood (e := e234) (by kernel_rfl) y234
theorem q235 : XGood Tryz.prog 235 x235 := cgood (e := e235) (by kernel_rfl) y235
theorem q236 : XGood Tryz.prog 236 x236 := cgood (e := e236) (by kernel_rfl) y236
theorem q237 : XGood Tryz.prog 237 x237 := cgood (e := e237) (by kernel_rfl) y237
theorem q238 : XGood Tryz.prog 238 x238 := cgood (e := e238) (by kernel_rfl) y238
theorem q239 : XGood Tryz.prog 239 x239 := cgood (e := e239) (by kernel_rfl) y239
theorem q240 : XGood Tryz.prog 240 x240 := cgood (e := e240) (by kernel_rfl) y240
theorem q241 : XGood Tryz.prog 241 x241 := cgood (e := e241) (by kernel_rfl) y241
theorem q242 : XGood Tryz.prog 242 x242 := cgood (e := e242) (by kernel_rfl) y242
theorem q243 : XGood Tryz.prog 243 x243 := cgood (e := e243) (by kernel_rfl) y243
theorem q244 : XGood Tryz.prog 244 x244 := cgood (e := e244) (by kernel_rfl) y244
theorem q245 : XGood Tryz.prog 245 x245 := cgood (e := e245) (by kernel_rfl) y245
theorem q246 : XGood Tryz.prog 246 x246 := cgood (e := e246) (by kernel_rfl) y246
theorem q247 : XGood Tryz.prog 247 x247 := cgood (e := e247) (by kernel_rfl) y247
theorem q248 : XGood Tryz.prog 248 x248 := cgood (e := e248) (by kernel_rfl) y248
theorem q249 : XGood Tryz.prog 249 x249 := cgood (e := e249) (by kernel_rfl) y249
theorem q250 : XGood Tryz.prog 250 x250 := cgood (e := e250) (by kernel_rfl) y250
theorem q251 : XGood Tryz.prog 251 x251 := cgood (e := e251) (by kernel_rfl) y251
theorem q252 : XGood Tryz.prog 252 x252 := cgood (e := e252) (by kernel_rfl) y252
theorem q253 : XGood Tryz.prog 253 x253 := cgood (e := e253) (by kernel_rfl) y253
theorem q254 : XGood Tryz.prog 254 x254 := cgood (e := e254) (by kernel_rfl) y254
theorem q255 : XGood Tryz.prog 255 x255 := cgood (e := e255) (by kernel_rfl) y255
theorem q256 : XGood Tryz.prog 256 x256 := cgood (e := e256) (by kernel_rfl) y256
theorem q257 : XGood Tryz.prog 257 x257 := cgood (e := e257) (by kernel_rfl) y257
theorem q258 : XGood Tryz.prog 258 x258 := cgood (e := e258) (by kernel_rfl) y258
theorem q259 : XGood Tryz.prog 259 x259 := cgood (e := e259) (by kernel_rfl) y259
theorem q260 : XGood Tryz.prog 260 x260 := cgood (e := e260) (by kernel_rfl) y260
theorem q261 : XGood Tryz.prog 261 x261 := cgood (e := e261) (by kernel_rfl) y261
theorem q262 : XGood Tryz.prog 262 x262 := cgood (e := e262) (by kernel_rfl) y262
theorem q263 : XGood Tryz.prog 263 x263 := cgood (e := e263) (by kernel_rfl) y263
theorem q309 : XGood Tryz.prog 309 x309 := cgood (e := e309) (by kernel_rfl) y309
theorem q310 : XGood Tryz.prog 310 x310 := cgood (e := e310) (by kernel_rfl) y310
theorem q311 : XGood Tryz.prog 311 x311 := cgood (e := e311) (by kernel_rfl) y311
theorem q312 : XGood Tryz.prog 312 x312 := cgood (e := e312) (by kernel_rfl) y312
theorem q313 : XGood Tryz.prog 313 x313 := cgood (e := e313) (by kernel_rfl) y313
theorem q314 : XGood Tryz.prog 314 x314 := cgood (e := e314) (by kernel_rfl) y314
theorem q315 : XGood Tryz.prog 315 x315 := cgood (e := e315) (by kernel_rfl) y315
theorem q316 : XGood Tryz.prog 316 x316 := cgood (e := e316) (by kernel_rfl) y316
theorem q317 : XGood Tryz.prog 317 x317 := cgood (e := e317) (by kernel_rfl) y317
theorem q318 : XGood Tryz.prog 318 x318 := cgood (e := e318) (by kernel_rfl) y318
theorem q319 : XGood Tryz.prog 319 x319 := cgood (e := e319) (by kernel_rfl) y319
theorem q320 : XGood Tryz.prog 320 x320 := cgood (e := e320) (by kernel_rfl) y320
theorem q321 : XGood Tryz.prog 321 x321 := cgood (e := e321) (by kernel_rfl) y321
theorem q322 : XGood Tryz.prog 322 x322 := cgood (e := e322) (by kernel_rfl) y322
theorem q323 : XGood Tryz.prog 323 x323 := cgood (e := e323) (by kernel_rfl) y323
theorem q324 : XGood Tryz.prog 324 x324 := cgood (e := e324) (by kernel_rfl) y324
theorem q325 : XGood Tryz.prog 325 x325 := cgood (e := e325) (by kernel_rfl) y325
theorem q326 : XGood Tryz.prog 326 x326 := cgood (e := e326) (by kernel_rfl) y326
theorem q327 : XGood Tryz.prog 327 x327 := cgood (e := e327) (by kernel_rfl) y327
theorem q328 : XGood Tryz.prog 328 x328 := cgood (e := e328) (by kernel_rfl) y328
theorem q329 : XGood Tryz.prog 329 x329 := cgood (e := e329) (by kernel_rfl) y329
theorem q330 : XGood Tryz.prog 330 x330 := cgood (e := e330) (by kernel_rfl) y330
theorem q331 : XGood Tryz.prog 331 x331 := cgood (e := e331) (by kernel_rfl) y331
theorem q332 : XGood Tryz.prog 332 x332 := cgood (e := e332) (by kernel_rfl) y332
theorem q333 : XGood Tryz.prog 333 x333 := cgood (e := e333) (by kernel_rfl) y333
theorem q334 : XGood Tryz.prog 334 x334 := cgood (e := e334) (by kernel_rfl) y334
theorem q335 : XGood Tryz.prog 335 x335 := cgood (e := e335) (by kernel_rfl) y335
theorem q336 : XGood Tryz.prog 336 x336 := cgood (e := e336) (by kernel_rfl) y336
theorem q337 : XGood Tryz.prog 337 x337 := cgood (e := e337) (by kernel_rfl) y337
theorem q338 : XGood Tryz.prog 338 x338 := cgood (e := e338) (by kernel_rfl) y338
theorem q361 : XGood Tryz.prog 361 x361 := cgood (e := e361) (by kernel_rfl) y361
theorem q362 : XGood Tryz.prog 362 x362 := cgood (e := e362) (by kernel_rfl) y362
theorem q363 : XGood Tryz.prog 363 x363 := cgood (e := e363) (by kernel_rfl) y363
theorem q364 : XGood Tryz.prog 364 x364 := cgood (e := e364) (by kernel_rfl) y364
theorem q365 : XGood Tryz.prog 365 x365 := cgood (e := e365) (by kernel_rfl) y365
theorem q366 : XGood Tryz.prog 366 x366 := cgood (e := e366) (by kernel_rfl) y366
theorem q367 : XGood Tryz.prog 367 x367 := cgood (e := e367) (by kernel_rfl) y367
theorem q379 : XGood Tryz.prog 379 x379 := cgood (e := e379) (by kernel_rfl) y379
theorem q380 : XGood Tryz.prog 380 x380 := cgood (e := e380) (by kernel_rfl) y380
theorem q381 : XGood Tryz.prog 381 x381 := cgood (e := e381) (by kernel_rfl) y381
theorem q382 : XGood Tryz.prog 382 x382 := cgood (e := e382) (by kernel_rfl) y382
theorem q383 : XGood Tryz.prog 383 x383 := cgood (e := e383) (by kernel_rfl) y383
theorem q384 : XGood Tryz.prog 384 x384 := cgood (e := e384) (by kernel_rfl) y384
theorem q385 : XGood Tryz.prog 385 x385 := cgood (e := e385) (by kernel_rfl) y385
theorem q386 : XGood Tryz.prog 386 x386 := cgood (e := e386) (by kernel_rfl) y386
theorem q387 : XGood Tryz.prog 387 x387 := cgood (e := e387) (by kernel_rfl) y387
theorem q388 : XGood Tryz.prog 388 x388 := cgood (e := e388) (by kernel_rfl) y388
theorem q399 : XGood Tryz.prog 399 x399 := cgood (e := e399) (by kernel_rfl) y399
theorem q400 : XGood Tryz.prog 400 x400 := cgood (e := e400) (by kernel_rfl) y400
theorem q401 : XGood Tryz.prog 401 x401 := cgood (e := e401) (by kernel_rfl) y401
theorem q404 : XGood Tryz.prog 404 x404 := cgood (e := e404) (by kernel_rfl) y404
theorem q405 : XGood Tryz.prog 405 x405 := cgood (e := e405) (by kernel_rfl) y405
theorem q408 : XGood Tryz.prog 408 x408 := cgood (e := e408) (by kernel_rfl) y408
theorem q412 : XGood Tryz.prog 412 x412 := cgood (e := e412) (by kernel_rfl) y412
theorem cc_all : Tr.All (XGood Tryz.prog) ccTr := ⟨trivial, ⟨trivial, ⟨q3, ⟨q7, ⟨q15, ⟨q31, ⟨q63, ⟨q127, ⟨q255, trivial, trivial⟩, ⟨q383, trivial, trivial⟩⟩, ⟨q191, ⟨q319, trivial, trivial⟩, trivial⟩⟩, ⟨q95, ⟨q159, trivial, trivial⟩, ⟨q223, trivial, trivial⟩⟩⟩, ⟨trivial, ⟨q79, ⟨trivial, trivial, ⟨q399, trivial, trivial⟩⟩, ⟨trivial, ⟨q335, trivial, trivial⟩, trivial⟩⟩, ⟨q111, ⟨q175, trivial, trivial⟩, ⟨q239, ⟨q367, trivial, trivial⟩, trivial⟩⟩⟩⟩, ⟨trivial, ⟨q39, ⟨q71, ⟨trivial, ⟨q263, trivial, trivial⟩, trivial⟩, ⟨trivial, ⟨q327, trivial, trivial⟩, trivial⟩⟩, ⟨q103, ⟨q167, trivial, trivial⟩, ⟨q231, trivial, trivial⟩⟩⟩, ⟨q55, ⟨trivial, ⟨q151, trivial, trivial⟩, trivial⟩, ⟨q119, ⟨q183, ⟨q311, trivial, trivial⟩, trivial⟩, ⟨q247, trivial, trivial⟩⟩⟩⟩⟩, ⟨q11, ⟨trivial, ⟨q35, ⟨q67, ⟨trivial, ⟨q259, trivial, trivial⟩, ⟨q387, trivial, trivial⟩⟩, ⟨trivial, ⟨q323, trivial, trivial⟩, trivial⟩⟩, ⟨q99, ⟨q163, trivial, trivial⟩, ⟨q227, trivial, trivial⟩⟩⟩, ⟨trivial, ⟨trivial, ⟨q147, trivial, trivial⟩, trivial⟩, ⟨q115, ⟨q179, trivial, trivial⟩, ⟨q243, trivial, trivial⟩⟩⟩⟩, ⟨q27, ⟨q43, ⟨q75, trivial, ⟨trivial, ⟨q331, trivial, trivial⟩, trivial⟩⟩, ⟨q107, ⟨q171, trivial, trivial⟩, ⟨q235, ⟨q363, trivial, trivial⟩, trivial⟩⟩⟩, ⟨q59, ⟨trivial, ⟨q155, trivial, trivial⟩, ⟨q219, trivial, trivial⟩⟩, ⟨q123, ⟨q187, ⟨q315, trivial, trivial⟩, trivial⟩, ⟨q251, ⟨q379, trivial, trivial⟩, trivial⟩⟩⟩⟩⟩⟩, ⟨q5, ⟨q9, ⟨q17, ⟨q33, ⟨q65, ⟨q129, ⟨q257, trivial, trivial⟩, ⟨q385, trivial, trivial⟩⟩, ⟨q193, ⟨q321, trivial, trivial⟩, trivial⟩⟩, ⟨q97, ⟨q161, trivial, trivial⟩, ⟨q225, trivial, trivial⟩⟩⟩, ⟨trivial, ⟨trivial, ⟨trivial, trivial, ⟨q401, trivial, trivial⟩⟩, ⟨trivial, ⟨q337, trivial, trivial⟩, trivial⟩⟩, ⟨q113, ⟨q177, trivial, trivial⟩, ⟨q241, trivial, trivial⟩⟩⟩⟩, ⟨q25, ⟨q41, ⟨q73, trivial, ⟨trivial, ⟨q329, trivial, trivial⟩, trivial⟩⟩, ⟨q105, ⟨q169, trivial, trivial⟩, ⟨q233, ⟨q361, trivial, trivial⟩, trivial⟩⟩⟩, ⟨q57, ⟨trivial, ⟨q153, trivial, trivial⟩, trivial⟩, ⟨q121, ⟨q185, ⟨q313, trivial, trivial⟩, trivial⟩, ⟨q249, trivial, trivial⟩⟩⟩⟩⟩, ⟨q13, ⟨trivial, ⟨q37, ⟨q69, ⟨trivial, ⟨q261, trivial, trivial⟩, trivial⟩, ⟨trivial, ⟨q325, trivial, trivial⟩, trivial⟩⟩, ⟨q101, ⟨q165, trivial, trivial⟩, ⟨q229, trivial, trivial⟩⟩⟩, ⟨trivial, ⟨trivial, ⟨q149, trivial, ⟨q405, trivial, trivial⟩⟩, trivial⟩, ⟨q117, ⟨q181, ⟨q309, trivial, trivial⟩, trivial⟩, ⟨q245, trivial, trivial⟩⟩⟩⟩, ⟨q29, ⟨trivial, ⟨q77, trivial, ⟨trivial, ⟨q333, trivial, trivial⟩, trivial⟩⟩, ⟨q109, ⟨q173, trivial, trivial⟩, ⟨q237, ⟨q365, trivial, trivial⟩, trivial⟩⟩⟩, ⟨q61, ⟨trivial, ⟨q157, trivial, trivial⟩, ⟨q221, trivial, trivial⟩⟩, ⟨q125, ⟨q189, ⟨q317, trivial, trivial⟩, trivial⟩, ⟨q253, ⟨q381, trivial, trivial⟩, trivial⟩⟩⟩⟩⟩⟩⟩, ⟨trivial, ⟨trivial, ⟨q8, ⟨q16, ⟨q32, ⟨q64, ⟨q128, ⟨q256, trivial, trivial⟩, ⟨q384, trivial, trivial⟩⟩, ⟨q192, ⟨q320, trivial, trivial⟩, trivial⟩⟩, ⟨q96, ⟨q160, trivial, trivial⟩, ⟨q224, trivial, trivial⟩⟩⟩, ⟨trivial, ⟨q80, ⟨trivial, trivial, ⟨q400, trivial, trivial⟩⟩, ⟨trivial, ⟨q336, trivial, trivial⟩, trivial⟩⟩, ⟨q112, ⟨q176, trivial, trivial⟩, ⟨q240, trivial, trivial⟩⟩⟩⟩, ⟨trivial, ⟨q40, ⟨q72, trivial, ⟨trivial, ⟨q328, trivial, trivial⟩, trivial⟩⟩, ⟨q104, ⟨q168, trivial, trivial⟩, ⟨q232, trivial, trivial⟩⟩⟩, ⟨q56, ⟨trivial, ⟨q152, trivial, ⟨q408, trivial, trivial⟩⟩, trivial⟩, ⟨q120, ⟨q184, ⟨q312, trivial, trivial⟩, trivial⟩, ⟨q248, trivial, trivial⟩⟩⟩⟩⟩, ⟨q12, ⟨trivial, ⟨q36, ⟨q68, ⟨trivial, ⟨q260, trivial, trivial⟩, ⟨q388, trivial, trivial⟩⟩, ⟨trivial, ⟨q324, trivial, trivial⟩, trivial⟩⟩, ⟨q100, ⟨q164, trivial, trivial⟩, ⟨q228, trivial, trivial⟩⟩⟩, ⟨trivial, ⟨trivial, ⟨q148, trivial, ⟨q404, trivial, trivial⟩⟩, trivial⟩, ⟨q116, ⟨q180, trivial, trivial⟩, ⟨q244, trivial, trivial⟩⟩⟩⟩, ⟨q28, ⟨trivial, ⟨q76, trivial, ⟨trivial, ⟨q332, trivial, trivial⟩, trivial⟩⟩, ⟨q108, ⟨q172, trivial, trivial⟩, ⟨q236, ⟨q364, trivial, trivial⟩, trivial⟩⟩⟩, ⟨q60, ⟨q92, ⟨q156, trivial, ⟨q412, trivial, trivial⟩⟩, ⟨q220, trivial, trivial⟩⟩, ⟨q124, ⟨q188, ⟨q316, trivial, trivial⟩, trivial⟩, ⟨q252, ⟨q380, trivial, trivial⟩, trivial⟩⟩⟩⟩⟩⟩, ⟨q6, ⟨q10, ⟨q18, ⟨q34, ⟨q66, ⟨q130, ⟨q258, trivial, trivial⟩, ⟨q386, trivial, trivial⟩⟩, ⟨q194, ⟨q322, trivial, trivial⟩, trivial⟩⟩, ⟨q98, ⟨q162, trivial, trivial⟩, ⟨q226, trivial, trivial⟩⟩⟩, ⟨trivial, ⟨trivial, trivial, ⟨trivial, ⟨q338, trivial, trivial⟩, trivial⟩⟩, ⟨q114, ⟨q178, trivial, trivial⟩, ⟨q242, trivial, trivial⟩⟩⟩⟩, ⟨q26, ⟨q42, ⟨q74, trivial, ⟨trivial, ⟨q330, trivial, trivial⟩, trivial⟩⟩, ⟨q106, ⟨q170, trivial, trivial⟩, ⟨q234, ⟨q362, trivial, trivial⟩, trivial⟩⟩⟩, ⟨q58, ⟨trivial, ⟨q154, trivial, trivial⟩, ⟨q218, trivial, trivial⟩⟩, ⟨q122, ⟨q186, ⟨q314, trivial, trivial⟩, trivial⟩, ⟨q250, trivial, trivial⟩⟩⟩⟩⟩, ⟨q14, ⟨trivial, ⟨q38, ⟨q70, ⟨trivial, ⟨q262, trivial, trivial⟩, trivial⟩, ⟨trivial, ⟨q326, trivial, trivial⟩, trivial⟩⟩, ⟨q102, ⟨q166, trivial, trivial⟩, ⟨q230, trivial, trivial⟩⟩⟩, ⟨trivial, ⟨trivial, ⟨q150, trivial, trivial⟩, trivial⟩, ⟨q118, ⟨q182, ⟨q310, trivial, trivial⟩, trivial⟩, ⟨q246, trivial, trivial⟩⟩⟩⟩, ⟨q30, ⟨trivial, ⟨q78, trivial, ⟨trivial, ⟨q334, trivial, trivial⟩, trivial⟩⟩, ⟨q110, ⟨q174, trivial, trivial⟩, ⟨q238, ⟨q366, trivial, trivial⟩, trivial⟩⟩⟩, ⟨q62, ⟨q94, ⟨q158, trivial, trivial⟩, ⟨q222, trivial, trivial⟩⟩, ⟨q126, ⟨q190, ⟨q318, trivial, trivial⟩, trivial⟩, ⟨q254, ⟨q382, trivial, trivial⟩, trivial⟩⟩⟩⟩⟩⟩⟩⟩
theorem cc_good : ∀ f X, ccTr.get f = some X → XGood Tryz.prog f X := fun f X h => Tr.All_get cc_all f X h
end Go.Proofs.YtboklojgbhkhfaaGreat
