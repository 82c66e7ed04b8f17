/-
  Av: the table of the functions that awake() reaches.
-/
import Derived.Test.YtnekfkhjokgdmaaGreatAvTold5
set_option linter.unusedVariables false
set_option maxRecDepth 100000
namespace Tw
open Go Go.Av Go.Proofs
namespace Big
noncomputable def a11 : Option FSpec := rowOf Tryz.prog Tryz.f11
theorem r11 : RowOK Tryz.prog 11 a11 := RowOK.ofFn Tryz.func11 (by kernel_rfl) (by kernel_rfl)
noncomputable def a12 : Option FSpec := rowOf Tryz.prog Tryz.f12
theorem r12 : RowOK Tryz.prog 12 a12 := RowOK.ofFn Tryz.func12 (by kernel_rfl) (by kernel_rfl)
noncomputable def a13 : Option FSpec := rowOf Tryz.prog Tryz.f13
theorem r13 : RowOK Tryz.prog 13 a13 := RowOK.ofFn Tryz.func13 (by kernel_rfl) (by kernel_rfl)
noncomputable def a14 : Option FSpec := rowOf Tryz.prog Tryz.f14
theorem r14 : RowOK Tryz.prog 14 a14 := RowOK.ofFn Tryz.func14 (by kernel_rfl) (by kernel_rfl)
noncomputable def a15 : Option FSpec := rowOf Tryz.prog Tryz.f15
theorem r15 : RowOK Tryz.prog 15 a15 := RowOK.ofFn Tryz.func15 (by kernel_rfl) (by kernel_rfl)
noncomputable def a16 : Option FSpec := rowOf Tryz.prog Tryz.f16
theorem r16 : RowOK Tryz.prog 16 a16 := RowOK.ofFn Tryz.func16 (by kernel_rfl) (by kernel_rfl)
noncomputable def a17 : Option FSpec := rowOf Tryz.prog Tryz.f17
theorem r17 : RowOK Tryz.prog 17 a17 := RowOK.ofFn Tryz.func17 (by kernel_rfl) (by kernel_rfl)
noncomputable def a18 : Option FSpec := rowOf Tryz.prog Tryz.f18
theorem r18 : RowOK Tryz.prog 18 a18 := RowOK.ofFn Tryz.func18 (by kernel_rfl) (by kernel_rfl)
noncomputable def a19 : Option FSpec := rowOf Tryz.prog Tryz.f19
theorem r19 : RowOK Tryz.prog 19 a19 := RowOK.ofFn Tryz.func19 (by kernel_rfl) (by kernel_rfl)
noncomputable def a20 : Option FSpec := rowOf Tryz.prog Tryz.f20
theorem r20 : RowOK Tryz.prog 20 a20 := RowOK.ofFn Tryz.func20 (by kernel_rfl) (by kernel_rfl)
noncomputable def a21 : Option FSpec := rowOf Tryz.prog Tryz.f21
theorem r21 : RowOK Tryz.prog 21 a21 := RowOK.ofFn Tryz.func21 (by kernel_rfl) (by kernel_rfl)
noncomputable def a22 : Option FSpec := rowOf Tryz.prog Tryz.f22
theorem r22 : RowOK Tryz.prog 22 a22 := RowOK.ofFn Tryz.func22 (by kernel_rfl) (by kernel_rfl)
noncomputable def a24 : Option FSpec := rowOf Tryz.prog Tryz.f24
theorem r24 : RowOK Tryz.prog 24 a24 := RowOK.ofFn Tryz.func24 (by kernel_rfl) (by kernel_rfl)
noncomputable def a25 : Option FSpec := rowOf Tryz.prog Tryz.f25
theorem r25 : RowOK Tryz.prog 25 a25 := RowOK.ofFn Tryz.func25 (by kernel_rfl) (by kernel_rfl)
noncomputable def a28 : Option FSpec := rowOf Tryz.prog Tryz.f28
theorem r28 : RowOK Tryz.prog 28 a28 := RowOK.ofFn Tryz.func28 (by kernel_rfl) (by kernel_rfl)
noncomputable def a30 : Option FSpec := rowOf Tryz.prog Tryz.f30
theorem r30 : RowOK Tryz.prog 30 a30 := RowOK.ofFn Tryz.func30 (by kernel_rfl) (by kernel_rfl)
noncomputable def a31 : Option FSpec := rowOf Tryz.prog Tryz.f31
theorem r31 : RowOK Tryz.prog 31 a31 := RowOK.ofFn Tryz.func31 (by kernel_rfl) (by kernel_rfl)
noncomputable def a36 : Option FSpec := rowOf Tryz.prog Tryz.f36
theorem r36 : RowOK Tryz.prog 36 a36 := RowOK.ofFn Tryz.func36 (by kernel_rfl) (by kernel_rfl)
noncomputable def a37 : Option FSpec := rowOf Tryz.prog Tryz.f37
theorem r37 : RowOK Tryz.prog 37 a37 := RowOK.ofFn Tryz.func37 (by kernel_rfl) (by kernel_rfl)
noncomputable def a47 : Option FSpec := rowOf Tryz.prog Tryz.f47
theorem r47 : RowOK Tryz.prog 47 a47 := RowOK.ofFn Tryz.func47 (by kernel_rfl) (by kernel_rfl)
noncomputable def a50 : Option FSpec := rowOf Tryz.prog Tryz.f50
theorem r50 : RowOK Tryz.prog 50 a50 := RowOK.ofFn Tryz.func50 (by kernel_rfl) (by kernel_rfl)
noncomputable def a54 : Option FSpec := rowOf Tryz.prog Tryz.f54
theorem r54 : RowOK Tryz.prog 54 a54 := RowOK.ofFn Tryz.func54 (by kernel_rfl) (by kernel_rfl)
noncomputable def a55 : Option FSpec := rowOf Tryz.prog Tryz.f55
theorem r55 : RowOK Tryz.prog 55 a55 := RowOK.ofFn Tryz.func55 (by kernel_rfl) (by kernel_rfl)
noncomputable def a56 : Option FSpec := rowOf Tryz.prog Tryz.f56
theorem r56 : RowOK Tryz.prog 56 a56 := RowOK.ofFn Tryz.func56 (by kernel_rfl) (by kernel_rfl)
noncomputable def a57 : Option FSpec := rowOf Tryz.prog Tryz.f57
theorem r57 : RowOK Tryz.prog 57 a57 := RowOK.ofFn Tryz.func57 (by kernel_rfl) (by kernel_rfl)
noncomputable def a58 : Option FSpec := rowOf Tryz.prog Tryz.f58
theorem r58 : RowOK Tryz.prog 58 a58 := RowOK.ofFn Tryz.func58 (by kernel_rfl) (by kernel_rfl)
noncomputable def a59 : Option FSpec := rowOf Tryz.prog Tryz.f59
theorem r59 : RowOK Tryz.prog 59 a59 := RowOK.ofFn Tryz.func59 (by kernel_rfl) (by kernel_rfl)
noncomputable def a60 : Option FSpec := rowOf Tryz.prog Tryz.f60
theorem r60 : RowOK Tryz.prog 60 a60 := RowOK.ofFn Tryz.func60 (by kernel_rfl) (by kernel_rfl)
noncomputable def a61 : Option FSpec := rowOf Tryz.prog Tryz.f61
theorem r61 : RowOK Tryz.prog 61 a61 := RowOK.ofFn Tryz.func61 (by kernel_rfl) (by kernel_rfl)
noncomputable def a62 : Option FSpec := rowOf Tryz.prog Tryz.f62
theorem r62 : RowOK Tryz.prog 62 a62 := RowOK.ofFn Tryz.func62 (by kernel_rfl) (by kernel_rfl)
noncomputable def a63 : Option FSpec := rowOf Tryz.prog Tryz.f63
theorem r63 : RowOK Tryz.prog 63 a63 := RowOK.ofFn Tryz.func63 (by kernel_rfl) (by kernel_rfl)
noncomputable def a64 : Option FSpec := rowOf Tryz.prog Tryz.f64
theorem r64 : RowOK Tryz.prog 64 a64 := RowOK.ofFn Tryz.func64 (by kernel_rfl) (by kernel_rfl)
noncomputable def a65 : Option FSpec := rowOf Tryz.prog Tryz.f65
theorem r65 : RowOK Tryz.prog 65 a65 := RowOK.ofFn Tryz.func65 (by kernel_rfl) (by kernel_rfl)
noncomputable def a66 : Option FSpec := rowOf Tryz.prog Tryz.f66
theorem r66 : RowOK Tryz.prog 66 a66 := RowOK.ofFn Tryz.func66 (by kernel_rfl) (by kernel_rfl)
noncomputable def a67 : Option FSpec := rowOf Tryz.prog Tryz.f67
theorem r67 : RowOK Tryz.prog 67 a67 := RowOK.ofFn Tryz.func67 (by kernel_rfl) (by kernel_rfl)
noncomputable def a68 : Option FSpec := rowOf Tryz.prog Tryz.f68
theorem r68 : RowOK Tryz.prog 68 a68 := RowOK.ofFn Tryz.func68 (by kernel_rfl) (by kernel_rfl)
noncomputable def a69 : Option FSpec := rowOf Tryz.prog Tryz.f69
theorem r69 : RowOK Tryz.prog 69 a69 := RowOK.ofFn Tryz.func69 (by kernel_rfl) (by kernel_rfl)
noncomputable def a70 : Option FSpec := rowOf Tryz.prog Tryz.f70
theorem r70 : RowOK Tryz.prog 70 a70 := RowOK.ofFn Tryz.func70 (by kernel_rfl) (by kernel_rfl)
noncomputable def a71 : Option FSpec := rowOf Tryz.prog Tryz.f71
theorem r71 : RowOK Tryz.prog 71 a71 := RowOK.ofFn Tryz.func71 (by kernel_rfl) (by kernel_rfl)
noncomputable def a72 : Option FSpec := rowOf Tryz.prog Tryz.f72
theorem r72 : RowOK Tryz.prog 72 a72 := RowOK.ofFn Tryz.func72 (by kernel_rfl) (by kernel_rfl)
noncomputable def a73 : Option FSpec := rowOf Tryz.prog Tryz.f73
theorem r73 : RowOK Tryz.prog 73 a73 := RowOK.ofFn Tryz.func73 (by kernel_rfl) (by kernel_rfl)
noncomputable def a74 : Option FSpec := rowOf Tryz.prog Tryz.f74
theorem r74 : RowOK Tryz.prog 74 a74 := RowOK.ofFn Tryz.func74 (by kernel_rfl) (by kernel_rfl)
noncomputable def a75 : Option FSpec := rowOf Tryz.prog Tryz.f75
theorem r75 : RowOK Tryz.prog 75 a75 := RowOK.ofFn Tryz.func75 (by kernel_rfl) (by kernel_rfl)
noncomputable def a76 : Option FSpec := rowOf Tryz.prog Tryz.f76
theorem r76 : RowOK Tryz.prog 76 a76 := RowOK.ofFn Tryz.func76 (by kernel_rfl) (by kernel_rfl)
noncomputable def a77 : Option FSpec := rowOf Tryz.prog Tryz.f77
theorem r77 : RowOK Tryz.prog 77 a77 := RowOK.ofFn Tryz.func77 (by kernel_rfl) (by kernel_rfl)
noncomputable def a78 : Option FSpec := rowOf Tryz.prog Tryz.f78
theorem r78 : RowOK Tryz.prog 78 a78 := RowOK.ofFn Tryz.func78 (by kernel_rfl) (by kernel_rfl)
noncomputable def a79 : Option FSpec := rowOf Tryz.prog Tryz.f79
theorem r79 : RowOK Tryz.prog 79 a79 := RowOK.ofFn Tryz.func79 (by kernel_rfl) (by kernel_rfl)
noncomputable def a80 : Option FSpec := rowOf Tryz.prog Tryz.f80
theorem r80 : RowOK Tryz.prog 80 a80 := RowOK.ofFn Tryz.func80 (by kernel_rfl) (by kernel_rfl)
noncomputable def a81 : Option FSpec := rowOf Tryz.prog Tryz.f81
theorem r81 : RowOK Tryz.prog 81 a81 := RowOK.ofFn Tryz.func81 (by kernel_rfl) (by kernel_rfl)
noncomputable def a82 : Option FSpec := rowOf Tryz.prog Tryz.f82
theorem r82 : RowOK Tryz.prog 82 a82 := RowOK.ofFn Tryz.func82 (by kernel_rfl) (by kernel_rfl)
noncomputable def a83 : Option FSpec := rowOf Tryz.prog Tryz.f83
theorem r83 : RowOK Tryz.prog 83 a83 := RowOK.ofFn Tryz.func83 (by kernel_rfl) (by kernel_rfl)
noncomputable def a84 : Option FSpec := rowOf Tryz.prog Tryz.f84
theorem r84 : RowOK Tryz.prog 84 a84 := RowOK.ofFn Tryz.func84 (by kernel_rfl) (by kernel_rfl)
noncomputable def a85 : Option FSpec := rowOf Tryz.prog Tryz.f85
theorem r85 : RowOK Tryz.prog 85 a85 := RowOK.ofFn Tryz.func85 (by kernel_rfl) (by kernel_rfl)
noncomputable def a86 : Option FSpec := rowOf Tryz.prog Tryz.f86
theorem r86 : RowOK Tryz.prog 86 a86 := RowOK.ofFn Tryz.func86 (by kernel_rfl) (by kernel_rfl)
noncomputable def a87 : Option FSpec := rowOf Tryz.prog Tryz.f87
theorem r87 : RowOK Tryz.prog 87 a87 := RowOK.ofFn Tryz.func87 (by kernel_rfl) (by kernel_rfl)
noncomputable def a88 : Option FSpec := rowOf Tryz.prog Tryz.f88
theorem r88 : RowOK Tryz.prog 88 a88 := RowOK.ofFn Tryz.func88 (by kernel_rfl) (by kernel_rfl)
noncomputable def a90 : Option FSpec := rowOf Tryz.prog Tryz.f90
theorem r90 : RowOK Tryz.prog 90 a90 := RowOK.ofFn Tryz.func90 (by kernel_rfl) (by kernel_rfl)
noncomputable def a92 : Option FSpec := rowOf Tryz.prog Tryz.f92
theorem r92 : RowOK Tryz.prog 92 a92 := RowOK.ofFn Tryz.func92 (by kernel_rfl) (by kernel_rfl)
noncomputable def a93 : Option FSpec := rowOf Tryz.prog Tryz.f93
theorem r93 : RowOK Tryz.prog 93 a93 := RowOK.ofFn Tryz.func93 (by kernel_rfl) (by kernel_rfl)
noncomputable def a95 : Option FSpec := rowOf Tryz.prog Tryz.f95
theorem r95 : RowOK Tryz.prog 95 a95 := RowOK.ofFn Tryz.func95 (by kernel_rfl) (by kernel_rfl)
noncomputable def a119 : Option FSpec := rowOf Tryz.prog Tryz.f119
theorem r119 : RowOK Tryz.prog 119 a119 := RowOK.ofFn Tryz.func119 (by kernel_rfl) (by kernel_rfl)
noncomputable def a123 : Option FSpec := rowOf Tryz.prog Tryz.f123
theorem r123 : RowOK Tryz.prog 123 a123 := RowOK.ofFn Tryz.func123 (by kernel_rfl) (by kernel_rfl)
noncomputable def a124 : Option FSpec := rowOf Tryz.prog Tryz.f124
theorem r124 : RowOK Tryz.prog 124 a124 := RowOK.ofFn Tryz.func124 (by kernel_rfl) (by kernel_rfl)
noncomputable def a126 : Option FSpec := rowOf Tryz.prog Tryz.f126
theorem r126 : RowOK Tryz.prog 126 a126 := RowOK.ofFn Tryz.func126 (by kernel_rfl) (by kernel_rfl)
noncomputable def a130 : Option FSpec := rowOf Tryz.prog Tryz.f130
theorem r130 : RowOK Tryz.prog 130 a130 := RowOK.ofFn Tryz.func130 (by kernel_rfl) (by kernel_rfl)
noncomputable def a131 : Option FSpec := rowOf Tryz.prog Tryz.f131
theorem r131 : RowOK Tryz.prog 131 a131 := RowOK.ofFn Tryz.func131 (by kernel_rfl) (by kernel_rfl)
noncomputable def a132 : Option FSpec := rowOf Tryz.prog Tryz.f132
theorem r132 : RowOK Tryz.prog 132 a132 := RowOK.ofFn Tryz.func132 (by kernel_rfl) (by kernel_rfl)
noncomputable def a133 : Option FSpec := rowOf Tryz.prog Tryz.f133
theorem r133 : RowOK Tryz.prog 133 a133 := RowOK.ofFn Tryz.func133 (by kernel_rfl) (by kernel_rfl)
noncomputable def a134 : Option FSpec := rowOf Tryz.prog Tryz.f134
theorem r134 : RowOK Tryz.prog 134 a134 := RowOK.ofFn Tryz.func134 (by kernel_rfl) (by kernel_rfl)
noncomputable def a135 : Option FSpec := rowOf Tryz.prog Tryz.f135
theorem r135 : RowOK Tryz.prog 135 a135 := RowOK.ofFn Tryz.func135 (by kernel_rfl) (by kernel_rfl)
noncomputable def a136 : Option FSpec := rowOf Tryz.prog Tryz.f136
theorem r136 : RowOK Tryz.prog 136 a136 := RowOK.ofFn Tryz.func136 (by kernel_rfl) (by kernel_rfl)
noncomputable def a137 : Option FSpec := rowOf Tryz.prog Tryz.f137
theorem r137 : RowOK Tryz.prog 137 a137 := RowOK.ofFn Tryz.func137 (by kernel_rfl) (by kernel_rfl)
noncomputable def a138 : Option FSpec := rowOf Tryz.prog Tryz.f138
theorem r138 : RowOK Tryz.prog 138 a138 := RowOK.ofFn Tryz.func138 (by kernel_rfl) (by kernel_rfl)
noncomputable def a139 : Option FSpec := rowOf Tryz.prog Tryz.f139
theorem r139 : RowOK Tryz.prog 139 a139 := RowOK.ofFn Tryz.func139 (by kernel_rfl) (by kernel_rfl)
noncomputable def a140 : Option FSpec := rowOf Tryz.prog Tryz.f140
theorem r140 : RowOK Tryz.prog 140 a140 := RowOK.ofFn Tryz.func140 (by kernel_rfl) (by kernel_rfl)
noncomputable def a141 : Option FSpec := rowOf Tryz.prog Tryz.f141
theorem r141 : RowOK Tryz.prog 141 a141 := RowOK.ofFn Tryz.func141 (by kernel_rfl) (by kernel_rfl)
noncomputable def a142 : Option FSpec := rowOf Tryz.prog Tryz.f142
theorem r142 : RowOK Tryz.prog 142 a142 := RowOK.ofFn Tryz.func142 (by kernel_rfl) (by kernel_rfl)
noncomputable def a143 : Option FSpec := rowOf Tryz.prog Tryz.f143
theorem r143 : RowOK Tryz.prog 143 a143 := RowOK.ofFn Tryz.func143 (by kernel_rfl) (by kernel_rfl)
noncomputable def a144 : Option FSpec := rowOf Tryz.prog Tryz.f144
theorem r144 : RowOK Tryz.prog 144 a144 := RowOK.ofFn Tryz.func144 (by kernel_rfl) (by kernel_rfl)
noncomputable def a145 : Option FSpec := rowOf Tryz.prog Tryz.f145
theorem r145 : RowOK Tryz.prog 145 a145 := RowOK.ofFn Tryz.func145 (by kernel_rfl) (by kernel_rfl)
noncomputable def a146 : Option FSpec := rowOf Tryz.prog Tryz.f146
theorem r146 : RowOK Tryz.prog 146 a146 := RowOK.ofFn Tryz.func146 (by kernel_rfl) (by kernel_rfl)
noncomputable def a147 : Option FSpec := rowOf Tryz.prog Tryz.f147
theorem r147 : RowOK Tryz.prog 147 a147 := RowOK.ofFn Tryz.func147 (by kernel_rfl) (by kernel_rfl)
noncomputable def a148 : Option FSpec := rowOf Tryz.prog Tryz.f148
theorem r148 : RowOK Tryz.prog 148 a148 := RowOK.ofFn Tryz.func148 (by kernel_rfl) (by kernel_rfl)
noncomputable def a149 : Option FSpec := rowOf Tryz.prog Tryz.f149
theorem r149 : RowOK Tryz.prog 149 a149 := RowOK.ofFn Tryz.func149 (by kernel_rfl) (by kernel_rfl)
noncomputable def a150 : Option FSpec := rowOf Tryz.prog Tryz.f150
theorem r150 : RowOK Tryz.prog 150 a150 := RowOK.ofFn Tryz.func150 (by kernel_rfl) (by kernel_rfl)
noncomputable def a151 : Option FSpec := rowOf Tryz.prog Tryz.f151
theorem r151 : RowOK Tryz.prog 151 a151 := RowOK.ofFn Tryz.func151 (by kernel_rfl) (by kernel_rfl)
noncomputable def a152 : Option FSpec := rowOf Tryz.prog Tryz.f152
theorem r152 : RowOK Tryz.prog 152 a152 := RowOK.ofFn Tryz.func152 (by kernel_rfl) (by kernel_rfl)
noncomputable def a153 : Option FSpec := rowOf Tryz.prog Tryz.f153
theorem r153 : RowOK Tryz.prog 153 a153 := RowOK.ofFn Tryz.func153 (by kernel_rfl) (by kernel_rfl)
noncomputable def a154 : Option FSpec := rowOf Tryz.prog Tryz.f154
theorem r154 : RowOK Tryz.prog 154 a154 := RowOK.ofFn Tryz.func154 (by kernel_rfl) (by kernel_rfl)
noncomputable def a155 : Option FSpec := rowOf Tryz.prog Tryz.f155
theorem r155 : RowOK Tryz.prog 155 a155 := RowOK.ofFn Tryz.func155 (by kernel_rfl) (by kernel_rfl)
noncomputable def a156 : Option FSpec := rowOf Tryz.prog Tryz.f156
theorem r156 : RowOK Tryz.prog 156 a156 := RowOK.ofFn Tryz.func156 (by kernel_rfl) (by kernel_rfl)
noncomputable def a157 : Option FSpec := rowOf Tryz.prog Tryz.f157
theorem r157 : RowOK Tryz.prog 157 a157 := RowOK.ofFn Tryz.func157 (by kernel_rfl) (by kernel_rfl)
noncomputable def a158 : Option FSpec := rowOf Tryz.prog Tryz.f158
theorem r158 : RowOK Tryz.prog 158 a158 := RowOK.ofFn Tryz.func158 (by kernel_rfl) (by kernel_rfl)
noncomputable def a159 : Option FSpec := rowOf Tryz.prog Tryz.f159
theorem r159 : RowOK Tryz.prog 159 a159 := RowOK.ofFn Tryz.func159 (by kernel_rfl) (by kernel_rfl)
noncomputable def a160 : Option FSpec := rowOf Tryz.prog Tryz.f160
theorem r160 : RowOK Tryz.prog 160 a160 := RowOK.ofFn Tryz.func160 (by kernel_rfl) (by kernel_rfl)
noncomputable def a161 : Option FSpec := rowOf Tryz.prog Tryz.f161
theorem r161 : RowOK Tryz.prog 161 a161 := RowOK.ofFn Tryz.func161 (by kernel_rfl) (by kernel_rfl)
noncomputable def a162 : Option FSpec := rowOf Tryz.prog Tryz.f162
theorem r162 : RowOK Tryz.prog 162 a162 := RowOK.ofFn Tryz.func162 (by kernel_rfl) (by kernel_rfl)
noncomputable def a163 : Option FSpec := rowOf Tryz.prog Tryz.f163
theorem r163 : RowOK Tryz.prog 163 a163 := RowOK.ofFn Tryz.func163 (by kernel_rfl) (by kernel_rfl)
noncomputable def a164 : Option FSpec := rowOf Tryz.prog Tryz.f164
theorem r164 : RowOK Tryz.prog 164 a164 := RowOK.ofFn Tryz.func164 (by kernel_rfl) (by kernel_rfl)
noncomputable def a165 : Option FSpec := rowOf Tryz.prog Tryz.f165
theorem r165 : RowOK Tryz.prog 165 a165 := RowOK.ofFn Tryz.func165 (by kernel_rfl) (by kernel_rfl)
noncomputable def a166 : Option FSpec := rowOf Tryz.prog Tryz.f166
theorem r166 : RowOK Tryz.prog 166 a166 := RowOK.ofFn Tryz.func166 (by kernel_rfl) (by kernel_rfl)
noncomputable def a167 : Option FSpec := rowOf Tryz.prog Tryz.f167
theorem r167 : RowOK Tryz.prog 167 a167 := RowOK.ofFn Tryz.func167 (by kernel_rfl) (by kernel_rfl)
noncomputable def a168 : Option FSpec := rowOf Tryz.prog Tryz.f168
theorem r168 : RowOK Tryz.prog 168 a168 := RowOK.ofFn Tryz.func168 (by kernel_rfl) (by kernel_rfl)
noncomputable def a169 : Option FSpec := rowOf Tryz.prog Tryz.f169
theorem r169 : RowOK Tryz.prog 169 a169 := RowOK.ofFn Tryz.func169 (by kernel_rfl) (by kernel_rfl)
noncomputable def a170 : Option FSpec := rowOf Tryz.prog Tryz.f170
theorem r170 : RowOK Tryz.prog 170 a170 := RowOK.ofFn Tryz.func170 (by kernel_rfl) (by kernel_rfl)
noncomputable def a171 : Option FSpec := rowOf Tryz.prog Tryz.f171
theorem r171 : RowOK Tryz.prog 171 a171 := RowOK.ofFn Tryz.func171 (by kernel_rfl) (by kernel_rfl)
noncomputable def a172 : Option FSpec := rowOf Tryz.prog Tryz.f172
theorem r172 : RowOK Tryz.prog 172 a172 := RowOK.ofFn Tryz.func172 (by kernel_rfl) (by kernel_rfl)
noncomputable def a174 : Option FSpec := rowOf Tryz.prog Tryz.f174
theorem r174 : RowOK Tryz.prog 174 a174 := RowOK.ofFn Tryz.func174 (by kernel_rfl) (by kernel_rfl)
noncomputable def a175 : Option FSpec := rowOf Tryz.prog Tryz.f175
theorem r175 : RowOK Tryz.prog 175 a175 := RowOK.ofFn Tryz.func175 (by kernel_rfl) (by kernel_rfl)
noncomputable def a176 : Option FSpec := rowOf Tryz.prog Tryz.f176
theorem r176 : RowOK Tryz.prog 176 a176 := RowOK.ofFn Tryz.func176 (by kernel_rfl) (by kernel_rfl)
noncomputable def a177 : Option FSpec := rowOf Tryz.prog Tryz.f177
theorem r177 : RowOK Tryz.prog 177 a177 := RowOK.ofFn Tryz.func177 (by kernel_rfl) (by kernel_rfl)
noncomputable def a193 : Option FSpec := rowOf Tryz.prog Tryz.f193
theorem r193 : RowOK Tryz.prog 193 a193 := RowOK.ofFn Tryz.func193 (by kernel_rfl) (by kernel_rfl)
noncomputable def a198 : Option FSpec := rowOf Tryz.prog Tryz.f198
theorem r198 : RowOK Tryz.prog 198 a198 := RowOK.ofFn Tryz.func198 (by kernel_rfl) (by kernel_rfl)
noncomputable def a199 : Option FSpec := rowOf Tryz.prog Tryz.f199
theorem r199 : RowOK Tryz.prog 199 a199 := RowOK.ofFn Tryz.func199 (by kernel_rfl) (by kernel_rfl)
noncomputable def a200 : Option FSpec := rowOf Tryz.prog Tryz.f200
theorem r200 : RowOK Tryz.prog 200 a200 := RowOK.ofFn Tryz.func200 (by kernel_rfl) (by kernel_rfl)
noncomputable def a201 : Option FSpec := rowOf Tryz.prog Tryz.f201
theorem r201 : RowOK Tryz.prog 201 a201 := RowOK.ofFn Tryz.func201 (by kernel_rfl) (by kernel_rfl)
noncomputable def a202 : Option FSpec := rowOf Tryz.prog Tryz.f202
theorem r202 : RowOK Tryz.prog 202 a202 := RowOK.ofFn Tryz.func202 (by kernel_rfl) (by kernel_rfl)
noncomputable def a203 : Option FSpec := rowOf Tryz.prog Tryz.f203
theorem r203 : RowOK Tryz.prog 203 a203 := RowOK.ofFn Tryz.func203 (by kernel_rfl) (by kernel_rfl)
noncomputable def a204 : Option FSpec := rowOf Tryz.prog Tryz.f204
theorem r204 : RowOK Tryz.prog 204 a204 := RowOK.ofFn Tryz.func204 (by kernel_rfl) (by kernel_rfl)
noncomputable def a206 : Option FSpec := rowOf Tryz.prog Tryz.f206
theorem r206 : RowOK Tryz.prog 206 a206 := RowOK.ofFn Tryz.func206 (by kernel_rfl) (by kernel_rfl)
noncomputable def a207 : Option FSpec := rowOf Tryz.prog Tryz.f207
theorem r207 : RowOK Tryz.prog 207 a207 := RowOK.ofFn Tryz.func207 (by kernel_rfl) (by kernel_rfl)
noncomputable def a208 : Option FSpec := rowOf Tryz.prog Tryz.f208
theorem r208 : RowOK Tryz.prog 208 a208 := RowOK.ofFn Tryz.func208 (by kernel_rfl) (by kernel_rfl)
noncomputable def a209 : Option FSpec := rowOf Tryz.prog Tryz.f209
theorem r209 : RowOK Tryz.prog 209 a209 := RowOK.ofFn Tryz.func209 (by kernel_rfl) (by kernel_rfl)
noncomputable def a210 : Option FSpec := rowOf Tryz.prog Tryz.f210
theorem r210 : RowOK Tryz.prog 210 a210 := RowOK.ofFn Tryz.func210 (by kernel_rfl) (by kernel_rfl)
noncomputable def a211 : Option FSpec := rowOf Tryz.prog Tryz.f211
theorem r211 : RowOK Tryz.prog 211 a211 := RowOK.ofFn Tryz.func211 (by kernel_rfl) (by kernel_rfl)
noncomputable def a212 : Option FSpec := rowOf Tryz.prog Tryz.f212
theorem r212 : RowOK Tryz.prog 212 a212 := RowOK.ofFn Tryz.func212 (by kernel_rfl) (by kernel_rfl)
noncomputable def a213 : Option FSpec := rowOf Tryz.prog Tryz.f213
theorem r213 : RowOK Tryz.prog 213 a213 := RowOK.ofFn Tryz.func213 (by kernel_rfl) (by kernel_rfl)
noncomputable def a214 : Option FSpec := rowOf Tryz.prog Tryz.f214
theorem r214 : RowOK Tryz.prog 214 a214 := RowOK.ofFn Tryz.func214 (by kernel_rfl) (by kernel_rfl)
noncomputable def a215 : Option FSpec := rowOf Tryz.prog Tryz.f215
theorem r215 : RowOK Tryz.prog 215 a215 := RowOK.ofFn Tryz.func215 (by kernel_rfl) (by kernel_rfl)
noncomputable def a216 : Option FSpec := rowOf Tryz.prog Tryz.f216
theorem r216 : RowOK Tryz.prog 216 a216 := RowOK.ofFn Tryz.func216 (by kernel_rfl) (by kernel_rfl)
noncomputable def a217 : Option FSpec := rowOf Tryz.prog Tryz.f217
theorem r217 : RowOK Tryz.prog 217 a217 := RowOK.ofFn Tryz.func217 (by kernel_rfl) (by kernel_rfl)
noncomputable def a218 : Option FSpec := rowOf Tryz.prog Tryz.f218
theorem r218 : RowOK Tryz.prog 218 a218 := RowOK.ofFn Tryz.func218 (by kernel_rfl) (by kernel_rfl)
noncomputable def a219 : Option FSpec := rowOf Tryz.prog Tryz.f219
theorem r219 : RowOK Tryz.prog 219 a219 := RowOK.ofFn Tryz.func219 (by kernel_rfl) (by kernel_rfl)
noncomputable def a220 : Option FSpec := rowOf Tryz.prog Tryz.f220
theorem r220 : RowOK Tryz.prog 220 a220 := RowOK.ofFn Tryz.func220 (by kernel_rfl) (by kernel_rfl)
noncomputable def a221 : Option FSpec := rowOf Tryz.prog Tryz.f221
theorem r221 : RowOK Tryz.prog 221 a221 := RowOK.ofFn Tryz.func221 (by kernel_rfl) (by kernel_rfl)
noncomputable def a222 : Option FSpec := rowOf Tryz.prog Tryz.f222
theorem r222 : RowOK Tryz.prog 222 a222 := RowOK.ofFn Tryz.func222 (by kernel_rfl) (by kernel_rfl)
noncomputable def a223 : Option FSpec := rowOf Tryz.prog Tryz.f223
theorem r223 : RowOK Tryz.prog 223 a223 := RowOK.ofFn Tryz.func223 (by kernel_rfl) (by kernel_rfl)
noncomputable def a224 : Option FSpec := rowOf Tryz.prog Tryz.f224
theorem r224 : RowOK Tryz.prog 224 a224 := RowOK.ofFn Tryz.func224 (by kernel_rfl) (by kernel_rfl)
noncomputable def a225 : Option FSpec := rowOf Tryz.prog Tryz.f225
theorem r225 : RowOK Tryz.prog 225 a225 := RowOK.ofFn Tryz.func225 (by kernel_rfl) (by kernel_rfl)
noncomputable def a226 : Option FSpec := rowOf Tryz.prog Tryz.f226
theorem r226 : RowOK Tryz.prog 226 a226 := RowOK.ofFn Tryz.func226 (by kernel_rfl) (by kernel_rfl)
noncomputable def a227 : Option FSpec := rowOf Tryz.prog Tryz.f227
theorem r227 : RowOK Tryz.prog 227 a227 := RowOK.ofFn Tryz.func227 (by kernel_rfl) (by kernel_rfl)
noncomputable def a228 : Option FSpec := rowOf Tryz.prog Tryz.f228
theorem r228 : RowOK Tryz.prog 228 a228 := RowOK.ofFn Tryz.func228 (by kernel_rfl) (by kernel_rfl)
noncomputable def a229 : Option FSpec := rowOf Tryz.prog Tryz.f229
theorem r229 : RowOK Tryz.prog 229 a229 := RowOK.ofFn Tryz.func229 (by kernel_rfl) (by kernel_rfl)
noncomputable def a230 : Option FSpec := rowOf Tryz.prog Tryz.f230
theorem r230 : RowOK Tryz.prog 230 a230 := RowOK.ofFn Tryz.func230 (by kernel_rfl) (by kernel_rfl)
noncomputable def a231 : Option FSpec := rowOf Tryz.prog Tryz.f231
theorem r231 : RowOK Tryz.prog 231 a231 := RowOK.ofFn Tryz.func231 (by kernel_rfl) (by kernel_rfl)
noncomputable def a232 : Option FSpec := rowOf Tryz.prog Tryz.f232
theorem r232 : RowOK Tryz.prog 232 a232 := RowOK.ofFn Tryz.func232 (by kernel_rfl) (by kernel_rfl)
noncomputable def a233 : Option FSpec := rowOf Tryz.prog Tryz.f233
theorem r233 : RowOK Tryz.prog 233 a233 := RowOK.ofFn Tryz.func233 (by kernel_rfl) (by kernel_rfl)
noncomputable def a234 : Option FSpec := rowOf Tryz.prog Tryz.f234
theorem r234 : RowOK Tryz.prog 234 a234 := RowOK.ofFn Tryz.func234 (by kernel_rfl) (by kernel_rfl)
noncomputable def a235 : Option FSpec := rowOf Tryz.prog Tryz.f235
theorem r235 : RowOK Tryz.prog 235 a235 := RowOK.ofFn Tryz.func235 (by kernel_rfl) (by kernel_rfl)
noncomputable def a236 : Option FSpec := rowOf Tryz.prog Tryz.f236
theorem r236 : RowOK Tryz.prog 236 a236 := RowOK.ofFn Tryz.func236 (by kernel_rfl) (by kernel_rfl)
noncomputable def a237 : Option FSpec := rowOf Tryz.prog Tryz.f237
theorem r237 : RowOK Tryz.prog 237 a237 := RowOK.ofFn Tryz.func237 (by kernel_rfl) (by kernel_rfl)
noncomputable def a239 : Option FSpec := some (.told whichO)
theorem r239 : RowOK Tryz.prog 239 a239 := RowOK.ofTold Tryz.func239 (by kernel_rfl) (by kernel_rfl) which_row
noncomputable def a240 : Option FSpec := rowOf Tryz.prog Tryz.f240
theorem r240 : RowOK Tryz.prog 240 a240 := RowOK.ofFn Tryz.func240 (by kernel_rfl) (by kernel_rfl)
noncomputable def a241 : Option FSpec := rowOf Tryz.prog Tryz.f241
theorem r241 : RowOK Tryz.prog 241 a241 := RowOK.ofFn Tryz.func241 (by kernel_rfl) (by kernel_rfl)
noncomputable def a246 : Option FSpec := rowOf Tryz.prog Tryz.f246
theorem r246 : RowOK Tryz.prog 246 a246 := RowOK.ofFn Tryz.func246 (by kernel_rfl) (by kernel_rfl)
noncomputable def a247 : Option FSpec := rowOf Tryz.prog Tryz.f247
theorem r247 : RowOK Tryz.prog 247 a247 := RowOK.ofFn Tryz.func247 (by kernel_rfl) (by kernel_rfl)
noncomputable def a248 : Option FSpec := rowOf Tryz.prog Tryz.f248
theorem r248 : RowOK Tryz.prog 248 a248 := RowOK.ofFn Tryz.func248 (by kernel_rfl) (by kernel_rfl)
noncomputable def a249 : Option FSpec := rowOf Tryz.prog Tryz.f249
theorem r249 : RowOK Tryz.prog 249 a249 := RowOK.ofFn Tryz.func249 (by kernel_rfl) (by kernel_rfl)
noncomputable def a254 : Option FSpec := rowOf Tryz.prog Tryz.f254
theorem r254 : RowOK Tryz.prog 254 a254 := RowOK.ofFn Tryz.func254 (by kernel_rfl) (by kernel_rfl)
noncomputable def a255 : Option FSpec := rowOf Tryz.prog Tryz.f255
theorem r255 : RowOK Tryz.prog 255 a255 := RowOK.ofFn Tryz.func255 (by kernel_rfl) (by kernel_rfl)
noncomputable def a256 : Option FSpec := rowOf Tryz.prog Tryz.f256
theorem r256 : RowOK Tryz.prog 256 a256 := RowOK.ofFn Tryz.func256 (by kernel_rfl) (by kernel_rfl)
noncomputable def a257 : Option FSpec := rowOf Tryz.prog Tryz.f257
theorem r257 : RowOK Tryz.prog 257 a257 := RowOK.ofFn Tryz.func257 (by kernel_rfl) (by kernel_rfl)
noncomputable def a258 : Option FSpec := rowOf Tryz.prog Tryz.f258
theorem r258 : RowOK Tryz.prog 258 a258 := RowOK.ofFn Tryz.func258 (by kernel_rfl) (by kernel_rfl)
noncomputable def a259 : Option FSpec := rowOf Tryz.prog Tryz.f259
theorem r259 : RowOK Tryz.prog 259 a259 := RowOK.ofFn Tryz.func259 (by kernel_rfl) (by kernel_rfl)
noncomputable def a260 : Option FSpec := rowOf Tryz.prog Tryz.f260
theorem r260 : RowOK Tryz.prog 260 a260 := RowOK.ofFn Tryz.func260 (by kernel_rfl) (by kernel_rfl)
noncomputable def a261 : Option FSpec := rowOf Tryz.prog Tryz.f261
theorem r261 : RowOK Tryz.prog 261 a261 := RowOK.ofFn Tryz.func261 (by kernel_rfl) (by kernel_rfl)
noncomputable def a262 : Option FSpec := rowOf Tryz.prog Tryz.f262
theorem r262 : RowOK Tryz.prog 262 a262 := RowOK.ofFn Tryz.func262 (by kernel_rfl) (by kernel_rfl)
noncomputable def a263 : Option FSpec := rowOf Tryz.prog Tryz.f263
theorem r263 : RowOK Tryz.prog 263 a263 := RowOK.ofFn Tryz.func263 (by kernel_rfl) (by kernel_rfl)
noncomputable def a264 : Option FSpec := rowOf Tryz.prog Tryz.f264
theorem r264 : RowOK Tryz.prog 264 a264 := RowOK.ofFn Tryz.func264 (by kernel_rfl) (by kernel_rfl)
noncomputable def a265 : Option FSpec := rowOf Tryz.prog Tryz.f265
theorem r265 : RowOK Tryz.prog 265 a265 := RowOK.ofFn Tryz.func265 (by kernel_rfl) (by kernel_rfl)
noncomputable def a266 : Option FSpec := rowOf Tryz.prog Tryz.f266
theorem r266 : RowOK Tryz.prog 266 a266 := RowOK.ofFn Tryz.func266 (by kernel_rfl) (by kernel_rfl)
noncomputable def a267 : Option FSpec := rowOf Tryz.prog Tryz.f267
theorem r267 : RowOK Tryz.prog 267 a267 := RowOK.ofFn Tryz.func267 (by kernel_rfl) (by kernel_rfl)
noncomputable def a268 : Option FSpec := rowOf Tryz.prog Tryz.f268
theorem r268 : RowOK Tryz.prog 268 a268 := RowOK.ofFn Tryz.func268 (by kernel_rfl) (by kernel_rfl)
noncomputable def a269 : Option FSpec := rowOf Tryz.prog Tryz.f269
theorem r269 : RowOK Tryz.prog 269 a269 := RowOK.ofFn Tryz.func269 (by kernel_rfl) (by kernel_rfl)
noncomputable def a270 : Option FSpec := rowOf Tryz.prog Tryz.f270
theorem r270 : RowOK Tryz.prog 270 a270 := RowOK.ofFn Tryz.func270 (by kernel_rfl) (by kernel_rfl)
noncomputable def a271 : Option FSpec := rowOf Tryz.prog Tryz.f271
theorem r271 : RowOK Tryz.prog 271 a271 := RowOK.ofFn Tryz.func271 (by kernel_rfl) (by kernel_rfl)
noncomputable def a272 : Option FSpec := rowOf Tryz.prog Tryz.f272
theorem r272 : RowOK Tryz.prog 272 a272 := RowOK.ofFn Tryz.func272 (by kernel_rfl) (by kernel_rfl)
noncomputable def a273 : Option FSpec := rowOf Tryz.prog Tryz.f273
theorem r273 : RowOK Tryz.prog 273 a273 := RowOK.ofFn Tryz.func273 (by kernel_rfl) (by kernel_rfl)
noncomputable def a274 : Option FSpec := rowOf Tryz.prog Tryz.f274
theorem r274 : RowOK Tryz.prog 274 a274 := RowOK.ofFn Tryz.func274 (by kernel_rfl) (by kernel_rfl)
noncomputable def a275 : Option FSpec := rowOf Tryz.prog Tryz.f275
theorem r275 : RowOK Tryz.prog 275 a275 := RowOK.ofFn Tryz.func275 (by kernel_rfl) (by kernel_rfl)
noncomputable def a276 : Option FSpec := rowOf Tryz.prog Tryz.f276
theorem r276 : RowOK Tryz.prog 276 a276 := RowOK.ofFn Tryz.func276 (by kernel_rfl) (by kernel_rfl)
noncomputable def a277 : Option FSpec := rowOf Tryz.prog Tryz.f277
theorem r277 : RowOK Tryz.prog 277 a277 := RowOK.ofFn Tryz.func277 (by kernel_rfl) (by kernel_rfl)
noncomputable def a278 : Option FSpec := rowOf Tryz.prog Tryz.f278
theorem r278 : RowOK Tryz.prog 278 a278 := RowOK.ofFn Tryz.func278 (by kernel_rfl) (by kernel_rfl)
noncomputable def a279 : Option FSpec := rowOf Tryz.prog Tryz.f279
theorem r279 : RowOK Tryz.prog 279 a279 := RowOK.ofFn Tryz.func279 (by kernel_rfl) (by kernel_rfl)
noncomputable def a280 : Option FSpec := some (.told nextO)
theorem r280 : RowOK Tryz.prog 280 a280 := RowOK.ofTold Tryz.func280 (by kernel_rfl) (by kernel_rfl) next_row
noncomputable def a281 : Option FSpec := rowOf Tryz.prog Tryz.f281
theorem r281 : RowOK Tryz.prog 281 a281 := RowOK.ofFn Tryz.func281 (by kernel_rfl) (by kernel_rfl)
noncomputable def a282 : Option FSpec := rowOf Tryz.prog Tryz.f282
theorem r282 : RowOK Tryz.prog 282 a282 := RowOK.ofFn Tryz.func282 (by kernel_rfl) (by kernel_rfl)
noncomputable def a283 : Option FSpec := rowOf Tryz.prog Tryz.f283
theorem r283 : RowOK Tryz.prog 283 a283 := RowOK.ofFn Tryz.func283 (by kernel_rfl) (by kernel_rfl)
noncomputable def a284 : Option FSpec := rowOf Tryz.prog Tryz.f284
theorem r284 : RowOK Tryz.prog 284 a284 := RowOK.ofFn Tryz.func284 (by kernel_rfl) (by kernel_rfl)
noncomputable def a285 : Option FSpec := rowOf Tryz.prog Tryz.f285
theorem r285 : RowOK Tryz.prog 285 a285 := RowOK.ofFn Tryz.func285 (by kernel_rfl) (by kernel_rfl)
noncomputable def a286 : Option FSpec := rowOf Tryz.prog Tryz.f286
theorem r286 : RowOK Tryz.prog 286 a286 := RowOK.ofFn Tryz.func286 (by kernel_rfl) (by kernel_rfl)
noncomputable def a292 : Option FSpec := rowOf Tryz.prog Tryz.f292
theorem r292 : RowOK Tryz.prog 292 a292 := RowOK.ofFn Tryz.func292 (by kernel_rfl) (by kernel_rfl)
noncomputable def a295 : Option FSpec := rowOf Tryz.prog Tryz.f295
theorem r295 : RowOK Tryz.prog 295 a295 := RowOK.ofFn Tryz.func295 (by kernel_rfl) (by kernel_rfl)
noncomputable def a296 : Option FSpec := rowOf Tryz.prog Tryz.f296
theorem r296 : RowOK Tryz.prog 296 a296 := RowOK.ofFn Tryz.func296 (by kernel_rfl) (by kernel_rfl)
noncomputable def a297 : Option FSpec := rowOf Tryz.prog Tryz.f297
theorem r297 : RowOK Tryz.prog 297 a297 := RowOK.ofFn Tryz.func297 (by kernel_rfl) (by kernel_rfl)
noncomputable def a298 : Option FSpec := rowOf Tryz.prog Tryz.f298
theorem r298 : RowOK Tryz.prog 298 a298 := RowOK.ofFn Tryz.func298 (by kernel_rfl) (by kernel_rfl)
noncomputable def a299 : Option FSpec := rowOf Tryz.prog Tryz.f299
theorem r299 : RowOK Tryz.prog 299 a299 := RowOK.ofFn Tryz.func299 (by kernel_rfl) (by kernel_rfl)
noncomputable def a300 : Option FSpec := rowOf Tryz.prog Tryz.f300
theorem r300 : RowOK Tryz.prog 300 a300 := RowOK.ofFn Tryz.func300 (by kernel_rfl) (by kernel_rfl)
noncomputable def a301 : Option FSpec := rowOf Tryz.prog Tryz.f301
theorem r301 : RowOK Tryz.prog 301 a301 := RowOK.ofFn Tryz.func301 (by kernel_rfl) (by kernel_rfl)
noncomputable def a302 : Option FSpec := rowOf Tryz.prog Tryz.f302
theorem r302 : RowOK Tryz.prog 302 a302 := RowOK.ofFn Tryz.func302 (by kernel_rfl) (by kernel_rfl)
noncomputable def a303 : Option FSpec := rowOf Tryz.prog Tryz.f303
theorem r303 : RowOK Tryz.prog 303 a303 := RowOK.ofFn Tryz.func303 (by kernel_rfl) (by kernel_rfl)
noncomputable def a304 : Option FSpec := rowOf Tryz.prog Tryz.f304
theorem r304 : RowOK Tryz.prog 304 a304 := RowOK.ofFn Tryz.func304 (by kernel_rfl) (by kernel_rfl)
noncomputable def a305 : Option FSpec := rowOf Tryz.prog Tryz.f305
theorem r305 : RowOK Tryz.prog 305 a305 := RowOK.ofFn Tryz.func305 (by kernel_rfl) (by kernel_rfl)
noncomputable def a306 : Option FSpec := rowOf Tryz.prog Tryz.f306
theorem r306 : RowOK Tryz.prog 306 a306 := RowOK.ofFn Tryz.func306 (by kernel_rfl) (by kernel_rfl)
noncomputable def a307 : Option FSpec := rowOf Tryz.prog Tryz.f307
theorem r307 : RowOK Tryz.prog 307 a307 := RowOK.ofFn Tryz.func307 (by kernel_rfl) (by kernel_rfl)
noncomputable def a308 : Option FSpec := rowOf Tryz.prog Tryz.f308
theorem r308 : RowOK Tryz.prog 308 a308 := RowOK.ofFn Tryz.func308 (by kernel_rfl) (by kernel_rfl)
noncomputable def a309 : Option FSpec := rowOf Tryz.prog Tryz.f309
theorem r309 : RowOK Tryz.prog 309 a309 := RowOK.ofFn Tryz.func309 (by kernel_rfl) (by kernel_rfl)
noncomputable def a310 : Option FSpec := rowOf Tryz.prog Tryz.f310
theorem r310 : RowOK Tryz.prog 310 a310 := RowOK.ofFn Tryz.func310 (by kernel_rfl) (by kernel_rfl)
noncomputable def a311 : Option FSpec := rowOf Tryz.prog Tryz.f311
theorem r311 : RowOK Tryz.prog 311 a311 := RowOK.ofFn Tryz.func311 (by kernel_rfl) (by kernel_rfl)
noncomputable def a312 : Option FSpec := rowOf Tryz.prog Tryz.f312
theorem r312 : RowOK Tryz.prog 312 a312 := RowOK.ofFn Tryz.func312 (by kernel_rfl) (by kernel_rfl)
noncomputable def a313 : Option FSpec := rowOf Tryz.prog Tryz.f313
theorem r313 : RowOK Tryz.prog 313 a313 := RowOK.ofFn Tryz.func313 (by kernel_rfl) (by kernel_rfl)
noncomputable def a314 : Option FSpec := rowOf Tryz.prog Tryz.f314
theorem r314 : RowOK Tryz.prog 314 a314 := RowOK.ofFn Tryz.func314 (by kernel_rfl) (by kernel_rfl)
noncomputable def a315 : Option FSpec := rowOf Tryz.prog Tryz.f315
theorem r315 : RowOK Tryz.prog 315 a315 := RowOK.ofFn Tryz.func315 (by kernel_rfl) (by kernel_rfl)
noncomputable def a316 : Option FSpec := rowOf Tryz.prog Tryz.f316
theorem r316 : RowOK Tryz.prog 316 a316 := RowOK.ofFn Tryz.func316 (by kernel_rfl) (by kernel_rfl)
noncomputable def a317 : Option FSpec := rowOf Tryz.prog Tryz.f317
theorem r317 : RowOK Tryz.prog 317 a317 := RowOK.ofFn Tryz.func317 (by kernel_rfl) (by kernel_rfl)
noncomputable def a318 : Option FSpec := rowOf Tryz.prog Tryz.f318
theorem r318 : RowOK Tryz.prog 318 a318 := RowOK.ofFn Tryz.func318 (by kernel_rfl) (by kernel_rfl)
noncomputable def a319 : Option FSpec := rowOf Tryz.prog Tryz.f319
theorem r319 : RowOK Tryz.prog 319 a319 := RowOK.ofFn Tryz.func319 (by kernel_rfl) (by kernel_rfl)
noncomputable def a320 : Option FSpec := rowOf Tryz.prog Tryz.f320
theorem r320 : RowOK Tryz.prog 320 a320 := RowOK.ofFn Tryz.func320 (by kernel_rfl) (by kernel_rfl)
noncomputable def a321 : Option FSpec := rowOf Tryz.prog Tryz.f321
theorem r321 : RowOK Tryz.prog 321 a321 := RowOK.ofFn Tryz.func321 (by kernel_rfl) (by kernel_rfl)
noncomputable def a326 : Option FSpec := rowOf Tryz.prog Tryz.f326
theorem r326 : RowOK Tryz.prog 326 a326 := RowOK.ofFn Tryz.func326 (by kernel_rfl) (by kernel_rfl)
noncomputable def a327 : Option FSpec := rowOf Tryz.prog Tryz.f327
theorem r327 : RowOK Tryz.prog 327 a327 := RowOK.ofFn Tryz.func327 (by kernel_rfl) (by kernel_rfl)
noncomputable def a328 : Option FSpec := rowOf Tryz.prog Tryz.f328
theorem r328 : RowOK Tryz.prog 328 a328 := RowOK.ofFn Tryz.func328 (by kernel_rfl) (by kernel_rfl)
noncomputable def a329 : Option FSpec := rowOf Tryz.prog Tryz.f329
theorem r329 : RowOK Tryz.prog 329 a329 := RowOK.ofFn Tryz.func329 (by kernel_rfl) (by kernel_rfl)
noncomputable def a330 : Option FSpec := rowOf Tryz.prog Tryz.f330
theorem r330 : RowOK Tryz.prog 330 a330 := RowOK.ofFn Tryz.func330 (by kernel_rfl) (by kernel_rfl)
noncomputable def a331 : Option FSpec := rowOf Tryz.prog Tryz.f331
theorem r331 : RowOK Tryz.prog 331 a331 := RowOK.ofFn Tryz.func331 (by kernel_rfl) (by kernel_rfl)
noncomputable def a332 : Option FSpec := rowOf Tryz.prog Tryz.f332
theorem r332 : RowOK Tryz.prog 332 a332 := RowOK.ofFn Tryz.func332 (by kernel_rfl) (by kernel_rfl)
noncomputable def a333 : Option FSpec := rowOf Tryz.prog Tryz.f333
theorem r333 : RowOK Tryz.prog 333 a333 := RowOK.ofFn Tryz.func333 (by kernel_rfl) (by kernel_rfl)
noncomputable def a334 : Option FSpec := rowOf Tryz.prog Tryz.f334
theorem r334 : RowOK Tryz.prog 334 a334 := RowOK.ofFn Tryz.func334 (by kernel_rfl) (by kernel_rfl)
noncomputable def a335 : Option FSpec := rowOf Tryz.prog Tryz.f335
theorem r335 : RowOK Tryz.prog 335 a335 := RowOK.ofFn Tryz.func335 (by kernel_rfl) (by kernel_rfl)
noncomputable def a336 : Option FSpec := rowOf Tryz.prog Tryz.f336
theorem r336 : RowOK Tryz.prog 336 a336 := RowOK.ofFn Tryz.func336 (by kernel_rfl) (by kernel_rfl)
noncomputable def a337 : Option FSpec := rowOf Tryz.prog Tryz.f337
theorem r337 : RowOK Tryz.prog 337 a337 := RowOK.ofFn Tryz.func337 (by kernel_rfl) (by kernel_rfl)
noncomputable def a338 : Option FSpec := rowOf Tryz.prog Tryz.f338
theorem r338 : RowOK Tryz.prog 338 a338 := RowOK.ofFn Tryz.func338 (by kernel_rfl) (by kernel_rfl)
noncomputable def a339 : Option FSpec := rowOf Tryz.prog Tryz.f339
theorem r339 : RowOK Tryz.prog 339 a339 := RowOK.ofFn Tryz.func339 (by kernel_rfl) (by kernel_rfl)
noncomputable def a340 : Option FSpec := rowOf Tryz.prog Tryz.f340
theorem r340 : RowOK Tryz.prog 340 a340 := RowOK.ofFn Tryz.func340 (by kernel_rfl) (by kernel_rfl)
noncomputable def a341 : Option FSpec := rowOf Tryz.prog Tryz.f341
theorem r341 : RowOK Tryz.prog 341 a341 := RowOK.ofFn Tryz.func341 (by kernel_rfl) (by kernel_rfl)
noncomputable def a342 : Option FSpec := rowOf Tryz.prog Tryz.f342
theorem r342 : RowOK Tryz.prog 342 a342 := RowOK.ofFn Tryz.func342 (by kernel_rfl) (by kernel_rfl)
noncomputable def a343 : Option FSpec := rowOf Tryz.prog Tryz.f343
theorem r343 : RowOK Tryz.prog 343 a343 := RowOK.ofFn Tryz.func343 (by kernel_rfl) (by kernel_rfl)
noncomputable def a344 : Option FSpec := rowOf Tryz.prog Tryz.f344
theorem r344 : RowOK Tryz.prog 344 a344 := RowOK.ofFn Tryz.func344 (by kernel_rfl) (by kernel_rfl)
noncomputable def a345 : Option FSpec := rowOf Tryz.prog Tryz.f345
theorem r345 : RowOK Tryz.prog 345 a345 := RowOK.ofFn Tryz.func345 (by kernel_rfl) (by kernel_rfl)
noncomputable def a346 : Option FSpec := rowOf Tryz.prog Tryz.f346
theorem r346 : RowOK Tryz.prog 346 a346 := RowOK.ofFn Tryz.func346 (by kernel_rfl) (by kernel_rfl)
noncomputable def a347 : Option FSpec := rowOf Tryz.prog Tryz.f347
theorem r347 : RowOK Tryz.prog 347 a347 := RowOK.ofFn Tryz.func347 (by kernel_rfl) (by kernel_rfl)
noncomputable def a348 : Option FSpec := rowOf Tryz.prog Tryz.f348
theorem r348 : RowOK Tryz.prog 348 a348 := RowOK.ofFn Tryz.func348 (by kernel_rfl) (by kernel_rfl)
noncomputable def a349 : Option FSpec := rowOf Tryz.prog Tryz.f349
theorem r349 : RowOK Tryz.prog 349 a349 := RowOK.ofFn Tryz.func349 (by kernel_rfl) (by kernel_rfl)
noncomputable def a350 : Option FSpec := rowOf Tryz.prog Tryz.f350
theorem r350 : RowOK Tryz.prog 350 a350 := RowOK.ofFn Tryz.func350 (by kernel_rfl) (by kernel_rfl)
noncomputable def a351 : Option FSpec := rowOf Tryz.prog Tryz.f351
theorem r351 : RowOK Tryz.prog 351 a351 := RowOK.ofFn Tryz.func351 (by kernel_rfl) (by kernel_rfl)
noncomputable def a352 : Option FSpec := rowOf Tryz.prog Tryz.f352
theorem r352 : RowOK Tryz.prog 352 a352 := RowOK.ofFn Tryz.func352 (by kernel_rfl) (by kernel_rfl)
noncomputable def a359 : Option FSpec := rowOf Tryz.prog Tryz.f359
theorem r359 : RowOK Tryz.prog 359 a359 := RowOK.ofFn Tryz.func359 (by kernel_rfl) (by kernel_rfl)
noncomputable def a360 : Option FSpec := rowOf Tryz.prog Tryz.f360
theorem r360 : RowOK Tryz.prog 360 a360 := RowOK.ofFn Tryz.func360 (by kernel_rfl) (by kernel_rfl)
noncomputable def a361 : Option FSpec := rowOf Tryz.prog Tryz.f361
theorem r361 : RowOK Tryz.prog 361 a361 := RowOK.ofFn Tryz.func361 (by kernel_rfl) (by kernel_rfl)
noncomputable def a362 : Option FSpec := rowOf Tryz.prog Tryz.f362
theorem r362 : RowOK Tryz.prog 362 a362 := RowOK.ofFn Tryz.func362 (by kernel_rfl) (by kernel_rfl)
noncomputable def a363 : Option FSpec := rowOf Tryz.prog Tryz.f363
theorem r363 : RowOK Tryz.prog 363 a363 := RowOK.ofFn Tryz.func363 (by kernel_rfl) (by kernel_rfl)
noncomputable def a364 : Option FSpec := rowOf Tryz.prog Tryz.f364
theorem r364 : RowOK Tryz.prog 364 a364 := RowOK.ofFn Tryz.func364 (by kernel_rfl) (by kernel_rfl)
noncomputable def a365 : Option FSpec := rowOf Tryz.prog Tryz.f365
theorem r365 : RowOK Tryz.prog 365 a365 := RowOK.ofFn Tryz.func365 (by kernel_rfl) (by kernel_rfl)
noncomputable def a366 : Option FSpec := rowOf Tryz.prog Tryz.f366
theorem r366 : RowOK Tryz.prog 366 a366 := RowOK.ofFn Tryz.func366 (by kernel_rfl) (by kernel_rfl)
noncomputable def a367 : Option FSpec := rowOf Tryz.prog Tryz.f367
theorem r367 : RowOK Tryz.prog 367 a367 := RowOK.ofFn Tryz.func367 (by kernel_rfl) (by kernel_rfl)
noncomputable def a368 : Option FSpec := rowOf Tryz.prog Tryz.f368
theorem r368 : RowOK Tryz.prog 368 a368 := RowOK.ofFn Tryz.func368 (by kernel_rfl) (by kernel_rfl)
noncomputable def a369 : Option FSpec := rowOf Tryz.prog Tryz.f369
theorem r369 : RowOK Tryz.prog 369 a369 := RowOK.ofFn Tryz.func369 (by kernel_rfl) (by kernel_rfl)
noncomputable def a370 : Option FSpec := rowOf Tryz.prog Tryz.f370
theorem r370 : RowOK Tryz.prog 370 a370 := RowOK.ofFn Tryz.func370 (by kernel_rfl) (by kernel_rfl)
noncomputable def a371 : Option FSpec := rowOf Tryz.prog Tryz.f371
theorem r371 : RowOK Tryz.prog 371 a371 := RowOK.ofFn Tryz.func371 (by kernel_rfl) (by kernel_rfl)
noncomputable def a372 : Option FSpec := rowOf Tryz.prog Tryz.f372
theorem r372 : RowOK Tryz.prog 372 a372 := RowOK.ofFn Tryz.func372 (by kernel_rfl) (by kernel_rfl)
noncomputable def a382 : Option FSpec := rowOf Tryz.prog Tryz.f382
theorem r382 : RowOK Tryz.prog 382 a382 := RowOK.ofFn Tryz.func382 (by kernel_rfl) (by kernel_rfl)
noncomputable def a383 : Option FSpec := rowOf Tryz.prog Tryz.f383
theorem r383 : RowOK Tryz.prog 383 a383 := RowOK.ofFn Tryz.func383 (by kernel_rfl) (by kernel_rfl)
noncomputable def a384 : Option FSpec := rowOf Tryz.prog Tryz.f384
theorem r384 : RowOK Tryz.prog 384 a384 := RowOK.ofFn Tryz.func384 (by kernel_rfl) (by kernel_rfl)
noncomputable def a385 : Option FSpec := rowOf Tryz.prog Tryz.f385
theorem r385 : RowOK Tryz.prog 385 a385 := RowOK.ofFn Tryz.func385 (by kernel_rfl) (by kernel_rfl)
noncomputable def a386 : Option FSpec := rowOf Tryz.prog Tryz.f386
theorem r386 : RowOK Tryz.prog 386 a386 := RowOK.ofFn Tryz.func386 (by kernel_rfl) (by kernel_rfl)
noncomputable def a387 : Option FSpec := rowOf Tryz.prog Tryz.f387
theorem r387 : RowOK Tryz.prog 387 a387 := RowOK.ofFn Tryz.func387 (by kernel_rfl) (by kernel_rfl)
noncomputable def a394 : Option FSpec := rowOf Tryz.prog Tryz.f394
theorem r394 : RowOK Tryz.prog 394 a394 := RowOK.ofFn Tryz.func394 (by kernel_rfl) (by kernel_rfl)
noncomputable def a395 : Option FSpec := rowOf Tryz.prog Tryz.f395
theorem r395 : RowOK Tryz.prog 395 a395 := RowOK.ofFn Tryz.func395 (by kernel_rfl) (by kernel_rfl)
noncomputable def a396 : Option FSpec := rowOf Tryz.prog Tryz.f396
theorem r396 : RowOK Tryz.prog 396 a396 := RowOK.ofFn Tryz.func396 (by kernel_rfl) (by kernel_rfl)
noncomputable def a397 : Option FSpec := rowOf Tryz.prog Tryz.f397
theorem r397 : RowOK Tryz.prog 397 a397 := RowOK.ofFn Tryz.func397 (by kernel_rfl) (by kernel_rfl)
noncomputable def a401 : Option FSpec := rowOf Tryz.prog Tryz.f401
theorem r401 : RowOK Tryz.prog 401 a401 := RowOK.ofFn Tryz.func401 (by kernel_rfl) (by kernel_rfl)
noncomputable def a402 : Option FSpec := rowOf Tryz.prog Tryz.f402
theorem r402 : RowOK Tryz.prog 402 a402 := RowOK.ofFn Tryz.func402 (by kernel_rfl) (by kernel_rfl)
noncomputable def a403 : Option FSpec := rowOf Tryz.prog Tryz.f403
theorem r403 : RowOK Tryz.prog 403 a403 := RowOK.ofFn Tryz.func403 (by kernel_rfl) (by kernel_rfl)
noncomputable def a404 : Option FSpec := rowOf Tryz.prog Tryz.f404
theorem r404 : RowOK Tryz.prog 404 a404 := RowOK.ofFn Tryz.func404 (by kernel_rfl) (by kernel_rfl)
noncomputable def a405 : Option FSpec := rowOf Tryz.prog Tryz.f405
theorem r405 : RowOK Tryz.prog 405 a405 := RowOK.ofFn Tryz.func405 (by kernel_rfl) (by kernel_rfl)
noncomputable def a406 : Option FSpec := rowOf Tryz.prog Tryz.f406
theorem r406 : RowOK Tryz.prog 406 a406 := RowOK.ofFn Tryz.func406 (by kernel_rfl) (by kernel_rfl)
noncomputable def a407 : Option FSpec := rowOf Tryz.prog Tryz.f407
theorem r407 : RowOK Tryz.prog 407 a407 := RowOK.ofFn Tryz.func407 (by kernel_rfl) (by kernel_rfl)
noncomputable def a408 : Option FSpec := rowOf Tryz.prog Tryz.f408
theorem r408 : RowOK Tryz.prog 408 a408 := RowOK.ofFn Tryz.func408 (by kernel_rfl) (by kernel_rfl)
noncomputable def a409 : Option FSpec := rowOf Tryz.prog Tryz.f409
theorem r409 : RowOK Tryz.prog 409 a409 := RowOK.ofFn Tryz.func409 (by kernel_rfl) (by kernel_rfl)
noncomputable def a410 : Option FSpec := rowOf Tryz.prog Tryz.f410
theorem r410 : RowOK Tryz.prog 410 a410 := RowOK.ofFn Tryz.func410 (by kernel_rfl) (by kernel_rfl)
noncomputable def t11 : FuncId → Option FSpec := fun f => bif Nat.beq f 11 then a11 else none
theorem g11 : TabG Tryz.prog t11 := TabG.leaf r11
noncomputable def t12 : FuncId → Option FSpec := fun f => bif Nat.beq f 12 then a12 else none
theorem g12 : TabG Tryz.prog t12 := TabG.leaf r12
noncomputable def n1 : FuncId → Option FSpec := fun f => bif Nat.blt f 12 then t11 f else t12 f
theorem h1 : TabG Tryz.prog n1 := TabG.node g11 g12
noncomputable def t13 : FuncId → Option FSpec := fun f => bif Nat.beq f 13 then a13 else none
theorem g13 : TabG Tryz.prog t13 := TabG.leaf r13
noncomputable def t14 : FuncId → Option FSpec := fun f => bif Nat.beq f 14 then a14 else none
theorem g14 : TabG Tryz.prog t14 := TabG.leaf r14
noncomputable def n2 : FuncId → Option FSpec := fun f => bif Nat.blt f 14 then t13 f else t14 f
theorem h2 : TabG Tryz.prog n2 := TabG.node g13 g14
noncomputable def n3 : FuncId → Option FSpec := fun f => bif Nat.blt f 13 then n1 f else n2 f
theorem h3 : TabG Tryz.prog n3 := TabG.node h1 h2
noncomputable def t15 : FuncId → Option FSpec := fun f => bif Nat.beq f 15 then a15 else none
theorem g15 : TabG Tryz.prog t15 := TabG.leaf r15
noncomputable def t16 : FuncId → Option FSpec := fun f => bif Nat.beq f 16 then a16 else none
theorem g16 : TabG Tryz.prog t16 := TabG.leaf r16
noncomputable def n4 : FuncId → Option FSpec := fun f => bif Nat.blt f 16 then t15 f else t16 f
theorem h4 : TabG Tryz.prog n4 := TabG.node g15 g16
noncomputable def t17 : FuncId → Option FSpec := fun f => bif Nat.beq f 17 then a17 else none
theorem g17 : TabG Tryz.prog t17 := TabG.leaf r17
noncomputable def t18 : FuncId → Option FSpec := fun f => bif Nat.beq f 18 then a18 else none
theorem g18 : TabG Tryz.prog t18 := TabG.leaf r18
noncomputable def n5 : FuncId → Option FSpec := fun f => bif Nat.blt f 18 then t17 f else t18 f
theorem h5 : TabG Tryz.prog n5 := TabG.node g17 g18
noncomputable def n6 : FuncId → Option FSpec := fun f => bif Nat.blt f 17 then n4 f else n5 f
theorem h6 : TabG Tryz.prog n6 := TabG.node h4 h5
noncomputable def n7 : FuncId → Option FSpec := fun f => bif Nat.blt f 15 then n3 f else n6 f
theorem h7 : TabG Tryz.prog n7 := TabG.node h3 h6
noncomputable def t19 : FuncId → Option FSpec := fun f => bif Nat.beq f 19 then a19 else none
theorem g19 : TabG Tryz.prog t19 := TabG.leaf r19
noncomputable def t20 : FuncId → Option FSpec := fun f => bif Nat.beq f 20 then a20 else none
theorem g20 : TabG Tryz.prog t20 := TabG.leaf r20
noncomputable def n8 : FuncId → Option FSpec := fun f => bif Nat.blt f 20 then t19 f else t20 f
theorem h8 : TabG Tryz.prog n8 := TabG.node g19 g20
noncomputable def t21 : FuncId → Option FSpec := fun f => bif Nat.beq f 21 then a21 else none
theorem g21 : TabG Tryz.prog t21 := TabG.leaf r21
noncomputable def t22 : FuncId → Option FSpec := fun f => bif Nat.beq f 22 then a22 else none
theorem g22 : TabG Tryz.prog t22 := TabG.leaf r22
noncomputable def n9 : FuncId → Option FSpec := fun f => bif Nat.blt f 22 then t21 f else t22 f
theorem h9 : TabG Tryz.prog n9 := TabG.node g21 g22
noncomputable def n10 : FuncId → Option FSpec := fun f => bif Nat.blt f 21 then n8 f else n9 f
theorem h10 : TabG Tryz.prog n10 := TabG.node h8 h9
noncomputable def t24 : FuncId → Option FSpec := fun f => bif Nat.beq f 24 then a24 else none
theorem g24 : TabG Tryz.prog t24 := TabG.leaf r24
noncomputable def t25 : FuncId → Option FSpec := fun f => bif Nat.beq f 25 then a25 else none
theorem g25 : TabG Tryz.prog t25 := TabG.leaf r25
noncomputable def n11 : FuncId → Option FSpec := fun f => bif Nat.blt f 25 then t24 f else t25 f
theorem h11 : TabG Tryz.prog n11 := TabG.node g24 g25
noncomputable def t28 : FuncId → Option FSpec := fun f => bif Nat.beq f 28 then a28 else none
theorem g28 : TabG Tryz.prog t28 := TabG.leaf r28
noncomputable def t30 : FuncId → Option FSpec := fun f => bif Nat.beq f 30 then a30 else none
theorem g30 : TabG Tryz.prog t30 := TabG.leaf r30
noncomputable def t31 : FuncId → Option FSpec := fun f => bif Nat.beq f 31 then a31 else none
theorem g31 : TabG Tryz.prog t31 := TabG.leaf r31
noncomputable def n12 : FuncId → Option FSpec := fun f => bif Nat.blt f 31 then t30 f else t31 f
theorem h12 : TabG Tryz.prog n12 := TabG.node g30 g31
noncomputable def n13 : FuncId → Option FSpec := fun f => bif Nat.blt f 30 then t28 f else n12 f
theorem h13 : TabG Tryz.prog n13 := TabG.node g28 h12
noncomputable def n14 : FuncId → Option FSpec := fun f => bif Nat.blt f 28 then n11 f else n13 f
theorem h14 : TabG Tryz.prog n14 := TabG.node h11 h13
noncomputable def n15 : FuncId → Option FSpec := fun f => bif Nat.blt f 24 then n10 f else n14 f
theorem h15 : TabG Tryz.prog n15 := TabG.node h10 h14
noncomputable def n16 : FuncId → Option FSpec := fun f => bif Nat.blt f 19 then n7 f else n15 f
theorem h16 : TabG Tryz.prog n16 := TabG.node h7 h15
noncomputable def t36 : FuncId → Option FSpec := fun f => bif Nat.beq f 36 then a36 else none
theorem g36 : TabG Tryz.prog t36 := TabG.leaf r36
noncomputable def t37 : FuncId → Option FSpec := fun f => bif Nat.beq f 37 then a37 else none
theorem g37 : TabG Tryz.prog t37 := TabG.leaf r37
noncomputable def n17 : FuncId → Option FSpec := fun f => bif Nat.blt f 37 then t36 f else t37 f
theorem h17 : TabG Tryz.prog n17 := TabG.node g36 g37
noncomputable def t47 : FuncId → Option FSpec := fun f => bif Nat.beq f 47 then a47 else none
theorem g47 : TabG Tryz.prog t47 := TabG.leaf r47
noncomputable def t50 : FuncId → Option FSpec := fun f => bif Nat.beq f 50 then a50 else none
theorem g50 : TabG Tryz.prog t50 := TabG.leaf r50
noncomputable def n18 : FuncId → Option FSpec := fun f => bif Nat.blt f 50 then t47 f else t50 f
theorem h18 : TabG Tryz.prog n18 := TabG.node g47 g50
noncomputable def n19 : FuncId → Option FSpec := fun f => bif Nat.blt f 47 then n17 f else n18 f
theorem h19 : TabG Tryz.prog n19 := TabG.node h17 h18
noncomputable def t54 : FuncId → Option FSpec := fun f => bif Nat.beq f 54 then a54 else none
theorem g54 : TabG Tryz.prog t54 := TabG.leaf r54
noncomputable def t55 : FuncId → Option FSpec := fun f => bif Nat.beq f 55 then a55 else none
theorem g55 : TabG Tryz.prog t55 := TabG.leaf r55
noncomputable def n20 : FuncId → Option FSpec := fun f => bif Nat.blt f 55 then t54 f else t55 f
theorem h20 : TabG Tryz.prog n20 := TabG.node g54 g55
noncomputable def t56 : FuncId → Option FSpec := fun f => bif Nat.beq f 56 then a56 else none
theorem g56 : TabG Tryz.prog t56 := TabG.leaf r56
noncomputable def t57 : FuncId → Option FSpec := fun f => bif Nat.beq f 57 then a57 else none
theorem g57 : TabG Tryz.prog t57 := TabG.leaf r57
noncomputable def t58 : FuncId → Option FSpec := fun f => bif Nat.beq f 58 then a58 else none
theorem g58 : TabG Tryz.prog t58 := TabG.leaf r58
noncomputable def n21 : FuncId → Option FSpec := fun f => bif Nat.blt f 58 then t57 f else t58 f
theorem h21 : TabG Tryz.prog n21 := TabG.node g57 g58
noncomputable def n22 : FuncId → Option FSpec := fun f => bif Nat.blt f 57 then t56 f else n21 f
theorem h22 : TabG Tryz.prog n22 := TabG.node g56 h21
noncomputable def n23 : FuncId → Option FSpec := fun f => bif Nat.blt f 56 then n20 f else n22 f
theorem h23 : TabG Tryz.prog n23 := TabG.node h20 h22
noncomputable def n24 : FuncId → Option FSpec := fun f => bif Nat.blt f 54 then n19 f else n23 f
theorem h24 : TabG Tryz.prog n24 := TabG.node h19 h23
noncomputable def t59 : FuncId → Option FSpec := fun f => bif Nat.beq f 59 then a59 else none
theorem g59 : TabG Tryz.prog t59 := TabG.leaf r59
noncomputable def t60 : FuncId → Option FSpec := fun f => bif Nat.beq f 60 then a60 else none
theorem g60 : TabG Tryz.prog t60 := TabG.leaf r60
noncomputable def n25 : FuncId → Option FSpec := fun f => bif Nat.blt f 60 then t59 f else t60 f
theorem h25 : TabG Tryz.prog n25 := TabG.node g59 g60
noncomputable def t61 : FuncId → Option FSpec := fun f => bif Nat.beq f 61 then a61 else none
theorem g61 : TabG Tryz.prog t61 := TabG.leaf r61
noncomputable def t62 : FuncId → Option FSpec := fun f => bif Nat.beq f 62 then a62 else none
theorem g62 : TabG Tryz.prog t62 := TabG.leaf r62
noncomputable def n26 : FuncId → Option FSpec := fun f => bif Nat.blt f 62 then t61 f else t62 f
theorem h26 : TabG Tryz.prog n26 := TabG.node g61 g62
noncomputable def n27 : FuncId → Option FSpec := fun f => bif Nat.blt f 61 then n25 f else n26 f
theorem h27 : TabG Tryz.prog n27 := TabG.node h25 h26
noncomputable def t63 : FuncId → Option FSpec := fun f => bif Nat.beq f 63 then a63 else none
theorem g63 : TabG Tryz.prog t63 := TabG.leaf r63
noncomputable def t64 : FuncId → Option FSpec := fun f => bif Nat.beq f 64 then a64 else none
theorem g64 : TabG Tryz.prog t64 := TabG.leaf r64
noncomputable def n28 : FuncId → Option FSpec := fun f => bif Nat.blt f 64 then t63 f else t64 f
theorem h28 : TabG Tryz.prog n28 := TabG.node g63 g64
noncomputable def t65 : FuncId → Option FSpec := fun f => bif Nat.beq f 65 then a65 else none
theorem g65 : TabG Tryz.prog t65 := TabG.leaf r65
noncomputable def t66 : FuncId → Option FSpec := fun f => bif Nat.beq f 66 then a66 else none
theorem g66 : TabG Tryz.prog t66 := TabG.leaf r66
noncomputable def t67 : FuncId → Option FSpec := fun f => bif Nat.beq f 67 then a67 else none
theorem g67 : TabG Tryz.prog t67 := TabG.leaf r67
noncomputable def n29 : FuncId → Option FSpec := fun f => bif Nat.blt f 67 then t66 f else t67 f
theorem h29 : TabG Tryz.prog n29 := TabG.node g66 g67
noncomputable def n30 : FuncId → Option FSpec := fun f => bif Nat.blt f 66 then t65 f else n29 f
theorem h30 : TabG Tryz.prog n30 := TabG.node g65 h29
noncomputable def n31 : FuncId → Option FSpec := fun f => bif Nat.blt f 65 then n28 f else n30 f
theorem h31 : TabG Tryz.prog n31 := TabG.node h28 h30
noncomputable def n32 : FuncId → Option FSpec := fun f => bif Nat.blt f 63 then n27 f else n31 f
theorem h32 : TabG Tryz.prog n32 := TabG.node h27 h31
noncomputable def n33 : FuncId → Option FSpec := fun f => bif Nat.blt f 59 then n24 f else n32 f
theorem h33 : TabG Tryz.prog n33 := TabG.node h24 h32
noncomputable def n34 : FuncId → Option FSpec := fun f => bif Nat.blt f 36 then n16 f else n33 f
theorem h34 : TabG Tryz.prog n34 := TabG.node h16 h33
noncomputable def t68 : FuncId → Option FSpec := fun f => bif Nat.beq f 68 then a68 else none
theorem g68 : TabG Tryz.prog t68 := TabG.leaf r68
noncomputable def t69 : FuncId → Option FSpec := fun f => bif Nat.beq f 69 then a69 else none
theorem g69 : TabG Tryz.prog t69 := TabG.leaf r69
noncomputable def n35 : FuncId → Option FSpec := fun f => bif Nat.blt f 69 then t68 f else t69 f
theorem h35 : TabG Tryz.prog n35 := TabG.node g68 g69
noncomputable def t70 : FuncId → Option FSpec := fun f => bif Nat.beq f 70 then a70 else none
theorem g70 : TabG Tryz.prog t70 := TabG.leaf r70
noncomputable def t71 : FuncId → Option FSpec := fun f => bif Nat.beq f 71 then a71 else none
theorem g71 : TabG Tryz.prog t71 := TabG.leaf r71
noncomputable def n36 : FuncId → Option FSpec := fun f => bif Nat.blt f 71 then t70 f else t71 f
theorem h36 : TabG Tryz.prog n36 := TabG.node g70 g71
noncomputable def n37 : FuncId → Option FSpec := fun f => bif Nat.blt f 70 then n35 f else n36 f
theorem h37 : TabG Tryz.prog n37 := TabG.node h35 h36
noncomputable def t72 : FuncId → Option FSpec := fun f => bif Nat.beq f 72 then a72 else none
theorem g72 : TabG Tryz.prog t72 := TabG.leaf r72
noncomputable def t73 : FuncId → Option FSpec := fun f => bif Nat.beq f 73 then a73 else none
theorem g73 : TabG Tryz.prog t73 := TabG.leaf r73
noncomputable def n38 : FuncId → Option FSpec := fun f => bif Nat.blt f 73 then t72 f else t73 f
theorem h38 : TabG Tryz.prog n38 := TabG.node g72 g73
noncomputable def t74 : FuncId → Option FSpec := fun f => bif Nat.beq f 74 then a74 else none
theorem g74 : TabG Tryz.prog t74 := TabG.leaf r74
noncomputable def t75 : FuncId → Option FSpec := fun f => bif Nat.beq f 75 then a75 else none
theorem g75 : TabG Tryz.prog t75 := TabG.leaf r75
noncomputable def n39 : FuncId → Option FSpec := fun f => bif Nat.blt f 75 then t74 f else t75 f
theorem h39 : TabG Tryz.prog n39 := TabG.node g74 g75
noncomputable def n40 : FuncId → Option FSpec := fun f => bif Nat.blt f 74 then n38 f else n39 f
theorem h40 : TabG Tryz.prog n40 := TabG.node h38 h39
noncomputable def n41 : FuncId → Option FSpec := fun f => bif Nat.blt f 72 then n37 f else n40 f
theorem h41 : TabG Tryz.prog n41 := TabG.node h37 h40
noncomputable def t76 : FuncId → Option FSpec := fun f => bif Nat.beq f 76 then a76 else none
theorem g76 : TabG Tryz.prog t76 := TabG.leaf r76
noncomputable def t77 : FuncId → Option FSpec := fun f => bif Nat.beq f 77 then a77 else none
theorem g77 : TabG Tryz.prog t77 := TabG.leaf r77
noncomputable def n42 : FuncId → Option FSpec := fun f => bif Nat.blt f 77 then t76 f else t77 f
theorem h42 : TabG Tryz.prog n42 := TabG.node g76 g77
noncomputable def t78 : FuncId → Option FSpec := fun f => bif Nat.beq f 78 then a78 else none
theorem g78 : TabG Tryz.prog t78 := TabG.leaf r78
noncomputable def t79 : FuncId → Option FSpec := fun f => bif Nat.beq f 79 then a79 else none
theorem g79 : TabG Tryz.prog t79 := TabG.leaf r79
noncomputable def n43 : FuncId → Option FSpec := fun f => bif Nat.blt f 79 then t78 f else t79 f
theorem h43 : TabG Tryz.prog n43 := TabG.node g78 g79
noncomputable def n44 : FuncId → Option FSpec := fun f => bif Nat.blt f 78 then n42 f else n43 f
theorem h44 : TabG Tryz.prog n44 := TabG.node h42 h43
noncomputable def t80 : FuncId → Option FSpec := fun f => bif Nat.beq f 80 then a80 else none
theorem g80 : TabG Tryz.prog t80 := TabG.leaf r80
noncomputable def t81 : FuncId → Option FSpec := fun f => bif Nat.beq f 81 then a81 else none
theorem g81 : TabG Tryz.prog t81 := TabG.leaf r81
noncomputable def n45 : FuncId → Option FSpec := fun f => bif Nat.blt f 81 then t80 f else t81 f
theorem h45 : TabG Tryz.prog n45 := TabG.node g80 g81
noncomputable def t82 : FuncId → Option FSpec := fun f => bif Nat.beq f 82 then a82 else none
theorem g82 : TabG Tryz.prog t82 := TabG.leaf r82
noncomputable def t83 : FuncId → Option FSpec := fun f => bif Nat.beq f 83 then a83 else none
theorem g83 : TabG Tryz.prog t83 := TabG.leaf r83
noncomputable def t84 : FuncId → Option FSpec := fun f => bif Nat.beq f 84 then a84 else none
theorem g84 : TabG Tryz.prog t84 := TabG.leaf r84
noncomputable def n46 : FuncId → Option FSpec := fun f => bif Nat.blt f 84 then t83 f else t84 f
theorem h46 : TabG Tryz.prog n46 := TabG.node g83 g84
noncomputable def n47 : FuncId → Option FSpec := fun f => bif Nat.blt f 83 then t82 f else n46 f
theorem h47 : TabG Tryz.prog n47 := TabG.node g82 h46
noncomputable def n48 : FuncId → Option FSpec := fun f => bif Nat.blt f 82 then n45 f else n47 f
theorem h48 : TabG Tryz.prog n48 := TabG.node h45 h47
noncomputable def n49 : FuncId → Option FSpec := fun f => bif Nat.blt f 80 then n44 f else n48 f
theorem h49 : TabG Tryz.prog n49 := TabG.node h44 h48
noncomputable def n50 : FuncId → Option FSpec := fun f => bif Nat.blt f 76 then n41 f else n49 f
theorem h50 : TabG Tryz.prog n50 := TabG.node h41 h49
noncomputable def t85 : FuncId → Option FSpec := fun f => bif Nat.beq f 85 then a85 else none
theorem g85 : TabG Tryz.prog t85 := TabG.leaf r85
noncomputable def t86 : FuncId → Option FSpec := fun f => bif Nat.beq f 86 then a86 else none
theorem g86 : TabG Tryz.prog t86 := TabG.leaf r86
noncomputable def n51 : FuncId → Option FSpec := fun f => bif Nat.blt f 86 then t85 f else t86 f
theorem h51 : TabG Tryz.prog n51 := TabG.node g85 g86
noncomputable def t87 : FuncId → Option FSpec := fun f => bif Nat.beq f 87 then a87 else none
theorem g87 : TabG Tryz.prog t87 := TabG.leaf r87
noncomputable def t88 : FuncId → Option FSpec := fun f => bif Nat.beq f 88 then a88 else none
theorem g88 : TabG Tryz.prog t88 := TabG.leaf r88
noncomputable def n52 : FuncId → Option FSpec := fun f => bif Nat.blt f 88 then t87 f else t88 f
theorem h52 : TabG Tryz.prog n52 := TabG.node g87 g88
noncomputable def n53 : FuncId → Option FSpec := fun f => bif Nat.blt f 87 then n51 f else n52 f
theorem h53 : TabG Tryz.prog n53 := TabG.node h51 h52
noncomputable def t90 : FuncId → Option FSpec := fun f => bif Nat.beq f 90 then a90 else none
theorem g90 : TabG Tryz.prog t90 := TabG.leaf r90
noncomputable def t92 : FuncId → Option FSpec := fun f => bif Nat.beq f 92 then a92 else none
theorem g92 : TabG Tryz.prog t92 := TabG.leaf r92
noncomputable def n54 : FuncId → Option FSpec := fun f => bif Nat.blt f 92 then t90 f else t92 f
theorem h54 : TabG Tryz.prog n54 := TabG.node g90 g92
noncomputable def t93 : FuncId → Option FSpec := fun f => bif Nat.beq f 93 then a93 else none
theorem g93 : TabG Tryz.prog t93 := TabG.leaf r93
noncomputable def t95 : FuncId → Option FSpec := fun f => bif Nat.beq f 95 then a95 else none
theorem g95 : TabG Tryz.prog t95 := TabG.leaf r95
noncomputable def t119 : FuncId → Option FSpec := fun f => bif Nat.beq f 119 then a119 else none
theorem g119 : TabG Tryz.prog t119 := TabG.leaf r119
noncomputable def n55 : FuncId → Option FSpec := fun f => bif Nat.blt f 119 then t95 f else t119 f
theorem h55 : TabG Tryz.prog n55 := TabG.node g95 g119
noncomputable def n56 : FuncId → Option FSpec := fun f => bif Nat.blt f 95 then t93 f else n55 f
theorem h56 : TabG Tryz.prog n56 := TabG.node g93 h55
noncomputable def n57 : FuncId → Option FSpec := fun f => bif Nat.blt f 93 then n54 f else n56 f
theorem h57 : TabG Tryz.prog n57 := TabG.node h54 h56
noncomputable def n58 : FuncId → Option FSpec := fun f => bif Nat.blt f 90 then n53 f else n57 f
theorem h58 : TabG Tryz.prog n58 := TabG.node h53 h57
noncomputable def t123 : FuncId → Option FSpec := fun f => bif Nat.beq f 123 then a123 else none
theorem g123 : TabG Tryz.prog t123 := TabG.leaf r123
noncomputable def t124 : FuncId → Option FSpec := fun f => bif Nat.beq f 124 then a124 else none
theorem g124 : TabG Tryz.prog t124 := TabG.leaf r124
noncomputable def n59 : FuncId → Option FSpec := fun f => bif Nat.blt f 124 then t123 f else t124 f
theorem h59 : TabG Tryz.prog n59 := TabG.node g123 g124
noncomputable def t126 : FuncId → Option FSpec := fun f => bif Nat.beq f 126 then a126 else none
theorem g126 : TabG Tryz.prog t126 := TabG.leaf r126
noncomputable def t130 : FuncId → Option FSpec := fun f => bif Nat.beq f 130 then a130 else none
theorem g130 : TabG Tryz.prog t130 := TabG.leaf r130
noncomputable def n60 : FuncId → Option FSpec := fun f => bif Nat.blt f 130 then t126 f else t130 f
theorem h60 : TabG Tryz.prog n60 := TabG.node g126 g130
noncomputable def n61 : FuncId → Option FSpec := fun f => bif Nat.blt f 126 then n59 f else n60 f
theorem h61 : TabG Tryz.prog n61 := TabG.node h59 h60
noncomputable def t131 : FuncId → Option FSpec := fun f => bif Nat.beq f 131 then a131 else none
theorem g131 : TabG Tryz.prog t131 := TabG.leaf r131
noncomputable def t132 : FuncId → Option FSpec := fun f => bif Nat.beq f 132 then a132 else none
theorem g132 : TabG Tryz.prog t132 := TabG.leaf r132
noncomputable def n62 : FuncId → Option FSpec := fun f => bif Nat.blt f 132 then t131 f else t132 f
theorem h62 : TabG Tryz.prog n62 := TabG.node g131 g132
noncomputable def t133 : FuncId → Option FSpec := fun f => bif Nat.beq f 133 then a133 else none
theorem g133 : TabG Tryz.prog t133 := TabG.leaf r133
noncomputable def t134 : FuncId → Option FSpec := fun f => bif Nat.beq f 134 then a134 else none
theorem g134 : TabG Tryz.prog t134 := TabG.leaf r134
noncomputable def t135 : FuncId → Option FSpec := fun f => bif Nat.beq f 135 then a135 else none
theorem g135 : TabG Tryz.prog t135 := TabG.leaf r135
noncomputable def n63 : FuncId → Option FSpec := fun f => bif Nat.blt f 135 then t134 f else t135 f
theorem h63 : TabG Tryz.prog n63 := TabG.node g134 g135
noncomputable def n64 : FuncId → Option FSpec := fun f => bif Nat.blt f 134 then t133 f else n63 f
theorem h64 : TabG Tryz.prog n64 := TabG.node g133 h63
noncomputable def n65 : FuncId → Option FSpec := fun f => bif Nat.blt f 133 then n62 f else n64 f
theorem h65 : TabG Tryz.prog n65 := TabG.node h62 h64
noncomputable def n66 : FuncId → Option FSpec := fun f => bif Nat.blt f 131 then n61 f else n65 f
theorem h66 : TabG Tryz.prog n66 := TabG.node h61 h65
noncomputable def n67 : FuncId → Option FSpec := fun f => bif Nat.blt f 123 then n58 f else n66 f
theorem h67 : TabG Tryz.prog n67 := TabG.node h58 h66
noncomputable def n68 : FuncId → Option FSpec := fun f => bif Nat.blt f 85 then n50 f else n67 f
theorem h68 : TabG Tryz.prog n68 := TabG.node h50 h67
noncomputable def n69 : FuncId → Option FSpec := fun f => bif Nat.blt f 68 then n34 f else n68 f
theorem h69 : TabG Tryz.prog n69 := TabG.node h34 h68
noncomputable def t136 : FuncId → Option FSpec := fun f => bif Nat.beq f 136 then a136 else none
theorem g136 : TabG Tryz.prog t136 := TabG.leaf r136
noncomputable def t137 : FuncId → Option FSpec := fun f => bif Nat.beq f 137 then a137 else none
theorem g137 : TabG Tryz.prog t137 := TabG.leaf r137
noncomputable def n70 : FuncId → Option FSpec := fun f => bif Nat.blt f 137 then t136 f else t137 f
theorem h70 : TabG Tryz.prog n70 := TabG.node g136 g137
noncomputable def t138 : FuncId → Option FSpec := fun f => bif Nat.beq f 138 then a138 else none
theorem g138 : TabG Tryz.prog t138 := TabG.leaf r138
noncomputable def t139 : FuncId → Option FSpec := fun f => bif Nat.beq f 139 then a139 else none
theorem g139 : TabG Tryz.prog t139 := TabG.leaf r139
noncomputable def n71 : FuncId → Option FSpec := fun f => bif Nat.blt f 139 then t138 f else t139 f
theorem h71 : TabG Tryz.prog n71 := TabG.node g138 g139
noncomputable def n72 : FuncId → Option FSpec := fun f => bif Nat.blt f 138 then n70 f else n71 f
theorem h72 : TabG Tryz.prog n72 := TabG.node h70 h71
noncomputable def t140 : FuncId → Option FSpec := fun f => bif Nat.beq f 140 then a140 else none
theorem g140 : TabG Tryz.prog t140 := TabG.leaf r140
noncomputable def t141 : FuncId → Option FSpec := fun f => bif Nat.beq f 141 then a141 else none
theorem g141 : TabG Tryz.prog t141 := TabG.leaf r141
noncomputable def n73 : FuncId → Option FSpec := fun f => bif Nat.blt f 141 then t140 f else t141 f
theorem h73 : TabG Tryz.prog n73 := TabG.node g140 g141
noncomputable def t142 : FuncId → Option FSpec := fun f => bif Nat.beq f 142 then a142 else none
theorem g142 : TabG Tryz.prog t142 := TabG.leaf r142
noncomputable def t143 : FuncId → Option FSpec := fun f => bif Nat.beq f 143 then a143 else none
theorem g143 : TabG Tryz.prog t143 := TabG.leaf r143
noncomputable def n74 : FuncId → Option FSpec := fun f => bif Nat.blt f 143 then t142 f else t143 f
theorem h74 : TabG Tryz.prog n74 := TabG.node g142 g143
noncomputable def n75 : FuncId → Option FSpec := fun f => bif Nat.blt f 142 then n73 f else n74 f
theorem h75 : TabG Tryz.prog n75 := TabG.node h73 h74
noncomputable def n76 : FuncId → Option FSpec := fun f => bif Nat.blt f 140 then n72 f else n75 f
theorem h76 : TabG Tryz.prog n76 := TabG.node h72 h75
noncomputable def t144 : FuncId → Option FSpec := fun f => bif Nat.beq f 144 then a144 else none
theorem g144 : TabG Tryz.prog t144 := TabG.leaf r144
noncomputable def t145 : FuncId → Option FSpec := fun f => bif Nat.beq f 145 then a145 else none
theorem g145 : TabG Tryz.prog t145 := TabG.leaf r145
noncomputable def n77 : FuncId → Option FSpec := fun f => bif Nat.blt f 145 then t144 f else t145 f
theorem h77 : TabG Tryz.prog n77 := TabG.node g144 g145
noncomputable def t146 : FuncId → Option FSpec := fun f => bif Nat.beq f 146 then a146 else none
theorem g146 : TabG Tryz.prog t146 := TabG.leaf r146
noncomputable def t147 : FuncId → Option FSpec := fun f => bif Nat.beq f 147 then a147 else none
theorem g147 : TabG Tryz.prog t147 := TabG.leaf r147
noncomputable def n78 : FuncId → Option FSpec := fun f => bif Nat.blt f 147 then t146 f else t147 f
theorem h78 : TabG Tryz.prog n78 := TabG.node g146 g147
noncomputable def n79 : FuncId → Option FSpec := fun f => bif Nat.blt f 146 then n77 f else n78 f
theorem h79 : TabG Tryz.prog n79 := TabG.node h77 h78
noncomputable def t148 : FuncId → Option FSpec := fun f => bif Nat.beq f 148 then a148 else none
theorem g148 : TabG Tryz.prog t148 := TabG.leaf r148
noncomputable def t149 : FuncId → Option FSpec := fun f => bif Nat.beq f 149 then a149 else none
theorem g149 : TabG Tryz.prog t149 := TabG.leaf r149
noncomputable def n80 : FuncId → Option FSpec := fun f => bif Nat.blt f 149 then t148 f else t149 f
theorem h80 : TabG Tryz.prog n80 := TabG.node g148 g149
noncomputable def t150 : FuncId → Option FSpec := fun f => bif Nat.beq f 150 then a150 else none
theorem g150 : TabG Tryz.prog t150 := TabG.leaf r150
noncomputable def t151 : FuncId → Option FSpec := fun f => bif Nat.beq f 151 then a151 else none
theorem g151 : TabG Tryz.prog t151 := TabG.leaf r151
noncomputable def t152 : FuncId → Option FSpec := fun f => bif Nat.beq f 152 then a152 else none
theorem g152 : TabG Tryz.prog t152 := TabG.leaf r152
noncomputable def n81 : FuncId → Option FSpec := fun f => bif Nat.blt f 152 then t151 f else t152 f
theorem h81 : TabG Tryz.prog n81 := TabG.node g151 g152
noncomputable def n82 : FuncId → Option FSpec := fun f => bif Nat.blt f 151 then t150 f else n81 f
theorem h82 : TabG Tryz.prog n82 := TabG.node g150 h81
noncomputable def n83 : FuncId → Option FSpec := fun f => bif Nat.blt f 150 then n80 f else n82 f
theorem h83 : TabG Tryz.prog n83 := TabG.node h80 h82
noncomputable def n84 : FuncId → Option FSpec := fun f => bif Nat.blt f 148 then n79 f else n83 f
theorem h84 : TabG Tryz.prog n84 := TabG.node h79 h83
noncomputable def n85 : FuncId → Option FSpec := fun f => bif Nat.blt f 144 then n76 f else n84 f
theorem h85 : TabG Tryz.prog n85 := TabG.node h76 h84
noncomputable def t153 : FuncId → Option FSpec := fun f => bif Nat.beq f 153 then a153 else none
theorem g153 : TabG Tryz.prog t153 := TabG.leaf r153
noncomputable def t154 : FuncId → Option FSpec := fun f => bif Nat.beq f 154 then a154 else none
theorem g154 : TabG Tryz.prog t154 := TabG.leaf r154
noncomputable def n86 : FuncId → Option FSpec := fun f => bif Nat.blt f 154 then t153 f else t154 f
theorem h86 : TabG Tryz.prog n86 := TabG.node g153 g154
noncomputable def t155 : FuncId → Option FSpec := fun f => bif Nat.beq f 155 then a155 else none
theorem g155 : TabG Tryz.prog t155 := TabG.leaf r155
noncomputable def t156 : FuncId → Option FSpec := fun f => bif Nat.beq f 156 then a156 else none
theorem g156 : TabG Tryz.prog t156 := TabG.leaf r156
noncomputable def n87 : FuncId → Option FSpec := fun f => bif Nat.blt f 156 then t155 f else t156 f
theorem h87 : TabG Tryz.prog n87 := TabG.node g155 g156
noncomputable def n88 : FuncId → Option FSpec := fun f => bif Nat.blt f 155 then n86 f else n87 f
theorem h88 : TabG Tryz.prog n88 := TabG.node h86 h87
noncomputable def t157 : FuncId → Option FSpec := fun f => bif Nat.beq f 157 then a157 else none
theorem g157 : TabG Tryz.prog t157 := TabG.leaf r157
noncomputable def t158 : FuncId → Option FSpec := fun f => bif Nat.beq f 158 then a158 else none
theorem g158 : TabG Tryz.prog t158 := TabG.leaf r158
noncomputable def n89 : FuncId → Option FSpec := fun f => bif Nat.blt f 158 then t157 f else t158 f
theorem h89 : TabG Tryz.prog n89 := TabG.node g157 g158
noncomputable def t159 : FuncId → Option FSpec := fun f => bif Nat.beq f 159 then a159 else none
theorem g159 : TabG Tryz.prog t159 := TabG.leaf r159
noncomputable def t160 : FuncId → Option FSpec := fun f => bif Nat.beq f 160 then a160 else none
theorem g160 : TabG Tryz.prog t160 := TabG.leaf r160
noncomputable def t161 : FuncId → Option FSpec := fun f => bif Nat.beq f 161 then a161 else none
theorem g161 : TabG Tryz.prog t161 := TabG.leaf r161
noncomputable def n90 : FuncId → Option FSpec := fun f => bif Nat.blt f 161 then t160 f else t161 f
theorem h90 : TabG Tryz.prog n90 := TabG.node g160 g161
noncomputable def n91 : FuncId → Option FSpec := fun f => bif Nat.blt f 160 then t159 f else n90 f
theorem h91 : TabG Tryz.prog n91 := TabG.node g159 h90
noncomputable def n92 : FuncId → Option FSpec := fun f => bif Nat.blt f 159 then n89 f else n91 f
theorem h92 : TabG Tryz.prog n92 := TabG.node h89 h91
noncomputable def n93 : FuncId → Option FSpec := fun f => bif Nat.blt f 157 then n88 f else n92 f
theorem h93 : TabG Tryz.prog n93 := TabG.node h88 h92
noncomputable def t162 : FuncId → Option FSpec := fun f => bif Nat.beq f 162 then a162 else none
theorem g162 : TabG Tryz.prog t162 := TabG.leaf r162
noncomputable def t163 : FuncId → Option FSpec := fun f => bif Nat.beq f 163 then a163 else none
theorem g163 : TabG Tryz.prog t163 := TabG.leaf r163
noncomputable def n94 : FuncId → Option FSpec := fun f => bif Nat.blt f 163 then t162 f else t163 f
theorem h94 : TabG Tryz.prog n94 := TabG.node g162 g163
noncomputable def t164 : FuncId → Option FSpec := fun f => bif Nat.beq f 164 then a164 else none
theorem g164 : TabG Tryz.prog t164 := TabG.leaf r164
noncomputable def t165 : FuncId → Option FSpec := fun f => bif Nat.beq f 165 then a165 else none
theorem g165 : TabG Tryz.prog t165 := TabG.leaf r165
noncomputable def n95 : FuncId → Option FSpec := fun f => bif Nat.blt f 165 then t164 f else t165 f
theorem h95 : TabG Tryz.prog n95 := TabG.node g164 g165
noncomputable def n96 : FuncId → Option FSpec := fun f => bif Nat.blt f 164 then n94 f else n95 f
theorem h96 : TabG Tryz.prog n96 := TabG.node h94 h95
noncomputable def t166 : FuncId → Option FSpec := fun f => bif Nat.beq f 166 then a166 else none
theorem g166 : TabG Tryz.prog t166 := TabG.leaf r166
noncomputable def t167 : FuncId → Option FSpec := fun f => bif Nat.beq f 167 then a167 else none
theorem g167 : TabG Tryz.prog t167 := TabG.leaf r167
noncomputable def n97 : FuncId → Option FSpec := fun f => bif Nat.blt f 167 then t166 f else t167 f
theorem h97 : TabG Tryz.prog n97 := TabG.node g166 g167
noncomputable def t168 : FuncId → Option FSpec := fun f => bif Nat.beq f 168 then a168 else none
theorem g168 : TabG Tryz.prog t168 := TabG.leaf r168
noncomputable def t169 : FuncId → Option FSpec := fun f => bif Nat.beq f 169 then a169 else none
theorem g169 : TabG Tryz.prog t169 := TabG.leaf r169
noncomputable def t170 : FuncId → Option FSpec := fun f => bif Nat.beq f 170 then a170 else none
theorem g170 : TabG Tryz.prog t170 := TabG.leaf r170
noncomputable def n98 : FuncId → Option FSpec := fun f => bif Nat.blt f 170 then t169 f else t170 f
theorem h98 : TabG Tryz.prog n98 := TabG.node g169 g170
noncomputable def n99 : FuncId → Option FSpec := fun f => bif Nat.blt f 169 then t168 f else n98 f
theorem h99 : TabG Tryz.prog n99 := TabG.node g168 h98
noncomputable def n100 : FuncId → Option FSpec := fun f => bif Nat.blt f 168 then n97 f else n99 f
theorem h100 : TabG Tryz.prog n100 := TabG.node h97 h99
noncomputable def n101 : FuncId → Option FSpec := fun f => bif Nat.blt f 166 then n96 f else n100 f
theorem h101 : TabG Tryz.prog n101 := TabG.node h96 h100
noncomputable def n102 : FuncId → Option FSpec := fun f => bif Nat.blt f 162 then n93 f else n101 f
theorem h102 : TabG Tryz.prog n102 := TabG.node h93 h101
noncomputable def n103 : FuncId → Option FSpec := fun f => bif Nat.blt f 153 then n85 f else n102 f
theorem h103 : TabG Tryz.prog n103 := TabG.node h85 h102
noncomputable def t171 : FuncId → Option FSpec := fun f => bif Nat.beq f 171 then a171 else none
theorem g171 : TabG Tryz.prog t171 := TabG.leaf r171
noncomputable def t172 : FuncId → Option FSpec := fun f => bif Nat.beq f 172 then a172 else none
theorem g172 : TabG Tryz.prog t172 := TabG.leaf r172
noncomputable def n104 : FuncId → Option FSpec := fun f => bif Nat.blt f 172 then t171 f else t172 f
theorem h104 : TabG Tryz.prog n104 := TabG.node g171 g172
noncomputable def t174 : FuncId → Option FSpec := fun f => bif Nat.beq f 174 then a174 else none
theorem g174 : TabG Tryz.prog t174 := TabG.leaf r174
noncomputable def t175 : FuncId → Option FSpec := fun f => bif Nat.beq f 175 then a175 else none
theorem g175 : TabG Tryz.prog t175 := TabG.leaf r175
noncomputable def n105 : FuncId → Option FSpec := fun f => bif Nat.blt f 175 then t174 f else t175 f
theorem h105 : TabG Tryz.prog n105 := TabG.node g174 g175
noncomputable def n106 : FuncId → Option FSpec := fun f => bif Nat.blt f 174 then n104 f else n105 f
theorem h106 : TabG Tryz.prog n106 := TabG.node h104 h105
noncomputable def t176 : FuncId → Option FSpec := fun f => bif Nat.beq f 176 then a176 else none
theorem g176 : TabG Tryz.prog t176 := TabG.leaf r176
noncomputable def t177 : FuncId → Option FSpec := fun f => bif Nat.beq f 177 then a177 else none
theorem g177 : TabG Tryz.prog t177 := TabG.leaf r177
noncomputable def n107 : FuncId → Option FSpec := fun f => bif Nat.blt f 177 then t176 f else t177 f
theorem h107 : TabG Tryz.prog n107 := TabG.node g176 g177
noncomputable def t193 : FuncId → Option FSpec := fun f => bif Nat.beq f 193 then a193 else none
theorem g193 : TabG Tryz.prog t193 := TabG.leaf r193
noncomputable def t198 : FuncId → Option FSpec := fun f => bif Nat.beq f 198 then a198 else none
theorem g198 : TabG Tryz.prog t198 := TabG.leaf r198
noncomputable def n108 : FuncId → Option FSpec := fun f => bif Nat.blt f 198 then t193 f else t198 f
theorem h108 : TabG Tryz.prog n108 := TabG.node g193 g198
noncomputable def n109 : FuncId → Option FSpec := fun f => bif Nat.blt f 193 then n107 f else n108 f
theorem h109 : TabG Tryz.prog n109 := TabG.node h107 h108
noncomputable def n110 : FuncId → Option FSpec := fun f => bif Nat.blt f 176 then n106 f else n109 f
theorem h110 : TabG Tryz.prog n110 := TabG.node h106 h109
noncomputable def t199 : FuncId → Option FSpec := fun f => bif Nat.beq f 199 then a199 else none
theorem g199 : TabG Tryz.prog t199 := TabG.leaf r199
noncomputable def t200 : FuncId → Option FSpec := fun f => bif Nat.beq f 200 then a200 else none
theorem g200 : TabG Tryz.prog t200 := TabG.leaf r200
noncomputable def n111 : FuncId → Option FSpec := fun f => bif Nat.blt f 200 then t199 f else t200 f
theorem h111 : TabG Tryz.prog n111 := TabG.node g199 g200
noncomputable def t201 : FuncId → Option FSpec := fun f => bif Nat.beq f 201 then a201 else none
theorem g201 : TabG Tryz.prog t201 := TabG.leaf r201
noncomputable def t202 : FuncId → Option FSpec := fun f => bif Nat.beq f 202 then a202 else none
theorem g202 : TabG Tryz.prog t202 := TabG.leaf r202
noncomputable def n112 : FuncId → Option FSpec := fun f => bif Nat.blt f 202 then t201 f else t202 f
theorem h112 : TabG Tryz.prog n112 := TabG.node g201 g202
noncomputable def n113 : FuncId → Option FSpec := fun f => bif Nat.blt f 201 then n111 f else n112 f
theorem h113 : TabG Tryz.prog n113 := TabG.node h111 h112
noncomputable def t203 : FuncId → Option FSpec := fun f => bif Nat.beq f 203 then a203 else none
theorem g203 : TabG Tryz.prog t203 := TabG.leaf r203
noncomputable def t204 : FuncId → Option FSpec := fun f => bif Nat.beq f 204 then a204 else none
theorem g204 : TabG Tryz.prog t204 := TabG.leaf r204
noncomputable def n114 : FuncId → Option FSpec := fun f => bif Nat.blt f 204 then t203 f else t204 f
theorem h114 : TabG Tryz.prog n114 := TabG.node g203 g204
noncomputable def t206 : FuncId → Option FSpec := fun f => bif Nat.beq f 206 then a206 else none
theorem g206 : TabG Tryz.prog t206 := TabG.leaf r206
noncomputable def t207 : FuncId → Option FSpec := fun f => bif Nat.beq f 207 then a207 else none
theorem g207 : TabG Tryz.prog t207 := TabG.leaf r207
noncomputable def t208 : FuncId → Option FSpec := fun f => bif Nat.beq f 208 then a208 else none
theorem g208 : TabG Tryz.prog t208 := TabG.leaf r208
noncomputable def n115 : FuncId → Option FSpec := fun f => bif Nat.blt f 208 then t207 f else t208 f
theorem h115 : TabG Tryz.prog n115 := TabG.node g207 g208
noncomputable def n116 : FuncId → Option FSpec := fun f => bif Nat.blt f 207 then t206 f else n115 f
theorem h116 : TabG Tryz.prog n116 := TabG.node g206 h115
noncomputable def n117 : FuncId → Option FSpec := fun f => bif Nat.blt f 206 then n114 f else n116 f
theorem h117 : TabG Tryz.prog n117 := TabG.node h114 h116
noncomputable def n118 : FuncId → Option FSpec := fun f => bif Nat.blt f 203 then n113 f else n117 f
theorem h118 : TabG Tryz.prog n118 := TabG.node h113 h117
noncomputable def n119 : FuncId → Option FSpec := fun f => bif Nat.blt f 199 then n110 f else n118 f
theorem h119 : TabG Tryz.prog n119 := TabG.node h110 h118
noncomputable def t209 : FuncId → Option FSpec := fun f => bif Nat.beq f 209 then a209 else none
theorem g209 : TabG Tryz.prog t209 := TabG.leaf r209
noncomputable def t210 : FuncId → Option FSpec := fun f => bif Nat.beq f 210 then a210 else none
theorem g210 : TabG Tryz.prog t210 := TabG.leaf r210
noncomputable def n120 : FuncId → Option FSpec := fun f => bif Nat.blt f 210 then t209 f else t210 f
theorem h120 : TabG Tryz.prog n120 := TabG.node g209 g210
noncomputable def t211 : FuncId → Option FSpec := fun f => bif Nat.beq f 211 then a211 else none
theorem g211 : TabG Tryz.prog t211 := TabG.leaf r211
noncomputable def t212 : FuncId → Option FSpec := fun f => bif Nat.beq f 212 then a212 else none
theorem g212 : TabG Tryz.prog t212 := TabG.leaf r212
noncomputable def n121 : FuncId → Option FSpec := fun f => bif Nat.blt f 212 then t211 f else t212 f
theorem h121 : TabG Tryz.prog n121 := TabG.node g211 g212
noncomputable def n122 : FuncId → Option FSpec := fun f => bif Nat.blt f 211 then n120 f else n121 f
theorem h122 : TabG Tryz.prog n122 := TabG.node h120 h121
noncomputable def t213 : FuncId → Option FSpec := fun f => bif Nat.beq f 213 then a213 else none
theorem g213 : TabG Tryz.prog t213 := TabG.leaf r213
noncomputable def t214 : FuncId → Option FSpec := fun f => bif Nat.beq f 214 then a214 else none
theorem g214 : TabG Tryz.prog t214 := TabG.leaf r214
noncomputable def n123 : FuncId → Option FSpec := fun f => bif Nat.blt f 214 then t213 f else t214 f
theorem h123 : TabG Tryz.prog n123 := TabG.node g213 g214
noncomputable def t215 : FuncId → Option FSpec := fun f => bif Nat.beq f 215 then a215 else none
theorem g215 : TabG Tryz.prog t215 := TabG.leaf r215
noncomputable def t216 : FuncId → Option FSpec := fun f => bif Nat.beq f 216 then a216 else none
theorem g216 : TabG Tryz.prog t216 := TabG.leaf r216
noncomputable def t217 : FuncId → Option FSpec := fun f => bif Nat.beq f 217 then a217 else none
theorem g217 : TabG Tryz.prog t217 := TabG.leaf r217
noncomputable def n124 : FuncId → Option FSpec := fun f => bif Nat.blt f 217 then t216 f else t217 f
theorem h124 : TabG Tryz.prog n124 := TabG.node g216 g217
noncomputable def n125 : FuncId → Option FSpec := fun f => bif Nat.blt f 216 then t215 f else n124 f
theorem h125 : TabG Tryz.prog n125 := TabG.node g215 h124
noncomputable def n126 : FuncId → Option FSpec := fun f => bif Nat.blt f 215 then n123 f else n125 f
theorem h126 : TabG Tryz.prog n126 := TabG.node h123 h125
noncomputable def n127 : FuncId → Option FSpec := fun f => bif Nat.blt f 213 then n122 f else n126 f
theorem h127 : TabG Tryz.prog n127 := TabG.node h122 h126
noncomputable def t218 : FuncId → Option FSpec := fun f => bif Nat.beq f 218 then a218 else none
theorem g218 : TabG Tryz.prog t218 := TabG.leaf r218
noncomputable def t219 : FuncId → Option FSpec := fun f => bif Nat.beq f 219 then a219 else none
theorem g219 : TabG Tryz.prog t219 := TabG.leaf r219
noncomputable def n128 : FuncId → Option FSpec := fun f => bif Nat.blt f 219 then t218 f else t219 f
theorem h128 : TabG Tryz.prog n128 := TabG.node g218 g219
noncomputable def t220 : FuncId → Option FSpec := fun f => bif Nat.beq f 220 then a220 else none
theorem g220 : TabG Tryz.prog t220 := TabG.leaf r220
noncomputable def t221 : FuncId → Option FSpec := fun f => bif Nat.beq f 221 then a221 else none
theorem g221 : TabG Tryz.prog t221 := TabG.leaf r221
noncomputable def n129 : FuncId → Option FSpec := fun f => bif Nat.blt f 221 then t220 f else t221 f
theorem h129 : TabG Tryz.prog n129 := TabG.node g220 g221
noncomputable def n130 : FuncId → Option FSpec := fun f => bif Nat.blt f 220 then n128 f else n129 f
theorem h130 : TabG Tryz.prog n130 := TabG.node h128 h129
noncomputable def t222 : FuncId → Option FSpec := fun f => bif Nat.beq f 222 then a222 else none
theorem g222 : TabG Tryz.prog t222 := TabG.leaf r222
noncomputable def t223 : FuncId → Option FSpec := fun f => bif Nat.beq f 223 then a223 else none
theorem g223 : TabG Tryz.prog t223 := TabG.leaf r223
noncomputable def n131 : FuncId → Option FSpec := fun f => bif Nat.blt f 223 then t222 f else t223 f
theorem h131 : TabG Tryz.prog n131 := TabG.node g222 g223
noncomputable def t224 : FuncId → Option FSpec := fun f => bif Nat.beq f 224 then a224 else none
theorem g224 : TabG Tryz.prog t224 := TabG.leaf r224
noncomputable def t225 : FuncId → Option FSpec := fun f => bif Nat.beq f 225 then a225 else none
theorem g225 : TabG Tryz.prog t225 := TabG.leaf r225
noncomputable def t226 : FuncId → Option FSpec := fun f => bif Nat.beq f 226 then a226 else none
theorem g226 : TabG Tryz.prog t226 := TabG.leaf r226
noncomputable def n132 : FuncId → Option FSpec := fun f => bif Nat.blt f 226 then t225 f else t226 f
theorem h132 : TabG Tryz.prog n132 := TabG.node g225 g226
noncomputable def n133 : FuncId → Option FSpec := fun f => bif Nat.blt f 225 then t224 f else n132 f
theorem h133 : TabG Tryz.prog n133 := TabG.node g224 h132
noncomputable def n134 : FuncId → Option FSpec := fun f => bif Nat.blt f 224 then n131 f else n133 f
theorem h134 : TabG Tryz.prog n134 := TabG.node h131 h133
noncomputable def n135 : FuncId → Option FSpec := fun f => bif Nat.blt f 222 then n130 f else n134 f
theorem h135 : TabG Tryz.prog n135 := TabG.node h130 h134
noncomputable def n136 : FuncId → Option FSpec := fun f => bif Nat.blt f 218 then n127 f else n135 f
theorem h136 : TabG Tryz.prog n136 := TabG.node h127 h135
noncomputable def n137 : FuncId → Option FSpec := fun f => bif Nat.blt f 209 then n119 f else n136 f
theorem h137 : TabG Tryz.prog n137 := TabG.node h119 h136
noncomputable def n138 : FuncId → Option FSpec := fun f => bif Nat.blt f 171 then n103 f else n137 f
theorem h138 : TabG Tryz.prog n138 := TabG.node h103 h137
noncomputable def n139 : FuncId → Option FSpec := fun f => bif Nat.blt f 136 then n69 f else n138 f
theorem h139 : TabG Tryz.prog n139 := TabG.node h69 h138
noncomputable def t227 : FuncId → Option FSpec := fun f => bif Nat.beq f 227 then a227 else none
theorem g227 : TabG Tryz.prog t227 := TabG.leaf r227
noncomputable def t228 : FuncId → Option FSpec := fun f => bif Nat.beq f 228 then a228 else none
theorem g228 : TabG Tryz.prog t228 := TabG.leaf r228
noncomputable def n140 : FuncId → Option FSpec := fun f => bif Nat.blt f 228 then t227 f else t228 f
theorem h140 : TabG Tryz.prog n140 := TabG.node g227 g228
noncomputable def t229 : FuncId → Option FSpec := fun f => bif Nat.beq f 229 then a229 else none
theorem g229 : TabG Tryz.prog t229 := TabG.leaf r229
noncomputable def t230 : FuncId → Option FSpec := fun f => bif Nat.beq f 230 then a230 else none
theorem g230 : TabG Tryz.prog t230 := TabG.leaf r230
noncomputable def n141 : FuncId → Option FSpec := fun f => bif Nat.blt f 230 then t229 f else t230 f
theorem h141 : TabG Tryz.prog n141 := TabG.node g229 g230
noncomputable def n142 : FuncId → Option FSpec := fun f => bif Nat.blt f 229 then n140 f else n141 f
theorem h142 : TabG Tryz.prog n142 := TabG.node h140 h141
noncomputable def t231 : FuncId → Option FSpec := fun f => bif Nat.beq f 231 then a231 else none
theorem g231 : TabG Tryz.prog t231 := TabG.leaf r231
noncomputable def t232 : FuncId → Option FSpec := fun f => bif Nat.beq f 232 then a232 else none
theorem g232 : TabG Tryz.prog t232 := TabG.leaf r232
noncomputable def n143 : FuncId → Option FSpec := fun f => bif Nat.blt f 232 then t231 f else t232 f
theorem h143 : TabG Tryz.prog n143 := TabG.node g231 g232
noncomputable def t233 : FuncId → Option FSpec := fun f => bif Nat.beq f 233 then a233 else none
theorem g233 : TabG Tryz.prog t233 := TabG.leaf r233
noncomputable def t234 : FuncId → Option FSpec := fun f => bif Nat.beq f 234 then a234 else none
theorem g234 : TabG Tryz.prog t234 := TabG.leaf r234
noncomputable def n144 : FuncId → Option FSpec := fun f => bif Nat.blt f 234 then t233 f else t234 f
theorem h144 : TabG Tryz.prog n144 := TabG.node g233 g234
noncomputable def n145 : FuncId → Option FSpec := fun f => bif Nat.blt f 233 then n143 f else n144 f
theorem h145 : TabG Tryz.prog n145 := TabG.node h143 h144
noncomputable def n146 : FuncId → Option FSpec := fun f => bif Nat.blt f 231 then n142 f else n145 f
theorem h146 : TabG Tryz.prog n146 := TabG.node h142 h145
noncomputable def t235 : FuncId → Option FSpec := fun f => bif Nat.beq f 235 then a235 else none
theorem g235 : TabG Tryz.prog t235 := TabG.leaf r235
noncomputable def t236 : FuncId → Option FSpec := fun f => bif Nat.beq f 236 then a236 else none
theorem g236 : TabG Tryz.prog t236 := TabG.leaf r236
noncomputable def n147 : FuncId → Option FSpec := fun f => bif Nat.blt f 236 then t235 f else t236 f
theorem h147 : TabG Tryz.prog n147 := TabG.node g235 g236
noncomputable def t237 : FuncId → Option FSpec := fun f => bif Nat.beq f 237 then a237 else none
theorem g237 : TabG Tryz.prog t237 := TabG.leaf r237
noncomputable def t239 : FuncId → Option FSpec := fun f => bif Nat.beq f 239 then a239 else none
theorem g239 : TabG Tryz.prog t239 := TabG.leaf r239
noncomputable def n148 : FuncId → Option FSpec := fun f => bif Nat.blt f 239 then t237 f else t239 f
theorem h148 : TabG Tryz.prog n148 := TabG.node g237 g239
noncomputable def n149 : FuncId → Option FSpec := fun f => bif Nat.blt f 237 then n147 f else n148 f
theorem h149 : TabG Tryz.prog n149 := TabG.node h147 h148
noncomputable def t240 : FuncId → Option FSpec := fun f => bif Nat.beq f 240 then a240 else none
theorem g240 : TabG Tryz.prog t240 := TabG.leaf r240
noncomputable def t241 : FuncId → Option FSpec := fun f => bif Nat.beq f 241 then a241 else none
theorem g241 : TabG Tryz.prog t241 := TabG.leaf r241
noncomputable def n150 : FuncId → Option FSpec := fun f => bif Nat.blt f 241 then t240 f else t241 f
theorem h150 : TabG Tryz.prog n150 := TabG.node g240 g241
noncomputable def t246 : FuncId → Option FSpec := fun f => bif Nat.beq f 246 then a246 else none
theorem g246 : TabG Tryz.prog t246 := TabG.leaf r246
noncomputable def t247 : FuncId → Option FSpec := fun f => bif Nat.beq f 247 then a247 else none
theorem g247 : TabG Tryz.prog t247 := TabG.leaf r247
noncomputable def t248 : FuncId → Option FSpec := fun f => bif Nat.beq f 248 then a248 else none
theorem g248 : TabG Tryz.prog t248 := TabG.leaf r248
noncomputable def n151 : FuncId → Option FSpec := fun f => bif Nat.blt f 248 then t247 f else t248 f
theorem h151 : TabG Tryz.prog n151 := TabG.node g247 g248
noncomputable def n152 : FuncId → Option FSpec := fun f => bif Nat.blt f 247 then t246 f else n151 f
theorem h152 : TabG Tryz.prog n152 := TabG.node g246 h151
noncomputable def n153 : FuncId → Option FSpec := fun f => bif Nat.blt f 246 then n150 f else n152 f
theorem h153 : TabG Tryz.prog n153 := TabG.node h150 h152
noncomputable def n154 : FuncId → Option FSpec := fun f => bif Nat.blt f 240 then n149 f else n153 f
theorem h154 : TabG Tryz.prog n154 := TabG.node h149 h153
noncomputable def n155 : FuncId → Option FSpec := fun f => bif Nat.blt f 235 then n146 f else n154 f
theorem h155 : TabG Tryz.prog n155 := TabG.node h146 h154
noncomputable def t249 : FuncId → Option FSpec := fun f => bif Nat.beq f 249 then a249 else none
theorem g249 : TabG Tryz.prog t249 := TabG.leaf r249
noncomputable def t254 : FuncId → Option FSpec := fun f => bif Nat.beq f 254 then a254 else none
theorem g254 : TabG Tryz.prog t254 := TabG.leaf r254
noncomputable def n156 : FuncId → Option FSpec := fun f => bif Nat.blt f 254 then t249 f else t254 f
theorem h156 : TabG Tryz.prog n156 := TabG.node g249 g254
noncomputable def t255 : FuncId → Option FSpec := fun f => bif Nat.beq f 255 then a255 else none
theorem g255 : TabG Tryz.prog t255 := TabG.leaf r255
noncomputable def t256 : FuncId → Option FSpec := fun f => bif Nat.beq f 256 then a256 else none
theorem g256 : TabG Tryz.prog t256 := TabG.leaf r256
noncomputable def n157 : FuncId → Option FSpec := fun f => bif Nat.blt f 256 then t255 f else t256 f
theorem h157 : TabG Tryz.prog n157 := TabG.node g255 g256
noncomputable def n158 : FuncId → Option FSpec := fun f => bif Nat.blt f 255 then n156 f else n157 f
theorem h158 : TabG Tryz.prog n158 := TabG.node h156 h157
noncomputable def t257 : FuncId → Option FSpec := fun f => bif Nat.beq f 257 then a257 else none
theorem g257 : TabG Tryz.prog t257 := TabG.leaf r257
noncomputable def t258 : FuncId → Option FSpec := fun f => bif Nat.beq f 258 then a258 else none
theorem g258 : TabG Tryz.prog t258 := TabG.leaf r258
noncomputable def n159 : FuncId → Option FSpec := fun f => bif Nat.blt f 258 then t257 f else t258 f
theorem h159 : TabG Tryz.prog n159 := TabG.node g257 g258
noncomputable def t259 : FuncId → Option FSpec := fun f => bif Nat.beq f 259 then a259 else none
theorem g259 : TabG Tryz.prog t259 := TabG.leaf r259
noncomputable def t260 : FuncId → Option FSpec := fun f => bif Nat.beq f 260 then a260 else none
theorem g260 : TabG Tryz.prog t260 := TabG.leaf r260
noncomputable def t261 : FuncId → Option FSpec := fun f => bif Nat.beq f 261 then a261 else none
theorem g261 : TabG Tryz.prog t261 := TabG.leaf r261
noncomputable def n160 : FuncId → Option FSpec := fun f => bif Nat.blt f 261 then t260 f else t261 f
theorem h160 : TabG Tryz.prog n160 := TabG.node g260 g261
noncomputable def n161 : FuncId → Option FSpec := fun f => bif Nat.blt f 260 then t259 f else n160 f
theorem h161 : TabG Tryz.prog n161 := TabG.node g259 h160
noncomputable def n162 : FuncId → Option FSpec := fun f => bif Nat.blt f 259 then n159 f else n161 f
theorem h162 : TabG Tryz.prog n162 := TabG.node h159 h161
noncomputable def n163 : FuncId → Option FSpec := fun f => bif Nat.blt f 257 then n158 f else n162 f
theorem h163 : TabG Tryz.prog n163 := TabG.node h158 h162
noncomputable def t262 : FuncId → Option FSpec := fun f => bif Nat.beq f 262 then a262 else none
theorem g262 : TabG Tryz.prog t262 := TabG.leaf r262
noncomputable def t263 : FuncId → Option FSpec := fun f => bif Nat.beq f 263 then a263 else none
theorem g263 : TabG Tryz.prog t263 := TabG.leaf r263
noncomputable def n164 : FuncId → Option FSpec := fun f => bif Nat.blt f 263 then t262 f else t263 f
theorem h164 : TabG Tryz.prog n164 := TabG.node g262 g263
noncomputable def t264 : FuncId → Option FSpec := fun f => bif Nat.beq f 264 then a264 else none
theorem g264 : TabG Tryz.prog t264 := TabG.leaf r264
noncomputable def t265 : FuncId → Option FSpec := fun f => bif Nat.beq f 265 then a265 else none
theorem g265 : TabG Tryz.prog t265 := TabG.leaf r265
noncomputable def n165 : FuncId → Option FSpec := fun f => bif Nat.blt f 265 then t264 f else t265 f
theorem h165 : TabG Tryz.prog n165 := TabG.node g264 g265
noncomputable def n166 : FuncId → Option FSpec := fun f => bif Nat.blt f 264 then n164 f else n165 f
theorem h166 : TabG Tryz.prog n166 := TabG.node h164 h165
noncomputable def t266 : FuncId → Option FSpec := fun f => bif Nat.beq f 266 then a266 else none
theorem g266 : TabG Tryz.prog t266 := TabG.leaf r266
noncomputable def t267 : FuncId → Option FSpec := fun f => bif Nat.beq f 267 then a267 else none
theorem g267 : TabG Tryz.prog t267 := TabG.leaf r267
noncomputable def n167 : FuncId → Option FSpec := fun f => bif Nat.blt f 267 then t266 f else t267 f
theorem h167 : TabG Tryz.prog n167 := TabG.node g266 g267
noncomputable def t268 : FuncId → Option FSpec := fun f => bif Nat.beq f 268 then a268 else none
theorem g268 : TabG Tryz.prog t268 := TabG.leaf r268
noncomputable def t269 : FuncId → Option FSpec := fun f => bif Nat.beq f 269 then a269 else none
theorem g269 : TabG Tryz.prog t269 := TabG.leaf r269
noncomputable def t270 : FuncId → Option FSpec := fun f => bif Nat.beq f 270 then a270 else none
theorem g270 : TabG Tryz.prog t270 := TabG.leaf r270
noncomputable def n168 : FuncId → Option FSpec := fun f => bif Nat.blt f 270 then t269 f else t270 f
theorem h168 : TabG Tryz.prog n168 := TabG.node g269 g270
noncomputable def n169 : FuncId → Option FSpec := fun f => bif Nat.blt f 269 then t268 f else n168 f
theorem h169 : TabG Tryz.prog n169 := TabG.node g268 h168
noncomputable def n170 : FuncId → Option FSpec := fun f => bif Nat.blt f 268 then n167 f else n169 f
theorem h170 : TabG Tryz.prog n170 := TabG.node h167 h169
noncomputable def n171 : FuncId → Option FSpec := fun f => bif Nat.blt f 266 then n166 f else n170 f
theorem h171 : TabG Tryz.prog n171 := TabG.node h166 h170
noncomputable def n172 : FuncId → Option FSpec := fun f => bif Nat.blt f 262 then n163 f else n171 f
theorem h172 : TabG Tryz.prog n172 := TabG.node h163 h171
noncomputable def n173 : FuncId → Option FSpec := fun f => bif Nat.blt f 249 then n155 f else n172 f
theorem h173 : TabG Tryz.prog n173 := TabG.node h155 h172
noncomputable def t271 : FuncId → Option FSpec := fun f => bif Nat.beq f 271 then a271 else none
theorem g271 : TabG Tryz.prog t271 := TabG.leaf r271
noncomputable def t272 : FuncId → Option FSpec := fun f => bif Nat.beq f 272 then a272 else none
theorem g272 : TabG Tryz.prog t272 := TabG.leaf r272
noncomputable def n174 : FuncId → Option FSpec := fun f => bif Nat.blt f 272 then t271 f else t272 f
theorem h174 : TabG Tryz.prog n174 := TabG.node g271 g272
noncomputable def t273 : FuncId → Option FSpec := fun f => bif Nat.beq f 273 then a273 else none
theorem g273 : TabG Tryz.prog t273 := TabG.leaf r273
noncomputable def t274 : FuncId → Option FSpec := fun f => bif Nat.beq f 274 then a274 else none
theorem g274 : TabG Tryz.prog t274 := TabG.leaf r274
noncomputable def n175 : FuncId → Option FSpec := fun f => bif Nat.blt f 274 then t273 f else t274 f
theorem h175 : TabG Tryz.prog n175 := TabG.node g273 g274
noncomputable def n176 : FuncId → Option FSpec := fun f => bif Nat.blt f 273 then n174 f else n175 f
theorem h176 : TabG Tryz.prog n176 := TabG.node h174 h175
noncomputable def t275 : FuncId → Option FSpec := fun f => bif Nat.beq f 275 then a275 else none
theorem g275 : TabG Tryz.prog t275 := TabG.leaf r275
noncomputable def t276 : FuncId → Option FSpec := fun f => bif Nat.beq f 276 then a276 else none
theorem g276 : TabG Tryz.prog t276 := TabG.leaf r276
noncomputable def n177 : FuncId → Option FSpec := fun f => bif Nat.blt f 276 then t275 f else t276 f
theorem h177 : TabG Tryz.prog n177 := TabG.node g275 g276
noncomputable def t277 : FuncId → Option FSpec := fun f => bif Nat.beq f 277 then a277 else none
theorem g277 : TabG Tryz.prog t277 := TabG.leaf r277
noncomputable def t278 : FuncId → Option FSpec := fun f => bif Nat.beq f 278 then a278 else none
theorem g278 : TabG Tryz.prog t278 := TabG.leaf r278
noncomputable def n178 : FuncId → Option FSpec := fun f => bif Nat.blt f 278 then t277 f else t278 f
theorem h178 : TabG Tryz.prog n178 := TabG.node g277 g278
noncomputable def n179 : FuncId → Option FSpec := fun f => bif Nat.blt f 277 then n177 f else n178 f
theorem h179 : TabG Tryz.prog n179 := TabG.node h177 h178
noncomputable def n180 : FuncId → Option FSpec := fun f => bif Nat.blt f 275 then n176 f else n179 f
theorem h180 : TabG Tryz.prog n180 := TabG.node h176 h179
noncomputable def t279 : FuncId → Option FSpec := fun f => bif Nat.beq f 279 then a279 else none
theorem g279 : TabG Tryz.prog t279 := TabG.leaf r279
noncomputable def t280 : FuncId → Option FSpec := fun f => bif Nat.beq f 280 then a280 else none
theorem g280 : TabG Tryz.prog t280 := TabG.leaf r280
noncomputable def n181 : FuncId → Option FSpec := fun f => bif Nat.blt f 280 then t279 f else t280 f
theorem h181 : TabG Tryz.prog n181 := TabG.node g279 g280
noncomputable def t281 : FuncId → Option FSpec := fun f => bif Nat.beq f 281 then a281 else none
theorem g281 : TabG Tryz.prog t281 := TabG.leaf r281
noncomputable def t282 : FuncId → Option FSpec := fun f => bif Nat.beq f 282 then a282 else none
theorem g282 : TabG Tryz.prog t282 := TabG.leaf r282
noncomputable def n182 : FuncId → Option FSpec := fun f => bif Nat.blt f 282 then t281 f else t282 f
theorem h182 : TabG Tryz.prog n182 := TabG.node g281 g282
noncomputable def n183 : FuncId → Option FSpec := fun f => bif Nat.blt f 281 then n181 f else n182 f
theorem h183 : TabG Tryz.prog n183 := TabG.node h181 h182
noncomputable def t283 : FuncId → Option FSpec := fun f => bif Nat.beq f 283 then a283 else none
theorem g283 : TabG Tryz.prog t283 := TabG.leaf r283
noncomputable def t284 : FuncId → Option FSpec := fun f => bif Nat.beq f 284 then a284 else none
theorem g284 : TabG Tryz.prog t284 := TabG.leaf r284
noncomputable def n184 : FuncId → Option FSpec := fun f => bif Nat.blt f 284 then t283 f else t284 f
theorem h184 : TabG Tryz.prog n184 := TabG.node g283 g284
noncomputable def t285 : FuncId → Option FSpec := fun f => bif Nat.beq f 285 then a285 else none
theorem g285 : TabG Tryz.prog t285 := TabG.leaf r285
noncomputable def t286 : FuncId → Option FSpec := fun f => bif Nat.beq f 286 then a286 else none
theorem g286 : TabG Tryz.prog t286 := TabG.leaf r286
noncomputable def t292 : FuncId → Option FSpec := fun f => bif Nat.beq f 292 then a292 else none
theorem g292 : TabG Tryz.prog t292 := TabG.leaf r292
noncomputable def n185 : FuncId → Option FSpec := fun f => bif Nat.blt f 292 then t286 f else t292 f
theorem h185 : TabG Tryz.prog n185 := TabG.node g286 g292
noncomputable def n186 : FuncId → Option FSpec := fun f => bif Nat.blt f 286 then t285 f else n185 f
theorem h186 : TabG Tryz.prog n186 := TabG.node g285 h185
noncomputable def n187 : FuncId → Option FSpec := fun f => bif Nat.blt f 285 then n184 f else n186 f
theorem h187 : TabG Tryz.prog n187 := TabG.node h184 h186
noncomputable def n188 : FuncId → Option FSpec := fun f => bif Nat.blt f 283 then n183 f else n187 f
theorem h188 : TabG Tryz.prog n188 := TabG.node h183 h187
noncomputable def n189 : FuncId → Option FSpec := fun f => bif Nat.blt f 279 then n180 f else n188 f
theorem h189 : TabG Tryz.prog n189 := TabG.node h180 h188
noncomputable def t295 : FuncId → Option FSpec := fun f => bif Nat.beq f 295 then a295 else none
theorem g295 : TabG Tryz.prog t295 := TabG.leaf r295
noncomputable def t296 : FuncId → Option FSpec := fun f => bif Nat.beq f 296 then a296 else none
theorem g296 : TabG Tryz.prog t296 := TabG.leaf r296
noncomputable def n190 : FuncId → Option FSpec := fun f => bif Nat.blt f 296 then t295 f else t296 f
theorem h190 : TabG Tryz.prog n190 := TabG.node g295 g296
noncomputable def t297 : FuncId → Option FSpec := fun f => bif Nat.beq f 297 then a297 else none
theorem g297 : TabG Tryz.prog t297 := TabG.leaf r297
noncomputable def t298 : FuncId → Option FSpec := fun f => bif Nat.beq f 298 then a298 else none
theorem g298 : TabG Tryz.prog t298 := TabG.leaf r298
noncomputable def n191 : FuncId → Option FSpec := fun f => bif Nat.blt f 298 then t297 f else t298 f
theorem h191 : TabG Tryz.prog n191 := TabG.node g297 g298
noncomputable def n192 : FuncId → Option FSpec := fun f => bif Nat.blt f 297 then n190 f else n191 f
theorem h192 : TabG Tryz.prog n192 := TabG.node h190 h191
noncomputable def t299 : FuncId → Option FSpec := fun f => bif Nat.beq f 299 then a299 else none
theorem g299 : TabG Tryz.prog t299 := TabG.leaf r299
noncomputable def t300 : FuncId → Option FSpec := fun f => bif Nat.beq f 300 then a300 else none
theorem g300 : TabG Tryz.prog t300 := TabG.leaf r300
noncomputable def n193 : FuncId → Option FSpec := fun f => bif Nat.blt f 300 then t299 f else t300 f
theorem h193 : TabG Tryz.prog n193 := TabG.node g299 g300
noncomputable def t301 : FuncId → Option FSpec := fun f => bif Nat.beq f 301 then a301 else none
theorem g301 : TabG Tryz.prog t301 := TabG.leaf r301
noncomputable def t302 : FuncId → Option FSpec := fun f => bif Nat.beq f 302 then a302 else none
theorem g302 : TabG Tryz.prog t302 := TabG.leaf r302
noncomputable def t303 : FuncId → Option FSpec := fun f => bif Nat.beq f 303 then a303 else none
theorem g303 : TabG Tryz.prog t303 := TabG.leaf r303
noncomputable def n194 : FuncId → Option FSpec := fun f => bif Nat.blt f 303 then t302 f else t303 f
theorem h194 : TabG Tryz.prog n194 := TabG.node g302 g303
noncomputable def n195 : FuncId → Option FSpec := fun f => bif Nat.blt f 302 then t301 f else n194 f
theorem h195 : TabG Tryz.prog n195 := TabG.node g301 h194
noncomputable def n196 : FuncId → Option FSpec := fun f => bif Nat.blt f 301 then n193 f else n195 f
theorem h196 : TabG Tryz.prog n196 := TabG.node h193 h195
noncomputable def n197 : FuncId → Option FSpec := fun f => bif Nat.blt f 299 then n192 f else n196 f
theorem h197 : TabG Tryz.prog n197 := TabG.node h192 h196
noncomputable def t304 : FuncId → Option FSpec := fun f => bif Nat.beq f 304 then a304 else none
theorem g304 : TabG Tryz.prog t304 := TabG.leaf r304
noncomputable def t305 : FuncId → Option FSpec := fun f => bif Nat.beq f 305 then a305 else none
theorem g305 : TabG Tryz.prog t305 := TabG.leaf r305
noncomputable def n198 : FuncId → Option FSpec := fun f => bif Nat.blt f 305 then t304 f else t305 f
theorem h198 : TabG Tryz.prog n198 := TabG.node g304 g305
noncomputable def t306 : FuncId → Option FSpec := fun f => bif Nat.beq f 306 then a306 else none
theorem g306 : TabG Tryz.prog t306 := TabG.leaf r306
noncomputable def t307 : FuncId → Option FSpec := fun f => bif Nat.beq f 307 then a307 else none
theorem g307 : TabG Tryz.prog t307 := TabG.leaf r307
noncomputable def n199 : FuncId → Option FSpec := fun f => bif Nat.blt f 307 then t306 f else t307 f
theorem h199 : TabG Tryz.prog n199 := TabG.node g306 g307
noncomputable def n200 : FuncId → Option FSpec := fun f => bif Nat.blt f 306 then n198 f else n199 f
theorem h200 : TabG Tryz.prog n200 := TabG.node h198 h199
noncomputable def t308 : FuncId → Option FSpec := fun f => bif Nat.beq f 308 then a308 else none
theorem g308 : TabG Tryz.prog t308 := TabG.leaf r308
noncomputable def t309 : FuncId → Option FSpec := fun f => bif Nat.beq f 309 then a309 else none
theorem g309 : TabG Tryz.prog t309 := TabG.leaf r309
noncomputable def n201 : FuncId → Option FSpec := fun f => bif Nat.blt f 309 then t308 f else t309 f
theorem h201 : TabG Tryz.prog n201 := TabG.node g308 g309
noncomputable def t310 : FuncId → Option FSpec := fun f => bif Nat.beq f 310 then a310 else none
theorem g310 : TabG Tryz.prog t310 := TabG.leaf r310
noncomputable def t311 : FuncId → Option FSpec := fun f => bif Nat.beq f 311 then a311 else none
theorem g311 : TabG Tryz.prog t311 := TabG.leaf r311
noncomputable def t312 : FuncId → Option FSpec := fun f => bif Nat.beq f 312 then a312 else none
theorem g312 : TabG Tryz.prog t312 := TabG.leaf r312
noncomputable def n202 : FuncId → Option FSpec := fun f => bif Nat.blt f 312 then t311 f else t312 f
theorem h202 : TabG Tryz.prog n202 := TabG.node g311 g312
noncomputable def n203 : FuncId → Option FSpec := fun f => bif Nat.blt f 311 then t310 f else n202 f
theorem h203 : TabG Tryz.prog n203 := TabG.node g310 h202
noncomputable def n204 : FuncId → Option FSpec := fun f => bif Nat.blt f 310 then n201 f else n203 f
theorem h204 : TabG Tryz.prog n204 := TabG.node h201 h203
noncomputable def n205 : FuncId → Option FSpec := fun f => bif Nat.blt f 308 then n200 f else n204 f
theorem h205 : TabG Tryz.prog n205 := TabG.node h200 h204
noncomputable def n206 : FuncId → Option FSpec := fun f => bif Nat.blt f 304 then n197 f else n205 f
theorem h206 : TabG Tryz.prog n206 := TabG.node h197 h205
noncomputable def n207 : FuncId → Option FSpec := fun f => bif Nat.blt f 295 then n189 f else n206 f
theorem h207 : TabG Tryz.prog n207 := TabG.node h189 h206
noncomputable def n208 : FuncId → Option FSpec := fun f => bif Nat.blt f 271 then n173 f else n207 f
theorem h208 : TabG Tryz.prog n208 := TabG.node h173 h207
noncomputable def t313 : FuncId → Option FSpec := fun f => bif Nat.beq f 313 then a313 else none
theorem g313 : TabG Tryz.prog t313 := TabG.leaf r313
noncomputable def t314 : FuncId → Option FSpec := fun f => bif Nat.beq f 314 then a314 else none
theorem g314 : TabG Tryz.prog t314 := TabG.leaf r314
noncomputable def n209 : FuncId → Option FSpec := fun f => bif Nat.blt f 314 then t313 f else t314 f
theorem h209 : TabG Tryz.prog n209 := TabG.node g313 g314
noncomputable def t315 : FuncId → Option FSpec := fun f => bif Nat.beq f 315 then a315 else none
theorem g315 : TabG Tryz.prog t315 := TabG.leaf r315
noncomputable def t316 : FuncId → Option FSpec := fun f => bif Nat.beq f 316 then a316 else none
theorem g316 : TabG Tryz.prog t316 := TabG.leaf r316
noncomputable def n210 : FuncId → Option FSpec := fun f => bif Nat.blt f 316 then t315 f else t316 f
theorem h210 : TabG Tryz.prog n210 := TabG.node g315 g316
noncomputable def n211 : FuncId → Option FSpec := fun f => bif Nat.blt f 315 then n209 f else n210 f
theorem h211 : TabG Tryz.prog n211 := TabG.node h209 h210
noncomputable def t317 : FuncId → Option FSpec := fun f => bif Nat.beq f 317 then a317 else none
theorem g317 : TabG Tryz.prog t317 := TabG.leaf r317
noncomputable def t318 : FuncId → Option FSpec := fun f => bif Nat.beq f 318 then a318 else none
theorem g318 : TabG Tryz.prog t318 := TabG.leaf r318
noncomputable def n212 : FuncId → Option FSpec := fun f => bif Nat.blt f 318 then t317 f else t318 f
theorem h212 : TabG Tryz.prog n212 := TabG.node g317 g318
noncomputable def t319 : FuncId → Option FSpec := fun f => bif Nat.beq f 319 then a319 else none
theorem g319 : TabG Tryz.prog t319 := TabG.leaf r319
noncomputable def t320 : FuncId → Option FSpec := fun f => bif Nat.beq f 320 then a320 else none
theorem g320 : TabG Tryz.prog t320 := TabG.leaf r320
noncomputable def n213 : FuncId → Option FSpec := fun f => bif Nat.blt f 320 then t319 f else t320 f
theorem h213 : TabG Tryz.prog n213 := TabG.node g319 g320
noncomputable def n214 : FuncId → Option FSpec := fun f => bif Nat.blt f 319 then n212 f else n213 f
theorem h214 : TabG Tryz.prog n214 := TabG.node h212 h213
noncomputable def n215 : FuncId → Option FSpec := fun f => bif Nat.blt f 317 then n211 f else n214 f
theorem h215 : TabG Tryz.prog n215 := TabG.node h211 h214
noncomputable def t321 : FuncId → Option FSpec := fun f => bif Nat.beq f 321 then a321 else none
theorem g321 : TabG Tryz.prog t321 := TabG.leaf r321
noncomputable def t326 : FuncId → Option FSpec := fun f => bif Nat.beq f 326 then a326 else none
theorem g326 : TabG Tryz.prog t326 := TabG.leaf r326
noncomputable def n216 : FuncId → Option FSpec := fun f => bif Nat.blt f 326 then t321 f else t326 f
theorem h216 : TabG Tryz.prog n216 := TabG.node g321 g326
noncomputable def t327 : FuncId → Option FSpec := fun f => bif Nat.beq f 327 then a327 else none
theorem g327 : TabG Tryz.prog t327 := TabG.leaf r327
noncomputable def t328 : FuncId → Option FSpec := fun f => bif Nat.beq f 328 then a328 else none
theorem g328 : TabG Tryz.prog t328 := TabG.leaf r328
noncomputable def n217 : FuncId → Option FSpec := fun f => bif Nat.blt f 328 then t327 f else t328 f
theorem h217 : TabG Tryz.prog n217 := TabG.node g327 g328
noncomputable def n218 : FuncId → Option FSpec := fun f => bif Nat.blt f 327 then n216 f else n217 f
theorem h218 : TabG Tryz.prog n218 := TabG.node h216 h217
noncomputable def t329 : FuncId → Option FSpec := fun f => bif Nat.beq f 329 then a329 else none
theorem g329 : TabG Tryz.prog t329 := TabG.leaf r329
noncomputable def t330 : FuncId → Option FSpec := fun f => bif Nat.beq f 330 then a330 else none
theorem g330 : TabG Tryz.prog t330 := TabG.leaf r330
noncomputable def n219 : FuncId → Option FSpec := fun f => bif Nat.blt f 330 then t329 f else t330 f
theorem h219 : TabG Tryz.prog n219 := TabG.node g329 g330
noncomputable def t331 : FuncId → Option FSpec := fun f => bif Nat.beq f 331 then a331 else none
theorem g331 : TabG Tryz.prog t331 := TabG.leaf r331
noncomputable def t332 : FuncId → Option FSpec := fun f => bif Nat.beq f 332 then a332 else none
theorem g332 : TabG Tryz.prog t332 := TabG.leaf r332
noncomputable def t333 : FuncId → Option FSpec := fun f => bif Nat.beq f 333 then a333 else none
theorem g333 : TabG Tryz.prog t333 := TabG.leaf r333
noncomputable def n220 : FuncId → Option FSpec := fun f => bif Nat.blt f 333 then t332 f else t333 f
theorem h220 : TabG Tryz.prog n220 := TabG.node g332 g333
noncomputable def n221 : FuncId → Option FSpec := fun f => bif Nat.blt f 332 then t331 f else n220 f
theorem h221 : TabG Tryz.prog n221 := TabG.node g331 h220
noncomputable def n222 : FuncId → Option FSpec := fun f => bif Nat.blt f 331 then n219 f else n221 f
theorem h222 : TabG Tryz.prog n222 := TabG.node h219 h221
noncomputable def n223 : FuncId → Option FSpec := fun f => bif Nat.blt f 329 then n218 f else n222 f
theorem h223 : TabG Tryz.prog n223 := TabG.node h218 h222
noncomputable def n224 : FuncId → Option FSpec := fun f => bif Nat.blt f 321 then n215 f else n223 f
theorem h224 : TabG Tryz.prog n224 := TabG.node h215 h223
noncomputable def t334 : FuncId → Option FSpec := fun f => bif Nat.beq f 334 then a334 else none
theorem g334 : TabG Tryz.prog t334 := TabG.leaf r334
noncomputable def t335 : FuncId → Option FSpec := fun f => bif Nat.beq f 335 then a335 else none
theorem g335 : TabG Tryz.prog t335 := TabG.leaf r335
noncomputable def n225 : FuncId → Option FSpec := fun f => bif Nat.blt f 335 then t334 f else t335 f
theorem h225 : TabG Tryz.prog n225 := TabG.node g334 g335
noncomputable def t336 : FuncId → Option FSpec := fun f => bif Nat.beq f 336 then a336 else none
theorem g336 : TabG Tryz.prog t336 := TabG.leaf r336
noncomputable def t337 : FuncId → Option FSpec := fun f => bif Nat.beq f 337 then a337 else none
theorem g337 : TabG Tryz.prog t337 := TabG.leaf r337
noncomputable def n226 : FuncId → Option FSpec := fun f => bif Nat.blt f 337 then t336 f else t337 f
theorem h226 : TabG Tryz.prog n226 := TabG.node g336 g337
noncomputable def n227 : FuncId → Option FSpec := fun f => bif Nat.blt f 336 then n225 f else n226 f
theorem h227 : TabG Tryz.prog n227 := TabG.node h225 h226
noncomputable def t338 : FuncId → Option FSpec := fun f => bif Nat.beq f 338 then a338 else none
theorem g338 : TabG Tryz.prog t338 := TabG.leaf r338
noncomputable def t339 : FuncId → Option FSpec := fun f => bif Nat.beq f 339 then a339 else none
theorem g339 : TabG Tryz.prog t339 := TabG.leaf r339
noncomputable def n228 : FuncId → Option FSpec := fun f => bif Nat.blt f 339 then t338 f else t339 f
theorem h228 : TabG Tryz.prog n228 := TabG.node g338 g339
noncomputable def t340 : FuncId → Option FSpec := fun f => bif Nat.beq f 340 then a340 else none
theorem g340 : TabG Tryz.prog t340 := TabG.leaf r340
noncomputable def t341 : FuncId → Option FSpec := fun f => bif Nat.beq f 341 then a341 else none
theorem g341 : TabG Tryz.prog t341 := TabG.leaf r341
noncomputable def t342 : FuncId → Option FSpec := fun f => bif Nat.beq f 342 then a342 else none
theorem g342 : TabG Tryz.prog t342 := TabG.leaf r342
noncomputable def n229 : FuncId → Option FSpec := fun f => bif Nat.blt f 342 then t341 f else t342 f
theorem h229 : TabG Tryz.prog n229 := TabG.node g341 g342
noncomputable def n230 : FuncId → Option FSpec := fun f => bif Nat.blt f 341 then t340 f else n229 f
theorem h230 : TabG Tryz.prog n230 := TabG.node g340 h229
noncomputable def n231 : FuncId → Option FSpec := fun f => bif Nat.blt f 340 then n228 f else n230 f
theorem h231 : TabG Tryz.prog n231 := TabG.node h228 h230
noncomputable def n232 : FuncId → Option FSpec := fun f => bif Nat.blt f 338 then n227 f else n231 f
theorem h232 : TabG Tryz.prog n232 := TabG.node h227 h231
noncomputable def t343 : FuncId → Option FSpec := fun f => bif Nat.beq f 343 then a343 else none
theorem g343 : TabG Tryz.prog t343 := TabG.leaf r343
noncomputable def t344 : FuncId → Option FSpec := fun f => bif Nat.beq f 344 then a344 else none
theorem g344 : TabG Tryz.prog t344 := TabG.leaf r344
noncomputable def n233 : FuncId → Option FSpec := fun f => bif Nat.blt f 344 then t343 f else t344 f
theorem h233 : TabG Tryz.prog n233 := TabG.node g343 g344
noncomputable def t345 : FuncId → Option FSpec := fun f => bif Nat.beq f 345 then a345 else none
theorem g345 : TabG Tryz.prog t345 := TabG.leaf r345
noncomputable def t346 : FuncId → Option FSpec := fun f => bif Nat.beq f 346 then a346 else none
theorem g346 : TabG Tryz.prog t346 := TabG.leaf r346
noncomputable def n234 : FuncId → Option FSpec := fun f => bif Nat.blt f 346 then t345 f else t346 f
theorem h234 : TabG Tryz.prog n234 := TabG.node g345 g346
noncomputable def n235 : FuncId → Option FSpec := fun f => bif Nat.blt f 345 then n233 f else n234 f
theorem h235 : TabG Tryz.prog n235 := TabG.node h233 h234
noncomputable def t347 : FuncId → Option FSpec := fun f => bif Nat.beq f 347 then a347 else none
theorem g347 : TabG Tryz.prog t347 := TabG.leaf r347
noncomputable def t348 : FuncId → Option FSpec := fun f => bif Nat.beq f 348 then a348 else none
theorem g348 : TabG Tryz.prog t348 := TabG.leaf r348
noncomputable def n236 : FuncId → Option FSpec := fun f => bif Nat.blt f 348 then t347 f else t348 f
theorem h236 : TabG Tryz.prog n236 := TabG.node g347 g348
noncomputable def t349 : FuncId → Option FSpec := fun f => bif Nat.beq f 349 then a349 else none
theorem g349 : TabG Tryz.prog t349 := TabG.leaf r349
noncomputable def t350 : FuncId → Option FSpec := fun f => bif Nat.beq f 350 then a350 else none
theorem g350 : TabG Tryz.prog t350 := TabG.leaf r350
noncomputable def t351 : FuncId → Option FSpec := fun f => bif Nat.beq f 351 then a351 else none
theorem g351 : TabG Tryz.prog t351 := TabG.leaf r351
noncomputable def n237 : FuncId → Option FSpec := fun f => bif Nat.blt f 351 then t350 f else t351 f
theorem h237 : TabG Tryz.prog n237 := TabG.node g350 g351
noncomputable def n238 : FuncId → Option FSpec := fun f => bif Nat.blt f 350 then t349 f else n237 f
theorem h238 : TabG Tryz.prog n238 := TabG.node g349 h237
noncomputable def n239 : FuncId → Option FSpec := fun f => bif Nat.blt f 349 then n236 f else n238 f
theorem h239 : TabG Tryz.prog n239 := TabG.node h236 h238
noncomputable def n240 : FuncId → Option FSpec := fun f => bif Nat.blt f 347 then n235 f else n239 f
theorem h240 : TabG Tryz.prog n240 := TabG.node h235 h239
noncomputable def n241 : FuncId → Option FSpec := fun f => bif Nat.blt f 343 then n232 f else n240 f
theorem h241 : TabG Tryz.prog n241 := TabG.node h232 h240
noncomputable def n242 : FuncId → Option FSpec := fun f => bif Nat.blt f 334 then n224 f else n241 f
theorem h242 : TabG Tryz.prog n242 := TabG.node h224 h241
noncomputable def t352 : FuncId → Option FSpec := fun f => bif Nat.beq f 352 then a352 else none
theorem g352 : TabG Tryz.prog t352 := TabG.leaf r352
noncomputable def t359 : FuncId → Option FSpec := fun f => bif Nat.beq f 359 then a359 else none
theorem g359 : TabG Tryz.prog t359 := TabG.leaf r359
noncomputable def n243 : FuncId → Option FSpec := fun f => bif Nat.blt f 359 then t352 f else t359 f
theorem h243 : TabG Tryz.prog n243 := TabG.node g352 g359
noncomputable def t360 : FuncId → Option FSpec := fun f => bif Nat.beq f 360 then a360 else none
theorem g360 : TabG Tryz.prog t360 := TabG.leaf r360
noncomputable def t361 : FuncId → Option FSpec := fun f => bif Nat.beq f 361 then a361 else none
theorem g361 : TabG Tryz.prog t361 := TabG.leaf r361
noncomputable def n244 : FuncId → Option FSpec := fun f => bif Nat.blt f 361 then t360 f else t361 f
theorem h244 : TabG Tryz.prog n244 := TabG.node g360 g361
noncomputable def n245 : FuncId → Option FSpec := fun f => bif Nat.blt f 360 then n243 f else n244 f
theorem h245 : TabG Tryz.prog n245 := TabG.node h243 h244
noncomputable def t362 : FuncId → Option FSpec := fun f => bif Nat.beq f 362 then a362 else none
theorem g362 : TabG Tryz.prog t362 := TabG.leaf r362
noncomputable def t363 : FuncId → Option FSpec := fun f => bif Nat.beq f 363 then a363 else none
theorem g363 : TabG Tryz.prog t363 := TabG.leaf r363
noncomputable def n246 : FuncId → Option FSpec := fun f => bif Nat.blt f 363 then t362 f else t363 f
theorem h246 : TabG Tryz.prog n246 := TabG.node g362 g363
noncomputable def t364 : FuncId → Option FSpec := fun f => bif Nat.beq f 364 then a364 else none
theorem g364 : TabG Tryz.prog t364 := TabG.leaf r364
noncomputable def t365 : FuncId → Option FSpec := fun f => bif Nat.beq f 365 then a365 else none
theorem g365 : TabG Tryz.prog t365 := TabG.leaf r365
noncomputable def n247 : FuncId → Option FSpec := fun f => bif Nat.blt f 365 then t364 f else t365 f
theorem h247 : TabG Tryz.prog n247 := TabG.node g364 g365
noncomputable def n248 : FuncId → Option FSpec := fun f => bif Nat.blt f 364 then n246 f else n247 f
theorem h248 : TabG Tryz.prog n248 := TabG.node h246 h247
noncomputable def n249 : FuncId → Option FSpec := fun f => bif Nat.blt f 362 then n245 f else n248 f
theorem h249 : TabG Tryz.prog n249 := TabG.node h245 h248
noncomputable def t366 : FuncId → Option FSpec := fun f => bif Nat.beq f 366 then a366 else none
theorem g366 : TabG Tryz.prog t366 := TabG.leaf r366
noncomputable def t367 : FuncId → Option FSpec := fun f => bif Nat.beq f 367 then a367 else none
theorem g367 : TabG Tryz.prog t367 := TabG.leaf r367
noncomputable def n250 : FuncId → Option FSpec := fun f => bif Nat.blt f 367 then t366 f else t367 f
theorem h250 : TabG Tryz.prog n250 := TabG.node g366 g367
noncomputable def t368 : FuncId → Option FSpec := fun f => bif Nat.beq f 368 then a368 else none
theorem g368 : TabG Tryz.prog t368 := TabG.leaf r368
noncomputable def t369 : FuncId → Option FSpec := fun f => bif Nat.beq f 369 then a369 else none
theorem g369 : TabG Tryz.prog t369 := TabG.leaf r369
noncomputable def n251 : FuncId → Option FSpec := fun f => bif Nat.blt f 369 then t368 f else t369 f
theorem h251 : TabG Tryz.prog n251 := TabG.node g368 g369
noncomputable def n252 : FuncId → Option FSpec := fun f => bif Nat.blt f 368 then n250 f else n251 f
theorem h252 : TabG Tryz.prog n252 := TabG.node h250 h251
noncomputable def t370 : FuncId → Option FSpec := fun f => bif Nat.beq f 370 then a370 else none
theorem g370 : TabG Tryz.prog t370 := TabG.leaf r370
noncomputable def t371 : FuncId → Option FSpec := fun f => bif Nat.beq f 371 then a371 else none
theorem g371 : TabG Tryz.prog t371 := TabG.leaf r371
noncomputable def n253 : FuncId → Option FSpec := fun f => bif Nat.blt f 371 then t370 f else t371 f
theorem h253 : TabG Tryz.prog n253 := TabG.node g370 g371
noncomputable def t372 : FuncId → Option FSpec := fun f => bif Nat.beq f 372 then a372 else none
theorem g372 : TabG Tryz.prog t372 := TabG.leaf r372
noncomputable def t382 : FuncId → Option FSpec := fun f => bif Nat.beq f 382 then a382 else none
theorem g382 : TabG Tryz.prog t382 := TabG.leaf r382
noncomputable def t383 : FuncId → Option FSpec := fun f => bif Nat.beq f 383 then a383 else none
theorem g383 : TabG Tryz.prog t383 := TabG.leaf r383
noncomputable def n254 : FuncId → Option FSpec := fun f => bif Nat.blt f 383 then t382 f else t383 f
theorem h254 : TabG Tryz.prog n254 := TabG.node g382 g383
noncomputable def n255 : FuncId → Option FSpec := fun f => bif Nat.blt f 382 then t372 f else n254 f
theorem h255 : TabG Tryz.prog n255 := TabG.node g372 h254
noncomputable def n256 : FuncId → Option FSpec := fun f => bif Nat.blt f 372 then n253 f else n255 f
theorem h256 : TabG Tryz.prog n256 := TabG.node h253 h255
noncomputable def n257 : FuncId → Option FSpec := fun f => bif Nat.blt f 370 then n252 f else n256 f
theorem h257 : TabG Tryz.prog n257 := TabG.node h252 h256
noncomputable def n258 : FuncId → Option FSpec := fun f => bif Nat.blt f 366 then n249 f else n257 f
theorem h258 : TabG Tryz.prog n258 := TabG.node h249 h257
noncomputable def t384 : FuncId → Option FSpec := fun f => bif Nat.beq f 384 then a384 else none
theorem g384 : TabG Tryz.prog t384 := TabG.leaf r384
noncomputable def t385 : FuncId → Option FSpec := fun f => bif Nat.beq f 385 then a385 else none
theorem g385 : TabG Tryz.prog t385 := TabG.leaf r385
noncomputable def n259 : FuncId → Option FSpec := fun f => bif Nat.blt f 385 then t384 f else t385 f
theorem h259 : TabG Tryz.prog n259 := TabG.node g384 g385
noncomputable def t386 : FuncId → Option FSpec := fun f => bif Nat.beq f 386 then a386 else none
theorem g386 : TabG Tryz.prog t386 := TabG.leaf r386
noncomputable def t387 : FuncId → Option FSpec := fun f => bif Nat.beq f 387 then a387 else none
theorem g387 : TabG Tryz.prog t387 := TabG.leaf r387
noncomputable def n260 : FuncId → Option FSpec := fun f => bif Nat.blt f 387 then t386 f else t387 f
theorem h260 : TabG Tryz.prog n260 := TabG.node g386 g387
noncomputable def n261 : FuncId → Option FSpec := fun f => bif Nat.blt f 386 then n259 f else n260 f
theorem h261 : TabG Tryz.prog n261 := TabG.node h259 h260
noncomputable def t394 : FuncId → Option FSpec := fun f => bif Nat.beq f 394 then a394 else none
theorem g394 : TabG Tryz.prog t394 := TabG.leaf r394
noncomputable def t395 : FuncId → Option FSpec := fun f => bif Nat.beq f 395 then a395 else none
theorem g395 : TabG Tryz.prog t395 := TabG.leaf r395
noncomputable def n262 : FuncId → Option FSpec := fun f => bif Nat.blt f 395 then t394 f else t395 f
theorem h262 : TabG Tryz.prog n262 := TabG.node g394 g395
noncomputable def t396 : FuncId → Option FSpec := fun f => bif Nat.beq f 396 then a396 else none
theorem g396 : TabG Tryz.prog t396 := TabG.leaf r396
noncomputable def t397 : FuncId → Option FSpec := fun f => bif Nat.beq f 397 then a397 else none
theorem g397 : TabG Tryz.prog t397 := TabG.leaf r397
noncomputable def t401 : FuncId → Option FSpec := fun f => bif Nat.beq f 401 then a401 else none
theorem g401 : TabG Tryz.prog t401 := TabG.leaf r401
noncomputable def n263 : FuncId → Option FSpec := fun f => bif Nat.blt f 401 then t397 f else t401 f
theorem h263 : TabG Tryz.prog n263 := TabG.node g397 g401
noncomputable def n264 : FuncId → Option FSpec := fun f => bif Nat.blt f 397 then t396 f else n263 f
theorem h264 : TabG Tryz.prog n264 := TabG.node g396 h263
noncomputable def n265 : FuncId → Option FSpec := fun f => bif Nat.blt f 396 then n262 f else n264 f
theorem h265 : TabG Tryz.prog n265 := TabG.node h262 h264
noncomputable def n266 : FuncId → Option FSpec := fun f => bif Nat.blt f 394 then n261 f else n265 f
theorem h266 : TabG Tryz.prog n266 := TabG.node h261 h265
noncomputable def t402 : FuncId → Option FSpec := fun f => bif Nat.beq f 402 then a402 else none
theorem g402 : TabG Tryz.prog t402 := TabG.leaf r402
noncomputable def t403 : FuncId → Option FSpec := fun f => bif Nat.beq f 403 then a403 else none
theorem g403 : TabG Tryz.prog t403 := TabG.leaf r403
noncomputable def n267 : FuncId → Option FSpec := fun f => bif Nat.blt f 403 then t402 f else t403 f
theorem h267 : TabG Tryz.prog n267 := TabG.node g402 g403
noncomputable def t404 : FuncId → Option FSpec := fun f => bif Nat.beq f 404 then a404 else none
theorem g404 : TabG Tryz.prog t404 := TabG.leaf r404
noncomputable def t405 : FuncId → Option FSpec := fun f => bif Nat.beq f 405 then a405 else none
theorem g405 : TabG Tryz.prog t405 := TabG.leaf r405
noncomputable def n268 : FuncId → Option FSpec := fun f => bif Nat.blt f 405 then t404 f else t405 f
theorem h268 : TabG Tryz.prog n268 := TabG.node g404 g405
noncomputable def n269 : FuncId → Option FSpec := fun f => bif Nat.blt f 404 then n267 f else n268 f
theorem h269 : TabG Tryz.prog n269 := TabG.node h267 h268
noncomputable def t406 : FuncId → Option FSpec := fun f => bif Nat.beq f 406 then a406 else none
theorem g406 : TabG Tryz.prog t406 := TabG.leaf r406
noncomputable def t407 : FuncId → Option FSpec := fun f => bif Nat.beq f 407 then a407 else none
theorem g407 : TabG Tryz.prog t407 := TabG.leaf r407
noncomputable def n270 : FuncId → Option FSpec := fun f => bif Nat.blt f 407 then t406 f else t407 f
theorem h270 : TabG Tryz.prog n270 := TabG.node g406 g407
noncomputable def t408 : FuncId → Option FSpec := fun f => bif Nat.beq f 408 then a408 else none
theorem g408 : TabG Tryz.prog t408 := TabG.leaf r408
noncomputable def t409 : FuncId → Option FSpec := fun f => bif Nat.beq f 409 then a409 else none
theorem g409 : TabG Tryz.prog t409 := TabG.leaf r409
noncomputable def t410 : FuncId → Option FSpec := fun f => bif Nat.beq f 410 then a410 else none
theorem g410 : TabG Tryz.prog t410 := TabG.leaf r410
noncomputable def n271 : FuncId → Option FSpec := fun f => bif Nat.blt f 410 then t409 f else t410 f
theorem h271 : TabG Tryz.prog n271 := TabG.node g409 g410
noncomputable def n272 : FuncId → Option FSpec := fun f => bif Nat.blt f 409 then t408 f else n271 f
theorem h272 : TabG Tryz.prog n272 := TabG.node g408 h271
noncomputable def n273 : FuncId → Option FSpec := fun f => bif Nat.blt f 408 then n270 f else n272 f
theorem h273 : TabG Tryz.prog n273 := TabG.node h270 h272
noncomputable def n274 : FuncId → Option FSpec := fun f => bif Nat.blt f 406 then n269 f else n273 f
theorem h274 : TabG Tryz.prog n274 := TabG.node h269 h273
noncomputable def n275 : FuncId → Option FSpec := fun f => bif Nat.blt f 402 then n266 f else n274 f
theorem h275 : TabG Tryz.prog n275 := TabG.node h266 h274
noncomputable def n276 : FuncId → Option FSpec := fun f => bif Nat.blt f 384 then n258 f else n275 f
theorem h276 : TabG Tryz.prog n276 := TabG.node h258 h275
noncomputable def n277 : FuncId → Option FSpec := fun f => bif Nat.blt f 352 then n242 f else n276 f
theorem h277 : TabG Tryz.prog n277 := TabG.node h242 h276
noncomputable def n278 : FuncId → Option FSpec := fun f => bif Nat.blt f 313 then n208 f else n277 f
theorem h278 : TabG Tryz.prog n278 := TabG.node h208 h277
noncomputable def n279 : FuncId → Option FSpec := fun f => bif Nat.blt f 227 then n139 f else n278 f
theorem h279 : TabG Tryz.prog n279 := TabG.node h139 h278
noncomputable def FT : FuncId → Option FSpec := n279
theorem FT_ok : TabOK Tryz.prog FT := TabG.ok (by kernel_rfl) h279
end Big
#print axioms Big.FT_ok
end Tw
