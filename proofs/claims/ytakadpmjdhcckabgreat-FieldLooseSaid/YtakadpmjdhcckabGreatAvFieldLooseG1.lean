/- Each function tells what its mirror tells. -/
import Derived.Test.YtakadpmjdhcckabGreatAvFieldLooseM1
import Derived.Test.YtakadpmjdhcckabGreatProg
import Derived.KernelRfl
namespace Go.Av
set_option linter.unusedSectionVars false
open Go.Proofs
set_option linter.unusedVariables false
set_option linter.unusedSimpArgs false
set_option maxHeartbeats 4000000
set_option maxRecDepth 10000
@[irreducible] noncomputable def Pg : Program := Tryz.prog
theorem Pg_eq : Pg = Tryz.prog := by unfold Pg; rfl
theorem mixed : Pg.follows .mixedOrders = true := by kernel_rfl
theorem fn9 : Pg.funcs[9]? = some Tryz.f9 := by rw [Pg_eq]; exact Tryz.func9
theorem fn14 : Pg.funcs[14]? = some Tryz.f14 := by rw [Pg_eq]; exact Tryz.func14
theorem fn21 : Pg.funcs[21]? = some Tryz.f21 := by rw [Pg_eq]; exact Tryz.func21
theorem fn24 : Pg.funcs[24]? = some Tryz.f24 := by rw [Pg_eq]; exact Tryz.func24
theorem fn26 : Pg.funcs[26]? = some Tryz.f26 := by rw [Pg_eq]; exact Tryz.func26
theorem fn28 : Pg.funcs[28]? = some Tryz.f28 := by rw [Pg_eq]; exact Tryz.func28
theorem fn30 : Pg.funcs[30]? = some Tryz.f30 := by rw [Pg_eq]; exact Tryz.func30
theorem fn44 : Pg.funcs[44]? = some Tryz.f44 := by rw [Pg_eq]; exact Tryz.func44
theorem fn45 : Pg.funcs[45]? = some Tryz.f45 := by rw [Pg_eq]; exact Tryz.func45
theorem fn46 : Pg.funcs[46]? = some Tryz.f46 := by rw [Pg_eq]; exact Tryz.func46
theorem fn47 : Pg.funcs[47]? = some Tryz.f47 := by rw [Pg_eq]; exact Tryz.func47
theorem fn48 : Pg.funcs[48]? = some Tryz.f48 := by rw [Pg_eq]; exact Tryz.func48
theorem fn49 : Pg.funcs[49]? = some Tryz.f49 := by rw [Pg_eq]; exact Tryz.func49
theorem fn54 : Pg.funcs[54]? = some Tryz.f54 := by rw [Pg_eq]; exact Tryz.func54
theorem fn57 : Pg.funcs[57]? = some Tryz.f57 := by rw [Pg_eq]; exact Tryz.func57
theorem fn58 : Pg.funcs[58]? = some Tryz.f58 := by rw [Pg_eq]; exact Tryz.func58
theorem fn59 : Pg.funcs[59]? = some Tryz.f59 := by rw [Pg_eq]; exact Tryz.func59
theorem fn74 : Pg.funcs[74]? = some Tryz.f74 := by rw [Pg_eq]; exact Tryz.func74
theorem fn75 : Pg.funcs[75]? = some Tryz.f75 := by rw [Pg_eq]; exact Tryz.func75
theorem fn76 : Pg.funcs[76]? = some Tryz.f76 := by rw [Pg_eq]; exact Tryz.func76
theorem fn77 : Pg.funcs[77]? = some Tryz.f77 := by rw [Pg_eq]; exact Tryz.func77
theorem fn78 : Pg.funcs[78]? = some Tryz.f78 := by rw [Pg_eq]; exact Tryz.func78
theorem fn79 : Pg.funcs[79]? = some Tryz.f79 := by rw [Pg_eq]; exact Tryz.func79
theorem fn84 : Pg.funcs[84]? = some Tryz.f84 := by rw [Pg_eq]; exact Tryz.func84
theorem fn86 : Pg.funcs[86]? = some Tryz.f86 := by rw [Pg_eq]; exact Tryz.func86
theorem fn87 : Pg.funcs[87]? = some Tryz.f87 := by rw [Pg_eq]; exact Tryz.func87
theorem fn88 : Pg.funcs[88]? = some Tryz.f88 := by rw [Pg_eq]; exact Tryz.func88
theorem fn90 : Pg.funcs[90]? = some Tryz.f90 := by rw [Pg_eq]; exact Tryz.func90
theorem fn91 : Pg.funcs[91]? = some Tryz.f91 := by rw [Pg_eq]; exact Tryz.func91
theorem fn114 : Pg.funcs[114]? = some Tryz.f114 := by rw [Pg_eq]; exact Tryz.func114
theorem fn115 : Pg.funcs[115]? = some Tryz.f115 := by rw [Pg_eq]; exact Tryz.func115
theorem fn116 : Pg.funcs[116]? = some Tryz.f116 := by rw [Pg_eq]; exact Tryz.func116
theorem fn117 : Pg.funcs[117]? = some Tryz.f117 := by rw [Pg_eq]; exact Tryz.func117
theorem fn118 : Pg.funcs[118]? = some Tryz.f118 := by rw [Pg_eq]; exact Tryz.func118
theorem fn119 : Pg.funcs[119]? = some Tryz.f119 := by rw [Pg_eq]; exact Tryz.func119
theorem fn120 : Pg.funcs[120]? = some Tryz.f120 := by rw [Pg_eq]; exact Tryz.func120
theorem fn121 : Pg.funcs[121]? = some Tryz.f121 := by rw [Pg_eq]; exact Tryz.func121
theorem fn122 : Pg.funcs[122]? = some Tryz.f122 := by rw [Pg_eq]; exact Tryz.func122
theorem fn123 : Pg.funcs[123]? = some Tryz.f123 := by rw [Pg_eq]; exact Tryz.func123
theorem fn131 : Pg.funcs[131]? = some Tryz.f131 := by rw [Pg_eq]; exact Tryz.func131
theorem fn132 : Pg.funcs[132]? = some Tryz.f132 := by rw [Pg_eq]; exact Tryz.func132
theorem fn134 : Pg.funcs[134]? = some Tryz.f134 := by rw [Pg_eq]; exact Tryz.func134
theorem fn135 : Pg.funcs[135]? = some Tryz.f135 := by rw [Pg_eq]; exact Tryz.func135
theorem fn137 : Pg.funcs[137]? = some Tryz.f137 := by rw [Pg_eq]; exact Tryz.func137
theorem fn143 : Pg.funcs[143]? = some Tryz.f143 := by rw [Pg_eq]; exact Tryz.func143
theorem fn144 : Pg.funcs[144]? = some Tryz.f144 := by rw [Pg_eq]; exact Tryz.func144
theorem fn145 : Pg.funcs[145]? = some Tryz.f145 := by rw [Pg_eq]; exact Tryz.func145
theorem fn146 : Pg.funcs[146]? = some Tryz.f146 := by rw [Pg_eq]; exact Tryz.func146
theorem fn147 : Pg.funcs[147]? = some Tryz.f147 := by rw [Pg_eq]; exact Tryz.func147
theorem fn148 : Pg.funcs[148]? = some Tryz.f148 := by rw [Pg_eq]; exact Tryz.func148
theorem fn149 : Pg.funcs[149]? = some Tryz.f149 := by rw [Pg_eq]; exact Tryz.func149
theorem fn150 : Pg.funcs[150]? = some Tryz.f150 := by rw [Pg_eq]; exact Tryz.func150
theorem fn151 : Pg.funcs[151]? = some Tryz.f151 := by rw [Pg_eq]; exact Tryz.func151
theorem fn152 : Pg.funcs[152]? = some Tryz.f152 := by rw [Pg_eq]; exact Tryz.func152
theorem fn153 : Pg.funcs[153]? = some Tryz.f153 := by rw [Pg_eq]; exact Tryz.func153
theorem fn154 : Pg.funcs[154]? = some Tryz.f154 := by rw [Pg_eq]; exact Tryz.func154
theorem fn159 : Pg.funcs[159]? = some Tryz.f159 := by rw [Pg_eq]; exact Tryz.func159
theorem fn160 : Pg.funcs[160]? = some Tryz.f160 := by rw [Pg_eq]; exact Tryz.func160
theorem fn161 : Pg.funcs[161]? = some Tryz.f161 := by rw [Pg_eq]; exact Tryz.func161
theorem fn162 : Pg.funcs[162]? = some Tryz.f162 := by rw [Pg_eq]; exact Tryz.func162
theorem fn164 : Pg.funcs[164]? = some Tryz.f164 := by rw [Pg_eq]; exact Tryz.func164
theorem fn165 : Pg.funcs[165]? = some Tryz.f165 := by rw [Pg_eq]; exact Tryz.func165
theorem fn171 : Pg.funcs[171]? = some Tryz.f171 := by rw [Pg_eq]; exact Tryz.func171
theorem fn172 : Pg.funcs[172]? = some Tryz.f172 := by rw [Pg_eq]; exact Tryz.func172
theorem fn173 : Pg.funcs[173]? = some Tryz.f173 := by rw [Pg_eq]; exact Tryz.func173
theorem fn174 : Pg.funcs[174]? = some Tryz.f174 := by rw [Pg_eq]; exact Tryz.func174
theorem fn175 : Pg.funcs[175]? = some Tryz.f175 := by rw [Pg_eq]; exact Tryz.func175
theorem fn176 : Pg.funcs[176]? = some Tryz.f176 := by rw [Pg_eq]; exact Tryz.func176
theorem fn177 : Pg.funcs[177]? = some Tryz.f177 := by rw [Pg_eq]; exact Tryz.func177
theorem fn178 : Pg.funcs[178]? = some Tryz.f178 := by rw [Pg_eq]; exact Tryz.func178
theorem fn189 : Pg.funcs[189]? = some Tryz.f189 := by rw [Pg_eq]; exact Tryz.func189
theorem fn190 : Pg.funcs[190]? = some Tryz.f190 := by rw [Pg_eq]; exact Tryz.func190
theorem fn202 : Pg.funcs[202]? = some Tryz.f202 := by rw [Pg_eq]; exact Tryz.func202
theorem fn203 : Pg.funcs[203]? = some Tryz.f203 := by rw [Pg_eq]; exact Tryz.func203
theorem fn204 : Pg.funcs[204]? = some Tryz.f204 := by rw [Pg_eq]; exact Tryz.func204
theorem fn205 : Pg.funcs[205]? = some Tryz.f205 := by rw [Pg_eq]; exact Tryz.func205
theorem fn206 : Pg.funcs[206]? = some Tryz.f206 := by rw [Pg_eq]; exact Tryz.func206
theorem fn208 : Pg.funcs[208]? = some Tryz.f208 := by rw [Pg_eq]; exact Tryz.func208
theorem fn209 : Pg.funcs[209]? = some Tryz.f209 := by rw [Pg_eq]; exact Tryz.func209
theorem fn213 : Pg.funcs[213]? = some Tryz.f213 := by rw [Pg_eq]; exact Tryz.func213
theorem fn214 : Pg.funcs[214]? = some Tryz.f214 := by rw [Pg_eq]; exact Tryz.func214
theorem fn215 : Pg.funcs[215]? = some Tryz.f215 := by rw [Pg_eq]; exact Tryz.func215
theorem fn216 : Pg.funcs[216]? = some Tryz.f216 := by rw [Pg_eq]; exact Tryz.func216
theorem fn230 : Pg.funcs[230]? = some Tryz.f230 := by rw [Pg_eq]; exact Tryz.func230
theorem fn231 : Pg.funcs[231]? = some Tryz.f231 := by rw [Pg_eq]; exact Tryz.func231
theorem sz3 : szOf Pg 3 = some 1 := by kernel_rfl
theorem ag3 : aggOf Pg 3 = some false := by kernel_rfl
theorem zv3 : ZeroV Pg 3 (.int .i64 0) := ⟨((Pg.info? 3).bind (·.zero)).getD .nilFunc, (by kernel_rfl), (by kernel_rfl), (by kernel_rfl)⟩
theorem sz9 : szOf Pg 9 = some 1 := by kernel_rfl
theorem ag9 : aggOf Pg 9 = some false := by kernel_rfl
theorem und9 : Pg.underlying 9 = some .string := by kernel_rfl
theorem sz27 : szOf Pg 27 = some 1 := by kernel_rfl
theorem ag27 : aggOf Pg 27 = some false := by kernel_rfl
theorem und27 : Pg.underlying 27 = some (.int .i64) := by kernel_rfl
theorem zv27 : ZeroV Pg 27 (.int .i64 0) := ⟨((Pg.info? 27).bind (·.zero)).getD .nilFunc, (by kernel_rfl), (by kernel_rfl), (by kernel_rfl)⟩
theorem sz32 : szOf Pg 32 = some 16 := by kernel_rfl
theorem ag32 : aggOf Pg 32 = some true := by kernel_rfl
theorem arr32 : arrOf Pg 32 = some (16, 1, false) := by kernel_rfl
theorem zv32 : ZeroV Pg 32 (.arr 1 (List.replicate 16 (.int .i64 0))) := ⟨((Pg.info? 32).bind (·.zero)).getD .nilFunc, (by kernel_rfl), (by kernel_rfl), (by kernel_rfl)⟩
theorem sz33 : szOf Pg 33 = some 256 := by kernel_rfl
theorem ag33 : aggOf Pg 33 = some true := by kernel_rfl
theorem arr33 : arrOf Pg 33 = some (16, 16, true) := by kernel_rfl
theorem sz35 : szOf Pg 35 = some 288 := by kernel_rfl
theorem ag35 : aggOf Pg 35 = some true := by kernel_rfl
theorem lay35 : layOf Pg 35 = some [(0, 16, true), (16, 16, true), (32, 256, true)] := by kernel_rfl
theorem zv35 : ZeroV Pg 35 (.st [.arr 1 (List.replicate 16 (.int .i64 0)), .arr 1 (List.replicate 16 (.int .i64 0)), .arr 16 (List.replicate 16 (.arr 1 (List.replicate 16 (.int .i64 0))))]) := ⟨((Pg.info? 35).bind (·.zero)).getD .nilFunc, (by kernel_rfl), (by kernel_rfl), (by kernel_rfl)⟩
theorem sz37 : szOf Pg 37 = some 579 := by kernel_rfl
theorem ag37 : aggOf Pg 37 = some true := by kernel_rfl
theorem lay37 : layOf Pg 37 = some [(0, 1, false), (1, 1, false), (2, 1, false), (3, 288, true), (291, 288, true)] := by kernel_rfl
theorem zv37 : ZeroV Pg 37 (.st [.int .i64 0, .int .i64 0, .int .i64 0, .st [.arr 1 (List.replicate 16 (.int .i64 0)), .arr 1 (List.replicate 16 (.int .i64 0)), .arr 16 (List.replicate 16 (.arr 1 (List.replicate 16 (.int .i64 0))))], .st [.arr 1 (List.replicate 16 (.int .i64 0)), .arr 1 (List.replicate 16 (.int .i64 0)), .arr 16 (List.replicate 16 (.arr 1 (List.replicate 16 (.int .i64 0))))]]) := ⟨((Pg.info? 37).bind (·.zero)).getD .nilFunc, (by kernel_rfl), (by kernel_rfl), (by kernel_rfl)⟩
theorem sz39 : szOf Pg 39 = some 4 := by kernel_rfl
theorem ag39 : aggOf Pg 39 = some true := by kernel_rfl
theorem lay39 : layOf Pg 39 = some [(0, 1, false), (1, 1, false), (2, 1, false), (3, 1, false)] := by kernel_rfl
theorem zv39 : ZeroV Pg 39 (.st [.int .i64 0, .int .i64 0, .int .i64 0, .int .i64 0]) := ⟨((Pg.info? 39).bind (·.zero)).getD .nilFunc, (by kernel_rfl), (by kernel_rfl), (by kernel_rfl)⟩
theorem sz40 : szOf Pg 40 = some 1 := by kernel_rfl
theorem ag40 : aggOf Pg 40 = some false := by kernel_rfl
theorem sli40 : sliOf Pg 40 = some (101, 5, true, 40) := by kernel_rfl
theorem und40 : Pg.underlying 40 = some (.slice 101) := by kernel_rfl
theorem sz42 : szOf Pg 42 = some 587 := by kernel_rfl
theorem ag42 : aggOf Pg 42 = some true := by kernel_rfl
theorem lay42 : layOf Pg 42 = some [(0, 1, false), (1, 1, false), (2, 1, false), (3, 579, true), (582, 4, true), (586, 1, false)] := by kernel_rfl
theorem zv42 : ZeroV Pg 42 (.st [.str ⟨#[]⟩, .int .i64 0, .int .i64 0, .st [.int .i64 0, .int .i64 0, .int .i64 0, .st [.arr 1 (List.replicate 16 (.int .i64 0)), .arr 1 (List.replicate 16 (.int .i64 0)), .arr 16 (List.replicate 16 (.arr 1 (List.replicate 16 (.int .i64 0))))], .st [.arr 1 (List.replicate 16 (.int .i64 0)), .arr 1 (List.replicate 16 (.int .i64 0)), .arr 16 (List.replicate 16 (.arr 1 (List.replicate 16 (.int .i64 0))))]], .st [.int .i64 0, .int .i64 0, .int .i64 0, .int .i64 0], .nils]) := ⟨((Pg.info? 42).bind (·.zero)).getD .nilFunc, (by kernel_rfl), (by kernel_rfl), (by kernel_rfl)⟩
theorem sli79 : sliOf Pg 79 = some (83, 5, true, 40) := by kernel_rfl
theorem arr81 : arrOf Pg 81 = some (16, 587, true) := by kernel_rfl
theorem zv81 : ZeroV Pg 81 (.arr 587 (List.replicate 16 (.st [.str ⟨#[]⟩, .int .i64 0, .int .i64 0, .st [.int .i64 0, .int .i64 0, .int .i64 0, .st [.arr 1 (List.replicate 16 (.int .i64 0)), .arr 1 (List.replicate 16 (.int .i64 0)), .arr 16 (List.replicate 16 (.arr 1 (List.replicate 16 (.int .i64 0))))], .st [.arr 1 (List.replicate 16 (.int .i64 0)), .arr 1 (List.replicate 16 (.int .i64 0)), .arr 16 (List.replicate 16 (.arr 1 (List.replicate 16 (.int .i64 0))))]], .st [.int .i64 0, .int .i64 0, .int .i64 0, .int .i64 0], .nils]))) := ⟨((Pg.info? 81).bind (·.zero)).getD .nilFunc, (by kernel_rfl), (by kernel_rfl), (by kernel_rfl)⟩
theorem sz83 : szOf Pg 83 = some 5 := by kernel_rfl
theorem ag83 : aggOf Pg 83 = some true := by kernel_rfl
theorem lay83 : layOf Pg 83 = some [(0, 1, false), (1, 1, false), (2, 1, false), (3, 1, false), (4, 1, false)] := by kernel_rfl
theorem zv83 : ZeroV Pg 83 (.st [.int .i64 0, .int .i64 0, .int .i64 0, .int .i64 0, .int .i64 0]) := ⟨((Pg.info? 83).bind (·.zero)).getD .nilFunc, (by kernel_rfl), (by kernel_rfl), (by kernel_rfl)⟩
theorem sz101 : szOf Pg 101 = some 5 := by kernel_rfl
theorem ag101 : aggOf Pg 101 = some true := by kernel_rfl
theorem lay101 : layOf Pg 101 = some [(0, 1, false), (1, 1, false), (2, 1, false), (3, 1, false), (4, 1, false)] := by kernel_rfl
theorem zv101 : ZeroV Pg 101 (.st [.int .i64 0, .int .i64 0, .int .i64 0, .int .i64 0, .int .i64 0]) := ⟨((Pg.info? 101).bind (·.zero)).getD .nilFunc, (by kernel_rfl), (by kernel_rfl), (by kernel_rfl)⟩
theorem sz153 : szOf Pg 153 = some 1 := by kernel_rfl
theorem ag153 : aggOf Pg 153 = some false := by kernel_rfl
theorem sli153 : sliOf Pg 153 = some (3, 1, false, 8) := by kernel_rfl
theorem und153 : Pg.underlying 153 = some (.slice 3) := by kernel_rfl
theorem und162 : Pg.underlying 162 = some (.map 163 3) := by kernel_rfl
theorem sz163 : szOf Pg 163 = some 2 := by kernel_rfl
theorem arr163 : arrOf Pg 163 = some (2, 1, false) := by kernel_rfl
theorem zv163 : ZeroV Pg 163 (.arr 1 (List.replicate 2 (.int .i64 0))) := ⟨((Pg.info? 163).bind (·.zero)).getD .nilFunc, (by kernel_rfl), (by kernel_rfl), (by kernel_rfl)⟩
theorem arr205 : arrOf Pg 205 = some (2, 2, true) := by kernel_rfl
theorem zv205 : ZeroV Pg 205 (.arr 2 (List.replicate 2 (.arr 1 (List.replicate 2 (.int .i64 0))))) := ⟨((Pg.info? 205).bind (·.zero)).getD .nilFunc, (by kernel_rfl), (by kernel_rfl), (by kernel_rfl)⟩
theorem arr206 : arrOf Pg 206 = some (4, 2, true) := by kernel_rfl
theorem zv206 : ZeroV Pg 206 (.arr 2 (List.replicate 4 (.arr 1 (List.replicate 2 (.int .i64 0))))) := ⟨((Pg.info? 206).bind (·.zero)).getD .nilFunc, (by kernel_rfl), (by kernel_rfl), (by kernel_rfl)⟩
theorem key163 : Maps.Keyed Pg 163 := .of_law (deep_law_gate (by kernel_rfl) (of_decide_eq_true (by kernel_rfl)) (of_decide_eq_true (by kernel_rfl)) (by kernel_rfl) (by kernel_rfl))
theorem kt163 : KeyT Pg 163 E_A2_i64 okInts := keyT_ints (e := 3) (by kernel_rfl) (by kernel_rfl) (by kernel_rfl) (by kernel_rfl) (by kernel_rfl) (of_decide_eq_true (by kernel_rfl))
theorem eqt37 : EqT Pg 37 (.st [(0, .int .i64), (1, .int .i64), (2, .int .i64), (3, .st [(0, .arr 16 1 (.int .i64)), (16, .arr 16 1 (.int .i64)), (32, .arr 16 16 (.arr 16 1 (.int .i64)))] 288), (291, .st [(0, .arr 16 1 (.int .i64)), (16, .arr 16 1 (.int .i64)), (32, .arr 16 16 (.arr 16 1 (.int .i64)))] 288)] 579) := ⟨by kernel_rfl, by kernel_rfl⟩
theorem eqt39 : EqT Pg 39 (.st [(0, .int .i64), (1, .int .i64), (2, .int .i64), (3, .int .i64)] 4) := ⟨by kernel_rfl, by kernel_rfl⟩
theorem ent14 : enters Pg 14 = true := by kernel_rfl
theorem ent21 : enters Pg 21 = true := by kernel_rfl
theorem ent24 : enters Pg 24 = true := by kernel_rfl
theorem ent26 : enters Pg 26 = true := by kernel_rfl
theorem ent28 : enters Pg 28 = true := by kernel_rfl
theorem ent30 : enters Pg 30 = true := by kernel_rfl
theorem ent44 : enters Pg 44 = true := by kernel_rfl
theorem ent45 : enters Pg 45 = true := by kernel_rfl
theorem ent46 : enters Pg 46 = true := by kernel_rfl
theorem ent47 : enters Pg 47 = true := by kernel_rfl
theorem ent48 : enters Pg 48 = true := by kernel_rfl
theorem ent49 : enters Pg 49 = true := by kernel_rfl
theorem ent54 : enters Pg 54 = true := by kernel_rfl
theorem ent57 : enters Pg 57 = true := by kernel_rfl
theorem ent58 : enters Pg 58 = true := by kernel_rfl
theorem ent59 : enters Pg 59 = true := by kernel_rfl
theorem ent74 : enters Pg 74 = true := by kernel_rfl
theorem ent75 : enters Pg 75 = true := by kernel_rfl
theorem ent76 : enters Pg 76 = true := by kernel_rfl
theorem ent77 : enters Pg 77 = true := by kernel_rfl
theorem ent78 : enters Pg 78 = true := by kernel_rfl
theorem ent79 : enters Pg 79 = true := by kernel_rfl
theorem ent84 : enters Pg 84 = true := by kernel_rfl
theorem ent86 : enters Pg 86 = true := by kernel_rfl
theorem ent87 : enters Pg 87 = true := by kernel_rfl
theorem ent88 : enters Pg 88 = true := by kernel_rfl
theorem ent90 : enters Pg 90 = true := by kernel_rfl
theorem ent91 : enters Pg 91 = true := by kernel_rfl
theorem ent114 : enters Pg 114 = true := by kernel_rfl
theorem ent115 : enters Pg 115 = true := by kernel_rfl
theorem ent116 : enters Pg 116 = true := by kernel_rfl
theorem ent117 : enters Pg 117 = true := by kernel_rfl
theorem ent118 : enters Pg 118 = true := by kernel_rfl
theorem ent119 : enters Pg 119 = true := by kernel_rfl
theorem ent120 : enters Pg 120 = true := by kernel_rfl
theorem ent121 : enters Pg 121 = true := by kernel_rfl
theorem ent122 : enters Pg 122 = true := by kernel_rfl
theorem ent123 : enters Pg 123 = true := by kernel_rfl
theorem ent131 : enters Pg 131 = true := by kernel_rfl
theorem ent132 : enters Pg 132 = true := by kernel_rfl
theorem ent133 : enters Pg 133 = true := by kernel_rfl
theorem ent134 : enters Pg 134 = true := by kernel_rfl
theorem ent135 : enters Pg 135 = true := by kernel_rfl
theorem ent137 : enters Pg 137 = true := by kernel_rfl
theorem ent143 : enters Pg 143 = true := by kernel_rfl
theorem ent144 : enters Pg 144 = true := by kernel_rfl
theorem ent145 : enters Pg 145 = true := by kernel_rfl
theorem ent146 : enters Pg 146 = true := by kernel_rfl
theorem ent147 : enters Pg 147 = true := by kernel_rfl
theorem ent148 : enters Pg 148 = true := by kernel_rfl
theorem ent149 : enters Pg 149 = true := by kernel_rfl
theorem ent150 : enters Pg 150 = true := by kernel_rfl
theorem ent151 : enters Pg 151 = true := by kernel_rfl
theorem ent152 : enters Pg 152 = true := by kernel_rfl
theorem ent153 : enters Pg 153 = true := by kernel_rfl
theorem ent154 : enters Pg 154 = true := by kernel_rfl
theorem ent159 : enters Pg 159 = true := by kernel_rfl
theorem ent160 : enters Pg 160 = true := by kernel_rfl
theorem ent161 : enters Pg 161 = true := by kernel_rfl
theorem ent162 : enters Pg 162 = true := by kernel_rfl
theorem ent164 : enters Pg 164 = true := by kernel_rfl
theorem ent165 : enters Pg 165 = true := by kernel_rfl
theorem ent171 : enters Pg 171 = true := by kernel_rfl
theorem ent172 : enters Pg 172 = true := by kernel_rfl
theorem ent173 : enters Pg 173 = true := by kernel_rfl
theorem ent174 : enters Pg 174 = true := by kernel_rfl
theorem ent175 : enters Pg 175 = true := by kernel_rfl
theorem ent176 : enters Pg 176 = true := by kernel_rfl
theorem ent177 : enters Pg 177 = true := by kernel_rfl
theorem ent178 : enters Pg 178 = true := by kernel_rfl
theorem ent189 : enters Pg 189 = true := by kernel_rfl
theorem ent190 : enters Pg 190 = true := by kernel_rfl
theorem ent202 : enters Pg 202 = true := by kernel_rfl
theorem ent203 : enters Pg 203 = true := by kernel_rfl
theorem ent204 : enters Pg 204 = true := by kernel_rfl
theorem ent205 : enters Pg 205 = true := by kernel_rfl
theorem ent206 : enters Pg 206 = true := by kernel_rfl
theorem ent208 : enters Pg 208 = true := by kernel_rfl
theorem ent209 : enters Pg 209 = true := by kernel_rfl
theorem ent213 : enters Pg 213 = true := by kernel_rfl
theorem ent214 : enters Pg 214 = true := by kernel_rfl
theorem ent215 : enters Pg 215 = true := by kernel_rfl
theorem ent216 : enters Pg 216 = true := by kernel_rfl
theorem ent230 : enters Pg 230 = true := by kernel_rfl
theorem ent231 : enters Pg 231 = true := by kernel_rfl
theorem C_num_Is {a1 : Int} {r : Bool} (h : num_Is a1 = some r) : PureC Pg 77 [(V.int .i64) a1] (V.bool r) := by
  refine PureC.ofF (CallSpec.of_bodyF 9 0 fn77 rfl rfl rfl (Nat.le_of_ble_eq_true rfl) ?_) (ltL_c ((TyOk.int .i64).lt _ _) ltL_nil) (TyOk.bool.lt _ _)
  replace h := Ok.of h
  unfold num_Is at h
  refine AWp.seq ?_
  refine W.reg [0] rfl ?_
  refine S.sil 2 rfl rfl (fun _ hF => .assign cB) ?_
  refine S.nil ?_
  refine thenQ_n ?_
  refine AWp.seq ?_
  refine W.reg [0, 1, 2, 3, 4, 5, 6] rfl ?_
  refine S.sil 3 rfl rfl (fun _ hF => .move (lk 1 rfl rfl)) ?_
  refine S.sil 4 rfl rfl (fun _ hF => .geq (lk 0 rfl rfl) cI) ?_
  refine S.sil 5 rfl rfl (fun _ hF => .move (lk 0 rfl rfl)) ?_
  refine S.gsil 6 2 5 true rfl rfl rfl (lk 0 rfl rfl) (fun hB _ hF => .move (lk 4 rfl rfl)) ?_
  refine S.gsil 7 2 5 true rfl rfl rfl (lk 1 rfl rfl) (fun hB _ hF => .leq (ifT hB (lk 0 rfl rfl)) cI) ?_
  refine S.sil 8 rfl rfl (fun _ hF => .pickAnd (lk 2 rfl rfl) (fun h => ifT h (lk 0 rfl rfl)) cB) ?_
  obtain ⟨v2, ev2, h⟩ := h.nam
  refine S.sil 2 rfl rfl (fun _ hF => .nv (.assign (lk 0 rfl rfl)) (congrArg V.bool ev2.symm)) ?_
  refine S.nil ?_
  refine thenQ_n ?_
  refine AWp.ret ?_
  obtain rfl := h.ret
  exact endF1 rfl (Wk.selS [] .nil rfl (SelE.leaf (lk 0 rfl rfl) rfl (.refl _) (fun m => (TyOk.bool.lt _ _)) .nil) .nil) (.tmp (lk 0 rfl rfl) rfl) rfl rfl
theorem C_num_checked {a1 : Int} {a2 : List Int} {r : Int × Int} (h : num_checked a1 a2 = some r) : PureC Pg 209 [(V.int .i64) a1, .sl 1 .exact (List.map (V.int .i64) a2)] (.tup [(V.int .i64) r.1, (V.int .i64) r.2]) := by
  refine PureC.ofF (CallSpec.of_bodyF 22 0 fn209 rfl rfl rfl (Nat.le_of_ble_eq_true rfl) ?_) (ltL_c ((TyOk.int .i64).lt _ _) (ltL_c (lt_sl rfl ((TyOk.int .i64).ltm _ _)) ltL_nil)) (lt_tup (ltL_c ((TyOk.int .i64).lt _ _) (ltL_c ((TyOk.int .i64).lt _ _) ltL_nil)))
  replace h := Ok.of h
  unfold num_checked at h
  refine AWp.seq ?_
  refine W.reg [0, 1] rfl ?_
  refine S.sil 4 rfl rfl (fun _ hF => .assign cI) ?_
  refine S.sil 5 rfl rfl (fun _ hF => .assign cI) ?_
  refine S.nil ?_
  refine thenQ_n ?_
  refine AWp.seq ?_
  refine AWp.seq ?_
  refine W.reg [0, 1, 2, 3, 4, 5] rfl ?_
  refine S.sil 8 rfl rfl (fun _ hF => .move (lk 3 rfl rfl)) ?_
  refine S.sil 9 rfl rfl (fun _ hF => .move (lk 3 rfl rfl)) ?_
  refine S.sil 10 rfl rfl (fun _ hF => .buildSliceW sli153 zv3 rfl rfl (by decide) (.cons (lk 0 rfl rfl) rfl (.refl _) rfl .nil)) ?_
  obtain ⟨l3, m3, h⟩ := h.bnd
  refine S.eff 11 rfl rfl (.nf (v2 := .sl 1 (.tok 0) (List.map (V.int .i64) l3)) (H2 := [.tail]) (.appX sli153 und153 zv3 rfl (by decide) (lk 2 rfl rfl) (V.sub.refl _) (lk 0 rfl rfl) Rd.sl m3 rfl) rfl rfl) trivial ?_
  refine S.sil 12 rfl rfl (fun _ hF => .lenT sli153 (lk 0 rfl rfl) (vsub rfl (.forget _ _ _))) ?_
  refine S.sil 13 rfl rfl (fun _ hF => .move cI) ?_
  refine S.nil ?_
  refine thenQ_n ?_
  refine AWp.cutL (fun x6 => ⟨[(5, (V.int .i64) 0), (4, (V.int .i64) 0), (0, (V.int .i64) a1)], []⟩) nc_then h (fun q4 hq4 h => ?_) (fun x6 h => ?_)
  · refine AWp.block ?_
    refine AWp.loopT (fun s5 => ⟨[(13, (V.int .i64) s5), (12, (V.int .i64) (l3.length : Int)), (11, .sl 1 (.tok 0) (List.map (V.int .i64) l3)), (5, (V.int .i64) 0), (4, (V.int .i64) 0), (0, (V.int .i64) a1)], [.tail]⟩) hq4 (Wk.selS [0] (by decide) rfl (SelE.leaf (lk 0 rfl rfl) rfl (.refl _) (fun m => ((TyOk.int .i64).lt _ _)) (SelE.leaf (lk 1 rfl rfl) rfl (.refl _) (fun m => ((TyOk.int .i64).lt _ _)) (SelE.spec (lk 2 rfl rfl) rfl (.refl _) (ren_sl (TyOk.int .i64) _) (lt_sl rfl ((TyOk.int .i64).ltm _ _)) (SelE.leaf (lk 6 rfl rfl) rfl (.refl _) (fun m => ((TyOk.int .i64).lt _ _)) (SelE.leaf (lk 7 rfl rfl) rfl (.refl _) (fun m => ((TyOk.int .i64).lt _ _)) (SelE.leaf (lk 8 rfl rfl) rfl (.refl _) (fun m => ((TyOk.int .i64).lt _ _)) .nil)))))) (.cons rfl rfl trivial .nil)) (fun _ s5 h4 => ?_)
    rw [num_checked_L1] at h4
    refine AWp.seq ?_
    refine W.reg [0] rfl ?_
    refine S.sil 14 rfl rfl (fun _ hF => .lss (lk 0 rfl rfl) (lk 1 rfl rfl)) ?_
    refine S.nil ?_
    refine thenQ_n ?_
    refine AWp.seq ?_
    refine AWp.condM (lk 0 rfl rfl) h4 (fun c1 h4 => ?_) (fun c1 h4 => ?_)
    · skip
      refine AWp.skip ?_
      refine thenQ_n ?_
      refine AWp.seq ?_
      refine AWp.block ?_
      refine AWp.seq ?_
      refine W.reg [0, 1, 2] rfl ?_
      obtain ⟨j7, m7, h4⟩ := h4.bnd
      refine S.sil 15 rfl rfl (fun _ hF => .ixS sli153 (lk 3 rfl rfl) (lk 1 rfl rfl) m7) ?_
      refine S.sil 16 rfl rfl (fun _ hF => .loadC sz3 ag3 (lk 0 rfl rfl) rfl rfl) ?_
      refine S.sil 7 rfl rfl (fun _ hF => .assign (lk 0 rfl rfl)) ?_
      refine S.nil ?_
      refine thenQ_n ?_
      refine AWp.seq ?_
      refine W.reg [0, 1, 2] rfl ?_
      refine S.sil 17 rfl rfl (fun _ hF => .move (lk 0 rfl rfl)) ?_
      obtain ⟨r8, m8, h4⟩ := h4.bnd
      refine S.sil 18 rfl rfl (fun _ hF => .callQ ent77 cF (.c (lk 0 rfl rfl) (V.sub.refl _) .nil) (C_num_Is m8)) ?_
      refine S.sil 19 rfl rfl (fun _ hF => .not (lk 0 rfl rfl)) ?_
      refine S.nil ?_
      refine thenQ_n ?_
      refine AWp.condM (lk 0 rfl rfl) h4 (fun c2 h4 => ?_) (fun c2 h4 => ?_)
      · skip
        refine AWp.seq ?_
        refine W.reg [0, 1] rfl ?_
        refine S.sil 4 rfl rfl (fun _ hF => .assign cI) ?_
        refine S.sil 5 rfl rfl (fun _ hF => .assign cI) ?_
        refine S.nil ?_
        refine thenQ_n ?_
        refine AWp.ret ?_
        refine blockQ_r ?_
        refine thenQ_r ?_
        refine thenQ_r ?_
        refine blockQ_r ?_
        refine thenQ_r ?_
        refine thenQ_r ?_
        have h := Ok.inrq h h4.ret
        obtain rfl := h.ret
        exact endFN rfl (Wk.selS [] .nil rfl (SelE.leaf (lk 1 rfl rfl) rfl (.refl _) (fun m => ((TyOk.int .i64).lt _ _)) (SelE.leaf (lk 0 rfl rfl) rfl (.refl _) (fun m => ((TyOk.int .i64).lt _ _)) .nil)) .nil) (.cons (.tmp (lk 0 rfl rfl) rfl) (.cons (.tmp (lk 1 rfl rfl) rfl) .nil)) rfl rfl rfl
      · skip
        refine AWp.skip ?_
        refine blockQ_n ?_
        refine thenQ_n ?_
        refine W.reg [0, 1] rfl ?_
        refine S.sil 20 rfl rfl (fun _ hF => .add (lk 7 rfl rfl) cI) ?_
        refine S.sil 13 rfl rfl (fun _ hF => .move (lk 0 rfl rfl)) ?_
        refine S.nil ?_
        refine thenQ_n ?_
        exact ⟨_, h4.ret, (Wk.selS [0] (by decide) rfl (SelE.leaf (lk 0 rfl rfl) rfl (.refl _) (fun m => ((TyOk.int .i64).lt _ _)) (SelE.leaf (lk 10 rfl rfl) rfl (.refl _) (fun m => ((TyOk.int .i64).lt _ _)) (SelE.spec (lk 11 rfl rfl) rfl (.refl _) (ren_sl (TyOk.int .i64) _) (lt_sl rfl ((TyOk.int .i64).ltm _ _)) (SelE.leaf (lk 12 rfl rfl) rfl (.refl _) (fun m => ((TyOk.int .i64).lt _ _)) (SelE.leaf (lk 13 rfl rfl) rfl (.refl _) (fun m => ((TyOk.int .i64).lt _ _)) (SelE.leaf (lk 14 rfl rfl) rfl (.refl _) (fun m => ((TyOk.int .i64).lt _ _)) .nil)))))) (.cons rfl rfl trivial .nil))⟩
    · skip
      refine AWp.exit ?_
      refine thenQ_x ?_
      refine thenQ_x ?_
      refine blockQ_x ?_
      refine thenQ_n ?_
      exact ⟨_, h4.ret, (Wk.selS [] (by decide) rfl (SelE.leaf (lk 4 rfl rfl) rfl (.refl _) (fun m => ((TyOk.int .i64).lt _ _)) (SelE.leaf (lk 5 rfl rfl) rfl (.refl _) (fun m => ((TyOk.int .i64).lt _ _)) (SelE.leaf (lk 6 rfl rfl) rfl (.refl _) (fun m => ((TyOk.int .i64).lt _ _)) .nil))) .nil)⟩
  · skip
    refine thenQ_n ?_
    refine AWp.seq ?_
    refine W.reg [0, 1, 2] rfl ?_
    refine S.sil 21 rfl rfl (fun _ hF => .move (lk 2 rfl rfl)) ?_
    refine S.sil 4 rfl rfl (fun _ hF => .assign (lk 0 rfl rfl)) ?_
    refine S.sil 5 rfl rfl (fun _ hF => .assign cI) ?_
    refine S.nil ?_
    refine thenQ_n ?_
    refine AWp.ret ?_
    obtain rfl := h.ret
    exact endFN rfl (Wk.selS [] .nil rfl (SelE.leaf (lk 1 rfl rfl) rfl (.refl _) (fun m => ((TyOk.int .i64).lt _ _)) (SelE.leaf (lk 0 rfl rfl) rfl (.refl _) (fun m => ((TyOk.int .i64).lt _ _)) .nil)) .nil) (.cons (.tmp (lk 0 rfl rfl) rfl) (.cons (.tmp (lk 1 rfl rfl) rfl) .nil)) rfl rfl rfl
theorem C_num_Sub {a1 : Int} {a2 : Int} {r : Int × Int} (h : num_Sub a1 a2 = some r) : PureC Pg 171 [(V.int .i64) a1, (V.int .i64) a2] (.tup [(V.int .i64) r.1, (V.int .i64) r.2]) := by
  refine PureC.ofF (CallSpec.of_bodyF 15 0 fn171 rfl rfl rfl (Nat.le_of_ble_eq_true rfl) ?_) (ltL_c ((TyOk.int .i64).lt _ _) (ltL_c ((TyOk.int .i64).lt _ _) ltL_nil)) (lt_tup (ltL_c ((TyOk.int .i64).lt _ _) (ltL_c ((TyOk.int .i64).lt _ _) ltL_nil)))
  replace h := Ok.of h
  unfold num_Sub at h
  refine AWp.seq ?_
  refine W.reg [0, 1] rfl ?_
  refine S.sil 4 rfl rfl (fun _ hF => .assign cI) ?_
  refine S.sil 5 rfl rfl (fun _ hF => .assign cI) ?_
  refine S.nil ?_
  refine thenQ_n ?_
  refine AWp.seq ?_
  refine W.reg [0, 1, 2, 3, 4, 5, 6, 7, 8, 9, 10] rfl ?_
  refine S.sil 6 rfl rfl (fun _ hF => .move (lk 2 rfl rfl)) ?_
  refine S.sil 7 rfl rfl (fun _ hF => .move (lk 4 rfl rfl)) ?_
  refine S.sil 8 rfl rfl (fun _ hF => .sub (lk 1 rfl rfl) (lk 0 rfl rfl)) ?_
  refine S.sil 9 rfl rfl (fun _ hF => .move (lk 5 rfl rfl)) ?_
  refine S.sil 10 rfl rfl (fun _ hF => .move (lk 7 rfl rfl)) ?_
  refine S.sil 11 rfl rfl (fun _ hF => .buildSliceW sli153 zv3 rfl rfl (by decide) (.cons (lk 1 rfl rfl) rfl (.refl _) rfl (.cons (lk 0 rfl rfl) rfl (.refl _) rfl .nil))) ?_
  obtain ⟨r3, m3, h⟩ := h.bnd
  refine S.sil 12 rfl rfl (fun _ hF => .callQ ent209 cF (.c (lk 3 rfl rfl) (V.sub.refl _) (.c (lk 0 rfl rfl) (V.sub.refl _) .nil)) (C_num_checked m3)) ?_
  refine S.sil 13 rfl rfl (fun _ hF => .extract (lk 0 rfl rfl) rfl) ?_
  refine S.sil 14 rfl rfl (fun _ hF => .extract (lk 1 rfl rfl) rfl) ?_
  refine S.sil 4 rfl rfl (fun _ hF => .assign (lk 1 rfl rfl)) ?_
  refine S.sil 5 rfl rfl (fun _ hF => .assign (lk 1 rfl rfl)) ?_
  refine S.nil ?_
  refine thenQ_n ?_
  refine AWp.prune (.eq (lk 0 rfl rfl) rfl (.eq (lk 1 rfl rfl) rfl .nil)) ?_
  refine AWp.ret ?_
  obtain rfl := h.ret
  exact endFN rfl (Wk.selS [] .nil rfl (SelE.leaf (lk 1 rfl rfl) rfl (.refl _) (fun m => ((TyOk.int .i64).lt _ _)) (SelE.leaf (lk 0 rfl rfl) rfl (.refl _) (fun m => ((TyOk.int .i64).lt _ _)) .nil)) .nil) (.cons (.tmp (lk 0 rfl rfl) rfl) (.cons (.tmp (lk 1 rfl rfl) rfl) .nil)) rfl rfl rfl
theorem C_counter_New {a1 : Int} {a2 : Int} {a3 : Int} {r : TCounter × Int} (h : counter_New a1 a2 a3 = some r) : PureC Pg 114 [(V.int .i64) a1, (V.int .i64) a2, (V.int .i64) a3] (.tup [E_TCounter r.1, (V.int .i64) r.2]) := by
  refine PureC.ofF (CallSpec.of_bodyF 65 0 fn114 rfl rfl rfl (Nat.le_of_ble_eq_true rfl) ?_) (ltL_c ((TyOk.int .i64).lt _ _) (ltL_c ((TyOk.int .i64).lt _ _) (ltL_c ((TyOk.int .i64).lt _ _) ltL_nil))) (lt_tup (ltL_c (ty_TCounter.lt _ _) (ltL_c ((TyOk.int .i64).lt _ _) ltL_nil)))
  replace h := Ok.of h
  unfold counter_New at h
  refine AWp.seq ?_
  refine W.reg [0, 1] rfl ?_
  refine S.eff 6 rfl rfl (.nf (v2 := .ptr 0 [] 0) (H2 := [.cells (E_TCounter (default : TCounter))]) (.alloc zv37) rfl rfl) trivial ?_
  refine S.sil 7 rfl rfl (fun _ hF => .assign cI) ?_
  refine S.nil ?_
  refine thenQ_n ?_
  refine AWp.seq ?_
  refine W.reg [0, 1, 2, 3, 4, 5] rfl ?_
  refine S.sil 15 rfl rfl (fun _ hF => .move (lk 2 rfl rfl)) ?_
  refine S.sil 16 rfl rfl (fun _ hF => .move (lk 4 rfl rfl)) ?_
  refine S.sil 17 rfl rfl (fun _ hF => .move (lk 6 rfl rfl)) ?_
  obtain ⟨v4, ev4, h⟩ := h.nam
  refine S.sil 18 rfl rfl (fun _ hF => .nv (.nv (v2 := E_TCounter (⟨a1, a2, a3, (default : TRights), (default : TRights)⟩ : TCounter)) (.buildStW lay37 zv37 rfl (.cons (lk 2 rfl rfl) rfl rfl rfl rfl (.cons (lk 1 rfl rfl) rfl rfl rfl rfl (.cons (lk 0 rfl rfl) rfl rfl rfl rfl .nil)))) rfl) (congrArg E_TCounter ev4.symm)) ?_
  refine S.eff 8 rfl rfl (.nf (v2 := .ptr 1 [] 0) (H2 := [.cells (E_TCounter (default : TCounter)), .cells (E_TCounter (default : TCounter))]) (.alloc zv37) rfl rfl) trivial ?_
  refine S.effN rfl rfl (.nf (H2 := [.cells (E_TCounter (default : TCounter)), .cells (E_TCounter v4)]) (.storeP sz37 (lk 0 rfl rfl) (lk 1 rfl rfl) rfl (.refl _) rfl .nil (by first | rfl | omega) .nil (ty_TCounter.fl v4) (ty_TCounter.fl (default : TCounter)) rfl) rfl rfl) trivial ?_
  refine S.nil ?_
  refine thenQ_n ?_
  refine AWp.seq ?_
  refine W.reg [0, 1, 2, 3, 4, 5, 6, 7] rfl ?_
  refine S.sil 20 rfl rfl (fun _ hF => .move (lk 7 rfl rfl)) ?_
  refine S.sil 21 rfl rfl (fun _ hF => .move (lk 9 rfl rfl)) ?_
  obtain ⟨r5, m5, h⟩ := h.bnd
  refine S.sil 22 rfl rfl (fun _ hF => .callQ ent171 cF (.c (lk 1 rfl rfl) (V.sub.refl _) (.c (lk 0 rfl rfl) (V.sub.refl _) .nil)) (C_num_Sub m5)) ?_
  refine S.sil 19 rfl rfl (fun _ hF => .move (lk 0 rfl rfl)) ?_
  refine S.sil 23 rfl rfl (fun _ hF => .extract (lk 0 rfl rfl) rfl) ?_
  refine S.sil 24 rfl rfl (fun _ hF => .extract (lk 1 rfl rfl) rfl) ?_
  refine S.sil 9 rfl rfl (fun _ hF => .assign (lk 1 rfl rfl)) ?_
  refine S.sil 10 rfl rfl (fun _ hF => .assign (lk 1 rfl rfl)) ?_
  refine S.nil ?_
  refine thenQ_n ?_
  refine AWp.prune (.eq (lk 0 rfl rfl) rfl (.eq (lk 1 rfl rfl) rfl (.eq (lk 8 rfl rfl) rfl (.eq (lk 13 rfl rfl) rfl (.eq (lk 14 rfl rfl) rfl (.eq (lk 15 rfl rfl) rfl (.eq (lk 16 rfl rfl) rfl (.eq (lk 17 rfl rfl) rfl .nil)))))))) ?_
  refine AWp.seq ?_
  refine W.reg [0, 1, 2, 3, 4, 5, 6, 7] rfl ?_
  refine S.sil 26 rfl rfl (fun _ hF => .move (lk 7 rfl rfl)) ?_
  refine S.sil 27 rfl rfl (fun _ hF => .move (lk 6 rfl rfl)) ?_
  obtain ⟨r6, m6, h⟩ := h.bnd
  refine S.sil 28 rfl rfl (fun _ hF => .callQ ent171 cF (.c (lk 1 rfl rfl) (V.sub.refl _) (.c (lk 0 rfl rfl) (V.sub.refl _) .nil)) (C_num_Sub m6)) ?_
  refine S.sil 25 rfl rfl (fun _ hF => .move (lk 0 rfl rfl)) ?_
  refine S.sil 29 rfl rfl (fun _ hF => .extract (lk 0 rfl rfl) rfl) ?_
  refine S.sil 30 rfl rfl (fun _ hF => .extract (lk 1 rfl rfl) rfl) ?_
  refine S.sil 11 rfl rfl (fun _ hF => .assign (lk 1 rfl rfl)) ?_
  refine S.sil 12 rfl rfl (fun _ hF => .assign (lk 1 rfl rfl)) ?_
  refine S.nil ?_
  refine thenQ_n ?_
  refine AWp.seq ?_
  refine W.reg [0, 1, 2, 3, 4, 5, 6, 7] rfl ?_
  refine S.sil 32 rfl rfl (fun _ hF => .move (lk 15 rfl rfl)) ?_
  refine S.sil 33 rfl rfl (fun _ hF => .move (lk 15 rfl rfl)) ?_
  obtain ⟨r7, m7, h⟩ := h.bnd
  refine S.sil 34 rfl rfl (fun _ hF => .callQ ent171 cF (.c (lk 1 rfl rfl) (V.sub.refl _) (.c (lk 0 rfl rfl) (V.sub.refl _) .nil)) (C_num_Sub m7)) ?_
  refine S.sil 31 rfl rfl (fun _ hF => .move (lk 0 rfl rfl)) ?_
  refine S.sil 35 rfl rfl (fun _ hF => .extract (lk 0 rfl rfl) rfl) ?_
  refine S.sil 36 rfl rfl (fun _ hF => .extract (lk 1 rfl rfl) rfl) ?_
  refine S.sil 13 rfl rfl (fun _ hF => .assign (lk 1 rfl rfl)) ?_
  refine S.sil 14 rfl rfl (fun _ hF => .assign (lk 1 rfl rfl)) ?_
  refine S.nil ?_
  refine thenQ_n ?_
  refine AWp.prune (.eq (lk 0 rfl rfl) rfl (.eq (lk 8 rfl rfl) rfl (.eq (lk 9 rfl rfl) rfl (.eq (lk 16 rfl rfl) rfl (.eq (lk 17 rfl rfl) rfl (.eq (lk 18 rfl rfl) rfl (.eq (lk 19 rfl rfl) rfl (.eq (lk 20 rfl rfl) rfl .nil)))))))) ?_
  refine AWp.seq ?_
  refine AWp.seq ?_
  refine W.reg [0, 1, 2, 3, 4, 5, 6, 7, 8, 9, 10, 11, 12, 13, 14, 15, 16, 17] rfl ?_
  refine S.sil 37 rfl rfl (fun _ hF => .move (lk 3 rfl rfl)) ?_
  refine S.sil 38 rfl rfl (fun _ hF => .neq (lk 0 rfl rfl) cI) ?_
  refine S.sil 39 rfl rfl (fun _ hF => .move (lk 0 rfl rfl)) ?_
  refine S.gsil 40 2 39 false rfl rfl rfl (lk 0 rfl rfl) (fun hB _ hF => .move (lk 4 rfl rfl)) ?_
  refine S.gsil 41 2 39 false rfl rfl rfl (lk 1 rfl rfl) (fun hB _ hF => .neq (ifT hB (lk 0 rfl rfl)) cI) ?_
  refine S.sil 42 rfl rfl (fun _ hF => .pickOr (lk 2 rfl rfl) cB (fun h => ifT h (lk 0 rfl rfl))) ?_
  refine S.sil 43 rfl rfl (fun _ hF => .move (lk 0 rfl rfl)) ?_
  refine S.gsil 44 6 43 false rfl rfl rfl (lk 0 rfl rfl) (fun hB _ hF => .move (lk 7 rfl rfl)) ?_
  refine S.gsil 45 6 43 false rfl rfl rfl (lk 1 rfl rfl) (fun hB _ hF => .neq (ifT hB (lk 0 rfl rfl)) cI) ?_
  obtain ⟨v8, ev8, h⟩ := h.nam
  refine S.sil 46 rfl rfl (fun _ hF => .nv (.pickOr (lk 2 rfl rfl) cB (fun h => ifT h (lk 0 rfl rfl))) (congrArg V.bool ev8.symm)) ?_
  refine S.sil 47 rfl rfl (fun _ hF => .move (lk 0 rfl rfl)) ?_
  refine S.gsil 48 10 47 false rfl rfl rfl (lk 0 rfl rfl) (fun hB _ hF => .move (lk 15 rfl rfl)) ?_
  refine S.gsil 49 10 47 false rfl rfl rfl (lk 1 rfl rfl) (fun hB _ hF => .lss (ifT hB (lk 0 rfl rfl)) cI) ?_
  refine S.sil 50 rfl rfl (fun _ hF => .pickOr (lk 2 rfl rfl) cB (fun h => ifT h (lk 0 rfl rfl))) ?_
  refine S.sil 51 rfl rfl (fun _ hF => .move (lk 0 rfl rfl)) ?_
  refine S.gsil 52 14 51 false rfl rfl rfl (lk 0 rfl rfl) (fun hB _ hF => .move (lk 17 rfl rfl)) ?_
  refine S.gsil 53 14 51 false rfl rfl rfl (lk 1 rfl rfl) (fun hB _ hF => .lss (ifT hB (lk 0 rfl rfl)) cI) ?_
  refine S.sil 54 rfl rfl (fun _ hF => .pickOr (lk 2 rfl rfl) cB (fun h => ifT h (lk 0 rfl rfl))) ?_
  refine S.nil ?_
  refine thenQ_n ?_
  refine AWp.prune (.eq (lk 0 rfl rfl) rfl (.eq (lk 20 rfl rfl) rfl (.eq (lk 22 rfl rfl) rfl (.eq (lk 23 rfl rfl) rfl (.eq (lk 24 rfl rfl) rfl (.eq (lk 25 rfl rfl) rfl .nil)))))) ?_
  refine AWp.condM (lk 0 rfl rfl) h (fun c1 h => ?_) (fun c1 h => ?_)
  · skip
    refine AWp.seq ?_
    refine W.reg [0, 1, 2] rfl ?_
    obtain ⟨v9, ev9, h⟩ := h.nam
    refine S.sil 55 rfl rfl (fun _ hF => .nv (.nv (v2 := E_TCounter (⟨0, 0, 0, (default : TRights), (default : TRights)⟩ : TCounter)) (.buildStW lay37 zv37 rfl .nil) rfl) (congrArg E_TCounter ev9.symm)) ?_
    refine S.effN rfl rfl (.nf (H2 := [.cells (E_TCounter v9), .cells (E_TCounter v4)]) (.storeP sz37 (lk 6 rfl rfl) (lk 0 rfl rfl) rfl (.refl _) rfl .nil (by first | rfl | omega) .nil (ty_TCounter.fl v9) (ty_TCounter.fl (default : TCounter)) rfl) rfl rfl) trivial ?_
    refine S.sil 7 rfl rfl (fun _ hF => .assign cI) ?_
    refine S.nil ?_
    refine thenQ_n ?_
    refine AWp.ret ?_
    refine thenQ_r ?_
    refine endF_wk (Wk.freeze 0 rfl rfl (.same (lk 0 rfl rfl) (.same (lk 0 rfl rfl) (.cons (lk 7 rfl rfl) rfl (.ptr .nil (by first | rfl | omega)) .nil))) (.refl _)) ?_
    obtain rfl := h.ret
    exact endFN rfl (Wk.selS [] .nil rfl (SelE.leaf (lk 2 rfl rfl) rfl (.refl _) (fun m => (lt_cptr (ty_TCounter.lt _ _))) (SelE.leaf (lk 0 rfl rfl) rfl (.refl _) (fun m => ((TyOk.int .i64).lt _ _)) .nil)) .nil) (.cons (.cellC sz37 ag37 (lk 0 rfl rfl) (ty_TCounter.fl _) rfl) (.cons (.tmp (lk 1 rfl rfl) rfl) .nil)) rfl rfl rfl
  · skip
    refine AWp.skip ?_
    refine thenQ_n ?_
    refine AWp.seq ?_
    refine W.reg [0, 1, 2, 3, 4, 5, 6, 7, 8, 9] rfl ?_
    refine S.sil 56 rfl rfl (fun _ hF => .move (lk 2 rfl rfl)) ?_
    refine S.sil 57 rfl rfl (fun _ hF => .move (lk 2 rfl rfl)) ?_
    refine S.sil 58 rfl rfl (fun _ hF => .fieldAddr lay37 rfl rfl (lk 5 rfl rfl)) ?_
    refine S.sil 59 rfl rfl (fun _ hF => .fieldAddr lay35 rfl rfl (lk 0 rfl rfl)) ?_
    obtain ⟨k10, m10, h⟩ := h.bnd
    refine S.sil 60 rfl rfl (fun _ hF => .ixP arr32 (lk 0 rfl rfl) cI m10) ?_
    obtain ⟨v11, ev11, h⟩ := h.nam
    refine S.effN rfl rfl (.nf (H2 := [.cells (E_TCounter (default : TCounter)), .cells (E_TCounter v11)]) (.storeP sz3 (lk 0 rfl rfl) (lk 4 rfl rfl) rfl (.refl _) rfl (.st rfl (flL_c (show flen _ = 1 from rfl) (flL_c (show flen _ = 1 from rfl) (flL_c (show flen _ = 1 from rfl) flL_nil))) (.st rfl flL_nil (.vc k10 .nil))) (by first | rfl | omega) (.st rfl (.st rfl (.vc r5.1 k10 .nil) rfl) rfl) rfl rfl (congrArg (fun z => ([.cells (E_TCounter (default : TCounter)), AObj.cells (E_TCounter z)] : List AObj)) ev11.symm)) rfl rfl) trivial ?_
    refine S.sil 61 rfl rfl (fun _ hF => .fieldAddr lay37 rfl rfl (lk 8 rfl rfl)) ?_
    refine S.sil 62 rfl rfl (fun _ hF => .fieldAddr lay35 rfl rfl (lk 0 rfl rfl)) ?_
    obtain ⟨k12, m12, h⟩ := h.bnd
    refine S.sil 63 rfl rfl (fun _ hF => .ixP arr32 (lk 0 rfl rfl) cI m12) ?_
    obtain ⟨v13, ev13, h⟩ := h.nam
    refine S.effN rfl rfl (.nf (H2 := [.cells (E_TCounter (default : TCounter)), .cells (E_TCounter v13)]) (.storeP sz3 (lk 0 rfl rfl) (lk 6 rfl rfl) rfl (.refl _) rfl (.st rfl (flL_c (show flen _ = 1 from rfl) (flL_c (show flen _ = 1 from rfl) (flL_c (show flen _ = 1 from rfl) (flL_c (ty_TRights.fl v11.Down) flL_nil)))) (.st rfl flL_nil (.vc k12 .nil))) (by first | rfl | omega) (.st rfl (.st rfl (.vc r6.1 k12 .nil) rfl) rfl) rfl rfl (congrArg (fun z => ([.cells (E_TCounter (default : TCounter)), AObj.cells (E_TCounter z)] : List AObj)) ev13.symm)) rfl rfl) trivial ?_
    refine S.nil ?_
    refine thenQ_n ?_
    refine AWp.prune (.eq (lk 11 rfl rfl) rfl (.eq (lk 12 rfl rfl) rfl (.eq (lk 13 rfl rfl) rfl .nil))) ?_
    refine AWp.seq ?_
    refine W.reg [0, 1, 2] rfl ?_
    refine S.qui 64 rfl rfl (fun _ => .loadP sz37 ag37 (lk 0 rfl rfl) rfl .nil (by first | rfl | omega) (ty_TCounter.fl v13) rfl) ?_
    refine S.effN rfl rfl (.nf (H2 := [.cells (E_TCounter v13), .cells (E_TCounter v13)]) (.storeP sz37 (lk 3 rfl rfl) (lk 0 rfl rfl) rfl (.refl _) rfl .nil (by first | rfl | omega) .nil (ty_TCounter.fl v13) (ty_TCounter.fl (default : TCounter)) rfl) rfl rfl) trivial ?_
    refine S.sil 7 rfl rfl (fun _ hF => .assign cI) ?_
    refine S.nil ?_
    refine thenQ_n ?_
    refine AWp.ret ?_
    refine endF_wk (Wk.freeze 0 rfl rfl (.same (lk 0 rfl rfl) (.same (lk 0 rfl rfl) (.cons (lk 4 rfl rfl) rfl (.ptr .nil (by first | rfl | omega)) .nil))) (.refl _)) ?_
    obtain rfl := h.ret
    exact endFN rfl (Wk.selS [] .nil rfl (SelE.leaf (lk 2 rfl rfl) rfl (.refl _) (fun m => (lt_cptr (ty_TCounter.lt _ _))) (SelE.leaf (lk 0 rfl rfl) rfl (.refl _) (fun m => ((TyOk.int .i64).lt _ _)) .nil)) .nil) (.cons (.cellC sz37 ag37 (lk 0 rfl rfl) (ty_TCounter.fl _) rfl) (.cons (.tmp (lk 1 rfl rfl) rfl) .nil)) rfl rfl rfl
theorem C_field_Name {a1 : ByteArray} {r : Bool} (h : field_Name a1 = some r) : PureC Pg 115 [V.str a1] (V.bool r) := by
  refine PureC.ofF (CallSpec.of_bodyF 28 0 fn115 rfl rfl rfl (Nat.le_of_ble_eq_true rfl) ?_) (ltL_c (TyOk.str.lt _ _) ltL_nil) (TyOk.bool.lt _ _)
  replace h := Ok.of h
  unfold field_Name at h
  refine AWp.seq ?_
  refine W.reg [0] rfl ?_
  refine S.sil 2 rfl rfl (fun _ hF => .assign cB) ?_
  refine S.nil ?_
  refine thenQ_n ?_
  refine AWp.seq ?_
  refine AWp.seq ?_
  refine W.reg [0, 1, 2] rfl ?_
  refine S.sil 4 rfl rfl (fun _ hF => .move (lk 1 rfl rfl)) ?_
  refine S.sil 5 rfl rfl (fun _ hF => .lenS und9 (lk 0 rfl rfl)) ?_
  refine S.sil 6 rfl rfl (fun _ hF => .move cI) ?_
  refine S.nil ?_
  refine thenQ_n ?_
  refine AWp.cutL (fun x4 => ⟨[(2, V.bool false), (0, V.str a1)], []⟩) nc_then h (fun q2 hq2 h => ?_) (fun x4 h => ?_)
  · refine AWp.block ?_
    refine AWp.loopT (fun s3 => ⟨[(6, (V.int .i64) s3), (5, (V.int .i64) (a1.size : Int)), (2, V.bool false), (0, V.str a1)], []⟩) hq2 (Wk.selS [] (by decide) rfl (SelE.leaf (lk 0 rfl rfl) rfl (.refl _) (fun m => ((TyOk.int .i64).lt _ _)) (SelE.leaf (lk 1 rfl rfl) rfl (.refl _) (fun m => ((TyOk.int .i64).lt _ _)) (SelE.leaf (lk 3 rfl rfl) rfl (.refl _) (fun m => (TyOk.bool.lt _ _)) (SelE.leaf (lk 4 rfl rfl) rfl (.refl _) (fun m => (TyOk.str.lt _ _)) .nil)))) .nil) (fun _ s3 h2 => ?_)
    rw [field_Name_L1] at h2
    refine AWp.seq ?_
    refine W.reg [0] rfl ?_
    refine S.sil 7 rfl rfl (fun _ hF => .lss (lk 0 rfl rfl) (lk 1 rfl rfl)) ?_
    refine S.nil ?_
    refine thenQ_n ?_
    refine AWp.seq ?_
    refine AWp.condM (lk 0 rfl rfl) h2 (fun c1 h2 => ?_) (fun c1 h2 => ?_)
    · skip
      refine AWp.skip ?_
      refine thenQ_n ?_
      refine AWp.seq ?_
      refine AWp.block ?_
      refine AWp.seq ?_
      refine W.reg [0, 1] rfl ?_
      refine S.sil 8 rfl rfl (fun _ hF => .move (lk 1 rfl rfl)) ?_
      refine S.sil 3 rfl rfl (fun _ hF => .assign (lk 0 rfl rfl)) ?_
      refine S.nil ?_
      refine thenQ_n ?_
      refine AWp.seq ?_
      refine W.reg [0, 1, 2, 3, 4, 5, 6, 7, 8, 9] rfl ?_
      refine S.sil 9 rfl rfl (fun _ hF => .move (lk 6 rfl rfl)) ?_
      refine S.sil 10 rfl rfl (fun _ hF => .move (lk 1 rfl rfl)) ?_
      obtain ⟨n5, m5, h2⟩ := h2.bnd
      refine S.sil 11 rfl rfl (fun _ hF => .ixStr und9 (lk 1 rfl rfl) (lk 0 rfl rfl) m5) ?_
      refine S.sil 12 rfl rfl (fun _ hF => .lss (lk 0 rfl rfl) cI) ?_
      refine S.sil 13 rfl rfl (fun _ hF => .move (lk 0 rfl rfl)) ?_
      refine S.gsil 14 4 13 false rfl rfl rfl (lk 0 rfl rfl) (fun hB _ hF => .move (lk 11 rfl rfl)) ?_
      refine S.gsil 15 4 13 false rfl rfl rfl (lk 1 rfl rfl) (fun hB _ hF => .move (lk 6 rfl rfl)) ?_
      obtain ⟨n6, m6, h2⟩ := h2.bnd
      refine S.gsil 16 4 13 false rfl rfl rfl (lk 2 rfl rfl) (fun hB _ hF => .ixStr und9 (ifT hB (lk 1 rfl rfl)) (ifT hB (lk 0 rfl rfl)) (gd_get m6 hB)) ?_
      refine S.gsil 17 4 13 false rfl rfl rfl (lk 3 rfl rfl) (fun hB _ hF => .gtr (ifT hB (lk 0 rfl rfl)) cI) ?_
      refine S.sil 18 rfl rfl (fun _ hF => .pickOr (lk 4 rfl rfl) cB (fun h => ifT h (lk 0 rfl rfl))) ?_
      refine S.nil ?_
      refine thenQ_n ?_
      refine AWp.condM (lk 0 rfl rfl) h2 (fun c2 h2 => ?_) (fun c2 h2 => ?_)
      · skip
        refine AWp.seq ?_
        refine W.reg [0] rfl ?_
        refine S.sil 2 rfl rfl (fun _ hF => .assign cB) ?_
        refine S.nil ?_
        refine thenQ_n ?_
        refine AWp.ret ?_
        refine blockQ_r ?_
        refine thenQ_r ?_
        refine thenQ_r ?_
        refine blockQ_r ?_
        refine thenQ_r ?_
        refine thenQ_r ?_
        have h := Ok.inrq h h2.ret
        obtain rfl := h.ret
        exact endF1 rfl (Wk.selS [] .nil rfl (SelE.leaf (lk 0 rfl rfl) rfl (.refl _) (fun m => (TyOk.bool.lt _ _)) .nil) .nil) (.tmp (lk 0 rfl rfl) rfl) rfl rfl
      · skip
        refine AWp.skip ?_
        refine blockQ_n ?_
        refine thenQ_n ?_
        refine W.reg [0, 1] rfl ?_
        refine S.sil 19 rfl rfl (fun _ hF => .add (lk 13 rfl rfl) cI) ?_
        refine S.sil 6 rfl rfl (fun _ hF => .move (lk 0 rfl rfl)) ?_
        refine S.nil ?_
        refine thenQ_n ?_
        exact ⟨_, h2.ret, (Wk.selS [] (by decide) rfl (SelE.leaf (lk 0 rfl rfl) rfl (.refl _) (fun m => ((TyOk.int .i64).lt _ _)) (SelE.leaf (lk 16 rfl rfl) rfl (.refl _) (fun m => ((TyOk.int .i64).lt _ _)) (SelE.leaf (lk 17 rfl rfl) rfl (.refl _) (fun m => (TyOk.bool.lt _ _)) (SelE.leaf (lk 18 rfl rfl) rfl (.refl _) (fun m => (TyOk.str.lt _ _)) .nil)))) .nil)⟩
    · skip
      refine AWp.exit ?_
      refine thenQ_x ?_
      refine thenQ_x ?_
      refine blockQ_x ?_
      refine thenQ_n ?_
      exact ⟨_, h2.ret, (Wk.selS [] (by decide) rfl (SelE.leaf (lk 3 rfl rfl) rfl (.refl _) (fun m => (TyOk.bool.lt _ _)) (SelE.leaf (lk 4 rfl rfl) rfl (.refl _) (fun m => (TyOk.str.lt _ _)) .nil)) .nil)⟩
  · skip
    refine thenQ_n ?_
    refine AWp.seq ?_
    refine W.reg [0, 1, 2, 3, 4, 5, 6, 7, 8] rfl ?_
    refine S.sil 20 rfl rfl (fun _ hF => .move (lk 1 rfl rfl)) ?_
    refine S.sil 21 rfl rfl (fun _ hF => .lenS und9 (lk 0 rfl rfl)) ?_
    refine S.sil 22 rfl rfl (fun _ hF => .geq (lk 0 rfl rfl) cI) ?_
    refine S.sil 23 rfl rfl (fun _ hF => .move (lk 0 rfl rfl)) ?_
    refine S.gsil 24 3 23 true rfl rfl rfl (lk 0 rfl rfl) (fun hB _ hF => .move (lk 5 rfl rfl)) ?_
    refine S.gsil 25 3 23 true rfl rfl rfl (lk 1 rfl rfl) (fun hB _ hF => .lenS und9 (ifT hB (lk 0 rfl rfl))) ?_
    refine S.gsil 26 3 23 true rfl rfl rfl (lk 2 rfl rfl) (fun hB _ hF => .leq (ifT hB (lk 0 rfl rfl)) cI) ?_
    refine S.sil 27 rfl rfl (fun _ hF => .pickAnd (lk 3 rfl rfl) (fun h => ifT h (lk 0 rfl rfl)) cB) ?_
    obtain ⟨v7, ev7, h⟩ := h.nam
    refine S.sil 2 rfl rfl (fun _ hF => .nv (.assign (lk 0 rfl rfl)) (congrArg V.bool ev7.symm)) ?_
    refine S.nil ?_
    refine thenQ_n ?_
    refine AWp.prune (.eq (lk 0 rfl rfl) rfl .nil) ?_
    refine AWp.ret ?_
    obtain rfl := h.ret
    exact endF1 rfl (Wk.selS [] .nil rfl (SelE.leaf (lk 0 rfl rfl) rfl (.refl _) (fun m => (TyOk.bool.lt _ _)) .nil) .nil) (.tmp (lk 0 rfl rfl) rfl) rfl rfl
theorem C_clone_54 {a1 : List THold} {r : List THold} (h : app 40 [] a1 = some r) : PureC Pg 54 [E_S_THold a1] (E_S_THold r) := by
  refine PureC.ofF (CallSpec.of_bodyF 8 0 fn54 rfl rfl rfl (Nat.le_of_ble_eq_true rfl) ?_) (ltL_c (ty_S_THold.lt _ _) ltL_nil) (ty_S_THold.lt _ _)
  have hr := (app_get h).2
  refine AWp.seq ?_
  refine W.reg [0] rfl ?_
  refine S.sil 2 rfl rfl (fun _ hF => .assign cNs) ?_
  refine S.nil ?_
  refine thenQ_n ?_
  refine AWp.splitNil (t := 0) (lk 1 rfl rfl) (fun hn => ?_) ?_
  · obtain rfl : a1 = [] := List.map_eq_nil_iff.1 hn
    obtain rfl : r = [] := by simpa using hr
    refine AWp.seq ?_
    refine AWp.seq ?_
    refine W.reg [0, 1] rfl ?_
    refine S.sil 3 rfl rfl (fun _ hF => .move (lk 0 rfl rfl)) ?_
    refine S.sil 4 rfl rfl (fun _ hF => .eqlNil sli40 (lk 0 rfl rfl) cNs) ?_
    refine S.nil ?_
    refine thenQ_n ?_
    refine AWp.condT (lk 0 rfl rfl) ?_
    refine AWp.seq ?_
    refine W.reg [0] rfl ?_
    refine S.sil 2 rfl rfl (fun _ hF => .assign cNs) ?_
    refine S.nil ?_
    refine thenQ_n ?_
    refine AWp.ret ?_
    refine thenQ_r ?_
    exact endF1 rfl (Wk.selS [] .nil rfl (SelE.leaf (lk 0 rfl rfl) rfl (.nils_no 5) (fun m => (ty_S_THold.lt ([] : List THold) _)) .nil) .nil) (.tmp (lk 0 rfl rfl) rfl) rfl rfl
  · refine AWp.seq ?_
    refine AWp.seq ?_
    refine W.reg [0, 1] rfl ?_
    refine S.sil 3 rfl rfl (fun _ hF => .move (lk 0 rfl rfl)) ?_
    refine S.sil 4 rfl rfl (fun _ hF => .eqlNn sli40 (lk 0 rfl rfl) cNs) ?_
    refine S.nil ?_
    refine thenQ_n ?_
    refine AWp.condF (lk 0 rfl rfl) ?_
    refine AWp.skip ?_
    refine thenQ_n ?_
    refine AWp.seq ?_
    refine W.reg [0, 1, 2, 3] rfl ?_
    refine S.sil 5 rfl rfl (fun _ hF => .buildSliceW sli40 zv101 rfl rfl (by decide) .nil) ?_
    refine S.sil 6 rfl rfl (fun _ hF => .move (lk 3 rfl rfl)) ?_
    refine S.new 7 rfl rfl (.appX (f := E_THold) (xs := []) sli40 und40 zv101 rfl (by decide) (lk 1 rfl rfl) (V.sub.refl _) (lk 0 rfl rfl) Rd.sl h rfl) trivial ?_
    refine S.sil 2 rfl rfl (fun _ hF => .assign (lk 0 rfl rfl)) ?_
    refine S.nil ?_
    refine thenQ_n ?_
    refine AWp.ret ?_
    exact endF1 rfl (Wk.selS [] .nil rfl (SelE.leaf (lk 0 rfl rfl) rfl (.forget _ _ _) (fun m => (ty_S_THold.lt r _)) .nil) .nil) (.tmp (lk 0 rfl rfl) rfl) rfl rfl
theorem C_field_done {a1 : TField} {a2 : Int} {r : TField × Int} (h : field_done a1 a2 = some r) : PureC Pg 116 [E_TField a1, (V.int .i64) a2] (.tup [E_TField r.1, (V.int .i64) r.2]) := by
  refine PureC.ofF (CallSpec.of_bodyF 15 0 fn116 rfl rfl rfl (Nat.le_of_ble_eq_true rfl) ?_) (ltL_c (ty_TField.lt _ _) (ltL_c ((TyOk.int .i64).lt _ _) ltL_nil)) (lt_tup (ltL_c (ty_TField.lt _ _) (ltL_c ((TyOk.int .i64).lt _ _) ltL_nil)))
  replace h := Ok.of h
  unfold field_done at h
  refine AWp.seq ?_
  refine W.reg [0, 1, 2] rfl ?_
  refine S.eff 2 rfl rfl (.nf (v2 := .ptr 0 [] 0) (H2 := [.cells (E_TField a1)]) (.box (lk 0 rfl rfl) rfl) rfl rfl) trivial ?_
  refine S.eff 4 rfl rfl (.nf (v2 := .ptr 1 [] 0) (H2 := [.cells (E_TField a1), .cells (.st [V.str (default : ByteArray), (V.int .i64) 0, (V.int .i64) 0, E_TCounter (default : TCounter), E_TLock (default : TLock), .nils])]) (.alloc zv42) rfl rfl) trivial ?_
  refine S.sil 5 rfl rfl (fun _ hF => .assign cI) ?_
  refine S.nil ?_
  refine thenQ_n ?_
  refine AWp.seq ?_
  refine AWp.seq ?_
  refine W.reg [0, 1] rfl ?_
  refine S.sil 6 rfl rfl (fun _ hF => .move (lk 4 rfl rfl)) ?_
  refine S.sil 7 rfl rfl (fun _ hF => .neq (lk 0 rfl rfl) cI) ?_
  refine S.nil ?_
  refine thenQ_n ?_
  refine AWp.condM (lk 0 rfl rfl) h (fun c1 h => ?_) (fun c1 h => ?_)
  · skip
    refine AWp.seq ?_
    refine W.reg [0, 1, 2, 3] rfl ?_
    obtain ⟨v3, ev3, h⟩ := h.nam
    refine S.sil 8 rfl rfl (fun _ hF => .nv (.vs (v := .st [V.str (default : ByteArray), (V.int .i64) 0, (V.int .i64) 0, E_TCounter (default : TCounter), E_TLock (default : TLock), .nils]) (v2 := E_TField (⟨(default : ByteArray), 0, 0, (default : TCounter), (default : TLock), ([] : List THold)⟩ : TField)) (.buildStW lay42 zv42 rfl .nil) rfl (.st (.cons (.refl _) (.cons (.refl _) (.cons (.refl _) (.cons (.refl _) (.cons (.refl _) (.cons (.nils_no _) .nil)))))))) (congrArg E_TField ev3.symm)) ?_
    refine S.sil 9 rfl rfl (fun _ hF => .move (lk 7 rfl rfl)) ?_
    refine S.effN rfl rfl (.nf (H2 := [.cells (E_TField a1), .cells (E_TField v3)]) (.storeP sz42 (lk 5 rfl rfl) (lk 1 rfl rfl) rfl (.refl _) rfl .nil (by first | rfl | omega) .nil (ty_TField.fl v3) (fl_st (flL_c (show flen _ = 1 from rfl) (flL_c (show flen _ = 1 from rfl) (flL_c (show flen _ = 1 from rfl) (flL_c (ty_TCounter.fl (default : TCounter)) (flL_c (ty_TLock.fl (default : TLock)) (flL_c (show flen _ = 1 from rfl) flL_nil))))))) rfl) rfl rfl) trivial ?_
    refine S.sil 5 rfl rfl (fun _ hF => .assign (lk 0 rfl rfl)) ?_
    refine S.nil ?_
    refine thenQ_n ?_
    refine AWp.ret ?_
    refine thenQ_r ?_
    refine endF_wk (Wk.freeze 1 rfl rfl (.same (lk 0 rfl rfl) (.same (lk 0 rfl rfl) (.cons (lk 6 rfl rfl) rfl (.ptr .nil (by first | rfl | omega)) .nil))) (.refl _)) ?_
    obtain rfl := h.ret
    exact endFN rfl (Wk.selS [] .nil rfl (SelE.leaf (lk 2 rfl rfl) rfl (.refl _) (fun m => (lt_cptr (ty_TField.lt _ _))) (SelE.leaf (lk 0 rfl rfl) rfl (.refl _) (fun m => ((TyOk.int .i64).lt _ _)) .nil)) .nil) (.cons (.cellC sz42 ag42 (lk 0 rfl rfl) (ty_TField.fl _) rfl) (.cons (.tmp (lk 1 rfl rfl) rfl) .nil)) rfl rfl rfl
  · skip
    refine AWp.skip ?_
    refine thenQ_n ?_
    refine AWp.seq ?_
    refine W.reg [0, 1, 2, 3, 4] rfl ?_
    refine S.sil 10 rfl rfl (fun _ hF => .fieldAddr lay42 rfl rfl (lk 4 rfl rfl)) ?_
    refine S.qui 11 rfl rfl (fun _ => .loadP sz40 ag40 (lk 0 rfl rfl) rfl (.st rfl (flL_c (show flen _ = 1 from rfl) (flL_c (show flen _ = 1 from rfl) (flL_c (show flen _ = 1 from rfl) (flL_c (ty_TCounter.fl a1.Counter) (flL_c (ty_TLock.fl a1.Lock) flL_nil))))) .nil) (by first | rfl | omega) rfl rfl) ?_
    obtain ⟨r4, m4, h⟩ := h.bnd
    refine S.sil 12 rfl rfl (fun _ hF => .callQ ent54 cF (.c (lk 0 rfl rfl) (V.sub.refl _) .nil) (C_clone_54 m4)) ?_
    refine S.sil 13 rfl rfl (fun _ hF => .fieldAddr lay42 rfl rfl (lk 7 rfl rfl)) ?_
    obtain ⟨v5, ev5, h⟩ := h.nam
    refine S.effN rfl rfl (.nf (H2 := [.cells (E_TField v5), .cells (.st [V.str (default : ByteArray), (V.int .i64) 0, (V.int .i64) 0, E_TCounter (default : TCounter), E_TLock (default : TLock), .nils])]) (.storeP sz40 (lk 0 rfl rfl) (lk 1 rfl rfl) rfl (.refl _) rfl (.st rfl (flL_c (show flen _ = 1 from rfl) (flL_c (show flen _ = 1 from rfl) (flL_c (show flen _ = 1 from rfl) (flL_c (ty_TCounter.fl a1.Counter) (flL_c (ty_TLock.fl a1.Lock) flL_nil))))) .nil) (by first | rfl | omega) (.st rfl .nil rfl) rfl rfl (congrArg (fun z => ([AObj.cells (E_TField z), .cells (.st [V.str (default : ByteArray), (V.int .i64) 0, (V.int .i64) 0, E_TCounter (default : TCounter), E_TLock (default : TLock), .nils])] : List AObj)) ev5.symm)) rfl rfl) trivial ?_
    refine S.nil ?_
    refine thenQ_n ?_
    refine AWp.seq ?_
    refine W.reg [0, 1, 2] rfl ?_
    refine S.qui 14 rfl rfl (fun _ => .loadP sz42 ag42 (lk 8 rfl rfl) rfl .nil (by first | rfl | omega) (ty_TField.fl v5) rfl) ?_
    refine S.effN rfl rfl (.nf (H2 := [.cells (E_TField v5), .cells (E_TField v5)]) (.storeP sz42 (lk 8 rfl rfl) (lk 0 rfl rfl) rfl (.refl _) rfl .nil (by first | rfl | omega) .nil (ty_TField.fl v5) (fl_st (flL_c (show flen _ = 1 from rfl) (flL_c (show flen _ = 1 from rfl) (flL_c (show flen _ = 1 from rfl) (flL_c (ty_TCounter.fl (default : TCounter)) (flL_c (ty_TLock.fl (default : TLock)) (flL_c (show flen _ = 1 from rfl) flL_nil))))))) rfl) rfl rfl) trivial ?_
    refine S.sil 5 rfl rfl (fun _ hF => .assign cI) ?_
    refine S.nil ?_
    refine thenQ_n ?_
    refine AWp.prune (.eq (lk 0 rfl rfl) rfl (.eq (lk 9 rfl rfl) rfl .nil)) ?_
    refine AWp.ret ?_
    refine endF_wk (Wk.freeze 1 rfl rfl (.same (lk 0 rfl rfl) (.cons (lk 1 rfl rfl) rfl (.ptr .nil (by first | rfl | omega)) .nil)) (.refl _)) ?_
    obtain rfl := h.ret
    exact endFN rfl (Wk.selS [] .nil rfl (SelE.leaf (lk 1 rfl rfl) rfl (.refl _) (fun m => (lt_cptr (ty_TField.lt _ _))) (SelE.leaf (lk 0 rfl rfl) rfl (.refl _) (fun m => ((TyOk.int .i64).lt _ _)) .nil)) .nil) (.cons (.cellC sz42 ag42 (lk 0 rfl rfl) (ty_TField.fl _) rfl) (.cons (.tmp (lk 1 rfl rfl) rfl) .nil)) rfl rfl rfl
theorem C_field_Counter {a1 : ByteArray} {a2 : Int} {a3 : Int} {a4 : Int} {r : TField × Int} (h : field_Counter a1 a2 a3 a4 = some r) : PureC Pg 44 [V.str a1, (V.int .i64) a2, (V.int .i64) a3, (V.int .i64) a4] (.tup [E_TField r.1, (V.int .i64) r.2]) := by
  refine PureC.ofF (CallSpec.of_bodyF 29 0 fn44 rfl rfl rfl (Nat.le_of_ble_eq_true rfl) ?_) (ltL_c (TyOk.str.lt _ _) (ltL_c ((TyOk.int .i64).lt _ _) (ltL_c ((TyOk.int .i64).lt _ _) (ltL_c ((TyOk.int .i64).lt _ _) ltL_nil)))) (lt_tup (ltL_c (ty_TField.lt _ _) (ltL_c ((TyOk.int .i64).lt _ _) ltL_nil)))
  replace h := Ok.of h
  unfold field_Counter at h
  refine AWp.seq ?_
  refine W.reg [0, 1] rfl ?_
  refine S.eff 8 rfl rfl (.nf (v2 := .ptr 0 [] 0) (H2 := [.cells (.st [V.str (default : ByteArray), (V.int .i64) 0, (V.int .i64) 0, E_TCounter (default : TCounter), E_TLock (default : TLock), .nils])]) (.alloc zv42) rfl rfl) trivial ?_
  refine S.sil 9 rfl rfl (fun _ hF => .assign cI) ?_
  refine S.nil ?_
  refine thenQ_n ?_
  refine AWp.seq ?_
  refine W.reg [0, 1, 2, 3, 4, 5, 6, 7, 8, 9] rfl ?_
  refine S.sil 13 rfl rfl (fun _ hF => .move (lk 3 rfl rfl)) ?_
  refine S.sil 14 rfl rfl (fun _ hF => .move (lk 5 rfl rfl)) ?_
  refine S.sil 15 rfl rfl (fun _ hF => .move (lk 7 rfl rfl)) ?_
  obtain ⟨r5, m5, h⟩ := h.bnd
  refine S.sil 16 rfl rfl (fun _ hF => .callQ ent114 cF (.c (lk 2 rfl rfl) (V.sub.refl _) (.c (lk 1 rfl rfl) (V.sub.refl _) (.c (lk 0 rfl rfl) (V.sub.refl _) .nil))) (C_counter_New m5)) ?_
  refine S.sil 12 rfl rfl (fun _ hF => .move (lk 0 rfl rfl)) ?_
  refine S.sil 17 rfl rfl (fun _ hF => .extract (lk 0 rfl rfl) rfl) ?_
  refine S.sil 18 rfl rfl (fun _ hF => .extract (lk 1 rfl rfl) rfl) ?_
  refine S.eff 10 rfl rfl (.nf (v2 := .ptr 1 [] 0) (H2 := [.cells (.st [V.str (default : ByteArray), (V.int .i64) 0, (V.int .i64) 0, E_TCounter (default : TCounter), E_TLock (default : TLock), .nils]), .cells (E_TCounter (default : TCounter))]) (.alloc zv37) rfl rfl) trivial ?_
  refine S.effN rfl rfl (.nf (H2 := [.cells (.st [V.str (default : ByteArray), (V.int .i64) 0, (V.int .i64) 0, E_TCounter (default : TCounter), E_TLock (default : TLock), .nils]), .cells (E_TCounter r5.1)]) (.storeP sz37 (lk 0 rfl rfl) (lk 2 rfl rfl) rfl (.refl _) rfl .nil (by first | rfl | omega) .nil (ty_TCounter.fl r5.1) (ty_TCounter.fl (default : TCounter)) rfl) rfl rfl) trivial ?_
  refine S.sil 11 rfl rfl (fun _ hF => .assign (lk 1 rfl rfl)) ?_
  refine S.nil ?_
  refine thenQ_n ?_
  refine AWp.wk (Wk.freeze 1 rfl rfl (.same (lk 0 rfl rfl) (.cons (lk 1 rfl rfl) rfl (.ptr .nil (by first | rfl | omega)) (.same (lk 9 rfl rfl) (.same (lk 10 rfl rfl) (.same (lk 11 rfl rfl) .nil))))) (.refl _)) ?_
  refine AWp.seq ?_
  refine AWp.seq ?_
  refine W.reg [0, 1, 2] rfl ?_
  refine S.sil 19 rfl rfl (fun _ hF => .move (lk 4 rfl rfl)) ?_
  obtain ⟨r6, m6, h⟩ := h.bnd
  refine S.sil 20 rfl rfl (fun _ hF => .callQ ent115 cF (.c (lk 0 rfl rfl) (V.sub.refl _) .nil) (C_field_Name m6)) ?_
  refine S.sil 21 rfl rfl (fun _ hF => .not (lk 0 rfl rfl)) ?_
  refine S.nil ?_
  refine thenQ_n ?_
  refine AWp.condM (lk 0 rfl rfl) h (fun c1 h => ?_) (fun c1 h => ?_)
  · skip
    refine W.reg [0] rfl ?_
    refine S.sil 11 rfl rfl (fun _ hF => .assign cI) ?_
    refine S.nil ?_
    refine thenQ_n ?_
    refine AWp.seq ?_
    refine W.reg [0, 1, 2, 3, 4, 5, 6, 7, 8] rfl ?_
    refine S.sil 22 rfl rfl (fun _ hF => .move (lk 8 rfl rfl)) ?_
    refine S.sil 23 rfl rfl (fun _ hF => .loadC sz37 ag37 (lk 6 rfl rfl) (ty_TCounter.fl r5.1) rfl) ?_
    obtain ⟨v7, ev7, h⟩ := h.nam
    refine S.sil 24 rfl rfl (fun _ hF => .nv (.vs (v := .st [V.str a1, (V.int .i64) 1, (V.int .i64) 0, E_TCounter r5.1, E_TLock (default : TLock), .nils]) (v2 := E_TField (⟨a1, 1, 0, r5.1, (default : TLock), ([] : List THold)⟩ : TField)) (.buildStW lay42 zv42 rfl (.cons (lk 1 rfl rfl) rfl rfl rfl rfl (.cons cI rfl rfl rfl rfl (.cons (lk 0 rfl rfl) rfl rfl (ty_TCounter.fl r5.1) rfl .nil)))) rfl (.st (.cons (.refl _) (.cons (.refl _) (.cons (.refl _) (.cons (.refl _) (.cons (.refl _) (.cons (.nils_no _) .nil)))))))) (congrArg E_TField ev7.symm)) ?_
    refine S.sil 25 rfl rfl (fun _ hF => .move (lk 3 rfl rfl)) ?_
    obtain ⟨r8, m8, h⟩ := h.bnd
    refine S.sil 26 rfl rfl (fun _ hF => .callQ ent116 cF (.c (lk 1 rfl rfl) (V.sub.refl _) (.c (lk 0 rfl rfl) (V.sub.refl _) .nil)) (C_field_done m8)) ?_
    refine S.sil 27 rfl rfl (fun _ hF => .extract (lk 0 rfl rfl) rfl) ?_
    refine S.sil 28 rfl rfl (fun _ hF => .extract (lk 1 rfl rfl) rfl) ?_
    refine S.effN rfl rfl (.nf (H2 := [.cells (E_TField r8.1), .dead]) (.storeP sz42 (lk 14 rfl rfl) (lk 1 rfl rfl) rfl (.refl _) rfl .nil (by first | rfl | omega) .nil (ty_TField.fl r8.1) (fl_st (flL_c (show flen _ = 1 from rfl) (flL_c (show flen _ = 1 from rfl) (flL_c (show flen _ = 1 from rfl) (flL_c (ty_TCounter.fl (default : TCounter)) (flL_c (ty_TLock.fl (default : TLock)) (flL_c (show flen _ = 1 from rfl) flL_nil))))))) rfl) rfl rfl) trivial ?_
    refine S.sil 9 rfl rfl (fun _ hF => .assign (lk 0 rfl rfl)) ?_
    refine S.nil ?_
    refine thenQ_n ?_
    refine AWp.prune (.eq (lk 0 rfl rfl) rfl (.eq (lk 15 rfl rfl) rfl .nil)) ?_
    refine AWp.ret ?_
    refine endF_wk (Wk.freeze 0 rfl rfl (.same (lk 0 rfl rfl) (.cons (lk 1 rfl rfl) rfl (.ptr .nil (by first | rfl | omega)) .nil)) (.refl _)) ?_
    obtain rfl := h.ret
    exact endFN rfl (Wk.selS [] .nil rfl (SelE.leaf (lk 1 rfl rfl) rfl (.refl _) (fun m => (lt_cptr (ty_TField.lt _ _))) (SelE.leaf (lk 0 rfl rfl) rfl (.refl _) (fun m => ((TyOk.int .i64).lt _ _)) .nil)) .nil) (.cons (.cellC sz42 ag42 (lk 0 rfl rfl) (ty_TField.fl _) rfl) (.cons (.tmp (lk 1 rfl rfl) rfl) .nil)) rfl rfl rfl
  · skip
    refine AWp.skip ?_
    refine thenQ_n ?_
    refine AWp.seq ?_
    refine W.reg [0, 1, 2, 3, 4, 5, 6, 7, 8] rfl ?_
    refine S.sil 22 rfl rfl (fun _ hF => .move (lk 7 rfl rfl)) ?_
    refine S.sil 23 rfl rfl (fun _ hF => .loadC sz37 ag37 (lk 5 rfl rfl) (ty_TCounter.fl r5.1) rfl) ?_
    obtain ⟨v9, ev9, h⟩ := h.nam
    refine S.sil 24 rfl rfl (fun _ hF => .nv (.vs (v := .st [V.str a1, (V.int .i64) 1, (V.int .i64) 0, E_TCounter r5.1, E_TLock (default : TLock), .nils]) (v2 := E_TField (⟨a1, 1, 0, r5.1, (default : TLock), ([] : List THold)⟩ : TField)) (.buildStW lay42 zv42 rfl (.cons (lk 1 rfl rfl) rfl rfl rfl rfl (.cons cI rfl rfl rfl rfl (.cons (lk 0 rfl rfl) rfl rfl (ty_TCounter.fl r5.1) rfl .nil)))) rfl (.st (.cons (.refl _) (.cons (.refl _) (.cons (.refl _) (.cons (.refl _) (.cons (.refl _) (.cons (.nils_no _) .nil)))))))) (congrArg E_TField ev9.symm)) ?_
    refine S.sil 25 rfl rfl (fun _ hF => .move (lk 6 rfl rfl)) ?_
    obtain ⟨r10, m10, h⟩ := h.bnd
    refine S.sil 26 rfl rfl (fun _ hF => .callQ ent116 cF (.c (lk 1 rfl rfl) (V.sub.refl _) (.c (lk 0 rfl rfl) (V.sub.refl _) .nil)) (C_field_done m10)) ?_
    refine S.sil 27 rfl rfl (fun _ hF => .extract (lk 0 rfl rfl) rfl) ?_
    refine S.sil 28 rfl rfl (fun _ hF => .extract (lk 1 rfl rfl) rfl) ?_
    refine S.effN rfl rfl (.nf (H2 := [.cells (E_TField r10.1), .dead]) (.storeP sz42 (lk 13 rfl rfl) (lk 1 rfl rfl) rfl (.refl _) rfl .nil (by first | rfl | omega) .nil (ty_TField.fl r10.1) (fl_st (flL_c (show flen _ = 1 from rfl) (flL_c (show flen _ = 1 from rfl) (flL_c (show flen _ = 1 from rfl) (flL_c (ty_TCounter.fl (default : TCounter)) (flL_c (ty_TLock.fl (default : TLock)) (flL_c (show flen _ = 1 from rfl) flL_nil))))))) rfl) rfl rfl) trivial ?_
    refine S.sil 9 rfl rfl (fun _ hF => .assign (lk 0 rfl rfl)) ?_
    refine S.nil ?_
    refine thenQ_n ?_
    refine AWp.prune (.eq (lk 0 rfl rfl) rfl (.eq (lk 14 rfl rfl) rfl .nil)) ?_
    refine AWp.ret ?_
    refine endF_wk (Wk.freeze 0 rfl rfl (.same (lk 0 rfl rfl) (.cons (lk 1 rfl rfl) rfl (.ptr .nil (by first | rfl | omega)) .nil)) (.refl _)) ?_
    obtain rfl := h.ret
    exact endFN rfl (Wk.selS [] .nil rfl (SelE.leaf (lk 1 rfl rfl) rfl (.refl _) (fun m => (lt_cptr (ty_TField.lt _ _))) (SelE.leaf (lk 0 rfl rfl) rfl (.refl _) (fun m => ((TyOk.int .i64).lt _ _)) .nil)) .nil) (.cons (.cellC sz42 ag42 (lk 0 rfl rfl) (ty_TField.fl _) rfl) (.cons (.tmp (lk 1 rfl rfl) rfl) .nil)) rfl rfl rfl
theorem C_rights_is {a1 : Int} {r : Bool} (h : rights_is a1 = some r) : PureC Pg 208 [(V.int .i64) a1] (V.bool r) := by
  refine PureC.ofF (CallSpec.of_bodyF 9 0 fn208 rfl rfl rfl (Nat.le_of_ble_eq_true rfl) ?_) (ltL_c ((TyOk.int .i64).lt _ _) ltL_nil) (TyOk.bool.lt _ _)
  replace h := Ok.of h
  unfold rights_is at h
  refine AWp.seq ?_
  refine W.reg [0] rfl ?_
  refine S.sil 2 rfl rfl (fun _ hF => .assign cB) ?_
  refine S.nil ?_
  refine thenQ_n ?_
  refine AWp.seq ?_
  refine W.reg [0, 1, 2, 3, 4, 5, 6] rfl ?_
  refine S.sil 3 rfl rfl (fun _ hF => .move (lk 1 rfl rfl)) ?_
  refine S.sil 4 rfl rfl (fun _ hF => .geq (lk 0 rfl rfl) cI) ?_
  refine S.sil 5 rfl rfl (fun _ hF => .move (lk 0 rfl rfl)) ?_
  refine S.gsil 6 2 5 true rfl rfl rfl (lk 0 rfl rfl) (fun hB _ hF => .move (lk 4 rfl rfl)) ?_
  refine S.gsil 7 2 5 true rfl rfl rfl (lk 1 rfl rfl) (fun hB _ hF => .lss (ifT hB (lk 0 rfl rfl)) cI) ?_
  refine S.sil 8 rfl rfl (fun _ hF => .pickAnd (lk 2 rfl rfl) (fun h => ifT h (lk 0 rfl rfl)) cB) ?_
  obtain ⟨v2, ev2, h⟩ := h.nam
  refine S.sil 2 rfl rfl (fun _ hF => .nv (.assign (lk 0 rfl rfl)) (congrArg V.bool ev2.symm)) ?_
  refine S.nil ?_
  refine thenQ_n ?_
  refine AWp.ret ?_
  obtain rfl := h.ret
  exact endF1 rfl (Wk.selS [] .nil rfl (SelE.leaf (lk 0 rfl rfl) rfl (.refl _) (fun m => (TyOk.bool.lt _ _)) .nil) .nil) (.tmp (lk 0 rfl rfl) rfl) rfl rfl
theorem C_rights_less {a1 : Vector Int 16} {r : (List Int)} (h : rights_less a1 = some r) : PureC Pg 213 [E_A16_i64 a1] (E_S_i64 r) := by
  refine PureC.ofF (CallSpec.of_bodyF 17 0 fn213 rfl rfl rfl (Nat.le_of_ble_eq_true rfl) ?_) (ltL_c (ty_A16_i64.lt _ _) ltL_nil) (ty_S_i64.lt _ _)
  replace h := Ok.of h
  unfold rights_less at h
  refine AWp.seq ?_
  refine W.reg [0, 1] rfl ?_
  refine S.eff 1 rfl rfl (.nf (v2 := .ptr 0 [] 0) (H2 := [.cells (E_A16_i64 a1)]) (.box (lk 0 rfl rfl) rfl) rfl rfl) trivial ?_
  refine S.sil 2 rfl rfl (fun _ hF => .assign cNs) ?_
  refine S.nil ?_
  refine thenQ_n ?_
  refine AWp.wk (Wk.freeze 0 rfl rfl (.same (lk 0 rfl rfl) (.cons (lk 1 rfl rfl) rfl (.ptr .nil (by first | rfl | omega)) .nil)) (.refl _)) ?_
  refine AWp.seq ?_
  refine W.reg [0] rfl ?_
  refine S.sil 3 rfl rfl (fun _ hF => .assign cNs) ?_
  refine S.nil ?_
  refine thenQ_n ?_
  refine AWp.seq ?_
  refine AWp.seq ?_
  refine W.reg [0, 1] rfl ?_
  refine S.sil 6 rfl rfl (fun _ hF => .loadC sz32 ag32 (lk 2 rfl rfl) (ty_A16_i64.fl a1) rfl) ?_
  refine S.sil 7 rfl rfl (fun _ hF => .move cI) ?_
  refine S.nil ?_
  refine thenQ_n ?_
  refine AWp.cutX (fun x4 => ⟨[(3, .sl 1 (.tok 0) (List.map (V.int .i64) x4)), (2, .nils)], [.tail]⟩) nc_then h (fun q2 hq2 => ?_) (fun x4 h => ?_)
  · refine AWp.block ?_
    refine AWp.loopT (fun s3 => ⟨[(7, (V.int .i64) s3.1), (6, E_A16_i64 a1), (3, .sl 1 (.tok 0) (List.map (V.int .i64) s3.2)), (2, .nils)], [.tail]⟩) hq2 (Wk.vacant.trans (Wk.selS [1] (by decide) rfl (SelE.leaf (lk 0 rfl rfl) rfl (.refl _) (fun m => ((TyOk.int .i64).lt _ _)) (SelE.leaf (lk 1 rfl rfl) rfl (.refl _) (fun m => (ty_A16_i64.lt _ _)) (SelE.spec (lk 2 rfl rfl) rfl (.nils_tok _ _) (ren_sl (TyOk.int .i64) _) (lt_sl rfl ((TyOk.int .i64).ltm _ _)) (SelE.leaf (lk 3 rfl rfl) rfl (.refl _) (fun m => rfl) .nil)))) (.cons rfl rfl trivial .nil))) (fun _ s3 h2 => ?_)
    rw [rights_less_L1] at h2
    refine AWp.seq ?_
    refine W.reg [0] rfl ?_
    refine S.sil 8 rfl rfl (fun _ hF => .lss (lk 0 rfl rfl) cI) ?_
    refine S.nil ?_
    refine thenQ_n ?_
    refine AWp.seq ?_
    refine AWp.condM (lk 0 rfl rfl) h2 (fun c1 h2 => ?_) (fun c1 h2 => ?_)
    · skip
      refine AWp.skip ?_
      refine thenQ_n ?_
      refine AWp.seq ?_
      refine AWp.block ?_
      refine AWp.seq ?_
      refine W.reg [0, 1] rfl ?_
      obtain ⟨k5, m5, h2⟩ := h2.bnd
      refine S.sil 9 rfl rfl (fun _ hF => .ixV arr32 (lk 2 rfl rfl) (lk 1 rfl rfl) m5 rfl) ?_
      refine S.sil 5 rfl rfl (fun _ hF => .assign (lk 0 rfl rfl)) ?_
      refine S.nil ?_
      refine thenQ_n ?_
      refine W.reg [0, 1, 2, 3, 4, 5] rfl ?_
      refine S.sil 10 rfl rfl (fun _ hF => .move (lk 5 rfl rfl)) ?_
      refine S.sil 11 rfl rfl (fun _ hF => .move (lk 1 rfl rfl)) ?_
      refine S.sil 12 rfl rfl (fun _ hF => .neg (lk 0 rfl rfl)) ?_
      refine S.sil 13 rfl rfl (fun _ hF => .buildSliceW sli153 zv3 rfl rfl (by decide) (.cons (lk 0 rfl rfl) rfl (.refl _) rfl .nil)) ?_
      obtain ⟨l6, m6, h2⟩ := h2.bnd
      refine S.eff 14 rfl rfl (.nf (v2 := .sl 1 (.tok 1) (List.map (V.int .i64) l6)) (H2 := [.dead, .tail]) (.appT sli153 und153 zv3 rfl (by decide) (lk 3 rfl rfl) rfl (lk 0 rfl rfl) Rd.sl m6 rfl) rfl rfl) trivial ?_
      refine S.sil 3 rfl rfl (fun _ hF => .assign (lk 0 rfl rfl)) ?_
      refine S.nil ?_
      refine blockQ_n ?_
      refine thenQ_n ?_
      refine W.reg [0, 1] rfl ?_
      refine S.sil 15 rfl rfl (fun _ hF => .add (lk 9 rfl rfl) cI) ?_
      refine S.sil 7 rfl rfl (fun _ hF => .move (lk 0 rfl rfl)) ?_
      refine S.nil ?_
      refine thenQ_n ?_
      exact ⟨_, h2.ret, (Wk.selS [1] (by decide) rfl (SelE.leaf (lk 0 rfl rfl) rfl (.refl _) (fun m => ((TyOk.int .i64).lt _ _)) (SelE.leaf (lk 12 rfl rfl) rfl (.refl _) (fun m => (ty_A16_i64.lt _ _)) (SelE.spec (lk 2 rfl rfl) rfl (.refl _) (ren_sl (TyOk.int .i64) _) (lt_sl rfl ((TyOk.int .i64).ltm _ _)) (SelE.leaf (lk 14 rfl rfl) rfl (.refl _) (fun m => rfl) .nil)))) (.cons rfl rfl trivial .nil))⟩
    · skip
      refine AWp.exit ?_
      refine thenQ_x ?_
      refine thenQ_x ?_
      refine blockQ_x ?_
      refine thenQ_n ?_
      exact ⟨_, h2.ret, (Wk.selS [0] (by decide) rfl (SelE.spec (lk 3 rfl rfl) rfl (.refl _) (ren_sl (TyOk.int .i64) _) (lt_sl rfl ((TyOk.int .i64).ltm _ _)) (SelE.leaf (lk 4 rfl rfl) rfl (.refl _) (fun m => rfl) .nil)) (.cons rfl rfl trivial .nil))⟩
  · skip
    refine thenQ_n ?_
    refine AWp.seq ?_
    refine W.reg [0, 1] rfl ?_
    refine S.sil 16 rfl rfl (fun _ hF => .move (lk 0 rfl rfl)) ?_
    refine S.sil 2 rfl rfl (fun _ hF => .assign (lk 0 rfl rfl)) ?_
    refine S.nil ?_
    refine thenQ_n ?_
    refine AWp.ret ?_
    obtain rfl := h.ret
    exact endF1 rfl (Wk.selS [] .nil rfl (SelE.leaf (lk 0 rfl rfl) rfl (.forget _ _ _) (fun m => (ty_S_i64.lt _ _)) .nil) .nil) (.tmp (lk 0 rfl rfl) rfl) rfl rfl
theorem C_num_Add {a1 : Int} {a2 : Int} {r : Int × Int} (h : num_Add a1 a2 = some r) : PureC Pg 164 [(V.int .i64) a1, (V.int .i64) a2] (.tup [(V.int .i64) r.1, (V.int .i64) r.2]) := by
  refine PureC.ofF (CallSpec.of_bodyF 15 0 fn164 rfl rfl rfl (Nat.le_of_ble_eq_true rfl) ?_) (ltL_c ((TyOk.int .i64).lt _ _) (ltL_c ((TyOk.int .i64).lt _ _) ltL_nil)) (lt_tup (ltL_c ((TyOk.int .i64).lt _ _) (ltL_c ((TyOk.int .i64).lt _ _) ltL_nil)))
  replace h := Ok.of h
  unfold num_Add at h
  refine AWp.seq ?_
  refine W.reg [0, 1] rfl ?_
  refine S.sil 4 rfl rfl (fun _ hF => .assign cI) ?_
  refine S.sil 5 rfl rfl (fun _ hF => .assign cI) ?_
  refine S.nil ?_
  refine thenQ_n ?_
  refine AWp.seq ?_
  refine W.reg [0, 1, 2, 3, 4, 5, 6, 7, 8, 9, 10] rfl ?_
  refine S.sil 6 rfl rfl (fun _ hF => .move (lk 2 rfl rfl)) ?_
  refine S.sil 7 rfl rfl (fun _ hF => .move (lk 4 rfl rfl)) ?_
  refine S.sil 8 rfl rfl (fun _ hF => .add (lk 1 rfl rfl) (lk 0 rfl rfl)) ?_
  refine S.sil 9 rfl rfl (fun _ hF => .move (lk 5 rfl rfl)) ?_
  refine S.sil 10 rfl rfl (fun _ hF => .move (lk 7 rfl rfl)) ?_
  refine S.sil 11 rfl rfl (fun _ hF => .buildSliceW sli153 zv3 rfl rfl (by decide) (.cons (lk 1 rfl rfl) rfl (.refl _) rfl (.cons (lk 0 rfl rfl) rfl (.refl _) rfl .nil))) ?_
  obtain ⟨r3, m3, h⟩ := h.bnd
  refine S.sil 12 rfl rfl (fun _ hF => .callQ ent209 cF (.c (lk 3 rfl rfl) (V.sub.refl _) (.c (lk 0 rfl rfl) (V.sub.refl _) .nil)) (C_num_checked m3)) ?_
  refine S.sil 13 rfl rfl (fun _ hF => .extract (lk 0 rfl rfl) rfl) ?_
  refine S.sil 14 rfl rfl (fun _ hF => .extract (lk 1 rfl rfl) rfl) ?_
  refine S.sil 4 rfl rfl (fun _ hF => .assign (lk 1 rfl rfl)) ?_
  refine S.sil 5 rfl rfl (fun _ hF => .assign (lk 1 rfl rfl)) ?_
  refine S.nil ?_
  refine thenQ_n ?_
  refine AWp.prune (.eq (lk 0 rfl rfl) rfl (.eq (lk 1 rfl rfl) rfl .nil)) ?_
  refine AWp.ret ?_
  obtain rfl := h.ret
  exact endFN rfl (Wk.selS [] .nil rfl (SelE.leaf (lk 1 rfl rfl) rfl (.refl _) (fun m => ((TyOk.int .i64).lt _ _)) (SelE.leaf (lk 0 rfl rfl) rfl (.refl _) (fun m => ((TyOk.int .i64).lt _ _)) .nil)) .nil) (.cons (.tmp (lk 0 rfl rfl) rfl) (.cons (.tmp (lk 1 rfl rfl) rfl) .nil)) rfl rfl rfl
theorem C_num_Must {a1 : Int} {a2 : Int} {r : Int} (h : num_Must a1 a2 = some r) : PureC Pg 178 [(V.int .i64) a1, (V.int .i64) a2] ((V.int .i64) r) := by
  refine PureC.ofF (CallSpec.of_bodyF 10 0 fn178 rfl rfl rfl (Nat.le_of_ble_eq_true rfl) ?_) (ltL_c ((TyOk.int .i64).lt _ _) (ltL_c ((TyOk.int .i64).lt _ _) ltL_nil)) ((TyOk.int .i64).lt _ _)
  replace h := Ok.of h
  unfold num_Must at h
  refine AWp.seq ?_
  refine W.reg [0] rfl ?_
  refine S.sil 4 rfl rfl (fun _ hF => .assign cI) ?_
  refine S.nil ?_
  refine thenQ_n ?_
  refine AWp.seq ?_
  refine AWp.seq ?_
  refine W.reg [0, 1] rfl ?_
  refine S.sil 5 rfl rfl (fun _ hF => .move (lk 2 rfl rfl)) ?_
  refine S.sil 6 rfl rfl (fun _ hF => .neq (lk 0 rfl rfl) cI) ?_
  refine S.nil ?_
  refine thenQ_n ?_
  refine AWp.condM (lk 0 rfl rfl) h (fun c1 h => ?_) (fun c1 h => ?_)
  · skip
    exact h.no.elim
  · skip
    refine AWp.skip ?_
    refine thenQ_n ?_
    refine AWp.seq ?_
    refine W.reg [0, 1] rfl ?_
    refine S.sil 9 rfl rfl (fun _ hF => .move (lk 3 rfl rfl)) ?_
    refine S.sil 4 rfl rfl (fun _ hF => .assign (lk 0 rfl rfl)) ?_
    refine S.nil ?_
    refine thenQ_n ?_
    refine AWp.ret ?_
    obtain rfl := h.ret
    exact endF1 rfl (Wk.selS [] .nil rfl (SelE.leaf (lk 0 rfl rfl) rfl (.refl _) (fun m => ((TyOk.int .i64).lt _ _)) .nil) .nil) (.tmp (lk 0 rfl rfl) rfl) rfl rfl
theorem C_num_Sum_1 {a1 : List Int} {r : Int} (h : num_Sum_1 a1 = some r) : PureC Pg 177 [.cptr (.sl 1 .no (List.map (V.int .i64) a1))] ((V.int .i64) r) := by
  refine PureC.ofF (CallSpec.of_bodyF 19 0 fn177 rfl rfl rfl (Nat.le_of_ble_eq_true rfl) ?_) (ltL_c (lt_cptr (lt_sl rfl ((TyOk.int .i64).ltm _ _))) ltL_nil) ((TyOk.int .i64).lt _ _)
  replace h := Ok.of h
  unfold num_Sum_1 at h
  refine AWp.seq ?_
  refine W.reg [0] rfl ?_
  refine S.sil 1 rfl rfl (fun _ hF => .assign cI) ?_
  refine S.nil ?_
  refine thenQ_n ?_
  refine AWp.seq ?_
  refine W.reg [0] rfl ?_
  refine S.sil 2 rfl rfl (fun _ hF => .assign cI) ?_
  refine S.nil ?_
  refine thenQ_n ?_
  refine AWp.seq ?_
  refine AWp.seq ?_
  refine W.reg [0, 1, 2] rfl ?_
  refine S.sil 5 rfl rfl (fun _ hF => .loadC sz153 ag153 (lk 2 rfl rfl) rfl rfl) ?_
  refine S.sil 6 rfl rfl (fun _ hF => .lenT sli153 (lk 0 rfl rfl) (vsub rfl (.refl _))) ?_
  refine S.sil 7 rfl rfl (fun _ hF => .move cI) ?_
  refine S.nil ?_
  refine thenQ_n ?_
  refine AWp.cutX (fun x4 => ⟨[(2, (V.int .i64) x4), (1, (V.int .i64) 0)], []⟩) nc_then h (fun q2 hq2 => ?_) (fun x4 h => ?_)
  · refine AWp.block ?_
    refine AWp.loopT (fun s3 => ⟨[(7, (V.int .i64) s3.1), (6, (V.int .i64) (a1.length : Int)), (5, .sl 1 .no (List.map (V.int .i64) a1)), (2, (V.int .i64) s3.2), (1, (V.int .i64) 0)], []⟩) hq2 (Wk.selS [] (by decide) rfl (SelE.leaf (lk 0 rfl rfl) rfl (.refl _) (fun m => ((TyOk.int .i64).lt _ _)) (SelE.leaf (lk 1 rfl rfl) rfl (.refl _) (fun m => ((TyOk.int .i64).lt _ _)) (SelE.leaf (lk 2 rfl rfl) rfl (.refl _) (fun m => (lt_sl rfl ((TyOk.int .i64).ltm _ _))) (SelE.leaf (lk 3 rfl rfl) rfl (.refl _) (fun m => ((TyOk.int .i64).lt _ _)) (SelE.leaf (lk 4 rfl rfl) rfl (.refl _) (fun m => ((TyOk.int .i64).lt _ _)) .nil))))) .nil) (fun _ s3 h2 => ?_)
    rw [num_Sum_1_L1] at h2
    refine AWp.seq ?_
    refine W.reg [0] rfl ?_
    refine S.sil 8 rfl rfl (fun _ hF => .lss (lk 0 rfl rfl) (lk 1 rfl rfl)) ?_
    refine S.nil ?_
    refine thenQ_n ?_
    refine AWp.seq ?_
    refine AWp.condM (lk 0 rfl rfl) h2 (fun c1 h2 => ?_) (fun c1 h2 => ?_)
    · skip
      refine AWp.skip ?_
      refine thenQ_n ?_
      refine AWp.seq ?_
      refine AWp.block ?_
      refine AWp.seq ?_
      refine W.reg [0, 1, 2] rfl ?_
      obtain ⟨j5, m5, h2⟩ := h2.bnd
      refine S.sil 9 rfl rfl (fun _ hF => .ixS sli153 (lk 3 rfl rfl) (lk 1 rfl rfl) m5) ?_
      refine S.sil 10 rfl rfl (fun _ hF => .loadC sz3 ag3 (lk 0 rfl rfl) rfl rfl) ?_
      refine S.sil 4 rfl rfl (fun _ hF => .assign (lk 0 rfl rfl)) ?_
      refine S.nil ?_
      refine thenQ_n ?_
      refine W.reg [0, 1, 2, 3, 4, 5, 6] rfl ?_
      refine S.sil 11 rfl rfl (fun _ hF => .move (lk 7 rfl rfl)) ?_
      refine S.sil 12 rfl rfl (fun _ hF => .move (lk 1 rfl rfl)) ?_
      obtain ⟨r6, m6, h2⟩ := h2.bnd
      refine S.sil 13 rfl rfl (fun _ hF => .callQ ent164 cF (.c (lk 1 rfl rfl) (V.sub.refl _) (.c (lk 0 rfl rfl) (V.sub.refl _) .nil)) (C_num_Add m6)) ?_
      refine S.sil 14 rfl rfl (fun _ hF => .extract (lk 0 rfl rfl) rfl) ?_
      refine S.sil 15 rfl rfl (fun _ hF => .extract (lk 1 rfl rfl) rfl) ?_
      obtain ⟨r7, m7, h2⟩ := h2.bnd
      refine S.sil 16 rfl rfl (fun _ hF => .callQ ent178 cF (.c (lk 1 rfl rfl) (V.sub.refl _) (.c (lk 0 rfl rfl) (V.sub.refl _) .nil)) (C_num_Must m7)) ?_
      refine S.sil 2 rfl rfl (fun _ hF => .assign (lk 0 rfl rfl)) ?_
      refine S.nil ?_
      refine blockQ_n ?_
      refine thenQ_n ?_
      refine W.reg [0, 1] rfl ?_
      refine S.sil 17 rfl rfl (fun _ hF => .add (lk 11 rfl rfl) cI) ?_
      refine S.sil 7 rfl rfl (fun _ hF => .move (lk 0 rfl rfl)) ?_
      refine S.nil ?_
      refine thenQ_n ?_
      exact ⟨_, h2.ret, (Wk.selS [] (by decide) rfl (SelE.leaf (lk 0 rfl rfl) rfl (.refl _) (fun m => ((TyOk.int .i64).lt _ _)) (SelE.leaf (lk 14 rfl rfl) rfl (.refl _) (fun m => ((TyOk.int .i64).lt _ _)) (SelE.leaf (lk 15 rfl rfl) rfl (.refl _) (fun m => (lt_sl rfl ((TyOk.int .i64).ltm _ _))) (SelE.leaf (lk 2 rfl rfl) rfl (.refl _) (fun m => ((TyOk.int .i64).lt _ _)) (SelE.leaf (lk 17 rfl rfl) rfl (.refl _) (fun m => ((TyOk.int .i64).lt _ _)) .nil))))) .nil)⟩
    · skip
      refine AWp.exit ?_
      refine thenQ_x ?_
      refine thenQ_x ?_
      refine blockQ_x ?_
      refine thenQ_n ?_
      exact ⟨_, h2.ret, (Wk.selS [] (by decide) rfl (SelE.leaf (lk 4 rfl rfl) rfl (.refl _) (fun m => ((TyOk.int .i64).lt _ _)) (SelE.leaf (lk 5 rfl rfl) rfl (.refl _) (fun m => ((TyOk.int .i64).lt _ _)) .nil)) .nil)⟩
  · skip
    refine thenQ_n ?_
    refine AWp.seq ?_
    refine W.reg [0, 1] rfl ?_
    refine S.sil 18 rfl rfl (fun _ hF => .move (lk 0 rfl rfl)) ?_
    refine S.sil 1 rfl rfl (fun _ hF => .assign (lk 0 rfl rfl)) ?_
    refine S.nil ?_
    refine thenQ_n ?_
    refine AWp.ret ?_
    obtain rfl := h.ret
    exact endF1 rfl (Wk.selS [] .nil rfl (SelE.leaf (lk 0 rfl rfl) rfl (.refl _) (fun m => ((TyOk.int .i64).lt _ _)) .nil) .nil) (.tmp (lk 0 rfl rfl) rfl) rfl rfl
theorem ifc20 : (match Pg.underlying 20 with | some (.interface _) => true | _ => false) = true := by kernel_rfl
theorem fun133 : (match Pg.underlying 133 with | some (.func ..) => true | _ => false) = true := by kernel_rfl
theorem C_num_Must_P {a1 : Int} {a2 : Int} (h : a2 ≠ 0) : PanC Pg 178 [(V.int .i64) a1, (V.int .i64) a2] (.ifc 27 ((V.int .i64) a2)) := by
  refine PanC.ofF (CallSpec.of_bodyF 10 0 fn178 rfl rfl rfl (Nat.le_of_ble_eq_true rfl) ?_) (ltL_c ((TyOk.int .i64).lt _ _) (ltL_c ((TyOk.int .i64).lt _ _) ltL_nil)) (lt_ifc ((TyOk.int .i64).lt _ _))
  refine AWp.seq ?_
  refine W.reg [0] rfl ?_
  refine S.sil 4 rfl rfl (fun _ hF => .assign cI) ?_
  refine S.nil ?_
  refine thenQ_n ?_
  refine AWp.seq ?_
  refine AWp.seq ?_
  refine W.reg [0, 1] rfl ?_
  refine S.sil 5 rfl rfl (fun _ hF => .move (lk 2 rfl rfl)) ?_
  refine S.sil 6 rfl rfl (fun _ hF => .neq (lk 0 rfl rfl) cI) ?_
  refine S.nil ?_
  refine thenQ_n ?_
  refine AWp.cond (lk 0 rfl rfl) (fun _ => ?_) (fun e => by simp [h] at e)
  refine AWp.regionP [0, 1] 2 [] rfl rfl rfl ?_
  refine S.sil 7 rfl rfl (fun _ hF => .move (lk 4 rfl rfl)) ?_
  refine S.sil 8 rfl rfl (fun _ hF => .mkIface und27 rfl (lk 0 rfl rfl) rfl) ?_
  refine S.nil ?_
  exact ⟨_, _, .panic (lk 0 rfl rfl), thenQ_p ⟨rfl, rfl⟩⟩

theorem C_num_Sum_P {a1 : List Int} {r : Int} (h : num_Sum_P a1 = some r) : PanC Pg 177 [.cptr (.sl 1 .no (List.map (V.int .i64) a1))] (.ifc 27 ((V.int .i64) r)) := by
  refine PanC.ofF (CallSpec.of_bodyF 19 0 fn177 rfl rfl rfl (Nat.le_of_ble_eq_true rfl) ?_) (ltL_c (lt_cptr (lt_sl rfl ((TyOk.int .i64).ltm _ _))) ltL_nil) (lt_ifc ((TyOk.int .i64).lt _ _))
  refine AWp.seq ?_
  refine W.reg [0] rfl ?_
  refine S.sil 1 rfl rfl (fun _ hF => .assign cI) ?_
  refine S.nil ?_
  refine thenQ_n ?_
  refine AWp.seq ?_
  refine W.reg [0] rfl ?_
  refine S.sil 2 rfl rfl (fun _ hF => .assign cI) ?_
  refine S.nil ?_
  refine thenQ_n ?_
  refine AWp.seq ?_
  refine AWp.seq ?_
  refine W.reg [0, 1, 2] rfl ?_
  refine S.sil 5 rfl rfl (fun _ hF => .loadC sz153 ag153 (lk 2 rfl rfl) rfl rfl) ?_
  refine S.sil 6 rfl rfl (fun _ hF => .lenT sli153 (lk 0 rfl rfl) (vsub rfl (.refl _))) ?_
  refine S.sil 7 rfl rfl (fun _ hF => .move cI) ?_
  refine S.nil ?_
  refine thenQ_n ?_
  refine AWp.block ?_
  refine AWp.loopT (fun s3 => ⟨[(7, (V.int .i64) s3.1), (6, (V.int .i64) (a1.length : Int)), (5, .sl 1 .no (List.map (V.int .i64) a1)), (2, (V.int .i64) s3.2), (1, (V.int .i64) 0)], []⟩) h (Wk.selS [] (by decide) rfl (SelE.leaf (lk 0 rfl rfl) rfl (.refl _) (fun m => ((TyOk.int .i64).lt _ _)) (SelE.leaf (lk 1 rfl rfl) rfl (.refl _) (fun m => ((TyOk.int .i64).lt _ _)) (SelE.leaf (lk 2 rfl rfl) rfl (.refl _) (fun m => (lt_sl rfl ((TyOk.int .i64).ltm _ _))) (SelE.leaf (lk 3 rfl rfl) rfl (.refl _) (fun m => ((TyOk.int .i64).lt _ _)) (SelE.leaf (lk 4 rfl rfl) rfl (.refl _) (fun m => ((TyOk.int .i64).lt _ _)) .nil))))) .nil) (fun _ s3 h2 => ?_)
  rw [num_Sum_P_L1] at h2
  refine AWp.seq ?_
  refine W.reg [0] rfl ?_
  refine S.sil 8 rfl rfl (fun _ hF => .lss (lk 0 rfl rfl) (lk 1 rfl rfl)) ?_
  refine S.nil ?_
  refine thenQ_n ?_
  refine AWp.seq ?_
  refine AWp.condM (lk 0 rfl rfl) h2 (fun c1 h2 => ?_) (fun c1 h2 => h2.no.elim)
  refine AWp.skip ?_
  refine thenQ_n ?_
  refine AWp.seq ?_
  refine AWp.block ?_
  refine AWp.seq ?_
  refine W.reg [0, 1, 2] rfl ?_
  obtain ⟨j5, m5, h2⟩ := h2.bnd
  refine S.sil 9 rfl rfl (fun _ hF => .ixS sli153 (lk 3 rfl rfl) (lk 1 rfl rfl) m5) ?_
  refine S.sil 10 rfl rfl (fun _ hF => .loadC sz3 ag3 (lk 0 rfl rfl) rfl rfl) ?_
  refine S.sil 4 rfl rfl (fun _ hF => .assign (lk 0 rfl rfl)) ?_
  refine S.nil ?_
  refine thenQ_n ?_
  obtain ⟨r6, m6, h2⟩ := h2.bnd
  by_cases hz : r6.2 = 0
  · replace h2 := (h2.t (by simp [hz])).ret
    refine W.reg [0, 1, 2, 3, 4, 5, 6] rfl ?_
    refine S.sil 11 rfl rfl (fun _ hF => .move (lk 7 rfl rfl)) ?_
    refine S.sil 12 rfl rfl (fun _ hF => .move (lk 1 rfl rfl)) ?_
    refine S.sil 13 rfl rfl (fun _ hF => .callQ ent164 cF (.c (lk 1 rfl rfl) (V.sub.refl _) (.c (lk 0 rfl rfl) (V.sub.refl _) .nil)) (C_num_Add m6)) ?_
    refine S.sil 14 rfl rfl (fun _ hF => .extract (lk 0 rfl rfl) rfl) ?_
    refine S.sil 15 rfl rfl (fun _ hF => .extract (lk 1 rfl rfl) rfl) ?_
    refine S.sil 16 rfl rfl (fun _ hF => .callQ ent178 cF (.c (lk 1 rfl rfl) (V.sub.refl _) (.c (lk 0 rfl rfl) (V.sub.refl _) .nil)) (C_num_Must (r := r6.1) (by simp [num_Must, hz]))) ?_
    refine S.sil 2 rfl rfl (fun _ hF => .assign (lk 0 rfl rfl)) ?_
    refine S.nil ?_
    refine blockQ_n ?_
    refine thenQ_n ?_
    refine W.reg [0, 1] rfl ?_
    refine S.sil 17 rfl rfl (fun _ hF => .add (lk 11 rfl rfl) cI) ?_
    refine S.sil 7 rfl rfl (fun _ hF => .move (lk 0 rfl rfl)) ?_
    refine S.nil ?_
    refine thenQ_n ?_
    exact ⟨_, h2, (Wk.selS [] (by decide) rfl (SelE.leaf (lk 0 rfl rfl) rfl (.refl _) (fun m => ((TyOk.int .i64).lt _ _)) (SelE.leaf (lk 14 rfl rfl) rfl (.refl _) (fun m => ((TyOk.int .i64).lt _ _)) (SelE.leaf (lk 15 rfl rfl) rfl (.refl _) (fun m => (lt_sl rfl ((TyOk.int .i64).ltm _ _))) (SelE.leaf (lk 2 rfl rfl) rfl (.refl _) (fun m => ((TyOk.int .i64).lt _ _)) (SelE.leaf (lk 17 rfl rfl) rfl (.refl _) (fun m => ((TyOk.int .i64).lt _ _)) .nil))))) .nil)⟩
  · replace h2 := (h2.f (by simp [hz])).ret
    simp only [loopK] at h2
    subst h2
    refine AWp.regionP [0, 1, 2, 3, 4] 5 [6] rfl rfl rfl ?_
    refine S.sil 11 rfl rfl (fun _ hF => .move (lk 7 rfl rfl)) ?_
    refine S.sil 12 rfl rfl (fun _ hF => .move (lk 1 rfl rfl)) ?_
    refine S.sil 13 rfl rfl (fun _ hF => .callQ ent164 cF (.c (lk 1 rfl rfl) (V.sub.refl _) (.c (lk 0 rfl rfl) (V.sub.refl _) .nil)) (C_num_Add m6)) ?_
    refine S.sil 14 rfl rfl (fun _ hF => .extract (lk 0 rfl rfl) rfl) ?_
    refine S.sil 15 rfl rfl (fun _ hF => .extract (lk 1 rfl rfl) rfl) ?_
    refine S.nil ?_
    refine ⟨_, _, .call ent178 cF (.c (lk 1 rfl rfl) (V.sub.refl _) (.c (lk 0 rfl rfl) (V.sub.refl _) .nil)) (C_num_Must_P hz), ?_⟩
    repeat (first | refine thenQ_p ?_ | refine blockQ_p ?_)
    exact ⟨rfl, rfl⟩

/-- The deferred function, when there is a panic. -/
theorem catch_pan {g : Gh} {w : World} {xs : List Value} {e a b : Int} {older : List PanicEntry} (hx : RVs g [.ptr 1 [] 0, .ptr 0 [] 0] xs) (hr : HR g [.cells (.int .i64 a), .cells (.int .i64 b)] w) {vx : Value} (hv : RV g (.ifc 27 (.int .i64 e)) vx) :
    CallsD Pg 216 xs.toArray (.panicking ({ v := vx, recovered := false } :: older)) w fun e' u' w' => e' = .returned (.tuple #[]) ∧ u' = .panicking ({ v := vx, recovered := true } :: older) ∧
      ∃ g', HR g' [.cells (.int .i64 0), .cells (.int .i64 e)] w' ∧ Ev g [.cells (.int .i64 a), .cells (.int .i64 b)] w g' [.cells (.int .i64 0), .cells (.int .i64 e)] w' := by
  refine callsD_of_wpS fn216 rfl fun c₀ cs hu => ?_
  have h0 : RAct g 15 (argEnv 0 [.ptr 1 [] 0, .ptr 0 [] 0]) { tmps := xs.toArray ++ Array.replicate (15 - xs.toArray.size) Go.undef, defers := [] } := RAct.start hx (Nat.le_of_ble_eq_true rfl)
  have hsz : (Tryz.f216.ntmps : Nat) = 15 := rfl
  rw [hsz]
  apply wpS_seq
  apply wpS_region
  refine wpS_recover rfl rfl rfl (by rw [h0.size]; exact Nat.le_of_ble_eq_true rfl) (v := vx) (cs' := { c₀ with mode := .panicking ({ v := vx, recovered := true } :: older) } :: cs) (.inl (by simp [recoverD, hu])) ?_
  have h1 := (h0.put (dst := some 4) rfl hv).put (dst := some 2) rfl hv
  simp only [Exit.thenS]
  refine wpS_of_wp ?_
  refine wp_mono ((?_ : AWp Pg 15 2 _ (fun ex s => ex = .normal ∧ s.H = [.cells (.int .i64 0), .cells (.int .i64 e)]) ⟨(2, .ifc 27 (.int .i64 e)) :: (4, .ifc 27 (.int .i64 e)) :: argEnv 0 [.ptr 1 [] 0, .ptr 0 [] 0], [.cells (.int .i64 a), .cells (.int .i64 b)]⟩) ⟨g, [.cells (.int .i64 a), .cells (.int .i64 b)], w⟩ g _ w rfl (by simpa using hr.len) h1 hr (.refl _ _ _)) ?_
  · refine AWp.seq ?_
    refine W.reg [0, 1] rfl ?_
    refine S.sil 5 rfl rfl (fun _ hF => .move (lk 0 rfl rfl)) ?_
    refine S.sil 6 rfl rfl (fun _ hF => .neqIN ifc20 (lk 0 rfl rfl) cNi) ?_
    refine S.nil ?_
    refine thenQ_n ?_
    refine AWp.condT (lk 0 rfl rfl) ?_
    refine AWp.seq ?_
    refine W.reg [0] rfl ?_
    refine S.sil 3 rfl rfl (fun _ hF => .assign cB) ?_
    refine S.nil ?_
    refine thenQ_n ?_
    refine AWp.seq ?_
    refine AWp.seq ?_
    refine W.reg [0, 1, 2, 3, 4, 5, 6] rfl ?_
    refine S.sil 8 rfl rfl (fun _ hF => .move (lk 3 rfl rfl)) ?_
    refine S.sil 9 rfl rfl (fun _ hF => .assertSame und27 (lk 0 rfl rfl)) ?_
    refine S.sil 7 rfl rfl (fun _ hF => .move (lk 0 rfl rfl)) ?_
    refine S.sil 10 rfl rfl (fun _ hF => .extract (lk 0 rfl rfl) rfl) ?_
    refine S.sil 11 rfl rfl (fun _ hF => .extract (lk 1 rfl rfl) rfl) ?_
    refine S.effN rfl rfl (.nf (H2 := [.cells (.int .i64 a), .cells (.int .i64 e)]) (.storeP sz27 (lk 10 rfl rfl) (lk 1 rfl rfl) rfl (.refl _) rfl .nil rfl .nil rfl rfl rfl) rfl rfl) trivial ?_
    refine S.sil 3 rfl rfl (fun _ hF => .assign (lk 0 rfl rfl)) ?_
    refine S.nil ?_
    refine thenQ_n ?_
    refine AWp.seq ?_
    refine W.reg [0, 1] rfl ?_
    refine S.sil 12 rfl rfl (fun _ hF => .move (lk 0 rfl rfl)) ?_
    refine S.sil 13 rfl rfl (fun _ hF => .not (lk 0 rfl rfl)) ?_
    refine S.nil ?_
    refine thenQ_n ?_
    refine AWp.condF (lk 0 rfl rfl) ?_
    refine AWp.skip ?_
    refine thenQ_n ?_
    refine W.reg [0] rfl ?_
    refine S.effN rfl rfl (.nf (H2 := [.cells (.int .i64 0), .cells (.int .i64 e)]) (.storeP sz3 (lk 14 rfl rfl) cI rfl (.refl _) rfl .nil rfl .nil rfl rfl rfl) rfl rfl) trivial ?_
    refine S.nil ?_
    exact ⟨rfl, rfl⟩
  · rintro ex a' w' ⟨g', s', ae, ⟨rfl, hs⟩, hx', r1, r2, r3⟩
    cases ex <;> simp only [ExRel] at hx' <;> try exact hx'.elim
    rw [hs] at r2 r3
    exact ⟨r1.defers, _, rfl, .tuple #[], by simp [results, Tryz.results216, go_sem], rfl, rfl, g', r2, r3⟩

/-- The deferred function, when there is none. -/
theorem catch_idle {g : Gh} {w : World} {xs : List Value} {a b : Int} (hx : RVs g [.ptr 1 [] 0, .ptr 0 [] 0] xs) (hr : HR g [.cells (.int .i64 a), .cells (.int .i64 b)] w) :
    CallsD Pg 216 xs.toArray .returning w fun e' u' w' => e' = .returned (.tuple #[]) ∧ u' = .returning ∧
      ∃ g', HR g' [.cells (.int .i64 a), .cells (.int .i64 b)] w' ∧ Ev g [.cells (.int .i64 a), .cells (.int .i64 b)] w g' [.cells (.int .i64 a), .cells (.int .i64 b)] w' := by
  refine callsD_of_wpS fn216 rfl fun c₀ cs hu => ?_
  have h0 : RAct g 15 (argEnv 0 [.ptr 1 [] 0, .ptr 0 [] 0]) { tmps := xs.toArray ++ Array.replicate (15 - xs.toArray.size) Go.undef, defers := [] } := RAct.start hx (Nat.le_of_ble_eq_true rfl)
  have hsz : (Tryz.f216.ntmps : Nat) = 15 := rfl
  rw [hsz]
  apply wpS_seq
  apply wpS_region
  have hv : RV g .nili .nilIface := ⟨rfl, by simp [RC, Value.cells]⟩
  refine wpS_recover rfl rfl rfl (by rw [h0.size]; exact Nat.le_of_ble_eq_true rfl) (v := .nilIface) (cs' := c₀ :: cs) (.inr ⟨by simp [recoverD, hu], rfl, rfl⟩) ?_
  have h1 := (h0.put (dst := some 4) rfl hv).put (dst := some 2) rfl hv
  simp only [Exit.thenS]
  refine wpS_of_wp ?_
  refine wp_mono ((?_ : AWp Pg 15 2 _ (fun ex s => ex = .normal ∧ s.H = [.cells (.int .i64 a), .cells (.int .i64 b)]) ⟨(2, .nili) :: (4, .nili) :: argEnv 0 [.ptr 1 [] 0, .ptr 0 [] 0], [.cells (.int .i64 a), .cells (.int .i64 b)]⟩) ⟨g, [.cells (.int .i64 a), .cells (.int .i64 b)], w⟩ g _ w rfl (by simpa using hr.len) h1 hr (.refl _ _ _)) ?_
  · refine AWp.seq ?_
    refine W.reg [0, 1] rfl ?_
    refine S.sil 5 rfl rfl (fun _ hF => .move (lk 0 rfl rfl)) ?_
    refine S.sil 6 rfl rfl (fun _ hF => .neqNN ifc20 (lk 0 rfl rfl) cNi) ?_
    refine S.nil ?_
    refine thenQ_n ?_
    refine AWp.condF (lk 0 rfl rfl) ?_
    refine AWp.skip ?_
    exact ⟨rfl, rfl⟩
  · rintro ex a' w' ⟨g', s', ae, ⟨rfl, hs⟩, hx', r1, r2, r3⟩
    cases ex <;> simp only [ExRel] at hx' <;> try exact hx'.elim
    rw [hs] at r2 r3
    have hc : c₀ = { c₀ with mode := .returning } := by rw [← hu]
    exact ⟨r1.defers, .returning, by rw [← hc], .tuple #[], by simp [results, Tryz.results216, go_sem], rfl, rfl, g', r2, r3⟩


theorem ResTry {x y : Int} {env : List (Nat × V)} (h2 : look env 2 = .ptr 0 [] 0) (h3 : look env 3 = .ptr 1 [] 0) : ResOK Pg Tryz.f176 9 ⟨env, [.cells (.int .i64 x), .cells (.int .i64 y)]⟩ (.tup [.int .i64 x, .int .i64 y]) :=
  .many (rs := [.cell 2 3, .cell 3 27]) rfl (.cons (.cell sz3 ag3 h2 rfl (by simp [V.at]) rfl rfl rfl) (.cons (.cell sz27 ag27 h3 rfl (by simp [V.at]) rfl rfl rfl) .nil)) (by simp)

theorem Try_start {ff : FuncId} {cap : List V} {g : Gh} {w : World} {xs : List Value} (hx : RVs g [.fn ff [] cap] xs) (hr : HR g [] w) (hk : okL cap = true) {Q : Exit → Act → World → Prop}
    (k : ∀ g' a' w' b', RVl g' [.ptr 1 [] 0, .ptr 0 [] 0] b'.toList →
      RActD g' 9 [{ target := .fn (.func 216) b', args := #[] }] ((6, .fn 216 [] [.ptr 1 [] 0, .ptr 0 [] 0]) :: (5, .bool false) :: (4, .fn ff [] cap) :: (3, .ptr 1 [] 0) :: (2, .ptr 0 [] 0) :: argEnv 0 [.fn ff [] cap]) a' →
      HR g' [.cells (.int .i64 0), .cells (.int .i64 0)] w' → Ev g [] w g' [.cells (.int .i64 0), .cells (.int .i64 0)] w' →
      (tail3 (Tryz.f176.body.getD .skip)).wp Pg Q a' w') :
    ∃ c, Tryz.f176.body = some c ∧ c.wp Pg Q { tmps := xs.toArray ++ Array.replicate (9 - xs.toArray.size) Go.undef, defers := [] } w := by
  refine ⟨_, rfl, ?_⟩
  have h0 : RAct g 9 (argEnv 0 [.fn ff [] cap]) _ := RAct.start hx (Nat.le_of_ble_eq_true rfl)
  refine AWp.toD (s := ⟨argEnv 0 [.fn ff [] cap], []⟩) (s' := ⟨(3, .ptr 1 [] 0) :: (2, .ptr 0 [] 0) :: argEnv 0 [.fn ff [] cap], [.cells (.int .i64 0), .cells (.int .i64 0)]⟩) (B := ⟨g, [], w⟩) (m := 0) ?_ rfl (by simpa using hr.len) h0 hr (.refl _ _ _) fun g1 a1 w1 p1 p2 p3 => ?_
  · refine W.reg [0, 1] rfl ?_
    refine S.new 2 rfl rfl (.alloc zv3) trivial ?_
    refine S.new 3 rfl rfl (.alloc zv27) trivial ?_
    refine S.nil ?_
    exact ⟨rfl, rfl⟩
  refine AWp.toD (s := ⟨(3, .ptr 1 [] 0) :: (2, .ptr 0 [] 0) :: argEnv 0 [.fn ff [] cap], [.cells (.int .i64 0), .cells (.int .i64 0)]⟩) (s' := ⟨(5, .bool false) :: (4, .fn ff [] cap) :: (3, .ptr 1 [] 0) :: (2, .ptr 0 [] 0) :: argEnv 0 [.fn ff [] cap], [.cells (.int .i64 0), .cells (.int .i64 0)]⟩) (B := ⟨g, [], w⟩) (m := 0) ?_ rfl (by simpa using hr.len) p1 p2 p3 fun g2 a2 w2 q1 q2 q3 => ?_
  · refine AWp.seq ?_
    refine W.reg [0, 1] rfl ?_
    refine S.sil 4 rfl rfl (fun _ hF => .move (lk 2 rfl rfl)) ?_
    refine S.sil 5 rfl rfl (fun _ hF => .eqlFN fun133 (lk 0 rfl rfl) cNf) ?_
    refine S.nil ?_
    refine thenQ_n ?_
    refine AWp.condF (lk 0 rfl rfl) ?_
    refine AWp.skip ?_
    exact ⟨rfl, rfl⟩
  refine wp_seq (wp_region ?_)
  show wpOps Pg _ _ ([0] ++ [1]) a2 w2
  refine runD_of (D := []) (s := ⟨(5, .bool false) :: (4, .fn ff [] cap) :: (3, .ptr 1 [] 0) :: (2, .ptr 0 [] 0) :: argEnv 0 [.fn ff [] cap], [.cells (.int .i64 0), .cells (.int .i64 0)]⟩) (s' := ⟨(6, .fn 216 [] [.ptr 1 [] 0, .ptr 0 [] 0]) :: (5, .bool false) :: (4, .fn ff [] cap) :: (3, .ptr 1 [] 0) :: (2, .ptr 0 [] 0) :: argEnv 0 [.fn ff [] cap], [.cells (.int .i64 0), .cells (.int .i64 0)]⟩) ?_ ⟨q1.env, q1.size, q1.defers⟩ q2 fun g3 a3 w3 u1 u2 u3 => ?_
  · refine S.sil 6 rfl rfl (fun _ hF => .makeFunc (a := []) (b := [.ptr 1 [] 0, .ptr 0 [] 0]) rfl rfl rfl rfl) ?_
    refine S.nil ?_
    rfl
  refine defer_op (x := .tmp 6) (f := 216) (cap := [.ptr 1 [] 0, .ptr 0 [] 0]) rfl rfl u1 fun b' v1 v2 => ?_
  simp only [wpOps, Exit.then]
  exact k g3 _ w3 b' v1 v2 u2 (q3.trans u3)

theorem C_Try_ret {ff : FuncId} {cap : List V} {r : Int} (hE : enters Pg ff = true) (hc : V.ltL 0 cap = true) (hk : okL cap = true) (hf : PureC Pg ff cap (.int .i64 r)) : PureC Pg 176 [.fn ff [] cap] (.tup [.int .i64 r, .int .i64 0]) := by
  refine PureC.of ?_ (ltL_c (lt_fn ltL_nil hc) ltL_nil) (lt_tup (ltL_c ((TyOk.int .i64).lt _ _) (ltL_c ((TyOk.int .i64).lt _ _) ltL_nil)))
  intro g w xs hx hr
  refine Exists.elim (Try_start (Q := bodyPostD Pg Tryz.f176 fun e w' => ∃ g' H' o, o = .ret (.tup [.int .i64 r, .int .i64 0]) ∧ OutRel g' e o ∧ HR g' H' w' ∧ Ev g [] w g' H' w') hx hr hk fun g1 a1 w1 b' v1 u1 u2 u3 => ?_) fun c hb => calls_of_wp_defers fn176 hb.1 hb.2
  · refine wp_seq (wp_region ?_)
    show wpOps Pg _ _ ([0, 1, 2, 3] ++ []) a1 w1
    refine runD_of (s := ⟨(6, .fn 216 [] [.ptr 1 [] 0, .ptr 0 [] 0]) :: (5, .bool false) :: (4, .fn ff [] cap) :: (3, .ptr 1 [] 0) :: (2, .ptr 0 [] 0) :: argEnv 0 [.fn ff [] cap], [.cells (.int .i64 0), .cells (.int .i64 0)]⟩) (s' := ⟨(8, .int .i64 r) :: (7, .fn ff [] cap) :: (6, .fn 216 [] [.ptr 1 [] 0, .ptr 0 [] 0]) :: (5, .bool false) :: (4, .fn ff [] cap) :: (3, .ptr 1 [] 0) :: (2, .ptr 0 [] 0) :: argEnv 0 [.fn ff [] cap], [.cells (.int .i64 r), .cells (.int .i64 0)]⟩) ?_ u1 u2 fun g2 a2 w2 p1 p2 p3 => ?_
    · refine S.sil 7 rfl rfl (fun _ hF => .move (lk 5 rfl rfl)) ?_
      refine S.sil 8 rfl rfl (fun _ hF => .callQ hE (lk 0 rfl rfl) (by simpa using SubL.refl _) hf) ?_
      refine S.effN rfl rfl (.nf (H2 := [.cells (.int .i64 r), .cells (.int .i64 0)]) (.storeP sz3 (lk 6 rfl rfl) (lk 0 rfl rfl) rfl (.refl _) rfl .nil rfl .nil rfl rfl rfl) rfl rfl) trivial ?_
      refine S.effN rfl rfl (.nf (H2 := [.cells (.int .i64 r), .cells (.int .i64 0)]) (.storeP sz27 (lk 5 rfl rfl) cI rfl (.refl _) rfl .nil rfl .nil rfl rfl rfl) rfl rfl) trivial ?_
      refine S.nil ?_
      rfl
    simp only [wpOps, Exit.then]
    refine wp_ret ?_
    simp only [bodyPostD]
    rw [p1.defers]
    refine leaves_cons (by simp) (invoke_fn ent216 b' w2) ?_
    refine (catch_idle (xs := b'.toList) (v1.rvs.mono p3.le) p2).mono ?_
    rintro e' u' w3 ⟨rfl, rfl, g3, q1, q2⟩
    obtain ⟨x, h1, h2⟩ := (ResTry (x := r) (y := 0) (env := (8, .int .i64 r) :: (7, .fn ff [] cap) :: (6, .fn 216 [] [.ptr 1 [] 0, .ptr 0 [] 0]) :: (5, .bool false) :: (4, .fn ff [] cap) :: (3, .ptr 1 [] 0) :: (2, .ptr 0 [] 0) :: argEnv 0 [.fn ff [] cap]) rfl rfl).drop (p1.mono q2.le) q1
    exact ⟨x, h1, g3, _, _, rfl, h2, q1, (u3.trans p3).trans q2⟩

theorem C_Try_pan {ff : FuncId} {cap : List V} {r : Int} (hE : enters Pg ff = true) (hc : V.ltL 0 cap = true) (hk : okL cap = true) (hf : PanC Pg ff cap (.ifc 27 (.int .i64 r))) : PureC Pg 176 [.fn ff [] cap] (.tup [.int .i64 0, .int .i64 r]) := by
  refine PureC.of ?_ (ltL_c (lt_fn ltL_nil hc) ltL_nil) (lt_tup (ltL_c ((TyOk.int .i64).lt _ _) (ltL_c ((TyOk.int .i64).lt _ _) ltL_nil)))
  intro g w xs hx hr
  refine Exists.elim (Try_start (Q := bodyPostD Pg Tryz.f176 fun e w' => ∃ g' H' o, o = .ret (.tup [.int .i64 0, .int .i64 r]) ∧ OutRel g' e o ∧ HR g' H' w' ∧ Ev g [] w g' H' w') hx hr hk fun g1 a1 w1 b' v1 u1 u2 u3 => ?_) fun c hb => calls_of_wp_defers fn176 hb.1 hb.2
  · refine wp_seq (wp_region ?_)
    show wpOps Pg _ _ ([0] ++ [1, 2, 3]) a1 w1
    refine runD_of (s := ⟨(6, .fn 216 [] [.ptr 1 [] 0, .ptr 0 [] 0]) :: (5, .bool false) :: (4, .fn ff [] cap) :: (3, .ptr 1 [] 0) :: (2, .ptr 0 [] 0) :: argEnv 0 [.fn ff [] cap], [.cells (.int .i64 0), .cells (.int .i64 0)]⟩) (s' := ⟨(7, .fn ff [] cap) :: (6, .fn 216 [] [.ptr 1 [] 0, .ptr 0 [] 0]) :: (5, .bool false) :: (4, .fn ff [] cap) :: (3, .ptr 1 [] 0) :: (2, .ptr 0 [] 0) :: argEnv 0 [.fn ff [] cap], [.cells (.int .i64 0), .cells (.int .i64 0)]⟩) ?_ u1 u2 fun g2 a2 w2 p1 p2 p3 => ?_
    · refine S.sil 7 rfl rfl (fun _ hF => .move (lk 5 rfl rfl)) ?_
      refine S.nil ?_
      rfl
    refine pan_op (o := ⟨some 8, .call ⟨.value (.tmp 7), #[], #[]⟩, 3, "num.go:58", #[⟨0, .data⟩], none⟩) (s := ⟨(7, .fn ff [] cap) :: (6, .fn 216 [] [.ptr 1 [] 0, .ptr 0 [] 0]) :: (5, .bool false) :: (4, .fn ff [] cap) :: (3, .ptr 1 [] 0) :: (2, .ptr 0 [] 0) :: argEnv 0 [.fn ff [] cap], [.cells (.int .i64 0), .cells (.int .i64 0)]⟩) rfl rfl (v := .ifc 27 (.int .i64 r)) (.call (first := []) (cap := cap) hE rfl (by simpa using SubL.refl _) hf) p1 p2 fun g3 x w3 r1 r2 r3 r4 => ?_
    simp only [Exit.then, bodyPostD]
    rw [p1.defers]
    refine leaves_cons (by simp) (invoke_fn ent216 b' w3) ?_
    refine (catch_pan (xs := b'.toList) ((v1.rvs.mono p3.le).mono r4.le) r3 r1).mono ?_
    rintro e' u' w4 ⟨rfl, rfl, g4, q1, q2⟩
    obtain ⟨y, h1, h2⟩ := (ResTry (x := 0) (y := r) (env := (7, .fn ff [] cap) :: (6, .fn 216 [] [.ptr 1 [] 0, .ptr 0 [] 0]) :: (5, .bool false) :: (4, .fn ff [] cap) :: (3, .ptr 1 [] 0) :: (2, .ptr 0 [] 0) :: argEnv 0 [.fn ff [] cap]) rfl rfl).drop (r2.mono q2.le) q1
    exact ⟨y, h1, g4, _, _, rfl, h2, q1, ((u3.trans p3).trans r4).trans q2⟩
theorem C_Try_sum {a1 : List Int} {r : Int × Int} (h : tryM (num_Sum_1 a1) (num_Sum_P a1) = some r) : PureC Pg 176 [.fn 177 [] [.cptr (.sl 1 .no (List.map (V.int .i64) a1))]] (.tup [(V.int .i64) r.1, (V.int .i64) r.2]) := by
  unfold tryM at h
  split at h
  · cases h
    exact C_Try_ret ent177 (ltL_c (lt_cptr (lt_sl rfl ((TyOk.int .i64).ltm _ _))) ltL_nil) rfl (C_num_Sum_1 (by assumption))
  · split at h
    · cases h
      exact C_Try_pan ent177 (ltL_c (lt_cptr (lt_sl rfl ((TyOk.int .i64).ltm _ _))) ltL_nil) rfl (C_num_Sum_P (by assumption))
    · cases h
theorem C_num_Sum {a1 : List Int} {r : Int × Int} (h : num_Sum a1 = some r) : PureC Pg 123 [.sl 1 .no (List.map (V.int .i64) a1)] (.tup [(V.int .i64) r.1, (V.int .i64) r.2]) := by
  refine PureC.ofF (CallSpec.of_bodyF 8 0 fn123 rfl rfl rfl (Nat.le_of_ble_eq_true rfl) ?_) (ltL_c (lt_sl rfl ((TyOk.int .i64).ltm _ _)) ltL_nil) (lt_tup (ltL_c ((TyOk.int .i64).lt _ _) (ltL_c ((TyOk.int .i64).lt _ _) ltL_nil)))
  replace h := Ok.of h
  unfold num_Sum at h
  refine AWp.seq ?_
  refine W.reg [0, 1, 2] rfl ?_
  refine S.eff 1 rfl rfl (.nf (v2 := .ptr 0 [] 0) (H2 := [.cells (.sl 1 .no (List.map (V.int .i64) a1))]) (.box (lk 0 rfl rfl) rfl) rfl rfl) trivial ?_
  refine S.sil 2 rfl rfl (fun _ hF => .assign cI) ?_
  refine S.sil 3 rfl rfl (fun _ hF => .assign cI) ?_
  refine S.nil ?_
  refine thenQ_n ?_
  refine AWp.wk (Wk.freeze 0 rfl rfl (.same (lk 0 rfl rfl) (.same (lk 1 rfl rfl) (.cons (lk 2 rfl rfl) rfl (.ptr .nil (by first | rfl | omega)) .nil))) (.refl _)) ?_
  refine AWp.seq ?_
  refine W.reg [0, 1, 2, 3, 4, 5] rfl ?_
  refine S.sil 4 rfl rfl (fun _ hF => .makeFunc rfl (mapE1 (lk 2 rfl rfl)) rfl rfl) ?_
  obtain ⟨r2, m2, h⟩ := h.bnd
  refine S.sil 5 rfl rfl (fun _ hF => .callQ ent176 cF (.c (lk 0 rfl rfl) (V.sub.refl _) .nil) (C_Try_sum m2)) ?_
  refine S.sil 6 rfl rfl (fun _ hF => .extract (lk 0 rfl rfl) rfl) ?_
  refine S.sil 7 rfl rfl (fun _ hF => .extract (lk 1 rfl rfl) rfl) ?_
  refine S.sil 2 rfl rfl (fun _ hF => .assign (lk 1 rfl rfl)) ?_
  refine S.sil 3 rfl rfl (fun _ hF => .assign (lk 1 rfl rfl)) ?_
  refine S.nil ?_
  refine thenQ_n ?_
  refine AWp.ret ?_
  obtain rfl := h.ret
  exact endFN rfl (Wk.selS [] .nil rfl (SelE.leaf (lk 1 rfl rfl) rfl (.refl _) (fun m => ((TyOk.int .i64).lt _ _)) (SelE.leaf (lk 0 rfl rfl) rfl (.refl _) (fun m => ((TyOk.int .i64).lt _ _)) .nil)) .nil) (.cons (.tmp (lk 0 rfl rfl) rfl) (.cons (.tmp (lk 1 rfl rfl) rfl) .nil)) rfl rfl rfl
theorem C_rights_Free {a1 : TRights} {a2 : Int} {r : Int × Int} (h : rights_Free a1 a2 = some r) : PureC Pg 173 [E_TRights a1, (V.int .i64) a2] (.tup [(V.int .i64) r.1, (V.int .i64) r.2]) := by
  refine PureC.ofF (CallSpec.of_bodyF 47 0 fn173 rfl rfl rfl (Nat.le_of_ble_eq_true rfl) ?_) (ltL_c (ty_TRights.lt _ _) (ltL_c ((TyOk.int .i64).lt _ _) ltL_nil)) (lt_tup (ltL_c ((TyOk.int .i64).lt _ _) (ltL_c ((TyOk.int .i64).lt _ _) ltL_nil)))
  replace h := Ok.of h
  unfold rights_Free at h
  refine AWp.seq ?_
  refine W.reg [0, 1, 2] rfl ?_
  refine S.eff 2 rfl rfl (.nf (v2 := .ptr 0 [] 0) (H2 := [.cells (E_TRights a1)]) (.box (lk 0 rfl rfl) rfl) rfl rfl) trivial ?_
  refine S.sil 4 rfl rfl (fun _ hF => .assign cI) ?_
  refine S.sil 5 rfl rfl (fun _ hF => .assign cI) ?_
  refine S.nil ?_
  refine thenQ_n ?_
  refine AWp.wk (Wk.freeze 0 rfl rfl (.same (lk 0 rfl rfl) (.same (lk 1 rfl rfl) (.cons (lk 2 rfl rfl) rfl (.ptr .nil (by first | rfl | omega)) (.same (lk 4 rfl rfl) .nil)))) (.refl _)) ?_
  refine AWp.seq ?_
  refine AWp.seq ?_
  refine W.reg [0, 1, 2] rfl ?_
  refine S.sil 9 rfl rfl (fun _ hF => .move (lk 3 rfl rfl)) ?_
  obtain ⟨r3, m3, h⟩ := h.bnd
  refine S.sil 10 rfl rfl (fun _ hF => .callQ ent208 cF (.c (lk 0 rfl rfl) (V.sub.refl _) .nil) (C_rights_is m3)) ?_
  refine S.sil 11 rfl rfl (fun _ hF => .not (lk 0 rfl rfl)) ?_
  refine S.nil ?_
  refine thenQ_n ?_
  refine AWp.condM (lk 0 rfl rfl) h (fun c1 h => ?_) (fun c1 h => ?_)
  · skip
    refine AWp.seq ?_
    refine W.reg [0, 1] rfl ?_
    refine S.sil 4 rfl rfl (fun _ hF => .assign cI) ?_
    refine S.sil 5 rfl rfl (fun _ hF => .assign cI) ?_
    refine S.nil ?_
    refine thenQ_n ?_
    refine AWp.ret ?_
    refine thenQ_r ?_
    obtain rfl := h.ret
    exact endFN rfl (Wk.selS [] .nil rfl (SelE.leaf (lk 1 rfl rfl) rfl (.refl _) (fun m => ((TyOk.int .i64).lt _ _)) (SelE.leaf (lk 0 rfl rfl) rfl (.refl _) (fun m => ((TyOk.int .i64).lt _ _)) .nil)) .nil) (.cons (.tmp (lk 0 rfl rfl) rfl) (.cons (.tmp (lk 1 rfl rfl) rfl) .nil)) rfl rfl rfl
  · skip
    refine AWp.skip ?_
    refine thenQ_n ?_
    refine AWp.seq ?_
    refine W.reg [0, 1, 2, 3, 4, 5] rfl ?_
    refine S.sil 12 rfl rfl (fun _ hF => .move (lk 6 rfl rfl)) ?_
    refine S.sil 13 rfl rfl (fun _ hF => .fieldAddrC lay35 rfl rfl (lk 6 rfl rfl) rfl flL_nil) ?_
    obtain ⟨k4, m4, h⟩ := h.bnd
    refine S.sil 14 rfl rfl (fun _ hF => .ixC arr32 (lk 0 rfl rfl) (lk 1 rfl rfl) m4) ?_
    refine S.sil 15 rfl rfl (fun _ hF => .loadC sz3 ag3 (lk 0 rfl rfl) rfl rfl) ?_
    refine S.sil 16 rfl rfl (fun _ hF => .buildSliceW sli153 zv3 rfl rfl (by decide) (.cons (lk 0 rfl rfl) rfl (.refl _) rfl .nil)) ?_
    refine S.sil 6 rfl rfl (fun _ hF => .assign (lk 0 rfl rfl)) ?_
    refine S.nil ?_
    refine thenQ_n ?_
    refine AWp.seq ?_
    refine AWp.seq ?_
    refine W.reg [0, 1, 2] rfl ?_
    refine S.sil 17 rfl rfl (fun _ hF => .fieldAddrC lay35 rfl rfl (lk 11 rfl rfl) rfl (flL_c (ty_A16_i64.fl a1.Given) (flL_c (ty_A16_i64.fl a1.Used) flL_nil))) ?_
    refine S.sil 18 rfl rfl (fun _ hF => .loadC sz33 ag33 (lk 0 rfl rfl) (ty_A16_A16_i64.fl a1.Moved) rfl) ?_
    refine S.sil 19 rfl rfl (fun _ hF => .move cI) ?_
    refine S.nil ?_
    refine thenQ_n ?_
    refine AWp.cutX (fun x7 => ⟨[(6, .sl 1 (.tok 0) (List.map (V.int .i64) x7)), (5, (V.int .i64) 0), (4, (V.int .i64) 0), (2, .cptr (E_TRights a1)), (1, (V.int .i64) a2)], [.tail]⟩) nc_then h (fun q5 hq5 => ?_) (fun x7 h => ?_)
    · refine AWp.block ?_
      refine AWp.loopT (fun s6 => ⟨[(19, (V.int .i64) s6.1), (18, E_A16_A16_i64 a1.Moved), (6, .sl 1 (.tok 0) (List.map (V.int .i64) s6.2)), (5, (V.int .i64) 0), (4, (V.int .i64) 0), (2, .cptr (E_TRights a1)), (1, (V.int .i64) a2)], [.tail]⟩) hq5 (Wk.vacant.trans (Wk.selS [1] (by decide) rfl (SelE.leaf (lk 0 rfl rfl) rfl (.refl _) (fun m => ((TyOk.int .i64).lt _ _)) (SelE.leaf (lk 1 rfl rfl) rfl (.refl _) (fun m => (ty_A16_A16_i64.lt _ _)) (SelE.spec (lk 3 rfl rfl) rfl (.tok _ _ _) (ren_sl (TyOk.int .i64) _) (lt_sl rfl ((TyOk.int .i64).ltm _ _)) (SelE.leaf (lk 12 rfl rfl) rfl (.refl _) (fun m => ((TyOk.int .i64).lt _ _)) (SelE.leaf (lk 13 rfl rfl) rfl (.refl _) (fun m => ((TyOk.int .i64).lt _ _)) (SelE.leaf (lk 14 rfl rfl) rfl (.refl _) (fun m => (lt_cptr (ty_TRights.lt _ _))) (SelE.leaf (lk 15 rfl rfl) rfl (.refl _) (fun m => ((TyOk.int .i64).lt _ _)) .nil))))))) (.cons rfl rfl trivial .nil))) (fun _ s6 h5 => ?_)
      rw [rights_Free_L1] at h5
      refine AWp.seq ?_
      refine W.reg [0] rfl ?_
      refine S.sil 20 rfl rfl (fun _ hF => .lss (lk 0 rfl rfl) cI) ?_
      refine S.nil ?_
      refine thenQ_n ?_
      refine AWp.seq ?_
      refine AWp.condM (lk 0 rfl rfl) h5 (fun c2 h5 => ?_) (fun c2 h5 => ?_)
      · skip
        refine AWp.skip ?_
        refine thenQ_n ?_
        refine AWp.seq ?_
        refine AWp.block ?_
        refine AWp.seq ?_
        refine W.reg [0, 1, 2] rfl ?_
        obtain ⟨k8, m8, h5⟩ := h5.bnd
        refine S.sil 21 rfl rfl (fun _ hF => .ixV arr33 (lk 2 rfl rfl) (lk 1 rfl rfl) m8 rfl) ?_
        refine S.eff 8 rfl rfl (.nf (v2 := .ptr 1 [] 0) (H2 := [.tail, .cells (E_A16_i64 (default : Vector Int 16))]) (.alloc zv32) rfl rfl) trivial ?_
        obtain ⟨v9, ev9, h5⟩ := h5.nam
        refine S.effN rfl rfl (.nf (H2 := [.tail, .cells (E_A16_i64 v9)]) (.storeP sz32 (lk 0 rfl rfl) (lk 1 rfl rfl) rfl (.refl _) rfl .nil (by first | rfl | omega) .nil (ty_A16_i64.fl (a1.Moved.get k8)) (ty_A16_i64.fl (default : Vector Int 16)) (congrArg (fun z => ([.tail, AObj.cells (E_A16_i64 z)] : List AObj)) ev9.symm)) rfl rfl) trivial ?_
        refine S.nil ?_
        refine thenQ_n ?_
        refine AWp.wk (Wk.freeze 1 rfl rfl (.cons (lk 0 rfl rfl) rfl (.ptr .nil (by first | rfl | omega)) (.same (lk 1 rfl rfl) (.same (lk 2 rfl rfl) (.same (lk 3 rfl rfl) (.same (lk 4 rfl rfl) (.same (lk 5 rfl rfl) (.same (lk 6 rfl rfl) (.same (lk 7 rfl rfl) (.same (lk 8 rfl rfl) (.same (lk 9 rfl rfl) .nil)))))))))) (.refl _)) ?_
        refine W.reg [0, 1, 2, 3, 4, 5, 6] rfl ?_
        refine S.sil 22 rfl rfl (fun _ hF => .move (lk 5 rfl rfl)) ?_
        refine S.sil 23 rfl rfl (fun _ hF => .move (lk 10 rfl rfl)) ?_
        obtain ⟨k10, m10, h5⟩ := h5.bnd
        refine S.sil 24 rfl rfl (fun _ hF => .ixC arr32 (lk 2 rfl rfl) (lk 0 rfl rfl) m10) ?_
        refine S.sil 25 rfl rfl (fun _ hF => .loadC sz3 ag3 (lk 0 rfl rfl) rfl rfl) ?_
        refine S.sil 26 rfl rfl (fun _ hF => .buildSliceW sli153 zv3 rfl rfl (by decide) (.cons (lk 0 rfl rfl) rfl (.refl _) rfl .nil)) ?_
        obtain ⟨l11, m11, h5⟩ := h5.bnd
        refine S.eff 27 rfl rfl (.nf (v2 := .sl 1 (.tok 2) (List.map (V.int .i64) l11)) (H2 := [.dead, .dead, .tail]) (.appT sli153 und153 zv3 rfl (by decide) (lk 4 rfl rfl) rfl (lk 0 rfl rfl) Rd.sl m11 rfl) rfl rfl) trivial ?_
        refine S.sil 6 rfl rfl (fun _ hF => .assign (lk 0 rfl rfl)) ?_
        refine S.nil ?_
        refine blockQ_n ?_
        refine thenQ_n ?_
        refine W.reg [0, 1] rfl ?_
        refine S.sil 28 rfl rfl (fun _ hF => .add (lk 10 rfl rfl) cI) ?_
        refine S.sil 19 rfl rfl (fun _ hF => .move (lk 0 rfl rfl)) ?_
        refine S.nil ?_
        refine thenQ_n ?_
        exact ⟨_, h5.ret, (Wk.selS [2] (by decide) rfl (SelE.leaf (lk 0 rfl rfl) rfl (.refl _) (fun m => ((TyOk.int .i64).lt _ _)) (SelE.leaf (lk 13 rfl rfl) rfl (.refl _) (fun m => (ty_A16_A16_i64.lt _ _)) (SelE.spec (lk 2 rfl rfl) rfl (.refl _) (ren_sl (TyOk.int .i64) _) (lt_sl rfl ((TyOk.int .i64).ltm _ _)) (SelE.leaf (lk 15 rfl rfl) rfl (.refl _) (fun m => ((TyOk.int .i64).lt _ _)) (SelE.leaf (lk 16 rfl rfl) rfl (.refl _) (fun m => ((TyOk.int .i64).lt _ _)) (SelE.leaf (lk 17 rfl rfl) rfl (.refl _) (fun m => (lt_cptr (ty_TRights.lt _ _))) (SelE.leaf (lk 18 rfl rfl) rfl (.refl _) (fun m => ((TyOk.int .i64).lt _ _)) .nil))))))) (.cons rfl rfl trivial .nil))⟩
      · skip
        refine AWp.exit ?_
        refine thenQ_x ?_
        refine thenQ_x ?_
        refine blockQ_x ?_
        refine thenQ_n ?_
        exact ⟨_, h5.ret, (Wk.selS [0] (by decide) rfl (SelE.spec (lk 3 rfl rfl) rfl (.refl _) (ren_sl (TyOk.int .i64) _) (lt_sl rfl ((TyOk.int .i64).ltm _ _)) (SelE.leaf (lk 4 rfl rfl) rfl (.refl _) (fun m => ((TyOk.int .i64).lt _ _)) (SelE.leaf (lk 5 rfl rfl) rfl (.refl _) (fun m => ((TyOk.int .i64).lt _ _)) (SelE.leaf (lk 6 rfl rfl) rfl (.refl _) (fun m => (lt_cptr (ty_TRights.lt _ _))) (SelE.leaf (lk 7 rfl rfl) rfl (.refl _) (fun m => ((TyOk.int .i64).lt _ _)) .nil))))) (.cons rfl rfl trivial .nil))⟩
    · skip
      refine thenQ_n ?_
      refine AWp.seq ?_
      refine W.reg [0, 1, 2, 3, 4, 5, 6, 7, 8] rfl ?_
      refine S.sil 29 rfl rfl (fun _ hF => .move (lk 0 rfl rfl)) ?_
      refine S.sil 30 rfl rfl (fun _ hF => .move (lk 5 rfl rfl)) ?_
      refine S.sil 31 rfl rfl (fun _ hF => .fieldAddrC lay35 rfl rfl (lk 5 rfl rfl) rfl (flL_c (ty_A16_i64.fl a1.Given) flL_nil)) ?_
      obtain ⟨k12, m12, h⟩ := h.bnd
      refine S.sil 32 rfl rfl (fun _ hF => .ixC arr32 (lk 0 rfl rfl) (lk 1 rfl rfl) m12) ?_
      refine S.sil 33 rfl rfl (fun _ hF => .loadC sz3 ag3 (lk 0 rfl rfl) rfl rfl) ?_
      refine S.sil 34 rfl rfl (fun _ hF => .neg (lk 0 rfl rfl)) ?_
      refine S.sil 35 rfl rfl (fun _ hF => .buildSliceW sli153 zv3 rfl rfl (by decide) (.cons (lk 0 rfl rfl) rfl (.refl _) rfl .nil)) ?_
      obtain ⟨l13, m13, h⟩ := h.bnd
      refine S.eff 36 rfl rfl (.nf (v2 := .sl 1 (.tok 1) (List.map (V.int .i64) l13)) (H2 := [.dead, .tail]) (.appT sli153 und153 zv3 rfl (by decide) (lk 6 rfl rfl) rfl (lk 0 rfl rfl) Rd.sl m13 rfl) rfl rfl) trivial ?_
      refine S.sil 6 rfl rfl (fun _ hF => .assign (lk 0 rfl rfl)) ?_
      refine S.nil ?_
      refine thenQ_n ?_
      refine AWp.seq ?_
      refine W.reg [0, 1, 2, 3, 4, 5, 6, 7, 8, 9, 10, 11] rfl ?_
      refine S.sil 37 rfl rfl (fun _ hF => .move (lk 0 rfl rfl)) ?_
      refine S.sil 38 rfl rfl (fun _ hF => .move (lk 14 rfl rfl)) ?_
      refine S.sil 39 rfl rfl (fun _ hF => .fieldAddrC lay35 rfl rfl (lk 14 rfl rfl) rfl (flL_c (ty_A16_i64.fl a1.Given) (flL_c (ty_A16_i64.fl a1.Used) flL_nil))) ?_
      obtain ⟨k14, m14, h⟩ := h.bnd
      refine S.sil 40 rfl rfl (fun _ hF => .ixC arr33 (lk 0 rfl rfl) (lk 1 rfl rfl) m14) ?_
      obtain ⟨v15, ev15, h⟩ := h.nam
      refine S.sil 41 rfl rfl (fun _ hF => .nv (.loadC sz32 ag32 (lk 0 rfl rfl) (ty_A16_i64.fl (a1.Moved.get k14)) rfl) (congrArg E_A16_i64 ev15.symm)) ?_
      obtain ⟨r16, m16, h⟩ := h.bnd
      refine S.sil 42 rfl rfl (fun _ hF => .callQ ent213 cF (.c (lk 0 rfl rfl) (V.sub.refl _) .nil) (C_rights_less m16)) ?_
      obtain ⟨l17, m17, h⟩ := h.bnd
      refine S.eff 43 rfl rfl (.nf (v2 := .sl 1 (.tok 2) (List.map (V.int .i64) l17)) (H2 := [.dead, .dead, .tail]) (.appT sli153 und153 zv3 rfl (by decide) (lk 5 rfl rfl) rfl (lk 0 rfl rfl) Rd.sl m17 rfl) rfl rfl) trivial ?_
      obtain ⟨r18, m18, h⟩ := h.bnd
      refine S.sil 44 rfl rfl (fun _ hF => .callQ ent123 cF (.c (lk 0 rfl rfl) (vsub rfl (.forget _ _ _)) .nil) (C_num_Sum m18)) ?_
      refine S.sil 45 rfl rfl (fun _ hF => .extract (lk 0 rfl rfl) rfl) ?_
      refine S.sil 46 rfl rfl (fun _ hF => .extract (lk 1 rfl rfl) rfl) ?_
      refine S.sil 4 rfl rfl (fun _ hF => .assign (lk 1 rfl rfl)) ?_
      refine S.sil 5 rfl rfl (fun _ hF => .assign (lk 1 rfl rfl)) ?_
      refine S.nil ?_
      refine thenQ_n ?_
      refine AWp.prune (.eq (lk 0 rfl rfl) rfl (.eq (lk 1 rfl rfl) rfl .nil)) ?_
      refine AWp.ret ?_
      obtain rfl := h.ret
      exact endFN rfl (Wk.selS [] .nil rfl (SelE.leaf (lk 1 rfl rfl) rfl (.refl _) (fun m => ((TyOk.int .i64).lt _ _)) (SelE.leaf (lk 0 rfl rfl) rfl (.refl _) (fun m => ((TyOk.int .i64).lt _ _)) .nil)) .nil) (.cons (.tmp (lk 0 rfl rfl) rfl) (.cons (.tmp (lk 1 rfl rfl) rfl) .nil)) rfl rfl rfl
theorem C_counter_Room {a1 : TCounter} {a2 : Int} {r : Int × Int} (h : counter_Room a1 a2 = some r) : PureC Pg 118 [E_TCounter a1, (V.int .i64) a2] (.tup [(V.int .i64) r.1, (V.int .i64) r.2]) := by
  refine PureC.ofF (CallSpec.of_bodyF 26 0 fn118 rfl rfl rfl (Nat.le_of_ble_eq_true rfl) ?_) (ltL_c (ty_TCounter.lt _ _) (ltL_c ((TyOk.int .i64).lt _ _) ltL_nil)) (lt_tup (ltL_c ((TyOk.int .i64).lt _ _) (ltL_c ((TyOk.int .i64).lt _ _) ltL_nil)))
  replace h := Ok.of h
  unfold counter_Room at h
  refine AWp.seq ?_
  refine W.reg [0, 1, 2] rfl ?_
  refine S.eff 2 rfl rfl (.nf (v2 := .ptr 0 [] 0) (H2 := [.cells (E_TCounter a1)]) (.box (lk 0 rfl rfl) rfl) rfl rfl) trivial ?_
  refine S.sil 4 rfl rfl (fun _ hF => .assign cI) ?_
  refine S.sil 5 rfl rfl (fun _ hF => .assign cI) ?_
  refine S.nil ?_
  refine thenQ_n ?_
  refine AWp.wk (Wk.freeze 0 rfl rfl (.same (lk 0 rfl rfl) (.same (lk 1 rfl rfl) (.cons (lk 2 rfl rfl) rfl (.ptr .nil (by first | rfl | omega)) (.same (lk 4 rfl rfl) .nil)))) (.refl _)) ?_
  refine AWp.seq ?_
  refine W.reg [0, 1, 2, 3, 4, 5, 6, 7, 8] rfl ?_
  refine S.sil 11 rfl rfl (fun _ hF => .fieldAddrC lay37 rfl rfl (lk 2 rfl rfl) rfl (flL_c (show flen _ = 1 from rfl) (flL_c (show flen _ = 1 from rfl) (flL_c (show flen _ = 1 from rfl) flL_nil)))) ?_
  refine S.sil 12 rfl rfl (fun _ hF => .loadC sz35 ag35 (lk 0 rfl rfl) (ty_TRights.fl a1.Down) rfl) ?_
  refine S.sil 13 rfl rfl (fun _ hF => .move (lk 5 rfl rfl)) ?_
  obtain ⟨r3, m3, h⟩ := h.bnd
  refine S.sil 14 rfl rfl (fun _ hF => .callQ ent173 cF (.c (lk 1 rfl rfl) (V.sub.refl _) (.c (lk 0 rfl rfl) (V.sub.refl _) .nil)) (C_rights_Free m3)) ?_
  refine S.sil 10 rfl rfl (fun _ hF => .move (lk 0 rfl rfl)) ?_
  refine S.sil 15 rfl rfl (fun _ hF => .extract (lk 0 rfl rfl) rfl) ?_
  refine S.sil 16 rfl rfl (fun _ hF => .extract (lk 1 rfl rfl) rfl) ?_
  refine S.sil 6 rfl rfl (fun _ hF => .assign (lk 1 rfl rfl)) ?_
  refine S.sil 7 rfl rfl (fun _ hF => .assign (lk 1 rfl rfl)) ?_
  refine S.nil ?_
  refine thenQ_n ?_
  refine AWp.seq ?_
  refine W.reg [0, 1, 2, 3, 4, 5, 6, 7, 8] rfl ?_
  refine S.sil 18 rfl rfl (fun _ hF => .fieldAddrC lay37 rfl rfl (lk 11 rfl rfl) rfl (flL_c (show flen _ = 1 from rfl) (flL_c (show flen _ = 1 from rfl) (flL_c (show flen _ = 1 from rfl) (flL_c (ty_TRights.fl a1.Down) flL_nil))))) ?_
  refine S.sil 19 rfl rfl (fun _ hF => .loadC sz35 ag35 (lk 0 rfl rfl) (ty_TRights.fl a1.Up) rfl) ?_
  refine S.sil 20 rfl rfl (fun _ hF => .move (lk 14 rfl rfl)) ?_
  obtain ⟨r4, m4, h⟩ := h.bnd
  refine S.sil 21 rfl rfl (fun _ hF => .callQ ent173 cF (.c (lk 1 rfl rfl) (V.sub.refl _) (.c (lk 0 rfl rfl) (V.sub.refl _) .nil)) (C_rights_Free m4)) ?_
  refine S.sil 17 rfl rfl (fun _ hF => .move (lk 0 rfl rfl)) ?_
  refine S.sil 22 rfl rfl (fun _ hF => .extract (lk 0 rfl rfl) rfl) ?_
  refine S.sil 23 rfl rfl (fun _ hF => .extract (lk 1 rfl rfl) rfl) ?_
  refine S.sil 8 rfl rfl (fun _ hF => .assign (lk 1 rfl rfl)) ?_
  refine S.sil 9 rfl rfl (fun _ hF => .assign (lk 1 rfl rfl)) ?_
  refine S.nil ?_
  refine thenQ_n ?_
  refine AWp.prune (.eq (lk 1 rfl rfl) rfl (.eq (lk 10 rfl rfl) rfl (.eq (lk 18 rfl rfl) rfl (.eq (lk 19 rfl rfl) rfl .nil)))) ?_
  refine AWp.seq ?_
  refine W.reg [0, 1, 2, 3] rfl ?_
  refine S.sil 24 rfl rfl (fun _ hF => .move (lk 1 rfl rfl)) ?_
  refine S.sil 25 rfl rfl (fun _ hF => .move (lk 1 rfl rfl)) ?_
  refine S.sil 4 rfl rfl (fun _ hF => .assign (lk 1 rfl rfl)) ?_
  refine S.sil 5 rfl rfl (fun _ hF => .assign (lk 1 rfl rfl)) ?_
  refine S.nil ?_
  refine thenQ_n ?_
  refine AWp.ret ?_
  obtain rfl := h.ret
  exact endFN rfl (Wk.selS [] .nil rfl (SelE.leaf (lk 1 rfl rfl) rfl (.refl _) (fun m => ((TyOk.int .i64).lt _ _)) (SelE.leaf (lk 0 rfl rfl) rfl (.refl _) (fun m => ((TyOk.int .i64).lt _ _)) .nil)) .nil) (.cons (.tmp (lk 0 rfl rfl) rfl) (.cons (.tmp (lk 1 rfl rfl) rfl) .nil)) rfl rfl rfl
theorem C_hold_Sum {a1 : List THold} {a2 : Int} {r : Int} (h : hold_Sum a1 a2 = some r) : PureC Pg 119 [.sl 5 .no (List.map E_THold a1), (V.int .i64) a2] ((V.int .i64) r) := by
  refine PureC.ofF (CallSpec.of_bodyF 30 0 fn119 rfl rfl rfl (Nat.le_of_ble_eq_true rfl) ?_) (ltL_c (lt_sl rfl (ty_THold.ltm _ _)) (ltL_c ((TyOk.int .i64).lt _ _) ltL_nil)) ((TyOk.int .i64).lt _ _)
  replace h := Ok.of h
  unfold hold_Sum at h
  refine AWp.seq ?_
  refine W.reg [0] rfl ?_
  refine S.sil 4 rfl rfl (fun _ hF => .assign cI) ?_
  refine S.nil ?_
  refine thenQ_n ?_
  refine AWp.seq ?_
  refine W.reg [0] rfl ?_
  refine S.sil 5 rfl rfl (fun _ hF => .assign cI) ?_
  refine S.nil ?_
  refine thenQ_n ?_
  refine AWp.seq ?_
  refine AWp.seq ?_
  refine W.reg [0, 1, 2] rfl ?_
  refine S.sil 8 rfl rfl (fun _ hF => .move (lk 2 rfl rfl)) ?_
  refine S.sil 9 rfl rfl (fun _ hF => .lenT sli40 (lk 0 rfl rfl) (vsub rfl (.refl _))) ?_
  refine S.sil 10 rfl rfl (fun _ hF => .move cI) ?_
  refine S.nil ?_
  refine thenQ_n ?_
  refine AWp.cutX (fun x5 => ⟨[(5, (V.int .i64) x5), (4, (V.int .i64) 0)], []⟩) nc_then h (fun q3 hq3 => ?_) (fun x5 h => ?_)
  · refine AWp.block ?_
    refine AWp.loopT (fun s4 => ⟨[(10, (V.int .i64) s4.1), (9, (V.int .i64) (a1.length : Int)), (8, .sl 5 .no (List.map E_THold a1)), (5, (V.int .i64) s4.2), (4, (V.int .i64) 0), (1, (V.int .i64) a2)], []⟩) hq3 (Wk.selS [] (by decide) rfl (SelE.leaf (lk 0 rfl rfl) rfl (.refl _) (fun m => ((TyOk.int .i64).lt _ _)) (SelE.leaf (lk 1 rfl rfl) rfl (.refl _) (fun m => ((TyOk.int .i64).lt _ _)) (SelE.leaf (lk 2 rfl rfl) rfl (.refl _) (fun m => (lt_sl rfl (ty_THold.ltm _ _))) (SelE.leaf (lk 3 rfl rfl) rfl (.refl _) (fun m => ((TyOk.int .i64).lt _ _)) (SelE.leaf (lk 4 rfl rfl) rfl (.refl _) (fun m => ((TyOk.int .i64).lt _ _)) (SelE.leaf (lk 6 rfl rfl) rfl (.refl _) (fun m => ((TyOk.int .i64).lt _ _)) .nil)))))) .nil) (fun _ s4 h3 => ?_)
    rw [hold_Sum_L1] at h3
    refine AWp.seq ?_
    refine W.reg [0] rfl ?_
    refine S.sil 11 rfl rfl (fun _ hF => .lss (lk 0 rfl rfl) (lk 1 rfl rfl)) ?_
    refine S.nil ?_
    refine thenQ_n ?_
    refine AWp.seq ?_
    refine AWp.condM (lk 0 rfl rfl) h3 (fun c1 h3 => ?_) (fun c1 h3 => ?_)
    · skip
      refine AWp.skip ?_
      refine thenQ_n ?_
      refine AWp.seq ?_
      refine AWp.block ?_
      refine AWp.seq ?_
      refine W.reg [0, 1, 2, 3] rfl ?_
      obtain ⟨j6, m6, h3⟩ := h3.bnd
      refine S.sil 12 rfl rfl (fun _ hF => .ixS sli40 (lk 3 rfl rfl) (lk 1 rfl rfl) m6) ?_
      obtain ⟨v7, ev7, h3⟩ := h3.nam
      refine S.sil 13 rfl rfl (fun _ hF => .nv (.loadC sz101 ag101 (lk 0 rfl rfl) (ty_THold.fl (a1.getD j6 default)) rfl) (congrArg E_THold ev7.symm)) ?_
      refine S.eff 7 rfl rfl (.nf (v2 := .ptr 0 [] 0) (H2 := [.cells (E_THold (default : THold))]) (.alloc zv101) rfl rfl) trivial ?_
      refine S.effN rfl rfl (.nf (H2 := [.cells (E_THold v7)]) (.storeP sz101 (lk 0 rfl rfl) (lk 1 rfl rfl) rfl (.refl _) rfl .nil (by first | rfl | omega) .nil (ty_THold.fl v7) (ty_THold.fl (default : THold)) rfl) rfl rfl) trivial ?_
      refine S.nil ?_
      refine thenQ_n ?_
      refine AWp.wk (Wk.freeze 0 rfl rfl (.cons (lk 0 rfl rfl) rfl (.ptr .nil (by first | rfl | omega)) (.same (lk 1 rfl rfl) (.same (lk 2 rfl rfl) (.same (lk 3 rfl rfl) (.same (lk 4 rfl rfl) (.same (lk 5 rfl rfl) (.same (lk 6 rfl rfl) (.same (lk 7 rfl rfl) (.same (lk 8 rfl rfl) (.same (lk 9 rfl rfl) .nil)))))))))) (.refl _)) ?_
      refine AWp.seq ?_
      refine W.reg [0, 1, 2, 3, 4, 5, 6, 7, 8] rfl ?_
      refine S.sil 14 rfl rfl (fun _ hF => .fieldAddrC lay101 rfl rfl (lk 0 rfl rfl) rfl flL_nil) ?_
      refine S.sil 15 rfl rfl (fun _ hF => .loadC sz3 ag3 (lk 0 rfl rfl) rfl rfl) ?_
      refine S.sil 16 rfl rfl (fun _ hF => .move (lk 11 rfl rfl)) ?_
      refine S.sil 17 rfl rfl (fun _ hF => .eql (lk 1 rfl rfl) (lk 0 rfl rfl)) ?_
      refine S.sil 18 rfl rfl (fun _ hF => .move (lk 0 rfl rfl)) ?_
      refine S.gsil 19 4 18 true rfl rfl rfl (lk 0 rfl rfl) (fun hB _ hF => .fieldAddrC lay101 rfl rfl (lk 5 rfl rfl) rfl (flL_c (show flen _ = 1 from rfl) (flL_c (show flen _ = 1 from rfl) (flL_c (show flen _ = 1 from rfl) (flL_c (show flen _ = 1 from rfl) flL_nil))))) ?_
      refine S.gsil 20 4 18 true rfl rfl rfl (lk 1 rfl rfl) (fun hB _ hF => .loadC sz3 ag3 (ifT hB (lk 0 rfl rfl)) rfl rfl) ?_
      refine S.gsil 21 4 18 true rfl rfl rfl (lk 2 rfl rfl) (fun hB _ hF => .eql (ifT hB (lk 0 rfl rfl)) cI) ?_
      refine S.sil 22 rfl rfl (fun _ hF => .pickAnd (lk 3 rfl rfl) (fun h => ifT h (lk 0 rfl rfl)) cB) ?_
      refine S.nil ?_
      refine thenQ_n ?_
      refine AWp.condM (lk 0 rfl rfl) h3 (fun c2 h3 => ?_) (fun c2 h3 => ?_)
      · skip
        refine W.reg [0, 1, 2, 3, 4, 5] rfl ?_
        refine S.sil 23 rfl rfl (fun _ hF => .move (lk 16 rfl rfl)) ?_
        refine S.sil 24 rfl rfl (fun _ hF => .fieldAddrC lay101 rfl rfl (lk 10 rfl rfl) rfl (flL_c (show flen _ = 1 from rfl) (flL_c (show flen _ = 1 from rfl) flL_nil))) ?_
        refine S.sil 25 rfl rfl (fun _ hF => .loadC sz3 ag3 (lk 0 rfl rfl) rfl rfl) ?_
        refine S.sil 26 rfl rfl (fun _ hF => .add (lk 2 rfl rfl) (lk 0 rfl rfl)) ?_
        refine S.sil 27 rfl rfl (fun _ hF => .bmin (lk 0 rfl rfl) cI) ?_
        obtain ⟨v8, ev8, h3⟩ := h3.nam
        refine S.sil 5 rfl rfl (fun _ hF => .nv (.assign (lk 0 rfl rfl)) (congrArg (V.int .i64) ev8.symm)) ?_
        refine S.nil ?_
        refine blockQ_n ?_
        refine thenQ_n ?_
        refine W.reg [0, 1] rfl ?_
        refine S.sil 28 rfl rfl (fun _ hF => .add (lk 19 rfl rfl) cI) ?_
        refine S.sil 10 rfl rfl (fun _ hF => .move (lk 0 rfl rfl)) ?_
        refine S.nil ?_
        refine thenQ_n ?_
        exact ⟨_, h3.ret, (Wk.selS [] (by decide) rfl (SelE.leaf (lk 0 rfl rfl) rfl (.refl _) (fun m => ((TyOk.int .i64).lt _ _)) (SelE.leaf (lk 22 rfl rfl) rfl (.refl _) (fun m => ((TyOk.int .i64).lt _ _)) (SelE.leaf (lk 23 rfl rfl) rfl (.refl _) (fun m => (lt_sl rfl (ty_THold.ltm _ _))) (SelE.leaf (lk 2 rfl rfl) rfl (.refl _) (fun m => ((TyOk.int .i64).lt _ _)) (SelE.leaf (lk 25 rfl rfl) rfl (.refl _) (fun m => ((TyOk.int .i64).lt _ _)) (SelE.leaf (lk 26 rfl rfl) rfl (.refl _) (fun m => ((TyOk.int .i64).lt _ _)) .nil)))))) .nil)⟩
      · skip
        refine AWp.skip ?_
        refine blockQ_n ?_
        refine thenQ_n ?_
        refine W.reg [0, 1] rfl ?_
        refine S.sil 28 rfl rfl (fun _ hF => .add (lk 13 rfl rfl) cI) ?_
        refine S.sil 10 rfl rfl (fun _ hF => .move (lk 0 rfl rfl)) ?_
        refine S.nil ?_
        refine thenQ_n ?_
        exact ⟨_, h3.ret, (Wk.selS [] (by decide) rfl (SelE.leaf (lk 0 rfl rfl) rfl (.refl _) (fun m => ((TyOk.int .i64).lt _ _)) (SelE.leaf (lk 16 rfl rfl) rfl (.refl _) (fun m => ((TyOk.int .i64).lt _ _)) (SelE.leaf (lk 17 rfl rfl) rfl (.refl _) (fun m => (lt_sl rfl (ty_THold.ltm _ _))) (SelE.leaf (lk 18 rfl rfl) rfl (.refl _) (fun m => ((TyOk.int .i64).lt _ _)) (SelE.leaf (lk 19 rfl rfl) rfl (.refl _) (fun m => ((TyOk.int .i64).lt _ _)) (SelE.leaf (lk 20 rfl rfl) rfl (.refl _) (fun m => ((TyOk.int .i64).lt _ _)) .nil)))))) .nil)⟩
    · skip
      refine AWp.exit ?_
      refine thenQ_x ?_
      refine thenQ_x ?_
      refine blockQ_x ?_
      refine thenQ_n ?_
      exact ⟨_, h3.ret, (Wk.selS [] (by decide) rfl (SelE.leaf (lk 4 rfl rfl) rfl (.refl _) (fun m => ((TyOk.int .i64).lt _ _)) (SelE.leaf (lk 5 rfl rfl) rfl (.refl _) (fun m => ((TyOk.int .i64).lt _ _)) .nil)) .nil)⟩
  · skip
    refine thenQ_n ?_
    refine AWp.seq ?_
    refine W.reg [0, 1] rfl ?_
    refine S.sil 29 rfl rfl (fun _ hF => .move (lk 0 rfl rfl)) ?_
    refine S.sil 4 rfl rfl (fun _ hF => .assign (lk 0 rfl rfl)) ?_
    refine S.nil ?_
    refine thenQ_n ?_
    refine AWp.ret ?_
    obtain rfl := h.ret
    exact endF1 rfl (Wk.selS [] .nil rfl (SelE.leaf (lk 0 rfl rfl) rfl (.refl _) (fun m => ((TyOk.int .i64).lt _ _)) .nil) .nil) (.tmp (lk 0 rfl rfl) rfl) rfl rfl
theorem C_field_Loose {a1 : TField} {a2 : Int} {r : Int × Int} (h : field_Loose a1 a2 = some r) : PureC Pg 46 [E_TField a1, (V.int .i64) a2] (.tup [(V.int .i64) r.1, (V.int .i64) r.2]) := by
  refine PureC.ofF (CallSpec.of_bodyF 25 0 fn46 rfl rfl rfl (Nat.le_of_ble_eq_true rfl) ?_) (ltL_c (ty_TField.lt _ _) (ltL_c ((TyOk.int .i64).lt _ _) ltL_nil)) (lt_tup (ltL_c ((TyOk.int .i64).lt _ _) (ltL_c ((TyOk.int .i64).lt _ _) ltL_nil)))
  replace h := Ok.of h
  unfold field_Loose at h
  refine AWp.seq ?_
  refine W.reg [0, 1, 2] rfl ?_
  refine S.eff 2 rfl rfl (.nf (v2 := .ptr 0 [] 0) (H2 := [.cells (E_TField a1)]) (.box (lk 0 rfl rfl) rfl) rfl rfl) trivial ?_
  refine S.sil 4 rfl rfl (fun _ hF => .assign cI) ?_
  refine S.sil 5 rfl rfl (fun _ hF => .assign cI) ?_
  refine S.nil ?_
  refine thenQ_n ?_
  refine AWp.wk (Wk.freeze 0 rfl rfl (.same (lk 0 rfl rfl) (.same (lk 1 rfl rfl) (.cons (lk 2 rfl rfl) rfl (.ptr .nil (by first | rfl | omega)) (.same (lk 4 rfl rfl) .nil)))) (.refl _)) ?_
  refine AWp.seq ?_
  refine AWp.seq ?_
  refine W.reg [0, 1, 2] rfl ?_
  refine S.sil 8 rfl rfl (fun _ hF => .fieldAddrC lay42 rfl rfl (lk 2 rfl rfl) rfl (flL_c (show flen _ = 1 from rfl) flL_nil)) ?_
  refine S.sil 9 rfl rfl (fun _ hF => .loadC sz3 ag3 (lk 0 rfl rfl) rfl rfl) ?_
  refine S.sil 10 rfl rfl (fun _ hF => .neq (lk 0 rfl rfl) cI) ?_
  refine S.nil ?_
  refine thenQ_n ?_
  refine AWp.condM (lk 0 rfl rfl) h (fun c1 h => ?_) (fun c1 h => ?_)
  · skip
    refine AWp.seq ?_
    refine W.reg [0, 1] rfl ?_
    refine S.sil 4 rfl rfl (fun _ hF => .assign cI) ?_
    refine S.sil 5 rfl rfl (fun _ hF => .assign cI) ?_
    refine S.nil ?_
    refine thenQ_n ?_
    refine AWp.ret ?_
    refine thenQ_r ?_
    obtain rfl := h.ret
    exact endFN rfl (Wk.selS [] .nil rfl (SelE.leaf (lk 1 rfl rfl) rfl (.refl _) (fun m => ((TyOk.int .i64).lt _ _)) (SelE.leaf (lk 0 rfl rfl) rfl (.refl _) (fun m => ((TyOk.int .i64).lt _ _)) .nil)) .nil) (.cons (.tmp (lk 0 rfl rfl) rfl) (.cons (.tmp (lk 1 rfl rfl) rfl) .nil)) rfl rfl rfl
  · skip
    refine AWp.skip ?_
    refine thenQ_n ?_
    refine AWp.seq ?_
    refine W.reg [0, 1, 2, 3, 4, 5, 6, 7, 8] rfl ?_
    refine S.sil 12 rfl rfl (fun _ hF => .fieldAddrC lay42 rfl rfl (lk 5 rfl rfl) rfl (flL_c (show flen _ = 1 from rfl) (flL_c (show flen _ = 1 from rfl) (flL_c (show flen _ = 1 from rfl) flL_nil)))) ?_
    refine S.sil 13 rfl rfl (fun _ hF => .loadC sz37 ag37 (lk 0 rfl rfl) (ty_TCounter.fl a1.Counter) rfl) ?_
    refine S.sil 14 rfl rfl (fun _ hF => .move (lk 8 rfl rfl)) ?_
    obtain ⟨r3, m3, h⟩ := h.bnd
    refine S.sil 15 rfl rfl (fun _ hF => .callQ ent118 cF (.c (lk 1 rfl rfl) (V.sub.refl _) (.c (lk 0 rfl rfl) (V.sub.refl _) .nil)) (C_counter_Room m3)) ?_
    refine S.sil 11 rfl rfl (fun _ hF => .move (lk 0 rfl rfl)) ?_
    refine S.sil 16 rfl rfl (fun _ hF => .extract (lk 0 rfl rfl) rfl) ?_
    refine S.sil 17 rfl rfl (fun _ hF => .extract (lk 1 rfl rfl) rfl) ?_
    refine S.sil 6 rfl rfl (fun _ hF => .assign (lk 1 rfl rfl)) ?_
    refine S.sil 7 rfl rfl (fun _ hF => .assign (lk 1 rfl rfl)) ?_
    refine S.nil ?_
    refine thenQ_n ?_
    refine AWp.prune (.eq (lk 0 rfl rfl) rfl (.eq (lk 1 rfl rfl) rfl (.eq (lk 12 rfl rfl) rfl (.eq (lk 13 rfl rfl) rfl (.eq (lk 14 rfl rfl) rfl (.eq (lk 15 rfl rfl) rfl .nil)))))) ?_
    refine AWp.seq ?_
    refine W.reg [0, 1, 2, 3, 4, 5, 6, 7, 8] rfl ?_
    refine S.sil 18 rfl rfl (fun _ hF => .move (lk 1 rfl rfl)) ?_
    refine S.sil 19 rfl rfl (fun _ hF => .fieldAddrC lay42 rfl rfl (lk 5 rfl rfl) rfl (flL_c (show flen _ = 1 from rfl) (flL_c (show flen _ = 1 from rfl) (flL_c (show flen _ = 1 from rfl) (flL_c (ty_TCounter.fl a1.Counter) (flL_c (ty_TLock.fl a1.Lock) flL_nil)))))) ?_
    refine S.sil 20 rfl rfl (fun _ hF => .loadC sz40 ag40 (lk 0 rfl rfl) rfl rfl) ?_
    refine S.sil 21 rfl rfl (fun _ hF => .move (lk 8 rfl rfl)) ?_
    obtain ⟨r4, m4, h⟩ := h.bnd
    refine S.sil 22 rfl rfl (fun _ hF => .callQ ent119 cF (.c (lk 1 rfl rfl) (V.sub.refl _) (.c (lk 0 rfl rfl) (V.sub.refl _) .nil)) (C_hold_Sum m4)) ?_
    refine S.sil 23 rfl rfl (fun _ hF => .sub (lk 4 rfl rfl) (lk 0 rfl rfl)) ?_
    refine S.sil 24 rfl rfl (fun _ hF => .move (lk 6 rfl rfl)) ?_
    refine S.sil 4 rfl rfl (fun _ hF => .assign (lk 1 rfl rfl)) ?_
    refine S.sil 5 rfl rfl (fun _ hF => .assign (lk 1 rfl rfl)) ?_
    refine S.nil ?_
    refine thenQ_n ?_
    refine AWp.prune (.eq (lk 0 rfl rfl) rfl (.eq (lk 1 rfl rfl) rfl .nil)) ?_
    refine AWp.ret ?_
    obtain rfl := h.ret
    exact endFN rfl (Wk.selS [] .nil rfl (SelE.leaf (lk 1 rfl rfl) rfl (.refl _) (fun m => ((TyOk.int .i64).lt _ _)) (SelE.leaf (lk 0 rfl rfl) rfl (.refl _) (fun m => ((TyOk.int .i64).lt _ _)) .nil)) .nil) (.cons (.tmp (lk 0 rfl rfl) rfl) (.cons (.tmp (lk 1 rfl rfl) rfl) .nil)) rfl rfl rfl
theorem C_field_lacks {a1 : TField} {a2 : Int} {a3 : Int} {r : Int} (h : field_lacks a1 a2 a3 = some r) : PureC Pg 78 [E_TField a1, (V.int .i64) a2, (V.int .i64) a3] ((V.int .i64) r) := by
  refine PureC.ofF (CallSpec.of_bodyF 23 0 fn78 rfl rfl rfl (Nat.le_of_ble_eq_true rfl) ?_) (ltL_c (ty_TField.lt _ _) (ltL_c ((TyOk.int .i64).lt _ _) (ltL_c ((TyOk.int .i64).lt _ _) ltL_nil))) ((TyOk.int .i64).lt _ _)
  replace h := Ok.of h
  unfold field_lacks at h
  refine AWp.seq ?_
  refine W.reg [0, 1] rfl ?_
  refine S.eff 3 rfl rfl (.nf (v2 := .ptr 0 [] 0) (H2 := [.cells (E_TField a1)]) (.box (lk 0 rfl rfl) rfl) rfl rfl) trivial ?_
  refine S.sil 6 rfl rfl (fun _ hF => .assign cI) ?_
  refine S.nil ?_
  refine thenQ_n ?_
  refine AWp.wk (Wk.freeze 0 rfl rfl (.same (lk 0 rfl rfl) (.cons (lk 1 rfl rfl) rfl (.ptr .nil (by first | rfl | omega)) (.same (lk 3 rfl rfl) (.same (lk 4 rfl rfl) .nil)))) (.refl _)) ?_
  refine AWp.seq ?_
  refine W.reg [0, 1, 2, 3, 4, 5, 6, 7] rfl ?_
  refine S.sil 10 rfl rfl (fun _ hF => .loadC sz42 ag42 (lk 1 rfl rfl) (ty_TField.fl a1) rfl) ?_
  refine S.sil 11 rfl rfl (fun _ hF => .move (lk 3 rfl rfl)) ?_
  obtain ⟨r4, m4, h⟩ := h.bnd
  refine S.sil 12 rfl rfl (fun _ hF => .callQ ent46 cF (.c (lk 1 rfl rfl) (V.sub.refl _) (.c (lk 0 rfl rfl) (V.sub.refl _) .nil)) (C_field_Loose m4)) ?_
  refine S.sil 9 rfl rfl (fun _ hF => .move (lk 0 rfl rfl)) ?_
  refine S.sil 13 rfl rfl (fun _ hF => .extract (lk 0 rfl rfl) rfl) ?_
  refine S.sil 14 rfl rfl (fun _ hF => .extract (lk 1 rfl rfl) rfl) ?_
  refine S.sil 7 rfl rfl (fun _ hF => .assign (lk 1 rfl rfl)) ?_
  refine S.sil 8 rfl rfl (fun _ hF => .assign (lk 1 rfl rfl)) ?_
  refine S.nil ?_
  refine thenQ_n ?_
  refine AWp.seq ?_
  refine AWp.block ?_
  refine AWp.seq ?_
  refine W.reg [0, 1, 2, 3] rfl ?_
  refine S.sil 16 rfl rfl (fun _ hF => .fieldAddrC lay42 rfl rfl (lk 9 rfl rfl) rfl (flL_c (show flen _ = 1 from rfl) flL_nil)) ?_
  refine S.sil 17 rfl rfl (fun _ hF => .loadC sz3 ag3 (lk 0 rfl rfl) rfl rfl) ?_
  refine S.sil 18 rfl rfl (fun _ hF => .neq (lk 0 rfl rfl) cI) ?_
  refine S.sil 15 rfl rfl (fun _ hF => .assign (lk 0 rfl rfl)) ?_
  refine S.nil ?_
  refine thenQ_n ?_
  refine AWp.prune (.eq (lk 0 rfl rfl) rfl (.eq (lk 5 rfl rfl) rfl (.eq (lk 12 rfl rfl) rfl (.eq (lk 15 rfl rfl) rfl .nil)))) ?_
  refine AWp.condM (lk 0 rfl rfl) h (fun c1 h => ?_) (fun c1 h => ?_)
  · skip
    refine AWp.seq ?_
    refine W.reg [0] rfl ?_
    refine S.sil 6 rfl rfl (fun _ hF => .assign cI) ?_
    refine S.nil ?_
    refine thenQ_n ?_
    refine AWp.ret ?_
    refine blockQ_r ?_
    refine thenQ_r ?_
    obtain rfl := h.ret
    exact endF1 rfl (Wk.selS [] .nil rfl (SelE.leaf (lk 0 rfl rfl) rfl (.refl _) (fun m => ((TyOk.int .i64).lt _ _)) .nil) .nil) (.tmp (lk 0 rfl rfl) rfl) rfl rfl
  · skip
    refine AWp.seq ?_
    refine W.reg [0, 1, 2, 3] rfl ?_
    refine S.sil 20 rfl rfl (fun _ hF => .move (lk 3 rfl rfl)) ?_
    refine S.sil 21 rfl rfl (fun _ hF => .move (lk 2 rfl rfl)) ?_
    refine S.sil 22 rfl rfl (fun _ hF => .gtr (lk 1 rfl rfl) (lk 0 rfl rfl)) ?_
    refine S.sil 19 rfl rfl (fun _ hF => .assign (lk 0 rfl rfl)) ?_
    refine S.nil ?_
    refine thenQ_n ?_
    refine AWp.condM (lk 0 rfl rfl) h (fun c2 h => ?_) (fun c2 h => ?_)
    · skip
      refine AWp.seq ?_
      refine W.reg [0] rfl ?_
      refine S.sil 6 rfl rfl (fun _ hF => .assign cI) ?_
      refine S.nil ?_
      refine thenQ_n ?_
      refine AWp.ret ?_
      refine blockQ_r ?_
      refine thenQ_r ?_
      obtain rfl := h.ret
      exact endF1 rfl (Wk.selS [] .nil rfl (SelE.leaf (lk 0 rfl rfl) rfl (.refl _) (fun m => ((TyOk.int .i64).lt _ _)) .nil) .nil) (.tmp (lk 0 rfl rfl) rfl) rfl rfl
    · skip
      refine AWp.skip ?_
      refine blockQ_n ?_
      refine thenQ_n ?_
      refine AWp.seq ?_
      refine W.reg [0] rfl ?_
      refine S.sil 6 rfl rfl (fun _ hF => .assign cI) ?_
      refine S.nil ?_
      refine thenQ_n ?_
      refine AWp.ret ?_
      obtain rfl := h.ret
      exact endF1 rfl (Wk.selS [] .nil rfl (SelE.leaf (lk 0 rfl rfl) rfl (.refl _) (fun m => ((TyOk.int .i64).lt _ _)) .nil) .nil) (.tmp (lk 0 rfl rfl) rfl) rfl rfl
theorem C_hold_count {a1 : Int} {r : Bool} (h : hold_count a1 = some r) : PureC Pg 214 [(V.int .i64) a1] (V.bool r) := by
  refine PureC.ofF (CallSpec.of_bodyF 9 0 fn214 rfl rfl rfl (Nat.le_of_ble_eq_true rfl) ?_) (ltL_c ((TyOk.int .i64).lt _ _) ltL_nil) (TyOk.bool.lt _ _)
  replace h := Ok.of h
  unfold hold_count at h
  refine AWp.seq ?_
  refine W.reg [0] rfl ?_
  refine S.sil 2 rfl rfl (fun _ hF => .assign cB) ?_
  refine S.nil ?_
  refine thenQ_n ?_
  refine AWp.seq ?_
  refine W.reg [0, 1, 2, 3, 4, 5, 6] rfl ?_
  refine S.sil 3 rfl rfl (fun _ hF => .move (lk 1 rfl rfl)) ?_
  refine S.sil 4 rfl rfl (fun _ hF => .geq (lk 0 rfl rfl) cI) ?_
  refine S.sil 5 rfl rfl (fun _ hF => .move (lk 0 rfl rfl)) ?_
  refine S.gsil 6 2 5 true rfl rfl rfl (lk 0 rfl rfl) (fun hB _ hF => .move (lk 4 rfl rfl)) ?_
  obtain ⟨r2, m2, h⟩ := h.bnd
  refine S.gsil 7 2 5 true rfl rfl rfl (lk 1 rfl rfl) (fun hB _ hF => .callQ ent77 cF (.c (ifT hB (lk 0 rfl rfl)) (V.sub.refl _) .nil) (C_num_Is (gd_get m2 hB))) ?_
  refine S.sil 8 rfl rfl (fun _ hF => .pickAnd (lk 2 rfl rfl) (fun h => ifT h (lk 0 rfl rfl)) cB) ?_
  obtain ⟨v3, ev3, h⟩ := h.nam
  refine S.sil 2 rfl rfl (fun _ hF => .nv (.assign (lk 0 rfl rfl)) (congrArg V.bool ev3.symm)) ?_
  refine S.nil ?_
  refine thenQ_n ?_
  refine AWp.ret ?_
  obtain rfl := h.ret
  exact endF1 rfl (Wk.selS [] .nil rfl (SelE.leaf (lk 0 rfl rfl) rfl (.refl _) (fun m => (TyOk.bool.lt _ _)) .nil) .nil) (.tmp (lk 0 rfl rfl) rfl) rfl rfl
theorem C_hold_Right {a1 : THold} {r : Bool} (h : hold_Right a1 = some r) : PureC Pg 174 [E_THold a1] (V.bool r) := by
  refine PureC.ofF (CallSpec.of_bodyF 41 0 fn174 rfl rfl rfl (Nat.le_of_ble_eq_true rfl) ?_) (ltL_c (ty_THold.lt _ _) ltL_nil) (TyOk.bool.lt _ _)
  replace h := Ok.of h
  unfold hold_Right at h
  refine AWp.seq ?_
  refine W.reg [0, 1] rfl ?_
  refine S.eff 1 rfl rfl (.nf (v2 := .ptr 0 [] 0) (H2 := [.cells (E_THold a1)]) (.box (lk 0 rfl rfl) rfl) rfl rfl) trivial ?_
  refine S.sil 2 rfl rfl (fun _ hF => .assign cB) ?_
  refine S.nil ?_
  refine thenQ_n ?_
  refine AWp.wk (Wk.freeze 0 rfl rfl (.same (lk 0 rfl rfl) (.cons (lk 1 rfl rfl) rfl (.ptr .nil (by first | rfl | omega)) .nil)) (.refl _)) ?_
  refine AWp.seq ?_
  refine W.reg [0, 1, 2, 3, 4, 5, 6, 7, 8, 9, 10, 11, 12, 13, 14, 15, 16, 17, 18, 19, 20, 21, 22, 23, 24, 25, 26, 27, 28, 29, 30, 31, 32, 33, 34, 35, 36, 37, 38] rfl ?_
  refine S.sil 3 rfl rfl (fun _ hF => .fieldAddrC lay101 rfl rfl (lk 1 rfl rfl) rfl flL_nil) ?_
  refine S.sil 4 rfl rfl (fun _ hF => .loadC sz3 ag3 (lk 0 rfl rfl) rfl rfl) ?_
  refine S.sil 5 rfl rfl (fun _ hF => .geq (lk 0 rfl rfl) cI) ?_
  refine S.sil 6 rfl rfl (fun _ hF => .move (lk 0 rfl rfl)) ?_
  refine S.gsil 7 3 6 true rfl rfl rfl (lk 0 rfl rfl) (fun hB _ hF => .fieldAddrC lay101 rfl rfl (lk 5 rfl rfl) rfl flL_nil) ?_
  refine S.gsil 8 3 6 true rfl rfl rfl (lk 1 rfl rfl) (fun hB _ hF => .loadC sz3 ag3 (ifT hB (lk 0 rfl rfl)) rfl rfl) ?_
  refine S.gsil 9 3 6 true rfl rfl rfl (lk 2 rfl rfl) (fun hB _ hF => .lss (ifT hB (lk 0 rfl rfl)) cI) ?_
  refine S.sil 10 rfl rfl (fun _ hF => .pickAnd (lk 3 rfl rfl) (fun h => ifT h (lk 0 rfl rfl)) cB) ?_
  refine S.sil 11 rfl rfl (fun _ hF => .move (lk 0 rfl rfl)) ?_
  refine S.gsil 12 8 11 true rfl rfl rfl (lk 0 rfl rfl) (fun hB _ hF => .fieldAddrC lay101 rfl rfl (lk 10 rfl rfl) rfl (flL_c (show flen _ = 1 from rfl) flL_nil)) ?_
  refine S.gsil 13 8 11 true rfl rfl rfl (lk 1 rfl rfl) (fun hB _ hF => .loadC sz3 ag3 (ifT hB (lk 0 rfl rfl)) rfl rfl) ?_
  refine S.gsil 14 8 11 true rfl rfl rfl (lk 2 rfl rfl) (fun hB _ hF => .geq (ifT hB (lk 0 rfl rfl)) cI) ?_
  obtain ⟨v2, ev2, h⟩ := h.nam
  refine S.sil 15 rfl rfl (fun _ hF => .nv (.pickAnd (lk 3 rfl rfl) (fun h => ifT h (lk 0 rfl rfl)) cB) (congrArg V.bool ev2.symm)) ?_
  refine S.sil 16 rfl rfl (fun _ hF => .move (lk 0 rfl rfl)) ?_
  refine S.gsil 17 13 16 true rfl rfl rfl (lk 0 rfl rfl) (fun hB _ hF => .fieldAddrC lay101 rfl rfl (lk 15 rfl rfl) rfl (flL_c (show flen _ = 1 from rfl) flL_nil)) ?_
  refine S.gsil 18 13 16 true rfl rfl rfl (lk 1 rfl rfl) (fun hB _ hF => .loadC sz3 ag3 (ifT hB (lk 0 rfl rfl)) rfl rfl) ?_
  obtain ⟨r3, m3, h⟩ := h.bnd
  refine S.gsil 19 13 16 true rfl rfl rfl (lk 2 rfl rfl) (fun hB _ hF => .callQ ent77 cF (.c (ifT hB (lk 0 rfl rfl)) (V.sub.refl _) .nil) (C_num_Is (gd_get m3 hB))) ?_
  refine S.sil 20 rfl rfl (fun _ hF => .pickAnd (lk 3 rfl rfl) (fun h => ifT h (lk 0 rfl rfl)) cB) ?_
  refine S.sil 21 rfl rfl (fun _ hF => .move (lk 0 rfl rfl)) ?_
  refine S.gsil 22 18 21 true rfl rfl rfl (lk 0 rfl rfl) (fun hB _ hF => .fieldAddrC lay101 rfl rfl (lk 20 rfl rfl) rfl (flL_c (show flen _ = 1 from rfl) (flL_c (show flen _ = 1 from rfl) flL_nil))) ?_
  refine S.gsil 23 18 21 true rfl rfl rfl (lk 1 rfl rfl) (fun hB _ hF => .loadC sz3 ag3 (ifT hB (lk 0 rfl rfl)) rfl rfl) ?_
  obtain ⟨r4, m4, h⟩ := h.bnd
  refine S.gsil 24 18 21 true rfl rfl rfl (lk 2 rfl rfl) (fun hB _ hF => .callQ ent214 cF (.c (ifT hB (lk 0 rfl rfl)) (V.sub.refl _) .nil) (C_hold_count (gd_get m4 hB))) ?_
  refine S.sil 25 rfl rfl (fun _ hF => .pickAnd (lk 3 rfl rfl) (fun h => ifT h (lk 0 rfl rfl)) cB) ?_
  refine S.sil 26 rfl rfl (fun _ hF => .move (lk 0 rfl rfl)) ?_
  refine S.gsil 27 23 26 true rfl rfl rfl (lk 0 rfl rfl) (fun hB _ hF => .fieldAddrC lay101 rfl rfl (lk 25 rfl rfl) rfl (flL_c (show flen _ = 1 from rfl) (flL_c (show flen _ = 1 from rfl) (flL_c (show flen _ = 1 from rfl) flL_nil)))) ?_
  refine S.gsil 28 23 26 true rfl rfl rfl (lk 1 rfl rfl) (fun hB _ hF => .loadC sz3 ag3 (ifT hB (lk 0 rfl rfl)) rfl rfl) ?_
  obtain ⟨r5, m5, h⟩ := h.bnd
  refine S.gsil 29 23 26 true rfl rfl rfl (lk 2 rfl rfl) (fun hB _ hF => .callQ ent214 cF (.c (ifT hB (lk 0 rfl rfl)) (V.sub.refl _) .nil) (C_hold_count (gd_get m5 hB))) ?_
  refine S.sil 30 rfl rfl (fun _ hF => .pickAnd (lk 3 rfl rfl) (fun h => ifT h (lk 0 rfl rfl)) cB) ?_
  refine S.sil 31 rfl rfl (fun _ hF => .move (lk 0 rfl rfl)) ?_
  refine S.gsil 32 28 31 true rfl rfl rfl (lk 0 rfl rfl) (fun hB _ hF => .fieldAddrC lay101 rfl rfl (lk 30 rfl rfl) rfl (flL_c (show flen _ = 1 from rfl) (flL_c (show flen _ = 1 from rfl) (flL_c (show flen _ = 1 from rfl) (flL_c (show flen _ = 1 from rfl) flL_nil))))) ?_
  refine S.gsil 33 28 31 true rfl rfl rfl (lk 1 rfl rfl) (fun hB _ hF => .loadC sz3 ag3 (ifT hB (lk 0 rfl rfl)) rfl rfl) ?_
  refine S.gsil 34 28 31 true rfl rfl rfl (lk 2 rfl rfl) (fun hB _ hF => .geq (ifT hB (lk 0 rfl rfl)) cI) ?_
  refine S.sil 35 rfl rfl (fun _ hF => .pickAnd (lk 3 rfl rfl) (fun h => ifT h (lk 0 rfl rfl)) cB) ?_
  refine S.sil 36 rfl rfl (fun _ hF => .move (lk 0 rfl rfl)) ?_
  refine S.gsil 37 33 36 true rfl rfl rfl (lk 0 rfl rfl) (fun hB _ hF => .fieldAddrC lay101 rfl rfl (lk 35 rfl rfl) rfl (flL_c (show flen _ = 1 from rfl) (flL_c (show flen _ = 1 from rfl) (flL_c (show flen _ = 1 from rfl) (flL_c (show flen _ = 1 from rfl) flL_nil))))) ?_
  refine S.gsil 38 33 36 true rfl rfl rfl (lk 1 rfl rfl) (fun hB _ hF => .loadC sz3 ag3 (ifT hB (lk 0 rfl rfl)) rfl rfl) ?_
  refine S.gsil 39 33 36 true rfl rfl rfl (lk 2 rfl rfl) (fun hB _ hF => .leq (ifT hB (lk 0 rfl rfl)) cI) ?_
  obtain ⟨v6, ev6, h⟩ := h.nam
  refine S.sil 40 rfl rfl (fun _ hF => .nv (.pickAnd (lk 3 rfl rfl) (fun h => ifT h (lk 0 rfl rfl)) cB) (congrArg V.bool ev6.symm)) ?_
  refine S.sil 2 rfl rfl (fun _ hF => .assign (lk 0 rfl rfl)) ?_
  refine S.nil ?_
  refine thenQ_n ?_
  refine AWp.prune (.eq (lk 0 rfl rfl) rfl .nil) ?_
  refine AWp.ret ?_
  obtain rfl := h.ret
  exact endF1 rfl (Wk.selS [] .nil rfl (SelE.leaf (lk 0 rfl rfl) rfl (.refl _) (fun m => (TyOk.bool.lt _ _)) .nil) .nil) (.tmp (lk 0 rfl rfl) rfl) rfl rfl
theorem C_hold_compare {a1 : THold} {a2 : THold} {r : Int} (h : hold_compare a1 a2 = some r) : PureC Pg 134 [E_THold a1, E_THold a2] ((V.int .i64) r) := by
  refine PureC.ofF (CallSpec.of_bodyF 32 0 fn134 rfl rfl rfl (Nat.le_of_ble_eq_true rfl) ?_) (ltL_c (ty_THold.lt _ _) (ltL_c (ty_THold.lt _ _) ltL_nil)) ((TyOk.int .i64).lt _ _)
  replace h := Ok.of h
  unfold hold_compare at h
  refine AWp.seq ?_
  refine W.reg [0, 1, 2] rfl ?_
  refine S.eff 2 rfl rfl (.nf (v2 := .ptr 0 [] 0) (H2 := [.cells (E_THold a1)]) (.box (lk 0 rfl rfl) rfl) rfl rfl) trivial ?_
  refine S.eff 3 rfl rfl (.nf (v2 := .ptr 1 [] 0) (H2 := [.cells (E_THold a1), .cells (E_THold a2)]) (.box (lk 2 rfl rfl) rfl) rfl rfl) trivial ?_
  refine S.sil 4 rfl rfl (fun _ hF => .assign cI) ?_
  refine S.nil ?_
  refine thenQ_n ?_
  refine AWp.wk (Wk.freeze 0 rfl rfl (.same (lk 0 rfl rfl) (.same (lk 1 rfl rfl) (.cons (lk 2 rfl rfl) rfl (.ptr .nil (by first | rfl | omega)) .nil))) (.refl _)) ?_
  refine AWp.wk (Wk.freeze 1 rfl rfl (.same (lk 0 rfl rfl) (.cons (lk 1 rfl rfl) rfl (.ptr .nil (by first | rfl | omega)) (.same (lk 2 rfl rfl) .nil))) (.refl _)) ?_
  refine AWp.seq ?_
  refine AWp.seq ?_
  refine W.reg [0, 1, 2, 3, 4, 5, 6, 7, 8, 9, 10, 11] rfl ?_
  refine S.sil 7 rfl rfl (fun _ hF => .fieldAddrC lay101 rfl rfl (lk 2 rfl rfl) rfl flL_nil) ?_
  refine S.sil 8 rfl rfl (fun _ hF => .loadC sz3 ag3 (lk 0 rfl rfl) rfl rfl) ?_
  refine S.sil 9 rfl rfl (fun _ hF => .fieldAddrC lay101 rfl rfl (lk 3 rfl rfl) rfl flL_nil) ?_
  refine S.sil 10 rfl rfl (fun _ hF => .loadC sz3 ag3 (lk 0 rfl rfl) rfl rfl) ?_
  refine S.sil 11 rfl rfl (fun _ hF => .buildArrL (w := E_A2_i64 (#v[a1.Replica, a2.Replica] : Vector Int 2)) arr163 zv163 (.cons (lk 2 rfl rfl) rfl rfl rfl (.cons (lk 0 rfl rfl) rfl rfl rfl .nil)) rfl rfl) ?_
  refine S.sil 12 rfl rfl (fun _ hF => .fieldAddrC lay101 rfl rfl (lk 7 rfl rfl) rfl (flL_c (show flen _ = 1 from rfl) flL_nil)) ?_
  refine S.sil 13 rfl rfl (fun _ hF => .loadC sz3 ag3 (lk 0 rfl rfl) rfl rfl) ?_
  refine S.sil 14 rfl rfl (fun _ hF => .fieldAddrC lay101 rfl rfl (lk 8 rfl rfl) rfl (flL_c (show flen _ = 1 from rfl) flL_nil)) ?_
  refine S.sil 15 rfl rfl (fun _ hF => .loadC sz3 ag3 (lk 0 rfl rfl) rfl rfl) ?_
  refine S.sil 16 rfl rfl (fun _ hF => .buildArrL (w := E_A2_i64 (#v[a1.Number, a2.Number] : Vector Int 2)) arr163 zv163 (.cons (lk 2 rfl rfl) rfl rfl rfl (.cons (lk 0 rfl rfl) rfl rfl rfl .nil)) rfl rfl) ?_
  refine S.sil 17 rfl rfl (fun _ hF => .buildArrL (w := E_A2_A2_i64 (#v[(#v[a1.Replica, a2.Replica] : Vector Int 2), (#v[a1.Number, a2.Number] : Vector Int 2)] : Vector (Vector Int 2) 2)) arr205 zv205 (.cons (lk 5 rfl rfl) rfl rfl (ty_A2_i64.fl (#v[a1.Replica, a2.Replica] : Vector Int 2)) (.cons (lk 0 rfl rfl) rfl rfl (ty_A2_i64.fl (#v[a1.Number, a2.Number] : Vector Int 2)) .nil)) rfl rfl) ?_
  refine S.sil 18 rfl rfl (fun _ hF => .move cI) ?_
  refine S.nil ?_
  refine thenQ_n ?_
  refine AWp.prune (.eq (lk 0 rfl rfl) rfl (.eq (lk 1 rfl rfl) rfl (.eq (lk 12 rfl rfl) rfl .nil))) ?_
  refine AWp.cutL (fun x5 => ⟨[(4, (V.int .i64) 0)], []⟩) nc_then h (fun q3 hq3 h => ?_) (fun x5 h => ?_)
  · refine AWp.block ?_
    refine AWp.loopT (fun s4 => ⟨[(18, (V.int .i64) s4), (17, E_A2_A2_i64 (#v[(#v[a1.Replica, a2.Replica] : Vector Int 2), (#v[a1.Number, a2.Number] : Vector Int 2)] : Vector (Vector Int 2) 2)), (4, (V.int .i64) 0)], []⟩) hq3 (Wk.selS [] (by decide) rfl (SelE.leaf (lk 0 rfl rfl) rfl (.refl _) (fun m => ((TyOk.int .i64).lt _ _)) (SelE.leaf (lk 1 rfl rfl) rfl (.refl _) (fun m => (ty_A2_A2_i64.lt _ _)) (SelE.leaf (lk 2 rfl rfl) rfl (.refl _) (fun m => ((TyOk.int .i64).lt _ _)) .nil))) .nil) (fun _ s4 h3 => ?_)
    rw [hold_compare_L1] at h3
    refine AWp.seq ?_
    refine W.reg [0] rfl ?_
    refine S.sil 19 rfl rfl (fun _ hF => .lss (lk 0 rfl rfl) cI) ?_
    refine S.nil ?_
    refine thenQ_n ?_
    refine AWp.seq ?_
    refine AWp.condM (lk 0 rfl rfl) h3 (fun c1 h3 => ?_) (fun c1 h3 => ?_)
    · skip
      refine AWp.skip ?_
      refine thenQ_n ?_
      refine AWp.seq ?_
      refine AWp.block ?_
      refine AWp.seq ?_
      refine W.reg [0, 1, 2] rfl ?_
      obtain ⟨k6, m6, h3⟩ := h3.bnd
      refine S.sil 20 rfl rfl (fun _ hF => .ixV arr205 (lk 2 rfl rfl) (lk 1 rfl rfl) m6 rfl) ?_
      refine S.eff 6 rfl rfl (.nf (v2 := .ptr 0 [] 0) (H2 := [.cells (E_A2_i64 (default : Vector Int 2))]) (.alloc zv163) rfl rfl) trivial ?_
      obtain ⟨v7, ev7, h3⟩ := h3.nam
      refine S.effN rfl rfl (.nf (H2 := [.cells (E_A2_i64 v7)]) (.storeP sz163 (lk 0 rfl rfl) (lk 1 rfl rfl) rfl (.refl _) rfl .nil (by first | rfl | omega) .nil (ty_A2_i64.fl ((#v[(#v[a1.Replica, a2.Replica] : Vector Int 2), (#v[a1.Number, a2.Number] : Vector Int 2)] : Vector (Vector Int 2) 2).get k6)) (ty_A2_i64.fl (default : Vector Int 2)) (congrArg (fun z => ([AObj.cells (E_A2_i64 z)] : List AObj)) ev7.symm)) rfl rfl) trivial ?_
      refine S.nil ?_
      refine thenQ_n ?_
      refine AWp.wk (Wk.freeze 0 rfl rfl (.cons (lk 0 rfl rfl) rfl (.ptr .nil (by first | rfl | omega)) (.same (lk 1 rfl rfl) (.same (lk 2 rfl rfl) (.same (lk 3 rfl rfl) (.same (lk 4 rfl rfl) (.same (lk 5 rfl rfl) .nil)))))) (.refl _)) ?_
      refine AWp.seq ?_
      refine W.reg [0, 1, 2, 3, 4] rfl ?_
      obtain ⟨k8, m8, h3⟩ := h3.bnd
      refine S.sil 21 rfl rfl (fun _ hF => .ixC arr163 (lk 0 rfl rfl) cI m8) ?_
      refine S.sil 22 rfl rfl (fun _ hF => .loadC sz3 ag3 (lk 0 rfl rfl) rfl rfl) ?_
      obtain ⟨k9, m9, h3⟩ := h3.bnd
      refine S.sil 23 rfl rfl (fun _ hF => .ixC arr163 (lk 2 rfl rfl) cI m9) ?_
      refine S.sil 24 rfl rfl (fun _ hF => .loadC sz3 ag3 (lk 0 rfl rfl) rfl rfl) ?_
      refine S.sil 25 rfl rfl (fun _ hF => .neq (lk 2 rfl rfl) (lk 0 rfl rfl)) ?_
      refine S.nil ?_
      refine thenQ_n ?_
      refine AWp.condM (lk 0 rfl rfl) h3 (fun c2 h3 => ?_) (fun c2 h3 => ?_)
      · skip
        refine AWp.seq ?_
        refine AWp.seq ?_
        refine W.reg [0, 1, 2, 3, 4] rfl ?_
        obtain ⟨k10, m10, h3⟩ := h3.bnd
        refine S.sil 26 rfl rfl (fun _ hF => .ixC arr163 (lk 5 rfl rfl) cI m10) ?_
        refine S.sil 27 rfl rfl (fun _ hF => .loadC sz3 ag3 (lk 0 rfl rfl) rfl rfl) ?_
        obtain ⟨k11, m11, h3⟩ := h3.bnd
        refine S.sil 28 rfl rfl (fun _ hF => .ixC arr163 (lk 7 rfl rfl) cI m11) ?_
        refine S.sil 29 rfl rfl (fun _ hF => .loadC sz3 ag3 (lk 0 rfl rfl) rfl rfl) ?_
        refine S.sil 30 rfl rfl (fun _ hF => .lss (lk 2 rfl rfl) (lk 0 rfl rfl)) ?_
        refine S.nil ?_
        refine thenQ_n ?_
        refine AWp.condM (lk 0 rfl rfl) h3 (fun c3 h3 => ?_) (fun c3 h3 => ?_)
        · skip
          refine AWp.seq ?_
          refine W.reg [0] rfl ?_
          refine S.sil 4 rfl rfl (fun _ hF => .assign cI) ?_
          refine S.nil ?_
          refine thenQ_n ?_
          refine AWp.ret ?_
          refine thenQ_r ?_
          refine blockQ_r ?_
          refine thenQ_r ?_
          refine thenQ_r ?_
          refine blockQ_r ?_
          refine thenQ_r ?_
          refine thenQ_r ?_
          have h := Ok.inrq h h3.ret
          obtain rfl := h.ret
          exact endF1 rfl (Wk.selS [] .nil rfl (SelE.leaf (lk 0 rfl rfl) rfl (.refl _) (fun m => ((TyOk.int .i64).lt _ _)) .nil) .nil) (.tmp (lk 0 rfl rfl) rfl) rfl rfl
        · skip
          refine AWp.skip ?_
          refine thenQ_n ?_
          refine AWp.seq ?_
          refine W.reg [0] rfl ?_
          refine S.sil 4 rfl rfl (fun _ hF => .assign cI) ?_
          refine S.nil ?_
          refine thenQ_n ?_
          refine AWp.ret ?_
          refine blockQ_r ?_
          refine thenQ_r ?_
          refine thenQ_r ?_
          refine blockQ_r ?_
          refine thenQ_r ?_
          refine thenQ_r ?_
          have h := Ok.inrq h h3.ret
          obtain rfl := h.ret
          exact endF1 rfl (Wk.selS [] .nil rfl (SelE.leaf (lk 0 rfl rfl) rfl (.refl _) (fun m => ((TyOk.int .i64).lt _ _)) .nil) .nil) (.tmp (lk 0 rfl rfl) rfl) rfl rfl
      · skip
        refine AWp.skip ?_
        refine blockQ_n ?_
        refine thenQ_n ?_
        refine W.reg [0, 1] rfl ?_
        refine S.sil 31 rfl rfl (fun _ hF => .add (lk 8 rfl rfl) cI) ?_
        refine S.sil 18 rfl rfl (fun _ hF => .move (lk 0 rfl rfl)) ?_
        refine S.nil ?_
        refine thenQ_n ?_
        exact ⟨_, h3.ret, (Wk.selS [] (by decide) rfl (SelE.leaf (lk 0 rfl rfl) rfl (.refl _) (fun m => ((TyOk.int .i64).lt _ _)) (SelE.leaf (lk 11 rfl rfl) rfl (.refl _) (fun m => (ty_A2_A2_i64.lt _ _)) (SelE.leaf (lk 12 rfl rfl) rfl (.refl _) (fun m => ((TyOk.int .i64).lt _ _)) .nil))) .nil)⟩
    · skip
      refine AWp.exit ?_
      refine thenQ_x ?_
      refine thenQ_x ?_
      refine blockQ_x ?_
      refine thenQ_n ?_
      exact ⟨_, h3.ret, (Wk.selS [] (by decide) rfl (SelE.leaf (lk 3 rfl rfl) rfl (.refl _) (fun m => ((TyOk.int .i64).lt _ _)) .nil) .nil)⟩
  · skip
    refine thenQ_n ?_
    refine AWp.seq ?_
    refine W.reg [0] rfl ?_
    refine S.sil 4 rfl rfl (fun _ hF => .assign cI) ?_
    refine S.nil ?_
    refine thenQ_n ?_
    refine AWp.ret ?_
    obtain rfl := h.ret
    exact endF1 rfl (Wk.selS [] .nil rfl (SelE.leaf (lk 0 rfl rfl) rfl (.refl _) (fun m => ((TyOk.int .i64).lt _ _)) .nil) .nil) (.tmp (lk 0 rfl rfl) rfl) rfl rfl
theorem C_hold_Rights {a1 : List THold} {r : Bool} (h : hold_Rights a1 = some r) : PureC Pg 132 [.sl 5 .no (List.map E_THold a1)] (V.bool r) := by
  refine PureC.ofF (CallSpec.of_bodyF 33 0 fn132 rfl rfl rfl (Nat.le_of_ble_eq_true rfl) ?_) (ltL_c (lt_sl rfl (ty_THold.ltm _ _)) ltL_nil) (TyOk.bool.lt _ _)
  replace h := Ok.of h
  unfold hold_Rights at h
  refine AWp.seq ?_
  refine W.reg [0] rfl ?_
  refine S.sil 2 rfl rfl (fun _ hF => .assign cB) ?_
  refine S.nil ?_
  refine thenQ_n ?_
  refine AWp.seq ?_
  refine AWp.seq ?_
  refine W.reg [0, 1, 2] rfl ?_
  refine S.sil 5 rfl rfl (fun _ hF => .move (lk 1 rfl rfl)) ?_
  refine S.sil 6 rfl rfl (fun _ hF => .lenT sli40 (lk 0 rfl rfl) (vsub rfl (.refl _))) ?_
  refine S.sil 7 rfl rfl (fun _ hF => .move cI) ?_
  refine S.nil ?_
  refine thenQ_n ?_
  refine AWp.cutL (fun x4 => ⟨[(2, V.bool false), (0, .sl 5 .no (List.map E_THold a1))], []⟩) nc_then h (fun q2 hq2 h => ?_) (fun x4 h => ?_)
  · refine AWp.block ?_
    refine AWp.loopT (fun s3 => ⟨[(7, (V.int .i64) s3), (6, (V.int .i64) (a1.length : Int)), (5, .sl 5 .no (List.map E_THold a1)), (2, V.bool false), (0, .sl 5 .no (List.map E_THold a1))], []⟩) hq2 (Wk.selS [] (by decide) rfl (SelE.leaf (lk 0 rfl rfl) rfl (.refl _) (fun m => ((TyOk.int .i64).lt _ _)) (SelE.leaf (lk 1 rfl rfl) rfl (.refl _) (fun m => ((TyOk.int .i64).lt _ _)) (SelE.leaf (lk 2 rfl rfl) rfl (.refl _) (fun m => (lt_sl rfl (ty_THold.ltm _ _))) (SelE.leaf (lk 3 rfl rfl) rfl (.refl _) (fun m => (TyOk.bool.lt _ _)) (SelE.leaf (lk 4 rfl rfl) rfl (.refl _) (fun m => (lt_sl rfl (ty_THold.ltm _ _))) .nil))))) .nil) (fun _ s3 h2 => ?_)
    rw [hold_Rights_L1] at h2
    refine AWp.seq ?_
    refine W.reg [0] rfl ?_
    refine S.sil 8 rfl rfl (fun _ hF => .lss (lk 0 rfl rfl) (lk 1 rfl rfl)) ?_
    refine S.nil ?_
    refine thenQ_n ?_
    refine AWp.seq ?_
    refine AWp.condM (lk 0 rfl rfl) h2 (fun c1 h2 => ?_) (fun c1 h2 => ?_)
    · skip
      refine AWp.skip ?_
      refine thenQ_n ?_
      refine AWp.seq ?_
      refine AWp.block ?_
      refine AWp.seq ?_
      refine W.reg [0, 1, 2, 3, 4, 5] rfl ?_
      refine S.sil 9 rfl rfl (fun _ hF => .move (lk 1 rfl rfl)) ?_
      obtain ⟨j5, m5, h2⟩ := h2.bnd
      refine S.sil 10 rfl rfl (fun _ hF => .ixS sli40 (lk 4 rfl rfl) (lk 2 rfl rfl) m5) ?_
      obtain ⟨v6, ev6, h2⟩ := h2.nam
      refine S.sil 11 rfl rfl (fun _ hF => .nv (.loadC sz101 ag101 (lk 0 rfl rfl) (ty_THold.fl (a1.getD j5 default)) rfl) (congrArg E_THold ev6.symm)) ?_
      refine S.eff 4 rfl rfl (.nf (v2 := .ptr 0 [] 0) (H2 := [.cells (E_THold (default : THold))]) (.alloc zv101) rfl rfl) trivial ?_
      refine S.sil 3 rfl rfl (fun _ hF => .assign (lk 3 rfl rfl)) ?_
      refine S.effN rfl rfl (.nf (H2 := [.cells (E_THold v6)]) (.storeP sz101 (lk 1 rfl rfl) (lk 2 rfl rfl) rfl (.refl _) rfl .nil (by first | rfl | omega) .nil (ty_THold.fl v6) (ty_THold.fl (default : THold)) rfl) rfl rfl) trivial ?_
      refine S.nil ?_
      refine thenQ_n ?_
      refine AWp.wk (Wk.freeze 0 rfl rfl (.same (lk 0 rfl rfl) (.cons (lk 1 rfl rfl) rfl (.ptr .nil (by first | rfl | omega)) (.same (lk 2 rfl rfl) (.same (lk 3 rfl rfl) (.same (lk 4 rfl rfl) (.same (lk 5 rfl rfl) (.same (lk 6 rfl rfl) (.same (lk 7 rfl rfl) (.same (lk 8 rfl rfl) (.same (lk 9 rfl rfl) (.same (lk 10 rfl rfl) .nil))))))))))) (.refl _)) ?_
      refine AWp.seq ?_
      refine W.regD [0, 1, 2, 3, 4, 5, 6, 7, 8, 9, 10, 11, 12, 13, 14, 15, 16] mixed ?_
      refine S.sil 12 rfl rfl (fun _ hF => .loadC sz101 ag101 (lk 1 rfl rfl) (ty_THold.fl v6) rfl) ?_
      obtain ⟨r7, m7, h2⟩ := h2.bnd
      refine S.sil 13 rfl rfl (fun _ hF => .callQ ent174 cF (.c (lk 0 rfl rfl) (V.sub.refl _) .nil) (C_hold_Right m7)) ?_
      refine S.sil 14 rfl rfl (fun _ hF => .not (lk 0 rfl rfl)) ?_
      refine S.sil 15 rfl rfl (fun _ hF => .move (lk 0 rfl rfl)) ?_
      refine S.gsil 16 3 15 false rfl rfl rfl (lk 0 rfl rfl) (fun hB _ hF => .move (lk 4 rfl rfl)) ?_
      refine S.gsil 17 3 15 false rfl rfl rfl (lk 1 rfl rfl) (fun hB _ hF => .gtr (ifT hB (lk 0 rfl rfl)) cI) ?_
      refine S.gsil 18 3 15 false rfl rfl rfl (lk 2 rfl rfl) (fun hB _ hF => .move (ifT hB (lk 0 rfl rfl))) ?_
      refine S.gsil2 19 6 18 true rfl rfl rfl (lk 0 rfl rfl) (fun hB _ hF => .move (lk 17 rfl rfl)) ?_
      refine S.gsil2 20 6 18 true rfl rfl rfl (lk 1 rfl rfl) (fun hB _ hF => .move (lk 8 rfl rfl)) ?_
      refine S.gsil2 21 6 18 true rfl rfl rfl (lk 2 rfl rfl) (fun hB _ hF => .sub (ifT hB (lk 0 rfl rfl)) cI) ?_
      obtain ⟨j8, m8, h2⟩ := h2.bnd
      refine S.gsil2 22 6 18 true rfl rfl rfl (lk 3 rfl rfl) (fun hB _ hF => .ixS sli40 (ifT hB (lk 2 rfl rfl)) (ifT hB (lk 0 rfl rfl)) (gd_get m8 hB)) ?_
      refine S.gsil2 23 6 18 true rfl rfl rfl (lk 4 rfl rfl) (fun hB _ hF => .loadC sz101 ag101 (ifT hB (lk 0 rfl rfl)) (ty_THold.fl (a1.getD j8 default)) rfl) ?_
      refine S.gsil2 24 6 18 true rfl rfl rfl (lk 5 rfl rfl) (fun hB _ hF => .loadC sz101 ag101 (lk 13 rfl rfl) (ty_THold.fl v6) rfl) ?_
      obtain ⟨r9, m9, h2⟩ := h2.bnd
      refine S.gsil2 25 6 18 true rfl rfl rfl (lk 6 rfl rfl) (fun hB _ hF => .callQ ent134 cF (.c (ifT hB (lk 1 rfl rfl)) (V.sub.refl _) (.c (ifT hB (lk 0 rfl rfl)) (V.sub.refl _) .nil)) (C_hold_compare (gd_get m9 hB))) ?_
      refine S.gsil2 26 6 18 true rfl rfl rfl (lk 7 rfl rfl) (fun hB _ hF => .geq (ifT hB (lk 0 rfl rfl)) cI) ?_
      refine S.gsil 27 3 15 false rfl rfl rfl (lk 11 rfl rfl) (fun hB _ hF => .pickAnd (ifT hB (lk 8 rfl rfl)) (fun h => ifT ⟨hB, h⟩ (lk 0 rfl rfl)) cB) ?_
      refine S.sil 28 rfl rfl (fun _ hF => .pickOr (lk 12 rfl rfl) cB (fun h => ifT h (lk 0 rfl rfl))) ?_
      refine S.nilD (by kernel_rfl) ?_
      refine thenQ_n ?_
      refine AWp.prune (.eq (lk 0 rfl rfl) rfl (.eq (lk 13 rfl rfl) rfl (.eq (lk 14 rfl rfl) rfl (.eq (lk 15 rfl rfl) rfl (.eq (lk 16 rfl rfl) rfl (.eq (lk 17 rfl rfl) rfl (.eq (lk 18 rfl rfl) rfl (.eq (lk 19 rfl rfl) rfl (.eq (lk 20 rfl rfl) rfl (.eq (lk 21 rfl rfl) rfl (.eq (lk 22 rfl rfl) rfl (.eq (lk 23 rfl rfl) rfl (.eq (lk 24 rfl rfl) rfl (.eq (lk 25 rfl rfl) rfl (.eq (lk 26 rfl rfl) rfl (.eq (lk 27 rfl rfl) rfl .nil)))))))))))))))) ?_
      refine AWp.condM (lk 0 rfl rfl) h2 (fun c2 h2 => ?_) (fun c2 h2 => ?_)
      · skip
        refine AWp.seq ?_
        refine W.reg [0] rfl ?_
        refine S.sil 2 rfl rfl (fun _ hF => .assign cB) ?_
        refine S.nil ?_
        refine thenQ_n ?_
        refine AWp.ret ?_
        refine blockQ_r ?_
        refine thenQ_r ?_
        refine thenQ_r ?_
        refine blockQ_r ?_
        refine thenQ_r ?_
        refine thenQ_r ?_
        have h := Ok.inrq h h2.ret
        obtain rfl := h.ret
        exact endF1 rfl (Wk.selS [] .nil rfl (SelE.leaf (lk 0 rfl rfl) rfl (.refl _) (fun m => (TyOk.bool.lt _ _)) .nil) .nil) (.tmp (lk 0 rfl rfl) rfl) rfl rfl
      · skip
        refine AWp.skip ?_
        refine blockQ_n ?_
        refine thenQ_n ?_
        refine W.reg [0, 1] rfl ?_
        refine S.sil 29 rfl rfl (fun _ hF => .add (lk 11 rfl rfl) cI) ?_
        refine S.sil 7 rfl rfl (fun _ hF => .move (lk 0 rfl rfl)) ?_
        refine S.nil ?_
        refine thenQ_n ?_
        exact ⟨_, h2.ret, (Wk.selS [] (by decide) rfl (SelE.leaf (lk 0 rfl rfl) rfl (.refl _) (fun m => ((TyOk.int .i64).lt _ _)) (SelE.leaf (lk 14 rfl rfl) rfl (.refl _) (fun m => ((TyOk.int .i64).lt _ _)) (SelE.leaf (lk 15 rfl rfl) rfl (.refl _) (fun m => (lt_sl rfl (ty_THold.ltm _ _))) (SelE.leaf (lk 16 rfl rfl) rfl (.refl _) (fun m => (TyOk.bool.lt _ _)) (SelE.leaf (lk 17 rfl rfl) rfl (.refl _) (fun m => (lt_sl rfl (ty_THold.ltm _ _))) .nil))))) .nil)⟩
    · skip
      refine AWp.exit ?_
      refine thenQ_x ?_
      refine thenQ_x ?_
      refine blockQ_x ?_
      refine thenQ_n ?_
      exact ⟨_, h2.ret, (Wk.selS [] (by decide) rfl (SelE.leaf (lk 4 rfl rfl) rfl (.refl _) (fun m => (TyOk.bool.lt _ _)) (SelE.leaf (lk 5 rfl rfl) rfl (.refl _) (fun m => (lt_sl rfl (ty_THold.ltm _ _))) .nil)) .nil)⟩
  · skip
    refine thenQ_n ?_
    refine AWp.seq ?_
    refine W.reg [0, 1, 2, 3] rfl ?_
    refine S.sil 30 rfl rfl (fun _ hF => .move (lk 1 rfl rfl)) ?_
    refine S.sil 31 rfl rfl (fun _ hF => .lenT sli40 (lk 0 rfl rfl) (vsub rfl (.refl _))) ?_
    refine S.sil 32 rfl rfl (fun _ hF => .leq (lk 0 rfl rfl) cI) ?_
    obtain ⟨v10, ev10, h⟩ := h.nam
    refine S.sil 2 rfl rfl (fun _ hF => .nv (.assign (lk 0 rfl rfl)) (congrArg V.bool ev10.symm)) ?_
    refine S.nil ?_
    refine thenQ_n ?_
    refine AWp.ret ?_
    obtain rfl := h.ret
    exact endF1 rfl (Wk.selS [] .nil rfl (SelE.leaf (lk 0 rfl rfl) rfl (.refl _) (fun m => (TyOk.bool.lt _ _)) .nil) .nil) (.tmp (lk 0 rfl rfl) rfl) rfl rfl
theorem C_cloneO_54 {a1 : List THold} {r : List THold} (h : app 40 [] a1 = some r) : CallSpec Pg 54 [E_S_THold a1] [] fun o H' => o = .ret (.slo 5 0 [] 0 0 r.length 1) ∧ H' = [.buf 5 (List.map E_THold r)] := by
  refine CallSpec.of_bodyF 8 0 fn54 rfl rfl rfl (Nat.le_of_ble_eq_true rfl) ?_
  have hr := (app_get h).2
  refine AWp.seq ?_
  refine W.reg [0] rfl ?_
  refine S.sil 2 rfl rfl (fun _ hF => .assign cNs) ?_
  refine S.nil ?_
  refine thenQ_n ?_
  refine AWp.splitNil (t := 0) (lk 1 rfl rfl) (fun hn => ?_) ?_
  · obtain rfl : a1 = [] := List.map_eq_nil_iff.1 hn
    obtain rfl : r = [] := by simpa using hr
    refine AWp.seq ?_
    refine AWp.seq ?_
    refine W.reg [0, 1] rfl ?_
    refine S.sil 3 rfl rfl (fun _ hF => .move (lk 0 rfl rfl)) ?_
    refine S.sil 4 rfl rfl (fun _ hF => .eqlNil sli40 (lk 0 rfl rfl) cNs) ?_
    refine S.nil ?_
    refine thenQ_n ?_
    refine AWp.condT (lk 0 rfl rfl) ?_
    refine AWp.seq ?_
    refine W.reg [0] rfl ?_
    refine S.sil 2 rfl rfl (fun _ hF => .assign cNs) ?_
    refine S.nil ?_
    refine thenQ_n ?_
    refine AWp.ret ?_
    refine thenQ_r ?_
    refine endF_wk (Wk.nilbuf 5 (lk 0 rfl rfl)) ?_
    exact endF1 rfl (Wk.selS [0] (by decide) rfl (SelE.spec (lk 0 rfl rfl) rfl (.refl _) rfl rfl .nil) (.cons rfl rfl (ASub.refl _) .nil)) (.tmp (lk 0 rfl rfl) rfl) rfl rfl
  · refine AWp.seq ?_
    refine AWp.seq ?_
    refine W.reg [0, 1] rfl ?_
    refine S.sil 3 rfl rfl (fun _ hF => .move (lk 0 rfl rfl)) ?_
    refine S.sil 4 rfl rfl (fun _ hF => .eqlNn sli40 (lk 0 rfl rfl) cNs) ?_
    refine S.nil ?_
    refine thenQ_n ?_
    refine AWp.condF (lk 0 rfl rfl) ?_
    refine AWp.skip ?_
    refine thenQ_n ?_
    refine AWp.seq ?_
    refine W.reg [0, 1, 2, 3] rfl ?_
    refine S.sil 5 rfl rfl (fun _ hF => .buildSliceW sli40 zv101 rfl rfl (by decide) .nil) ?_
    refine S.sil 6 rfl rfl (fun _ hF => .move (lk 3 rfl rfl)) ?_
    refine S.new 7 rfl rfl (.appNewT sli40 und40 zv101 rfl (by decide) (lk 1 rfl rfl) (V.sub.refl _) (lk 0 rfl rfl) Rd.sl h rfl) trivial ?_
    refine S.sil 2 rfl rfl (fun _ hF => .assign (lk 0 rfl rfl)) ?_
    refine S.nil ?_
    refine thenQ_n ?_
    refine AWp.ret ?_
    exact endF1 rfl (Wk.selS [0] (by decide) rfl (SelE.spec (lk 0 rfl rfl) rfl (.refl _) rfl rfl .nil) (.cons (lt_buf ty_THold) rfl ⟨rfl, RSubL.leafr ty_THold _ rfl⟩ .nil)) (.tmp (lk 0 rfl rfl) rfl) rfl rfl
end Go.Av
namespace Go.Proofs
open Go.Shelf in
def Tryz.sort133_ren : Go.Shelf.Ren := ⟨fun | 6 => 133 | 15 => 130 | 14 => 191 | 28 => 187 | 29 => 188 | 20 => 222 | 21 => 223 | 22 => 224 | 23 => 225 | 24 => 226 | 25 => 227 | 26 => 228 | 27 => 229 | 46 => 236 | 47 => 218 | 48 => 219 | 49 => 237 | 50 => 238 | 57 => 240 | n => n, fun | 22 => 40 | 24 => 101 | 25 => 165 | 3 => 3 | 39 => 160 | 0 => 0 | 53 => 198 | 55 => 200 | 4 => 4 | 46 => 192 | 45 => 191 | 50 => 95 | 5 => 5 | 9 => 9 | 66 => 216 | 70 => 220 | 76 => 229 | 77 => 86 | n => n, fun | n => n⟩
open Go.Shelf in
theorem Tryz.sort133 : Go.Proofs.SlLaysF0.n6 Tryz.prog Tryz.sort133_ren := {
  mixed := by kernel_rfl
  f6 := ⟨Tryz.f133.name, by decide, Tryz.func133.trans (congrArg some (by kernel_rfl))⟩
  f14 := ⟨Tryz.f191.name, by decide, Tryz.func191.trans (congrArg some (by kernel_rfl))⟩
  f15 := Tryz.func130.trans (congrArg some (by kernel_rfl))
  f20 := ⟨Tryz.f222.name, by decide, Tryz.func222.trans (congrArg some (by kernel_rfl))⟩
  f21 := ⟨Tryz.f223.name, by decide, Tryz.func223.trans (congrArg some (by kernel_rfl))⟩
  f22 := ⟨Tryz.f224.name, by decide, Tryz.func224.trans (congrArg some (by kernel_rfl))⟩
  f23 := ⟨Tryz.f225.name, by decide, Tryz.func225.trans (congrArg some (by kernel_rfl))⟩
  f24 := ⟨Tryz.f226.name, by decide, Tryz.func226.trans (congrArg some (by kernel_rfl))⟩
  f25 := ⟨Tryz.f227.name, by decide, Tryz.func227.trans (congrArg some (by kernel_rfl))⟩
  f26 := ⟨Tryz.f228.name, by decide, Tryz.func228.trans (congrArg some (by kernel_rfl))⟩
  f27 := ⟨Tryz.f229.name, by decide, Tryz.func229.trans (congrArg some (by kernel_rfl))⟩
  f28 := Tryz.func187.trans (congrArg some (by kernel_rfl))
  f29 := Tryz.func188.trans (congrArg some (by kernel_rfl))
  f46 := ⟨Tryz.f236.name, by decide, Tryz.func236.trans (congrArg some (by kernel_rfl))⟩
  f47 := Tryz.func218.trans (congrArg some (by kernel_rfl))
  f48 := Tryz.func219.trans (congrArg some (by kernel_rfl))
  f49 := ⟨Tryz.f237.name, by decide, Tryz.func237.trans (congrArg some (by kernel_rfl))⟩
  f50 := ⟨Tryz.f238.name, by decide, Tryz.func238.trans (congrArg some (by kernel_rfl))⟩
  f57 := ⟨Tryz.f240.name, by decide, Tryz.func240.trans (congrArg some (by kernel_rfl))⟩
  t0 := Tryz.underlying0
  a0 := Tryz.isAgg0
  z0 := Tryz.sizeOf0
  v0 := Tryz.zeroValue0
  t3 := Tryz.underlying3
  a3 := Tryz.isAgg3
  z3 := Tryz.sizeOf3
  v3 := Tryz.zeroValue3
  t4 := Tryz.underlying4
  a4 := Tryz.isAgg4
  z4 := Tryz.sizeOf4
  v4 := Tryz.zeroValue4
  t5 := Tryz.underlying5
  a5 := Tryz.isAgg5
  z5 := Tryz.sizeOf5
  v5 := Tryz.zeroValue5
  t9 := Tryz.underlying9
  a9 := Tryz.isAgg9
  z9 := Tryz.sizeOf9
  v9 := Tryz.zeroValue9
  t22 := Tryz.underlying40
  a22 := Tryz.isAgg40
  z22 := Tryz.sizeOf40
  v22 := Tryz.zeroValue40
  t25 := Tryz.underlying165
  a25 := Tryz.isAgg165
  z25 := Tryz.sizeOf165
  v25 := Tryz.zeroValue165
  t39 := Tryz.underlying160
  a39 := Tryz.isAgg160
  z39 := Tryz.sizeOf160
  v39 := Tryz.zeroValue160
  t45 := Tryz.underlying191
  a45 := Tryz.isAgg191
  z45 := Tryz.sizeOf191
  v45 := Tryz.zeroValue191
  t46 := Tryz.underlying192
  a46 := Tryz.isAgg192
  z46 := Tryz.sizeOf192
  v46 := Tryz.zeroValue192
  t50 := Tryz.underlying95
  a50 := Tryz.isAgg95
  z50 := Tryz.sizeOf95
  v50 := Tryz.zeroValue95
  t53 := Tryz.underlying198
  a53 := Tryz.isAgg198
  z53 := Tryz.sizeOf198
  v53 := Tryz.zeroValue198
  t55 := Tryz.underlying200
  a55 := Tryz.isAgg200
  z55 := Tryz.sizeOf200
  v55 := Tryz.zeroValue200
  t66 := Tryz.underlying216
  a66 := Tryz.isAgg216
  z66 := Tryz.sizeOf216
  v66 := Tryz.zeroValue216
  t70 := Tryz.underlying220
  a70 := Tryz.isAgg220
  z70 := Tryz.sizeOf220
  v70 := Tryz.zeroValue220
  t76 := Tryz.underlying229
  a76 := Tryz.isAgg229
  z76 := Tryz.sizeOf229
  v76 := Tryz.zeroValue229
  t77 := Tryz.underlying86
  a77 := Tryz.isAgg86
  z77 := Tryz.sizeOf86
  v77 := Tryz.zeroValue86 }
end Go.Proofs
namespace Go.Av
open Go.Proofs
theorem srt133 : Go.Proofs.SlLaysF0.n6 Pg Go.Proofs.Tryz.sort133_ren := by rw [Pg_eq]; exact Go.Proofs.Tryz.sort133
theorem C_hold_Reserve {a1 : List THold} {a2 : Int} {a3 : Int} {a4 : Int} {r : (List THold) × Int × Int} (h : hold_Reserve a1 a2 a3 a4 = some r) : PureC Pg 120 [.sl 5 .no (List.map E_THold a1), (V.int .i64) a2, (V.int .i64) a3, (V.int .i64) a4] (.tup [E_S_THold r.1, (V.int .i64) r.2.1, (V.int .i64) r.2.2]) := by
  refine PureC.ofF (CallSpec.of_bodyF 59 0 fn120 rfl rfl rfl (Nat.le_of_ble_eq_true rfl) ?_) (ltL_c (lt_sl rfl (ty_THold.ltm _ _)) (ltL_c ((TyOk.int .i64).lt _ _) (ltL_c ((TyOk.int .i64).lt _ _) (ltL_c ((TyOk.int .i64).lt _ _) ltL_nil)))) (lt_tup (ltL_c (ty_S_THold.lt _ _) (ltL_c ((TyOk.int .i64).lt _ _) (ltL_c ((TyOk.int .i64).lt _ _) ltL_nil))))
  replace h := Ok.of h
  unfold hold_Reserve at h
  refine AWp.seq ?_
  refine W.reg [0, 1, 2] rfl ?_
  refine S.sil 8 rfl rfl (fun _ hF => .assign cNs) ?_
  refine S.sil 9 rfl rfl (fun _ hF => .assign cI) ?_
  refine S.sil 10 rfl rfl (fun _ hF => .assign cI) ?_
  refine S.nil ?_
  refine thenQ_n ?_
  refine AWp.seq ?_
  refine W.reg [0] rfl ?_
  refine S.sil 11 rfl rfl (fun _ hF => .assign cI) ?_
  refine S.nil ?_
  refine thenQ_n ?_
  refine AWp.seq ?_
  refine AWp.seq ?_
  refine W.reg [0, 1, 2] rfl ?_
  refine S.sil 16 rfl rfl (fun _ hF => .move (lk 4 rfl rfl)) ?_
  refine S.sil 17 rfl rfl (fun _ hF => .lenT sli40 (lk 0 rfl rfl) (vsub rfl (.refl _))) ?_
  refine S.sil 18 rfl rfl (fun _ hF => .move cI) ?_
  refine S.nil ?_
  refine thenQ_n ?_
  refine AWp.cutX (fun x7 => ⟨[(11, (V.int .i64) x7), (10, (V.int .i64) 0), (9, (V.int .i64) 0), (8, .nils), (0, .sl 5 .no (List.map E_THold a1)), (1, (V.int .i64) a2), (2, (V.int .i64) a3), (3, (V.int .i64) a4)], []⟩) nc_then h (fun q5 hq5 => ?_) (fun x7 h => ?_)
  · refine AWp.block ?_
    refine AWp.loopT (fun s6 => ⟨[(18, (V.int .i64) s6.1), (17, (V.int .i64) (a1.length : Int)), (16, .sl 5 .no (List.map E_THold a1)), (11, (V.int .i64) s6.2), (10, (V.int .i64) 0), (9, (V.int .i64) 0), (8, .nils), (0, .sl 5 .no (List.map E_THold a1)), (1, (V.int .i64) a2), (2, (V.int .i64) a3), (3, (V.int .i64) a4)], []⟩) hq5 (Wk.selS [] (by decide) rfl (SelE.leaf (lk 0 rfl rfl) rfl (.refl _) (fun m => ((TyOk.int .i64).lt _ _)) (SelE.leaf (lk 1 rfl rfl) rfl (.refl _) (fun m => ((TyOk.int .i64).lt _ _)) (SelE.leaf (lk 2 rfl rfl) rfl (.refl _) (fun m => (lt_sl rfl (ty_THold.ltm _ _))) (SelE.leaf (lk 3 rfl rfl) rfl (.refl _) (fun m => ((TyOk.int .i64).lt _ _)) (SelE.leaf (lk 4 rfl rfl) rfl (.refl _) (fun m => ((TyOk.int .i64).lt _ _)) (SelE.leaf (lk 5 rfl rfl) rfl (.refl _) (fun m => ((TyOk.int .i64).lt _ _)) (SelE.leaf (lk 6 rfl rfl) rfl (.refl _) (fun m => rfl) (SelE.leaf (lk 7 rfl rfl) rfl (.refl _) (fun m => (lt_sl rfl (ty_THold.ltm _ _))) (SelE.leaf (lk 8 rfl rfl) rfl (.refl _) (fun m => ((TyOk.int .i64).lt _ _)) (SelE.leaf (lk 9 rfl rfl) rfl (.refl _) (fun m => ((TyOk.int .i64).lt _ _)) (SelE.leaf (lk 10 rfl rfl) rfl (.refl _) (fun m => ((TyOk.int .i64).lt _ _)) .nil))))))))))) .nil) (fun _ s6 h5 => ?_)
    rw [hold_Reserve_L1] at h5
    refine AWp.seq ?_
    refine W.reg [0] rfl ?_
    refine S.sil 19 rfl rfl (fun _ hF => .lss (lk 0 rfl rfl) (lk 1 rfl rfl)) ?_
    refine S.nil ?_
    refine thenQ_n ?_
    refine AWp.seq ?_
    refine AWp.condM (lk 0 rfl rfl) h5 (fun c1 h5 => ?_) (fun c1 h5 => ?_)
    · skip
      refine AWp.skip ?_
      refine thenQ_n ?_
      refine AWp.seq ?_
      refine AWp.block ?_
      refine AWp.seq ?_
      refine W.reg [0, 1, 2, 3] rfl ?_
      obtain ⟨j8, m8, h5⟩ := h5.bnd
      refine S.sil 20 rfl rfl (fun _ hF => .ixS sli40 (lk 3 rfl rfl) (lk 1 rfl rfl) m8) ?_
      obtain ⟨v9, ev9, h5⟩ := h5.nam
      refine S.sil 21 rfl rfl (fun _ hF => .nv (.loadC sz101 ag101 (lk 0 rfl rfl) (ty_THold.fl (a1.getD j8 default)) rfl) (congrArg E_THold ev9.symm)) ?_
      refine S.eff 13 rfl rfl (.nf (v2 := .ptr 0 [] 0) (H2 := [.cells (E_THold (default : THold))]) (.alloc zv101) rfl rfl) trivial ?_
      refine S.effN rfl rfl (.nf (H2 := [.cells (E_THold v9)]) (.storeP sz101 (lk 0 rfl rfl) (lk 1 rfl rfl) rfl (.refl _) rfl .nil (by first | rfl | omega) .nil (ty_THold.fl v9) (ty_THold.fl (default : THold)) rfl) rfl rfl) trivial ?_
      refine S.nil ?_
      refine thenQ_n ?_
      refine AWp.wk (Wk.freeze 0 rfl rfl (.cons (lk 0 rfl rfl) rfl (.ptr .nil (by first | rfl | omega)) (.same (lk 1 rfl rfl) (.same (lk 2 rfl rfl) (.same (lk 3 rfl rfl) (.same (lk 4 rfl rfl) (.same (lk 5 rfl rfl) (.same (lk 6 rfl rfl) (.same (lk 7 rfl rfl) (.same (lk 8 rfl rfl) (.same (lk 9 rfl rfl) (.same (lk 10 rfl rfl) (.same (lk 11 rfl rfl) (.same (lk 12 rfl rfl) (.same (lk 13 rfl rfl) (.same (lk 14 rfl rfl) .nil))))))))))))))) (.refl _)) ?_
      refine AWp.seq ?_
      refine W.reg [0, 1, 2, 3] rfl ?_
      refine S.sil 22 rfl rfl (fun _ hF => .fieldAddrC lay101 rfl rfl (lk 0 rfl rfl) rfl flL_nil) ?_
      refine S.sil 23 rfl rfl (fun _ hF => .loadC sz3 ag3 (lk 0 rfl rfl) rfl rfl) ?_
      refine S.sil 24 rfl rfl (fun _ hF => .move (lk 14 rfl rfl)) ?_
      refine S.sil 25 rfl rfl (fun _ hF => .eql (lk 1 rfl rfl) (lk 0 rfl rfl)) ?_
      refine S.nil ?_
      refine thenQ_n ?_
      refine AWp.condM (lk 0 rfl rfl) h5 (fun c2 h5 => ?_) (fun c2 h5 => ?_)
      · skip
        refine W.reg [0, 1, 2, 3, 4, 5] rfl ?_
        refine S.sil 26 rfl rfl (fun _ hF => .move (lk 11 rfl rfl)) ?_
        refine S.sil 27 rfl rfl (fun _ hF => .fieldAddrC lay101 rfl rfl (lk 5 rfl rfl) rfl (flL_c (show flen _ = 1 from rfl) flL_nil)) ?_
        refine S.sil 28 rfl rfl (fun _ hF => .loadC sz3 ag3 (lk 0 rfl rfl) rfl rfl) ?_
        refine S.sil 29 rfl rfl (fun _ hF => .add (lk 0 rfl rfl) cI) ?_
        refine S.sil 30 rfl rfl (fun _ hF => .bmax (lk 3 rfl rfl) (lk 0 rfl rfl)) ?_
        obtain ⟨v10, ev10, h5⟩ := h5.nam
        refine S.sil 11 rfl rfl (fun _ hF => .nv (.assign (lk 0 rfl rfl)) (congrArg (V.int .i64) ev10.symm)) ?_
        refine S.nil ?_
        refine blockQ_n ?_
        refine thenQ_n ?_
        refine W.reg [0, 1] rfl ?_
        refine S.sil 31 rfl rfl (fun _ hF => .add (lk 14 rfl rfl) cI) ?_
        refine S.sil 18 rfl rfl (fun _ hF => .move (lk 0 rfl rfl)) ?_
        refine S.nil ?_
        refine thenQ_n ?_
        exact ⟨_, h5.ret, (Wk.selS [] (by decide) rfl (SelE.leaf (lk 0 rfl rfl) rfl (.refl _) (fun m => ((TyOk.int .i64).lt _ _)) (SelE.leaf (lk 17 rfl rfl) rfl (.refl _) (fun m => ((TyOk.int .i64).lt _ _)) (SelE.leaf (lk 18 rfl rfl) rfl (.refl _) (fun m => (lt_sl rfl (ty_THold.ltm _ _))) (SelE.leaf (lk 2 rfl rfl) rfl (.refl _) (fun m => ((TyOk.int .i64).lt _ _)) (SelE.leaf (lk 20 rfl rfl) rfl (.refl _) (fun m => ((TyOk.int .i64).lt _ _)) (SelE.leaf (lk 21 rfl rfl) rfl (.refl _) (fun m => ((TyOk.int .i64).lt _ _)) (SelE.leaf (lk 22 rfl rfl) rfl (.refl _) (fun m => rfl) (SelE.leaf (lk 23 rfl rfl) rfl (.refl _) (fun m => (lt_sl rfl (ty_THold.ltm _ _))) (SelE.leaf (lk 24 rfl rfl) rfl (.refl _) (fun m => ((TyOk.int .i64).lt _ _)) (SelE.leaf (lk 25 rfl rfl) rfl (.refl _) (fun m => ((TyOk.int .i64).lt _ _)) (SelE.leaf (lk 26 rfl rfl) rfl (.refl _) (fun m => ((TyOk.int .i64).lt _ _)) .nil))))))))))) .nil)⟩
      · skip
        refine AWp.skip ?_
        refine blockQ_n ?_
        refine thenQ_n ?_
        refine W.reg [0, 1] rfl ?_
        refine S.sil 31 rfl rfl (fun _ hF => .add (lk 8 rfl rfl) cI) ?_
        refine S.sil 18 rfl rfl (fun _ hF => .move (lk 0 rfl rfl)) ?_
        refine S.nil ?_
        refine thenQ_n ?_
        exact ⟨_, h5.ret, (Wk.selS [] (by decide) rfl (SelE.leaf (lk 0 rfl rfl) rfl (.refl _) (fun m => ((TyOk.int .i64).lt _ _)) (SelE.leaf (lk 11 rfl rfl) rfl (.refl _) (fun m => ((TyOk.int .i64).lt _ _)) (SelE.leaf (lk 12 rfl rfl) rfl (.refl _) (fun m => (lt_sl rfl (ty_THold.ltm _ _))) (SelE.leaf (lk 13 rfl rfl) rfl (.refl _) (fun m => ((TyOk.int .i64).lt _ _)) (SelE.leaf (lk 14 rfl rfl) rfl (.refl _) (fun m => ((TyOk.int .i64).lt _ _)) (SelE.leaf (lk 15 rfl rfl) rfl (.refl _) (fun m => ((TyOk.int .i64).lt _ _)) (SelE.leaf (lk 16 rfl rfl) rfl (.refl _) (fun m => rfl) (SelE.leaf (lk 17 rfl rfl) rfl (.refl _) (fun m => (lt_sl rfl (ty_THold.ltm _ _))) (SelE.leaf (lk 18 rfl rfl) rfl (.refl _) (fun m => ((TyOk.int .i64).lt _ _)) (SelE.leaf (lk 19 rfl rfl) rfl (.refl _) (fun m => ((TyOk.int .i64).lt _ _)) (SelE.leaf (lk 20 rfl rfl) rfl (.refl _) (fun m => ((TyOk.int .i64).lt _ _)) .nil))))))))))) .nil)⟩
    · skip
      refine AWp.exit ?_
      refine thenQ_x ?_
      refine thenQ_x ?_
      refine blockQ_x ?_
      refine thenQ_n ?_
      exact ⟨_, h5.ret, (Wk.selS [] (by decide) rfl (SelE.leaf (lk 4 rfl rfl) rfl (.refl _) (fun m => ((TyOk.int .i64).lt _ _)) (SelE.leaf (lk 5 rfl rfl) rfl (.refl _) (fun m => ((TyOk.int .i64).lt _ _)) (SelE.leaf (lk 6 rfl rfl) rfl (.refl _) (fun m => ((TyOk.int .i64).lt _ _)) (SelE.leaf (lk 7 rfl rfl) rfl (.refl _) (fun m => rfl) (SelE.leaf (lk 8 rfl rfl) rfl (.refl _) (fun m => (lt_sl rfl (ty_THold.ltm _ _))) (SelE.leaf (lk 9 rfl rfl) rfl (.refl _) (fun m => ((TyOk.int .i64).lt _ _)) (SelE.leaf (lk 10 rfl rfl) rfl (.refl _) (fun m => ((TyOk.int .i64).lt _ _)) (SelE.leaf (lk 11 rfl rfl) rfl (.refl _) (fun m => ((TyOk.int .i64).lt _ _)) .nil)))))))) .nil)⟩
  · skip
    refine thenQ_n ?_
    refine AWp.seq ?_
    refine W.reg [0, 1, 2, 3, 4, 5, 6] rfl ?_
    refine S.sil 32 rfl rfl (fun _ hF => .move (lk 5 rfl rfl)) ?_
    refine S.sil 33 rfl rfl (fun _ hF => .move (lk 1 rfl rfl)) ?_
    refine S.sil 34 rfl rfl (fun _ hF => .move (lk 8 rfl rfl)) ?_
    refine S.sil 35 rfl rfl (fun _ hF => .move (lk 10 rfl rfl)) ?_
    obtain ⟨v11, ev11, h⟩ := h.nam
    refine S.sil 36 rfl rfl (fun _ hF => .nv (.nv (v2 := E_THold (⟨a2, x7, a3, a4, 1⟩ : THold)) (.buildStW lay101 zv101 rfl (.cons (lk 3 rfl rfl) rfl rfl rfl rfl (.cons (lk 2 rfl rfl) rfl rfl rfl rfl (.cons (lk 1 rfl rfl) rfl rfl rfl rfl (.cons (lk 0 rfl rfl) rfl rfl rfl rfl (.cons cI rfl rfl rfl rfl .nil)))))) rfl) (congrArg E_THold ev11.symm)) ?_
    refine S.eff 14 rfl rfl (.nf (v2 := .ptr 0 [] 0) (H2 := [.cells (E_THold (default : THold))]) (.alloc zv101) rfl rfl) trivial ?_
    refine S.effN rfl rfl (.nf (H2 := [.cells (E_THold v11)]) (.storeP sz101 (lk 0 rfl rfl) (lk 1 rfl rfl) rfl (.refl _) rfl .nil (by first | rfl | omega) .nil (ty_THold.fl v11) (ty_THold.fl (default : THold)) rfl) rfl rfl) trivial ?_
    refine S.nil ?_
    refine thenQ_n ?_
    refine AWp.wk (Wk.freeze 0 rfl rfl (.cons (lk 0 rfl rfl) rfl (.ptr .nil (by first | rfl | omega)) (.same (lk 6 rfl rfl) (.same (lk 7 rfl rfl) (.same (lk 8 rfl rfl) (.same (lk 9 rfl rfl) (.same (lk 10 rfl rfl) .nil)))))) (.refl _)) ?_
    refine AWp.seq ?_
    refine AWp.block ?_
    refine AWp.seq ?_
    refine W.reg [0, 1, 2, 3, 4, 5, 6, 7, 8] rfl ?_
    refine S.sil 38 rfl rfl (fun _ hF => .move (lk 5 rfl rfl)) ?_
    obtain ⟨r12, m12, h⟩ := h.bnd
    refine S.sil 39 rfl rfl (fun _ hF => .callQ ent132 cF (.c (lk 0 rfl rfl) (V.sub.refl _) .nil) (C_hold_Rights m12)) ?_
    refine S.sil 40 rfl rfl (fun _ hF => .not (lk 0 rfl rfl)) ?_
    refine S.sil 41 rfl rfl (fun _ hF => .move (lk 0 rfl rfl)) ?_
    refine S.gsil 42 3 41 false rfl rfl rfl (lk 0 rfl rfl) (fun hB _ hF => .loadC sz101 ag101 (lk 4 rfl rfl) (ty_THold.fl v11) rfl) ?_
    obtain ⟨r13, m13, h⟩ := h.bnd
    refine S.gsil 43 3 41 false rfl rfl rfl (lk 1 rfl rfl) (fun hB _ hF => .callQ ent174 cF (.c (ifT hB (lk 0 rfl rfl)) (V.sub.refl _) .nil) (C_hold_Right (gd_get m13 hB))) ?_
    refine S.gsil 44 3 41 false rfl rfl rfl (lk 2 rfl rfl) (fun hB _ hF => .not (ifT hB (lk 0 rfl rfl))) ?_
    refine S.sil 45 rfl rfl (fun _ hF => .pickOr (lk 3 rfl rfl) cB (fun h => ifT h (lk 0 rfl rfl))) ?_
    refine S.sil 37 rfl rfl (fun _ hF => .assign (lk 0 rfl rfl)) ?_
    refine S.nil ?_
    refine thenQ_n ?_
    refine AWp.condM (lk 0 rfl rfl) h (fun c3 h => ?_) (fun c3 h => ?_)
    · skip
      refine AWp.seq ?_
      refine W.reg [0, 1, 2] rfl ?_
      refine S.sil 8 rfl rfl (fun _ hF => .assign cNs) ?_
      refine S.sil 9 rfl rfl (fun _ hF => .assign cI) ?_
      refine S.sil 10 rfl rfl (fun _ hF => .assign cI) ?_
      refine S.nil ?_
      refine thenQ_n ?_
      refine AWp.prune (.eq (lk 0 rfl rfl) rfl (.eq (lk 1 rfl rfl) rfl (.eq (lk 2 rfl rfl) rfl (.eq (lk 12 rfl rfl) rfl (.eq (lk 13 rfl rfl) rfl (.eq (lk 17 rfl rfl) rfl .nil)))))) ?_
      refine AWp.ret ?_
      refine blockQ_r ?_
      refine thenQ_r ?_
      obtain rfl := h.ret
      exact endFN rfl (Wk.selS [] .nil rfl (SelE.leaf (lk 2 rfl rfl) rfl (.nils_no _) (fun m => (ty_S_THold.lt ([] : List THold) _)) (SelE.leaf (lk 1 rfl rfl) rfl (.refl _) (fun m => ((TyOk.int .i64).lt _ _)) (SelE.leaf (lk 0 rfl rfl) rfl (.refl _) (fun m => ((TyOk.int .i64).lt _ _)) .nil))) .nil) (.cons (.tmp (lk 0 rfl rfl) rfl) (.cons (.tmp (lk 1 rfl rfl) rfl) (.cons (.tmp (lk 2 rfl rfl) rfl) .nil))) rfl rfl rfl
    · skip
      refine AWp.seq ?_
      refine W.reg [0, 1, 2, 3] rfl ?_
      refine S.sil 47 rfl rfl (fun _ hF => .move (lk 14 rfl rfl)) ?_
      refine S.sil 48 rfl rfl (fun _ hF => .lenT sli40 (lk 0 rfl rfl) (vsub rfl (.refl _))) ?_
      refine S.sil 49 rfl rfl (fun _ hF => .eql (lk 0 rfl rfl) cI) ?_
      obtain ⟨v14, ev14, h⟩ := h.nam
      refine S.sil 46 rfl rfl (fun _ hF => .nv (.assign (lk 0 rfl rfl)) (congrArg V.bool ev14.symm)) ?_
      refine S.nil ?_
      refine thenQ_n ?_
      refine AWp.prune (.eq (lk 0 rfl rfl) rfl (.eq (lk 13 rfl rfl) rfl (.eq (lk 14 rfl rfl) rfl (.eq (lk 15 rfl rfl) rfl (.eq (lk 16 rfl rfl) rfl (.eq (lk 17 rfl rfl) rfl (.eq (lk 18 rfl rfl) rfl .nil))))))) ?_
      refine AWp.condM (lk 0 rfl rfl) h (fun c4 h => ?_) (fun c4 h => ?_)
      · skip
        refine AWp.seq ?_
        refine W.reg [0, 1, 2] rfl ?_
        refine S.sil 8 rfl rfl (fun _ hF => .assign cNs) ?_
        refine S.sil 9 rfl rfl (fun _ hF => .assign cI) ?_
        refine S.sil 10 rfl rfl (fun _ hF => .assign cI) ?_
        refine S.nil ?_
        refine thenQ_n ?_
        refine AWp.ret ?_
        refine blockQ_r ?_
        refine thenQ_r ?_
        obtain rfl := h.ret
        exact endFN rfl (Wk.selS [] .nil rfl (SelE.leaf (lk 2 rfl rfl) rfl (.nils_no _) (fun m => (ty_S_THold.lt ([] : List THold) _)) (SelE.leaf (lk 1 rfl rfl) rfl (.refl _) (fun m => ((TyOk.int .i64).lt _ _)) (SelE.leaf (lk 0 rfl rfl) rfl (.refl _) (fun m => ((TyOk.int .i64).lt _ _)) .nil))) .nil) (.cons (.tmp (lk 0 rfl rfl) rfl) (.cons (.tmp (lk 1 rfl rfl) rfl) (.cons (.tmp (lk 2 rfl rfl) rfl) .nil))) rfl rfl rfl
      · skip
        refine AWp.skip ?_
        refine blockQ_n ?_
        refine thenQ_n ?_
        refine AWp.seq ?_
        refine W.regD [0, 1, 2, 3, 4, 5] mixed ?_
        refine S.sil 50 rfl rfl (fun _ hF => .move (lk 6 rfl rfl)) ?_
        obtain ⟨l15, m15, h⟩ := h.bnd
        refine S.new 51 rfl rfl (.callN ent54 cF [] (C_cloneO_54 m15) .nil .nil (ltL_c (ty_S_THold.lt _ _) ltL_nil) (.c (lk 0 rfl rfl) (vsubr (V.sub.refl _) (ty_S_THold.lt _ 0)) .nil) rfl (mapc (ren_buf ty_THold _) rfl) rfl) trivial ?_
        refine S.sil 52 rfl rfl (fun _ hF => .loadC sz101 ag101 (lk 3 rfl rfl) (ty_THold.fl v11) rfl) ?_
        refine S.sil 53 rfl rfl (fun _ hF => .buildSliceW sli40 zv101 rfl rfl (by decide) (.cons (lk 0 rfl rfl) rfl (.refl _) (ty_THold.fl v11) .nil)) ?_
        obtain ⟨l16, m16, h⟩ := h.bnd
        refine S.eff 54 rfl rfl (.appOwnT sli40 und40 zv101 rfl (by decide) (lk 2 rfl rfl) rfl (by first | rfl | simp) (lk 0 rfl rfl) Rd.sl m16 rfl) trivial ?_
        refine S.sil 15 rfl rfl (fun _ hF => .assign (lk 0 rfl rfl)) ?_
        refine S.nilD (by kernel_rfl) ?_
        refine thenQ_n ?_
        refine AWp.seq ?_
        refine W.reg [0, 1] rfl ?_
        refine S.sil 55 rfl rfl (fun _ hF => .move (lk 0 rfl rfl)) ?_
        obtain ⟨l17, m17, h⟩ := h.bnd
        refine S.eff 56 rfl rfl (.nf (H2 := [.dead, .dead, .buf 5 (List.map E_THold l17)]) (.sortFunc (ρ := Go.Proofs.Tryz.sort133_ren) srt133 rfl rfl ag101 sz101 ty_THold holdCmp_swo ent133 ent134 ltL_nil (fun x y => C_hold_compare (hold_compare_eq x y)) cF (lk 0 rfl rfl) cF rfl (by first | rfl | simp) m17 rfl) rfl rfl) trivial ?_
        refine S.nil ?_
        refine thenQ_n ?_
        refine AWp.prune (.eq (lk 2 rfl rfl) rfl (.eq (lk 10 rfl rfl) rfl (.eq (lk 11 rfl rfl) rfl (.eq (lk 12 rfl rfl) rfl (.eq (lk 13 rfl rfl) rfl .nil))))) ?_
        refine AWp.seq ?_
        refine W.reg [0, 1, 2, 3, 4] rfl ?_
        refine S.sil 57 rfl rfl (fun _ hF => .move (lk 0 rfl rfl)) ?_
        refine S.sil 58 rfl rfl (fun _ hF => .move (lk 2 rfl rfl)) ?_
        refine S.sil 8 rfl rfl (fun _ hF => .assign (lk 1 rfl rfl)) ?_
        refine S.sil 9 rfl rfl (fun _ hF => .assign (lk 1 rfl rfl)) ?_
        refine S.sil 10 rfl rfl (fun _ hF => .assign cI) ?_
        refine S.nil ?_
        refine thenQ_n ?_
        refine AWp.ret ?_
        refine endF_wk (Wk.freeze 2 rfl rfl (.same (lk 0 rfl rfl) (.same (lk 1 rfl rfl) (.cons (lk 2 rfl rfl) rfl (.slo (by first | rfl | simp [(sort_len holdCmp_swo m17)])) (.same (lk 0 rfl rfl) (.same (lk 1 rfl rfl) (.same (lk 2 rfl rfl) .nil)))))) (.refl _)) ?_
        obtain rfl := h.ret
        exact endFN rfl (Wk.selS [] .nil rfl (SelE.leaf (lk 2 rfl rfl) rfl (.refl _) (fun m => (ty_S_THold.lt _ _)) (SelE.leaf (lk 1 rfl rfl) rfl (.refl _) (fun m => ((TyOk.int .i64).lt _ _)) (SelE.leaf (lk 0 rfl rfl) rfl (.refl _) (fun m => ((TyOk.int .i64).lt _ _)) .nil))) .nil) (.cons (.tmp (lk 0 rfl rfl) rfl) (.cons (.tmp (lk 1 rfl rfl) rfl) (.cons (.tmp (lk 2 rfl rfl) rfl) .nil))) rfl rfl rfl
theorem C_field_Reserve {a1 : TField} {a2 : Int} {a3 : Int} {a4 : Int} {r : TField × Int × Int} (h : field_Reserve a1 a2 a3 a4 = some r) : PureC Pg 47 [E_TField a1, (V.int .i64) a2, (V.int .i64) a3, (V.int .i64) a4] (.tup [E_TField r.1, (V.int .i64) r.2.1, (V.int .i64) r.2.2]) := by
  refine PureC.ofF (CallSpec.of_bodyF 41 0 fn47 rfl rfl rfl (Nat.le_of_ble_eq_true rfl) ?_) (ltL_c (ty_TField.lt _ _) (ltL_c ((TyOk.int .i64).lt _ _) (ltL_c ((TyOk.int .i64).lt _ _) (ltL_c ((TyOk.int .i64).lt _ _) ltL_nil)))) (lt_tup (ltL_c (ty_TField.lt _ _) (ltL_c ((TyOk.int .i64).lt _ _) (ltL_c ((TyOk.int .i64).lt _ _) ltL_nil))))
  replace h := Ok.of h
  unfold field_Reserve at h
  refine AWp.seq ?_
  refine W.reg [0, 1, 2, 3] rfl ?_
  refine S.eff 4 rfl rfl (.nf (v2 := .ptr 0 [] 0) (H2 := [.cells (E_TField a1)]) (.box (lk 0 rfl rfl) rfl) rfl rfl) trivial ?_
  refine S.eff 8 rfl rfl (.nf (v2 := .ptr 1 [] 0) (H2 := [.cells (E_TField a1), .cells (.st [V.str (default : ByteArray), (V.int .i64) 0, (V.int .i64) 0, E_TCounter (default : TCounter), E_TLock (default : TLock), .nils])]) (.alloc zv42) rfl rfl) trivial ?_
  refine S.sil 9 rfl rfl (fun _ hF => .assign cI) ?_
  refine S.sil 10 rfl rfl (fun _ hF => .assign cI) ?_
  refine S.nil ?_
  refine thenQ_n ?_
  refine AWp.seq ?_
  refine AWp.seq ?_
  refine W.reg [0, 1, 2, 3, 4] rfl ?_
  refine S.qui 15 rfl rfl (fun _ => .loadP sz42 ag42 (lk 3 rfl rfl) rfl .nil (by first | rfl | omega) (ty_TField.fl a1) rfl) ?_
  refine S.sil 16 rfl rfl (fun _ hF => .move (lk 6 rfl rfl)) ?_
  refine S.sil 17 rfl rfl (fun _ hF => .move (lk 8 rfl rfl)) ?_
  obtain ⟨r5, m5, h⟩ := h.bnd
  refine S.sil 18 rfl rfl (fun _ hF => .callQ ent78 cF (.c (lk 2 rfl rfl) (V.sub.refl _) (.c (lk 1 rfl rfl) (V.sub.refl _) (.c (lk 0 rfl rfl) (V.sub.refl _) .nil))) (C_field_lacks m5)) ?_
  refine S.sil 11 rfl rfl (fun _ hF => .assign (lk 0 rfl rfl)) ?_
  refine S.nil ?_
  refine thenQ_n ?_
  refine AWp.seq ?_
  refine W.reg [0, 1] rfl ?_
  refine S.sil 19 rfl rfl (fun _ hF => .move (lk 0 rfl rfl)) ?_
  refine S.sil 20 rfl rfl (fun _ hF => .neq (lk 0 rfl rfl) cI) ?_
  refine S.nil ?_
  refine thenQ_n ?_
  refine AWp.condM (lk 0 rfl rfl) h (fun c1 h => ?_) (fun c1 h => ?_)
  · skip
    refine AWp.seq ?_
    refine W.reg [0, 1, 2, 3, 4] rfl ?_
    obtain ⟨v6, ev6, h⟩ := h.nam
    refine S.sil 21 rfl rfl (fun _ hF => .nv (.vs (v := .st [V.str (default : ByteArray), (V.int .i64) 0, (V.int .i64) 0, E_TCounter (default : TCounter), E_TLock (default : TLock), .nils]) (v2 := E_TField (⟨(default : ByteArray), 0, 0, (default : TCounter), (default : TLock), ([] : List THold)⟩ : TField)) (.buildStW lay42 zv42 rfl .nil) rfl (.st (.cons (.refl _) (.cons (.refl _) (.cons (.refl _) (.cons (.refl _) (.cons (.refl _) (.cons (.nils_no _) .nil)))))))) (congrArg E_TField ev6.symm)) ?_
    refine S.sil 22 rfl rfl (fun _ hF => .move (lk 3 rfl rfl)) ?_
    refine S.effN rfl rfl (.nf (H2 := [.cells (E_TField a1), .cells (E_TField v6)]) (.storeP sz42 (lk 11 rfl rfl) (lk 1 rfl rfl) rfl (.refl _) rfl .nil (by first | rfl | omega) .nil (ty_TField.fl v6) (fl_st (flL_c (show flen _ = 1 from rfl) (flL_c (show flen _ = 1 from rfl) (flL_c (show flen _ = 1 from rfl) (flL_c (ty_TCounter.fl (default : TCounter)) (flL_c (ty_TLock.fl (default : TLock)) (flL_c (show flen _ = 1 from rfl) flL_nil))))))) rfl) rfl rfl) trivial ?_
    refine S.sil 9 rfl rfl (fun _ hF => .assign cI) ?_
    refine S.sil 10 rfl rfl (fun _ hF => .assign (lk 1 rfl rfl)) ?_
    refine S.nil ?_
    refine thenQ_n ?_
    refine AWp.prune (.eq (lk 0 rfl rfl) rfl (.eq (lk 1 rfl rfl) rfl (.eq (lk 13 rfl rfl) rfl (.eq (lk 14 rfl rfl) rfl (.eq (lk 16 rfl rfl) rfl (.eq (lk 17 rfl rfl) rfl (.eq (lk 18 rfl rfl) rfl .nil))))))) ?_
    refine AWp.ret ?_
    refine thenQ_r ?_
    refine endF_wk (Wk.freeze 1 rfl rfl (.same (lk 0 rfl rfl) (.same (lk 1 rfl rfl) (.cons (lk 2 rfl rfl) rfl (.ptr .nil (by first | rfl | omega)) .nil))) (.refl _)) ?_
    obtain rfl := h.ret
    exact endFN rfl (Wk.selS [] .nil rfl (SelE.leaf (lk 2 rfl rfl) rfl (.refl _) (fun m => (lt_cptr (ty_TField.lt _ _))) (SelE.leaf (lk 1 rfl rfl) rfl (.refl _) (fun m => ((TyOk.int .i64).lt _ _)) (SelE.leaf (lk 0 rfl rfl) rfl (.refl _) (fun m => ((TyOk.int .i64).lt _ _)) .nil))) .nil) (.cons (.cellC sz42 ag42 (lk 0 rfl rfl) (ty_TField.fl _) rfl) (.cons (.tmp (lk 1 rfl rfl) rfl) (.cons (.tmp (lk 2 rfl rfl) rfl) .nil))) rfl rfl rfl
  · skip
    refine AWp.skip ?_
    refine thenQ_n ?_
    refine AWp.seq ?_
    refine W.reg [0, 1, 2, 3, 4, 5, 6, 7, 8, 9, 10, 11, 12] rfl ?_
    refine S.sil 24 rfl rfl (fun _ hF => .fieldAddr lay42 rfl rfl (lk 10 rfl rfl)) ?_
    refine S.qui 25 rfl rfl (fun _ => .loadP sz40 ag40 (lk 0 rfl rfl) rfl (.st rfl (flL_c (show flen _ = 1 from rfl) (flL_c (show flen _ = 1 from rfl) (flL_c (show flen _ = 1 from rfl) (flL_c (ty_TCounter.fl a1.Counter) (flL_c (ty_TLock.fl a1.Lock) flL_nil))))) .nil) (by first | rfl | omega) rfl rfl) ?_
    refine S.sil 26 rfl rfl (fun _ hF => .move (lk 14 rfl rfl)) ?_
    refine S.sil 27 rfl rfl (fun _ hF => .move (lk 16 rfl rfl)) ?_
    refine S.sil 28 rfl rfl (fun _ hF => .move (lk 18 rfl rfl)) ?_
    obtain ⟨r7, m7, h⟩ := h.bnd
    refine S.sil 29 rfl rfl (fun _ hF => .callQ ent120 cF (.c (lk 3 rfl rfl) (V.sub.refl _) (.c (lk 2 rfl rfl) (V.sub.refl _) (.c (lk 1 rfl rfl) (V.sub.refl _) (.c (lk 0 rfl rfl) (V.sub.refl _) .nil)))) (C_hold_Reserve m7)) ?_
    refine S.sil 23 rfl rfl (fun _ hF => .move (lk 0 rfl rfl)) ?_
    refine S.sil 30 rfl rfl (fun _ hF => .extract (lk 0 rfl rfl) rfl) ?_
    refine S.sil 31 rfl rfl (fun _ hF => .extract (lk 1 rfl rfl) rfl) ?_
    refine S.sil 32 rfl rfl (fun _ hF => .extract (lk 2 rfl rfl) rfl) ?_
    refine S.sil 12 rfl rfl (fun _ hF => .assign (lk 2 rfl rfl)) ?_
    refine S.sil 13 rfl rfl (fun _ hF => .assign (lk 2 rfl rfl)) ?_
    refine S.sil 14 rfl rfl (fun _ hF => .assign (lk 2 rfl rfl)) ?_
    refine S.nil ?_
    refine thenQ_n ?_
    refine AWp.prune (.eq (lk 0 rfl rfl) rfl (.eq (lk 1 rfl rfl) rfl (.eq (lk 2 rfl rfl) rfl (.eq (lk 20 rfl rfl) rfl (.eq (lk 21 rfl rfl) rfl (.eq (lk 22 rfl rfl) rfl (.eq (lk 23 rfl rfl) rfl .nil))))))) ?_
    refine AWp.seq ?_
    refine AWp.seq ?_
    refine W.reg [0, 1] rfl ?_
    refine S.sil 33 rfl rfl (fun _ hF => .move (lk 0 rfl rfl)) ?_
    refine S.sil 34 rfl rfl (fun _ hF => .neq (lk 0 rfl rfl) cI) ?_
    refine S.nil ?_
    refine thenQ_n ?_
    refine AWp.condM (lk 0 rfl rfl) h (fun c2 h => ?_) (fun c2 h => ?_)
    · skip
      refine AWp.seq ?_
      refine W.reg [0, 1, 2, 3, 4] rfl ?_
      obtain ⟨v8, ev8, h⟩ := h.nam
      refine S.sil 35 rfl rfl (fun _ hF => .nv (.vs (v := .st [V.str (default : ByteArray), (V.int .i64) 0, (V.int .i64) 0, E_TCounter (default : TCounter), E_TLock (default : TLock), .nils]) (v2 := E_TField (⟨(default : ByteArray), 0, 0, (default : TCounter), (default : TLock), ([] : List THold)⟩ : TField)) (.buildStW lay42 zv42 rfl .nil) rfl (.st (.cons (.refl _) (.cons (.refl _) (.cons (.refl _) (.cons (.refl _) (.cons (.refl _) (.cons (.nils_no _) .nil)))))))) (congrArg E_TField ev8.symm)) ?_
      refine S.sil 36 rfl rfl (fun _ hF => .move (lk 3 rfl rfl)) ?_
      refine S.effN rfl rfl (.nf (H2 := [.cells (E_TField a1), .cells (E_TField v8)]) (.storeP sz42 (lk 9 rfl rfl) (lk 1 rfl rfl) rfl (.refl _) rfl .nil (by first | rfl | omega) .nil (ty_TField.fl v8) (fl_st (flL_c (show flen _ = 1 from rfl) (flL_c (show flen _ = 1 from rfl) (flL_c (show flen _ = 1 from rfl) (flL_c (ty_TCounter.fl (default : TCounter)) (flL_c (ty_TLock.fl (default : TLock)) (flL_c (show flen _ = 1 from rfl) flL_nil))))))) rfl) rfl rfl) trivial ?_
      refine S.sil 9 rfl rfl (fun _ hF => .assign cI) ?_
      refine S.sil 10 rfl rfl (fun _ hF => .assign (lk 1 rfl rfl)) ?_
      refine S.nil ?_
      refine thenQ_n ?_
      refine AWp.ret ?_
      refine thenQ_r ?_
      refine endF_wk (Wk.freeze 1 rfl rfl (.same (lk 0 rfl rfl) (.same (lk 1 rfl rfl) (.same (lk 0 rfl rfl) (.same (lk 1 rfl rfl) (.cons (lk 11 rfl rfl) rfl (.ptr .nil (by first | rfl | omega)) .nil))))) (.refl _)) ?_
      obtain rfl := h.ret
      exact endFN rfl (Wk.selS [] .nil rfl (SelE.leaf (lk 4 rfl rfl) rfl (.refl _) (fun m => (lt_cptr (ty_TField.lt _ _))) (SelE.leaf (lk 1 rfl rfl) rfl (.refl _) (fun m => ((TyOk.int .i64).lt _ _)) (SelE.leaf (lk 0 rfl rfl) rfl (.refl _) (fun m => ((TyOk.int .i64).lt _ _)) .nil))) .nil) (.cons (.cellC sz42 ag42 (lk 0 rfl rfl) (ty_TField.fl _) rfl) (.cons (.tmp (lk 1 rfl rfl) rfl) (.cons (.tmp (lk 2 rfl rfl) rfl) .nil))) rfl rfl rfl
    · skip
      refine AWp.skip ?_
      refine thenQ_n ?_
      refine AWp.seq ?_
      refine W.reg [0, 1, 2] rfl ?_
      refine S.sil 37 rfl rfl (fun _ hF => .move (lk 4 rfl rfl)) ?_
      refine S.sil 38 rfl rfl (fun _ hF => .fieldAddr lay42 rfl rfl (lk 9 rfl rfl)) ?_
      obtain ⟨v9, ev9, h⟩ := h.nam
      refine S.effN rfl rfl (.nf (H2 := [.cells (E_TField v9), .cells (.st [V.str (default : ByteArray), (V.int .i64) 0, (V.int .i64) 0, E_TCounter (default : TCounter), E_TLock (default : TLock), .nils])]) (.storeP sz40 (lk 0 rfl rfl) (lk 1 rfl rfl) rfl (.refl _) rfl (.st rfl (flL_c (show flen _ = 1 from rfl) (flL_c (show flen _ = 1 from rfl) (flL_c (show flen _ = 1 from rfl) (flL_c (ty_TCounter.fl a1.Counter) (flL_c (ty_TLock.fl a1.Lock) flL_nil))))) .nil) (by first | rfl | omega) (.st rfl .nil rfl) rfl rfl (congrArg (fun z => ([AObj.cells (E_TField z), .cells (.st [V.str (default : ByteArray), (V.int .i64) 0, (V.int .i64) 0, E_TCounter (default : TCounter), E_TLock (default : TLock), .nils])] : List AObj)) ev9.symm)) rfl rfl) trivial ?_
      refine S.nil ?_
      refine thenQ_n ?_
      refine AWp.seq ?_
      refine W.reg [0, 1, 2, 3, 4] rfl ?_
      refine S.qui 39 rfl rfl (fun _ => .loadP sz42 ag42 (lk 10 rfl rfl) rfl .nil (by first | rfl | omega) (ty_TField.fl v9) rfl) ?_
      refine S.sil 40 rfl rfl (fun _ hF => .move (lk 6 rfl rfl)) ?_
      refine S.effN rfl rfl (.nf (H2 := [.cells (E_TField v9), .cells (E_TField v9)]) (.storeP sz42 (lk 11 rfl rfl) (lk 1 rfl rfl) rfl (.refl _) rfl .nil (by first | rfl | omega) .nil (ty_TField.fl v9) (fl_st (flL_c (show flen _ = 1 from rfl) (flL_c (show flen _ = 1 from rfl) (flL_c (show flen _ = 1 from rfl) (flL_c (ty_TCounter.fl (default : TCounter)) (flL_c (ty_TLock.fl (default : TLock)) (flL_c (show flen _ = 1 from rfl) flL_nil))))))) rfl) rfl rfl) trivial ?_
      refine S.sil 9 rfl rfl (fun _ hF => .assign (lk 0 rfl rfl)) ?_
      refine S.sil 10 rfl rfl (fun _ hF => .assign cI) ?_
      refine S.nil ?_
      refine thenQ_n ?_
      refine AWp.prune (.eq (lk 0 rfl rfl) rfl (.eq (lk 1 rfl rfl) rfl (.eq (lk 13 rfl rfl) rfl .nil))) ?_
      refine AWp.ret ?_
      refine endF_wk (Wk.freeze 1 rfl rfl (.same (lk 0 rfl rfl) (.same (lk 1 rfl rfl) (.cons (lk 2 rfl rfl) rfl (.ptr .nil (by first | rfl | omega)) .nil))) (.refl _)) ?_
      obtain rfl := h.ret
      exact endFN rfl (Wk.selS [] .nil rfl (SelE.leaf (lk 2 rfl rfl) rfl (.refl _) (fun m => (lt_cptr (ty_TField.lt _ _))) (SelE.leaf (lk 1 rfl rfl) rfl (.refl _) (fun m => ((TyOk.int .i64).lt _ _)) (SelE.leaf (lk 0 rfl rfl) rfl (.refl _) (fun m => ((TyOk.int .i64).lt _ _)) .nil))) .nil) (.cons (.cellC sz42 ag42 (lk 0 rfl rfl) (ty_TField.fl _) rfl) (.cons (.tmp (lk 1 rfl rfl) rfl) (.cons (.tmp (lk 2 rfl rfl) rfl) .nil))) rfl rfl rfl
theorem C_rights_enough {a1 : TRights} {a2 : Int} {a3 : Int} {r : Int} (h : rights_enough a1 a2 a3 = some r) : PureC Pg 205 [E_TRights a1, (V.int .i64) a2, (V.int .i64) a3] ((V.int .i64) r) := by
  refine PureC.ofF (CallSpec.of_bodyF 25 0 fn205 rfl rfl rfl (Nat.le_of_ble_eq_true rfl) ?_) (ltL_c (ty_TRights.lt _ _) (ltL_c ((TyOk.int .i64).lt _ _) (ltL_c ((TyOk.int .i64).lt _ _) ltL_nil))) ((TyOk.int .i64).lt _ _)
  replace h := Ok.of h
  unfold rights_enough at h
  refine AWp.seq ?_
  refine W.reg [0, 1] rfl ?_
  refine S.eff 3 rfl rfl (.nf (v2 := .ptr 0 [] 0) (H2 := [.cells (E_TRights a1)]) (.box (lk 0 rfl rfl) rfl) rfl rfl) trivial ?_
  refine S.sil 6 rfl rfl (fun _ hF => .assign cI) ?_
  refine S.nil ?_
  refine thenQ_n ?_
  refine AWp.wk (Wk.freeze 0 rfl rfl (.same (lk 0 rfl rfl) (.cons (lk 1 rfl rfl) rfl (.ptr .nil (by first | rfl | omega)) (.same (lk 3 rfl rfl) (.same (lk 4 rfl rfl) .nil)))) (.refl _)) ?_
  refine AWp.seq ?_
  refine AWp.seq ?_
  refine W.reg [0, 1] rfl ?_
  refine S.sil 9 rfl rfl (fun _ hF => .move (lk 3 rfl rfl)) ?_
  refine S.sil 10 rfl rfl (fun _ hF => .lss (lk 0 rfl rfl) cI) ?_
  refine S.nil ?_
  refine thenQ_n ?_
  refine AWp.condM (lk 0 rfl rfl) h (fun c1 h => ?_) (fun c1 h => ?_)
  · skip
    refine AWp.seq ?_
    refine W.reg [0] rfl ?_
    refine S.sil 6 rfl rfl (fun _ hF => .assign cI) ?_
    refine S.nil ?_
    refine thenQ_n ?_
    refine AWp.ret ?_
    refine thenQ_r ?_
    obtain rfl := h.ret
    exact endF1 rfl (Wk.selS [] .nil rfl (SelE.leaf (lk 0 rfl rfl) rfl (.refl _) (fun m => ((TyOk.int .i64).lt _ _)) .nil) .nil) (.tmp (lk 0 rfl rfl) rfl) rfl rfl
  · skip
    refine AWp.skip ?_
    refine thenQ_n ?_
    refine AWp.seq ?_
    refine W.reg [0, 1, 2, 3, 4, 5, 6, 7] rfl ?_
    refine S.sil 12 rfl rfl (fun _ hF => .loadC sz35 ag35 (lk 3 rfl rfl) (ty_TRights.fl a1) rfl) ?_
    refine S.sil 13 rfl rfl (fun _ hF => .move (lk 5 rfl rfl)) ?_
    obtain ⟨r4, m4, h⟩ := h.bnd
    refine S.sil 14 rfl rfl (fun _ hF => .callQ ent173 cF (.c (lk 1 rfl rfl) (V.sub.refl _) (.c (lk 0 rfl rfl) (V.sub.refl _) .nil)) (C_rights_Free m4)) ?_
    refine S.sil 11 rfl rfl (fun _ hF => .move (lk 0 rfl rfl)) ?_
    refine S.sil 15 rfl rfl (fun _ hF => .extract (lk 0 rfl rfl) rfl) ?_
    refine S.sil 16 rfl rfl (fun _ hF => .extract (lk 1 rfl rfl) rfl) ?_
    refine S.sil 7 rfl rfl (fun _ hF => .assign (lk 1 rfl rfl)) ?_
    refine S.sil 8 rfl rfl (fun _ hF => .assign (lk 1 rfl rfl)) ?_
    refine S.nil ?_
    refine thenQ_n ?_
    refine AWp.prune (.eq (lk 0 rfl rfl) rfl (.eq (lk 1 rfl rfl) rfl (.eq (lk 10 rfl rfl) rfl (.eq (lk 13 rfl rfl) rfl .nil)))) ?_
    refine AWp.seq ?_
    refine AWp.block ?_
    refine AWp.seq ?_
    refine W.reg [0, 1, 2] rfl ?_
    refine S.sil 18 rfl rfl (fun _ hF => .move (lk 0 rfl rfl)) ?_
    refine S.sil 19 rfl rfl (fun _ hF => .neq (lk 0 rfl rfl) cI) ?_
    refine S.sil 17 rfl rfl (fun _ hF => .assign (lk 0 rfl rfl)) ?_
    refine S.nil ?_
    refine thenQ_n ?_
    refine AWp.condM (lk 0 rfl rfl) h (fun c2 h => ?_) (fun c2 h => ?_)
    · skip
      refine AWp.seq ?_
      refine W.reg [0, 1] rfl ?_
      refine S.sil 20 rfl rfl (fun _ hF => .move (lk 3 rfl rfl)) ?_
      refine S.sil 6 rfl rfl (fun _ hF => .assign (lk 0 rfl rfl)) ?_
      refine S.nil ?_
      refine thenQ_n ?_
      refine AWp.ret ?_
      refine blockQ_r ?_
      refine thenQ_r ?_
      obtain rfl := h.ret
      exact endF1 rfl (Wk.selS [] .nil rfl (SelE.leaf (lk 0 rfl rfl) rfl (.refl _) (fun m => ((TyOk.int .i64).lt _ _)) .nil) .nil) (.tmp (lk 0 rfl rfl) rfl) rfl rfl
    · skip
      refine AWp.seq ?_
      refine W.reg [0, 1, 2, 3] rfl ?_
      refine S.sil 22 rfl rfl (fun _ hF => .move (lk 6 rfl rfl)) ?_
      refine S.sil 23 rfl rfl (fun _ hF => .move (lk 5 rfl rfl)) ?_
      refine S.sil 24 rfl rfl (fun _ hF => .gtr (lk 1 rfl rfl) (lk 0 rfl rfl)) ?_
      refine S.sil 21 rfl rfl (fun _ hF => .assign (lk 0 rfl rfl)) ?_
      refine S.nil ?_
      refine thenQ_n ?_
      refine AWp.condM (lk 0 rfl rfl) h (fun c3 h => ?_) (fun c3 h => ?_)
      · skip
        refine AWp.seq ?_
        refine W.reg [0] rfl ?_
        refine S.sil 6 rfl rfl (fun _ hF => .assign cI) ?_
        refine S.nil ?_
        refine thenQ_n ?_
        refine AWp.prune (.eq (lk 0 rfl rfl) rfl .nil) ?_
        refine AWp.ret ?_
        refine blockQ_r ?_
        refine thenQ_r ?_
        obtain rfl := h.ret
        exact endF1 rfl (Wk.selS [] .nil rfl (SelE.leaf (lk 0 rfl rfl) rfl (.refl _) (fun m => ((TyOk.int .i64).lt _ _)) .nil) .nil) (.tmp (lk 0 rfl rfl) rfl) rfl rfl
      · skip
        refine AWp.skip ?_
        refine blockQ_n ?_
        refine thenQ_n ?_
        refine AWp.prune (.eq (lk 9 rfl rfl) rfl .nil) ?_
        refine AWp.seq ?_
        refine W.reg [0] rfl ?_
        refine S.sil 6 rfl rfl (fun _ hF => .assign cI) ?_
        refine S.nil ?_
        refine thenQ_n ?_
        refine AWp.ret ?_
        obtain rfl := h.ret
        exact endF1 rfl (Wk.selS [] .nil rfl (SelE.leaf (lk 0 rfl rfl) rfl (.refl _) (fun m => ((TyOk.int .i64).lt _ _)) .nil) .nil) (.tmp (lk 0 rfl rfl) rfl) rfl rfl
theorem C_vec_Grow {a1 : Vector Int 16} {a2 : Int} {a3 : Int} {r : (Vector Int 16) × Int} (h : vec_Grow a1 a2 a3 = some r) : PureC Pg 206 [E_A16_i64 a1, (V.int .i64) a2, (V.int .i64) a3] (.tup [E_A16_i64 r.1, (V.int .i64) r.2]) := by
  refine PureC.ofF (CallSpec.of_bodyF 37 0 fn206 rfl rfl rfl (Nat.le_of_ble_eq_true rfl) ?_) (ltL_c (ty_A16_i64.lt _ _) (ltL_c ((TyOk.int .i64).lt _ _) (ltL_c ((TyOk.int .i64).lt _ _) ltL_nil))) (lt_tup (ltL_c (ty_A16_i64.lt _ _) (ltL_c ((TyOk.int .i64).lt _ _) ltL_nil)))
  replace h := Ok.of h
  unfold vec_Grow at h
  refine AWp.seq ?_
  refine W.reg [0, 1, 2] rfl ?_
  refine S.eff 3 rfl rfl (.nf (v2 := .ptr 0 [] 0) (H2 := [.cells (E_A16_i64 a1)]) (.box (lk 0 rfl rfl) rfl) rfl rfl) trivial ?_
  refine S.eff 6 rfl rfl (.nf (v2 := .ptr 1 [] 0) (H2 := [.cells (E_A16_i64 a1), .cells (E_A16_i64 (default : Vector Int 16))]) (.alloc zv32) rfl rfl) trivial ?_
  refine S.sil 7 rfl rfl (fun _ hF => .assign cI) ?_
  refine S.nil ?_
  refine thenQ_n ?_
  refine AWp.seq ?_
  refine AWp.seq ?_
  refine W.reg [0, 1, 2, 3, 4, 5, 6, 7, 8, 9] rfl ?_
  refine S.sil 10 rfl rfl (fun _ hF => .move (lk 4 rfl rfl)) ?_
  refine S.sil 11 rfl rfl (fun _ hF => .lss (lk 0 rfl rfl) cI) ?_
  refine S.sil 12 rfl rfl (fun _ hF => .move (lk 0 rfl rfl)) ?_
  refine S.gsil 13 2 12 false rfl rfl rfl (lk 0 rfl rfl) (fun hB _ hF => .move (lk 7 rfl rfl)) ?_
  refine S.gsil 14 2 12 false rfl rfl rfl (lk 1 rfl rfl) (fun hB _ hF => .geq (ifT hB (lk 0 rfl rfl)) cI) ?_
  refine S.sil 15 rfl rfl (fun _ hF => .pickOr (lk 2 rfl rfl) cB (fun h => ifT h (lk 0 rfl rfl))) ?_
  refine S.sil 16 rfl rfl (fun _ hF => .move (lk 0 rfl rfl)) ?_
  refine S.gsil 17 6 16 false rfl rfl rfl (lk 0 rfl rfl) (fun hB _ hF => .move (lk 12 rfl rfl)) ?_
  refine S.gsil 18 6 16 false rfl rfl rfl (lk 1 rfl rfl) (fun hB _ hF => .lss (ifT hB (lk 0 rfl rfl)) cI) ?_
  refine S.sil 19 rfl rfl (fun _ hF => .pickOr (lk 2 rfl rfl) cB (fun h => ifT h (lk 0 rfl rfl))) ?_
  refine S.nil ?_
  refine thenQ_n ?_
  refine AWp.prune (.eq (lk 0 rfl rfl) rfl (.eq (lk 10 rfl rfl) rfl (.eq (lk 11 rfl rfl) rfl (.eq (lk 12 rfl rfl) rfl (.eq (lk 14 rfl rfl) rfl (.eq (lk 15 rfl rfl) rfl .nil)))))) ?_
  refine AWp.condM (lk 0 rfl rfl) h (fun c1 h => ?_) (fun c1 h => ?_)
  · skip
    refine AWp.seq ?_
    refine W.reg [0, 1, 2] rfl ?_
    refine S.sil 20 rfl rfl (fun _ hF => .buildArrL (w := E_A16_i64 (default : Vector Int 16)) arr32 zv32 .nil rfl rfl) ?_
    obtain ⟨v4, ev4, h⟩ := h.nam
    refine S.effN rfl rfl (.nf (H2 := [.cells (E_A16_i64 a1), .cells (E_A16_i64 v4)]) (.storeP sz32 (lk 3 rfl rfl) (lk 0 rfl rfl) rfl (.refl _) rfl .nil (by first | rfl | omega) .nil (ty_A16_i64.fl (default : Vector Int 16)) (ty_A16_i64.fl (default : Vector Int 16)) (congrArg (fun z => ([.cells (E_A16_i64 a1), AObj.cells (E_A16_i64 z)] : List AObj)) ev4.symm)) rfl rfl) trivial ?_
    refine S.sil 7 rfl rfl (fun _ hF => .assign cI) ?_
    refine S.nil ?_
    refine thenQ_n ?_
    refine AWp.ret ?_
    refine thenQ_r ?_
    refine endF_wk (Wk.freeze 1 rfl rfl (.same (lk 0 rfl rfl) (.same (lk 0 rfl rfl) (.cons (lk 4 rfl rfl) rfl (.ptr .nil (by first | rfl | omega)) .nil))) (.refl _)) ?_
    obtain rfl := h.ret
    exact endFN rfl (Wk.selS [] .nil rfl (SelE.leaf (lk 2 rfl rfl) rfl (.refl _) (fun m => (lt_cptr (ty_A16_i64.lt _ _))) (SelE.leaf (lk 0 rfl rfl) rfl (.refl _) (fun m => ((TyOk.int .i64).lt _ _)) .nil)) .nil) (.cons (.cellC sz32 ag32 (lk 0 rfl rfl) (ty_A16_i64.fl _) rfl) (.cons (.tmp (lk 1 rfl rfl) rfl) .nil)) rfl rfl rfl
  · skip
    refine AWp.skip ?_
    refine thenQ_n ?_
    refine AWp.seq ?_
    refine W.reg [0, 1, 2, 3, 4, 5, 6, 7, 8, 9] rfl ?_
    refine S.sil 22 rfl rfl (fun _ hF => .move (lk 4 rfl rfl)) ?_
    obtain ⟨k5, m5, h⟩ := h.bnd
    refine S.sil 23 rfl rfl (fun _ hF => .ixP arr32 (lk 4 rfl rfl) (lk 0 rfl rfl) m5) ?_
    refine S.qui 24 rfl rfl (fun _ => .loadP sz3 ag3 (lk 0 rfl rfl) rfl (.vc k5 .nil) (by first | rfl | omega) rfl rfl) ?_
    refine S.sil 25 rfl rfl (fun _ hF => .move (lk 8 rfl rfl)) ?_
    obtain ⟨r6, m6, h⟩ := h.bnd
    refine S.sil 26 rfl rfl (fun _ hF => .callQ ent164 cF (.c (lk 1 rfl rfl) (V.sub.refl _) (.c (lk 0 rfl rfl) (V.sub.refl _) .nil)) (C_num_Add m6)) ?_
    refine S.sil 21 rfl rfl (fun _ hF => .move (lk 0 rfl rfl)) ?_
    refine S.sil 27 rfl rfl (fun _ hF => .extract (lk 0 rfl rfl) rfl) ?_
    refine S.sil 28 rfl rfl (fun _ hF => .extract (lk 1 rfl rfl) rfl) ?_
    refine S.sil 8 rfl rfl (fun _ hF => .assign (lk 1 rfl rfl)) ?_
    refine S.sil 9 rfl rfl (fun _ hF => .assign (lk 1 rfl rfl)) ?_
    refine S.nil ?_
    refine thenQ_n ?_
    refine AWp.prune (.eq (lk 0 rfl rfl) rfl (.eq (lk 1 rfl rfl) rfl (.eq (lk 11 rfl rfl) rfl (.eq (lk 12 rfl rfl) rfl (.eq (lk 13 rfl rfl) rfl (.eq (lk 14 rfl rfl) rfl .nil)))))) ?_
    refine AWp.seq ?_
    refine AWp.seq ?_
    refine W.reg [0, 1] rfl ?_
    refine S.sil 29 rfl rfl (fun _ hF => .move (lk 0 rfl rfl)) ?_
    refine S.sil 30 rfl rfl (fun _ hF => .neq (lk 0 rfl rfl) cI) ?_
    refine S.nil ?_
    refine thenQ_n ?_
    refine AWp.condM (lk 0 rfl rfl) h (fun c2 h => ?_) (fun c2 h => ?_)
    · skip
      refine AWp.seq ?_
      refine W.reg [0, 1, 2, 3] rfl ?_
      refine S.sil 31 rfl rfl (fun _ hF => .buildArrL (w := E_A16_i64 (default : Vector Int 16)) arr32 zv32 .nil rfl rfl) ?_
      refine S.sil 32 rfl rfl (fun _ hF => .move (lk 3 rfl rfl)) ?_
      obtain ⟨v7, ev7, h⟩ := h.nam
      refine S.effN rfl rfl (.nf (H2 := [.cells (E_A16_i64 a1), .cells (E_A16_i64 v7)]) (.storeP sz32 (lk 7 rfl rfl) (lk 1 rfl rfl) rfl (.refl _) rfl .nil (by first | rfl | omega) .nil (ty_A16_i64.fl (default : Vector Int 16)) (ty_A16_i64.fl (default : Vector Int 16)) (congrArg (fun z => ([.cells (E_A16_i64 a1), AObj.cells (E_A16_i64 z)] : List AObj)) ev7.symm)) rfl rfl) trivial ?_
      refine S.sil 7 rfl rfl (fun _ hF => .assign (lk 0 rfl rfl)) ?_
      refine S.nil ?_
      refine thenQ_n ?_
      refine AWp.ret ?_
      refine thenQ_r ?_
      refine endF_wk (Wk.freeze 1 rfl rfl (.same (lk 0 rfl rfl) (.same (lk 0 rfl rfl) (.cons (lk 8 rfl rfl) rfl (.ptr .nil (by first | rfl | omega)) .nil))) (.refl _)) ?_
      obtain rfl := h.ret
      exact endFN rfl (Wk.selS [] .nil rfl (SelE.leaf (lk 2 rfl rfl) rfl (.refl _) (fun m => (lt_cptr (ty_A16_i64.lt _ _))) (SelE.leaf (lk 0 rfl rfl) rfl (.refl _) (fun m => ((TyOk.int .i64).lt _ _)) .nil)) .nil) (.cons (.cellC sz32 ag32 (lk 0 rfl rfl) (ty_A16_i64.fl _) rfl) (.cons (.tmp (lk 1 rfl rfl) rfl) .nil)) rfl rfl rfl
    · skip
      refine AWp.skip ?_
      refine thenQ_n ?_
      refine AWp.seq ?_
      refine W.reg [0, 1, 2, 3] rfl ?_
      refine S.sil 33 rfl rfl (fun _ hF => .move (lk 7 rfl rfl)) ?_
      refine S.sil 34 rfl rfl (fun _ hF => .move (lk 4 rfl rfl)) ?_
      obtain ⟨k8, m8, h⟩ := h.bnd
      refine S.sil 35 rfl rfl (fun _ hF => .ixP arr32 (lk 8 rfl rfl) (lk 1 rfl rfl) m8) ?_
      obtain ⟨v9, ev9, h⟩ := h.nam
      refine S.effN rfl rfl (.nf (H2 := [.cells (E_A16_i64 v9), .cells (E_A16_i64 (default : Vector Int 16))]) (.storeP sz3 (lk 0 rfl rfl) (lk 1 rfl rfl) rfl (.refl _) rfl (.vc k8 .nil) (by first | rfl | omega) (.vc r6.1 k8 .nil) rfl rfl (congrArg (fun z => ([AObj.cells (E_A16_i64 z), .cells (E_A16_i64 (default : Vector Int 16))] : List AObj)) ev9.symm)) rfl rfl) trivial ?_
      refine S.nil ?_
      refine thenQ_n ?_
      refine AWp.seq ?_
      refine W.reg [0, 1, 2] rfl ?_
      refine S.qui 36 rfl rfl (fun _ => .loadP sz32 ag32 (lk 9 rfl rfl) rfl .nil (by first | rfl | omega) (ty_A16_i64.fl v9) rfl) ?_
      refine S.effN rfl rfl (.nf (H2 := [.cells (E_A16_i64 v9), .cells (E_A16_i64 v9)]) (.storeP sz32 (lk 9 rfl rfl) (lk 0 rfl rfl) rfl (.refl _) rfl .nil (by first | rfl | omega) .nil (ty_A16_i64.fl v9) (ty_A16_i64.fl (default : Vector Int 16)) rfl) rfl rfl) trivial ?_
      refine S.sil 7 rfl rfl (fun _ hF => .assign cI) ?_
      refine S.nil ?_
      refine thenQ_n ?_
      refine AWp.prune (.eq (lk 0 rfl rfl) rfl (.eq (lk 10 rfl rfl) rfl .nil)) ?_
      refine AWp.ret ?_
      refine endF_wk (Wk.freeze 1 rfl rfl (.same (lk 0 rfl rfl) (.cons (lk 1 rfl rfl) rfl (.ptr .nil (by first | rfl | omega)) .nil)) (.refl _)) ?_
      obtain rfl := h.ret
      exact endFN rfl (Wk.selS [] .nil rfl (SelE.leaf (lk 1 rfl rfl) rfl (.refl _) (fun m => (lt_cptr (ty_A16_i64.lt _ _))) (SelE.leaf (lk 0 rfl rfl) rfl (.refl _) (fun m => ((TyOk.int .i64).lt _ _)) .nil)) .nil) (.cons (.cellC sz32 ag32 (lk 0 rfl rfl) (ty_A16_i64.fl _) rfl) (.cons (.tmp (lk 1 rfl rfl) rfl) .nil)) rfl rfl rfl
theorem C_rights_Use {a1 : TRights} {a2 : Int} {a3 : Int} {r : TRights × Int} (h : rights_Use a1 a2 a3 = some r) : PureC Pg 147 [E_TRights a1, (V.int .i64) a2, (V.int .i64) a3] (.tup [E_TRights r.1, (V.int .i64) r.2]) := by
  refine PureC.ofF (CallSpec.of_bodyF 31 0 fn147 rfl rfl rfl (Nat.le_of_ble_eq_true rfl) ?_) (ltL_c (ty_TRights.lt _ _) (ltL_c ((TyOk.int .i64).lt _ _) (ltL_c ((TyOk.int .i64).lt _ _) ltL_nil))) (lt_tup (ltL_c (ty_TRights.lt _ _) (ltL_c ((TyOk.int .i64).lt _ _) ltL_nil)))
  replace h := Ok.of h
  unfold rights_Use at h
  refine AWp.seq ?_
  refine W.reg [0, 1, 2] rfl ?_
  refine S.eff 3 rfl rfl (.nf (v2 := .ptr 0 [] 0) (H2 := [.cells (E_TRights a1)]) (.box (lk 0 rfl rfl) rfl) rfl rfl) trivial ?_
  refine S.eff 6 rfl rfl (.nf (v2 := .ptr 1 [] 0) (H2 := [.cells (E_TRights a1), .cells (E_TRights (default : TRights))]) (.alloc zv35) rfl rfl) trivial ?_
  refine S.sil 7 rfl rfl (fun _ hF => .assign cI) ?_
  refine S.nil ?_
  refine thenQ_n ?_
  refine AWp.seq ?_
  refine W.reg [0, 1, 2, 3, 4] rfl ?_
  refine S.qui 10 rfl rfl (fun _ => .loadP sz35 ag35 (lk 2 rfl rfl) rfl .nil (by first | rfl | omega) (ty_TRights.fl a1) rfl) ?_
  refine S.sil 11 rfl rfl (fun _ hF => .move (lk 5 rfl rfl)) ?_
  refine S.sil 12 rfl rfl (fun _ hF => .move (lk 7 rfl rfl)) ?_
  obtain ⟨r4, m4, h⟩ := h.bnd
  refine S.sil 13 rfl rfl (fun _ hF => .callQ ent205 cF (.c (lk 2 rfl rfl) (V.sub.refl _) (.c (lk 1 rfl rfl) (V.sub.refl _) (.c (lk 0 rfl rfl) (V.sub.refl _) .nil))) (C_rights_enough m4)) ?_
  refine S.sil 8 rfl rfl (fun _ hF => .assign (lk 0 rfl rfl)) ?_
  refine S.nil ?_
  refine thenQ_n ?_
  refine AWp.seq ?_
  refine W.reg [0] rfl ?_
  refine S.eff 9 rfl rfl (.nf (v2 := .ptr 2 [] 0) (H2 := [.cells (E_TRights a1), .cells (E_TRights (default : TRights)), .cells (E_A16_i64 (default : Vector Int 16))]) (.alloc zv32) rfl rfl) trivial ?_
  refine S.nil ?_
  refine thenQ_n ?_
  refine AWp.seq ?_
  refine AWp.seq ?_
  refine W.reg [0, 1] rfl ?_
  refine S.sil 14 rfl rfl (fun _ hF => .move (lk 1 rfl rfl)) ?_
  refine S.sil 15 rfl rfl (fun _ hF => .eql (lk 0 rfl rfl) cI) ?_
  refine S.nil ?_
  refine thenQ_n ?_
  refine AWp.condM (lk 0 rfl rfl) h (fun c1 h => ?_) (fun c1 h => ?_)
  · skip
    refine W.reg [0, 1, 2, 3, 4, 5, 6, 7, 8, 9] rfl ?_
    refine S.sil 17 rfl rfl (fun _ hF => .fieldAddr lay35 rfl rfl (lk 10 rfl rfl)) ?_
    refine S.qui 18 rfl rfl (fun _ => .loadP sz32 ag32 (lk 0 rfl rfl) rfl (.st rfl (flL_c (ty_A16_i64.fl a1.Given) flL_nil) .nil) (by first | rfl | omega) (ty_A16_i64.fl a1.Used) rfl) ?_
    refine S.sil 19 rfl rfl (fun _ hF => .move (lk 14 rfl rfl)) ?_
    refine S.sil 20 rfl rfl (fun _ hF => .move (lk 16 rfl rfl)) ?_
    obtain ⟨r5, m5, h⟩ := h.bnd
    refine S.sil 21 rfl rfl (fun _ hF => .callQ ent206 cF (.c (lk 2 rfl rfl) (V.sub.refl _) (.c (lk 1 rfl rfl) (V.sub.refl _) (.c (lk 0 rfl rfl) (V.sub.refl _) .nil))) (C_vec_Grow m5)) ?_
    refine S.sil 16 rfl rfl (fun _ hF => .move (lk 0 rfl rfl)) ?_
    refine S.sil 22 rfl rfl (fun _ hF => .extract (lk 0 rfl rfl) rfl) ?_
    refine S.sil 23 rfl rfl (fun _ hF => .extract (lk 1 rfl rfl) rfl) ?_
    refine S.effN rfl rfl (.nf (H2 := [.cells (E_TRights a1), .cells (E_TRights (default : TRights)), .cells (E_A16_i64 r5.1)]) (.storeP sz32 (lk 10 rfl rfl) (lk 1 rfl rfl) rfl (.refl _) rfl .nil (by first | rfl | omega) .nil (ty_A16_i64.fl r5.1) (ty_A16_i64.fl (default : Vector Int 16)) rfl) rfl rfl) trivial ?_
    refine S.sil 8 rfl rfl (fun _ hF => .assign (lk 0 rfl rfl)) ?_
    refine S.nil ?_
    refine thenQ_n ?_
    refine AWp.prune (.eq (lk 0 rfl rfl) rfl (.eq (lk 11 rfl rfl) rfl (.eq (lk 17 rfl rfl) rfl (.eq (lk 18 rfl rfl) rfl (.eq (lk 19 rfl rfl) rfl .nil))))) ?_
    refine AWp.seq ?_
    refine AWp.seq ?_
    refine W.reg [0, 1] rfl ?_
    refine S.sil 24 rfl rfl (fun _ hF => .move (lk 0 rfl rfl)) ?_
    refine S.sil 25 rfl rfl (fun _ hF => .neq (lk 0 rfl rfl) cI) ?_
    refine S.nil ?_
    refine thenQ_n ?_
    refine AWp.condM (lk 0 rfl rfl) h (fun c2 h => ?_) (fun c2 h => ?_)
    · skip
      refine AWp.seq ?_
      refine W.reg [0, 1, 2, 3] rfl ?_
      obtain ⟨v6, ev6, h⟩ := h.nam
      refine S.sil 26 rfl rfl (fun _ hF => .nv (.nv (v2 := E_TRights (⟨(default : Vector Int 16), (default : Vector Int 16), (default : Vector (Vector Int 16) 16)⟩ : TRights)) (.buildStW lay35 zv35 rfl .nil) rfl) (congrArg E_TRights ev6.symm)) ?_
      refine S.sil 27 rfl rfl (fun _ hF => .move (lk 3 rfl rfl)) ?_
      refine S.effN rfl rfl (.nf (H2 := [.cells (E_TRights a1), .cells (E_TRights v6), .cells (E_A16_i64 r5.1)]) (.storeP sz35 (lk 7 rfl rfl) (lk 1 rfl rfl) rfl (.refl _) rfl .nil (by first | rfl | omega) .nil (ty_TRights.fl v6) (ty_TRights.fl (default : TRights)) rfl) rfl rfl) trivial ?_
      refine S.sil 7 rfl rfl (fun _ hF => .assign (lk 0 rfl rfl)) ?_
      refine S.nil ?_
      refine thenQ_n ?_
      refine AWp.ret ?_
      refine thenQ_r ?_
      refine endF_wk (Wk.freeze 1 rfl rfl (.same (lk 0 rfl rfl) (.same (lk 0 rfl rfl) (.cons (lk 8 rfl rfl) rfl (.ptr .nil (by first | rfl | omega)) .nil))) (.refl _)) ?_
      obtain rfl := h.ret
      exact endFN rfl (Wk.selS [] .nil rfl (SelE.leaf (lk 2 rfl rfl) rfl (.refl _) (fun m => (lt_cptr (ty_TRights.lt _ _))) (SelE.leaf (lk 0 rfl rfl) rfl (.refl _) (fun m => ((TyOk.int .i64).lt _ _)) .nil)) .nil) (.cons (.cellC sz35 ag35 (lk 0 rfl rfl) (ty_TRights.fl _) rfl) (.cons (.tmp (lk 1 rfl rfl) rfl) .nil)) rfl rfl rfl
    · skip
      refine AWp.skip ?_
      refine thenQ_n ?_
      refine AWp.seq ?_
      refine W.reg [0, 1, 2] rfl ?_
      refine S.qui 28 rfl rfl (fun _ => .loadP sz32 ag32 (lk 3 rfl rfl) rfl .nil (by first | rfl | omega) (ty_A16_i64.fl r5.1) rfl) ?_
      refine S.sil 29 rfl rfl (fun _ hF => .fieldAddr lay35 rfl rfl (lk 7 rfl rfl)) ?_
      obtain ⟨v7, ev7, h⟩ := h.nam
      refine S.effN rfl rfl (.nf (H2 := [.cells (E_TRights v7), .cells (E_TRights (default : TRights)), .cells (E_A16_i64 r5.1)]) (.storeP sz32 (lk 0 rfl rfl) (lk 1 rfl rfl) rfl (.refl _) rfl (.st rfl (flL_c (ty_A16_i64.fl a1.Given) flL_nil) .nil) (by first | rfl | omega) (.st rfl .nil rfl) (ty_A16_i64.fl r5.1) (ty_A16_i64.fl a1.Used) (congrArg (fun z => ([AObj.cells (E_TRights z), .cells (E_TRights (default : TRights)), .cells (E_A16_i64 r5.1)] : List AObj)) ev7.symm)) rfl rfl) trivial ?_
      refine S.nil ?_
      refine thenQ_n ?_
      refine AWp.seq ?_
      refine W.reg [0, 1, 2] rfl ?_
      refine S.qui 30 rfl rfl (fun _ => .loadP sz35 ag35 (lk 8 rfl rfl) rfl .nil (by first | rfl | omega) (ty_TRights.fl v7) rfl) ?_
      refine S.effN rfl rfl (.nf (H2 := [.cells (E_TRights v7), .cells (E_TRights v7), .cells (E_A16_i64 r5.1)]) (.storeP sz35 (lk 8 rfl rfl) (lk 0 rfl rfl) rfl (.refl _) rfl .nil (by first | rfl | omega) .nil (ty_TRights.fl v7) (ty_TRights.fl (default : TRights)) rfl) rfl rfl) trivial ?_
      refine S.sil 7 rfl rfl (fun _ hF => .assign cI) ?_
      refine S.nil ?_
      refine thenQ_n ?_
      refine AWp.ret ?_
      refine endF_wk (Wk.freeze 1 rfl rfl (.same (lk 0 rfl rfl) (.same (lk 0 rfl rfl) (.cons (lk 9 rfl rfl) rfl (.ptr .nil (by first | rfl | omega)) .nil))) (.refl _)) ?_
      obtain rfl := h.ret
      exact endFN rfl (Wk.selS [] .nil rfl (SelE.leaf (lk 2 rfl rfl) rfl (.refl _) (fun m => (lt_cptr (ty_TRights.lt _ _))) (SelE.leaf (lk 0 rfl rfl) rfl (.refl _) (fun m => ((TyOk.int .i64).lt _ _)) .nil)) .nil) (.cons (.cellC sz35 ag35 (lk 0 rfl rfl) (ty_TRights.fl _) rfl) (.cons (.tmp (lk 1 rfl rfl) rfl) .nil)) rfl rfl rfl
  · skip
    refine AWp.skip ?_
    refine thenQ_n ?_
    refine AWp.seq ?_
    refine AWp.seq ?_
    refine W.reg [0, 1] rfl ?_
    refine S.sil 24 rfl rfl (fun _ hF => .move (lk 3 rfl rfl)) ?_
    refine S.sil 25 rfl rfl (fun _ hF => .neq (lk 0 rfl rfl) cI) ?_
    refine S.nil ?_
    refine thenQ_n ?_
    refine AWp.prune (.eq (lk 0 rfl rfl) rfl (.eq (lk 4 rfl rfl) rfl (.eq (lk 5 rfl rfl) rfl (.eq (lk 10 rfl rfl) rfl (.eq (lk 11 rfl rfl) rfl (.eq (lk 12 rfl rfl) rfl .nil)))))) ?_
    refine AWp.condM (lk 0 rfl rfl) h (fun c3 h => ?_) (fun c3 h => ?_)
    · skip
      refine AWp.seq ?_
      refine W.reg [0, 1, 2, 3] rfl ?_
      obtain ⟨v8, ev8, h⟩ := h.nam
      refine S.sil 26 rfl rfl (fun _ hF => .nv (.nv (v2 := E_TRights (⟨(default : Vector Int 16), (default : Vector Int 16), (default : Vector (Vector Int 16) 16)⟩ : TRights)) (.buildStW lay35 zv35 rfl .nil) rfl) (congrArg E_TRights ev8.symm)) ?_
      refine S.sil 27 rfl rfl (fun _ hF => .move (lk 3 rfl rfl)) ?_
      refine S.effN rfl rfl (.nf (H2 := [.cells (E_TRights a1), .cells (E_TRights v8), .cells (E_A16_i64 (default : Vector Int 16))]) (.storeP sz35 (lk 6 rfl rfl) (lk 1 rfl rfl) rfl (.refl _) rfl .nil (by first | rfl | omega) .nil (ty_TRights.fl v8) (ty_TRights.fl (default : TRights)) rfl) rfl rfl) trivial ?_
      refine S.sil 7 rfl rfl (fun _ hF => .assign (lk 0 rfl rfl)) ?_
      refine S.nil ?_
      refine thenQ_n ?_
      refine AWp.ret ?_
      refine thenQ_r ?_
      refine endF_wk (Wk.freeze 1 rfl rfl (.same (lk 0 rfl rfl) (.same (lk 0 rfl rfl) (.cons (lk 7 rfl rfl) rfl (.ptr .nil (by first | rfl | omega)) .nil))) (.refl _)) ?_
      obtain rfl := h.ret
      exact endFN rfl (Wk.selS [] .nil rfl (SelE.leaf (lk 2 rfl rfl) rfl (.refl _) (fun m => (lt_cptr (ty_TRights.lt _ _))) (SelE.leaf (lk 0 rfl rfl) rfl (.refl _) (fun m => ((TyOk.int .i64).lt _ _)) .nil)) .nil) (.cons (.cellC sz35 ag35 (lk 0 rfl rfl) (ty_TRights.fl _) rfl) (.cons (.tmp (lk 1 rfl rfl) rfl) .nil)) rfl rfl rfl
    · skip
      refine AWp.skip ?_
      refine thenQ_n ?_
      refine AWp.seq ?_
      refine W.reg [0, 1, 2] rfl ?_
      refine S.qui 28 rfl rfl (fun _ => .loadP sz32 ag32 (lk 1 rfl rfl) rfl .nil (by first | rfl | omega) (ty_A16_i64.fl (default : Vector Int 16)) rfl) ?_
      refine S.sil 29 rfl rfl (fun _ hF => .fieldAddr lay35 rfl rfl (lk 6 rfl rfl)) ?_
      obtain ⟨v9, ev9, h⟩ := h.nam
      refine S.effN rfl rfl (.nf (H2 := [.cells (E_TRights v9), .cells (E_TRights (default : TRights)), .cells (E_A16_i64 (default : Vector Int 16))]) (.storeP sz32 (lk 0 rfl rfl) (lk 1 rfl rfl) rfl (.refl _) rfl (.st rfl (flL_c (ty_A16_i64.fl a1.Given) flL_nil) .nil) (by first | rfl | omega) (.st rfl .nil rfl) (ty_A16_i64.fl (default : Vector Int 16)) (ty_A16_i64.fl a1.Used) (congrArg (fun z => ([AObj.cells (E_TRights z), .cells (E_TRights (default : TRights)), .cells (E_A16_i64 (default : Vector Int 16))] : List AObj)) ev9.symm)) rfl rfl) trivial ?_
      refine S.nil ?_
      refine thenQ_n ?_
      refine AWp.seq ?_
      refine W.reg [0, 1, 2] rfl ?_
      refine S.qui 30 rfl rfl (fun _ => .loadP sz35 ag35 (lk 7 rfl rfl) rfl .nil (by first | rfl | omega) (ty_TRights.fl v9) rfl) ?_
      refine S.effN rfl rfl (.nf (H2 := [.cells (E_TRights v9), .cells (E_TRights v9), .cells (E_A16_i64 (default : Vector Int 16))]) (.storeP sz35 (lk 7 rfl rfl) (lk 0 rfl rfl) rfl (.refl _) rfl .nil (by first | rfl | omega) .nil (ty_TRights.fl v9) (ty_TRights.fl (default : TRights)) rfl) rfl rfl) trivial ?_
      refine S.sil 7 rfl rfl (fun _ hF => .assign cI) ?_
      refine S.nil ?_
      refine thenQ_n ?_
      refine AWp.ret ?_
      refine endF_wk (Wk.freeze 1 rfl rfl (.same (lk 0 rfl rfl) (.same (lk 0 rfl rfl) (.cons (lk 8 rfl rfl) rfl (.ptr .nil (by first | rfl | omega)) .nil))) (.refl _)) ?_
      obtain rfl := h.ret
      exact endFN rfl (Wk.selS [] .nil rfl (SelE.leaf (lk 2 rfl rfl) rfl (.refl _) (fun m => (lt_cptr (ty_TRights.lt _ _))) (SelE.leaf (lk 0 rfl rfl) rfl (.refl _) (fun m => ((TyOk.int .i64).lt _ _)) .nil)) .nil) (.cons (.cellC sz35 ag35 (lk 0 rfl rfl) (ty_TRights.fl _) rfl) (.cons (.tmp (lk 1 rfl rfl) rfl) .nil)) rfl rfl rfl
theorem C_counter_Inc_1 {a1 : Int} {a2 : Int} {b3 : TCounter} {r : TRights × Int × TCounter} (h : counter_Inc_1 a1 a2 b3 = some r) : CallSpec Pg 146 [.ptr 0 [] 0, .cptr ((V.int .i64) a1), .cptr ((V.int .i64) a2)] [.cells (E_TCounter b3)] fun o H' => o = .ret (.tup [E_TRights r.1, (V.int .i64) r.2.1]) ∧ H' = [.cells (E_TCounter r.2.2)] := by
  refine CallSpec.of_bodyF 12 1 fn146 rfl rfl rfl (Nat.le_of_ble_eq_true rfl) ?_
  replace h := Ok.of h
  unfold counter_Inc_1 at h
  refine AWp.seq ?_
  refine W.reg [0, 1] rfl ?_
  refine S.eff 3 rfl rfl (.nf (v2 := .ptr 1 [] 0) (H2 := [.cells (E_TCounter b3), .cells (E_TRights (default : TRights))]) (.alloc zv35) rfl rfl) trivial ?_
  refine S.sil 4 rfl rfl (fun _ hF => .assign cI) ?_
  refine S.nil ?_
  refine thenQ_n ?_
  refine AWp.seq ?_
  refine W.reg [0, 1, 2, 3, 4, 5, 6, 7, 8] rfl ?_
  refine S.sil 5 rfl rfl (fun _ hF => .fieldAddr lay37 rfl rfl (lk 2 rfl rfl)) ?_
  refine S.qui 6 rfl rfl (fun _ => .loadP sz35 ag35 (lk 0 rfl rfl) rfl (.st rfl (flL_c (show flen _ = 1 from rfl) (flL_c (show flen _ = 1 from rfl) (flL_c (show flen _ = 1 from rfl) (flL_c (ty_TRights.fl b3.Down) flL_nil)))) .nil) (by first | rfl | omega) (ty_TRights.fl b3.Up) rfl) ?_
  refine S.sil 7 rfl rfl (fun _ hF => .loadC sz3 ag3 (lk 5 rfl rfl) rfl rfl) ?_
  refine S.sil 8 rfl rfl (fun _ hF => .loadC sz3 ag3 (lk 7 rfl rfl) rfl rfl) ?_
  obtain ⟨r4, m4, h⟩ := h.bnd
  refine S.sil 9 rfl rfl (fun _ hF => .callQ ent147 cF (.c (lk 2 rfl rfl) (V.sub.refl _) (.c (lk 1 rfl rfl) (V.sub.refl _) (.c (lk 0 rfl rfl) (V.sub.refl _) .nil))) (C_rights_Use m4)) ?_
  refine S.sil 10 rfl rfl (fun _ hF => .extract (lk 0 rfl rfl) rfl) ?_
  refine S.sil 11 rfl rfl (fun _ hF => .extract (lk 1 rfl rfl) rfl) ?_
  refine S.effN rfl rfl (.nf (H2 := [.cells (E_TCounter b3), .cells (E_TRights r4.1)]) (.storeP sz35 (lk 8 rfl rfl) (lk 1 rfl rfl) rfl (.refl _) rfl .nil (by first | rfl | omega) .nil (ty_TRights.fl r4.1) (ty_TRights.fl (default : TRights)) rfl) rfl rfl) trivial ?_
  refine S.sil 4 rfl rfl (fun _ hF => .assign (lk 0 rfl rfl)) ?_
  refine S.nil ?_
  refine thenQ_n ?_
  refine AWp.prune (.eq (lk 0 rfl rfl) rfl (.eq (lk 9 rfl rfl) rfl .nil)) ?_
  refine AWp.ret ?_
  refine endF_wk (Wk.freeze 1 rfl rfl (.same (lk 0 rfl rfl) (.cons (lk 1 rfl rfl) rfl (.ptr .nil (by first | rfl | omega)) .nil)) (.refl _)) ?_
  obtain rfl := h.ret
  exact endFN rfl (Wk.selS [0] (by decide) rfl (SelE.leaf (lk 1 rfl rfl) rfl (.refl _) (fun m => (lt_cptr (ty_TRights.lt _ _))) (SelE.leaf (lk 0 rfl rfl) rfl (.refl _) (fun m => ((TyOk.int .i64).lt _ _)) .nil)) (.cons (lt_cells (ty_TCounter.lt _ _)) rfl (RSub.trans (.refl _) (.eq (ty_TCounter.cl _ _).symm)) .nil)) (.cons (.cellC sz35 ag35 (lk 0 rfl rfl) (ty_TRights.fl _) rfl) (.cons (.tmp (lk 1 rfl rfl) rfl) .nil)) rfl rfl rfl
end Go.Av
