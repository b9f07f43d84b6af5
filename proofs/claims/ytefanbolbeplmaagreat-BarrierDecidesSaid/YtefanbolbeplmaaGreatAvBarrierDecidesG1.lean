/- Each function tells what its mirror tells. -/
import Derived.Test.YtefanbolbeplmaaGreatAvBarrierDecidesM1
import Derived.Test.YtefanbolbeplmaaGreatProg
import Derived.KernelRfl
set_option linter.unusedSimpArgs false
set_option linter.unusedVariables false
set_option linter.unusedSectionVars false
namespace Go.Av
section
open Go.Proofs
set_option maxHeartbeats 4000000
set_option maxRecDepth 10000
@[irreducible] noncomputable def Pg : Program := Tryz.prog
theorem Pg_eq : Pg = Tryz.prog := by unfold Pg; rfl
theorem mixed : Pg.follows .mixedOrders = true := by kernel_rfl
theorem fn5 : Pg.funcs[5]? = some Tryz.f5 := by rw [Pg_eq]; exact Tryz.func5
theorem fn7 : Pg.funcs[7]? = some Tryz.f7 := by rw [Pg_eq]; exact Tryz.func7
theorem fn8 : Pg.funcs[8]? = some Tryz.f8 := by rw [Pg_eq]; exact Tryz.func8
theorem fn9 : Pg.funcs[9]? = some Tryz.f9 := by rw [Pg_eq]; exact Tryz.func9
theorem fn10 : Pg.funcs[10]? = some Tryz.f10 := by rw [Pg_eq]; exact Tryz.func10
theorem fn11 : Pg.funcs[11]? = some Tryz.f11 := by rw [Pg_eq]; exact Tryz.func11
theorem fn12 : Pg.funcs[12]? = some Tryz.f12 := by rw [Pg_eq]; exact Tryz.func12
theorem fn13 : Pg.funcs[13]? = some Tryz.f13 := by rw [Pg_eq]; exact Tryz.func13
theorem fn15 : Pg.funcs[15]? = some Tryz.f15 := by rw [Pg_eq]; exact Tryz.func15
theorem fn16 : Pg.funcs[16]? = some Tryz.f16 := by rw [Pg_eq]; exact Tryz.func16
theorem fn17 : Pg.funcs[17]? = some Tryz.f17 := by rw [Pg_eq]; exact Tryz.func17
theorem fn18 : Pg.funcs[18]? = some Tryz.f18 := by rw [Pg_eq]; exact Tryz.func18
theorem fn19 : Pg.funcs[19]? = some Tryz.f19 := by rw [Pg_eq]; exact Tryz.func19
theorem fn21 : Pg.funcs[21]? = some Tryz.f21 := by rw [Pg_eq]; exact Tryz.func21
theorem fn22 : Pg.funcs[22]? = some Tryz.f22 := by rw [Pg_eq]; exact Tryz.func22
theorem fn23 : Pg.funcs[23]? = some Tryz.f23 := by rw [Pg_eq]; exact Tryz.func23
theorem fn24 : Pg.funcs[24]? = some Tryz.f24 := by rw [Pg_eq]; exact Tryz.func24
theorem fn25 : Pg.funcs[25]? = some Tryz.f25 := by rw [Pg_eq]; exact Tryz.func25
theorem fn26 : Pg.funcs[26]? = some Tryz.f26 := by rw [Pg_eq]; exact Tryz.func26
theorem fn27 : Pg.funcs[27]? = some Tryz.f27 := by rw [Pg_eq]; exact Tryz.func27
theorem fn28 : Pg.funcs[28]? = some Tryz.f28 := by rw [Pg_eq]; exact Tryz.func28
theorem fn29 : Pg.funcs[29]? = some Tryz.f29 := by rw [Pg_eq]; exact Tryz.func29
theorem fn30 : Pg.funcs[30]? = some Tryz.f30 := by rw [Pg_eq]; exact Tryz.func30
theorem fn31 : Pg.funcs[31]? = some Tryz.f31 := by rw [Pg_eq]; exact Tryz.func31
theorem fn32 : Pg.funcs[32]? = some Tryz.f32 := by rw [Pg_eq]; exact Tryz.func32
theorem fn33 : Pg.funcs[33]? = some Tryz.f33 := by rw [Pg_eq]; exact Tryz.func33
theorem fn34 : Pg.funcs[34]? = some Tryz.f34 := by rw [Pg_eq]; exact Tryz.func34
theorem fn35 : Pg.funcs[35]? = some Tryz.f35 := by rw [Pg_eq]; exact Tryz.func35
theorem fn36 : Pg.funcs[36]? = some Tryz.f36 := by rw [Pg_eq]; exact Tryz.func36
theorem fn37 : Pg.funcs[37]? = some Tryz.f37 := by rw [Pg_eq]; exact Tryz.func37
theorem fn38 : Pg.funcs[38]? = some Tryz.f38 := by rw [Pg_eq]; exact Tryz.func38
theorem fn39 : Pg.funcs[39]? = some Tryz.f39 := by rw [Pg_eq]; exact Tryz.func39
theorem fn40 : Pg.funcs[40]? = some Tryz.f40 := by rw [Pg_eq]; exact Tryz.func40
theorem fn41 : Pg.funcs[41]? = some Tryz.f41 := by rw [Pg_eq]; exact Tryz.func41
theorem fn42 : Pg.funcs[42]? = some Tryz.f42 := by rw [Pg_eq]; exact Tryz.func42
theorem fn43 : Pg.funcs[43]? = some Tryz.f43 := by rw [Pg_eq]; exact Tryz.func43
theorem fn44 : Pg.funcs[44]? = some Tryz.f44 := by rw [Pg_eq]; exact Tryz.func44
theorem fn46 : Pg.funcs[46]? = some Tryz.f46 := by rw [Pg_eq]; exact Tryz.func46
theorem fn47 : Pg.funcs[47]? = some Tryz.f47 := by rw [Pg_eq]; exact Tryz.func47
theorem fn48 : Pg.funcs[48]? = some Tryz.f48 := by rw [Pg_eq]; exact Tryz.func48
theorem fn49 : Pg.funcs[49]? = some Tryz.f49 := by rw [Pg_eq]; exact Tryz.func49
theorem fn50 : Pg.funcs[50]? = some Tryz.f50 := by rw [Pg_eq]; exact Tryz.func50
theorem fn52 : Pg.funcs[52]? = some Tryz.f52 := by rw [Pg_eq]; exact Tryz.func52
theorem fn53 : Pg.funcs[53]? = some Tryz.f53 := by rw [Pg_eq]; exact Tryz.func53
theorem fn54 : Pg.funcs[54]? = some Tryz.f54 := by rw [Pg_eq]; exact Tryz.func54
theorem fn55 : Pg.funcs[55]? = some Tryz.f55 := by rw [Pg_eq]; exact Tryz.func55
theorem fn56 : Pg.funcs[56]? = some Tryz.f56 := by rw [Pg_eq]; exact Tryz.func56
theorem fn57 : Pg.funcs[57]? = some Tryz.f57 := by rw [Pg_eq]; exact Tryz.func57
theorem fn58 : Pg.funcs[58]? = some Tryz.f58 := by rw [Pg_eq]; exact Tryz.func58
theorem fn59 : Pg.funcs[59]? = some Tryz.f59 := by rw [Pg_eq]; exact Tryz.func59
theorem fn60 : Pg.funcs[60]? = some Tryz.f60 := by rw [Pg_eq]; exact Tryz.func60
theorem fn61 : Pg.funcs[61]? = some Tryz.f61 := by rw [Pg_eq]; exact Tryz.func61
theorem fn62 : Pg.funcs[62]? = some Tryz.f62 := by rw [Pg_eq]; exact Tryz.func62
theorem fn63 : Pg.funcs[63]? = some Tryz.f63 := by rw [Pg_eq]; exact Tryz.func63
theorem fn64 : Pg.funcs[64]? = some Tryz.f64 := by rw [Pg_eq]; exact Tryz.func64
theorem fn65 : Pg.funcs[65]? = some Tryz.f65 := by rw [Pg_eq]; exact Tryz.func65
theorem fn66 : Pg.funcs[66]? = some Tryz.f66 := by rw [Pg_eq]; exact Tryz.func66
theorem fn67 : Pg.funcs[67]? = some Tryz.f67 := by rw [Pg_eq]; exact Tryz.func67
theorem fn68 : Pg.funcs[68]? = some Tryz.f68 := by rw [Pg_eq]; exact Tryz.func68
theorem fn69 : Pg.funcs[69]? = some Tryz.f69 := by rw [Pg_eq]; exact Tryz.func69
theorem fn70 : Pg.funcs[70]? = some Tryz.f70 := by rw [Pg_eq]; exact Tryz.func70
theorem fn71 : Pg.funcs[71]? = some Tryz.f71 := by rw [Pg_eq]; exact Tryz.func71
theorem fn72 : Pg.funcs[72]? = some Tryz.f72 := by rw [Pg_eq]; exact Tryz.func72
theorem fn73 : Pg.funcs[73]? = some Tryz.f73 := by rw [Pg_eq]; exact Tryz.func73
theorem fn75 : Pg.funcs[75]? = some Tryz.f75 := by rw [Pg_eq]; exact Tryz.func75
theorem fn76 : Pg.funcs[76]? = some Tryz.f76 := by rw [Pg_eq]; exact Tryz.func76
theorem fn77 : Pg.funcs[77]? = some Tryz.f77 := by rw [Pg_eq]; exact Tryz.func77
theorem fn78 : Pg.funcs[78]? = some Tryz.f78 := by rw [Pg_eq]; exact Tryz.func78
theorem fn79 : Pg.funcs[79]? = some Tryz.f79 := by rw [Pg_eq]; exact Tryz.func79
theorem fn80 : Pg.funcs[80]? = some Tryz.f80 := by rw [Pg_eq]; exact Tryz.func80
theorem fn81 : Pg.funcs[81]? = some Tryz.f81 := by rw [Pg_eq]; exact Tryz.func81
theorem fn82 : Pg.funcs[82]? = some Tryz.f82 := by rw [Pg_eq]; exact Tryz.func82
theorem fn83 : Pg.funcs[83]? = some Tryz.f83 := by rw [Pg_eq]; exact Tryz.func83
theorem fn84 : Pg.funcs[84]? = some Tryz.f84 := by rw [Pg_eq]; exact Tryz.func84
theorem fn85 : Pg.funcs[85]? = some Tryz.f85 := by rw [Pg_eq]; exact Tryz.func85
theorem fn86 : Pg.funcs[86]? = some Tryz.f86 := by rw [Pg_eq]; exact Tryz.func86
theorem fn87 : Pg.funcs[87]? = some Tryz.f87 := by rw [Pg_eq]; exact Tryz.func87
theorem fn88 : Pg.funcs[88]? = some Tryz.f88 := by rw [Pg_eq]; exact Tryz.func88
theorem fn89 : Pg.funcs[89]? = some Tryz.f89 := by rw [Pg_eq]; exact Tryz.func89
theorem fn90 : Pg.funcs[90]? = some Tryz.f90 := by rw [Pg_eq]; exact Tryz.func90
theorem fn92 : Pg.funcs[92]? = some Tryz.f92 := by rw [Pg_eq]; exact Tryz.func92
theorem fn93 : Pg.funcs[93]? = some Tryz.f93 := by rw [Pg_eq]; exact Tryz.func93
theorem fn94 : Pg.funcs[94]? = some Tryz.f94 := by rw [Pg_eq]; exact Tryz.func94
theorem fn95 : Pg.funcs[95]? = some Tryz.f95 := by rw [Pg_eq]; exact Tryz.func95
theorem fn96 : Pg.funcs[96]? = some Tryz.f96 := by rw [Pg_eq]; exact Tryz.func96
theorem fn97 : Pg.funcs[97]? = some Tryz.f97 := by rw [Pg_eq]; exact Tryz.func97
theorem fn100 : Pg.funcs[100]? = some Tryz.f100 := by rw [Pg_eq]; exact Tryz.func100
theorem fn101 : Pg.funcs[101]? = some Tryz.f101 := by rw [Pg_eq]; exact Tryz.func101
theorem fn102 : Pg.funcs[102]? = some Tryz.f102 := by rw [Pg_eq]; exact Tryz.func102
theorem fn103 : Pg.funcs[103]? = some Tryz.f103 := by rw [Pg_eq]; exact Tryz.func103
theorem fn104 : Pg.funcs[104]? = some Tryz.f104 := by rw [Pg_eq]; exact Tryz.func104
theorem fn105 : Pg.funcs[105]? = some Tryz.f105 := by rw [Pg_eq]; exact Tryz.func105
theorem fn106 : Pg.funcs[106]? = some Tryz.f106 := by rw [Pg_eq]; exact Tryz.func106
theorem fn107 : Pg.funcs[107]? = some Tryz.f107 := by rw [Pg_eq]; exact Tryz.func107
theorem fn108 : Pg.funcs[108]? = some Tryz.f108 := by rw [Pg_eq]; exact Tryz.func108
theorem fn109 : Pg.funcs[109]? = some Tryz.f109 := by rw [Pg_eq]; exact Tryz.func109
theorem fn110 : Pg.funcs[110]? = some Tryz.f110 := by rw [Pg_eq]; exact Tryz.func110
theorem fn111 : Pg.funcs[111]? = some Tryz.f111 := by rw [Pg_eq]; exact Tryz.func111
theorem fn112 : Pg.funcs[112]? = some Tryz.f112 := by rw [Pg_eq]; exact Tryz.func112
theorem fn113 : Pg.funcs[113]? = some Tryz.f113 := by rw [Pg_eq]; exact Tryz.func113
theorem fn114 : Pg.funcs[114]? = some Tryz.f114 := by rw [Pg_eq]; exact Tryz.func114
theorem fn115 : Pg.funcs[115]? = some Tryz.f115 := by rw [Pg_eq]; exact Tryz.func115
theorem fn116 : Pg.funcs[116]? = some Tryz.f116 := by rw [Pg_eq]; exact Tryz.func116
theorem fn117 : Pg.funcs[117]? = some Tryz.f117 := by rw [Pg_eq]; exact Tryz.func117
theorem fn118 : Pg.funcs[118]? = some Tryz.f118 := by rw [Pg_eq]; exact Tryz.func118
theorem fn119 : Pg.funcs[119]? = some Tryz.f119 := by rw [Pg_eq]; exact Tryz.func119
theorem fn120 : Pg.funcs[120]? = some Tryz.f120 := by rw [Pg_eq]; exact Tryz.func120
theorem fn121 : Pg.funcs[121]? = some Tryz.f121 := by rw [Pg_eq]; exact Tryz.func121
theorem fn123 : Pg.funcs[123]? = some Tryz.f123 := by rw [Pg_eq]; exact Tryz.func123
theorem fn124 : Pg.funcs[124]? = some Tryz.f124 := by rw [Pg_eq]; exact Tryz.func124
theorem fn135 : Pg.funcs[135]? = some Tryz.f135 := by rw [Pg_eq]; exact Tryz.func135
theorem fn136 : Pg.funcs[136]? = some Tryz.f136 := by rw [Pg_eq]; exact Tryz.func136
theorem fn137 : Pg.funcs[137]? = some Tryz.f137 := by rw [Pg_eq]; exact Tryz.func137
theorem fn138 : Pg.funcs[138]? = some Tryz.f138 := by rw [Pg_eq]; exact Tryz.func138
theorem fn139 : Pg.funcs[139]? = some Tryz.f139 := by rw [Pg_eq]; exact Tryz.func139
theorem fn140 : Pg.funcs[140]? = some Tryz.f140 := by rw [Pg_eq]; exact Tryz.func140
theorem fn141 : Pg.funcs[141]? = some Tryz.f141 := by rw [Pg_eq]; exact Tryz.func141
theorem fn142 : Pg.funcs[142]? = some Tryz.f142 := by rw [Pg_eq]; exact Tryz.func142
theorem fn143 : Pg.funcs[143]? = some Tryz.f143 := by rw [Pg_eq]; exact Tryz.func143
theorem fn152 : Pg.funcs[152]? = some Tryz.f152 := by rw [Pg_eq]; exact Tryz.func152
theorem fn158 : Pg.funcs[158]? = some Tryz.f158 := by rw [Pg_eq]; exact Tryz.func158
theorem fn159 : Pg.funcs[159]? = some Tryz.f159 := by rw [Pg_eq]; exact Tryz.func159
theorem fn160 : Pg.funcs[160]? = some Tryz.f160 := by rw [Pg_eq]; exact Tryz.func160
theorem fn161 : Pg.funcs[161]? = some Tryz.f161 := by rw [Pg_eq]; exact Tryz.func161
theorem fn165 : Pg.funcs[165]? = some Tryz.f165 := by rw [Pg_eq]; exact Tryz.func165
theorem fn166 : Pg.funcs[166]? = some Tryz.f166 := by rw [Pg_eq]; exact Tryz.func166
theorem fn167 : Pg.funcs[167]? = some Tryz.f167 := by rw [Pg_eq]; exact Tryz.func167
theorem fn170 : Pg.funcs[170]? = some Tryz.f170 := by rw [Pg_eq]; exact Tryz.func170
theorem sz3 : szOf Pg 3 = some 1 := by kernel_rfl
theorem ag3 : aggOf Pg 3 = some false := by kernel_rfl
theorem und3 : Pg.underlying 3 = some (.int .i64) := by kernel_rfl
theorem zv3 : ZeroV Pg 3 (.int .i64 0) := ⟨((Pg.info? 3).bind (·.zero)).getD .nilFunc, (by kernel_rfl), (by kernel_rfl), (by kernel_rfl)⟩
theorem sz4 : szOf Pg 4 = some 1 := by kernel_rfl
theorem ag4 : aggOf Pg 4 = some false := by kernel_rfl
theorem zv4 : ZeroV Pg 4 (.bool false) := ⟨((Pg.info? 4).bind (·.zero)).getD .nilFunc, (by kernel_rfl), (by kernel_rfl), (by kernel_rfl)⟩
theorem sz9 : szOf Pg 9 = some 1 := by kernel_rfl
theorem ag9 : aggOf Pg 9 = some false := by kernel_rfl
theorem und9 : Pg.underlying 9 = some .string := by kernel_rfl
theorem zv9 : ZeroV Pg 9 (.str ⟨#[]⟩) := ⟨((Pg.info? 9).bind (·.zero)).getD .nilFunc, (by kernel_rfl), (by kernel_rfl), (by kernel_rfl)⟩
theorem sz22 : szOf Pg 22 = some 1 := by kernel_rfl
theorem ag22 : aggOf Pg 22 = some false := by kernel_rfl
theorem sli22 : sliOf Pg 22 = some (49, 587, true, 4720) := by kernel_rfl
theorem und22 : Pg.underlying 22 = some (.slice 49) := by kernel_rfl
theorem sz24 : szOf Pg 24 = some 5 := by kernel_rfl
theorem ag24 : aggOf Pg 24 = some true := by kernel_rfl
theorem lay24 : layOf Pg 24 = some [(0, 1, false), (1, 1, false), (2, 1, false), (3, 1, false), (4, 1, false)] := by kernel_rfl
theorem zv24 : ZeroV Pg 24 (.st [.int .i64 0, .str ⟨#[]⟩, .str ⟨#[]⟩, .int .i64 0, .int .i64 0]) := ⟨((Pg.info? 24).bind (·.zero)).getD .nilFunc, (by kernel_rfl), (by kernel_rfl), (by kernel_rfl)⟩
theorem sz29 : szOf Pg 29 = some 14 := by kernel_rfl
theorem ag29 : aggOf Pg 29 = some true := by kernel_rfl
theorem lay29 : layOf Pg 29 = some [(0, 1, false), (1, 1, false), (2, 1, false), (3, 1, false), (4, 5, true), (9, 1, false), (10, 1, false), (11, 1, false), (12, 1, false), (13, 1, false)] := by kernel_rfl
theorem zv29 : ZeroV Pg 29 (.st [.int .i64 0, .int .i64 0, .int .i64 0, .int .i64 0, .st [.int .i64 0, .str ⟨#[]⟩, .str ⟨#[]⟩, .int .i64 0, .int .i64 0], .int .i64 0, .int .i64 0, .int .i64 0, .nils, .nils]) := ⟨((Pg.info? 29).bind (·.zero)).getD .nilFunc, (by kernel_rfl), (by kernel_rfl), (by kernel_rfl)⟩
theorem sz30 : szOf Pg 30 = some 1 := by kernel_rfl
theorem ag30 : aggOf Pg 30 = some false := by kernel_rfl
theorem und30 : Pg.underlying 30 = some (.int .i64) := by kernel_rfl
theorem zv30 : ZeroV Pg 30 (.int .i64 0) := ⟨((Pg.info? 30).bind (·.zero)).getD .nilFunc, (by kernel_rfl), (by kernel_rfl), (by kernel_rfl)⟩
theorem sz39 : szOf Pg 39 = some 16 := by kernel_rfl
theorem ag39 : aggOf Pg 39 = some true := by kernel_rfl
theorem arr39 : arrOf Pg 39 = some (16, 1, false) := by kernel_rfl
theorem zv39 : ZeroV Pg 39 (.arr 1 (List.replicate 16 (.int .i64 0))) := ⟨((Pg.info? 39).bind (·.zero)).getD .nilFunc, (by kernel_rfl), (by kernel_rfl), (by kernel_rfl)⟩
theorem sz40 : szOf Pg 40 = some 256 := by kernel_rfl
theorem ag40 : aggOf Pg 40 = some true := by kernel_rfl
theorem arr40 : arrOf Pg 40 = some (16, 16, true) := by kernel_rfl
theorem sz42 : szOf Pg 42 = some 288 := by kernel_rfl
theorem ag42 : aggOf Pg 42 = some true := by kernel_rfl
theorem lay42 : layOf Pg 42 = some [(0, 16, true), (16, 16, true), (32, 256, true)] := by kernel_rfl
theorem zv42 : ZeroV Pg 42 (.st [.arr 1 (List.replicate 16 (.int .i64 0)), .arr 1 (List.replicate 16 (.int .i64 0)), .arr 16 (List.replicate 16 (.arr 1 (List.replicate 16 (.int .i64 0))))]) := ⟨((Pg.info? 42).bind (·.zero)).getD .nilFunc, (by kernel_rfl), (by kernel_rfl), (by kernel_rfl)⟩
theorem sz44 : szOf Pg 44 = some 579 := by kernel_rfl
theorem ag44 : aggOf Pg 44 = some true := by kernel_rfl
theorem lay44 : layOf Pg 44 = some [(0, 1, false), (1, 1, false), (2, 1, false), (3, 288, true), (291, 288, true)] := by kernel_rfl
theorem zv44 : ZeroV Pg 44 (.st [.int .i64 0, .int .i64 0, .int .i64 0, .st [.arr 1 (List.replicate 16 (.int .i64 0)), .arr 1 (List.replicate 16 (.int .i64 0)), .arr 16 (List.replicate 16 (.arr 1 (List.replicate 16 (.int .i64 0))))], .st [.arr 1 (List.replicate 16 (.int .i64 0)), .arr 1 (List.replicate 16 (.int .i64 0)), .arr 16 (List.replicate 16 (.arr 1 (List.replicate 16 (.int .i64 0))))]]) := ⟨((Pg.info? 44).bind (·.zero)).getD .nilFunc, (by kernel_rfl), (by kernel_rfl), (by kernel_rfl)⟩
theorem sz46 : szOf Pg 46 = some 4 := by kernel_rfl
theorem ag46 : aggOf Pg 46 = some true := by kernel_rfl
theorem lay46 : layOf Pg 46 = some [(0, 1, false), (1, 1, false), (2, 1, false), (3, 1, false)] := by kernel_rfl
theorem zv46 : ZeroV Pg 46 (.st [.int .i64 0, .int .i64 0, .int .i64 0, .int .i64 0]) := ⟨((Pg.info? 46).bind (·.zero)).getD .nilFunc, (by kernel_rfl), (by kernel_rfl), (by kernel_rfl)⟩
theorem sz47 : szOf Pg 47 = some 1 := by kernel_rfl
theorem ag47 : aggOf Pg 47 = some false := by kernel_rfl
theorem sli47 : sliOf Pg 47 = some (106, 5, true, 40) := by kernel_rfl
theorem und47 : Pg.underlying 47 = some (.slice 106) := by kernel_rfl
theorem sz49 : szOf Pg 49 = some 587 := by kernel_rfl
theorem ag49 : aggOf Pg 49 = some true := by kernel_rfl
theorem lay49 : layOf Pg 49 = some [(0, 1, false), (1, 1, false), (2, 1, false), (3, 579, true), (582, 4, true), (586, 1, false)] := by kernel_rfl
theorem zv49 : ZeroV Pg 49 (.st [.str ⟨#[]⟩, .int .i64 0, .int .i64 0, .st [.int .i64 0, .int .i64 0, .int .i64 0, .st [.arr 1 (List.replicate 16 (.int .i64 0)), .arr 1 (List.replicate 16 (.int .i64 0)), .arr 16 (List.replicate 16 (.arr 1 (List.replicate 16 (.int .i64 0))))], .st [.arr 1 (List.replicate 16 (.int .i64 0)), .arr 1 (List.replicate 16 (.int .i64 0)), .arr 16 (List.replicate 16 (.arr 1 (List.replicate 16 (.int .i64 0))))]], .st [.int .i64 0, .int .i64 0, .int .i64 0, .int .i64 0], .nils]) := ⟨((Pg.info? 49).bind (·.zero)).getD .nilFunc, (by kernel_rfl), (by kernel_rfl), (by kernel_rfl)⟩
theorem sli52 : sliOf Pg 52 = some (59, 9, true, 104) := by kernel_rfl
theorem sz54 : szOf Pg 54 = some 1 := by kernel_rfl
theorem ag54 : aggOf Pg 54 = some false := by kernel_rfl
theorem sli54 : sliOf Pg 54 = some (4, 1, false, 1) := by kernel_rfl
theorem und54 : Pg.underlying 54 = some (.slice 4) := by kernel_rfl
theorem sz56 : szOf Pg 56 = some 14 := by kernel_rfl
theorem ag56 : aggOf Pg 56 = some true := by kernel_rfl
theorem lay56 : layOf Pg 56 = some [(0, 1, false), (1, 1, false), (2, 1, false), (3, 1, false), (4, 5, true), (9, 1, false), (10, 1, false), (11, 1, false), (12, 1, false), (13, 1, false)] := by kernel_rfl
theorem zv56 : ZeroV Pg 56 (.st [.int .i64 0, .int .i64 0, .int .i64 0, .int .i64 0, .st [.int .i64 0, .str ⟨#[]⟩, .str ⟨#[]⟩, .int .i64 0, .int .i64 0], .int .i64 0, .nils, .nils, .nils, .nils]) := ⟨((Pg.info? 56).bind (·.zero)).getD .nilFunc, (by kernel_rfl), (by kernel_rfl), (by kernel_rfl)⟩
theorem sz59 : szOf Pg 59 = some 9 := by kernel_rfl
theorem ag59 : aggOf Pg 59 = some true := by kernel_rfl
theorem lay59 : layOf Pg 59 = some [(0, 1, false), (1, 1, false), (2, 1, false), (3, 5, true), (8, 1, false)] := by kernel_rfl
theorem zv59 : ZeroV Pg 59 (.st [.int .i64 0, .int .i64 0, .int .i64 0, .st [.int .i64 0, .str ⟨#[]⟩, .str ⟨#[]⟩, .int .i64 0, .int .i64 0], .nils]) := ⟨((Pg.info? 59).bind (·.zero)).getD .nilFunc, (by kernel_rfl), (by kernel_rfl), (by kernel_rfl)⟩
theorem sz77 : szOf Pg 77 = some 1 := by kernel_rfl
theorem ag77 : aggOf Pg 77 = some false := by kernel_rfl
theorem zv77 : ZeroV Pg 77 (.nilfn) := ⟨((Pg.info? 77).bind (·.zero)).getD .nilFunc, (by kernel_rfl), (by kernel_rfl), (by kernel_rfl)⟩
theorem sli102 : sliOf Pg 102 = some (9, 1, false, 16) := by kernel_rfl
theorem sz106 : szOf Pg 106 = some 5 := by kernel_rfl
theorem ag106 : aggOf Pg 106 = some true := by kernel_rfl
theorem lay106 : layOf Pg 106 = some [(0, 1, false), (1, 1, false), (2, 1, false), (3, 1, false), (4, 1, false)] := by kernel_rfl
theorem zv106 : ZeroV Pg 106 (.st [.int .i64 0, .int .i64 0, .int .i64 0, .int .i64 0, .int .i64 0]) := ⟨((Pg.info? 106).bind (·.zero)).getD .nilFunc, (by kernel_rfl), (by kernel_rfl), (by kernel_rfl)⟩
theorem sz107 : szOf Pg 107 = some 1 := by kernel_rfl
theorem ag107 : aggOf Pg 107 = some false := by kernel_rfl
theorem zv107 : ZeroV Pg 107 (.nilfn) := ⟨((Pg.info? 107).bind (·.zero)).getD .nilFunc, (by kernel_rfl), (by kernel_rfl), (by kernel_rfl)⟩
theorem und124 : Pg.underlying 124 = some (.map 3 77) := by kernel_rfl
theorem und131 : Pg.underlying 131 = some (.map 132 3) := by kernel_rfl
theorem sz132 : szOf Pg 132 = some 2 := by kernel_rfl
theorem arr132 : arrOf Pg 132 = some (2, 1, false) := by kernel_rfl
theorem zv132 : ZeroV Pg 132 (.arr 1 (List.replicate 2 (.int .i64 0))) := ⟨((Pg.info? 132).bind (·.zero)).getD .nilFunc, (by kernel_rfl), (by kernel_rfl), (by kernel_rfl)⟩
theorem sz142 : szOf Pg 142 = some 1 := by kernel_rfl
theorem ag142 : aggOf Pg 142 = some false := by kernel_rfl
theorem sli142 : sliOf Pg 142 = some (3, 1, false, 8) := by kernel_rfl
theorem und142 : Pg.underlying 142 = some (.slice 3) := by kernel_rfl
theorem arr152 : arrOf Pg 152 = some (2, 2, true) := by kernel_rfl
theorem zv152 : ZeroV Pg 152 (.arr 2 (List.replicate 2 (.arr 1 (List.replicate 2 (.int .i64 0))))) := ⟨((Pg.info? 152).bind (·.zero)).getD .nilFunc, (by kernel_rfl), (by kernel_rfl), (by kernel_rfl)⟩
theorem arr153 : arrOf Pg 153 = some (4, 2, true) := by kernel_rfl
theorem zv153 : ZeroV Pg 153 (.arr 2 (List.replicate 4 (.arr 1 (List.replicate 2 (.int .i64 0))))) := ⟨((Pg.info? 153).bind (·.zero)).getD .nilFunc, (by kernel_rfl), (by kernel_rfl), (by kernel_rfl)⟩
theorem key132 : Maps.Keyed Pg 132 := .of_law (deep_law_gate (by kernel_rfl) (of_decide_eq_true (by kernel_rfl)) (of_decide_eq_true (by kernel_rfl)) (by kernel_rfl) (by kernel_rfl))
theorem kt132 : KeyT Pg 132 E_A2_i64 okInts := keyT_ints (e := 3) (by kernel_rfl) (by kernel_rfl) (by kernel_rfl) (by kernel_rfl) (by kernel_rfl) (of_decide_eq_true (by kernel_rfl))
theorem eqt44 : EqT Pg 44 (.st [(0, .int .i64), (1, .int .i64), (2, .int .i64), (3, .st [(0, .arr 16 1 (.int .i64)), (16, .arr 16 1 (.int .i64)), (32, .arr 16 16 (.arr 16 1 (.int .i64)))] 288), (291, .st [(0, .arr 16 1 (.int .i64)), (16, .arr 16 1 (.int .i64)), (32, .arr 16 16 (.arr 16 1 (.int .i64)))] 288)] 579) := ⟨by kernel_rfl, by kernel_rfl⟩
theorem eqt46 : EqT Pg 46 (.st [(0, .int .i64), (1, .int .i64), (2, .int .i64), (3, .int .i64)] 4) := ⟨by kernel_rfl, by kernel_rfl⟩
theorem ent7 : enters Pg 7 = true := by kernel_rfl
theorem ent8 : enters Pg 8 = true := by kernel_rfl
theorem ent9 : enters Pg 9 = true := by kernel_rfl
theorem ent10 : enters Pg 10 = true := by kernel_rfl
theorem ent11 : enters Pg 11 = true := by kernel_rfl
theorem ent12 : enters Pg 12 = true := by kernel_rfl
theorem ent13 : enters Pg 13 = true := by kernel_rfl
theorem ent15 : enters Pg 15 = true := by kernel_rfl
theorem ent16 : enters Pg 16 = true := by kernel_rfl
theorem ent17 : enters Pg 17 = true := by kernel_rfl
theorem ent18 : enters Pg 18 = true := by kernel_rfl
theorem ent19 : enters Pg 19 = true := by kernel_rfl
theorem ent21 : enters Pg 21 = true := by kernel_rfl
theorem ent22 : enters Pg 22 = true := by kernel_rfl
theorem ent23 : enters Pg 23 = true := by kernel_rfl
theorem ent24 : enters Pg 24 = true := by kernel_rfl
theorem ent25 : enters Pg 25 = true := by kernel_rfl
theorem ent26 : enters Pg 26 = true := by kernel_rfl
theorem ent27 : enters Pg 27 = true := by kernel_rfl
theorem ent28 : enters Pg 28 = true := by kernel_rfl
theorem ent29 : enters Pg 29 = true := by kernel_rfl
theorem ent30 : enters Pg 30 = true := by kernel_rfl
theorem ent31 : enters Pg 31 = true := by kernel_rfl
theorem ent32 : enters Pg 32 = true := by kernel_rfl
theorem ent33 : enters Pg 33 = true := by kernel_rfl
theorem ent34 : enters Pg 34 = true := by kernel_rfl
theorem ent35 : enters Pg 35 = true := by kernel_rfl
theorem ent36 : enters Pg 36 = true := by kernel_rfl
theorem ent37 : enters Pg 37 = true := by kernel_rfl
theorem ent38 : enters Pg 38 = true := by kernel_rfl
theorem ent39 : enters Pg 39 = true := by kernel_rfl
theorem ent40 : enters Pg 40 = true := by kernel_rfl
theorem ent41 : enters Pg 41 = true := by kernel_rfl
theorem ent42 : enters Pg 42 = true := by kernel_rfl
theorem ent43 : enters Pg 43 = true := by kernel_rfl
theorem ent44 : enters Pg 44 = true := by kernel_rfl
theorem ent46 : enters Pg 46 = true := by kernel_rfl
theorem ent47 : enters Pg 47 = true := by kernel_rfl
theorem ent48 : enters Pg 48 = true := by kernel_rfl
theorem ent49 : enters Pg 49 = true := by kernel_rfl
theorem ent50 : enters Pg 50 = true := by kernel_rfl
theorem ent52 : enters Pg 52 = true := by kernel_rfl
theorem ent53 : enters Pg 53 = true := by kernel_rfl
theorem ent54 : enters Pg 54 = true := by kernel_rfl
theorem ent55 : enters Pg 55 = true := by kernel_rfl
theorem ent56 : enters Pg 56 = true := by kernel_rfl
theorem ent57 : enters Pg 57 = true := by kernel_rfl
theorem ent58 : enters Pg 58 = true := by kernel_rfl
theorem ent59 : enters Pg 59 = true := by kernel_rfl
theorem ent60 : enters Pg 60 = true := by kernel_rfl
theorem ent61 : enters Pg 61 = true := by kernel_rfl
theorem ent62 : enters Pg 62 = true := by kernel_rfl
theorem ent63 : enters Pg 63 = true := by kernel_rfl
theorem ent64 : enters Pg 64 = true := by kernel_rfl
theorem ent65 : enters Pg 65 = true := by kernel_rfl
theorem ent66 : enters Pg 66 = true := by kernel_rfl
theorem ent67 : enters Pg 67 = true := by kernel_rfl
theorem ent68 : enters Pg 68 = true := by kernel_rfl
theorem ent69 : enters Pg 69 = true := by kernel_rfl
theorem ent70 : enters Pg 70 = true := by kernel_rfl
theorem ent71 : enters Pg 71 = true := by kernel_rfl
theorem ent72 : enters Pg 72 = true := by kernel_rfl
theorem ent73 : enters Pg 73 = true := by kernel_rfl
theorem ent74 : enters Pg 74 = true := by kernel_rfl
theorem ent75 : enters Pg 75 = true := by kernel_rfl
theorem ent76 : enters Pg 76 = true := by kernel_rfl
theorem ent77 : enters Pg 77 = true := by kernel_rfl
theorem ent78 : enters Pg 78 = true := by kernel_rfl
theorem ent79 : enters Pg 79 = true := by kernel_rfl
theorem ent80 : enters Pg 80 = true := by kernel_rfl
theorem ent81 : enters Pg 81 = true := by kernel_rfl
theorem ent82 : enters Pg 82 = true := by kernel_rfl
theorem ent83 : enters Pg 83 = true := by kernel_rfl
theorem ent84 : enters Pg 84 = true := by kernel_rfl
theorem ent85 : enters Pg 85 = true := by kernel_rfl
theorem ent86 : enters Pg 86 = true := by kernel_rfl
theorem ent87 : enters Pg 87 = true := by kernel_rfl
theorem ent88 : enters Pg 88 = true := by kernel_rfl
theorem ent89 : enters Pg 89 = true := by kernel_rfl
theorem ent90 : enters Pg 90 = true := by kernel_rfl
theorem ent91 : enters Pg 91 = true := by kernel_rfl
theorem ent92 : enters Pg 92 = true := by kernel_rfl
theorem ent93 : enters Pg 93 = true := by kernel_rfl
theorem ent94 : enters Pg 94 = true := by kernel_rfl
theorem ent95 : enters Pg 95 = true := by kernel_rfl
theorem ent96 : enters Pg 96 = true := by kernel_rfl
theorem ent97 : enters Pg 97 = true := by kernel_rfl
theorem ent100 : enters Pg 100 = true := by kernel_rfl
theorem ent101 : enters Pg 101 = true := by kernel_rfl
theorem ent102 : enters Pg 102 = true := by kernel_rfl
theorem ent103 : enters Pg 103 = true := by kernel_rfl
theorem ent104 : enters Pg 104 = true := by kernel_rfl
theorem ent105 : enters Pg 105 = true := by kernel_rfl
theorem ent106 : enters Pg 106 = true := by kernel_rfl
theorem ent107 : enters Pg 107 = true := by kernel_rfl
theorem ent108 : enters Pg 108 = true := by kernel_rfl
theorem ent109 : enters Pg 109 = true := by kernel_rfl
theorem ent110 : enters Pg 110 = true := by kernel_rfl
theorem ent111 : enters Pg 111 = true := by kernel_rfl
theorem ent112 : enters Pg 112 = true := by kernel_rfl
theorem ent113 : enters Pg 113 = true := by kernel_rfl
theorem ent114 : enters Pg 114 = true := by kernel_rfl
theorem ent115 : enters Pg 115 = true := by kernel_rfl
theorem ent116 : enters Pg 116 = true := by kernel_rfl
theorem ent117 : enters Pg 117 = true := by kernel_rfl
theorem ent118 : enters Pg 118 = true := by kernel_rfl
theorem ent119 : enters Pg 119 = true := by kernel_rfl
theorem ent120 : enters Pg 120 = true := by kernel_rfl
theorem ent121 : enters Pg 121 = true := by kernel_rfl
theorem ent123 : enters Pg 123 = true := by kernel_rfl
theorem ent124 : enters Pg 124 = true := by kernel_rfl
theorem ent135 : enters Pg 135 = true := by kernel_rfl
theorem ent136 : enters Pg 136 = true := by kernel_rfl
theorem ent137 : enters Pg 137 = true := by kernel_rfl
theorem ent138 : enters Pg 138 = true := by kernel_rfl
theorem ent139 : enters Pg 139 = true := by kernel_rfl
theorem ent140 : enters Pg 140 = true := by kernel_rfl
theorem ent141 : enters Pg 141 = true := by kernel_rfl
theorem ent142 : enters Pg 142 = true := by kernel_rfl
theorem ent143 : enters Pg 143 = true := by kernel_rfl
theorem ent152 : enters Pg 152 = true := by kernel_rfl
theorem ent158 : enters Pg 158 = true := by kernel_rfl
theorem ent159 : enters Pg 159 = true := by kernel_rfl
theorem ent160 : enters Pg 160 = true := by kernel_rfl
theorem ent161 : enters Pg 161 = true := by kernel_rfl
theorem ent165 : enters Pg 165 = true := by kernel_rfl
theorem ent166 : enters Pg 166 = true := by kernel_rfl
theorem ent167 : enters Pg 167 = true := by kernel_rfl
theorem ent170 : enters Pg 170 = true := by kernel_rfl
instance : AgT Pg 3 false := ⟨ag3⟩
instance : AgT Pg 4 false := ⟨ag4⟩
instance : AgT Pg 9 false := ⟨ag9⟩
instance : AgT Pg 22 false := ⟨ag22⟩
instance : AgT Pg 24 true := ⟨ag24⟩
instance : AgT Pg 29 true := ⟨ag29⟩
instance : AgT Pg 39 true := ⟨ag39⟩
instance : AgT Pg 40 true := ⟨ag40⟩
instance : AgT Pg 42 true := ⟨ag42⟩
instance : AgT Pg 44 true := ⟨ag44⟩
instance : AgT Pg 46 true := ⟨ag46⟩
instance : AgT Pg 47 false := ⟨ag47⟩
instance : AgT Pg 49 true := ⟨ag49⟩
instance : AgT Pg 54 false := ⟨ag54⟩
instance : AgT Pg 56 true := ⟨ag56⟩
instance : AgT Pg 59 true := ⟨ag59⟩
instance : AgT Pg 77 false := ⟨ag77⟩
instance : AgT Pg 106 true := ⟨ag106⟩
instance : AgT Pg 107 false := ⟨ag107⟩
instance : AgT Pg 142 false := ⟨ag142⟩
instance : EnT Pg 7 := ⟨ent7⟩
instance : EnT Pg 8 := ⟨ent8⟩
instance : EnT Pg 9 := ⟨ent9⟩
instance : EnT Pg 10 := ⟨ent10⟩
instance : EnT Pg 11 := ⟨ent11⟩
instance : EnT Pg 12 := ⟨ent12⟩
instance : EnT Pg 13 := ⟨ent13⟩
instance : EnT Pg 15 := ⟨ent15⟩
instance : EnT Pg 16 := ⟨ent16⟩
instance : EnT Pg 17 := ⟨ent17⟩
instance : EnT Pg 18 := ⟨ent18⟩
instance : EnT Pg 19 := ⟨ent19⟩
instance : EnT Pg 21 := ⟨ent21⟩
instance : EnT Pg 22 := ⟨ent22⟩
instance : EnT Pg 23 := ⟨ent23⟩
instance : EnT Pg 24 := ⟨ent24⟩
instance : EnT Pg 25 := ⟨ent25⟩
instance : EnT Pg 29 := ⟨ent29⟩
instance : EnT Pg 30 := ⟨ent30⟩
instance : EnT Pg 31 := ⟨ent31⟩
instance : EnT Pg 32 := ⟨ent32⟩
instance : EnT Pg 33 := ⟨ent33⟩
instance : EnT Pg 34 := ⟨ent34⟩
instance : EnT Pg 35 := ⟨ent35⟩
instance : EnT Pg 36 := ⟨ent36⟩
instance : EnT Pg 37 := ⟨ent37⟩
instance : EnT Pg 38 := ⟨ent38⟩
instance : EnT Pg 39 := ⟨ent39⟩
instance : EnT Pg 41 := ⟨ent41⟩
instance : EnT Pg 42 := ⟨ent42⟩
instance : EnT Pg 43 := ⟨ent43⟩
instance : EnT Pg 44 := ⟨ent44⟩
instance : EnT Pg 46 := ⟨ent46⟩
instance : EnT Pg 47 := ⟨ent47⟩
instance : EnT Pg 48 := ⟨ent48⟩
instance : EnT Pg 49 := ⟨ent49⟩
instance : EnT Pg 50 := ⟨ent50⟩
instance : EnT Pg 52 := ⟨ent52⟩
instance : EnT Pg 53 := ⟨ent53⟩
instance : EnT Pg 54 := ⟨ent54⟩
instance : EnT Pg 55 := ⟨ent55⟩
instance : EnT Pg 56 := ⟨ent56⟩
instance : EnT Pg 57 := ⟨ent57⟩
instance : EnT Pg 58 := ⟨ent58⟩
instance : EnT Pg 59 := ⟨ent59⟩
instance : EnT Pg 63 := ⟨ent63⟩
instance : EnT Pg 64 := ⟨ent64⟩
instance : EnT Pg 65 := ⟨ent65⟩
instance : EnT Pg 66 := ⟨ent66⟩
instance : EnT Pg 67 := ⟨ent67⟩
instance : EnT Pg 68 := ⟨ent68⟩
instance : EnT Pg 70 := ⟨ent70⟩
instance : EnT Pg 71 := ⟨ent71⟩
instance : EnT Pg 72 := ⟨ent72⟩
instance : EnT Pg 76 := ⟨ent76⟩
instance : EnT Pg 77 := ⟨ent77⟩
instance : EnT Pg 78 := ⟨ent78⟩
instance : EnT Pg 79 := ⟨ent79⟩
instance : EnT Pg 80 := ⟨ent80⟩
instance : EnT Pg 81 := ⟨ent81⟩
instance : EnT Pg 82 := ⟨ent82⟩
instance : EnT Pg 84 := ⟨ent84⟩
instance : EnT Pg 85 := ⟨ent85⟩
instance : EnT Pg 86 := ⟨ent86⟩
instance : EnT Pg 87 := ⟨ent87⟩
instance : EnT Pg 88 := ⟨ent88⟩
instance : EnT Pg 89 := ⟨ent89⟩
instance : EnT Pg 90 := ⟨ent90⟩
instance : EnT Pg 92 := ⟨ent92⟩
instance : EnT Pg 93 := ⟨ent93⟩
instance : EnT Pg 94 := ⟨ent94⟩
instance : EnT Pg 96 := ⟨ent96⟩
instance : EnT Pg 97 := ⟨ent97⟩
instance : EnT Pg 100 := ⟨ent100⟩
instance : EnT Pg 101 := ⟨ent101⟩
instance : EnT Pg 102 := ⟨ent102⟩
instance : EnT Pg 103 := ⟨ent103⟩
instance : EnT Pg 104 := ⟨ent104⟩
instance : EnT Pg 105 := ⟨ent105⟩
instance : EnT Pg 106 := ⟨ent106⟩
instance : EnT Pg 114 := ⟨ent114⟩
instance : EnT Pg 115 := ⟨ent115⟩
instance : EnT Pg 116 := ⟨ent116⟩
instance : EnT Pg 117 := ⟨ent117⟩
instance : EnT Pg 118 := ⟨ent118⟩
instance : EnT Pg 120 := ⟨ent120⟩
instance : EnT Pg 121 := ⟨ent121⟩
instance : EnT Pg 123 := ⟨ent123⟩
instance : EnT Pg 124 := ⟨ent124⟩
instance : EnT Pg 135 := ⟨ent135⟩
instance : EnT Pg 137 := ⟨ent137⟩
instance : EnT Pg 138 := ⟨ent138⟩
instance : EnT Pg 139 := ⟨ent139⟩
instance : EnT Pg 141 := ⟨ent141⟩
instance : EnT Pg 142 := ⟨ent142⟩
instance : EnT Pg 143 := ⟨ent143⟩
instance : EnT Pg 152 := ⟨ent152⟩
instance : EnT Pg 158 := ⟨ent158⟩
instance : EnT Pg 159 := ⟨ent159⟩
instance : EnT Pg 160 := ⟨ent160⟩
instance : EnT Pg 161 := ⟨ent161⟩
instance : EnT Pg 165 := ⟨ent165⟩
instance : EnT Pg 167 := ⟨ent167⟩
instance : LayT Pg 24 [(0, 1, false), (1, 1, false), (2, 1, false), (3, 1, false), (4, 1, false)] := ⟨lay24⟩
instance : LayT Pg 29 [(0, 1, false), (1, 1, false), (2, 1, false), (3, 1, false), (4, 5, true), (9, 1, false), (10, 1, false), (11, 1, false), (12, 1, false), (13, 1, false)] := ⟨lay29⟩
instance : LayT Pg 42 [(0, 16, true), (16, 16, true), (32, 256, true)] := ⟨lay42⟩
instance : LayT Pg 44 [(0, 1, false), (1, 1, false), (2, 1, false), (3, 288, true), (291, 288, true)] := ⟨lay44⟩
instance : LayT Pg 46 [(0, 1, false), (1, 1, false), (2, 1, false), (3, 1, false)] := ⟨lay46⟩
instance : LayT Pg 49 [(0, 1, false), (1, 1, false), (2, 1, false), (3, 579, true), (582, 4, true), (586, 1, false)] := ⟨lay49⟩
instance : LayT Pg 56 [(0, 1, false), (1, 1, false), (2, 1, false), (3, 1, false), (4, 5, true), (9, 1, false), (10, 1, false), (11, 1, false), (12, 1, false), (13, 1, false)] := ⟨lay56⟩
instance : LayT Pg 59 [(0, 1, false), (1, 1, false), (2, 1, false), (3, 5, true), (8, 1, false)] := ⟨lay59⟩
instance : LayT Pg 106 [(0, 1, false), (1, 1, false), (2, 1, false), (3, 1, false), (4, 1, false)] := ⟨lay106⟩
instance : SzT Pg 3 1 := ⟨sz3⟩
instance : SzT Pg 4 1 := ⟨sz4⟩
instance : SzT Pg 9 1 := ⟨sz9⟩
instance : SzT Pg 22 1 := ⟨sz22⟩
instance : SzT Pg 24 5 := ⟨sz24⟩
instance : SzT Pg 29 14 := ⟨sz29⟩
instance : SzT Pg 39 16 := ⟨sz39⟩
instance : SzT Pg 40 256 := ⟨sz40⟩
instance : SzT Pg 42 288 := ⟨sz42⟩
instance : SzT Pg 44 579 := ⟨sz44⟩
instance : SzT Pg 46 4 := ⟨sz46⟩
instance : SzT Pg 47 1 := ⟨sz47⟩
instance : SzT Pg 49 587 := ⟨sz49⟩
instance : SzT Pg 54 1 := ⟨sz54⟩
instance : SzT Pg 56 14 := ⟨sz56⟩
instance : SzT Pg 59 9 := ⟨sz59⟩
instance : SzT Pg 77 1 := ⟨sz77⟩
instance : SzT Pg 106 5 := ⟨sz106⟩
instance : SzT Pg 107 1 := ⟨sz107⟩
instance : SzT Pg 132 2 := ⟨sz132⟩
instance : SzT Pg 142 1 := ⟨sz142⟩
abbrev z29 : V := .st [(V.int .i64) 0, (V.int .i64) 0, (V.int .i64) 0, (V.int .i64) 0, E_TPlan (default : TPlan), (V.int .i64) 0, (V.int .i64) 0, (V.int .i64) 0, .nils, .nils]
abbrev z49 : V := .st [V.str (default : ByteArray), (V.int .i64) 0, (V.int .i64) 0, aF (default : aJ), E_TLock (default : TLock), .nils]
abbrev z56 : V := .st [(V.int .i64) 0, (V.int .i64) 0, (V.int .i64) 0, (V.int .i64) 0, E_TPlan (default : TPlan), (V.int .i64) 0, .nils, .nils, .nils, .nils]
abbrev z59 : V := .st [(V.int .i64) 0, (V.int .i64) 0, (V.int .i64) 0, E_TPlan (default : TPlan), .nils]
theorem C_barrier_New {a1 : Int} {r : YbrB × Int} (h : barrier_New a1 = some r) : PureC Pg 9 [(V.int .i64) a1] (.tup [aI r.1, (V.int .i64) r.2]) := by
  refine .c 13 fn9 Z Z Z ?_; replace h := Ok.of h; unfold barrier_New at h; refine Wq o2 Z (Sv (.ptr 0 [] 0) [.cells (z29)] Z (.alloc zv29) Z Z trivial (Sa Z cI (Nn ?_))); refine .seq (Wq o6 Z (Sm 2 Z Z (Ss Z (.lss l0 cI) ?_))); refine Sa Z l0 (Sg Z l0 (.move (lq 5 Z)) (Sj Z (lq 1 Z) (fun hB => .gtr (i0 hB) cI) (Ss Z (.pickOr (lq 2 Z) cB i0) ?_))); refine Nn (AWp.condM l0 h (fun c1 h => ?_) (fun c1 h => ?_))
  · refine Wq o3 Z (h.n fun v2 ev2 h => Ss Z (.nv (.vs (v := z29) (v2 := aI (⟨0, 0, 0, 0, (default : TPlan), 0, 0, 0, ([] : List aB), ([] : List aB)⟩ : YbrB)) (.buildStW lay29 zv29 Z .nil) Z (.st (.cons (.refl _) (.cons (.refl _) (.cons (.refl _) (.cons (.refl _) (.cons (.refl _) (.cons (.refl _) (.cons (.refl _) (.cons (.refl _) (.cons (.nils_no _) (.cons (.nils_no _) .nil)))))))))))) (congrArg aI ev2.symm)) (Sn [.cells (aI v2)] Z Z (.sw (lq 8 Z) l0 Z Z Z) Z trivial (Sa Z cI ?_))); refine Nn (AWp.ret (aD (endF_wk (Wk.freeze 0 Z Z (.cons (lw 9 Z) Z (.ptr .nil Z) (.l [0, 0] Z)) (.refl _)) ?_))); obtain rfl := h.ret; exact endFN Z (Wk.z [0, 1] Z) (.cons (.cellC sz29 ag29 l0 (ty_YbrB.fl _) Z) (.cons (.tmp (lw 1 Z) Z) .nil)) Z Z Z
  · refine AWp.skip (aC (Wq o4 Z (Sm 8 Z Z ?_))); refine h.n fun v3 ev3 h => Ss Z (.nv (.vs (v := .st [I a1, I 0, I 0, I 0, E_TPlan (default : TPlan), I 0, I 0, I 0, .nils, .nils]) (v2 := aI (⟨a1, 0, 0, 0, (default : TPlan), 0, 0, 0, ([] : List aB), ([] : List aB)⟩ : YbrB)) (.buildStW lay29 zv29 Z (.cons l0 Z Z Z Z .nil)) Z (.st (.cons (.refl _) (.cons (.refl _) (.cons (.refl _) (.cons (.refl _) (.cons (.refl _) (.cons (.refl _) (.cons (.refl _) (.cons (.refl _) (.cons (.nils_no _) (.cons (.nils_no _) .nil)))))))))))) (congrArg aI ev3.symm)) (Sn [.cells (aI v3)] Z Z (.sw (lq 9 Z) l0 Z Z Z) Z trivial (Sa Z cI (Nn ?_))); refine Pr [0, 10] Z (AWp.ret (endF_wk (Wk.freeze 0 Z Z (.cons (lw 1 Z) Z (.ptr .nil Z) (.l [0] Z)) (.refl _)) ?_)); obtain rfl := h.ret; exact endFN Z (Wk.z [0, 1] Z) (.cons (.cellC sz29 ag29 l0 (ty_YbrB.fl _) Z) (.cons (.tmp (lw 1 Z) Z) .nil)) Z Z Z
theorem C_ul07_Few {a1 : List aB} {r : Bool} (h : ul07_Few a1 = some r) : PureC Pg 21 [.sl 587 .no (List.map aA a1)] (V.bool r) := by
  refine .c 22 fn21 Z Z Z ?_; replace h := Ok.of h; unfold ul07_Few at h; refine Wq o1 Z (Sa Z cB (Nn (AWp.seq ?_))); refine Wq o3 Z (Sm 1 Z Z (Ss Z (.lenT sli22 l0 (vsub Z (.refl _))) (Sa Z cI ?_))); refine Nn (AWp.cutL (fun x4 => ⟨[(2, V.bool false)], []⟩) nc_then h (fun q2 hq2 h => ?_) (fun x4 h => ?_))
  · refine AWp.block (AWp.loopT (fun s3 => ⟨[(7, I s3), (6, I (a1.length : Int)), (5, .sl 587 .no (List.map aA a1)), (2, V.bool false)], []⟩) hq2 (Wk.selS [] (by decide) Z (sl [0, 1, 2, 3] Z) .nil) (fun _ s3 h2 => ?_)); rw [ul07_Few_L1] at h2; refine Wq o1 Z (Ss Z (.lss l0 (lq 1 Z)) (Nn (AWp.seq ?_))); refine AWp.condM l0 h2 (fun c1 h2 => ?_) (fun c1 h2 => ?_)
    · refine AWp.skip (aC (AWp.seq (AWp.block ?_))); refine Wq o4 Z (h2.b fun j5 m5 h2 => Ss Z (.ixS sli22 (lq 3 Z) (lq 1 Z) m5) (h2.n fun v6 ev6 h2 => Ss Z (.nv (.ldC l0 Z) (congrArg aA ev6.symm)) (Sv (.ptr 0 [] 0) [.cells (z49)] Z (.alloc zv49) Z Z trivial ?_))); refine Sn [.cells (aA v6)] Z Z (.sw l0 (lq 1 Z) Z Z Z) Z trivial (Nn (AWp.wk (Wk.freeze 0 Z Z (.cons l0 Z (.ptr .nil Z) (.l [1, 2, 3, 4, 5, 6, 7] Z)) (.refl _)) (Wq o10 Z ?_))); refine Ss Z (.faC Z Z l0 Z) (Ss Z (.ldC l0 Z) (Ss Z (.lenS und9 l0) (Ss Z (.gtr l0 cI) ?_))); refine Sa Z l0 (Sg Z l0 (.faC Z Z (lq 5 Z) Z) (Sj Z (lq 1 Z) (fun hB => .ldC (i0 hB) Z) (Sj Z (lq 2 Z) (fun hB => .lenT sli47 (i0 hB) (vsub Z (.refl _))) ?_))); refine Sj Z (lq 3 Z) (fun hB => .gtr (i0 hB) cI) (h2.n fun v7 ev7 h2 => Ss Z (.nv (.pickOr (lq 4 Z) cB i0) (congrArg V.bool ev7.symm)) (Nn (AWp.condM l0 h2 (fun c2 h2 => ?_) (fun c2 h2 => ?_))))
      · refine Wq o1 Z (Sa Z cB (Nn (AWp.ret ?_))); refine blockQ_r (aD (aD (blockQ_r ?_))); refine aD (aD ?_)
        have h := Ok.inrq h h2.ret
        obtain rfl := h.ret; exact e2 0 Z Z
      · refine AWp.skip (blockQ_n (aC (W.reg o2 Z ?_))); exact Ss Z (.add (lq 14 Z) cI) (Sa Z l0 (Nn ⟨_, h2.ret, (Wk.selS [] (by decide) Z (sl [0, 17, 18, 19] Z) .nil)⟩))
    · refine AWp.exit (thenQ_x (thenQ_x (blockQ_x ?_))); exact aC ⟨_, h2.ret, (Wk.selS [] (by decide) Z (sl [4] Z) .nil)⟩
  · refine aC (Wq o1 Z (Sa Z cB (Nn ?_))); refine AWp.ret ?_; obtain rfl := h.ret; exact e2 0 Z Z
theorem C_ul13_Few {a1 : List aB} {a2 : TPlan} {r : Bool} (h : ul13_Few a1 a2 = some r) : PureC Pg 7 [.sl 587 .no (List.map aA a1), E_TPlan a2] (V.bool r) := by
  refine .c 24 fn7 Z Z Z ?_; replace h := Ok.of h; unfold ul13_Few at h; refine Wq o2 Z (Sv (.ptr 0 [] 0) [.cells (E_TPlan a2)] Z (.box (lq 1 Z) Z) Z Z trivial (Sa Z cB (Nn ?_))); refine AWp.wk (Wk.freeze 0 Z Z (.cons (lw 1 Z) Z (.ptr .nil Z) (.l [0, 2] Z)) (.refl _)) (Wq o20 Z (Sm 2 Z Z (Ss Z (.lenT sli22 l0 (vsub Z (.refl _))) ?_))); refine Ss Z (.leq l0 cI) (Sa Z l0 (Sg Z l0 (.move (lq 6 Z)) (h.b fun r3 m3 h => ?_))); refine Sj Z (lq 1 Z) (fun hB => .cq (cr (i0 hB) .nil) (C_ul07_Few (gd_get m3 hB)) Z) (Ss Z (.pickAnd (lq 2 Z) i0 cB) (Sa Z l0 (Sg Z l0 (.faC Z Z (lq 8 Z) Z) ?_))); refine Sj Z (lq 1 Z) (fun hB => .ldC (i0 hB) Z) (Sj Z (lq 2 Z) (fun hB => .lenS und9 (i0 hB)) (Sj Z (lq 3 Z) (fun hB => .leq (i0 hB) cI) (h.n fun v4 ev4 h => ?_))); refine Ss Z (.nv (.pickAnd (lq 4 Z) i0 cB) (congrArg V.bool ev4.symm)) (Sa Z l0 (Sg Z l0 (.faC Z Z (lq 14 Z) Z) (Sj Z (lq 1 Z) (fun hB => .ldC (i0 hB) Z) ?_))); refine Sj Z (lq 2 Z) (fun hB => .lenS und9 (i0 hB)) (Sj Z (lq 3 Z) (fun hB => .leq (i0 hB) cI) (Ss Z (.pickAnd (lq 4 Z) i0 cB) (h.n fun v5 ev5 h => ?_))); refine Ss Z (.nv (.assign l0) (congrArg V.bool ev5.symm)) (Nn (Pr [0] Z (AWp.ret ?_))); obtain rfl := h.ret; exact e2 0 Z Z
theorem C_ul16_few {a1 : List Yl16D} {r : Bool} (h : ul16_few a1 = some r) : PureC Pg 15 [.sl 9 .no (List.map E_Yl16D a1)] (V.bool r) := by
  refine .c 21 fn15 Z Z Z ?_; replace h := Ok.of h; unfold ul16_few at h; refine Wq o1 Z (Sa Z cB (Nn (AWp.seq ?_))); refine Wq o3 Z (Sm 1 Z Z (Ss Z (.lenT sli52 l0 (vsub Z (.refl _))) (Sa Z cI ?_))); refine Nn (AWp.cutL (fun x4 => ⟨[(2, V.bool false), (0, .sl 9 .no (List.map E_Yl16D a1))], []⟩) nc_then h (fun q2 hq2 h => ?_) (fun x4 h => ?_))
  · refine AWp.block (AWp.loopT (fun s3 => ⟨[(7, I s3), (6, I (a1.length : Int)), (5, .sl 9 .no (List.map E_Yl16D a1)), (2, V.bool false), (0, .sl 9 .no (List.map E_Yl16D a1))], []⟩) hq2 (Wk.selS [] (by decide) Z (sl [0, 1, 2, 3, 4] Z) .nil) (fun _ s3 h2 => ?_)); rw [ul16_few_L1] at h2; refine Wq o1 Z (Ss Z (.lss l0 (lq 1 Z)) (Nn (AWp.seq ?_))); refine AWp.condM l0 h2 (fun c1 h2 => ?_) (fun c1 h2 => ?_)
    · refine AWp.skip (aC (AWp.seq (AWp.block ?_))); refine Wq o4 Z (h2.b fun j5 m5 h2 => Ss Z (.ixS sli52 (lq 3 Z) (lq 1 Z) m5) (h2.n fun v6 ev6 h2 => Ss Z (.nv (.ldC l0 Z) (congrArg E_Yl16D ev6.symm)) (Sv (.ptr 0 [] 0) [.cells (z59)] Z (.alloc zv59) Z Z trivial ?_))); refine Sn [.cells (E_Yl16D v6)] Z Z (.sw l0 (lq 1 Z) Z Z Z) Z trivial (Nn (AWp.wk (Wk.freeze 0 Z Z (.cons l0 Z (.ptr .nil Z) (.l [1, 2, 3, 4, 5, 6, 7, 8] Z)) (.refl _)) (Wq o6 Z ?_))); refine Ss Z (.faC Z Z l0 Z) (Ss Z (.ldC l0 Z) (Ss Z (.faC Z Z (lq 2 Z) Z) (Ss Z (.ldC l0 Z) ?_))); refine h2.b fun r7 m7 h2 => Ss Z (.cq (cr (lq 2 Z) (cr l0 .nil)) (C_ul13_Few m7) Z) (Ss Z (.not l0) (Nn (AWp.condM l0 h2 (fun c2 h2 => ?_) (fun c2 h2 => ?_))))
      · refine Wq o1 Z (Sa Z cB (Nn (AWp.ret ?_))); refine blockQ_r (aD (aD (blockQ_r ?_))); refine aD (aD ?_)
        have h := Ok.inrq h h2.ret
        obtain rfl := h.ret; exact e2 0 Z Z
      · refine AWp.skip (blockQ_n (aC (W.reg o2 Z ?_))); exact Ss Z (.add (lq 10 Z) cI) (Sa Z l0 (Nn ⟨_, h2.ret, (Wk.selS [] (by decide) Z (sl [0, 13, 14, 15, 16] Z) .nil)⟩))
    · refine AWp.exit (thenQ_x (thenQ_x (blockQ_x ?_))); exact aC ⟨_, h2.ret, (Wk.selS [] (by decide) Z (sl [4, 5] Z) .nil)⟩
  · refine aC (Wq o4 Z (Sm 1 Z Z (Ss Z (.lenT sli52 l0 (vsub Z (.refl _))) ?_))); refine Ss Z (.leq l0 cI) (h.n fun v8 ev8 h => Ss Z (.nv (.assign l0) (congrArg V.bool ev8.symm)) (Nn (AWp.ret ?_))); obtain rfl := h.ret; exact e2 0 Z Z
theorem C_num_Is {a1 : Int} {r : Bool} (h : num_Is a1 = some r) : PureC Pg 84 [(V.int .i64) a1] (V.bool r) := by
  refine .c 9 fn84 Z Z Z ?_; replace h := Ok.of h; unfold num_Is at h; refine Wq o1 Z (Sa Z cB (Nw o7 Z (Sm 1 Z Z ?_))); refine Ss Z (.geq l0 cI) (Sa Z l0 (Sg Z l0 (.move (lq 4 Z)) (Sj Z (lq 1 Z) (fun hB => .leq (i0 hB) cI) ?_))); refine Ss Z (.pickAnd (lq 2 Z) i0 cB) (h.n fun v2 ev2 h => Ss Z (.nv (.assign l0) (congrArg V.bool ev2.symm)) (Nn (AWp.ret ?_))); obtain rfl := h.ret; exact e2 0 Z Z
theorem C_num_checked {a1 : Int} {a2 : List Int} {r : Int × Int} (h : num_checked a1 a2 = some r) : PureC Pg 104 [(V.int .i64) a1, .sl 1 .exact (List.map (V.int .i64) a2)] (.tup [(V.int .i64) r.1, (V.int .i64) r.2]) := by
  refine .c 22 fn104 Z Z Z ?_; replace h := Ok.of h; unfold num_checked at h; refine Wq o2 Z (Sa Z cI (Sa Z cI (Nn ?_))); refine .seq (Wq o6 Z (Sm 3 Z Z (Sm 3 Z Z ?_))); refine Ss Z (.buildSliceW sli142 zv3 Z Z (by decide) (.cons l0 Z (.refl _) Z .nil)) (h.b fun l3 m3 h => Sv (.sl 1 (.tok 0) (List.map I l3)) [.tail] Z (.appX sli142 und142 zv3 Z (by decide) (lq 2 Z) (V.sub.refl _) l0 Rd.sl m3 Z) Z Z trivial (Ss Z (.lenT sli142 l0 (vsub Z (.forget _ _ _))) (Sa Z cI ?_))); refine Nn (AWp.cutL (fun x6 => ⟨[(5, I 0), (4, I 0), (0, I a1)], []⟩) nc_then h (fun q4 hq4 h => ?_) (fun x6 h => ?_))
  · refine AWp.block (AWp.loopT (fun s5 => ⟨[(11, .sl 1 (.tok 0) (List.map I l3)), (13, I s5), (12, I (l3.length : Int)), (5, I 0), (4, I 0), (0, I a1)], [.tail]⟩) hq4 (Wk.selS [0] (by decide) Z (SelE.spec (lw 2 Z) Z (.refl _) (ren_sl (aM.int .i64) _) (lt_sl Z ((aM.int .i64).ltm _ _)) (sl [0, 1, 6, 7, 8] Z)) (.cons Z Z trivial .nil)) (fun _ s5 h4 => ?_)); rw [num_checked_L1] at h4; refine Wq o1 Z (Ss Z (.lss (lq 1 Z) (lq 2 Z)) (Nn (AWp.seq ?_))); refine AWp.condM l0 h4 (fun c1 h4 => ?_) (fun c1 h4 => ?_)
    · refine AWp.skip (aC (AWp.seq (AWp.block ?_))); refine Wq o3 Z (h4.b fun j7 m7 h4 => Ss Z (.ixS sli142 (lq 1 Z) (lq 2 Z) m7) (Ss Z (.ldC l0 Z) (Sa Z l0 ?_))); refine Nw o3 Z (Sa Z l0 (h4.b fun r8 m8 h4 => Ss Z (.cq (cr l0 .nil) (C_num_Is m8) Z) (Ss Z (.not l0) ?_))); refine Nn (AWp.condM l0 h4 (fun c2 h4 => ?_) (fun c2 h4 => ?_))
      · refine Wq o2 Z (Sa Z cI (Sa Z cI (Nn ?_))); refine AWp.ret (blockQ_r (aD (aD ?_))); refine blockQ_r (aD (aD ?_))
        have h := Ok.inrq h h4.ret
        obtain rfl := h.ret; exact eN [1, 0] Z Z Z Z Z
      · refine AWp.skip (blockQ_n (aC (W.reg o2 Z ?_))); exact Ss Z (.add (lq 8 Z) cI) (Sa Z l0 (Nn ⟨_, h4.ret, (Wk.selS [0] (by decide) Z (SelE.spec (lw 9 Z) Z (.refl _) (ren_sl (aM.int .i64) _) (lt_sl Z ((aM.int .i64).ltm _ _)) (sl [0, 11, 12, 13, 14] Z)) (.cons Z Z trivial .nil))⟩))
    · refine AWp.exit (thenQ_x (thenQ_x (blockQ_x ?_))); exact aC ⟨_, h4.ret, (Wk.selS [] (by decide) Z (sl [4, 5, 6] Z) .nil)⟩
  · refine aC (Wq o3 Z (Sm 2 Z Z (Sa Z l0 ?_))); refine Sa Z cI (Nn (AWp.ret ?_)); obtain rfl := h.ret; exact eN [1, 0] Z Z Z Z Z
theorem C_num_Sub {a1 : Int} {a2 : Int} {r : Int × Int} (h : num_Sub a1 a2 = some r) : PureC Pg 81 [(V.int .i64) a1, (V.int .i64) a2] (.tup [(V.int .i64) r.1, (V.int .i64) r.2]) := by
  refine .c 15 fn81 Z Z Z ?_; replace h := Ok.of h; unfold num_Sub at h; refine Wq o2 Z (Sa Z cI (Sa Z cI (Nw o11 Z ?_))); refine Sm 2 Z Z (Sm 4 Z Z (Ss Z (.sub (lq 1 Z) l0) (Sm 5 Z Z ?_))); refine Sm 7 Z Z (Ss Z (.buildSliceW sli142 zv3 Z Z (by decide) (.cons (lq 1 Z) Z (.refl _) Z (.cons l0 Z (.refl _) Z .nil))) (h.b fun r3 m3 h => Ss Z (.cq (cr (lq 3 Z) (cr l0 .nil)) (C_num_checked m3) Z) (Ss Z (.extract l0 Z) ?_))); refine Ss Z (.extract (lq 1 Z) Z) (Sm 1 Z Z (Sm 1 Z Z (Nn ?_))); refine Pr [0, 1] Z (AWp.ret ?_); obtain rfl := h.ret; exact eN [1, 0] Z Z Z Z Z
theorem C_counter_New {a1 : Int} {a2 : Int} {a3 : Int} {r : aJ × Int} (h : counter_New a1 a2 a3 = some r) : PureC Pg 53 [(V.int .i64) a1, (V.int .i64) a2, (V.int .i64) a3] (.tup [aF r.1, (V.int .i64) r.2]) := by
  refine .c 65 fn53 Z Z Z ?_; replace h := Ok.of h; unfold counter_New at h; refine Wq o2 Z (Sv (.ptr 0 [] 0) [.cells (aF (default : aJ))] Z (.alloc zv44) Z Z trivial (Sa Z cI (Nw o6 Z ?_))); refine Sm 2 Z Z (Sm 4 Z Z (Sm 6 Z Z (h.n fun v4 ev4 h => ?_))); refine Ss Z (.nv (.nv (v2 := aF (⟨a1, a2, a3, (default : TRights), (default : TRights)⟩ : aJ)) (.buildStW lay44 zv44 Z (.cons (lq 2 Z) Z Z Z Z (.cons (lq 1 Z) Z Z Z Z (.cons l0 Z Z Z Z .nil)))) Z) (congrArg aF ev4.symm)) (Sv (.ptr 1 [] 0) [.cells (aF (default : aJ)), .cells (aF (default : aJ))] Z (.alloc zv44) Z Z trivial (Sn [.cells (aF (default : aJ)), .cells (aF v4)] Z Z (.sw l0 (lq 1 Z) Z Z Z) Z trivial (Nw o8 Z ?_))); refine Sm 7 Z Z (Sm 9 Z Z (h.b fun r5 m5 h => Ss Z (.cq (cr (lq 1 Z) (cr l0 .nil)) (C_num_Sub m5) Z) (Sa Z l0 ?_))); refine Ss Z (.extract l0 Z) (Ss Z (.extract (lq 1 Z) Z) (Sm 1 Z Z (Sm 1 Z Z ?_))); refine Nn (Pr [0, 1, 8, 13, 14, 15, 16, 17] Z (Wq o8 Z (Sm 7 Z Z ?_))); refine Sm 6 Z Z (h.b fun r6 m6 h => Ss Z (.cq (cr (lq 1 Z) (cr l0 .nil)) (C_num_Sub m6) Z) (Sa Z l0 (Ss Z (.extract l0 Z) ?_))); refine Ss Z (.extract (lq 1 Z) Z) (Sm 1 Z Z (Sm 1 Z Z (Nw o8 Z ?_))); refine Sm 15 Z Z (Sm 15 Z Z (h.b fun r7 m7 h => Ss Z (.cq (cr (lq 1 Z) (cr l0 .nil)) (C_num_Sub m7) Z) (Sa Z l0 ?_))); refine Ss Z (.extract l0 Z) (Ss Z (.extract (lq 1 Z) Z) (Sm 1 Z Z (Sm 1 Z Z ?_))); refine Nn (Pr [0, 8, 9, 16, 17, 18, 19, 20] Z (AWp.seq (Wq o18 Z ?_))); refine Sm 3 Z Z (Ss Z (.neq l0 cI) (Sa Z l0 (Sg Z l0 (.move (lq 4 Z)) ?_))); refine Sj Z (lq 1 Z) (fun hB => .neq (i0 hB) cI) (Ss Z (.pickOr (lq 2 Z) cB i0) (Sa Z l0 (Sg Z l0 (.move (lq 7 Z)) ?_))); refine Sj Z (lq 1 Z) (fun hB => .neq (i0 hB) cI) (h.n fun v8 ev8 h => Ss Z (.nv (.pickOr (lq 2 Z) cB i0) (congrArg V.bool ev8.symm)) (Sa Z l0 (Sg Z l0 (.move (lq 15 Z)) ?_))); refine Sj Z (lq 1 Z) (fun hB => .lss (i0 hB) cI) (Ss Z (.pickOr (lq 2 Z) cB i0) (Sa Z l0 (Sg Z l0 (.move (lq 17 Z)) ?_))); refine Sj Z (lq 1 Z) (fun hB => .lss (i0 hB) cI) (Ss Z (.pickOr (lq 2 Z) cB i0) (Nn (Pr [0, 20, 22, 23, 24, 25] Z ?_))); refine AWp.condM l0 h (fun c1 h => ?_) (fun c1 h => ?_)
  · refine Wq o3 Z (h.n fun v9 ev9 h => Ss Z (.nv (.nv (v2 := aF (⟨0, 0, 0, (default : TRights), (default : TRights)⟩ : aJ)) (.buildStW lay44 zv44 Z .nil) Z) (congrArg aF ev9.symm)) (Sn [.cells (aF v9), .cells (aF v4)] Z Z (.sw (lq 6 Z) l0 Z Z Z) Z trivial (Sa Z cI ?_))); refine Nn (AWp.ret (aD (endF_wk (Wk.freeze 0 Z Z (.cons (lw 7 Z) Z (.ptr .nil Z) (.l [0, 0] Z)) (.refl _)) ?_))); obtain rfl := h.ret; exact endFN Z (Wk.z [0, 1] Z) (.cons (.cellC sz44 ag44 l0 (ty_TCounter.fl _) Z) (.cons (.tmp (lw 1 Z) Z) .nil)) Z Z Z
  · refine AWp.skip (aC (Wq o10 Z (Sm 2 Z Z ?_))); refine Sm 2 Z Z (Ss Z (.fieldAddr lay44 Z Z (lq 5 Z)) (Ss Z (.fieldAddr lay42 Z Z l0) (h.b fun k10 m10 h => ?_))); refine Ss Z (.ixP arr39 l0 cI m10) (h.n fun v11 ev11 h => Sn [.cells (aF (default : aJ)), .cells (aF v11)] Z Z (.sP l0 (lq 4 Z) Z (.refl _) Z (.f Z (.f Z (.vc k10 .nil))) (by first | rfl | omega) (.st Z (.st Z (.vc r5.1 k10 .nil) Z) Z) (congrArg (fun z => ([.cells (aF (default : aJ)), aK.cells (aF z)] : List aK)) ev11.symm)) Z trivial (Ss Z (.fieldAddr lay44 Z Z (lq 8 Z)) (Ss Z (.fieldAddr lay42 Z Z l0) ?_))); refine h.b fun k12 m12 h => Ss Z (.ixP arr39 l0 cI m12) (h.n fun v13 ev13 h => Sn [.cells (aF (default : aJ)), .cells (aF v13)] Z Z (.sP l0 (lq 6 Z) Z (.refl _) Z (.f Z (.f Z (.vc k12 .nil))) (by first | rfl | omega) (.st Z (.st Z (.vc r6.1 k12 .nil) Z) Z) (congrArg (fun z => ([.cells (aF (default : aJ)), aK.cells (aF z)] : List aK)) ev13.symm)) Z trivial (Nn (Pr [11, 12, 13] Z ?_))); refine Wq o3 Z (Su Z (.ldP l0 Z .nil Z Z) (Sn [.cells (aF v13), .cells (aF v13)] Z Z (.sw (lq 3 Z) l0 Z Z Z) Z trivial (Sa Z cI ?_))); refine Nn (AWp.ret (endF_wk (Wk.freeze 0 Z Z (.cons (lw 4 Z) Z (.ptr .nil Z) (.l [0, 0] Z)) (.refl _)) ?_)); obtain rfl := h.ret; exact endFN Z (Wk.z [0, 1] Z) (.cons (.cellC sz44 ag44 l0 (ty_TCounter.fl _) Z) (.cons (.tmp (lw 1 Z) Z) .nil)) Z Z Z
theorem C_field_Name {a1 : ByteArray} {r : Bool} (h : field_Name a1 = some r) : PureC Pg 54 [V.str a1] (V.bool r) := by
  refine .c 28 fn54 Z Z Z ?_; replace h := Ok.of h; unfold field_Name at h; refine Wq o1 Z (Sa Z cB (Nn (AWp.seq ?_))); refine Wq o3 Z (Sm 1 Z Z (Ss Z (.lenS und9 l0) (Sa Z cI ?_))); refine Nn (AWp.cutL (fun x4 => ⟨[(2, V.bool false), (0, V.str a1)], []⟩) nc_then h (fun q2 hq2 h => ?_) (fun x4 h => ?_))
  · refine AWp.block (AWp.loopT (fun s3 => ⟨[(6, I s3), (5, I (a1.size : Int)), (2, V.bool false), (0, V.str a1)], []⟩) hq2 (Wk.selS [] (by decide) Z (sl [0, 1, 3, 4] Z) .nil) (fun _ s3 h2 => ?_)); rw [field_Name_L1] at h2; refine Wq o1 Z (Ss Z (.lss l0 (lq 1 Z)) (Nn (AWp.seq ?_))); refine AWp.condM l0 h2 (fun c1 h2 => ?_) (fun c1 h2 => ?_)
    · refine AWp.skip (aC (AWp.seq (AWp.block ?_))); refine Wq o2 Z (Sm 1 Z Z (Sa Z l0 (Nw o10 Z ?_))); refine Sm 6 Z Z (Sm 1 Z Z (h2.b fun n5 m5 h2 => Ss Z (.ixStr und9 (lq 1 Z) l0 m5) (Ss Z (.lss l0 cI) ?_))); refine Sa Z l0 (Sg Z l0 (.move (lq 11 Z)) (Sg Z (lq 1 Z) (.move (lq 6 Z)) (h2.b fun n6 m6 h2 => ?_))); refine Sj Z (lq 2 Z) (fun hB => .ixStr und9 (ifT hB (lq 1 Z)) (i0 hB) (gd_get m6 hB)) (Sj Z (lq 3 Z) (fun hB => .gtr (i0 hB) cI) (Ss Z (.pickOr (lq 4 Z) cB i0) (Nn ?_))); refine AWp.condM l0 h2 (fun c2 h2 => ?_) (fun c2 h2 => ?_)
      · refine Wq o1 Z (Sa Z cB (Nn (AWp.ret ?_))); refine blockQ_r (aD (aD (blockQ_r ?_))); refine aD (aD ?_)
        have h := Ok.inrq h h2.ret
        obtain rfl := h.ret; exact e2 0 Z Z
      · refine AWp.skip (blockQ_n (aC (W.reg o2 Z ?_))); exact Ss Z (.add (lq 13 Z) cI) (Sa Z l0 (Nn ⟨_, h2.ret, (Wk.selS [] (by decide) Z (sl [0, 16, 17, 18] Z) .nil)⟩))
    · refine AWp.exit (thenQ_x (thenQ_x (blockQ_x ?_))); exact aC ⟨_, h2.ret, (Wk.selS [] (by decide) Z (sl [3, 4] Z) .nil)⟩
  · refine aC (Wq o9 Z (Sm 1 Z Z (Ss Z (.lenS und9 l0) ?_))); refine Ss Z (.geq l0 cI) (Sa Z l0 (Sg Z l0 (.move (lq 5 Z)) (Sj Z (lq 1 Z) (fun hB => .lenS und9 (i0 hB)) ?_))); refine Sj Z (lq 2 Z) (fun hB => .leq (i0 hB) cI) (Ss Z (.pickAnd (lq 3 Z) i0 cB) (h.n fun v7 ev7 h => Ss Z (.nv (.assign l0) (congrArg V.bool ev7.symm)) (Nn ?_))); refine Pr [0] Z (AWp.ret ?_); obtain rfl := h.ret; exact e2 0 Z Z
theorem C_clone_65 {a1 : List THold} {r : List THold} (h : app 40 [] a1 = some r) : PureC Pg 65 [E_S_THold a1] (E_S_THold r) := by
  refine .c 8 fn65 Z Z Z ?_
  have hr := (app_get h).2
  refine Wq o1 Z (Sa Z cNs (Nn (AWp.splitNil (t := 0) (lw 1 Z) (fun hn => ?_) ?_)))
  · obtain rfl : a1 = [] := List.map_eq_nil_iff.1 hn
    obtain rfl : r = [] := by simpa using hr
    refine .seq (Wq o2 Z (Sa Z l0 (Ss Z (.eqlNil sli47 l0 cNs) ?_))); refine Nn (AWp.condT l0 (Wq o1 Z (Sa Z cNs ?_))); exact Nn (AWp.ret (aD (e3 0 Z Z (.nils_no 5) Z)))
  · refine .seq (Wq o2 Z (Sa Z l0 (Ss Z (.eqlNn sli47 l0 cNs) ?_))); refine Nn (AWp.condF l0 (AWp.skip (aC ?_))); refine Wq o4 Z (Ss Z (.buildSliceW sli47 zv106 Z Z (by decide) .nil) (Sm 3 Z Z (S.new 7 Z Z (.appX (f := E_THold) (xs := []) sli47 und47 zv106 Z (by decide) (lq 1 Z) (V.sub.refl _) l0 Rd.sl h Z) trivial ?_))); exact Sa Z l0 (Nn (AWp.ret (e3 0 Z Z (.forget _ _ _) Z)))
theorem C_field_done {a1 : aB} {a2 : Int} {r : aB × Int} (h : field_done a1 a2 = some r) : PureC Pg 55 [aA a1, (V.int .i64) a2] (.tup [aA r.1, (V.int .i64) r.2]) := by
  refine .c 15 fn55 Z Z Z ?_; replace h := Ok.of h; unfold field_done at h; refine Wq o3 Z (Sv (.ptr 0 [] 0) [.cells (aA a1)] Z (.box l0 Z) Z Z trivial (Sv (.ptr 1 [] 0) [.cells (aA a1), .cells (z49)] Z (.alloc zv49) Z Z trivial (Sa Z cI ?_))); refine Nn (AWp.seq (Wq o2 Z (Sm 4 Z Z ?_))); refine Ss Z (.neq l0 cI) (Nn (AWp.condM l0 h (fun c1 h => ?_) (fun c1 h => ?_)))
  · refine Wq o4 Z (h.n fun v3 ev3 h => Ss Z (.nv (.vs (v := z49) (v2 := aA (⟨(default : ByteArray), 0, 0, (default : aJ), (default : TLock), ([] : List THold)⟩ : aB)) (.buildStW lay49 zv49 Z .nil) Z (.st (.cons (.refl _) (.cons (.refl _) (.cons (.refl _) (.cons (.refl _) (.cons (.refl _) (.cons (.nils_no _) .nil)))))))) (congrArg aA ev3.symm)) (Sm 7 Z Z (Sn [.cells (aA a1), .cells (aA v3)] Z Z (.sw (lq 5 Z) (lq 1 Z) Z Z Z) Z trivial ?_))); refine Sa Z l0 (Nn (AWp.ret (aD ?_))); refine endF_wk (Wk.freeze 1 Z Z (.cons (lw 6 Z) Z (.ptr .nil Z) (.l [0, 0] Z)) (.refl _)) ?_; obtain rfl := h.ret; exact endFN Z (Wk.z [0, 1] Z) (.cons (.cellC sz49 ag49 l0 (aH.fl _) Z) (.cons (.tmp (lw 1 Z) Z) .nil)) Z Z Z
  · refine AWp.skip (aC (Wq o5 Z (Ss Z (.fieldAddr lay49 Z Z (lq 4 Z)) ?_))); refine Su Z (.ldP l0 Z (.f Z .nil) Z Z) (h.b fun r4 m4 h => Ss Z (.cq (cr l0 .nil) (C_clone_65 m4) Z) (Ss Z (.fieldAddr lay49 Z Z (lq 7 Z)) (h.n fun v5 ev5 h => ?_))); refine Sn [.cells (aA v5), .cells (z49)] Z Z (.sP l0 (lq 1 Z) Z (.refl _) Z (.f Z .nil) Z (.st Z .nil Z) (congrArg (fun z => ([aK.cells (aA z), .cells (z49)] : List aK)) ev5.symm)) Z trivial (Nw o3 Z (Su Z (.ldP (lq 8 Z) Z .nil Z Z) (Sn [.cells (aA v5), .cells (aA v5)] Z Z (.sw (lq 8 Z) l0 Z Z Z) Z trivial ?_))); refine Sa Z cI (Nn (Pr [0, 9] Z (AWp.ret ?_))); refine endF_wk (Wk.freeze 1 Z Z (.cons (lw 1 Z) Z (.ptr .nil Z) (.l [0] Z)) (.refl _)) ?_; obtain rfl := h.ret; exact endFN Z (Wk.z [0, 1] Z) (.cons (.cellC sz49 ag49 l0 (aH.fl _) Z) (.cons (.tmp (lw 1 Z) Z) .nil)) Z Z Z
theorem C_field_Counter {a1 : ByteArray} {a2 : Int} {a3 : Int} {a4 : Int} {r : aB × Int} (h : field_Counter a1 a2 a3 a4 = some r) : PureC Pg 22 [V.str a1, (V.int .i64) a2, (V.int .i64) a3, (V.int .i64) a4] (.tup [aA r.1, (V.int .i64) r.2]) := by
  refine .c 29 fn22 Z Z Z ?_; replace h := Ok.of h; unfold field_Counter at h; refine Wq o2 Z (Sv (.ptr 0 [] 0) [.cells (z49)] Z (.alloc zv49) Z Z trivial (Sa Z cI (Nw o10 Z ?_))); refine Sm 3 Z Z (Sm 5 Z Z (Sm 7 Z Z (h.b fun r5 m5 h => ?_))); refine Ss Z (.cq (cr (lq 2 Z) (cr (lq 1 Z) (cr l0 .nil))) (C_counter_New m5) Z) (Sa Z l0 (Ss Z (.extract l0 Z) (Ss Z (.extract (lq 1 Z) Z) ?_))); refine Sv (.ptr 1 [] 0) [.cells (z49), .cells (aF (default : aJ))] Z (.alloc zv44) Z Z trivial (Sn [.cells (z49), .cells (aF r5.1)] Z Z (.sw l0 (lq 2 Z) Z Z Z) Z trivial (Sm 1 Z Z (Nn ?_))); refine AWp.wk (Wk.freeze 1 Z Z (.cons (lw 1 Z) Z (.ptr .nil Z) (.l [0, 9, 10, 11] Z)) (.refl _)) (AWp.seq (Wq o3 Z (Sm 4 Z Z ?_))); refine h.b fun r6 m6 h => Ss Z (.cq (cr l0 .nil) (C_field_Name m6) Z) (Ss Z (.not l0) (Nn (AWp.condM l0 h (fun c1 h => ?_) (fun c1 h => ?_))))
  · refine W.reg o1 Z (Sa Z cI (Nw o9 Z (Sm 8 Z Z ?_))); refine Ss Z (.ldC (lq 5 Z) Z) (h.n fun v7 ev7 h => Ss Z (.nv (.vs (v := .st [V.str a1, I 1, I 0, aF r5.1, E_TLock (default : TLock), .nils]) (v2 := aA (⟨a1, 1, 0, r5.1, (default : TLock), ([] : List THold)⟩ : aB)) (.buildStW lay49 zv49 Z (.cons (lq 1 Z) Z Z Z Z (.cons cI Z Z Z Z (.cons l0 Z Z (ty_TCounter.fl r5.1) Z .nil)))) Z (.st (.cons (.refl _) (.cons (.refl _) (.cons (.refl _) (.cons (.refl _) (.cons (.refl _) (.cons (.nils_no _) .nil)))))))) (congrArg aA ev7.symm)) (Sm 3 Z Z (h.b fun r8 m8 h => ?_))); refine Ss Z (.cq (cr (lq 1 Z) (cr l0 .nil)) (C_field_done m8) Z) (Ss Z (.extract l0 Z) (Ss Z (.extract (lq 1 Z) Z) (Sn [.cells (aA r8.1), .dead] Z Z (.sw (lq 14 Z) (lq 1 Z) Z Z Z) Z trivial ?_))); refine Sa Z l0 (Nn (Pr [0, 15] Z (AWp.ret ?_))); refine endF_wk (Wk.freeze 0 Z Z (.cons (lw 1 Z) Z (.ptr .nil Z) (.l [0] Z)) (.refl _)) ?_; obtain rfl := h.ret; exact endFN Z (Wk.z [0, 1] Z) (.cons (.cellC sz49 ag49 l0 (aH.fl _) Z) (.cons (.tmp (lw 1 Z) Z) .nil)) Z Z Z
  · refine AWp.skip (aC (Wq o9 Z (Sm 7 Z Z ?_))); refine Ss Z (.ldC (lq 4 Z) Z) (h.n fun v9 ev9 h => Ss Z (.nv (.vs (v := .st [V.str a1, I 1, I 0, aF r5.1, E_TLock (default : TLock), .nils]) (v2 := aA (⟨a1, 1, 0, r5.1, (default : TLock), ([] : List THold)⟩ : aB)) (.buildStW lay49 zv49 Z (.cons (lq 1 Z) Z Z Z Z (.cons cI Z Z Z Z (.cons l0 Z Z (ty_TCounter.fl r5.1) Z .nil)))) Z (.st (.cons (.refl _) (.cons (.refl _) (.cons (.refl _) (.cons (.refl _) (.cons (.refl _) (.cons (.nils_no _) .nil)))))))) (congrArg aA ev9.symm)) (Sm 7 Z Z (h.b fun r10 m10 h => ?_))); refine Ss Z (.cq (cr (lq 1 Z) (cr l0 .nil)) (C_field_done m10) Z) (Ss Z (.extract l0 Z) (Ss Z (.extract (lq 1 Z) Z) (Sn [.cells (aA r10.1), .dead] Z Z (.sw (lq 13 Z) (lq 1 Z) Z Z Z) Z trivial ?_))); refine Sa Z l0 (Nn (Pr [0, 14] Z (AWp.ret ?_))); refine endF_wk (Wk.freeze 0 Z Z (.cons (lw 1 Z) Z (.ptr .nil Z) (.l [0] Z)) (.refl _)) ?_; obtain rfl := h.ret; exact endFN Z (Wk.z [0, 1] Z) (.cons (.cellC sz49 ag49 l0 (aH.fl _) Z) (.cons (.tmp (lw 1 Z) Z) .nil)) Z Z Z
theorem C_barrier_Barrier_all {a1 : YbrB} {r : Int} (h : barrier_Barrier_all a1 = some r) : PureC Pg 39 [aI a1] ((V.int .i64) r) := by
  refine .c 9 fn39 Z Z Z ?_; replace h := Ok.of h; unfold barrier_Barrier_all at h; refine Wq o2 Z (Sv (.ptr 0 [] 0) [.cells (aI a1)] Z (.box l0 Z) Z Z trivial (Sa Z cI (Nn ?_))); refine AWp.wk (Wk.freeze 0 Z Z (.cons (lw 1 Z) Z (.ptr .nil Z) (.l [0] Z)) (.refl _)) (Wq o7 Z (Ss Z (.faC Z Z l0 Z) (Ss Z (.ldC l0 Z) ?_))); refine Ss Z (.bmax l0 cI) (Ss Z (.bmin l0 cI) (h.b fun u2 m2 h => Ss Z (.shl cI l0 (sh0_get m2)) (Ss Z (.sub l0 cI) ?_))); refine h.n fun v3 ev3 h => Ss Z (.nv (.assign l0) (congrArg I ev3.symm)) (Nn (AWp.ret ?_)); obtain rfl := h.ret; exact e2 0 Z Z
theorem C_barrier_Pending {a1 : YbrB} {r : Bool} (h : barrier_Pending a1 = some r) : PureC Pg 23 [aI a1] (V.bool r) := by
  refine .c 23 fn23 Z Z Z ?_; replace h := Ok.of h; unfold barrier_Pending at h; refine Wq o2 Z (Sv (.ptr 0 [] 0) [.cells (aI a1)] Z (.box l0 Z) Z Z trivial (Sa Z cB (Nn ?_))); refine AWp.wk (Wk.freeze 0 Z Z (.cons (lw 1 Z) Z (.ptr .nil Z) (.l [0] Z)) (.refl _)) (AWp.seq (W.regD o21 mixed (Ss Z (.faC Z Z l0 Z) ?_))); refine Ss Z (.ldC l0 Z) (Ss Z (.eql l0 cI) (Sa Z l0 (Sg Z l0 (.faC Z Z (lq 4 Z) Z) ?_))); refine Sj Z (lq 1 Z) (fun hB => .ldC (i0 hB) Z) (Sj Z (lq 2 Z) (fun hB => .eql (i0 hB) cI) (Sj Z (lq 3 Z) (fun hB => .move (i0 hB)) (Sg2 Z l0 (.faC Z Z (lq 8 Z) Z) ?_))); refine Sj2 Z (lq 1 Z) (fun hB => .ldC (i0 hB) Z) (Sj2 Z (lq 2 Z) (fun hB => .eql (i0 hB) cI) (Sj Z (lq 7 Z) (fun hB => .pickOr (ifT hB (lq 3 Z)) cB (fun h => ifT ⟨hB, h⟩ l0)) (Sj Z (lq 8 Z) (fun hB => .move (i0 hB)) ?_))); refine Sg2 Z l0 (.faC Z Z (lq 13 Z) Z) (Sj2 Z (lq 1 Z) (fun hB => .ldC (i0 hB) Z) (Sg2 Z (lq 2 Z) (.ldC (lq 15 Z) Z) (h.b fun r2 m2 h => ?_))); refine Sj2 Z (lq 3 Z) (fun hB => .cq (cr (i0 hB) .nil) (C_barrier_Barrier_all (gd_get m2 hB)) Z) (Sj2 Z (lq 4 Z) (fun hB => .neq (ifT hB (lq 2 Z)) (i0 hB)) (Sj Z (lq 14 Z) (fun hB => .pickAnd (ifT hB (lq 5 Z)) (fun h => ifT ⟨hB, h⟩ l0) cB) (h.n fun v3 ev3 h => ?_))); refine Ss Z (.nv (.pickOr (lq 15 Z) cB i0) (congrArg V.bool ev3.symm)) (Sa Z l0 (S.nilD (by kernel_rfl) (aC ?_))); refine Pr [0] Z (AWp.ret ?_); obtain rfl := h.ret; exact e2 0 Z Z
theorem C_vec_Right {a1 : Vector Int 16} {r : Bool} (h : vec_Right a1 = some r) : PureC Pg 159 [E_A16_i64 a1] (V.bool r) := by
  refine .c 17 fn159 Z Z Z ?_; replace h := Ok.of h; unfold vec_Right at h; refine Wq o2 Z (Sv (.ptr 0 [] 0) [.cells (E_A16_i64 a1)] Z (.box l0 Z) Z Z trivial (Sa Z cB (Nn ?_))); refine AWp.wk (Wk.freeze 0 Z Z (.cons (lw 1 Z) Z (.ptr .nil Z) (.l [0] Z)) (.refl _)) (AWp.seq (Wq o2 Z (Ss Z (.ldC l0 Z) ?_))); refine Sa Z cI (Nn (AWp.cutL (fun x4 => ⟨[(2, V.bool false)], []⟩) nc_then h (fun q2 hq2 h => ?_) (fun x4 h => ?_)))
  · refine AWp.block (AWp.loopT (fun s3 => ⟨[(6, I s3), (5, E_A16_i64 a1), (2, V.bool false)], []⟩) hq2 (Wk.selS [] (by decide) Z (sl [0, 1, 3] Z) .nil) (fun _ s3 h2 => ?_)); rw [vec_Right_L1] at h2; refine Wq o1 Z (Ss Z (.lss l0 cI) (Nn (AWp.seq ?_))); refine AWp.condM l0 h2 (fun c1 h2 => ?_) (fun c1 h2 => ?_)
    · refine AWp.skip (aC (AWp.seq (AWp.block ?_))); refine Wq o2 Z (h2.b fun k5 m5 h2 => Ss Z (.ixV arr39 (lq 2 Z) (lq 1 Z) m5 Z) (Sa Z l0 (Nw o7 Z ?_))); refine Sa Z l0 (Ss Z (.lss l0 cI) (Sa Z l0 (Sg Z l0 (.move (lq 3 Z)) ?_))); refine h2.b fun r6 m6 h2 => Sj Z (lq 1 Z) (fun hB => .cq (cr (i0 hB) .nil) (C_num_Is (gd_get m6 hB)) Z) (Sj Z (lq 2 Z) (fun hB => .not (i0 hB)) (Ss Z (.pickOr (lq 3 Z) cB i0) (Nn ?_))); refine AWp.condM l0 h2 (fun c2 h2 => ?_) (fun c2 h2 => ?_)
      · refine Wq o1 Z (Sa Z cB (Nn (AWp.ret ?_))); refine blockQ_r (aD (aD (blockQ_r ?_))); refine aD (aD ?_)
        have h := Ok.inrq h h2.ret
        obtain rfl := h.ret; exact e2 0 Z Z
      · refine AWp.skip (blockQ_n (aC (W.reg o2 Z ?_))); exact Ss Z (.add (lq 10 Z) cI) (Sa Z l0 (Nn ⟨_, h2.ret, (Wk.selS [] (by decide) Z (sl [0, 13, 14] Z) .nil)⟩))
    · refine AWp.exit (thenQ_x (thenQ_x (blockQ_x ?_))); exact aC ⟨_, h2.ret, (Wk.selS [] (by decide) Z (sl [3] Z) .nil)⟩
  · refine aC (Wq o1 Z (Sa Z cB (Nn ?_))); refine AWp.ret ?_; obtain rfl := h.ret; exact e2 0 Z Z
theorem C_rights_Right {a1 : TRights} {r : Bool} (h : rights_Right a1 = some r) : PureC Pg 138 [E_TRights a1] (V.bool r) := by
  refine .c 31 fn138 Z Z Z ?_; replace h := Ok.of h; unfold rights_Right at h; refine Wq o2 Z (Sv (.ptr 0 [] 0) [.cells (E_TRights a1)] Z (.box l0 Z) Z Z trivial (Sa Z cB (Nn ?_))); refine AWp.wk (Wk.freeze 0 Z Z (.cons (lw 1 Z) Z (.ptr .nil Z) (.l [0] Z)) (.refl _)) (AWp.seq (Wq o10 Z (Ss Z (.faC Z Z l0 Z) ?_))); refine Ss Z (.ldC l0 Z) (h.b fun r2 m2 h => Ss Z (.cq (cr l0 .nil) (C_vec_Right m2) Z) (Ss Z (.not l0) (Sa Z l0 ?_))); refine Sg Z l0 (.faC Z Z (lq 5 Z) Z) (Sj Z (lq 1 Z) (fun hB => .ldC (i0 hB) Z) (h.b fun r3 m3 h => Sj Z (lq 2 Z) (fun hB => .cq (cr (i0 hB) .nil) (C_vec_Right (gd_get m3 hB)) Z) (Sj Z (lq 3 Z) (fun hB => .not (i0 hB)) ?_))); refine Ss Z (.pickOr (lq 4 Z) cB i0) (Nn (AWp.condM l0 h (fun c1 h => ?_) (fun c1 h => ?_)))
  · refine Wq o1 Z (Sa Z cB (Nn (Pr [0, 11] Z ?_))); refine AWp.ret (aD ?_); obtain rfl := h.ret; exact e2 0 Z Z
  · refine AWp.skip (aC (Pr [10, 11] Z (AWp.seq ?_))); refine Wq o3 Z (Ss Z (.faC Z Z l0 Z) (Ss Z (.ldC l0 Z) (Sa Z cI ?_))); refine Nn (AWp.cutL (fun x6 => ⟨[(2, V.bool false)], []⟩) nc_then h (fun q4 hq4 h => ?_) (fun x6 h => ?_))
    · refine AWp.block (AWp.loopT (fun s5 => ⟨[(17, I s5), (16, E_A16_A16_i64 a1.Moved), (2, V.bool false)], []⟩) hq4 (Wk.selS [] (by decide) Z (sl [0, 1, 4] Z) .nil) (fun _ s5 h4 => ?_)); rw [rights_Right_L1] at h4; refine Wq o1 Z (Ss Z (.lss l0 cI) (Nn (AWp.seq ?_))); refine AWp.condM l0 h4 (fun c2 h4 => ?_) (fun c2 h4 => ?_)
      · refine AWp.skip (aC (AWp.seq (AWp.block ?_))); refine Wq o5 Z (Sm 1 Z Z (h4.b fun k7 m7 h4 => Ss Z (.ixV arr40 (lq 3 Z) (lq 2 Z) m7 Z) (Sv (.ptr 0 [] 0) [.cells (E_A16_i64 (default : Vector Int 16))] Z (.alloc zv39) Z Z trivial ?_))); refine Sm 2 Z Z (h4.n fun v8 ev8 h4 => Sn [.cells (E_A16_i64 v8)] Z Z (.sw (lq 1 Z) (lq 2 Z) Z Z (congrArg (fun z => ([aK.cells (E_A16_i64 z)] : List aK)) ev8.symm)) Z trivial (Nn (AWp.wk (Wk.freeze 0 Z Z (.cons (lw 1 Z) Z (.ptr .nil Z) (.l [0, 2, 3, 4, 5, 6, 7] Z)) (.refl _)) ?_))); refine Wq o9 Z (Ss Z (.ldC l0 Z) (h4.b fun r9 m9 h4 => Ss Z (.cq (cr l0 .nil) (C_vec_Right m9) Z) (Ss Z (.not l0) ?_))); refine Sa Z l0 (Sg Z l0 (.move (lq 5 Z)) (h4.b fun k10 m10 h4 => Sj Z (lq 1 Z) (fun hB => .ixC arr39 (lq 5 Z) (i0 hB) (gd_get m10 hB)) (Sj Z (lq 2 Z) (fun hB => .ldC (i0 hB) Z) ?_))); refine Sj Z (lq 3 Z) (fun hB => .neq (i0 hB) cI) (Ss Z (.pickOr (lq 4 Z) cB i0) (Nn (AWp.condM l0 h4 (fun c3 h4 => ?_) (fun c3 h4 => ?_))))
        · refine Wq o1 Z (Sa Z cB (Nn (AWp.ret ?_))); refine blockQ_r (aD (aD (blockQ_r ?_))); refine aD (aD ?_)
          have h := Ok.inrq h h4.ret
          obtain rfl := h.ret; exact e2 0 Z Z
        · refine AWp.skip (blockQ_n (aC (W.reg o2 Z ?_))); exact Ss Z (.add (lq 14 Z) cI) (Sa Z l0 (Nn ⟨_, h4.ret, (Wk.selS [] (by decide) Z (sl [0, 17, 18] Z) .nil)⟩))
      · refine AWp.exit (thenQ_x (thenQ_x (blockQ_x ?_))); exact aC ⟨_, h4.ret, (Wk.selS [] (by decide) Z (sl [3] Z) .nil)⟩
    · refine aC (Wq o1 Z (Sa Z cB (Nn ?_))); refine AWp.ret ?_; obtain rfl := h.ret; exact e2 0 Z Z
theorem C_num_Add {a1 : Int} {a2 : Int} {r : Int × Int} (h : num_Add a1 a2 = some r) : PureC Pg 161 [(V.int .i64) a1, (V.int .i64) a2] (.tup [(V.int .i64) r.1, (V.int .i64) r.2]) := by
  refine .c 15 fn161 Z Z Z ?_; replace h := Ok.of h; unfold num_Add at h; refine Wq o2 Z (Sa Z cI (Sa Z cI (Nw o11 Z ?_))); refine Sm 2 Z Z (Sm 4 Z Z (Ss Z (.add (lq 1 Z) l0) (Sm 5 Z Z ?_))); refine Sm 7 Z Z (Ss Z (.buildSliceW sli142 zv3 Z Z (by decide) (.cons (lq 1 Z) Z (.refl _) Z (.cons l0 Z (.refl _) Z .nil))) (h.b fun r3 m3 h => Ss Z (.cq (cr (lq 3 Z) (cr l0 .nil)) (C_num_checked m3) Z) (Ss Z (.extract l0 Z) ?_))); refine Ss Z (.extract (lq 1 Z) Z) (Sm 1 Z Z (Sm 1 Z Z (Nn ?_))); refine Pr [0, 1] Z (AWp.ret ?_); obtain rfl := h.ret; exact eN [1, 0] Z Z Z Z Z
theorem C_num_Must {a1 : Int} {a2 : Int} {r : Int} (h : num_Must a1 a2 = some r) : PureC Pg 167 [(V.int .i64) a1, (V.int .i64) a2] ((V.int .i64) r) := by
  refine .c 10 fn167 Z Z Z ?_; replace h := Ok.of h; unfold num_Must at h; refine Wq o1 Z (Sa Z cI (Nn (AWp.seq ?_))); refine Wq o2 Z (Sm 2 Z Z (Ss Z (.neq l0 cI) (Nn ?_))); refine AWp.condM l0 h (fun c1 h => ?_) (fun c1 h => ?_)
  · exact h.no.elim
  · refine AWp.skip (aC (Wq o2 Z (Sm 3 Z Z ?_))); refine Sa Z l0 (Nn (AWp.ret ?_)); obtain rfl := h.ret; exact e2 0 Z Z
theorem C_num_Sum_1 {a1 : List Int} {r : Int} (h : num_Sum_1 a1 = some r) : PureC Pg 166 [.cptr (.sl 1 .no (List.map (V.int .i64) a1))] ((V.int .i64) r) := by
  refine .c 19 fn166 Z Z Z ?_; replace h := Ok.of h; unfold num_Sum_1 at h; refine Wq o1 Z (Sa Z cI (Nw o1 Z (Sa Z cI ?_))); refine Nn (AWp.seq (Wq o3 Z (Ss Z (.ldC (lq 2 Z) Z) ?_))); refine Ss Z (.lenT sli142 l0 (vsub Z (.refl _))) (Sa Z cI (Nn (AWp.cutX (fun x4 => ⟨[(2, I x4), (1, I 0)], []⟩) nc_then h (fun q2 hq2 => ?_) (fun x4 h => ?_))))
  · refine AWp.block (AWp.loopT (fun s3 => ⟨[(7, I s3.1), (6, I (a1.length : Int)), (5, .sl 1 .no (List.map I a1)), (2, I s3.2), (1, I 0)], []⟩) hq2 (Wk.selS [] (by decide) Z (sl [0, 1, 2, 3, 4] Z) .nil) (fun _ s3 h2 => ?_)); rw [num_Sum_1_L1] at h2; refine Wq o1 Z (Ss Z (.lss l0 (lq 1 Z)) (Nn (AWp.seq ?_))); refine AWp.condM l0 h2 (fun c1 h2 => ?_) (fun c1 h2 => ?_)
    · refine AWp.skip (aC (AWp.seq (AWp.block ?_))); refine Wq o3 Z (h2.b fun j5 m5 h2 => Ss Z (.ixS sli142 (lq 3 Z) (lq 1 Z) m5) (Ss Z (.ldC l0 Z) (Sa Z l0 ?_))); refine Nn (W.reg o7 Z (Sm 7 Z Z (Sm 1 Z Z ?_))); refine h2.b fun r6 m6 h2 => Ss Z (.cq (cr (lq 1 Z) (cr l0 .nil)) (C_num_Add m6) Z) (Ss Z (.extract l0 Z) (Ss Z (.extract (lq 1 Z) Z) (h2.b fun r7 m7 h2 => ?_))); refine Ss Z (.cq (cr (lq 1 Z) (cr l0 .nil)) (C_num_Must m7) Z) (Sa Z l0 (S.nil (blockQ_n ?_))); refine aC (W.reg o2 Z (Ss Z (.add (lq 11 Z) cI) (Sa Z l0 ?_))); exact Nn ⟨_, h2.ret, (Wk.selS [] (by decide) Z (sl [0, 14, 15, 2, 17] Z) .nil)⟩
    · refine AWp.exit (thenQ_x (thenQ_x (blockQ_x ?_))); exact aC ⟨_, h2.ret, (Wk.selS [] (by decide) Z (sl [4, 5] Z) .nil)⟩
  · refine aC (Wq o2 Z (Sa Z l0 (Sa Z l0 ?_))); refine Nn (AWp.ret ?_); obtain rfl := h.ret; exact e2 0 Z Z
theorem ifc20 : (match Pg.underlying 20 with | some (.interface _) => true | _ => false) = true := by kernel_rfl
theorem fun84 : (match Pg.underlying 84 with | some (.func ..) => true | _ => false) = true := by kernel_rfl
theorem C_num_Must_P {a1 : Int} {a2 : Int} (h : a2 ≠ 0) : PanC Pg 167 [(V.int .i64) a1, (V.int .i64) a2] (.ifc 30 ((V.int .i64) a2)) := by
  refine PanC.ofF (CallSpec.of_bodyF 10 0 fn167 Z Z Z (Nat.le_of_ble_eq_true Z) ?_) (aG ((aM.int .i64).lt _ _) (aG ((aM.int .i64).lt _ _) ltL_nil)) (lt_ifc ((aM.int .i64).lt _ _)); refine Wq o1 Z (Sa Z cI (Nn (AWp.seq ?_))); refine Wq o2 Z (Sm 2 Z Z (Ss Z (.neq l0 cI) (Nn ?_))); refine AWp.cond l0 (fun _ => ?_) (fun e => by simp [h] at e); refine AWp.regionP [0, 1] 2 [] Z Z Z (Sm 4 Z Z (Ss Z (.mkIface und30 Z l0 Z) (S.nil ?_))); exact ⟨_, _, .panic l0, thenQ_p ⟨Z, Z⟩⟩

theorem C_num_Sum_P {a1 : List Int} {r : Int} (h : num_Sum_P a1 = some r) : PanC Pg 166 [.cptr (.sl 1 .no (List.map (V.int .i64) a1))] (.ifc 30 ((V.int .i64) r)) := by
  refine PanC.ofF (CallSpec.of_bodyF 19 0 fn166 Z Z Z (Nat.le_of_ble_eq_true Z) ?_) (aG (lt_cptr (lt_sl Z ((aM.int .i64).ltm _ _))) ltL_nil) (lt_ifc ((aM.int .i64).lt _ _)); refine Wq o1 Z (Sa Z cI (Nw o1 Z (Sa Z cI ?_))); refine Nn (AWp.seq (Wq o3 Z (Ss Z (.loadC sz142 ag142 (lq 2 Z) Z Z) ?_))); refine Ss Z (.lenT sli142 l0 (vsub Z (.refl _))) (Sa Z cI (Nn (AWp.block ?_))); refine AWp.loopT (fun s3 => ⟨[(7, I s3.1), (6, I (a1.length : Int)), (5, .sl 1 .no (List.map I a1)), (2, I s3.2), (1, I 0)], []⟩) h (Wk.selS [] (by decide) Z (sl [0, 1, 2, 3, 4] Z) .nil) (fun _ s3 h2 => ?_); rw [num_Sum_P_L1] at h2; refine Wq o1 Z (Ss Z (.lss l0 (lq 1 Z)) (Nn (AWp.seq ?_))); refine AWp.condM l0 h2 (fun c1 h2 => ?_) (fun c1 h2 => h2.no.elim); refine AWp.skip (aC (AWp.seq (AWp.block ?_))); refine Wq o3 Z (h2.b fun j5 m5 h2 => Ss Z (.ixS sli142 (lq 3 Z) (lq 1 Z) m5) (Ss Z (.loadC sz3 ag3 l0 Z Z) (Sa Z l0 ?_))); refine Nn (h2.b fun r6 m6 h2 => ?_)
  by_cases hz : r6.2 = 0
  · replace h2 := (h2.t (by simp [hz])).ret; refine W.reg o7 Z (Sm 7 Z Z (Sm 1 Z Z (Ss Z (.callQ ent161 cF (cr (lq 1 Z) (cr l0 .nil)) (C_num_Add m6)) ?_))); refine Ss Z (.extract l0 Z) (Ss Z (.extract (lq 1 Z) Z) (Ss Z (.callQ ent167 cF (cr (lq 1 Z) (cr l0 .nil)) (C_num_Must (r := r6.1) (by simp [num_Must, hz]))) (Sa Z l0 ?_))); refine S.nil (blockQ_n (aC (W.reg o2 Z ?_))); exact Ss Z (.add (lq 11 Z) cI) (Sa Z l0 (Nn ⟨_, h2, (Wk.selS [] (by decide) Z (sl [0, 14, 15, 2, 17] Z) .nil)⟩))
  · replace h2 := (h2.f (by simp [hz])).ret
    simp only [loopK] at h2
    subst h2
    refine AWp.regionP [0, 1, 2, 3, 4] 5 [6] Z Z Z (Sm 7 Z Z (Sm 1 Z Z (Ss Z (.callQ ent161 cF (cr (lq 1 Z) (cr l0 .nil)) (C_num_Add m6)) ?_))); refine Ss Z (.extract l0 Z) (Ss Z (.extract (lq 1 Z) Z) (S.nil ⟨_, _, .call ent167 cF (cr (lw 1 Z) (cr l0 .nil)) (C_num_Must_P hz), ?_⟩))
    repeat (first | refine thenQ_p ?_ | refine blockQ_p ?_)
    exact ⟨Z, Z⟩

/-- The deferred function, when there is a panic. -/
theorem catch_pan {g : Gh} {w : World} {xs : List Value} {e a b : Int} {older : List PanicEntry} (hx : RVs g [.ptr 1 [] 0, .ptr 0 [] 0] xs) (hr : HR g [.cells (.int .i64 a), .cells (.int .i64 b)] w) {vx : Value} (hv : RV g (.ifc 30 (.int .i64 e)) vx) :
    CallsD Pg 170 xs.toArray (.panicking ({ v := vx, recovered := false } :: older)) w fun e' u' w' => e' = .returned (.tuple #[]) ∧ u' = .panicking ({ v := vx, recovered := true } :: older) ∧
      ∃ g', HR g' [.cells (.int .i64 0), .cells (.int .i64 e)] w' ∧ Ev g [.cells (.int .i64 a), .cells (.int .i64 b)] w g' [.cells (.int .i64 0), .cells (.int .i64 e)] w' := by
  refine callsD_of_wpS fn170 Z fun c₀ cs hu => ?_
  have h0 : RAct g 15 (argEnv 0 [.ptr 1 [] 0, .ptr 0 [] 0]) { tmps := xs.toArray ++ Array.replicate (15 - xs.toArray.size) Go.undef, defers := [] } := RAct.start hx (Nat.le_of_ble_eq_true rfl)
  have hsz : (Tryz.f170.ntmps : Nat) = 15 := rfl
  rw [hsz]
  apply wpS_seq
  apply wpS_region
  refine wpS_recover Z Z Z (by rw [h0.size]; exact Nat.le_of_ble_eq_true Z) (v := vx) (cs' := { c₀ with mode := .panicking ({ v := vx, recovered := true } :: older) } :: cs) (.inl (by simp [recoverD, hu])) ?_
  have h1 := (h0.put (dst := some 4) rfl hv).put (dst := some 2) rfl hv
  simp only [Exit.thenS]
  refine wpS_of_wp (wp_mono ((?_ : AWp Pg 15 2 _ (fun ex s => ex = .normal ∧ s.H = [.cells (.int .i64 0), .cells (.int .i64 e)]) ⟨(2, .ifc 30 (.int .i64 e)) :: (4, .ifc 30 (.int .i64 e)) :: argEnv 0 [.ptr 1 [] 0, .ptr 0 [] 0], [.cells (.int .i64 a), .cells (.int .i64 b)]⟩) ⟨g, [.cells (.int .i64 a), .cells (.int .i64 b)], w⟩ g _ w Z (by simpa using hr.len) h1 hr (.refl _ _ _)) ?_)
  · refine Wq o2 Z (Sa Z l0 (Ss Z (.neqIN ifc20 l0 cNi) (Nn ?_))); refine AWp.condT l0 (Wq o1 Z (Sa Z cB (Nn ?_))); refine .seq (Wq o7 Z (Sm 3 Z Z (Ss Z (.assertSame und30 l0) ?_))); refine Sa Z l0 (Ss Z (.extract l0 Z) (Ss Z (.extract (lq 1 Z) Z) (Sn [.cells (.int .i64 a), .cells (.int .i64 e)] Z Z (.storeP sz30 (lq 10 Z) (lq 1 Z) Z (.refl _) Z .nil Z .nil Z Z Z) Z trivial ?_))); refine Sa Z l0 (Nw o2 Z (Sa Z l0 (Ss Z (.not l0) ?_))); refine Nn (AWp.condF l0 (AWp.skip (aC ?_))); exact W.reg o1 Z (Sn [.cells (.int .i64 0), .cells (.int .i64 e)] Z Z (.storeP sz3 (lq 14 Z) cI Z (.refl _) Z .nil Z .nil Z Z Z) Z trivial (S.nil ⟨Z, Z⟩))
  · rintro ex a' w' ⟨g', s', ae, ⟨rfl, hs⟩, hx', r1, r2, r3⟩
    cases ex <;> simp only [ExRel] at hx' <;> try exact hx'.elim
    rw [hs] at r2 r3; exact ⟨r1.defers, _, Z, .tuple #[], by simp [results, Tryz.results170, go_sem], Z, Z, g', r2, r3⟩

/-- The deferred function, when there is none. -/
theorem catch_idle {g : Gh} {w : World} {xs : List Value} {a b : Int} (hx : RVs g [.ptr 1 [] 0, .ptr 0 [] 0] xs) (hr : HR g [.cells (.int .i64 a), .cells (.int .i64 b)] w) :
    CallsD Pg 170 xs.toArray .returning w fun e' u' w' => e' = .returned (.tuple #[]) ∧ u' = .returning ∧
      ∃ g', HR g' [.cells (.int .i64 a), .cells (.int .i64 b)] w' ∧ Ev g [.cells (.int .i64 a), .cells (.int .i64 b)] w g' [.cells (.int .i64 a), .cells (.int .i64 b)] w' := by
  refine callsD_of_wpS fn170 Z fun c₀ cs hu => ?_
  have h0 : RAct g 15 (argEnv 0 [.ptr 1 [] 0, .ptr 0 [] 0]) { tmps := xs.toArray ++ Array.replicate (15 - xs.toArray.size) Go.undef, defers := [] } := RAct.start hx (Nat.le_of_ble_eq_true rfl)
  have hsz : (Tryz.f170.ntmps : Nat) = 15 := rfl
  rw [hsz]
  apply wpS_seq
  apply wpS_region
  have hv : RV g .nili .nilIface := ⟨rfl, by simp [RC, Value.cells]⟩
  refine wpS_recover Z Z Z (by rw [h0.size]; exact Nat.le_of_ble_eq_true Z) (v := .nilIface) (cs' := c₀ :: cs) (.inr ⟨by simp [recoverD, hu], Z, Z⟩) ?_
  have h1 := (h0.put (dst := some 4) rfl hv).put (dst := some 2) rfl hv
  simp only [Exit.thenS]
  refine wpS_of_wp (wp_mono ((?_ : AWp Pg 15 2 _ (fun ex s => ex = .normal ∧ s.H = [.cells (.int .i64 a), .cells (.int .i64 b)]) ⟨(2, .nili) :: (4, .nili) :: argEnv 0 [.ptr 1 [] 0, .ptr 0 [] 0], [.cells (.int .i64 a), .cells (.int .i64 b)]⟩) ⟨g, [.cells (.int .i64 a), .cells (.int .i64 b)], w⟩ g _ w Z (by simpa using hr.len) h1 hr (.refl _ _ _)) ?_)
  · refine Wq o2 Z (Sa Z l0 (Ss Z (.neqNN ifc20 l0 cNi) (Nn ?_))); exact AWp.condF l0 (AWp.skip ⟨Z, Z⟩)
  · rintro ex a' w' ⟨g', s', ae, ⟨rfl, hs⟩, hx', r1, r2, r3⟩
    cases ex <;> simp only [ExRel] at hx' <;> try exact hx'.elim
    rw [hs] at r2 r3
    have hc : c₀ = { c₀ with mode := .returning } := by rw [← hu]
    exact ⟨r1.defers, .returning, by rw [← hc], .tuple #[], by simp [results, Tryz.results170, go_sem], Z, Z, g', r2, r3⟩


theorem ResTry {x y : Int} {env : List (Nat × V)} (h2 : look env 2 = .ptr 0 [] 0) (h3 : look env 3 = .ptr 1 [] 0) : ResOK Pg Tryz.f165 9 ⟨env, [.cells (.int .i64 x), .cells (.int .i64 y)]⟩ (.tup [.int .i64 x, .int .i64 y]) :=
  .many (rs := [.cell 2 3, .cell 3 30]) rfl (.cons (.cell sz3 ag3 h2 rfl (by simp [V.at]) rfl rfl rfl) (.cons (.cell sz30 ag30 h3 rfl (by simp [V.at]) rfl rfl rfl) .nil)) (by simp)

theorem Try_start {ff : FuncId} {cap : List V} {g : Gh} {w : World} {xs : List Value} (hx : RVs g [.fn ff [] cap] xs) (hr : HR g [] w) (hk : okL cap = true) {Q : Exit → Act → World → Prop}
    (k : ∀ g' a' w' b', RVl g' [.ptr 1 [] 0, .ptr 0 [] 0] b'.toList →
      RActD g' 9 [{ target := .fn (.func 170) b', args := #[] }] ((6, .fn 170 [] [.ptr 1 [] 0, .ptr 0 [] 0]) :: (5, .bool false) :: (4, .fn ff [] cap) :: (3, .ptr 1 [] 0) :: (2, .ptr 0 [] 0) :: argEnv 0 [.fn ff [] cap]) a' →
      HR g' [.cells (.int .i64 0), .cells (.int .i64 0)] w' → Ev g [] w g' [.cells (.int .i64 0), .cells (.int .i64 0)] w' →
      (tail3 (Tryz.f165.body.getD .skip)).wp Pg Q a' w') :
    ∃ c, Tryz.f165.body = some c ∧ c.wp Pg Q { tmps := xs.toArray ++ Array.replicate (9 - xs.toArray.size) Go.undef, defers := [] } w := by
  refine ⟨_, Z, ?_⟩
  have h0 : RAct g 9 (argEnv 0 [.fn ff [] cap]) _ := RAct.start hx (Nat.le_of_ble_eq_true rfl)
  refine AWp.toD (s := ⟨argEnv 0 [.fn ff [] cap], []⟩) (s' := ⟨(3, .ptr 1 [] 0) :: (2, .ptr 0 [] 0) :: argEnv 0 [.fn ff [] cap], [.cells (.int .i64 0), .cells (.int .i64 0)]⟩) (B := ⟨g, [], w⟩) (m := 0) ?_ Z (by simpa using hr.len) h0 hr (.refl _ _ _) fun g1 a1 w1 p1 p2 p3 => ?_
  · refine W.reg o2 Z (S.new 2 Z Z (.alloc zv3) trivial (S.new 3 Z Z (.alloc zv30) trivial (S.nil ?_))); exact ⟨Z, Z⟩
  refine AWp.toD (s := ⟨(3, .ptr 1 [] 0) :: (2, .ptr 0 [] 0) :: argEnv 0 [.fn ff [] cap], [.cells (.int .i64 0), .cells (.int .i64 0)]⟩) (s' := ⟨(5, .bool false) :: (4, .fn ff [] cap) :: (3, .ptr 1 [] 0) :: (2, .ptr 0 [] 0) :: argEnv 0 [.fn ff [] cap], [.cells (.int .i64 0), .cells (.int .i64 0)]⟩) (B := ⟨g, [], w⟩) (m := 0) ?_ Z (by simpa using hr.len) p1 p2 p3 fun g2 a2 w2 q1 q2 q3 => ?_
  · refine Wq o2 Z (Sm 2 Z Z (Ss Z (.eqlFN fun84 l0 cNf) (Nn ?_))); exact AWp.condF l0 (AWp.skip ⟨Z, Z⟩)
  refine wp_seq (wp_region ?_)
  show wpOps Pg _ _ ([0] ++ [1]) a2 w2
  refine runD_of (D := []) (s := ⟨(5, .bool false) :: (4, .fn ff [] cap) :: (3, .ptr 1 [] 0) :: (2, .ptr 0 [] 0) :: argEnv 0 [.fn ff [] cap], [.cells (.int .i64 0), .cells (.int .i64 0)]⟩) (s' := ⟨(6, .fn 170 [] [.ptr 1 [] 0, .ptr 0 [] 0]) :: (5, .bool false) :: (4, .fn ff [] cap) :: (3, .ptr 1 [] 0) :: (2, .ptr 0 [] 0) :: argEnv 0 [.fn ff [] cap], [.cells (.int .i64 0), .cells (.int .i64 0)]⟩) ?_ ⟨q1.env, q1.size, q1.defers⟩ q2 fun g3 a3 w3 u1 u2 u3 => ?_
  · refine Ss Z (.makeFunc (a := []) (b := [.ptr 1 [] 0, .ptr 0 [] 0]) Z Z Z Z) (S.nil ?_)
    rfl
  refine defer_op (x := .tmp 6) (f := 170) (cap := [.ptr 1 [] 0, .ptr 0 [] 0]) Z Z u1 fun b' v1 v2 => ?_
  simp only [wpOps, Exit.then]
  exact k g3 _ w3 b' v1 v2 u2 (q3.trans u3)

theorem C_Try_ret {ff : FuncId} {cap : List V} {r : Int} (hE : enters Pg ff = true) (hc : V.ltL 0 cap = true) (hk : okL cap = true) (hf : PureC Pg ff cap (.int .i64 r)) : PureC Pg 165 [.fn ff [] cap] (.tup [.int .i64 r, .int .i64 0]) := by
  refine PureC.of ?_ (aG (lt_fn ltL_nil hc) ltL_nil) (lt_tup (aG ((aM.int .i64).lt _ _) (aG ((aM.int .i64).lt _ _) ltL_nil)))
  intro g w xs hx hr
  refine Exists.elim (Try_start (Q := bodyPostD Pg Tryz.f165 fun e w' => ∃ g' H' o, o = .ret (.tup [.int .i64 r, .int .i64 0]) ∧ OutRel g' e o ∧ HR g' H' w' ∧ Ev g [] w g' H' w') hx hr hk fun g1 a1 w1 b' v1 u1 u2 u3 => ?_) fun c hb => calls_of_wp_defers fn165 hb.1 hb.2
  · refine wp_seq (wp_region ?_)
    show wpOps Pg _ _ ([0, 1, 2, 3] ++ []) a1 w1
    refine runD_of (s := ⟨(6, .fn 170 [] [.ptr 1 [] 0, .ptr 0 [] 0]) :: (5, .bool false) :: (4, .fn ff [] cap) :: (3, .ptr 1 [] 0) :: (2, .ptr 0 [] 0) :: argEnv 0 [.fn ff [] cap], [.cells (.int .i64 0), .cells (.int .i64 0)]⟩) (s' := ⟨(8, .int .i64 r) :: (7, .fn ff [] cap) :: (6, .fn 170 [] [.ptr 1 [] 0, .ptr 0 [] 0]) :: (5, .bool false) :: (4, .fn ff [] cap) :: (3, .ptr 1 [] 0) :: (2, .ptr 0 [] 0) :: argEnv 0 [.fn ff [] cap], [.cells (.int .i64 r), .cells (.int .i64 0)]⟩) ?_ u1 u2 fun g2 a2 w2 p1 p2 p3 => ?_
    · refine Sm 5 Z Z (Ss Z (.callQ hE l0 (by simpa using SubL.refl _) hf) (Sn [.cells (.int .i64 r), .cells (.int .i64 0)] Z Z (.storeP sz3 (lq 6 Z) l0 Z (.refl _) Z .nil Z .nil Z Z Z) Z trivial (Sn [.cells (.int .i64 r), .cells (.int .i64 0)] Z Z (.storeP sz30 (lq 5 Z) cI Z (.refl _) Z .nil Z .nil Z Z Z) Z trivial ?_))); refine S.nil ?_
      rfl
    simp only [wpOps, Exit.then]
    refine wp_ret ?_
    simp only [bodyPostD]
    rw [p1.defers]; refine leaves_cons (by simp) (invoke_fn ent170 b' w2) ((catch_idle (xs := b'.toList) (v1.rvs.mono p3.le) p2).mono ?_)
    rintro e' u' w3 ⟨rfl, rfl, g3, q1, q2⟩
    obtain ⟨x, h1, h2⟩ := (ResTry (x := r) (y := 0) (env := (8, .int .i64 r) :: (7, .fn ff [] cap) :: (6, .fn 170 [] [.ptr 1 [] 0, .ptr 0 [] 0]) :: (5, .bool false) :: (4, .fn ff [] cap) :: (3, .ptr 1 [] 0) :: (2, .ptr 0 [] 0) :: argEnv 0 [.fn ff [] cap]) rfl rfl).drop (p1.mono q2.le) q1; exact ⟨x, h1, g3, _, _, Z, h2, q1, (u3.trans p3).trans q2⟩

theorem C_Try_pan {ff : FuncId} {cap : List V} {r : Int} (hE : enters Pg ff = true) (hc : V.ltL 0 cap = true) (hk : okL cap = true) (hf : PanC Pg ff cap (.ifc 30 (.int .i64 r))) : PureC Pg 165 [.fn ff [] cap] (.tup [.int .i64 0, .int .i64 r]) := by
  refine PureC.of ?_ (aG (lt_fn ltL_nil hc) ltL_nil) (lt_tup (aG ((aM.int .i64).lt _ _) (aG ((aM.int .i64).lt _ _) ltL_nil)))
  intro g w xs hx hr
  refine Exists.elim (Try_start (Q := bodyPostD Pg Tryz.f165 fun e w' => ∃ g' H' o, o = .ret (.tup [.int .i64 0, .int .i64 r]) ∧ OutRel g' e o ∧ HR g' H' w' ∧ Ev g [] w g' H' w') hx hr hk fun g1 a1 w1 b' v1 u1 u2 u3 => ?_) fun c hb => calls_of_wp_defers fn165 hb.1 hb.2
  · refine wp_seq (wp_region ?_)
    show wpOps Pg _ _ ([0] ++ [1, 2, 3]) a1 w1
    refine runD_of (s := ⟨(6, .fn 170 [] [.ptr 1 [] 0, .ptr 0 [] 0]) :: (5, .bool false) :: (4, .fn ff [] cap) :: (3, .ptr 1 [] 0) :: (2, .ptr 0 [] 0) :: argEnv 0 [.fn ff [] cap], [.cells (.int .i64 0), .cells (.int .i64 0)]⟩) (s' := ⟨(7, .fn ff [] cap) :: (6, .fn 170 [] [.ptr 1 [] 0, .ptr 0 [] 0]) :: (5, .bool false) :: (4, .fn ff [] cap) :: (3, .ptr 1 [] 0) :: (2, .ptr 0 [] 0) :: argEnv 0 [.fn ff [] cap], [.cells (.int .i64 0), .cells (.int .i64 0)]⟩) ?_ u1 u2 fun g2 a2 w2 p1 p2 p3 => ?_
    · refine Sm 5 Z Z (S.nil ?_)
      rfl
    refine pan_op (o := ⟨some 8, .call ⟨.value (.tmp 7), #[], #[]⟩, 3, "num.go:58", #[⟨0, .data⟩], none⟩) (s := ⟨(7, .fn ff [] cap) :: (6, .fn 170 [] [.ptr 1 [] 0, .ptr 0 [] 0]) :: (5, .bool false) :: (4, .fn ff [] cap) :: (3, .ptr 1 [] 0) :: (2, .ptr 0 [] 0) :: argEnv 0 [.fn ff [] cap], [.cells (.int .i64 0), .cells (.int .i64 0)]⟩) Z Z (v := .ifc 30 (.int .i64 r)) (.call (first := []) (cap := cap) hE Z (by simpa using SubL.refl _) hf) p1 p2 fun g3 x w3 r1 r2 r3 r4 => ?_
    simp only [Exit.then, bodyPostD]
    rw [p1.defers]; refine leaves_cons (by simp) (invoke_fn ent170 b' w3) ((catch_pan (xs := b'.toList) ((v1.rvs.mono p3.le).mono r4.le) r3 r1).mono ?_)
    rintro e' u' w4 ⟨rfl, rfl, g4, q1, q2⟩
    obtain ⟨y, h1, h2⟩ := (ResTry (x := 0) (y := r) (env := (7, .fn ff [] cap) :: (6, .fn 170 [] [.ptr 1 [] 0, .ptr 0 [] 0]) :: (5, .bool false) :: (4, .fn ff [] cap) :: (3, .ptr 1 [] 0) :: (2, .ptr 0 [] 0) :: argEnv 0 [.fn ff [] cap]) rfl rfl).drop (r2.mono q2.le) q1; exact ⟨y, h1, g4, _, _, Z, h2, q1, ((u3.trans p3).trans r4).trans q2⟩
theorem C_Try_sum {a1 : List Int} {r : Int × Int} (h : tryM (num_Sum_1 a1) (num_Sum_P a1) = some r) : PureC Pg 165 [.fn 166 [] [.cptr (.sl 1 .no (List.map (V.int .i64) a1))]] (.tup [(V.int .i64) r.1, (V.int .i64) r.2]) := by
  unfold tryM at h
  split at h
  · cases h
    exact C_Try_ret ent166 (aG (lt_cptr (lt_sl Z ((aM.int .i64).ltm _ _))) ltL_nil) Z (C_num_Sum_1 (by assumption))
  · split at h
    · cases h
      exact C_Try_pan ent166 (aG (lt_cptr (lt_sl Z ((aM.int .i64).ltm _ _))) ltL_nil) Z (C_num_Sum_P (by assumption))
    · cases h
theorem C_num_Sum {a1 : List Int} {r : Int × Int} (h : num_Sum a1 = some r) : PureC Pg 152 [.sl 1 .no (List.map (V.int .i64) a1)] (.tup [(V.int .i64) r.1, (V.int .i64) r.2]) := by
  refine .c 8 fn152 Z Z Z ?_; replace h := Ok.of h; unfold num_Sum at h; refine Wq o3 Z (Sv (.ptr 0 [] 0) [.cells (.sl 1 .no (List.map I a1))] Z (.box l0 Z) Z Z trivial (Sa Z cI (Sa Z cI ?_))); refine Nn (AWp.wk (Wk.freeze 0 Z Z (.cons (lw 2 Z) Z (.ptr .nil Z) (.l [0, 1] Z)) (.refl _)) (Wq o6 Z (Ss Z (.makeFunc Z (mapE1 l0) Z Z) ?_))); refine h.b fun r2 m2 h => Ss Z (.cq (cr l0 .nil) (C_Try_sum m2) Z) (Ss Z (.extract l0 Z) (Ss Z (.extract (lq 1 Z) Z) (Sm 1 Z Z ?_))); refine Sm 1 Z Z (Nn (AWp.ret ?_)); obtain rfl := h.ret; exact eN [1, 0] Z Z Z Z Z
theorem C_vec_Sum {a1 : Vector Int 16} {r : Int × Int} (h : vec_Sum a1 = some r) : PureC Pg 160 [E_A16_i64 a1] (.tup [(V.int .i64) r.1, (V.int .i64) r.2]) := by
  refine .c 8 fn160 Z Z Z ?_; replace h := Ok.of h; unfold vec_Sum at h; refine Wq o3 Z (Sv (.ptr 0 [] 0) [.cells (E_A16_i64 a1)] Z (.box l0 Z) Z Z trivial (Sa Z cI (Sa Z cI ?_))); refine Nn (AWp.wk (Wk.freeze 0 Z Z (.cons (lw 2 Z) Z (.ptr .nil Z) (.l [0, 1] Z)) (.refl _)) (Wq o6 Z (Ss Z (.sliceArr arr39 l0 (by simp)) ?_))); refine h.b fun r2 m2 h => Ss Z (.cq (.c l0 (vsub Z (.forget _ _ _)) .nil) (C_num_Sum m2) Z) (Ss Z (.extract l0 Z) (Ss Z (.extract (lq 1 Z) Z) (Sm 1 Z Z ?_))); refine Sm 1 Z Z (Nn (AWp.ret ?_)); obtain rfl := h.ret; exact eN [1, 0] Z Z Z Z Z
theorem C_counter_given {a1 : TRights} {a2 : TRights} {a3 : Int} {r : Bool} (h : counter_given a1 a2 a3 = some r) : PureC Pg 139 [E_TRights a1, E_TRights a2, (V.int .i64) a3] (V.bool r) := by
  refine .c 46 fn139 Z Z Z ?_; replace h := Ok.of h; unfold counter_given at h; refine Wq o3 Z (Sv (.ptr 0 [] 0) [.cells (E_TRights a1)] Z (.box l0 Z) Z Z trivial (Sv (.ptr 1 [] 0) [.cells (E_TRights a1), .cells (E_TRights a2)] Z (.box (lq 2 Z) Z) Z Z trivial (Sa Z cB ?_))); refine Nn (AWp.wk (Wk.freeze 0 Z Z (.cons (lw 2 Z) Z (.ptr .nil Z) (.l [0, 1, 5] Z)) (.refl _)) (AWp.wk (Wk.freeze 1 Z Z (.cons (lw 2 Z) Z (.ptr .nil Z) (.l [0, 1, 3] Z)) (.refl _)) (Wq o8 Z ?_))); refine Ss Z (.faC Z Z (lq 1 Z) Z) (Ss Z (.ldC l0 Z) (h.b fun r4 m4 h => Ss Z (.cq (cr l0 .nil) (C_vec_Sum m4) Z) (Sa Z l0 ?_))); refine Ss Z (.extract l0 Z) (Ss Z (.extract (lq 1 Z) Z) (Sm 1 Z Z (Sm 1 Z Z ?_))); refine Nw o8 Z (Ss Z (.faC Z Z (lq 8 Z) Z) (Ss Z (.ldC l0 Z) (h.b fun r5 m5 h => ?_))); refine Ss Z (.cq (cr l0 .nil) (C_vec_Sum m5) Z) (Sa Z l0 (Ss Z (.extract l0 Z) (Ss Z (.extract (lq 1 Z) Z) ?_))); refine Sm 1 Z Z (Sm 1 Z Z (Nn (Pr [0, 1, 8, 9, 18, 19] Z ?_))); refine Wq o8 Z (Sm 5 Z Z (Sm 2 Z Z (h.b fun r6 m6 h => ?_))); refine Ss Z (.cq (cr (lq 1 Z) (cr l0 .nil)) (C_num_Add m6) Z) (Sa Z l0 (Ss Z (.extract l0 Z) (Ss Z (.extract (lq 1 Z) Z) ?_))); refine Sm 1 Z Z (Sm 1 Z Z (Nw o16 Z (Sm 10 Z Z ?_))); refine Ss Z (.eql l0 cI) (Sa Z l0 (Sg Z l0 (.move (lq 11 Z)) (Sj Z (lq 1 Z) (fun hB => .eql (i0 hB) cI) ?_))); refine Ss Z (.pickAnd (lq 2 Z) i0 cB) (Sa Z l0 (Sg Z l0 (.move (lq 7 Z)) (Sj Z (lq 1 Z) (fun hB => .eql (i0 hB) cI) ?_))); refine Ss Z (.pickAnd (lq 2 Z) i0 cB) (Sa Z l0 (Sg Z l0 (.move (lq 22 Z)) (Sg Z (lq 1 Z) (.move (lq 13 Z)) ?_))); refine Sj Z (lq 2 Z) (fun hB => .eql (ifT hB (lq 1 Z)) (i0 hB)) (h.n fun v7 ev7 h => Ss Z (.nv (.pickAnd (lq 3 Z) i0 cB) (congrArg V.bool ev7.symm)) (Sa Z l0 (Nn ?_))); refine Pr [0] Z (AWp.ret ?_); obtain rfl := h.ret; exact e2 0 Z Z
theorem C_counter_Right {a1 : aJ} {r : Bool} (h : counter_Right a1 = some r) : PureC Pg 105 [aF a1] (V.bool r) := by
  refine .c 65 fn105 Z Z Z ?_; replace h := Ok.of h; unfold counter_Right at h; refine Wq o2 Z (Sv (.ptr 0 [] 0) [.cells (aF a1)] Z (.box l0 Z) Z Z trivial (Sa Z cB (Nn ?_))); refine AWp.wk (Wk.freeze 0 Z Z (.cons (lw 1 Z) Z (.ptr .nil Z) (.l [0] Z)) (.refl _)) (AWp.seq (Wq o30 Z (Ss Z (.faC Z Z l0 Z) ?_))); refine Ss Z (.ldC l0 Z) (h.b fun r2 m2 h => Ss Z (.cq (cr l0 .nil) (C_num_Is m2) Z) (Ss Z (.not l0) (Sa Z l0 ?_))); refine Sg Z l0 (.faC Z Z (lq 5 Z) Z) (Sj Z (lq 1 Z) (fun hB => .ldC (i0 hB) Z) (h.b fun r3 m3 h => Sj Z (lq 2 Z) (fun hB => .cq (cr (i0 hB) .nil) (C_num_Is (gd_get m3 hB)) Z) (Sj Z (lq 3 Z) (fun hB => .not (i0 hB)) ?_))); refine Ss Z (.pickOr (lq 4 Z) cB i0) (Sa Z l0 (Sg Z l0 (.faC Z Z (lq 11 Z) Z) (Sj Z (lq 1 Z) (fun hB => .ldC (i0 hB) Z) ?_))); refine h.b fun r4 m4 h => Sj Z (lq 2 Z) (fun hB => .cq (cr (i0 hB) .nil) (C_num_Is (gd_get m4 hB)) Z) (Sj Z (lq 3 Z) (fun hB => .not (i0 hB)) (Ss Z (.pickOr (lq 4 Z) cB i0) (Sa Z l0 ?_))); refine Sg Z l0 (.faC Z Z (lq 17 Z) Z) (Sj Z (lq 1 Z) (fun hB => .ldC (i0 hB) Z) (Sg Z (lq 2 Z) (.faC Z Z (lq 19 Z) Z) (Sj Z (lq 3 Z) (fun hB => .ldC (i0 hB) Z) ?_))); refine Sj Z (lq 4 Z) (fun hB => .gtr (ifT hB (lq 2 Z)) (i0 hB)) (Ss Z (.pickOr (lq 5 Z) cB i0) (Sa Z l0 (Sg Z l0 (.faC Z Z (lq 24 Z) Z) ?_))); refine Sj Z (lq 1 Z) (fun hB => .ldC (i0 hB) Z) (Sg Z (lq 2 Z) (.faC Z Z (lq 26 Z) Z) (Sj Z (lq 3 Z) (fun hB => .ldC (i0 hB) Z) (Sj Z (lq 4 Z) (fun hB => .gtr (ifT hB (lq 2 Z)) (i0 hB)) ?_))); refine h.n fun v5 ev5 h => Ss Z (.nv (.pickOr (lq 5 Z) cB i0) (congrArg V.bool ev5.symm)) (Nn (Pr [0, 30, 31] Z (AWp.condM l0 h (fun c1 h => ?_) (fun c1 h => ?_))))
  · refine Wq o1 Z (Sa Z cB (Nn (AWp.ret ?_))); refine aD ?_; obtain rfl := h.ret; exact e2 0 Z Z
  · refine AWp.skip (aC (Wq o33 Z (Ss Z (.faC Z Z (lq 1 Z) Z) ?_))); refine Ss Z (.ldC l0 Z) (h.b fun r6 m6 h => Ss Z (.cq (cr l0 .nil) (C_rights_Right m6) Z) (Sa Z l0 (Sg Z l0 (.faC Z Z (lq 5 Z) Z) ?_))); refine Sj Z (lq 1 Z) (fun hB => .ldC (i0 hB) Z) (h.b fun r7 m7 h => Sj Z (lq 2 Z) (fun hB => .cq (cr (i0 hB) .nil) (C_rights_Right (gd_get m7 hB)) Z) (Ss Z (.pickAnd (lq 3 Z) i0 cB) (Sa Z l0 ?_))); refine Sg Z l0 (.faC Z Z (lq 10 Z) Z) (Sj Z (lq 1 Z) (fun hB => .ldC (i0 hB) Z) (Sg Z (lq 2 Z) (.faC Z Z (lq 12 Z) Z) (Sj Z (lq 3 Z) (fun hB => .ldC (i0 hB) Z) ?_))); refine Sg Z (lq 4 Z) (.faC Z Z (lq 14 Z) Z) (Sj Z (lq 5 Z) (fun hB => .ldC (i0 hB) Z) (Sg Z (lq 6 Z) (.faC Z Z (lq 16 Z) Z) (Sj Z (lq 7 Z) (fun hB => .ldC (i0 hB) Z) ?_))); refine Sj Z (lq 8 Z) (fun hB => .sub (ifT hB (lq 2 Z)) (i0 hB)) (h.b fun r8 m8 h => Sj Z (lq 9 Z) (fun hB => .cq (cr (ifT hB (lq 7 Z)) (cr (ifT hB (lq 5 Z)) (cr (i0 hB) .nil))) (C_counter_given (gd_get m8 hB)) Z) (Ss Z (.pickAnd (lq 10 Z) i0 cB) (Sa Z l0 ?_))); refine Sg Z l0 (.faC Z Z (lq 22 Z) Z) (Sj Z (lq 1 Z) (fun hB => .ldC (i0 hB) Z) (Sg Z (lq 2 Z) (.faC Z Z (lq 24 Z) Z) (Sj Z (lq 3 Z) (fun hB => .ldC (i0 hB) Z) ?_))); refine Sg Z (lq 4 Z) (.faC Z Z (lq 26 Z) Z) (Sj Z (lq 5 Z) (fun hB => .ldC (i0 hB) Z) (Sg Z (lq 6 Z) (.faC Z Z (lq 28 Z) Z) (Sj Z (lq 7 Z) (fun hB => .ldC (i0 hB) Z) ?_))); refine Sj Z (lq 8 Z) (fun hB => .sub (ifT hB (lq 2 Z)) (i0 hB)) (h.b fun r9 m9 h => Sj Z (lq 9 Z) (fun hB => .cq (cr (ifT hB (lq 7 Z)) (cr (ifT hB (lq 5 Z)) (cr (i0 hB) .nil))) (C_counter_given (gd_get m9 hB)) Z) (Ss Z (.pickAnd (lq 10 Z) i0 cB) (h.n fun v10 ev10 h => ?_))); refine Ss Z (.nv (.assign l0) (congrArg V.bool ev10.symm)) (Nn (Pr [0] Z (AWp.ret ?_))); obtain rfl := h.ret; exact e2 0 Z Z
theorem C_hold_count {a1 : Int} {r : Bool} (h : hold_count a1 = some r) : PureC Pg 143 [(V.int .i64) a1] (V.bool r) := by
  refine .c 9 fn143 Z Z Z ?_; replace h := Ok.of h; unfold hold_count at h; refine Wq o1 Z (Sa Z cB (Nw o7 Z (Sm 1 Z Z ?_))); refine Ss Z (.geq l0 cI) (Sa Z l0 (Sg Z l0 (.move (lq 4 Z)) (h.b fun r2 m2 h => ?_))); refine Sj Z (lq 1 Z) (fun hB => .cq (cr (i0 hB) .nil) (C_num_Is (gd_get m2 hB)) Z) (Ss Z (.pickAnd (lq 2 Z) i0 cB) (h.n fun v3 ev3 h => Ss Z (.nv (.assign l0) (congrArg V.bool ev3.symm)) (Nn ?_))); refine AWp.ret ?_; obtain rfl := h.ret; exact e2 0 Z Z
theorem C_hold_Right {a1 : THold} {r : Bool} (h : hold_Right a1 = some r) : PureC Pg 121 [E_THold a1] (V.bool r) := by
  refine .c 41 fn121 Z Z Z ?_; replace h := Ok.of h; unfold hold_Right at h; refine Wq o2 Z (Sv (.ptr 0 [] 0) [.cells (E_THold a1)] Z (.box l0 Z) Z Z trivial (Sa Z cB (Nn ?_))); refine AWp.wk (Wk.freeze 0 Z Z (.cons (lw 1 Z) Z (.ptr .nil Z) (.l [0] Z)) (.refl _)) (Wq o39 Z (Ss Z (.faC Z Z l0 Z) (Ss Z (.ldC l0 Z) ?_))); refine Ss Z (.geq l0 cI) (Sa Z l0 (Sg Z l0 (.faC Z Z (lq 4 Z) Z) (Sj Z (lq 1 Z) (fun hB => .ldC (i0 hB) Z) ?_))); refine Sj Z (lq 2 Z) (fun hB => .lss (i0 hB) cI) (Ss Z (.pickAnd (lq 3 Z) i0 cB) (Sa Z l0 (Sg Z l0 (.faC Z Z (lq 9 Z) Z) ?_))); refine Sj Z (lq 1 Z) (fun hB => .ldC (i0 hB) Z) (Sj Z (lq 2 Z) (fun hB => .geq (i0 hB) cI) (h.n fun v2 ev2 h => Ss Z (.nv (.pickAnd (lq 3 Z) i0 cB) (congrArg V.bool ev2.symm)) (Sa Z l0 ?_))); refine Sg Z l0 (.faC Z Z (lq 14 Z) Z) (Sj Z (lq 1 Z) (fun hB => .ldC (i0 hB) Z) (h.b fun r3 m3 h => Sj Z (lq 2 Z) (fun hB => .cq (cr (i0 hB) .nil) (C_num_Is (gd_get m3 hB)) Z) (Ss Z (.pickAnd (lq 3 Z) i0 cB) ?_))); refine Sa Z l0 (Sg Z l0 (.faC Z Z (lq 19 Z) Z) (Sj Z (lq 1 Z) (fun hB => .ldC (i0 hB) Z) (h.b fun r4 m4 h => ?_))); refine Sj Z (lq 2 Z) (fun hB => .cq (cr (i0 hB) .nil) (C_hold_count (gd_get m4 hB)) Z) (Ss Z (.pickAnd (lq 3 Z) i0 cB) (Sa Z l0 (Sg Z l0 (.faC Z Z (lq 24 Z) Z) ?_))); refine Sj Z (lq 1 Z) (fun hB => .ldC (i0 hB) Z) (h.b fun r5 m5 h => Sj Z (lq 2 Z) (fun hB => .cq (cr (i0 hB) .nil) (C_hold_count (gd_get m5 hB)) Z) (Ss Z (.pickAnd (lq 3 Z) i0 cB) (Sa Z l0 ?_))); refine Sg Z l0 (.faC Z Z (lq 29 Z) Z) (Sj Z (lq 1 Z) (fun hB => .ldC (i0 hB) Z) (Sj Z (lq 2 Z) (fun hB => .geq (i0 hB) cI) (Ss Z (.pickAnd (lq 3 Z) i0 cB) ?_))); refine Sa Z l0 (Sg Z l0 (.faC Z Z (lq 34 Z) Z) (Sj Z (lq 1 Z) (fun hB => .ldC (i0 hB) Z) (Sj Z (lq 2 Z) (fun hB => .leq (i0 hB) cI) ?_))); refine h.n fun v6 ev6 h => Ss Z (.nv (.pickAnd (lq 3 Z) i0 cB) (congrArg V.bool ev6.symm)) (Sa Z l0 (Nn (Pr [0] Z ?_))); refine AWp.ret ?_; obtain rfl := h.ret; exact e2 0 Z Z
theorem C_hold_compare {a1 : THold} {a2 : THold} {r : Int} (h : hold_compare a1 a2 = some r) : PureC Pg 92 [E_THold a1, E_THold a2] ((V.int .i64) r) := by
  refine .c 32 fn92 Z Z Z ?_; replace h := Ok.of h; unfold hold_compare at h; refine Wq o3 Z (Sv (.ptr 0 [] 0) [.cells (E_THold a1)] Z (.box l0 Z) Z Z trivial (Sv (.ptr 1 [] 0) [.cells (E_THold a1), .cells (E_THold a2)] Z (.box (lq 2 Z) Z) Z Z trivial (Sa Z cI ?_))); refine Nn (AWp.wk (Wk.freeze 0 Z Z (.cons (lw 2 Z) Z (.ptr .nil Z) (.l [0, 1] Z)) (.refl _)) (AWp.wk (Wk.freeze 1 Z Z (.cons (lw 2 Z) Z (.ptr .nil Z) (.l [0, 1] Z)) (.refl _)) (AWp.seq ?_))); refine Wq o12 Z (Ss Z (.faC Z Z (lq 1 Z) Z) (Ss Z (.ldC l0 Z) (Ss Z (.faC Z Z (lq 2 Z) Z) ?_))); refine Ss Z (.ldC l0 Z) (Ss Z (.buildArrL (w := E_A2_i64 (#v[a1.Replica, a2.Replica] : Vector Int 2)) arr132 zv132 (.cons (lq 2 Z) Z Z Z (.cons l0 Z Z Z .nil)) Z Z) (Ss Z (.faC Z Z (lq 6 Z) Z) (Ss Z (.ldC l0 Z) ?_))); refine Ss Z (.faC Z Z (lq 7 Z) Z) (Ss Z (.ldC l0 Z) (Ss Z (.buildArrL (w := E_A2_i64 (#v[a1.Number, a2.Number] : Vector Int 2)) arr132 zv132 (.cons (lq 2 Z) Z Z Z (.cons l0 Z Z Z .nil)) Z Z) (Ss Z (.buildArrL (w := E_A2_A2_i64 (#v[(#v[a1.Replica, a2.Replica] : Vector Int 2), (#v[a1.Number, a2.Number] : Vector Int 2)] : Vector (Vector Int 2) 2)) arr152 zv152 (.cons (lq 5 Z) Z Z (ty_A2_i64.fl (#v[a1.Replica, a2.Replica] : Vector Int 2)) (.cons l0 Z Z (ty_A2_i64.fl (#v[a1.Number, a2.Number] : Vector Int 2)) .nil)) Z Z) ?_))); refine Sa Z cI (Nn (Pr [0, 1, 14] Z (AWp.cutL (fun x5 => ⟨[(4, I 0)], []⟩) nc_then h (fun q3 hq3 h => ?_) (fun x5 h => ?_))))
  · refine AWp.block (AWp.loopT (fun s4 => ⟨[(18, I s4), (17, E_A2_A2_i64 (#v[(#v[a1.Replica, a2.Replica] : Vector Int 2), (#v[a1.Number, a2.Number] : Vector Int 2)] : Vector (Vector Int 2) 2)), (4, I 0)], []⟩) hq3 (Wk.selS [] (by decide) Z (sl [0, 1, 2] Z) .nil) (fun _ s4 h3 => ?_)); rw [hold_compare_L1] at h3; refine Wq o1 Z (Ss Z (.lss l0 cI) (Nn (AWp.seq ?_))); refine AWp.condM l0 h3 (fun c1 h3 => ?_) (fun c1 h3 => ?_)
    · refine AWp.skip (aC (AWp.seq (AWp.block ?_))); refine Wq o3 Z (h3.b fun k6 m6 h3 => Ss Z (.ixV arr152 (lq 2 Z) (lq 1 Z) m6 Z) (Sv (.ptr 0 [] 0) [.cells (E_A2_i64 (default : Vector Int 2))] Z (.alloc zv132) Z Z trivial (h3.n fun v7 ev7 h3 => ?_))); refine Sn [.cells (E_A2_i64 v7)] Z Z (.sw l0 (lq 1 Z) Z Z (congrArg (fun z => ([aK.cells (E_A2_i64 z)] : List aK)) ev7.symm)) Z trivial (Nn (AWp.wk (Wk.freeze 0 Z Z (.cons l0 Z (.ptr .nil Z) (.l [1, 2, 3, 4, 5] Z)) (.refl _)) (Wq o5 Z ?_))); refine h3.b fun k8 m8 h3 => Ss Z (.ixC arr132 l0 cI m8) (Ss Z (.ldC l0 Z) (h3.b fun k9 m9 h3 => Ss Z (.ixC arr132 (lq 2 Z) cI m9) (Ss Z (.ldC l0 Z) ?_))); refine Ss Z (.neq (lq 2 Z) l0) (Nn (AWp.condM l0 h3 (fun c2 h3 => ?_) (fun c2 h3 => ?_)))
      · refine .seq (Wq o5 Z (h3.b fun k10 m10 h3 => Ss Z (.ixC arr132 (lq 5 Z) cI m10) (Ss Z (.ldC l0 Z) ?_))); refine h3.b fun k11 m11 h3 => Ss Z (.ixC arr132 (lq 7 Z) cI m11) (Ss Z (.ldC l0 Z) (Ss Z (.lss (lq 2 Z) l0) (Nn ?_))); refine AWp.condM l0 h3 (fun c3 h3 => ?_) (fun c3 h3 => ?_)
        · refine Wq o1 Z (Sa Z cI (Nn (AWp.ret ?_))); refine aD (blockQ_r (aD (aD ?_))); refine blockQ_r (aD (aD ?_))
          have h := Ok.inrq h h3.ret
          obtain rfl := h.ret; exact e2 0 Z Z
        · refine AWp.skip (aC (Wq o1 Z (Sa Z cI ?_))); refine Nn (AWp.ret (blockQ_r (aD ?_))); refine aD (blockQ_r (aD (aD ?_)))
          have h := Ok.inrq h h3.ret
          obtain rfl := h.ret; exact e2 0 Z Z
      · refine AWp.skip (blockQ_n (aC (W.reg o2 Z ?_))); exact Ss Z (.add (lq 8 Z) cI) (Sa Z l0 (Nn ⟨_, h3.ret, (Wk.selS [] (by decide) Z (sl [0, 11, 12] Z) .nil)⟩))
    · refine AWp.exit (thenQ_x (thenQ_x (blockQ_x ?_))); exact aC ⟨_, h3.ret, (Wk.selS [] (by decide) Z (sl [3] Z) .nil)⟩
  · refine aC (Wq o1 Z (Sa Z cI (Nn ?_))); refine AWp.ret ?_; obtain rfl := h.ret; exact e2 0 Z Z
theorem C_hold_Rights {a1 : List THold} {r : Bool} (h : hold_Rights a1 = some r) : PureC Pg 90 [.sl 5 .no (List.map E_THold a1)] (V.bool r) := by
  refine .c 33 fn90 Z Z Z ?_; replace h := Ok.of h; unfold hold_Rights at h; refine Wq o1 Z (Sa Z cB (Nn (AWp.seq ?_))); refine Wq o3 Z (Sm 1 Z Z (Ss Z (.lenT sli47 l0 (vsub Z (.refl _))) (Sa Z cI ?_))); refine Nn (AWp.cutL (fun x4 => ⟨[(2, V.bool false), (0, .sl 5 .no (List.map E_THold a1))], []⟩) nc_then h (fun q2 hq2 h => ?_) (fun x4 h => ?_))
  · refine AWp.block (AWp.loopT (fun s3 => ⟨[(7, I s3), (6, I (a1.length : Int)), (5, .sl 5 .no (List.map E_THold a1)), (2, V.bool false), (0, .sl 5 .no (List.map E_THold a1))], []⟩) hq2 (Wk.selS [] (by decide) Z (sl [0, 1, 2, 3, 4] Z) .nil) (fun _ s3 h2 => ?_)); rw [hold_Rights_L1] at h2; refine Wq o1 Z (Ss Z (.lss l0 (lq 1 Z)) (Nn (AWp.seq ?_))); refine AWp.condM l0 h2 (fun c1 h2 => ?_) (fun c1 h2 => ?_)
    · refine AWp.skip (aC (AWp.seq (AWp.block ?_))); refine Wq o6 Z (Sm 1 Z Z (h2.b fun j5 m5 h2 => Ss Z (.ixS sli47 (lq 4 Z) (lq 2 Z) m5) (h2.n fun v6 ev6 h2 => ?_))); refine Ss Z (.nv (.ldC l0 Z) (congrArg E_THold ev6.symm)) (Sv (.ptr 0 [] 0) [.cells (E_THold (default : THold))] Z (.alloc zv106) Z Z trivial (Sm 3 Z Z (Sn [.cells (E_THold v6)] Z Z (.sw (lq 1 Z) (lq 2 Z) Z Z Z) Z trivial ?_))); refine Nn (AWp.wk (Wk.freeze 0 Z Z (.cons (lw 1 Z) Z (.ptr .nil Z) (.l [0, 2, 3, 4, 5, 6, 7, 8, 9, 10] Z)) (.refl _)) (AWp.seq (W.regD o17 mixed ?_))); refine Ss Z (.ldC l0 Z) (h2.b fun r7 m7 h2 => Ss Z (.cq (cr l0 .nil) (C_hold_Right m7) Z) (Ss Z (.not l0) (Sa Z l0 ?_))); refine Sg Z l0 (.move (lq 5 Z)) (Sj Z (lq 1 Z) (fun hB => .gtr (i0 hB) cI) (Sj Z (lq 2 Z) (fun hB => .move (i0 hB)) (Sg2 Z l0 (.move (lq 17 Z)) ?_))); refine Sg2 Z (lq 1 Z) (.move (lq 9 Z)) (Sj2 Z (lq 2 Z) (fun hB => .sub (i0 hB) cI) (h2.b fun j8 m8 h2 => Sj2 Z (lq 3 Z) (fun hB => .ixS sli47 (ifT hB (lq 2 Z)) (i0 hB) (gd_get m8 hB)) (Sj2 Z (lq 4 Z) (fun hB => .ldC (i0 hB) Z) ?_))); refine Sg2 Z (lq 5 Z) (.ldC (lq 12 Z) Z) (h2.b fun r9 m9 h2 => Sj2 Z (lq 6 Z) (fun hB => .cq (cr (ifT hB (lq 1 Z)) (cr (i0 hB) .nil)) (C_hold_compare (gd_get m9 hB)) Z) (Sj2 Z (lq 7 Z) (fun hB => .geq (i0 hB) cI) (Sj Z (lq 11 Z) (fun hB => .pickAnd (ifT hB (lq 8 Z)) (fun h => ifT ⟨hB, h⟩ l0) cB) ?_))); refine Ss Z (.pickOr (lq 12 Z) cB i0) (S.nilD (by kernel_rfl) (aC (Pr [0, 13, 14, 15, 16, 17, 18, 19, 20, 21, 22, 23, 24, 25, 26, 27] Z ?_))); refine AWp.condM l0 h2 (fun c2 h2 => ?_) (fun c2 h2 => ?_)
      · refine Wq o1 Z (Sa Z cB (Nn (AWp.ret ?_))); refine blockQ_r (aD (aD (blockQ_r ?_))); refine aD (aD ?_)
        have h := Ok.inrq h h2.ret
        obtain rfl := h.ret; exact e2 0 Z Z
      · refine AWp.skip (blockQ_n (aC (W.reg o2 Z ?_))); exact Ss Z (.add (lq 11 Z) cI) (Sa Z l0 (Nn ⟨_, h2.ret, (Wk.selS [] (by decide) Z (sl [0, 14, 15, 16, 17] Z) .nil)⟩))
    · refine AWp.exit (thenQ_x (thenQ_x (blockQ_x ?_))); exact aC ⟨_, h2.ret, (Wk.selS [] (by decide) Z (sl [4, 5] Z) .nil)⟩
  · refine aC (Wq o4 Z (Sm 1 Z Z (Ss Z (.lenT sli47 l0 (vsub Z (.refl _))) ?_))); refine Ss Z (.leq l0 cI) (h.n fun v10 ev10 h => Ss Z (.nv (.assign l0) (congrArg V.bool ev10.symm)) (Nn (AWp.ret ?_))); obtain rfl := h.ret; exact e2 0 Z Z
theorem C_lock_Right_1 {a1 : Int} {r : Bool} (h : lock_Right_1 a1 = some r) : PureC Pg 140 [(V.int .i64) a1] (V.bool r) := by
  refine .c 9 fn140 Z Z Z ?_; replace h := Ok.of h; unfold lock_Right_1 at h; refine Wq o1 Z (Sa Z cB (Nw o7 Z (Sm 1 Z Z ?_))); refine Ss Z (.geq l0 cI) (Sa Z l0 (Sg Z l0 (.move (lq 4 Z)) (h.b fun r2 m2 h => ?_))); refine Sj Z (lq 1 Z) (fun hB => .cq (cr (i0 hB) .nil) (C_num_Is (gd_get m2 hB)) Z) (Ss Z (.pickAnd (lq 2 Z) i0 cB) (h.n fun v3 ev3 h => Ss Z (.nv (.assign l0) (congrArg V.bool ev3.symm)) (Nn ?_))); refine AWp.ret ?_; obtain rfl := h.ret; exact e2 0 Z Z
theorem C_lock_is {a1 : Int} {r : Bool} (h : lock_is a1 = some r) : PureC Pg 124 [(V.int .i64) a1] (V.bool r) := by
  refine .c 9 fn124 Z Z Z ?_; replace h := Ok.of h; unfold lock_is at h; refine Wq o1 Z (Sa Z cB (Nw o7 Z (Sm 1 Z Z ?_))); refine Ss Z (.geq l0 cI) (Sa Z l0 (Sg Z l0 (.move (lq 4 Z)) (Sj Z (lq 1 Z) (fun hB => .lss (i0 hB) cI) ?_))); refine Ss Z (.pickAnd (lq 2 Z) i0 cB) (h.n fun v2 ev2 h => Ss Z (.nv (.assign l0) (congrArg V.bool ev2.symm)) (Nn (AWp.ret ?_))); obtain rfl := h.ret; exact e2 0 Z Z
theorem C_lock_Right {a1 : TLock} {r : Bool} (h : lock_Right a1 = some r) : PureC Pg 106 [E_TLock a1] (V.bool r) := by
  refine .c 24 fn106 Z Z Z ?_; replace h := Ok.of h; unfold lock_Right at h; refine Wq o2 Z (Sv (.ptr 0 [] 0) [.cells (E_TLock a1)] Z (.box l0 Z) Z Z trivial (Sa Z cB (Nn ?_))); refine AWp.wk (Wk.freeze 0 Z Z (.cons (lw 1 Z) Z (.ptr .nil Z) (.l [0] Z)) (.refl _)) (Wq o1 Z (Sa Z cF (Nw o21 Z ?_))); refine Sa Z l0 (Ss Z (.faC Z Z (lq 2 Z) Z) (Ss Z (.ldC l0 Z) (h.b fun r2 m2 h => ?_))); refine Ss Z (.callQ ent140 (lq 2 Z) (cr l0 .nil) (C_lock_Right_1 m2)) (Sa Z l0 (Sg Z l0 (.move (lq 5 Z)) (Sg Z (lq 1 Z) (.faC Z Z (lq 7 Z) Z) ?_))); refine Sj Z (lq 2 Z) (fun hB => .ldC (i0 hB) Z) (h.b fun r3 m3 h => Sj Z (lq 3 Z) (fun hB => .callQ ent140 (ifT hB (lq 2 Z)) (cr (i0 hB) .nil) (C_lock_Right_1 (gd_get m3 hB))) (Ss Z (.pickAnd (lq 4 Z) i0 cB) (Sa Z l0 ?_))); refine Sg Z l0 (.faC Z Z (lq 12 Z) Z) (Sj Z (lq 1 Z) (fun hB => .ldC (i0 hB) Z) (h.b fun r4 m4 h => Sj Z (lq 2 Z) (fun hB => .cq (cr (i0 hB) .nil) (C_lock_is (gd_get m4 hB)) Z) (Ss Z (.pickAnd (lq 3 Z) i0 cB) ?_))); refine Sa Z l0 (Sg Z l0 (.faC Z Z (lq 17 Z) Z) (Sj Z (lq 1 Z) (fun hB => .ldC (i0 hB) Z) (h.b fun r5 m5 h => ?_))); refine Sj Z (lq 2 Z) (fun hB => .cq (cr (i0 hB) .nil) (C_num_Is (gd_get m5 hB)) Z) (Ss Z (.pickAnd (lq 3 Z) i0 cB) (h.n fun v6 ev6 h => Ss Z (.nv (.assign l0) (congrArg V.bool ev6.symm)) (Nn ?_))); refine Pr [0] Z (AWp.ret ?_); obtain rfl := h.ret; exact e2 0 Z Z
theorem C_field_Right {a1 : aB} {r : Bool} (h : field_Right a1 = some r) : PureC Pg 82 [aA a1] (V.bool r) := by
  refine .c 53 fn82 Z Z Z ?_; replace h := Ok.of h; unfold field_Right at h; refine Wq o2 Z (Sv (.ptr 0 [] 0) [.cells (aA a1)] Z (.box l0 Z) Z Z trivial (Sa Z cB (Nn ?_))); refine AWp.wk (Wk.freeze 0 Z Z (.cons (lw 1 Z) Z (.ptr .nil Z) (.l [0] Z)) (.refl _)) (AWp.seq (Wq o15 Z (Ss Z (.faC Z Z l0 Z) ?_))); refine Ss Z (.ldC l0 Z) (h.b fun r2 m2 h => Ss Z (.cq (cr l0 .nil) (C_field_Name m2) Z) (Ss Z (.not l0) (Sa Z l0 ?_))); refine Sg Z l0 (.faC Z Z (lq 5 Z) Z) (Sj Z (lq 1 Z) (fun hB => .ldC (i0 hB) Z) (Sj Z (lq 2 Z) (fun hB => .lss (i0 hB) cI) (Ss Z (.pickOr (lq 3 Z) cB i0) ?_))); refine Sa Z l0 (Sg Z l0 (.faC Z Z (lq 10 Z) Z) (Sj Z (lq 1 Z) (fun hB => .ldC (i0 hB) Z) (h.b fun r3 m3 h => ?_))); refine Sj Z (lq 2 Z) (fun hB => .cq (cr (i0 hB) .nil) (C_num_Is (gd_get m3 hB)) Z) (Sj Z (lq 3 Z) (fun hB => .not (i0 hB)) (Ss Z (.pickOr (lq 4 Z) cB i0) (Nn ?_))); refine Pr [0, 15, 16] Z (AWp.condM l0 h (fun c1 h => ?_) (fun c1 h => ?_))
  · refine Wq o1 Z (Sa Z cB (Nn (AWp.ret ?_))); refine aD ?_; obtain rfl := h.ret; exact e2 0 Z Z
  · refine AWp.skip (aC (AWp.seq (Wq o2 Z ?_))); refine Ss Z (.faC Z Z (lq 1 Z) Z) (Ss Z (.ldC l0 Z) (Nn (AWp.block ?_))); refine Wq o2 Z (Ss Z (.eql l0 cI) (Sa Z l0 (Nn ?_))); refine AWp.condM l0 h (fun c2 h => ?_) (fun c2 h => ?_)
    · refine Wq o15 Z (Ss Z (.faC Z Z (lq 5 Z) Z) (Ss Z (.ldC l0 Z) (h.b fun r4 m4 h => ?_))); refine Ss Z (.cq (cr l0 .nil) (C_counter_Right m4) Z) (Sa Z l0 (Sg Z l0 (.faC Z Z (lq 9 Z) Z) (Sj Z (lq 1 Z) (fun hB => .ldC (i0 hB) Z) ?_))); refine h.b fun r5 m5 h => Sj Z (lq 2 Z) (fun hB => .cq (cr (i0 hB) .nil) (C_hold_Rights (gd_get m5 hB)) Z) (Ss Z (.pickAnd (lq 3 Z) i0 cB) (Sa Z l0 (Sg Z l0 (.faC Z Z (lq 14 Z) Z) ?_))); refine Sj Z (lq 1 Z) (fun hB => .ldC (i0 hB) Z) (Sg Z (lq 2 Z) (.nv (v2 := E_TLock (⟨0, 0, 0, 0⟩ : TLock)) (.buildStW lay46 zv46 Z .nil) Z) (Sj Z (lq 3 Z) (fun hB => .eqlT eqt46 eqk_TLock shk_TLock (ifT hB (lq 1 Z)) (i0 hB) Z Z) (Ss Z (.pickAnd (lq 4 Z) i0 cB) ?_))); refine h.n fun v6 ev6 h => Ss Z (.nv (.assign l0) (congrArg V.bool ev6.symm)) (Nn (Pr [0] Z (AWp.ret ?_))); refine blockQ_r (aD ?_); obtain rfl := h.ret; exact e2 0 Z Z
    · refine Wq o2 Z (Ss Z (.eql (lq 2 Z) cI) (Sa Z l0 (Nn ?_))); refine AWp.condM l0 h (fun c3 h => ?_) (fun c3 h => ?_)
      · refine Wq o16 Z (Ss Z (.faC Z Z (lq 7 Z) Z) (Ss Z (.ldC l0 Z) (h.b fun r7 m7 h => ?_))); refine Ss Z (.cq (cr l0 .nil) (C_lock_Right m7) Z) (Sa Z l0 (Sg Z l0 (.faC Z Z (lq 11 Z) Z) (Sj Z (lq 1 Z) (fun hB => .ldC (i0 hB) Z) ?_))); refine Sj Z (lq 2 Z) (fun hB => .lenT sli47 (i0 hB) (vsub Z (.refl _))) (Sj Z (lq 3 Z) (fun hB => .eql (i0 hB) cI) (Ss Z (.pickAnd (lq 4 Z) i0 cB) (Sa Z l0 ?_))); refine Sg Z l0 (.faC Z Z (lq 17 Z) Z) (Sj Z (lq 1 Z) (fun hB => .ldC (i0 hB) Z) (Sg Z (lq 2 Z) (.nv (v2 := aF (⟨0, 0, 0, (default : TRights), (default : TRights)⟩ : aJ)) (.buildStW lay44 zv44 Z .nil) Z) (Sj Z (lq 3 Z) (fun hB => .eqlT eqt44 eqk_TCounter shk_TCounter (ifT hB (lq 1 Z)) (i0 hB) Z Z) ?_))); refine h.n fun v8 ev8 h => Ss Z (.nv (.pickAnd (lq 4 Z) i0 cB) (congrArg V.bool ev8.symm)) (Sa Z l0 (Nn (Pr [0] Z ?_))); refine AWp.ret (blockQ_r (aD ?_)); obtain rfl := h.ret; exact e2 0 Z Z
      · refine AWp.skip (blockQ_n (aC (Wq o1 Z ?_))); refine Sa Z cB (Nn (AWp.ret ?_)); obtain rfl := h.ret; exact e2 0 Z Z
theorem C_plan_Fields {a1 : List aB} {r : Bool} (h : plan_Fields a1 = some r) : PureC Pg 56 [.sl 587 .no (List.map aA a1)] (V.bool r) := by
  refine .c 34 fn56 Z Z Z ?_; replace h := Ok.of h; unfold plan_Fields at h; refine Wq o1 Z (Sa Z cB (Nn (AWp.seq ?_))); refine Wq o3 Z (Sm 1 Z Z (Ss Z (.lenT sli22 l0 (vsub Z (.refl _))) (Sa Z cI ?_))); refine Nn (AWp.cutL (fun x4 => ⟨[(2, V.bool false), (0, .sl 587 .no (List.map aA a1))], []⟩) nc_then h (fun q2 hq2 h => ?_) (fun x4 h => ?_))
  · refine AWp.block (AWp.loopT (fun s3 => ⟨[(7, I s3), (6, I (a1.length : Int)), (5, .sl 587 .no (List.map aA a1)), (2, V.bool false), (0, .sl 587 .no (List.map aA a1))], []⟩) hq2 (Wk.selS [] (by decide) Z (sl [0, 1, 2, 3, 4] Z) .nil) (fun _ s3 h2 => ?_)); rw [plan_Fields_L1] at h2; refine Wq o1 Z (Ss Z (.lss l0 (lq 1 Z)) (Nn (AWp.seq ?_))); refine AWp.condM l0 h2 (fun c1 h2 => ?_) (fun c1 h2 => ?_)
    · refine AWp.skip (aC (AWp.seq (AWp.block ?_))); refine Wq o6 Z (Sm 1 Z Z (h2.b fun j5 m5 h2 => Ss Z (.ixS sli22 (lq 4 Z) (lq 2 Z) m5) (h2.n fun v6 ev6 h2 => ?_))); refine Ss Z (.nv (.ldC l0 Z) (congrArg aA ev6.symm)) (Sv (.ptr 0 [] 0) [.cells (z49)] Z (.alloc zv49) Z Z trivial (Sm 3 Z Z (Sn [.cells (aA v6)] Z Z (.sw (lq 1 Z) (lq 2 Z) Z Z Z) Z trivial ?_))); refine Nn (AWp.wk (Wk.freeze 0 Z Z (.cons (lw 1 Z) Z (.ptr .nil Z) (.l [0, 2, 3, 4, 5, 6, 7, 8, 9, 10] Z)) (.refl _)) (AWp.seq (W.regD o18 mixed ?_))); refine Ss Z (.ldC l0 Z) (h2.b fun r7 m7 h2 => Ss Z (.cq (cr l0 .nil) (C_field_Right m7) Z) (Ss Z (.not l0) (Sa Z l0 ?_))); refine Sg Z l0 (.move (lq 5 Z)) (Sj Z (lq 1 Z) (fun hB => .gtr (i0 hB) cI) (Sj Z (lq 2 Z) (fun hB => .move (i0 hB)) (Sg2 Z l0 (.move (lq 17 Z)) ?_))); refine Sg2 Z (lq 1 Z) (.move (lq 9 Z)) (Sj2 Z (lq 2 Z) (fun hB => .sub (i0 hB) cI) (h2.b fun j8 m8 h2 => Sj2 Z (lq 3 Z) (fun hB => .ixS sli22 (ifT hB (lq 2 Z)) (i0 hB) (gd_get m8 hB)) (Sj2 Z (lq 4 Z) (fun hB => .faC Z Z (i0 hB) Z) ?_))); refine Sj2 Z (lq 5 Z) (fun hB => .ldC (i0 hB) Z) (Sg2 Z (lq 6 Z) (.faC Z Z (lq 13 Z) Z) (Sj2 Z (lq 7 Z) (fun hB => .ldC (i0 hB) Z) (Sj2 Z (lq 8 Z) (fun hB => .geqS (ifT hB (lq 2 Z)) (i0 hB)) ?_))); refine Sj Z (lq 12 Z) (fun hB => .pickAnd (ifT hB (lq 9 Z)) (fun h => ifT ⟨hB, h⟩ l0) cB) (h2.n fun v9 ev9 h2 => Ss Z (.nv (.pickOr (lq 13 Z) cB i0) (congrArg V.bool ev9.symm)) (S.nilD (by kernel_rfl) (aC ?_))); refine Pr [0, 14, 15, 16, 17, 18, 19, 20, 21, 22, 23, 24, 25, 26, 27, 28] Z (AWp.condM l0 h2 (fun c2 h2 => ?_) (fun c2 h2 => ?_))
      · refine Wq o1 Z (Sa Z cB (Nn (AWp.ret ?_))); refine blockQ_r (aD (aD (blockQ_r ?_))); refine aD (aD ?_)
        have h := Ok.inrq h h2.ret
        obtain rfl := h.ret; exact e2 0 Z Z
      · refine AWp.skip (blockQ_n (aC (W.reg o2 Z ?_))); exact Ss Z (.add (lq 11 Z) cI) (Sa Z l0 (Nn ⟨_, h2.ret, (Wk.selS [] (by decide) Z (sl [0, 14, 15, 16, 17] Z) .nil)⟩))
    · refine AWp.exit (thenQ_x (thenQ_x (blockQ_x ?_))); exact aC ⟨_, h2.ret, (Wk.selS [] (by decide) Z (sl [4, 5] Z) .nil)⟩
  · refine aC (Wq o4 Z (Sm 1 Z Z (Ss Z (.lenT sli22 l0 (vsub Z (.refl _))) ?_))); refine Ss Z (.leq l0 cI) (h.n fun v10 ev10 h => Ss Z (.nv (.assign l0) (congrArg V.bool ev10.symm)) (Nn (AWp.ret ?_))); obtain rfl := h.ret; exact e2 0 Z Z
theorem C_plan_rules  {r : Unit} (h : plan_rules = some r) : CallSpec Pg 83 [] [] fun o H' => o = .ret (.map 0) ∧ H' = [.map (encC [(1, .fn 109 [] [.cptr (.fn 107 [] [])]), (2, .fn 109 [] [.cptr (.fn 107 [] [])]), (3, .fn 110 [] [.cptr (.fn 107 [] [])]), (4, .fn 111 [] [.cptr (.fn 107 [] [])]), (5, .fn 112 [] [.cptr (.fn 108 [] [])]), (6, .fn 113 [] [.cptr (.fn 108 [] [])])])] := by
  refine CallSpec.of_bodyF 13 0 fn83 Z Z Z (Nat.le_of_ble_eq_true Z) ?_; replace h := Ok.of h; unfold plan_rules at h; refine Wq o1 Z (Sa Z cNm (Nw o2 Z (Sv (.ptr 0 [] 0) [.cells (.nilfn)] Z (.alloc zv77) Z Z trivial ?_))); refine Sn [.cells (.fn 107 [] [])] Z Z (.sw l0 cF Z Z Z) Z trivial (Nn (AWp.wk (Wk.freeze 0 Z Z (.cons l0 Z (.ptr .nil Z) (.l [1] Z)) (.refl _)) (Wq o2 Z ?_))); refine Sv (.ptr 1 [] 0) [.dead, .cells (.nilfn)] Z (.alloc zv77) Z Z trivial (Sn [.dead, .cells (.fn 108 [] [])] Z Z (.sw l0 cF Z Z Z) Z trivial (Nn (AWp.wk (Wk.freeze 1 Z Z (.cons l0 Z (.ptr .nil Z) (.l [1, 2] Z)) (.refl _)) ?_))); refine Wq o2 Z (Ss Z (.makeFunc Z (mapE1 (lq 1 Z)) Z Z) (Sa Z l0 (Nw o15 Z ?_))); refine Sv (.map 2) [.dead, .dead, .map (encC [])] Z (.makeMap) Z Z trivial (Sm 1 Z Z (Sn [.dead, .dead, .map (encC [(1, .fn 109 [] [.cptr (.fn 107 [] [])])])] Z Z (.insC und124 und3 (lq 1 Z) cI l0 Z Z Z (by decide) Z Z) Z trivial (Sm 2 Z Z ?_))); refine Sn [.dead, .dead, .map (encC [(1, .fn 109 [] [.cptr (.fn 107 [] [])]), (2, .fn 109 [] [.cptr (.fn 107 [] [])])])] Z Z (.insC und124 und3 (lq 2 Z) cI l0 Z Z Z (by decide) Z Z) Z trivial (Ss Z (.makeFunc Z (mapE1 (lq 6 Z)) Z Z) (Sn [.dead, .dead, .map (encC [(1, .fn 109 [] [.cptr (.fn 107 [] [])]), (2, .fn 109 [] [.cptr (.fn 107 [] [])]), (3, .fn 110 [] [.cptr (.fn 107 [] [])])])] Z Z (.insC und124 und3 (lq 3 Z) cI l0 Z Z Z (by decide) Z Z) Z trivial (Ss Z (.makeFunc Z (mapE1 (lq 7 Z)) Z Z) ?_))); refine Sn [.dead, .dead, .map (encC [(1, .fn 109 [] [.cptr (.fn 107 [] [])]), (2, .fn 109 [] [.cptr (.fn 107 [] [])]), (3, .fn 110 [] [.cptr (.fn 107 [] [])]), (4, .fn 111 [] [.cptr (.fn 107 [] [])])])] Z Z (.insC und124 und3 (lq 4 Z) cI l0 Z Z Z (by decide) Z Z) Z trivial (Ss Z (.makeFunc Z (mapE1 (lq 7 Z)) Z Z) (Sn [.dead, .dead, .map (encC [(1, .fn 109 [] [.cptr (.fn 107 [] [])]), (2, .fn 109 [] [.cptr (.fn 107 [] [])]), (3, .fn 110 [] [.cptr (.fn 107 [] [])]), (4, .fn 111 [] [.cptr (.fn 107 [] [])]), (5, .fn 112 [] [.cptr (.fn 108 [] [])])])] Z Z (.insC und124 und3 (lq 5 Z) cI l0 Z Z Z (by decide) Z Z) Z trivial (Ss Z (.makeFunc Z (mapE1 (lq 8 Z)) Z Z) ?_))); refine Sn [.dead, .dead, .map (encC [(1, .fn 109 [] [.cptr (.fn 107 [] [])]), (2, .fn 109 [] [.cptr (.fn 107 [] [])]), (3, .fn 110 [] [.cptr (.fn 107 [] [])]), (4, .fn 111 [] [.cptr (.fn 107 [] [])]), (5, .fn 112 [] [.cptr (.fn 108 [] [])]), (6, .fn 113 [] [.cptr (.fn 108 [] [])])])] Z Z (.insC und124 und3 (lq 6 Z) cI l0 Z Z Z (by decide) Z Z) Z trivial (Sm 6 Z Z (Sa Z l0 (Nn ?_))); refine Pr [0] Z (AWp.ret ?_); obtain rfl := h.ret; exact endF1 Z (Wk.selS [2] (by decide) Z (SelE.spec (v := .map 0) l0 Z (.refl _) Z Z .nil) (.cons Z Z (ASub.refl _) .nil)) (.tmp l0 Z) Z Z
theorem C_plan_rules_1 {a1 : TPlan} {r : Bool} (h : plan_rules_1 a1 = some r) : PureC Pg 107 [E_TPlan a1] (V.bool r) := by
  refine .c 6 fn107 Z Z Z ?_; replace h := Ok.of h; unfold plan_rules_1 at h; refine Wq o2 Z (Sv (.ptr 0 [] 0) [.cells (E_TPlan a1)] Z (.box l0 Z) Z Z trivial (Sa Z cB (Nn ?_))); refine AWp.wk (Wk.freeze 0 Z Z (.cons (lw 1 Z) Z (.ptr .nil Z) (.l [0] Z)) (.refl _)) (Wq o4 Z (Ss Z (.faC Z Z l0 Z) (Ss Z (.ldC l0 Z) ?_))); refine Ss Z (.eqlS l0 cS) (h.n fun v2 ev2 h => Ss Z (.nv (.assign l0) (congrArg V.bool ev2.symm)) (Nn (AWp.ret ?_))); obtain rfl := h.ret; exact e2 0 Z Z
theorem C_plan_rules_3_rules_1 {a1 : TPlan} {r : Bool} (h : plan_rules_3_rules_1 a1 = some r) : PureC Pg 109 [E_TPlan a1, .cptr (.fn 107 [] [])] (V.bool r) := by
  refine .c 25 fn109 Z Z Z ?_; replace h := Ok.of h; unfold plan_rules_3_rules_1 at h; refine Wq o2 Z (Sv (.ptr 0 [] 0) [.cells (E_TPlan a1)] Z (.box l0 Z) Z Z trivial (Sa Z cB (Nn ?_))); refine AWp.wk (Wk.freeze 0 Z Z (.cons (lw 1 Z) Z (.ptr .nil Z) (.l [0, 3] Z)) (.refl _)) (Wq o22 Z (Ss Z (.ldC (lq 2 Z) Z) (Ss Z (.ldC (lq 1 Z) Z) ?_))); refine h.b fun r2 m2 h => Ss Z (.callQ ent107 (lq 1 Z) (cr l0 .nil) (C_plan_rules_1 m2)) (Sa Z l0 (Sg Z l0 (.faC Z Z (lq 4 Z) Z) (Sj Z (lq 1 Z) (fun hB => .ldC (i0 hB) Z) ?_))); refine Sj Z (lq 2 Z) (fun hB => .geq (i0 hB) cI) (Ss Z (.pickAnd (lq 3 Z) i0 cB) (Sa Z l0 (Sg Z l0 (.faC Z Z (lq 9 Z) Z) ?_))); refine Sj Z (lq 1 Z) (fun hB => .ldC (i0 hB) Z) (Sj Z (lq 2 Z) (fun hB => .geq (i0 hB) cI) (Ss Z (.pickAnd (lq 3 Z) i0 cB) (Sa Z l0 ?_))); refine Sg Z l0 (.faC Z Z (lq 14 Z) Z) (Sj Z (lq 1 Z) (fun hB => .ldC (i0 hB) Z) (Sg Z (lq 2 Z) (.faC Z Z (lq 16 Z) Z) (Sj Z (lq 3 Z) (fun hB => .ldC (i0 hB) Z) ?_))); refine Sj Z (lq 4 Z) (fun hB => .add (ifT hB (lq 2 Z)) (i0 hB)) (Sj Z (lq 5 Z) (fun hB => .gtr (i0 hB) cI) (h.n fun v3 ev3 h => Ss Z (.nv (.pickAnd (lq 6 Z) i0 cB) (congrArg V.bool ev3.symm)) (Sa Z l0 ?_))); refine Nn (Pr [0] Z (AWp.ret ?_)); obtain rfl := h.ret; exact e2 0 Z Z
theorem C_plan_rules_4_rules_1 {a1 : TPlan} {r : Bool} (h : plan_rules_4_rules_1 a1 = some r) : PureC Pg 110 [E_TPlan a1, .cptr (.fn 107 [] [])] (V.bool r) := by
  refine .c 17 fn110 Z Z Z ?_; replace h := Ok.of h; unfold plan_rules_4_rules_1 at h; refine Wq o2 Z (Sv (.ptr 0 [] 0) [.cells (E_TPlan a1)] Z (.box l0 Z) Z Z trivial (Sa Z cB (Nn ?_))); refine AWp.wk (Wk.freeze 0 Z Z (.cons (lw 1 Z) Z (.ptr .nil Z) (.l [0, 3] Z)) (.refl _)) (Wq o14 Z (Ss Z (.ldC (lq 2 Z) Z) (Ss Z (.ldC (lq 1 Z) Z) ?_))); refine h.b fun r2 m2 h => Ss Z (.callQ ent107 (lq 1 Z) (cr l0 .nil) (C_plan_rules_1 m2)) (Sa Z l0 (Sg Z l0 (.faC Z Z (lq 4 Z) Z) (Sj Z (lq 1 Z) (fun hB => .ldC (i0 hB) Z) ?_))); refine Sj Z (lq 2 Z) (fun hB => .eql (i0 hB) cI) (Ss Z (.pickAnd (lq 3 Z) i0 cB) (Sa Z l0 (Sg Z l0 (.faC Z Z (lq 9 Z) Z) ?_))); refine Sj Z (lq 1 Z) (fun hB => .ldC (i0 hB) Z) (Sj Z (lq 2 Z) (fun hB => .eql (i0 hB) cI) (Ss Z (.pickAnd (lq 3 Z) i0 cB) (h.n fun v3 ev3 h => ?_))); refine Ss Z (.nv (.assign l0) (congrArg V.bool ev3.symm)) (Nn (Pr [0] Z (AWp.ret ?_))); obtain rfl := h.ret; exact e2 0 Z Z
theorem C_plan_rules_5_rules_1 {a1 : TPlan} {r : Bool} (h : plan_rules_5_rules_1 a1 = some r) : PureC Pg 111 [E_TPlan a1, .cptr (.fn 107 [] [])] (V.bool r) := by
  refine .c 14 fn111 Z Z Z ?_; replace h := Ok.of h; unfold plan_rules_5_rules_1 at h; refine Wq o2 Z (Sv (.ptr 0 [] 0) [.cells (E_TPlan a1)] Z (.box l0 Z) Z Z trivial (Sa Z cB (Nn ?_))); refine AWp.wk (Wk.freeze 0 Z Z (.cons (lw 1 Z) Z (.ptr .nil Z) (.l [0, 3] Z)) (.refl _)) (Wq o11 Z (Ss Z (.ldC (lq 2 Z) Z) (Ss Z (.ldC (lq 1 Z) Z) ?_))); refine h.b fun r2 m2 h => Ss Z (.callQ ent107 (lq 1 Z) (cr l0 .nil) (C_plan_rules_1 m2)) (Sa Z l0 (Sg Z l0 (.faC Z Z (lq 4 Z) Z) (Sj Z (lq 1 Z) (fun hB => .ldC (i0 hB) Z) ?_))); refine Sg Z (lq 2 Z) (.faC Z Z (lq 6 Z) Z) (Sj Z (lq 3 Z) (fun hB => .ldC (i0 hB) Z) (Sj Z (lq 4 Z) (fun hB => .leq (ifT hB (lq 2 Z)) (i0 hB)) (Ss Z (.pickAnd (lq 5 Z) i0 cB) ?_))); refine h.n fun v3 ev3 h => Ss Z (.nv (.assign l0) (congrArg V.bool ev3.symm)) (Nn (Pr [0] Z (AWp.ret ?_))); obtain rfl := h.ret; exact e2 0 Z Z
theorem C_plan_rules_2 {a1 : TPlan} {r : Bool} (h : plan_rules_2 a1 = some r) : PureC Pg 108 [E_TPlan a1] (V.bool r) := by
  refine .c 13 fn108 Z Z Z ?_; replace h := Ok.of h; unfold plan_rules_2 at h; refine Wq o2 Z (Sv (.ptr 0 [] 0) [.cells (E_TPlan a1)] Z (.box l0 Z) Z Z trivial (Sa Z cB (Nn ?_))); refine AWp.wk (Wk.freeze 0 Z Z (.cons (lw 1 Z) Z (.ptr .nil Z) (.l [0] Z)) (.refl _)) (Wq o11 Z (Ss Z (.faC Z Z l0 Z) (Ss Z (.ldC l0 Z) ?_))); refine h.b fun r2 m2 h => Ss Z (.cq (cr l0 .nil) (C_field_Name m2) Z) (Sa Z l0 (Sg Z l0 (.faC Z Z (lq 4 Z) Z) (Sj Z (lq 1 Z) (fun hB => .ldC (i0 hB) Z) ?_))); refine Sg Z (lq 2 Z) (.faC Z Z (lq 6 Z) Z) (Sj Z (lq 3 Z) (fun hB => .ldC (i0 hB) Z) (Sj Z (lq 4 Z) (fun hB => .neqS (ifT hB (lq 2 Z)) (i0 hB)) (Ss Z (.pickAnd (lq 5 Z) i0 cB) ?_))); refine h.n fun v3 ev3 h => Ss Z (.nv (.assign l0) (congrArg V.bool ev3.symm)) (Nn (Pr [0] Z (AWp.ret ?_))); obtain rfl := h.ret; exact e2 0 Z Z
theorem C_plan_rules_6_rules_2 {a1 : TPlan} {r : Bool} (h : plan_rules_6_rules_2 a1 = some r) : PureC Pg 112 [E_TPlan a1, .cptr (.fn 108 [] [])] (V.bool r) := by
  refine .c 17 fn112 Z Z Z ?_; replace h := Ok.of h; unfold plan_rules_6_rules_2 at h; refine Wq o2 Z (Sv (.ptr 0 [] 0) [.cells (E_TPlan a1)] Z (.box l0 Z) Z Z trivial (Sa Z cB (Nn ?_))); refine AWp.wk (Wk.freeze 0 Z Z (.cons (lw 1 Z) Z (.ptr .nil Z) (.l [0, 3] Z)) (.refl _)) (Wq o14 Z (Ss Z (.ldC (lq 2 Z) Z) (Ss Z (.ldC (lq 1 Z) Z) ?_))); refine h.b fun r2 m2 h => Ss Z (.callQ ent108 (lq 1 Z) (cr l0 .nil) (C_plan_rules_2 m2)) (Sa Z l0 (Sg Z l0 (.faC Z Z (lq 4 Z) Z) (Sj Z (lq 1 Z) (fun hB => .ldC (i0 hB) Z) ?_))); refine Sj Z (lq 2 Z) (fun hB => .geq (i0 hB) cI) (Ss Z (.pickAnd (lq 3 Z) i0 cB) (Sa Z l0 (Sg Z l0 (.faC Z Z (lq 9 Z) Z) ?_))); refine Sj Z (lq 1 Z) (fun hB => .ldC (i0 hB) Z) (Sj Z (lq 2 Z) (fun hB => .eql (i0 hB) cI) (Ss Z (.pickAnd (lq 3 Z) i0 cB) (h.n fun v3 ev3 h => ?_))); refine Ss Z (.nv (.assign l0) (congrArg V.bool ev3.symm)) (Nn (Pr [0] Z (AWp.ret ?_))); obtain rfl := h.ret; exact e2 0 Z Z
theorem C_plan_rules_7_rules_2 {a1 : TPlan} {r : Bool} (h : plan_rules_7_rules_2 a1 = some r) : PureC Pg 113 [E_TPlan a1, .cptr (.fn 108 [] [])] (V.bool r) := by
  refine .c 17 fn113 Z Z Z ?_; replace h := Ok.of h; unfold plan_rules_7_rules_2 at h; refine Wq o2 Z (Sv (.ptr 0 [] 0) [.cells (E_TPlan a1)] Z (.box l0 Z) Z Z trivial (Sa Z cB (Nn ?_))); refine AWp.wk (Wk.freeze 0 Z Z (.cons (lw 1 Z) Z (.ptr .nil Z) (.l [0, 3] Z)) (.refl _)) (Wq o14 Z (Ss Z (.ldC (lq 2 Z) Z) (Ss Z (.ldC (lq 1 Z) Z) ?_))); refine h.b fun r2 m2 h => Ss Z (.callQ ent108 (lq 1 Z) (cr l0 .nil) (C_plan_rules_2 m2)) (Sa Z l0 (Sg Z l0 (.faC Z Z (lq 4 Z) Z) (Sj Z (lq 1 Z) (fun hB => .ldC (i0 hB) Z) ?_))); refine Sj Z (lq 2 Z) (fun hB => .eql (i0 hB) cI) (Ss Z (.pickAnd (lq 3 Z) i0 cB) (Sa Z l0 (Sg Z l0 (.faC Z Z (lq 9 Z) Z) ?_))); refine Sj Z (lq 1 Z) (fun hB => .ldC (i0 hB) Z) (Sj Z (lq 2 Z) (fun hB => .eql (i0 hB) cI) (Ss Z (.pickAnd (lq 3 Z) i0 cB) (h.n fun v3 ev3 h => ?_))); refine Ss Z (.nv (.assign l0) (congrArg V.bool ev3.symm)) (Nn (Pr [0] Z (AWp.ret ?_))); obtain rfl := h.ret; exact e2 0 Z Z
theorem C_plan_Right {a1 : TPlan} {r : Bool} (h : plan_Right a1 = some r) : PureC Pg 57 [E_TPlan a1] (V.bool r) := by
  refine .c 33 fn57 Z Z Z ?_; replace h := Ok.of h; unfold plan_Right at h; refine Wq o2 Z (Sv (.ptr 0 [] 0) [.cells (E_TPlan a1)] Z (.box l0 Z) Z Z trivial (Sa Z cB (Nn ?_))); refine AWp.wk (Wk.freeze 0 Z Z (.cons (lw 1 Z) Z (.ptr .nil Z) (.l [0] Z)) (.refl _)) (AWp.seq (W.regD o9 mixed (h.b fun u2 m2 h => ?_))); refine S.new 6 Z Z (.nv (v2 := .map 1) (.callN ent83 cF [] (C_plan_rules m2) .nil .nil ltL_nil .nil Z (mapc Z Z) Z) Z) trivial (Ss Z (.faC Z Z (lq 1 Z) Z) (Ss Z (.ldC l0 Z) (h.b fun u3 m3 h => ?_))); refine Ok.spl h (fun c1 h => ?_) (fun c1 h => ?_)
  · refine Su Z (.lookC (es := [(1, .fn 109 [] [.cptr (.fn 107 [] [])]), (2, .fn 109 [] [.cptr (.fn 107 [] [])]), (3, .fn 110 [] [.cptr (.fn 107 [] [])]), (4, .fn 111 [] [.cptr (.fn 107 [] [])]), (5, .fn 112 [] [.cptr (.fn 108 [] [])]), (6, .fn 113 [] [.cptr (.fn 108 [] [])])]) und124 und3 zv77 (lq 2 Z) l0 Z (i64M_get m3) Z (by decide) (of_decide_eq_true c1) (List.Mem.head _) Z) (Sa Z l0 (Ss Z (.extract l0 Z) (Ss Z (.extract (lq 1 Z) Z) ?_))); refine Sm 1 Z Z (Sm 1 Z Z (S.nilD (by kernel_rfl) (aC ?_))); refine Wq o22 Z (Sa Z l0 (Sa Z l0 (Sy Z l0 (.faC Z Z (lq 11 Z) Z) ?_))); refine Sy Z (lq 1 Z) (.ldC l0 Z) (h.b fun r4 m4 h => Sy Z (lq 2 Z) (.cq (cr l0 .nil) (C_field_Name m4) Z) (Ss Z (.pickT (lq 3 Z) l0) (Sa Z l0 ?_))); refine Sg Z l0 (.faC Z Z (lq 16 Z) Z) (Sj Z (lq 1 Z) (fun hB => .ldC (i0 hB) Z) (h.b fun r5 m5 h => Sj Z (lq 2 Z) (fun hB => .cq (cr (i0 hB) .nil) (C_num_Is (gd_get m5 hB)) Z) (Ss Z (.pickAnd (lq 3 Z) i0 cB) ?_))); refine Sa Z l0 (Sg Z l0 (.faC Z Z (lq 21 Z) Z) (Sj Z (lq 1 Z) (fun hB => .ldC (i0 hB) Z) (h.b fun r6 m6 h => ?_))); refine Sj Z (lq 2 Z) (fun hB => .cq (cr (i0 hB) .nil) (C_num_Is (gd_get m6 hB)) Z) (Ss Z (.pickAnd (lq 3 Z) i0 cB) (Sa Z l0 (Sg Z l0 (.move (lq 18 Z)) ?_))); refine Sg Z (lq 1 Z) (.ldC (lq 27 Z) Z) (h.b fun r7 m7 h => Sj Z (lq 2 Z) (fun hB => .callQ ent109 (ifT hB (lq 1 Z)) (cr (i0 hB) (.cons (.refl _) .nil)) (C_plan_rules_3_rules_1 (gd_get m7 hB))) (Ss Z (.pickAnd (lq 3 Z) i0 cB) (h.n fun v8 ev8 h => ?_))); refine Ss Z (.nv (.assign l0) (congrArg V.bool ev8.symm)) (Nn (Pr [0] Z (AWp.ret ?_))); obtain rfl := h.ret; exact e2 0 Z Z
  · refine Ok.spl h (fun c2 h => ?_) (fun c2 h => ?_)
    · refine Su Z (.lookC (es := [(1, .fn 109 [] [.cptr (.fn 107 [] [])]), (2, .fn 109 [] [.cptr (.fn 107 [] [])]), (3, .fn 110 [] [.cptr (.fn 107 [] [])]), (4, .fn 111 [] [.cptr (.fn 107 [] [])]), (5, .fn 112 [] [.cptr (.fn 108 [] [])]), (6, .fn 113 [] [.cptr (.fn 108 [] [])])]) und124 und3 zv77 (lq 2 Z) l0 Z (i64M_get m3) Z (by decide) (of_decide_eq_true c2) (List.Mem.tail _ (List.Mem.head _)) Z) (Sa Z l0 (Ss Z (.extract l0 Z) (Ss Z (.extract (lq 1 Z) Z) ?_))); refine Sm 1 Z Z (Sm 1 Z Z (S.nilD (by kernel_rfl) (aC ?_))); refine Wq o22 Z (Sa Z l0 (Sa Z l0 (Sy Z l0 (.faC Z Z (lq 11 Z) Z) ?_))); refine Sy Z (lq 1 Z) (.ldC l0 Z) (h.b fun r9 m9 h => Sy Z (lq 2 Z) (.cq (cr l0 .nil) (C_field_Name m9) Z) (Ss Z (.pickT (lq 3 Z) l0) (Sa Z l0 ?_))); refine Sg Z l0 (.faC Z Z (lq 16 Z) Z) (Sj Z (lq 1 Z) (fun hB => .ldC (i0 hB) Z) (h.b fun r10 m10 h => Sj Z (lq 2 Z) (fun hB => .cq (cr (i0 hB) .nil) (C_num_Is (gd_get m10 hB)) Z) (Ss Z (.pickAnd (lq 3 Z) i0 cB) ?_))); refine Sa Z l0 (Sg Z l0 (.faC Z Z (lq 21 Z) Z) (Sj Z (lq 1 Z) (fun hB => .ldC (i0 hB) Z) (h.b fun r11 m11 h => ?_))); refine Sj Z (lq 2 Z) (fun hB => .cq (cr (i0 hB) .nil) (C_num_Is (gd_get m11 hB)) Z) (Ss Z (.pickAnd (lq 3 Z) i0 cB) (Sa Z l0 (Sg Z l0 (.move (lq 18 Z)) ?_))); refine Sg Z (lq 1 Z) (.ldC (lq 27 Z) Z) (h.b fun r12 m12 h => Sj Z (lq 2 Z) (fun hB => .callQ ent109 (ifT hB (lq 1 Z)) (cr (i0 hB) (.cons (.refl _) .nil)) (C_plan_rules_3_rules_1 (gd_get m12 hB))) (Ss Z (.pickAnd (lq 3 Z) i0 cB) (h.n fun v13 ev13 h => ?_))); refine Ss Z (.nv (.assign l0) (congrArg V.bool ev13.symm)) (Nn (Pr [0] Z (AWp.ret ?_))); obtain rfl := h.ret; exact e2 0 Z Z
    · refine Ok.spl h (fun c3 h => ?_) (fun c3 h => ?_)
      · refine Su Z (.lookC (es := [(1, .fn 109 [] [.cptr (.fn 107 [] [])]), (2, .fn 109 [] [.cptr (.fn 107 [] [])]), (3, .fn 110 [] [.cptr (.fn 107 [] [])]), (4, .fn 111 [] [.cptr (.fn 107 [] [])]), (5, .fn 112 [] [.cptr (.fn 108 [] [])]), (6, .fn 113 [] [.cptr (.fn 108 [] [])])]) und124 und3 zv77 (lq 2 Z) l0 Z (i64M_get m3) Z (by decide) (of_decide_eq_true c3) (List.Mem.tail _ (List.Mem.tail _ (List.Mem.head _))) Z) (Sa Z l0 (Ss Z (.extract l0 Z) (Ss Z (.extract (lq 1 Z) Z) ?_))); refine Sm 1 Z Z (Sm 1 Z Z (S.nilD (by kernel_rfl) (aC ?_))); refine Wq o22 Z (Sa Z l0 (Sa Z l0 (Sy Z l0 (.faC Z Z (lq 11 Z) Z) ?_))); refine Sy Z (lq 1 Z) (.ldC l0 Z) (h.b fun r14 m14 h => Sy Z (lq 2 Z) (.cq (cr l0 .nil) (C_field_Name m14) Z) (Ss Z (.pickT (lq 3 Z) l0) (Sa Z l0 ?_))); refine Sg Z l0 (.faC Z Z (lq 16 Z) Z) (Sj Z (lq 1 Z) (fun hB => .ldC (i0 hB) Z) (h.b fun r15 m15 h => Sj Z (lq 2 Z) (fun hB => .cq (cr (i0 hB) .nil) (C_num_Is (gd_get m15 hB)) Z) (Ss Z (.pickAnd (lq 3 Z) i0 cB) ?_))); refine Sa Z l0 (Sg Z l0 (.faC Z Z (lq 21 Z) Z) (Sj Z (lq 1 Z) (fun hB => .ldC (i0 hB) Z) (h.b fun r16 m16 h => ?_))); refine Sj Z (lq 2 Z) (fun hB => .cq (cr (i0 hB) .nil) (C_num_Is (gd_get m16 hB)) Z) (Ss Z (.pickAnd (lq 3 Z) i0 cB) (Sa Z l0 (Sg Z l0 (.move (lq 18 Z)) ?_))); refine Sg Z (lq 1 Z) (.ldC (lq 27 Z) Z) (h.b fun r17 m17 h => Sj Z (lq 2 Z) (fun hB => .callQ ent110 (ifT hB (lq 1 Z)) (cr (i0 hB) (.cons (.refl _) .nil)) (C_plan_rules_4_rules_1 (gd_get m17 hB))) (Ss Z (.pickAnd (lq 3 Z) i0 cB) (h.n fun v18 ev18 h => ?_))); refine Ss Z (.nv (.assign l0) (congrArg V.bool ev18.symm)) (Nn (Pr [0] Z (AWp.ret ?_))); obtain rfl := h.ret; exact e2 0 Z Z
      · refine Ok.spl h (fun c4 h => ?_) (fun c4 h => ?_)
        · refine Su Z (.lookC (es := [(1, .fn 109 [] [.cptr (.fn 107 [] [])]), (2, .fn 109 [] [.cptr (.fn 107 [] [])]), (3, .fn 110 [] [.cptr (.fn 107 [] [])]), (4, .fn 111 [] [.cptr (.fn 107 [] [])]), (5, .fn 112 [] [.cptr (.fn 108 [] [])]), (6, .fn 113 [] [.cptr (.fn 108 [] [])])]) und124 und3 zv77 (lq 2 Z) l0 Z (i64M_get m3) Z (by decide) (of_decide_eq_true c4) (List.Mem.tail _ (List.Mem.tail _ (List.Mem.tail _ (List.Mem.head _)))) Z) (Sa Z l0 (Ss Z (.extract l0 Z) (Ss Z (.extract (lq 1 Z) Z) ?_))); refine Sm 1 Z Z (Sm 1 Z Z (S.nilD (by kernel_rfl) (aC ?_))); refine Wq o22 Z (Sa Z l0 (Sa Z l0 (Sy Z l0 (.faC Z Z (lq 11 Z) Z) ?_))); refine Sy Z (lq 1 Z) (.ldC l0 Z) (h.b fun r19 m19 h => Sy Z (lq 2 Z) (.cq (cr l0 .nil) (C_field_Name m19) Z) (Ss Z (.pickT (lq 3 Z) l0) (Sa Z l0 ?_))); refine Sg Z l0 (.faC Z Z (lq 16 Z) Z) (Sj Z (lq 1 Z) (fun hB => .ldC (i0 hB) Z) (h.b fun r20 m20 h => Sj Z (lq 2 Z) (fun hB => .cq (cr (i0 hB) .nil) (C_num_Is (gd_get m20 hB)) Z) (Ss Z (.pickAnd (lq 3 Z) i0 cB) ?_))); refine Sa Z l0 (Sg Z l0 (.faC Z Z (lq 21 Z) Z) (Sj Z (lq 1 Z) (fun hB => .ldC (i0 hB) Z) (h.b fun r21 m21 h => ?_))); refine Sj Z (lq 2 Z) (fun hB => .cq (cr (i0 hB) .nil) (C_num_Is (gd_get m21 hB)) Z) (Ss Z (.pickAnd (lq 3 Z) i0 cB) (Sa Z l0 (Sg Z l0 (.move (lq 18 Z)) ?_))); refine Sg Z (lq 1 Z) (.ldC (lq 27 Z) Z) (h.b fun r22 m22 h => Sj Z (lq 2 Z) (fun hB => .callQ ent111 (ifT hB (lq 1 Z)) (cr (i0 hB) (.cons (.refl _) .nil)) (C_plan_rules_5_rules_1 (gd_get m22 hB))) (Ss Z (.pickAnd (lq 3 Z) i0 cB) (h.n fun v23 ev23 h => ?_))); refine Ss Z (.nv (.assign l0) (congrArg V.bool ev23.symm)) (Nn (Pr [0] Z (AWp.ret ?_))); obtain rfl := h.ret; exact e2 0 Z Z
        · refine Ok.spl h (fun c5 h => ?_) (fun c5 h => ?_)
          · refine Su Z (.lookC (es := [(1, .fn 109 [] [.cptr (.fn 107 [] [])]), (2, .fn 109 [] [.cptr (.fn 107 [] [])]), (3, .fn 110 [] [.cptr (.fn 107 [] [])]), (4, .fn 111 [] [.cptr (.fn 107 [] [])]), (5, .fn 112 [] [.cptr (.fn 108 [] [])]), (6, .fn 113 [] [.cptr (.fn 108 [] [])])]) und124 und3 zv77 (lq 2 Z) l0 Z (i64M_get m3) Z (by decide) (of_decide_eq_true c5) (List.Mem.tail _ (List.Mem.tail _ (List.Mem.tail _ (List.Mem.tail _ (List.Mem.head _))))) Z) (Sa Z l0 (Ss Z (.extract l0 Z) (Ss Z (.extract (lq 1 Z) Z) ?_))); refine Sm 1 Z Z (Sm 1 Z Z (S.nilD (by kernel_rfl) (aC ?_))); refine Wq o22 Z (Sa Z l0 (Sa Z l0 (Sy Z l0 (.faC Z Z (lq 11 Z) Z) ?_))); refine Sy Z (lq 1 Z) (.ldC l0 Z) (h.b fun r24 m24 h => Sy Z (lq 2 Z) (.cq (cr l0 .nil) (C_field_Name m24) Z) (Ss Z (.pickT (lq 3 Z) l0) (Sa Z l0 ?_))); refine Sg Z l0 (.faC Z Z (lq 16 Z) Z) (Sj Z (lq 1 Z) (fun hB => .ldC (i0 hB) Z) (h.b fun r25 m25 h => Sj Z (lq 2 Z) (fun hB => .cq (cr (i0 hB) .nil) (C_num_Is (gd_get m25 hB)) Z) (Ss Z (.pickAnd (lq 3 Z) i0 cB) ?_))); refine Sa Z l0 (Sg Z l0 (.faC Z Z (lq 21 Z) Z) (Sj Z (lq 1 Z) (fun hB => .ldC (i0 hB) Z) (h.b fun r26 m26 h => ?_))); refine Sj Z (lq 2 Z) (fun hB => .cq (cr (i0 hB) .nil) (C_num_Is (gd_get m26 hB)) Z) (Ss Z (.pickAnd (lq 3 Z) i0 cB) (Sa Z l0 (Sg Z l0 (.move (lq 18 Z)) ?_))); refine Sg Z (lq 1 Z) (.ldC (lq 27 Z) Z) (h.b fun r27 m27 h => Sj Z (lq 2 Z) (fun hB => .callQ ent112 (ifT hB (lq 1 Z)) (cr (i0 hB) (.cons (.refl _) .nil)) (C_plan_rules_6_rules_2 (gd_get m27 hB))) (Ss Z (.pickAnd (lq 3 Z) i0 cB) (h.n fun v28 ev28 h => ?_))); refine Ss Z (.nv (.assign l0) (congrArg V.bool ev28.symm)) (Nn (Pr [0] Z (AWp.ret ?_))); obtain rfl := h.ret; exact e2 0 Z Z
          · refine Ok.spl h (fun c6 h => ?_) (fun c6 h => ?_)
            · refine Su Z (.lookC (es := [(1, .fn 109 [] [.cptr (.fn 107 [] [])]), (2, .fn 109 [] [.cptr (.fn 107 [] [])]), (3, .fn 110 [] [.cptr (.fn 107 [] [])]), (4, .fn 111 [] [.cptr (.fn 107 [] [])]), (5, .fn 112 [] [.cptr (.fn 108 [] [])]), (6, .fn 113 [] [.cptr (.fn 108 [] [])])]) und124 und3 zv77 (lq 2 Z) l0 Z (i64M_get m3) Z (by decide) (of_decide_eq_true c6) (List.Mem.tail _ (List.Mem.tail _ (List.Mem.tail _ (List.Mem.tail _ (List.Mem.tail _ (List.Mem.head _)))))) Z) (Sa Z l0 (Ss Z (.extract l0 Z) (Ss Z (.extract (lq 1 Z) Z) ?_))); refine Sm 1 Z Z (Sm 1 Z Z (S.nilD (by kernel_rfl) (aC ?_))); refine Wq o22 Z (Sa Z l0 (Sa Z l0 (Sy Z l0 (.faC Z Z (lq 11 Z) Z) ?_))); refine Sy Z (lq 1 Z) (.ldC l0 Z) (h.b fun r29 m29 h => Sy Z (lq 2 Z) (.cq (cr l0 .nil) (C_field_Name m29) Z) (Ss Z (.pickT (lq 3 Z) l0) (Sa Z l0 ?_))); refine Sg Z l0 (.faC Z Z (lq 16 Z) Z) (Sj Z (lq 1 Z) (fun hB => .ldC (i0 hB) Z) (h.b fun r30 m30 h => Sj Z (lq 2 Z) (fun hB => .cq (cr (i0 hB) .nil) (C_num_Is (gd_get m30 hB)) Z) (Ss Z (.pickAnd (lq 3 Z) i0 cB) ?_))); refine Sa Z l0 (Sg Z l0 (.faC Z Z (lq 21 Z) Z) (Sj Z (lq 1 Z) (fun hB => .ldC (i0 hB) Z) (h.b fun r31 m31 h => ?_))); refine Sj Z (lq 2 Z) (fun hB => .cq (cr (i0 hB) .nil) (C_num_Is (gd_get m31 hB)) Z) (Ss Z (.pickAnd (lq 3 Z) i0 cB) (Sa Z l0 (Sg Z l0 (.move (lq 18 Z)) ?_))); refine Sg Z (lq 1 Z) (.ldC (lq 27 Z) Z) (h.b fun r32 m32 h => Sj Z (lq 2 Z) (fun hB => .callQ ent113 (ifT hB (lq 1 Z)) (cr (i0 hB) (.cons (.refl _) .nil)) (C_plan_rules_7_rules_2 (gd_get m32 hB))) (Ss Z (.pickAnd (lq 3 Z) i0 cB) (h.n fun v33 ev33 h => ?_))); refine Ss Z (.nv (.assign l0) (congrArg V.bool ev33.symm)) (Nn (Pr [0] Z (AWp.ret ?_))); obtain rfl := h.ret; exact e2 0 Z Z
            · refine Su Z (.lookC0 (es := [(1, .fn 109 [] [.cptr (.fn 107 [] [])]), (2, .fn 109 [] [.cptr (.fn 107 [] [])]), (3, .fn 110 [] [.cptr (.fn 107 [] [])]), (4, .fn 111 [] [.cptr (.fn 107 [] [])]), (5, .fn 112 [] [.cptr (.fn 108 [] [])]), (6, .fn 113 [] [.cptr (.fn 108 [] [])])]) und124 und3 zv77 (lq 2 Z) l0 Z (i64M_get m3) Z (by decide) (by simp [of_decide_eq_false c1, of_decide_eq_false c2, of_decide_eq_false c3, of_decide_eq_false c4, of_decide_eq_false c5, of_decide_eq_false c6]) Z) (Sa Z l0 (Ss Z (.extract l0 Z) (Ss Z (.extract (lq 1 Z) Z) ?_))); refine Sm 1 Z Z (Sm 1 Z Z (S.nilD (by kernel_rfl) (aC ?_))); refine Wq o22 Z (Sa Z l0 (Sa Z l0 (S.gno 14 1 13 true Z Z Z l0 Z ?_))); refine S.gno 15 1 13 true Z Z Z (lq 1 Z) Z (S.gno 16 1 13 true Z Z Z (lq 2 Z) Z (Ss Z (.pickF (lq 3 Z) cB) (Sa Z l0 ?_))); refine S.gno 19 6 18 true Z Z Z l0 Z (S.gno 20 6 18 true Z Z Z (lq 1 Z) Z (S.gno 21 6 18 true Z Z Z (lq 2 Z) Z (Ss Z (.pickF (lq 3 Z) cB) ?_))); refine Sa Z l0 (S.gno 24 11 23 true Z Z Z l0 Z (S.gno 25 11 23 true Z Z Z (lq 1 Z) Z (S.gno 26 11 23 true Z Z Z (lq 2 Z) Z ?_))); refine Ss Z (.pickF (lq 3 Z) cB) (Sa Z l0 (S.gno 29 16 28 true Z Z Z l0 Z (S.gno 30 16 28 true Z Z Z (lq 1 Z) Z ?_))); refine S.gno 31 16 28 true Z Z Z (lq 2 Z) Z (Ss Z (.pickF (lq 3 Z) cB) (Sa Z l0 (Nn ?_))); refine Pr [0] Z (AWp.ret ?_); obtain rfl := h.ret; exact e2 0 Z Z
end
section
open Go.Proofs
set_option maxHeartbeats 4000000
set_option maxRecDepth 10000
theorem C_plan_names {a1 : TPlan} {r : (List ByteArray)} (h : plan_names a1 = some r) : PureC Pg 58 [E_TPlan a1] (E_S_s r) := by
  refine .c 14 fn58 Z Z Z ?_; replace h := Ok.of h; unfold plan_names at h; refine Wq o2 Z (Sv (.ptr 0 [] 0) [.cells (E_TPlan a1)] Z (.box l0 Z) Z Z trivial (Sa Z cNs (Nn ?_))); refine AWp.wk (Wk.freeze 0 Z Z (.cons (lw 1 Z) Z (.ptr .nil Z) (.l [0] Z)) (.refl _)) (AWp.seq (Wq o3 Z (Ss Z (.faC Z Z l0 Z) ?_))); refine Ss Z (.ldC l0 Z) (Ss Z (.eql l0 cI) (Nn (AWp.condM l0 h (fun c1 h => ?_) (fun c1 h => ?_))))
  · refine Wq o6 Z (Ss Z (.faC Z Z (lq 3 Z) Z) (Ss Z (.ldC l0 Z) (Ss Z (.faC Z Z (lq 5 Z) Z) ?_))); refine Ss Z (.ldC l0 Z) (Ss Z (.buildSliceW sli102 zv9 Z Z (by decide) (.cons (lq 2 Z) Z (.refl _) Z (.cons l0 Z (.refl _) Z .nil))) (Sa Z l0 (Nn ?_))); refine AWp.ret (aD ?_); obtain rfl := h.ret; exact e3 0 Z Z (.forget _ _ _) Z
  · refine AWp.skip (aC (Wq o4 Z (Ss Z (.faC Z Z (lq 3 Z) Z) ?_))); refine Ss Z (.ldC l0 Z) (Ss Z (.buildSliceW sli102 zv9 Z Z (by decide) (.cons l0 Z (.refl _) Z .nil)) (Sa Z l0 (Nn ?_))); refine AWp.ret ?_; obtain rfl := h.ret; exact e3 0 Z Z (.forget _ _ _) Z
theorem C_plan_Find_1 {a1 : aB} {a2 : ByteArray} {r : Bool} (h : plan_Find_1 a1 a2 = some r) : PureC Pg 69 [aA a1, .cptr (V.str a2)] (V.bool r) := by
  refine .c 8 fn69 Z Z Z ?_; replace h := Ok.of h; unfold plan_Find_1 at h; refine Wq o2 Z (Sv (.ptr 0 [] 0) [.cells (aA a1)] Z (.box l0 Z) Z Z trivial (Sa Z cB (Nn ?_))); refine AWp.wk (Wk.freeze 0 Z Z (.cons (lw 1 Z) Z (.ptr .nil Z) (.l [0, 3] Z)) (.refl _)) (Wq o5 Z (Ss Z (.faC Z Z l0 Z) (Ss Z (.ldC l0 Z) ?_))); refine Ss Z (.ldC (lq 4 Z) Z) (Ss Z (.eqlS (lq 1 Z) l0) (Sa Z l0 (Nn ?_))); refine AWp.ret ?_; obtain rfl := h.ret; exact e2 0 Z Z
theorem C_slices_IndexFunc_Field_Find_1 {a1 : List aB} {a2 : ByteArray} {r : Int} (h : slices_IndexFunc_Field_Find_1 a1 a2 = some r) : PureC Pg 64 [.sl 587 .no (List.map aA a1), .fn 69 [] [.cptr (V.str a2)]] ((V.int .i64) r) := by
  refine .c 19 fn64 Z Z Z ?_; replace h := Ok.of h; unfold slices_IndexFunc_Field_Find_1 at h; refine Wq o1 Z (Sa Z cI (Nn (AWp.seq ?_))); refine Wq o3 Z (Sm 1 Z Z (Ss Z (.lenT sli22 l0 (vsub Z (.refl _))) (Sa Z cI ?_))); refine Nn (AWp.cutL (fun x5 => ⟨[(4, I 0)], []⟩) nc_then h (fun q3 hq3 h => ?_) (fun x5 h => ?_))
  · refine AWp.block (AWp.loopT (fun s4 => ⟨[(8, I s4), (7, I (a1.length : Int)), (4, I 0), (0, .sl 587 .no (List.map aA a1)), (1, .fn 69 [] [.cptr (V.str a2)])], []⟩) hq3 (Wk.selS [] (by decide) Z (sl [0, 1, 3, 4, 5] Z) .nil) (fun _ s4 h3 => ?_)); rw [slices_IndexFunc_Field_Find_1_L1] at h3; refine Wq o1 Z (Ss Z (.lss l0 (lq 1 Z)) (Nn (AWp.seq ?_))); refine AWp.condM l0 h3 (fun c1 h3 => ?_) (fun c1 h3 => ?_)
    · refine AWp.skip (aC (AWp.seq (AWp.block ?_))); refine Wq o2 Z (Sm 1 Z Z (Sa Z l0 (Nw o6 Z ?_))); refine Sm 7 Z Z (Sm 7 Z Z (Sm 2 Z Z (h3.b fun j6 m6 h3 => ?_))); refine Ss Z (.ixS sli22 (lq 1 Z) l0 m6) (h3.n fun v7 ev7 h3 => Ss Z (.nv (.ldC l0 Z) (congrArg aA ev7.symm)) (h3.b fun r8 m8 h3 => Ss Z (.callQ ent69 (lq 4 Z) (cr l0 (.cons (.refl _) .nil)) (C_plan_Find_1 m8)) (Nn ?_))); refine AWp.condM l0 h3 (fun c2 h3 => ?_) (fun c2 h3 => ?_)
      · refine Wq o2 Z (Sm 6 Z Z (Sa Z l0 (Nn ?_))); refine AWp.ret (blockQ_r (aD (aD ?_))); refine blockQ_r (aD (aD ?_))
        have h := Ok.inrq h h3.ret
        obtain rfl := h.ret; exact e2 0 Z Z
      · refine AWp.skip (blockQ_n (aC (W.reg o2 Z ?_))); exact Ss Z (.add (lq 9 Z) cI) (Sa Z l0 (Nn ⟨_, h3.ret, (Wk.selS [] (by decide) Z (sl [0, 12, 13, 14, 15] Z) .nil)⟩))
    · refine AWp.exit (thenQ_x (thenQ_x (blockQ_x ?_))); exact aC ⟨_, h3.ret, (Wk.selS [] (by decide) Z (sl [3] Z) .nil)⟩
  · refine aC (Wq o1 Z (Sa Z cI (Nn ?_))); refine AWp.ret ?_; obtain rfl := h.ret; exact e2 0 Z Z
theorem C_plan_Find {a1 : List aB} {a2 : ByteArray} {r : Int × Bool} (h : plan_Find a1 a2 = some r) : PureC Pg 37 [.sl 587 .no (List.map aA a1), V.str a2] (.tup [(V.int .i64) r.1, V.bool r.2]) := by
  refine .c 14 fn37 Z Z Z ?_; replace h := Ok.of h; unfold plan_Find at h; refine Wq o3 Z (Sv (.ptr 0 [] 0) [.cells (V.str a2)] Z (.box (lq 1 Z) Z) Z Z trivial (Sa Z cI (Sa Z cB ?_))); refine Nn (AWp.wk (Wk.freeze 0 Z Z (.cons (lw 2 Z) Z (.ptr .nil Z) (.l [0, 1, 3] Z)) (.refl _)) (Wq o4 Z (Sm 3 Z Z ?_))); refine Ss Z (.makeFunc Z (mapE1 (lq 1 Z)) Z Z) (h.b fun r3 m3 h => Ss Z (.cq (cr (lq 1 Z) (cr l0 .nil)) (C_slices_IndexFunc_Field_Find_1 m3) Z) (Sa Z l0 (Nw o6 Z ?_))); refine Sa Z l0 (Ss Z (.bmax l0 cI) (Sm 2 Z Z (Ss Z (.geq l0 cI) ?_))); refine Sm 2 Z Z (Sm 1 Z Z (Nn (Pr [0, 1] Z ?_))); refine AWp.ret ?_; obtain rfl := h.ret; exact eN [1, 0] Z Z Z Z Z
theorem C_plan_Fits_1 {a2 : aB} {b1 : Int} {r : Bool × Int} (h : plan_Fits_1 a2 b1 = some r) : CallSpec Pg 60 [aA a2, .ptr 0 [] 0] [.cells ((V.int .i64) b1)] fun o H' => o = .ret (V.bool r.1) ∧ H' = [.cells ((V.int .i64) r.2)] := by
  refine CallSpec.of_bodyF 8 1 fn60 Z Z Z (Nat.le_of_ble_eq_true Z) ?_; replace h := Ok.of h; unfold plan_Fits_1 at h; refine Wq o2 Z (Sv (.ptr 1 [] 0) [.cells (I b1), .cells (aA a2)] Z (.box l0 Z) Z Z trivial (Sa Z cB (Nn ?_))); refine AWp.wk (Wk.freeze 1 Z Z (.cons (lw 1 Z) Z (.ptr .nil Z) (.l [0, 3] Z)) (.refl _)) (Wq o5 Z (Ss Z (.faC Z Z l0 Z) (Ss Z (.ldC l0 Z) ?_))); refine Su Z (.ldP (lq 4 Z) Z .nil Z Z) (Ss Z (.neq (lq 1 Z) l0) (Sa Z l0 (Nn ?_))); refine AWp.ret ?_; obtain rfl := h.ret; exact endF1 Z (Wk.selS [0] (by decide) Z (sl [0] Z) (hc Z (.refl _) .nil)) (.tmp l0 Z) Z Z
theorem C_slices_IndexFunc_Field_Fits_1 {a2 : List aB} {b1 : Int} {r : Int × Int} (h : slices_IndexFunc_Field_Fits_1 a2 b1 = some r) : CallSpec Pg 64 [.sl 587 .no (List.map aA a2), .fn 60 [] [.ptr 0 [] 0]] [.cells ((V.int .i64) b1)] fun o H' => o = .ret ((V.int .i64) r.1) ∧ H' = [.cells ((V.int .i64) r.2)] := by
  refine CallSpec.of_bodyF 19 1 fn64 Z Z Z (Nat.le_of_ble_eq_true Z) ?_; replace h := Ok.of h; unfold slices_IndexFunc_Field_Fits_1 at h; refine Wq o1 Z (Sa Z cI (Nn (AWp.seq ?_))); refine Wq o3 Z (Sm 1 Z Z (Ss Z (.lenT sli22 l0 (vsub Z (.refl _))) (Sa Z cI ?_))); refine Nn (AWp.cutL (fun x5 => ⟨[(4, I 0)], [.cells (I x5)]⟩) nc_then h (fun q3 hq3 h => ?_) (fun x5 h => ?_))
  · refine AWp.block (AWp.loopT (fun s4 => ⟨[(1, .fn 60 [] [.ptr 0 [] 0]), (8, I s4.2), (7, I (a2.length : Int)), (4, I 0), (0, .sl 587 .no (List.map aA a2))], [.cells (I s4.1)]⟩) hq3 (Wk.selS [0] (by decide) Z (SelE.spec (lw 5 Z) Z (.refl _) (ren_fn Z (renL_c Z Z)) (lt_fn ltL_nil (aG Z ltL_nil)) (sl [0, 1, 3, 4] Z)) (hc Z (.refl _) .nil)) (fun _ s4 h3 => ?_)); rw [slices_IndexFunc_Field_Fits_1_L1] at h3; refine Wq o1 Z (Ss Z (.lss (lq 1 Z) (lq 2 Z)) (Nn (AWp.seq ?_))); refine AWp.condM l0 h3 (fun c1 h3 => ?_) (fun c1 h3 => ?_)
    · refine AWp.skip (aC (AWp.seq (AWp.block ?_))); refine Wq o2 Z (Sm 2 Z Z (Sa Z l0 (Nw o6 Z ?_))); refine Sm 3 Z Z (Sm 8 Z Z (Sm 2 Z Z (h3.b fun j6 m6 h3 => ?_))); refine Ss Z (.ixS sli22 (lq 1 Z) l0 m6) (h3.n fun v7 ev7 h3 => Ss Z (.nv (.ldC l0 Z) (congrArg aA ev7.symm)) (h3.b fun r8 m8 h3 => Sv (V.bool r8.1) [.cells (I r8.2)] Z (.callH ent60 (lq 4 Z) [0] (C_plan_Fits_1 m8) (by decide) (hc Z (.refl _) .nil) (aG (aH.lt _ _) (aG Z ltL_nil)) (.c l0 (vsubr (V.sub.refl _) (aH.lt _ _)) (.cons (subren Z) .nil)) (aM.bool.cl _ _) (mapc (ren_cells ((aM.int .i64).cl _ _)) Z) Z) Z Z trivial (Nn ?_))); refine AWp.condM l0 h3 (fun c2 h3 => ?_) (fun c2 h3 => ?_)
      · refine Wq o2 Z (Sm 6 Z Z (Sa Z l0 (Nn ?_))); refine AWp.ret (blockQ_r (aD (aD ?_))); refine blockQ_r (aD (aD ?_))
        have h := Ok.inrq h h3.ret
        obtain rfl := h.ret; exact endF1 Z (Wk.selS [0] (by decide) Z (sl [0] Z) (hc Z (.refl _) .nil)) (.tmp l0 Z) Z Z
      · refine AWp.skip (blockQ_n (aC (W.reg o2 Z ?_))); exact Ss Z (.add (lq 10 Z) cI) (Sa Z l0 (Nn ⟨_, h3.ret, (Wk.selS [0] (by decide) Z (SelE.spec (lw 11 Z) Z (.refl _) (ren_fn Z (renL_c Z Z)) (lt_fn ltL_nil (aG Z ltL_nil)) (sl [0, 13, 14, 15] Z)) (hc Z (.refl _) .nil))⟩))
    · refine AWp.exit (thenQ_x (thenQ_x (blockQ_x ?_))); exact aC ⟨_, h3.ret, (Wk.selS [0] (by decide) Z (sl [4] Z) (hc Z (.refl _) .nil))⟩
  · refine aC (Wq o1 Z (Sa Z cI (Nn ?_))); refine AWp.ret ?_; obtain rfl := h.ret; exact endF1 Z (Wk.selS [0] (by decide) Z (sl [0] Z) (hc Z (.refl _) .nil)) (.tmp l0 Z) Z Z
theorem C_slices_ContainsFunc_Field_Fits_1 {a2 : List aB} {b1 : Int} {r : Bool × Int} (h : slices_ContainsFunc_Field_Fits_1 a2 b1 = some r) : CallSpec Pg 59 [.sl 587 .no (List.map aA a2), .fn 60 [] [.ptr 0 [] 0]] [.cells ((V.int .i64) b1)] fun o H' => o = .ret (V.bool r.1) ∧ H' = [.cells ((V.int .i64) r.2)] := by
  refine CallSpec.of_bodyF 9 1 fn59 Z Z Z (Nat.le_of_ble_eq_true Z) ?_; replace h := Ok.of h; unfold slices_ContainsFunc_Field_Fits_1 at h; refine Wq o1 Z (Sa Z cB (Nw o5 Z (Sm 1 Z Z ?_))); refine Sm 3 Z Z (h.b fun r3 m3 h => Sv (I r3.1) [.cells (I r3.2)] Z (.callH ent64 cF [0] (C_slices_IndexFunc_Field_Fits_1 m3) (by decide) (hc Z (.refl _) .nil) (aG (ty_S_TField.lt _ _) (aG (lt_fn ltL_nil (aG Z ltL_nil)) ltL_nil)) (.c (lq 1 Z) (vsubr (V.sub.refl _) (ty_S_TField.lt _ _)) (.c l0 (subren (ren_fn Z (renL_c Z Z))) .nil)) ((aM.int .i64).cl _ _) (mapc (ren_cells ((aM.int .i64).cl _ _)) Z) Z) Z Z trivial (Ss Z (.geq l0 cI) (Sa Z l0 ?_))); refine Nn (AWp.ret ?_); obtain rfl := h.ret; exact endF1 Z (Wk.selS [0] (by decide) Z (sl [0] Z) (hc Z (.refl _) .nil)) (.tmp l0 Z) Z Z
theorem C_plan_Fits_2 {a1 : THold} {r : Bool} (h : plan_Fits_2 a1 = some r) : PureC Pg 61 [E_THold a1] (V.bool r) := by
  refine .c 6 fn61 Z Z Z ?_; replace h := Ok.of h; unfold plan_Fits_2 at h; refine Wq o2 Z (Sv (.ptr 0 [] 0) [.cells (E_THold a1)] Z (.box l0 Z) Z Z trivial (Sa Z cB (Nn ?_))); refine AWp.wk (Wk.freeze 0 Z Z (.cons (lw 1 Z) Z (.ptr .nil Z) (.l [0] Z)) (.refl _)) (Wq o4 Z (Ss Z (.faC Z Z l0 Z) (Ss Z (.ldC l0 Z) ?_))); refine Ss Z (.eql l0 cI) (Sa Z l0 (Nn (AWp.ret ?_))); obtain rfl := h.ret; exact e2 0 Z Z
theorem C_slices_IndexFunc_Hold_Fits_2 {a1 : List THold} {r : Int} (h : slices_IndexFunc_Hold_Fits_2 a1 = some r) : PureC Pg 85 [.sl 5 .no (List.map E_THold a1), .fn 61 [] []] ((V.int .i64) r) := by
  refine .c 19 fn85 Z Z Z ?_; replace h := Ok.of h; unfold slices_IndexFunc_Hold_Fits_2 at h; refine Wq o1 Z (Sa Z cI (Nn (AWp.seq ?_))); refine Wq o3 Z (Sm 1 Z Z (Ss Z (.lenT sli47 l0 (vsub Z (.refl _))) (Sa Z cI ?_))); refine Nn (AWp.cutL (fun x4 => ⟨[(4, I 0)], []⟩) nc_then h (fun q2 hq2 h => ?_) (fun x4 h => ?_))
  · refine AWp.block (AWp.loopT (fun s3 => ⟨[(8, I s3), (7, I (a1.length : Int)), (4, I 0), (0, .sl 5 .no (List.map E_THold a1)), (1, .fn 61 [] [])], []⟩) hq2 (Wk.selS [] (by decide) Z (sl [0, 1, 3, 4, 5] Z) .nil) (fun _ s3 h2 => ?_)); rw [slices_IndexFunc_Hold_Fits_2_L1] at h2; refine Wq o1 Z (Ss Z (.lss l0 (lq 1 Z)) (Nn (AWp.seq ?_))); refine AWp.condM l0 h2 (fun c1 h2 => ?_) (fun c1 h2 => ?_)
    · refine AWp.skip (aC (AWp.seq (AWp.block ?_))); refine Wq o2 Z (Sm 1 Z Z (Sa Z l0 (Nw o6 Z ?_))); refine Sm 7 Z Z (Sm 7 Z Z (Sm 2 Z Z (h2.b fun j5 m5 h2 => ?_))); refine Ss Z (.ixS sli47 (lq 1 Z) l0 m5) (h2.n fun v6 ev6 h2 => Ss Z (.nv (.ldC l0 Z) (congrArg E_THold ev6.symm)) (h2.b fun r7 m7 h2 => Ss Z (.callQ ent61 (lq 4 Z) (cr l0 .nil) (C_plan_Fits_2 m7)) (Nn ?_))); refine AWp.condM l0 h2 (fun c2 h2 => ?_) (fun c2 h2 => ?_)
      · refine Wq o2 Z (Sm 6 Z Z (Sa Z l0 (Nn ?_))); refine AWp.ret (blockQ_r (aD (aD ?_))); refine blockQ_r (aD (aD ?_))
        have h := Ok.inrq h h2.ret
        obtain rfl := h.ret; exact e2 0 Z Z
      · refine AWp.skip (blockQ_n (aC (W.reg o2 Z ?_))); exact Ss Z (.add (lq 9 Z) cI) (Sa Z l0 (Nn ⟨_, h2.ret, (Wk.selS [] (by decide) Z (sl [0, 12, 13, 14, 15] Z) .nil)⟩))
    · refine AWp.exit (thenQ_x (thenQ_x (blockQ_x ?_))); exact aC ⟨_, h2.ret, (Wk.selS [] (by decide) Z (sl [3] Z) .nil)⟩
  · refine aC (Wq o1 Z (Sa Z cI (Nn ?_))); refine AWp.ret ?_; obtain rfl := h.ret; exact e2 0 Z Z
theorem C_slices_ContainsFunc_Hold_Fits_2 {a1 : List THold} {r : Bool} (h : slices_ContainsFunc_Hold_Fits_2 a1 = some r) : PureC Pg 63 [.sl 5 .no (List.map E_THold a1), .fn 61 [] []] (V.bool r) := by
  refine .c 9 fn63 Z Z Z ?_; replace h := Ok.of h; unfold slices_ContainsFunc_Hold_Fits_2 at h; refine Wq o1 Z (Sa Z cB (Nw o5 Z (Sm 1 Z Z ?_))); refine Sm 3 Z Z (h.b fun r2 m2 h => Ss Z (.cq (cr (lq 1 Z) (cr l0 .nil)) (C_slices_IndexFunc_Hold_Fits_2 m2) Z) (Ss Z (.geq l0 cI) (Sa Z l0 ?_))); refine Nn (AWp.ret ?_); obtain rfl := h.ret; exact e2 0 Z Z
theorem C_plan_Fits_3_Fits_2 {a1 : aB} {r : Bool} (h : plan_Fits_3_Fits_2 a1 = some r) : PureC Pg 62 [aA a1, .cptr (.fn 61 [] [])] (V.bool r) := by
  refine .c 8 fn62 Z Z Z ?_; replace h := Ok.of h; unfold plan_Fits_3_Fits_2 at h; refine Wq o2 Z (Sv (.ptr 0 [] 0) [.cells (aA a1)] Z (.box l0 Z) Z Z trivial (Sa Z cB (Nn ?_))); refine AWp.wk (Wk.freeze 0 Z Z (.cons (lw 1 Z) Z (.ptr .nil Z) (.l [0, 3] Z)) (.refl _)) (Wq o5 Z (Ss Z (.faC Z Z l0 Z) (Ss Z (.ldC l0 Z) ?_))); refine Ss Z (.ldC (lq 4 Z) Z) (h.b fun r2 m2 h => Ss Z (.cq (cr (lq 1 Z) (cr l0 .nil)) (C_slices_ContainsFunc_Hold_Fits_2 m2) Z) (Sa Z l0 (Nn ?_))); refine AWp.ret ?_; obtain rfl := h.ret; exact e2 0 Z Z
theorem C_slices_IndexFunc_Field_Fits_3_Fits_2 {a1 : List aB} {r : Int} (h : slices_IndexFunc_Field_Fits_3_Fits_2 a1 = some r) : PureC Pg 64 [.sl 587 .no (List.map aA a1), .fn 62 [] [.cptr (.fn 61 [] [])]] ((V.int .i64) r) := by
  refine .c 19 fn64 Z Z Z ?_; replace h := Ok.of h; unfold slices_IndexFunc_Field_Fits_3_Fits_2 at h; refine Wq o1 Z (Sa Z cI (Nn (AWp.seq ?_))); refine Wq o3 Z (Sm 1 Z Z (Ss Z (.lenT sli22 l0 (vsub Z (.refl _))) (Sa Z cI ?_))); refine Nn (AWp.cutL (fun x4 => ⟨[(4, I 0)], []⟩) nc_then h (fun q2 hq2 h => ?_) (fun x4 h => ?_))
  · refine AWp.block (AWp.loopT (fun s3 => ⟨[(8, I s3), (7, I (a1.length : Int)), (4, I 0), (0, .sl 587 .no (List.map aA a1)), (1, .fn 62 [] [.cptr (.fn 61 [] [])])], []⟩) hq2 (Wk.selS [] (by decide) Z (sl [0, 1, 3, 4, 5] Z) .nil) (fun _ s3 h2 => ?_)); rw [slices_IndexFunc_Field_Fits_3_Fits_2_L1] at h2; refine Wq o1 Z (Ss Z (.lss l0 (lq 1 Z)) (Nn (AWp.seq ?_))); refine AWp.condM l0 h2 (fun c1 h2 => ?_) (fun c1 h2 => ?_)
    · refine AWp.skip (aC (AWp.seq (AWp.block ?_))); refine Wq o2 Z (Sm 1 Z Z (Sa Z l0 (Nw o6 Z ?_))); refine Sm 7 Z Z (Sm 7 Z Z (Sm 2 Z Z (h2.b fun j5 m5 h2 => ?_))); refine Ss Z (.ixS sli22 (lq 1 Z) l0 m5) (h2.n fun v6 ev6 h2 => Ss Z (.nv (.ldC l0 Z) (congrArg aA ev6.symm)) (h2.b fun r7 m7 h2 => Ss Z (.callQ ent62 (lq 4 Z) (cr l0 (.cons (.refl _) .nil)) (C_plan_Fits_3_Fits_2 m7)) (Nn ?_))); refine AWp.condM l0 h2 (fun c2 h2 => ?_) (fun c2 h2 => ?_)
      · refine Wq o2 Z (Sm 6 Z Z (Sa Z l0 (Nn ?_))); refine AWp.ret (blockQ_r (aD (aD ?_))); refine blockQ_r (aD (aD ?_))
        have h := Ok.inrq h h2.ret
        obtain rfl := h.ret; exact e2 0 Z Z
      · refine AWp.skip (blockQ_n (aC (W.reg o2 Z ?_))); exact Ss Z (.add (lq 9 Z) cI) (Sa Z l0 (Nn ⟨_, h2.ret, (Wk.selS [] (by decide) Z (sl [0, 12, 13, 14, 15] Z) .nil)⟩))
    · refine AWp.exit (thenQ_x (thenQ_x (blockQ_x ?_))); exact aC ⟨_, h2.ret, (Wk.selS [] (by decide) Z (sl [3] Z) .nil)⟩
  · refine aC (Wq o1 Z (Sa Z cI (Nn ?_))); refine AWp.ret ?_; obtain rfl := h.ret; exact e2 0 Z Z
theorem C_slices_ContainsFunc_Field_Fits_3_Fits_2 {a1 : List aB} {r : Bool} (h : slices_ContainsFunc_Field_Fits_3_Fits_2 a1 = some r) : PureC Pg 59 [.sl 587 .no (List.map aA a1), .fn 62 [] [.cptr (.fn 61 [] [])]] (V.bool r) := by
  refine .c 9 fn59 Z Z Z ?_; replace h := Ok.of h; unfold slices_ContainsFunc_Field_Fits_3_Fits_2 at h; refine Wq o1 Z (Sa Z cB (Nw o5 Z (Sm 1 Z Z ?_))); refine Sm 3 Z Z (h.b fun r2 m2 h => Ss Z (.cq (cr (lq 1 Z) (cr l0 .nil)) (C_slices_IndexFunc_Field_Fits_3_Fits_2 m2) Z) (Ss Z (.geq l0 cI) (Sa Z l0 ?_))); refine Nn (AWp.ret ?_); obtain rfl := h.ret; exact e2 0 Z Z
theorem C_plan_Fits {a1 : List aB} {a2 : TPlan} {r : Int} (h : plan_Fits a1 a2 = some r) : PureC Pg 25 [.sl 587 .no (List.map aA a1), E_TPlan a2] ((V.int .i64) r) := by
  refine .c 70 fn25 Z Z Z ?_; replace h := Ok.of h; unfold plan_Fits at h; refine Wq o2 Z (Sv (.ptr 0 [] 0) [.cells (E_TPlan a2)] Z (.box (lq 1 Z) Z) Z Z trivial (Sa Z cI (Nn ?_))); refine AWp.wk (Wk.freeze 0 Z Z (.cons (lw 1 Z) Z (.ptr .nil Z) (.l [0, 2] Z)) (.refl _)) (AWp.seq (AWp.block (Wq o4 Z ?_))); refine Sm 2 Z Z (h.b fun r3 m3 h => Ss Z (.cq (cr l0 .nil) (C_plan_Fields m3) Z) (Ss Z (.not l0) (Sa Z l0 ?_))); refine Nn (AWp.condM l0 h (fun c1 h => ?_) (fun c1 h => ?_))
  · refine Wq o1 Z (Sa Z cI (Nn (AWp.ret ?_))); refine blockQ_r (aD ?_); obtain rfl := h.ret; exact e2 0 Z Z
  · refine Wq o4 Z (Ss Z (.ldC (lq 4 Z) Z) (h.b fun r4 m4 h => Ss Z (.cq (cr l0 .nil) (C_plan_Right m4) Z) (Ss Z (.not l0) ?_))); refine Sa Z l0 (Nn (AWp.condM l0 h (fun c2 h => ?_) (fun c2 h => ?_)))
    · refine Wq o1 Z (Sa Z cI (Nn (AWp.ret ?_))); refine blockQ_r (aD ?_); obtain rfl := h.ret; exact e2 0 Z Z
    · refine AWp.skip (blockQ_n (aC (Wq o1 Z ?_))); refine Sa Z cNs (Nn (AWp.seq (Wq o4 Z ?_))); refine Ss Z (.ldC (lq 9 Z) Z) (h.b fun r5 m5 h => Ss Z (.cq (cr l0 .nil) (C_plan_names m5) Z) (Ss Z (.lenT sli102 l0 (vsub Z (.refl _))) (Sa Z cI ?_))); refine Nn (AWp.cutL (fun x8 => ⟨[(5, .sl 587 (.tok 0) (List.map aA x8)), (3, .cptr (E_TPlan a2)), (4, I 0), (0, .sl 587 .no (List.map aA a1))], [.tail]⟩) nc_then h (fun q6 hq6 h => ?_) (fun x8 h => ?_))
      · refine AWp.block (AWp.loopT (fun s7 => ⟨[(5, .sl 587 (.tok 0) (List.map aA s7.2)), (25, I s7.1), (24, I (r5.length : Int)), (23, .sl 1 .no (List.map V.str r5)), (3, .cptr (E_TPlan a2)), (4, I 0), (0, .sl 587 .no (List.map aA a1))], [.tail]⟩) hq6 (Wk.vacant.trans (Wk.selS [1] (by decide) Z (SelE.spec (lw 4 Z) Z (.nils_tok 587 1) (ren_sl aH _) (lt_sl Z (aH.ltm _ _)) (sl [0, 1, 2, 13, 14, 15] Z)) (.cons Z Z trivial .nil))) (fun _ s7 h6 => ?_)); rw [plan_Fits_L1] at h6; refine Wq o1 Z (Ss Z (.lss (lq 1 Z) (lq 2 Z)) (Nn (AWp.seq ?_))); refine AWp.condM l0 h6 (fun c3 h6 => ?_) (fun c3 h6 => ?_)
        · refine AWp.skip (aC (AWp.seq (AWp.block ?_))); refine Wq o3 Z (h6.b fun j9 m9 h6 => Ss Z (.ixS sli102 (lq 4 Z) (lq 2 Z) m9) (Ss Z (.ldC l0 Z) (Sa Z l0 ?_))); refine Nw o8 Z (Sm 10 Z Z (Sm 1 Z Z (h6.b fun r10 m10 h6 => ?_))); refine Ss Z (.cq (cr (lq 1 Z) (cr l0 .nil)) (C_plan_Find m10) Z) (Sa Z l0 (Ss Z (.extract l0 Z) (Ss Z (.extract (lq 1 Z) Z) ?_))); refine Sm 1 Z Z (Sm 1 Z Z (Nn (AWp.seq ?_))); refine Wq o2 Z (Sa Z l0 (Ss Z (.not l0) (Nn ?_))); refine AWp.condM l0 h6 (fun c4 h6 => ?_) (fun c4 h6 => ?_)
          · refine Wq o1 Z (Sa Z cI (Nn (AWp.ret ?_))); refine aD (blockQ_r (aD (aD ?_))); refine blockQ_r (aD (aD ?_))
            have h := Ok.inrq h h6.ret
            obtain rfl := h.ret; exact e2 0 Z Z
          · refine AWp.skip (aC (W.reg o8 Z (Sm 14 Z Z ?_))); refine Sm 21 Z Z (Sm 5 Z Z (h6.b fun j11 m11 h6 => Ss Z (.ixS sli22 (lq 1 Z) l0 m11) (h6.n fun v12 ev12 h6 => ?_))); refine Ss Z (.nv (.ldC l0 Z) (congrArg aA ev12.symm)) (Ss Z (.buildSliceW sli22 zv49 Z Z (by decide) (.cons l0 Z (.refl _) (aH.fl v12) .nil)) (h6.b fun l13 m13 h6 => Sv (.sl 587 (.tok 1) (List.map aA l13)) [.dead, .tail] Z (.appT sli22 und22 zv49 Z (by decide) (lq 5 Z) Z l0 Rd.sl m13 Z) Z Z trivial (Sa Z l0 ?_))); refine S.nil (blockQ_n (aC (W.reg o2 Z ?_))); exact Ss Z (.add (lq 23 Z) cI) (Sa Z l0 (Nn ⟨_, h6.ret, (Wk.selS [1] (by decide) Z (SelE.spec (lw 2 Z) Z (.refl _) (ren_sl aH _) (lt_sl Z (aH.ltm _ _)) (sl [0, 26, 27, 28, 29, 30] Z)) (.cons Z Z trivial .nil))⟩))
        · refine AWp.exit (thenQ_x (thenQ_x (blockQ_x ?_))); exact aC ⟨_, h6.ret, (Wk.selS [0] (by decide) Z (SelE.spec (lw 1 Z) Z (.refl _) (ren_sl aH _) (lt_sl Z (aH.ltm _ _)) (sl [5, 6, 7] Z)) (.cons Z Z trivial .nil))⟩
      · refine aC (AWp.seq (Wq o9 Z (Sm 3 Z Z ?_))); refine Ss Z (.faC Z Z (lq 2 Z) Z) (Ss Z (.ldC l0 Z) (h.b fun r14 m14 h => Ss Z (.cq (cr (lq 2 Z) (cr l0 .nil)) (C_plan_Find m14) Z) (Sa Z l0 ?_))); refine Ss Z (.extract l0 Z) (Ss Z (.extract (lq 1 Z) Z) (Sm 1 Z Z (Sm 1 Z Z ?_))); refine Nw o3 Z (Ss Z (.faC Z Z (lq 10 Z) Z) (Ss Z (.ldC l0 Z) (Ss Z (.eql l0 cI) ?_))); refine Nn (Pr [0, 3, 12, 13, 14, 15] Z (AWp.condM l0 h (fun c5 h => ?_) (fun c5 h => ?_)))
        · refine AWp.block (Wq o2 Z (Sm 1 Z Z (Sa Z l0 ?_))); refine Nn (AWp.condM l0 h (fun c6 h => ?_) (fun c6 h => ?_))
          · refine Wq o1 Z (Sa Z cI (Nn (AWp.ret ?_))); refine blockQ_r (aD ?_); obtain rfl := h.ret; exact e2 0 Z Z
          · refine Wq o4 Z (Sm 7 Z Z (Ss Z (.lenT sli22 l0 (vsub Z (.refl _))) (Ss Z (.eql l0 cI) ?_))); refine h.n fun v15 ev15 h => Ss Z (.nv (.assign l0) (congrArg V.bool ev15.symm)) (Nn (AWp.condM l0 h (fun c7 h => ?_) (fun c7 h => ?_)))
            · refine Wq o1 Z (Sa Z cI (Nn (Pr [0, 9, 10] Z ?_))); refine AWp.ret (blockQ_r (aD ?_)); obtain rfl := h.ret; exact e2 0 Z Z
            · refine AWp.skip (blockQ_n (aC (Wq o2 Z ?_))); refine Sv (.ptr 1 [] 0) [.tail, .cells (I 0)] Z (.alloc zv3) Z Z trivial (Sn [.tail, .cells (I 1)] Z Z (.sw l0 cI Z Z Z) Z trivial (Nn (AWp.seq ?_))); refine Wq o3 Z (Ss Z (.faC Z Z (lq 10 Z) Z) (Ss Z (.ldC l0 Z) (Ss Z (.eql l0 cI) ?_))); refine Nn (Pr [0, 3, 12, 14] Z (AWp.condM l0 h (fun c8 h => ?_) (fun c8 h => ?_)))
              · refine W.reg o1 Z (Sn [.tail, .cells (I 2)] Z Z (.sw (lq 1 Z) cI Z Z Z) Z trivial (Nn (AWp.seq ?_))); refine Wq o3 Z (Sm 2 Z Z (Ss Z (.makeFunc Z (mapE1 (lq 2 Z)) Z Z) (h.b fun r16 m16 h => ?_))); refine Sv (V.bool r16.1) [.tail, .cells (I r16.2)] Z (.callH ent59 cF [1] (C_slices_ContainsFunc_Field_Fits_1 m16) (by decide) (hc Z (.refl _) .nil) (aG (ty_S_TField.lt _ _) (aG (lt_fn ltL_nil (aG Z ltL_nil)) ltL_nil)) (.c (lq 1 Z) (vsubr (vsub Z (.forget _ _ _)) (ty_S_TField.lt _ _)) (.c l0 (subren (ren_fn Z (renL_c Z Z))) .nil)) (aM.bool.cl _ _) (mapc (ren_cells ((aM.int .i64).cl _ _)) Z) Z) Z Z trivial (Nn (AWp.condM l0 h (fun c9 h => ?_) (fun c9 h => ?_)))
                · refine Wq o1 Z (Sa Z cI (Nn (AWp.ret ?_))); refine aD ?_; obtain rfl := h.ret; exact e2 0 Z Z
                · refine AWp.skip (aC (Wq o2 Z (Sv (.ptr 2 [] 0) [.tail, .cells (I r16.2), .cells (.nilfn)] Z (.alloc zv107) Z Z trivial ?_))); refine Sn [.tail, .cells (I r16.2), .cells (.fn 61 [] [])] Z Z (.sw l0 cF Z Z Z) Z trivial (Nn (AWp.wk (Wk.freeze 2 Z Z (.cons l0 Z (.ptr .nil Z) (.l [6, 7] Z)) (.refl _)) (AWp.seq ?_))); refine Wq o3 Z (Sm 1 Z Z (Ss Z (.makeFunc Z (mapE1 (lq 1 Z)) Z Z) (h.b fun r17 m17 h => ?_))); refine Ss Z (.cq (.c (lq 1 Z) (vsub Z (.forget _ _ _)) (cr l0 .nil)) (C_slices_ContainsFunc_Field_Fits_3_Fits_2 m17) Z) (Nn (AWp.condM l0 h (fun c10 h => ?_) (fun c10 h => ?_)))
                  · refine Wq o1 Z (Sa Z cI (Nn (AWp.ret ?_))); refine aD ?_; obtain rfl := h.ret; exact e2 0 Z Z
                  · refine AWp.skip (aC (Wq o1 Z (Sa Z cI ?_))); refine Nn (AWp.ret ?_); obtain rfl := h.ret; exact e2 0 Z Z
              · refine AWp.skip (aC (AWp.seq (Wq o3 Z ?_))); refine Sm 2 Z Z (Ss Z (.makeFunc Z (mapE1 (lq 2 Z)) Z Z) (h.b fun r18 m18 h => Sv (V.bool r18.1) [.tail, .cells (I r18.2)] Z (.callH ent59 cF [1] (C_slices_ContainsFunc_Field_Fits_1 m18) (by decide) (hc Z (.refl _) .nil) (aG (ty_S_TField.lt _ _) (aG (lt_fn ltL_nil (aG Z ltL_nil)) ltL_nil)) (.c (lq 1 Z) (vsubr (vsub Z (.forget _ _ _)) (ty_S_TField.lt _ _)) (.c l0 (subren (ren_fn Z (renL_c Z Z))) .nil)) (aM.bool.cl _ _) (mapc (ren_cells ((aM.int .i64).cl _ _)) Z) Z) Z Z trivial (Nn ?_))); refine AWp.condM l0 h (fun c11 h => ?_) (fun c11 h => ?_)
                · refine Wq o1 Z (Sa Z cI (Nn (AWp.ret ?_))); refine aD ?_; obtain rfl := h.ret; exact e2 0 Z Z
                · refine AWp.skip (aC (Wq o2 Z (Sv (.ptr 2 [] 0) [.tail, .cells (I r18.2), .cells (.nilfn)] Z (.alloc zv107) Z Z trivial ?_))); refine Sn [.tail, .cells (I r18.2), .cells (.fn 61 [] [])] Z Z (.sw l0 cF Z Z Z) Z trivial (Nn (AWp.wk (Wk.freeze 2 Z Z (.cons l0 Z (.ptr .nil Z) (.l [6, 7] Z)) (.refl _)) (AWp.seq ?_))); refine Wq o3 Z (Sm 1 Z Z (Ss Z (.makeFunc Z (mapE1 (lq 1 Z)) Z Z) (h.b fun r19 m19 h => ?_))); refine Ss Z (.cq (.c (lq 1 Z) (vsub Z (.forget _ _ _)) (cr l0 .nil)) (C_slices_ContainsFunc_Field_Fits_3_Fits_2 m19) Z) (Nn (AWp.condM l0 h (fun c12 h => ?_) (fun c12 h => ?_)))
                  · refine Wq o1 Z (Sa Z cI (Nn (AWp.ret ?_))); refine aD ?_; obtain rfl := h.ret; exact e2 0 Z Z
                  · refine AWp.skip (aC (Wq o1 Z (Sa Z cI ?_))); refine Nn (AWp.ret ?_); obtain rfl := h.ret; exact e2 0 Z Z
        · refine AWp.skip (aC (Wq o2 Z (Sv (.ptr 1 [] 0) [.tail, .cells (I 0)] Z (.alloc zv3) Z Z trivial ?_))); refine Sn [.tail, .cells (I 1)] Z Z (.sw l0 cI Z Z Z) Z trivial (Nn (AWp.seq (Wq o3 Z ?_))); refine Ss Z (.faC Z Z (lq 4 Z) Z) (Ss Z (.ldC l0 Z) (Ss Z (.eql l0 cI) (Nn ?_))); refine AWp.condM l0 h (fun c13 h => ?_) (fun c13 h => ?_)
          · refine W.reg o1 Z (Sn [.tail, .cells (I 2)] Z Z (.sw (lq 3 Z) cI Z Z Z) Z trivial (Nn (AWp.seq ?_))); refine Wq o3 Z (Sm 6 Z Z (Ss Z (.makeFunc Z (mapE1 (lq 4 Z)) Z Z) (h.b fun r20 m20 h => ?_))); refine Sv (V.bool r20.1) [.tail, .cells (I r20.2)] Z (.callH ent59 cF [1] (C_slices_ContainsFunc_Field_Fits_1 m20) (by decide) (hc Z (.refl _) .nil) (aG (ty_S_TField.lt _ _) (aG (lt_fn ltL_nil (aG Z ltL_nil)) ltL_nil)) (.c (lq 1 Z) (vsubr (vsub Z (.forget _ _ _)) (ty_S_TField.lt _ _)) (.c l0 (subren (ren_fn Z (renL_c Z Z))) .nil)) (aM.bool.cl _ _) (mapc (ren_cells ((aM.int .i64).cl _ _)) Z) Z) Z Z trivial (Nn (Pr [0, 9, 11] Z (AWp.condM l0 h (fun c14 h => ?_) (fun c14 h => ?_))))
            · refine Wq o1 Z (Sa Z cI (Nn (AWp.ret ?_))); refine aD ?_; obtain rfl := h.ret; exact e2 0 Z Z
            · refine AWp.skip (aC (Wq o2 Z (Sv (.ptr 2 [] 0) [.tail, .cells (I r20.2), .cells (.nilfn)] Z (.alloc zv107) Z Z trivial ?_))); refine Sn [.tail, .cells (I r20.2), .cells (.fn 61 [] [])] Z Z (.sw l0 cF Z Z Z) Z trivial (Nn (AWp.wk (Wk.freeze 2 Z Z (.cons l0 Z (.ptr .nil Z) (.l [2, 3] Z)) (.refl _)) (AWp.seq ?_))); refine Wq o3 Z (Sm 1 Z Z (Ss Z (.makeFunc Z (mapE1 (lq 1 Z)) Z Z) (h.b fun r21 m21 h => ?_))); refine Ss Z (.cq (.c (lq 1 Z) (vsub Z (.forget _ _ _)) (cr l0 .nil)) (C_slices_ContainsFunc_Field_Fits_3_Fits_2 m21) Z) (Nn (AWp.condM l0 h (fun c15 h => ?_) (fun c15 h => ?_)))
              · refine Wq o1 Z (Sa Z cI (Nn (AWp.ret ?_))); refine aD ?_; obtain rfl := h.ret; exact e2 0 Z Z
              · refine AWp.skip (aC (Wq o1 Z (Sa Z cI ?_))); refine Nn (AWp.ret ?_); obtain rfl := h.ret; exact e2 0 Z Z
          · refine AWp.skip (aC (AWp.seq (Wq o3 Z ?_))); refine Sm 6 Z Z (Ss Z (.makeFunc Z (mapE1 (lq 4 Z)) Z Z) (h.b fun r22 m22 h => Sv (V.bool r22.1) [.tail, .cells (I r22.2)] Z (.callH ent59 cF [1] (C_slices_ContainsFunc_Field_Fits_1 m22) (by decide) (hc Z (.refl _) .nil) (aG (ty_S_TField.lt _ _) (aG (lt_fn ltL_nil (aG Z ltL_nil)) ltL_nil)) (.c (lq 1 Z) (vsubr (vsub Z (.forget _ _ _)) (ty_S_TField.lt _ _)) (.c l0 (subren (ren_fn Z (renL_c Z Z))) .nil)) (aM.bool.cl _ _) (mapc (ren_cells ((aM.int .i64).cl _ _)) Z) Z) Z Z trivial (Nn ?_))); refine Pr [0, 9, 11] Z (AWp.condM l0 h (fun c16 h => ?_) (fun c16 h => ?_))
            · refine Wq o1 Z (Sa Z cI (Nn (AWp.ret ?_))); refine aD ?_; obtain rfl := h.ret; exact e2 0 Z Z
            · refine AWp.skip (aC (Wq o2 Z (Sv (.ptr 2 [] 0) [.tail, .cells (I r22.2), .cells (.nilfn)] Z (.alloc zv107) Z Z trivial ?_))); refine Sn [.tail, .cells (I r22.2), .cells (.fn 61 [] [])] Z Z (.sw l0 cF Z Z Z) Z trivial (Nn (AWp.wk (Wk.freeze 2 Z Z (.cons l0 Z (.ptr .nil Z) (.l [2, 3] Z)) (.refl _)) (AWp.seq ?_))); refine Wq o3 Z (Sm 1 Z Z (Ss Z (.makeFunc Z (mapE1 (lq 1 Z)) Z Z) (h.b fun r23 m23 h => ?_))); refine Ss Z (.cq (.c (lq 1 Z) (vsub Z (.forget _ _ _)) (cr l0 .nil)) (C_slices_ContainsFunc_Field_Fits_3_Fits_2 m23) Z) (Nn (AWp.condM l0 h (fun c17 h => ?_) (fun c17 h => ?_)))
              · refine Wq o1 Z (Sa Z cI (Nn (AWp.ret ?_))); refine aD ?_; obtain rfl := h.ret; exact e2 0 Z Z
              · refine AWp.skip (aC (Wq o1 Z (Sa Z cI ?_))); refine Nn (AWp.ret ?_); obtain rfl := h.ret; exact e2 0 Z Z
theorem C_cloneO_27 {a1 : List aB} {r : List aB} (h : app 4720 [] a1 = some r) : CallSpec Pg 27 [E_S_TField a1] [] fun o H' => o = .ret (.slo 587 0 [] 0 0 r.length 1) ∧ H' = [.buf 587 (List.map aA r)] := by
  refine CallSpec.of_bodyF 8 0 fn27 Z Z Z (Nat.le_of_ble_eq_true Z) ?_
  have hr := (app_get h).2
  refine Wq o1 Z (Sa Z cNs (Nn (AWp.splitNil (t := 0) (lw 1 Z) (fun hn => ?_) ?_)))
  · obtain rfl : a1 = [] := List.map_eq_nil_iff.1 hn
    obtain rfl : r = [] := by simpa using hr
    refine .seq (Wq o2 Z (Sa Z l0 (Ss Z (.eqlNil sli22 l0 cNs) ?_))); refine Nn (AWp.condT l0 (Wq o1 Z (Sa Z cNs ?_))); refine Nn (AWp.ret (aD (endF_wk (Wk.nilbuf 587 l0) ?_))); exact endF1 Z (Wk.selS [0] (by decide) Z (SelE.spec l0 Z (.refl _) Z Z .nil) (.cons Z Z (ASub.refl _) .nil)) (.tmp l0 Z) Z Z
  · refine .seq (Wq o2 Z (Sa Z l0 (Ss Z (.eqlNn sli22 l0 cNs) ?_))); refine Nn (AWp.condF l0 (AWp.skip (aC ?_))); refine Wq o4 Z (Ss Z (.buildSliceW sli22 zv49 Z Z (by decide) .nil) (Sm 3 Z Z (S.new 7 Z Z (.appNewT sli22 und22 zv49 Z (by decide) (lq 1 Z) (V.sub.refl _) l0 Rd.sl h Z) trivial ?_))); exact Sa Z l0 (Nn (AWp.ret (endF1 Z (Wk.selS [0] (by decide) Z (SelE.spec l0 Z (.refl _) Z Z .nil) (.cons (lt_buf aH) Z ⟨Z, RSubL.leafr aH _ Z⟩ .nil)) (.tmp l0 Z) Z Z)))
theorem C_plan_Touched {a1 : TPlan} {a2 : ByteArray} {r : Bool} (h : plan_Touched a1 a2 = some r) : PureC Pg 29 [E_TPlan a1, V.str a2] (V.bool r) := by
  refine .c 20 fn29 Z Z Z ?_; replace h := Ok.of h; unfold plan_Touched at h; refine Wq o2 Z (Sv (.ptr 0 [] 0) [.cells (E_TPlan a1)] Z (.box l0 Z) Z Z trivial (Sa Z cB (Nn ?_))); refine AWp.wk (Wk.freeze 0 Z Z (.cons (lw 1 Z) Z (.ptr .nil Z) (.l [0, 3] Z)) (.refl _)) (Wq o16 Z (Sm 2 Z Z (Ss Z (.faC Z Z (lq 1 Z) Z) ?_))); refine Ss Z (.ldC l0 Z) (Ss Z (.eqlS (lq 2 Z) l0) (Sa Z l0 (Sg Z l0 (.faC Z Z (lq 5 Z) Z) ?_))); refine Sj Z (lq 1 Z) (fun hB => .ldC (i0 hB) Z) (Sj Z (lq 2 Z) (fun hB => .neqS (i0 hB) cS) (Sj Z (lq 3 Z) (fun hB => .move (i0 hB)) (Sg2 Z l0 (.move (lq 11 Z)) ?_))); refine Sg2 Z (lq 1 Z) (.faC Z Z (lq 10 Z) Z) (Sj2 Z (lq 2 Z) (fun hB => .ldC (i0 hB) Z) (Sj2 Z (lq 3 Z) (fun hB => .eqlS (ifT hB (lq 2 Z)) (i0 hB)) (Sj Z (lq 8 Z) (fun hB => .pickAnd (ifT hB (lq 4 Z)) (fun h => ifT ⟨hB, h⟩ l0) cB) ?_))); refine h.n fun v3 ev3 h => Ss Z (.nv (.pickOr (lq 9 Z) cB i0) (congrArg V.bool ev3.symm)) (Sa Z l0 (Nn (Pr [0] Z ?_))); refine AWp.ret ?_; obtain rfl := h.ret; exact e2 0 Z Z
theorem C_barrier_Start_1 {a1 : aB} {a2 : TPlan} {r : Bool} (h : barrier_Start_1 a1 a2 = some r) : PureC Pg 28 [aA a1, .cptr (E_TPlan a2)] (V.bool r) := by
  refine .c 9 fn28 Z Z Z ?_; replace h := Ok.of h; unfold barrier_Start_1 at h; refine Wq o2 Z (Sv (.ptr 0 [] 0) [.cells (aA a1)] Z (.box l0 Z) Z Z trivial (Sa Z cB (Nn ?_))); refine AWp.wk (Wk.freeze 0 Z Z (.cons (lw 1 Z) Z (.ptr .nil Z) (.l [0, 3] Z)) (.refl _)) (Wq o6 Z (Ss Z (.ldC (lq 2 Z) Z) (Ss Z (.faC Z Z (lq 1 Z) Z) ?_))); refine Ss Z (.ldC l0 Z) (h.b fun r3 m3 h => Ss Z (.cq (cr (lq 2 Z) (cr l0 .nil)) (C_plan_Touched m3) Z) (Ss Z (.not l0) (Sa Z l0 ?_))); refine Nn (AWp.ret ?_); obtain rfl := h.ret; exact e2 0 Z Z
theorem C_slices_IndexFunc_Field_Start_1 {a2 : TPlan} {b1 : List aB} {r : Int} (h : slices_IndexFunc_Field_Start_1 a2 b1 = some r) : CallSpec Pg 64 [.slo 587 0 [] 0 0 b1.length 1, .fn 28 [] [.cptr (E_TPlan a2)]] [.buf 587 (List.map aA b1)] fun o H' => o = .ret ((V.int .i64) r) ∧ H' = [.buf 587 (List.map aA b1)] := by
  refine CallSpec.of_bodyF 19 1 fn64 Z Z Z (Nat.le_of_ble_eq_true Z) ?_; replace h := Ok.of h; unfold slices_IndexFunc_Field_Start_1 at h; refine Wq o1 Z (Sa Z cI (Nn (AWp.seq ?_))); refine Wq o3 Z (Sm 1 Z Z (Ss Z (.lenO sli22 l0) (Sa Z cI ?_))); refine Nn (AWp.cutL (fun x5 => ⟨[(4, I 0)], [.buf 587 (List.map aA b1)]⟩) nc_then h (fun q3 hq3 h => ?_) (fun x5 h => ?_))
  · refine AWp.block (AWp.loopT (fun s4 => ⟨[(0, .slo 587 0 [] 0 0 b1.length 1), (8, I s4), (7, I ((b1.length : Nat) : Int)), (4, I 0), (1, .fn 28 [] [.cptr (E_TPlan a2)])], [.buf 587 (List.map aA b1)]⟩) hq3 (Wk.selS [0] (by decide) Z (SelE.spec (lw 4 Z) Z (.slo (by first | rfl | simp)) Z Z (sl [0, 1, 3, 5] Z)) (hb Z .nil)) (fun _ s4 h3 => ?_)); rw [slices_IndexFunc_Field_Start_1_L1] at h3; refine Wq o1 Z (Ss Z (.lss (lq 1 Z) (lq 2 Z)) (Nn (AWp.seq ?_))); refine AWp.condM l0 h3 (fun c1 h3 => ?_) (fun c1 h3 => ?_)
    · refine AWp.skip (aC (AWp.seq (AWp.block ?_))); refine Wq o2 Z (Sm 2 Z Z (Sa Z l0 (Nw o6 Z ?_))); refine Sm 7 Z Z (Sm 4 Z Z (Sm 2 Z Z (h3.b fun j6 m6 h3 => ?_))); refine Ss Z (.ixO sli22 (lq 1 Z) l0 (by first | rfl | simp) m6) (h3.n fun v7 ev7 h3 => Su Z (.nv (.loadB sz49 ag49 l0 Z (.ls (by first | exact lsm m6 | (have := six_lt m6; simp at this ⊢; omega)) .nil) (by first | omega | rfl) (aH.fl (b1.getD j6 default)) Z) (congrArg aA ev7.symm)) (h3.b fun r8 m8 h3 => Ss Z (.callQ ent28 (lq 4 Z) (cr l0 (.cons (.refl _) .nil)) (C_barrier_Start_1 m8)) (Nn ?_))); refine AWp.condM l0 h3 (fun c2 h3 => ?_) (fun c2 h3 => ?_)
      · refine Wq o2 Z (Sm 6 Z Z (Sa Z l0 (Nn ?_))); refine AWp.ret (blockQ_r (aD (aD ?_))); refine blockQ_r (aD (aD ?_))
        have h := Ok.inrq h h3.ret
        obtain rfl := h.ret; exact endF1 Z (Wk.selS [0] (by decide) Z (sl [0] Z) (hb Z .nil)) (.tmp l0 Z) Z Z
      · refine AWp.skip (blockQ_n (aC (W.reg o2 Z ?_))); exact Ss Z (.add (lq 10 Z) cI) (Sa Z l0 (Nn ⟨_, h3.ret, (Wk.selS [0] (by decide) Z (SelE.spec (lw 11 Z) Z (.slo (by first | rfl | simp)) Z Z (sl [0, 13, 14, 15] Z)) (hb Z .nil))⟩))
    · refine AWp.exit (thenQ_x (thenQ_x (blockQ_x ?_))); exact aC ⟨_, h3.ret, (Wk.selS [0] (by decide) Z (sl [4] Z) (hb Z .nil))⟩
  · refine aC (Wq o1 Z (Sa Z cI (Nn ?_))); refine AWp.ret ?_; obtain rfl := h.ret; exact endF1 Z (Wk.selS [0] (by decide) Z (sl [0] Z) (hb Z .nil)) (.tmp l0 Z) Z Z
theorem C_slices_DeleteFunc_Field_Start_1 {a2 : TPlan} {b1 : List aB} {r : Nat × (List aB)} (h : slices_DeleteFunc_Field_Start_1 a2 b1 = some r) : CallSpec Pg 26 [.slo 587 0 [] 0 0 b1.length 1, .fn 28 [] [.cptr (E_TPlan a2)]] [.buf 587 (List.map aA b1)] fun o H' => o = .ret (.slo 587 0 [] 0 0 r.1 1) ∧ H' = [.buf 587 (List.map aA r.2)] := by
  refine CallSpec.of_bodyF 42 1 fn26 Z Z Z (Nat.le_of_ble_eq_true Z) ?_; replace h := Ok.of h; unfold slices_DeleteFunc_Field_Start_1 at h; refine Wq o1 Z (Sa Z cNs (Nw o4 Z (Sm 1 Z Z ?_))); refine Sm 3 Z Z (h.b fun r3 m3 h => Sv (I r3) [.buf 587 (List.map aA b1)] Z (.callH ent64 cF [0] (C_slices_IndexFunc_Field_Start_1 m3) (by decide) (hb Z .nil) (aG Z (aG (lt_fn ltL_nil (aG (lt_cptr (ty_TPlan.lt _ _)) ltL_nil)) ltL_nil)) (.c (lq 1 Z) (subren (congrArg (fun n => V.slo 587 0 [] 0 0 n 1) (by first | rfl | simp))) (.c l0 (vsubr (V.sub.refl _) (lt_fn ltL_nil (aG (lt_cptr (ty_TPlan.lt _ _)) ltL_nil))) .nil)) ((aM.int .i64).cl _ _) (mapc (ren_buf aH _) Z) Z) Z Z trivial (Sa Z l0 (Nn ?_))); refine .seq (Wq o2 Z (Sa Z l0 (Ss Z (.eql l0 cI) ?_))); refine Nn (AWp.condM l0 h (fun c1 h => ?_) (fun c1 h => ?_))
  · refine Wq o2 Z (Sm 7 Z Z (Sa Z l0 (Nn ?_))); refine AWp.ret (aD ?_); obtain rfl := h.ret; exact endF1 Z (Wk.selS [0] (by decide) Z (SelE.spec (v := .slo 587 0 [] 0 0 b1.length 1) l0 Z (.slo Z) Z Z .nil) (hb Z .nil)) (.tmp l0 Z) Z Z
  · refine AWp.skip (aC (AWp.seq (Wq o3 Z ?_))); refine Sm 2 Z Z (Ss Z (.add l0 cI) (Sa Z l0 (Nn ?_))); refine AWp.cutX (fun x6 => ⟨[(0, .slo 587 0 [] 0 0 x6.1.length 1), (5, I x6.2), (4, .nils)], [.buf 587 (List.map aA x6.1)]⟩) nc_then h (fun q4 hq4 => ?_) (fun x6 h => ?_)
    · refine AWp.block (AWp.loopT (fun s5 => ⟨[(0, .slo 587 0 [] 0 0 s5.1.length 1), (6, I s5.2.1), (5, I s5.2.2), (4, .nils), (1, .fn 28 [] [.cptr (E_TPlan a2)])], [.buf 587 (List.map aA s5.1)]⟩) hq4 (Wk.selS [0] (by decide) Z (SelE.spec (lw 10 Z) Z (.slo (by first | rfl | simp)) Z Z (sl [0, 5, 9, 11] Z)) (hb Z .nil)) (fun _ s5 h4 => ?_)); rw [slices_DeleteFunc_Field_Start_1_L1] at h4; refine .seq (Wq o4 Z (Sm 1 Z Z (Sm 1 Z Z ?_))); refine Ss Z (.lenO sli22 l0) (Ss Z (.lss (lq 2 Z) l0) (Nn (AWp.condM l0 h4 (fun c2 h4 => ?_) (fun c2 h4 => ?_))))
      · refine AWp.skip (aC (AWp.seq (AWp.block ?_))); refine Wq o6 Z (Sm 4 Z Z (Sm 6 Z Z (h4.b fun j7 m7 h4 => ?_))); refine Ss Z (.ixO sli22 (lq 1 Z) l0 (by first | rfl | simp) m7) (h4.n fun v8 ev8 h4 => Su Z (.nv (.loadB sz49 ag49 l0 Z (.ls (by first | exact lsm m7 | (have := six_lt m7; simp at this ⊢; omega)) .nil) (by first | omega | rfl) (aH.fl (s5.1.getD j7 default)) Z) (congrArg aA ev8.symm)) (Sv (.ptr 1 [] 0) [.buf 587 (List.map aA s5.1), .cells (z49)] Z (.alloc zv49) Z Z trivial (Sn [.buf 587 (List.map aA s5.1), .cells (aA v8)] Z Z (.sw l0 (lq 1 Z) Z Z Z) Z trivial ?_))); refine Nn (AWp.wk (Wk.freeze 1 Z Z (.cons l0 Z (.ptr .nil Z) (.l [1, 2, 3, 4, 5, 6, 7, 8, 9, 10, 11, 12, 13] Z)) (.refl _)) (Wq o4 Z (Sm 13 Z Z ?_))); refine Ss Z (.ldC (lq 1 Z) Z) (h4.b fun r9 m9 h4 => Ss Z (.callQ ent28 (lq 1 Z) (cr l0 (.cons (.refl _) .nil)) (C_barrier_Start_1 m9)) (Ss Z (.not l0) (Nn ?_))); refine AWp.condM l0 h4 (fun c3 h4 => ?_) (fun c3 h4 => ?_)
        · refine Wq o5 Z (Sm 13 Z Z (Sm 16 Z Z (Ss Z (.ldC (lq 6 Z) Z) ?_))); refine h4.b fun j10 m10 h4 => Ss Z (.ixO sli22 (lq 2 Z) (lq 1 Z) (by first | rfl | simp) m10) (h4.n fun v11 ev11 h4 => Sn [.buf 587 (List.map aA v11), .dead] Z Z (.storeB sz49 l0 (lq 1 Z) Z (.refl _) Z (.ls (by first | exact lsm m10 | (have := six_lt m10; simp at this ⊢; omega)) .nil) (by first | omega | rfl) (.ls v8 (by first | exact lsm m10 | (have := six_lt m10; simp at this ⊢; omega)) .nil) (aH.fl v8) (aH.fl (s5.1.getD j10 default)) (congrArg (fun z => ([aK.buf 587 (List.map aA z), .dead] : List aK)) ev11.symm)) Z trivial (Nn (W.reg o3 Z ?_))); refine Sm 19 Z Z (Ss Z (.add l0 cI) (Sa Z l0 (S.nil ?_))); refine blockQ_n (aC (W.reg o3 Z (Sm 21 Z Z ?_))); exact Ss Z (.add l0 cI) (Sa Z l0 (Nn ⟨_, h4.ret, (Wk.selS [0] (by decide) Z (SelE.spec (lw 23 Z) Z (.slo (by first | rfl | simp [ev11, ev8])) Z Z (sl [0, 3, 26, 27] Z)) (hb Z .nil))⟩))
        · refine AWp.skip (blockQ_n (aC (W.reg o3 Z ?_))); refine Sm 14 Z Z (Ss Z (.add l0 cI) (Sa Z l0 (Nn ?_))); exact ⟨_, h4.ret, (Wk.selS [0] (by decide) Z (SelE.spec (lw 16 Z) Z (.slo (by first | rfl | simp)) Z Z (sl [0, 18, 19, 20] Z)) (hb Z .nil))⟩
      · refine AWp.exit (thenQ_x (thenQ_x (blockQ_x ?_))); exact aC ⟨_, h4.ret, (Wk.selS [0] (by decide) Z (SelE.spec (lw 4 Z) Z (.slo (by first | rfl | simp)) Z Z (sl [6, 7] Z)) (hb Z .nil))⟩
    · refine aC (Wq o4 Z (Sa Z l0 (Sm 2 Z Z ?_))); refine h.b fun j12 m12 h => Ss Z (.sliceOwnS sli22 (lq 1 Z) l0 (by first | rfl | simp) m12) (h.n fun v13 ev13 h => Sn [.buf 587 (List.map aA v13)] Z Z (.clearO (d := (⟨(default : ByteArray), 0, 0, (default : aJ), (default : TLock), ([] : List THold)⟩ : aB)) sli22 zv49 (.st (.cons (.refl _) (.cons (.refl _) (.cons (.refl _) (.cons (.refl _) (.cons (.refl _) (.cons (.nils_no _) .nil))))))) (aH.fl (⟨(default : ByteArray), 0, 0, (default : aJ), (default : TLock), ([] : List THold)⟩ : aB)) l0 (by first | rfl | simp) m12 Z ev13.symm Z) Z trivial (Nw o4 Z (Sm 3 Z Z ?_))); refine Sm 5 Z Z (h.b fun j14 m14 h => Ss Z (.sliceOwnT sli22 (lq 1 Z) l0 (by first | rfl | simp [(clr_len ev13 m12)]) m14) (Sa Z l0 (Nn ?_))); refine AWp.ret ?_; obtain rfl := h.ret; exact endF1 Z (Wk.selS [0] (by decide) Z (SelE.spec (v := .slo 587 0 [] 0 0 j14 1) l0 Z (.slo Z) Z Z .nil) (hb Z .nil)) (.tmp l0 Z) Z Z
theorem C_barrier_own {a1 : List aB} {r : (List aB)} (h : barrier_own a1 = some r) : PureC Pg 30 [.sl 587 .no (List.map aA a1)] (E_S_TField r) := by
  refine .c 22 fn30 Z Z Z ?_; replace h := Ok.of h; unfold barrier_own at h; refine Wq o1 Z (Sa Z cNs (Nw o1 Z (Sa Z cNs ?_))); refine Nn (AWp.seq (Wq o3 Z (Sm 2 Z Z ?_))); refine Ss Z (.lenT sli22 l0 (vsub Z (.refl _))) (Sa Z cI (Nn (AWp.cutX (fun x4 => ⟨[(3, .sl 587 (.tok 0) (List.map aA x4)), (2, .nils)], [.tail]⟩) nc_then h (fun q2 hq2 => ?_) (fun x4 h => ?_))))
  · refine AWp.block (AWp.loopT (fun s3 => ⟨[(3, .sl 587 (.tok 0) (List.map aA s3.2)), (8, I s3.1), (7, I (a1.length : Int)), (6, .sl 587 .no (List.map aA a1)), (2, .nils)], [.tail]⟩) hq2 (Wk.vacant.trans (Wk.selS [0] (by decide) Z (SelE.spec (lw 3 Z) Z (.nils_tok 587 0) (ren_sl aH _) (lt_sl Z (aH.ltm _ _)) (sl [0, 1, 2, 4] Z)) (.cons Z Z trivial .nil))) (fun _ s3 h2 => ?_)); rw [barrier_own_L1] at h2; refine Wq o1 Z (Ss Z (.lss (lq 1 Z) (lq 2 Z)) (Nn (AWp.seq ?_))); refine AWp.condM l0 h2 (fun c1 h2 => ?_) (fun c1 h2 => ?_)
    · refine AWp.skip (aC (AWp.seq (AWp.block ?_))); refine Wq o4 Z (h2.b fun j5 m5 h2 => Ss Z (.ixS sli22 (lq 4 Z) (lq 2 Z) m5) (h2.n fun v6 ev6 h2 => Ss Z (.nv (.ldC l0 Z) (congrArg aA ev6.symm)) (Sv (.ptr 1 [] 0) [.tail, .cells (z49)] Z (.alloc zv49) Z Z trivial ?_))); refine Sn [.tail, .cells (aA v6)] Z Z (.sw l0 (lq 1 Z) Z Z Z) Z trivial (Nw o5 Z (Ss Z (.fieldAddr lay49 Z Z l0) (Su Z (.ldP l0 Z (.f Z .nil) Z Z) ?_))); refine h2.b fun r7 m7 h2 => Ss Z (.cq (cr l0 .nil) (C_clone_65 m7) Z) (Ss Z (.fieldAddr lay49 Z Z (lq 3 Z)) (h2.n fun v8 ev8 h2 => Sn [.tail, .cells (aA v8)] Z Z (.sP l0 (lq 1 Z) Z (.refl _) Z (.f Z .nil) Z (.st Z .nil Z) (congrArg (fun z => ([.tail, aK.cells (aA z)] : List aK)) ev8.symm)) Z trivial (Nn ?_))); refine W.reg o5 Z (Sm 8 Z Z (Su Z (.ldP (lq 5 Z) Z .nil Z Z) (Ss Z (.buildSliceW sli22 zv49 Z Z (by decide) (.cons l0 Z (.refl _) (aH.fl v8) .nil)) ?_))); refine h2.b fun l9 m9 h2 => Sv (.sl 587 (.tok 2) (List.map aA l9)) [.dead, .cells (aA v8), .tail] Z (.appT sli22 und22 zv49 Z (by decide) (lq 2 Z) Z l0 Rd.sl m9 Z) Z Z trivial (Sa Z l0 (S.nil (blockQ_n ?_))); refine aC (W.reg o2 Z (Ss Z (.add (lq 14 Z) cI) (Sa Z l0 ?_))); exact Nn ⟨_, h2.ret, (Wk.selS [2] (by decide) Z (SelE.spec (lw 2 Z) Z (.refl _) (ren_sl aH _) (lt_sl Z (aH.ltm _ _)) (sl [0, 17, 18, 19] Z)) (.cons Z Z trivial .nil))⟩
    · refine AWp.exit (thenQ_x (thenQ_x (blockQ_x ?_))); exact aC ⟨_, h2.ret, (Wk.selS [0] (by decide) Z (SelE.spec (lw 1 Z) Z (.refl _) (ren_sl aH _) (lt_sl Z (aH.ltm _ _)) (sl [5] Z)) (.cons Z Z trivial .nil))⟩
  · refine aC (Wq o2 Z (Sa Z l0 (Sa Z l0 ?_))); refine Nn (AWp.ret ?_); obtain rfl := h.ret; exact e3 0 Z Z (.forget _ _ _) Z
theorem C_barrier_Start {a1 : YbrB} {a2 : List aB} {a3 : TPlan} {a4 : Int} {r : YbrB × Int} (h : barrier_Start a1 a2 a3 a4 = some r) : PureC Pg 10 [aI a1, .sl 587 .no (List.map aA a2), E_TPlan a3, (V.int .i64) a4] (.tup [aI r.1, (V.int .i64) r.2]) := by
  refine .c 55 fn10 Z Z Z ?_; replace h := Ok.of h; unfold barrier_Start at h; refine Wq o4 Z (Sv (.ptr 0 [] 0) [.cells (aI a1)] Z (.box l0 Z) Z Z trivial (Sv (.ptr 1 [] 0) [.cells (aI a1), .cells (E_TPlan a3)] Z (.box (lq 3 Z) Z) Z Z trivial (Sv (.ptr 2 [] 0) [.cells (aI a1), .cells (E_TPlan a3), .cells (z29)] Z (.alloc zv29) Z Z trivial ?_))); refine Sa Z cI (Nn (AWp.wk (Wk.freeze 0 Z Z (.cons (lw 3 Z) Z (.ptr .nil Z) (.l [0, 1, 2, 5, 7] Z)) (.refl _)) (AWp.wk (Wk.freeze 1 Z Z (.cons (lw 3 Z) Z (.ptr .nil Z) (.l [0, 1, 2, 4, 5] Z)) (.refl _)) ?_))); refine .seq (Wq o2 Z (Ss Z (.ldC (lq 1 Z) Z) (h.b fun r5 m5 h => ?_))); refine Ss Z (.cq (cr l0 .nil) (C_barrier_Pending m5) Z) (Nn (AWp.condM l0 h (fun c1 h => ?_) (fun c1 h => ?_)))
  · refine Wq o3 Z (h.n fun v6 ev6 h => Ss Z (.nv (.vs (v := z29) (v2 := aI (⟨0, 0, 0, 0, (default : TPlan), 0, 0, 0, ([] : List aB), ([] : List aB)⟩ : YbrB)) (.buildStW lay29 zv29 Z .nil) Z (.st (.cons (.refl _) (.cons (.refl _) (.cons (.refl _) (.cons (.refl _) (.cons (.refl _) (.cons (.refl _) (.cons (.refl _) (.cons (.refl _) (.cons (.nils_no _) (.cons (.nils_no _) .nil)))))))))))) (congrArg aI ev6.symm)) (Sn [.dead, .dead, .cells (aI v6)] Z Z (.sw (lq 6 Z) l0 Z Z Z) Z trivial (Sa Z cI ?_))); refine Nn (AWp.ret (aD (endF_wk (Wk.freeze 2 Z Z (.cons (lw 7 Z) Z (.ptr .nil Z) (.l [0, 0] Z)) (.refl _)) ?_))); obtain rfl := h.ret; exact endFN Z (Wk.z [0, 1] Z) (.cons (.cellC sz29 ag29 l0 (ty_YbrB.fl _) Z) (.cons (.tmp (lw 1 Z) Z) .nil)) Z Z Z
  · refine AWp.skip (aC (AWp.seq (Wq o4 Z ?_))); refine Sm 6 Z Z (Ss Z (.ldC (lq 3 Z) Z) (h.b fun r7 m7 h => Ss Z (.cq (cr (lq 1 Z) (cr l0 .nil)) (C_plan_Fits m7) Z) (Sa Z l0 ?_))); refine Nw o2 Z (Sa Z l0 (Ss Z (.neq l0 cI) (Nn ?_))); refine AWp.condM l0 h (fun c2 h => ?_) (fun c2 h => ?_)
    · refine Wq o4 Z (h.n fun v8 ev8 h => Ss Z (.nv (.vs (v := z29) (v2 := aI (⟨0, 0, 0, 0, (default : TPlan), 0, 0, 0, ([] : List aB), ([] : List aB)⟩ : YbrB)) (.buildStW lay29 zv29 Z .nil) Z (.st (.cons (.refl _) (.cons (.refl _) (.cons (.refl _) (.cons (.refl _) (.cons (.refl _) (.cons (.refl _) (.cons (.refl _) (.cons (.refl _) (.cons (.nils_no _) (.cons (.nils_no _) .nil)))))))))))) (congrArg aI ev8.symm)) (Sm 3 Z Z (Sn [.dead, .dead, .cells (aI v8)] Z Z (.sw (lq 13 Z) (lq 1 Z) Z Z Z) Z trivial ?_))); refine Sa Z l0 (Nn (Pr [0, 11, 12, 14, 15, 16] Z (AWp.ret ?_))); refine aD (endF_wk (Wk.freeze 2 Z Z (.cons (lw 3 Z) Z (.ptr .nil Z) (.l [0] Z)) (.refl _)) ?_); obtain rfl := h.ret; exact endFN Z (Wk.z [0, 1] Z) (.cons (.cellC sz29 ag29 l0 (ty_YbrB.fl _) Z) (.cons (.tmp (lw 1 Z) Z) .nil)) Z Z Z
    · refine AWp.skip (aC (Wq o1 Z (Sa Z cI ?_))); refine Nn (AWp.seq (Wq o3 Z (Sm 13 Z Z ?_))); refine Ss Z (.lenT sli22 l0 (vsub Z (.refl _))) (Sa Z cI (Nn (AWp.cutX (fun x11 => ⟨[(8, .ptr 0 [] 0), (11, I x11), (6, .cptr (E_TPlan a3)), (4, .cptr (aI a1)), (9, I 0), (1, .sl 587 .no (List.map aA a2)), (3, I a4)], [.cells (aI (⟨0, 0, 0, 0, (default : TPlan), 0, 0, 0, ([] : List aB), ([] : List aB)⟩ : YbrB))]⟩) nc_then h (fun q9 hq9 => ?_) (fun x11 h => ?_))))
      · refine AWp.block (AWp.loopT (fun s10 => ⟨[(8, .ptr 0 [] 0), (27, I s10.1), (26, I (a2.length : Int)), (25, .sl 587 .no (List.map aA a2)), (11, I s10.2), (6, .cptr (E_TPlan a3)), (4, .cptr (aI a1)), (9, I 0), (1, .sl 587 .no (List.map aA a2)), (3, I a4)], [.cells (aI (⟨0, 0, 0, 0, (default : TPlan), 0, 0, 0, ([] : List aB), ([] : List aB)⟩ : YbrB))]⟩) hq9 (Wk.selS [2] (by decide) Z (SelE.spec (lw 15 Z) Z (.refl _) Z Z (sl [0, 1, 2, 3, 12, 13, 14, 16, 17] Z)) (hc Z (.st (.cons (.refl _) (.cons (.refl _) (.cons (.refl _) (.cons (.refl _) (.cons (.refl _) (.cons (.refl _) (.cons (.refl _) (.cons (.refl _) (.cons (.nils_no _) (.cons (.nils_no _) .nil))))))))))) .nil)) (fun _ s10 h9 => ?_)); rw [barrier_Start_L1] at h9; refine Wq o1 Z (Ss Z (.lss (lq 1 Z) (lq 2 Z)) (Nn (AWp.seq ?_))); refine AWp.condM l0 h9 (fun c3 h9 => ?_) (fun c3 h9 => ?_)
        · refine AWp.skip (aC (AWp.seq (AWp.block ?_))); refine Wq o4 Z (h9.b fun j12 m12 h9 => Ss Z (.ixS sli22 (lq 4 Z) (lq 2 Z) m12) (h9.n fun v13 ev13 h9 => Ss Z (.nv (.ldC l0 Z) (congrArg aA ev13.symm)) (Sv (.ptr 1 [] 0) [.cells (aI (⟨0, 0, 0, 0, (default : TPlan), 0, 0, 0, ([] : List aB), ([] : List aB)⟩ : YbrB)), .cells (z49)] Z (.alloc zv49) Z Z trivial ?_))); refine Sn [.cells (aI (⟨0, 0, 0, 0, (default : TPlan), 0, 0, 0, ([] : List aB), ([] : List aB)⟩ : YbrB)), .cells (aA v13)] Z Z (.sw l0 (lq 1 Z) Z Z Z) Z trivial (Nn (AWp.wk (Wk.freeze 1 Z Z (.cons l0 Z (.ptr .nil Z) (.l [1, 2, 3, 4, 5, 6, 7, 8, 9, 10, 11, 12, 13] Z)) (.refl _)) (W.reg o6 Z ?_))); refine Sm 8 Z Z (Ss Z (.faC Z Z (lq 1 Z) Z) (Ss Z (.ldC l0 Z) (Ss Z (.add l0 cI) ?_))); refine Ss Z (.bmax (lq 3 Z) l0) (h9.n fun v14 ev14 h9 => Ss Z (.nv (.assign l0) (congrArg I ev14.symm)) (S.nil (blockQ_n ?_))); refine aC (W.reg o2 Z (Ss Z (.add (lq 11 Z) cI) (Sa Z l0 ?_))); exact Nn ⟨_, h9.ret, (Wk.selS [0] (by decide) Z (SelE.spec (lw 12 Z) Z (.refl _) Z Z (sl [0, 14, 15, 2, 17, 18, 19, 20, 21] Z)) (hc Z (.refl _) .nil))⟩
        · refine AWp.exit (thenQ_x (thenQ_x (blockQ_x ?_))); exact aC ⟨_, h9.ret, (Wk.selS [0] (by decide) Z (SelE.spec (lw 1 Z) Z (.refl _) Z Z (sl [5, 6, 7, 8, 9, 10] Z)) (hc Z (.refl _) .nil))⟩
      · refine aC (AWp.seq (Wq o2 Z (Sm 1 Z Z ?_))); refine Ss Z (.gtr l0 cI) (Nn (AWp.condM l0 h (fun c4 h => ?_) (fun c4 h => ?_)))
        · refine Wq o3 Z (h.n fun v15 ev15 h => Ss Z (.nv (.vs (v := z29) (v2 := aI (⟨0, 0, 0, 0, (default : TPlan), 0, 0, 0, ([] : List aB), ([] : List aB)⟩ : YbrB)) (.buildStW lay29 zv29 Z .nil) Z (.st (.cons (.refl _) (.cons (.refl _) (.cons (.refl _) (.cons (.refl _) (.cons (.refl _) (.cons (.refl _) (.cons (.refl _) (.cons (.refl _) (.cons (.nils_no _) (.cons (.nils_no _) .nil)))))))))))) (congrArg aI ev15.symm)) (Sn [.cells (aI v15)] Z Z (.sw (lq 3 Z) l0 Z Z Z) Z trivial (Sa Z cI ?_))); refine Nn (AWp.ret (aD (endF_wk (Wk.freeze 0 Z Z (.cons (lw 4 Z) Z (.ptr .nil Z) (.l [0, 0] Z)) (.refl _)) ?_))); obtain rfl := h.ret; exact endFN Z (Wk.z [0, 1] Z) (.cons (.cellC sz29 ag29 l0 (ty_YbrB.fl _) Z) (.cons (.tmp (lw 1 Z) Z) .nil)) Z Z Z
        · refine AWp.skip (aC (Wq o5 Z (Sm 7 Z Z ?_))); refine h.b fun l16 m16 h => Sv (.slo 587 1 [] 0 0 l16.length 1) [.cells (aI (⟨0, 0, 0, 0, (default : TPlan), 0, 0, 0, ([] : List aB), ([] : List aB)⟩ : YbrB)), .buf 587 (List.map aA l16)] Z (.callN ent27 cF [] (C_cloneO_27 m16) .nil .nil (aG (ty_S_TField.lt _ _) ltL_nil) (.c l0 (vsubr (V.sub.refl _) (ty_S_TField.lt _ 0)) .nil) Z (mapc (ren_buf aH _) Z) Z) Z Z trivial (Ss Z (.makeFunc Z (mapE1 (lq 6 Z)) Z Z) (h.b fun r17 m17 h => Sv (.slo 587 1 [] 0 0 r17.1 1) [.cells (aI (⟨0, 0, 0, 0, (default : TPlan), 0, 0, 0, ([] : List aB), ([] : List aB)⟩ : YbrB)), .buf 587 (List.map aA r17.2)] Z (.callH ent26 cF [1] (C_slices_DeleteFunc_Field_Start_1 m17) (by decide) (hb Z .nil) (aG Z (aG (lt_fn ltL_nil (aG (lt_cptr (ty_TPlan.lt _ _)) ltL_nil)) ltL_nil)) (.c (lq 1 Z) (subren (congrArg (fun n => V.slo 587 1 [] 0 0 n 1) (by first | rfl | simp))) (.c l0 (vsubr (V.sub.refl _) (lt_fn ltL_nil (aG (lt_cptr (ty_TPlan.lt _ _)) ltL_nil))) .nil)) Z (mapc (ren_buf aH _) Z) Z) Z Z trivial (Sa Z l0 ?_))); refine Nn (AWp.seq (W.regD o13 mixed (Ss Z (.faC Z Z (lq 10 Z) Z) ?_))); refine Ss Z (.ldC l0 Z) (Ss Z (.faC Z Z (lq 12 Z) Z) (Ss Z (.ldC l0 Z) (Ss Z (.add l0 cI) ?_))); refine Sm 13 Z Z (Ss Z (.ldC (lq 15 Z) Z) (Sm 20 Z Z (Sm 8 Z Z ?_))); refine h.b fun u18 m18 h => h.b fun r19 m19 h => Sv (.sl 587 .no (List.map aA r19)) [.cells (aI (⟨0, 0, 0, 0, (default : TPlan), 0, 0, 0, ([] : List aB), ([] : List aB)⟩ : YbrB)), .dead] Z (.fz 1 52 Z Z l0 Z (.sloQ (prek_get m18)) (.cq (cr l0 .nil) (C_barrier_own m19) Z)) Z Z trivial (h.n fun v20 ev20 h => Ss Z (.nv (.vs (v := .st [I a1.N, I 1, I (wr .i64 (a1.Number + 1)), I x11, E_TPlan a3, I a4, I 1, I 1, .sl 587 .no (List.map aA r19), .nils]) (v2 := aI (⟨a1.N, 1, (wr .i64 (a1.Number + 1)), x11, a3, a4, 1, 1, r19, ([] : List aB)⟩ : YbrB)) (.buildStW lay29 zv29 Z (.cons (lq 8 Z) Z Z Z Z (.cons cI Z Z Z Z (.cons (lq 5 Z) Z Z Z Z (.cons (lq 4 Z) Z Z Z Z (.cons (lq 3 Z) Z Z (ty_TPlan.fl a3) Z (.cons (lq 2 Z) Z Z Z Z (.cons cI Z Z Z Z (.cons cI Z Z Z Z (.cons l0 Z Z Z Z .nil)))))))))) Z (.st (.cons (.refl _) (.cons (.refl _) (.cons (.refl _) (.cons (.refl _) (.cons (.refl _) (.cons (.refl _) (.cons (.refl _) (.cons (.refl _) (.cons (.refl _) (.cons (.nils_no _) .nil)))))))))))) (congrArg aI ev20.symm)) (Sn [.cells (aI v20), .dead] Z Z (.sw (lq 18 Z) l0 Z Z Z) Z trivial (Sa Z cI ?_))); refine S.nilD (by kernel_rfl) (aC (Pr [0, 19] Z (AWp.ret ?_))); refine endF_wk (Wk.freeze 0 Z Z (.cons (lw 1 Z) Z (.ptr .nil Z) (.l [0] Z)) (.refl _)) ?_; obtain rfl := h.ret; exact endFN Z (Wk.z [0, 1] Z) (.cons (.cellC sz29 ag29 l0 (ty_YbrB.fl _) Z) (.cons (.tmp (lw 1 Z) Z) .nil)) Z Z Z
theorem C_barrier_Barrier_other {a1 : YbrB} {a2 : Int} {r : Bool} (h : barrier_Barrier_other a1 a2 = some r) : PureC Pg 35 [aI a1, (V.int .i64) a2] (V.bool r) := by
  refine .c 17 fn35 Z Z Z ?_; replace h := Ok.of h; unfold barrier_Barrier_other at h; refine Wq o2 Z (Sv (.ptr 0 [] 0) [.cells (aI a1)] Z (.box l0 Z) Z Z trivial (Sa Z cB (Nn ?_))); refine AWp.wk (Wk.freeze 0 Z Z (.cons (lw 1 Z) Z (.ptr .nil Z) (.l [0, 3] Z)) (.refl _)) (Wq o13 Z (Sm 2 Z Z (Ss Z (.geq l0 cI) ?_))); refine Sa Z l0 (Sg Z l0 (.move (lq 5 Z)) (Sg Z (lq 1 Z) (.faC Z Z (lq 4 Z) Z) (Sj Z (lq 2 Z) (fun hB => .ldC (i0 hB) Z) ?_))); refine Sj Z (lq 3 Z) (fun hB => .lss (ifT hB (lq 2 Z)) (i0 hB)) (Ss Z (.pickAnd (lq 4 Z) i0 cB) (Sa Z l0 (Sg Z l0 (.move (lq 11 Z)) ?_))); refine Sj Z (lq 1 Z) (fun hB => .lss (i0 hB) cI) (Ss Z (.pickAnd (lq 2 Z) i0 cB) (h.n fun v3 ev3 h => Ss Z (.nv (.assign l0) (congrArg V.bool ev3.symm)) (Nn ?_))); refine Pr [0] Z (AWp.ret ?_); obtain rfl := h.ret; exact e2 0 Z Z
theorem C_barrier_own_own {a1 : List aB} {r : (List aB)} (h : barrier_own_own a1 = some r) : CallSpec Pg 30 [.sl 587 .no (List.map aA a1)] [] fun o H' => o = .ret (.slo 587 0 [] 0 0 r.length 1) ∧ H' = [.buf 587 (List.map aA r)] := by
  refine CallSpec.of_bodyF 22 0 fn30 Z Z Z (Nat.le_of_ble_eq_true Z) ?_; replace h := Ok.of h; unfold barrier_own_own at h; refine Wq o1 Z (Sa Z cNs (Nw o1 Z (Sa Z cNs ?_))); refine Nn (AWp.seq (Wq o3 Z (Sm 2 Z Z ?_))); refine Ss Z (.lenT sli22 l0 (vsub Z (.refl _))) (Sa Z cI (Nn (AWp.wk (Wk.nilbuf 587 (lw 3 Z)) ?_))); refine AWp.cutX (fun x4 => ⟨[(3, .slo 587 0 [] 0 0 x4.length 1), (2, .nils)], [.buf 587 (List.map aA x4)]⟩) nc_then h (fun q2 hq2 => ?_) (fun x4 h => ?_)
  · refine AWp.block (AWp.loopT (fun s3 => ⟨[(3, .slo 587 0 [] 0 0 s3.1.length 1), (8, I s3.2), (7, I (a1.length : Int)), (6, .sl 587 .no (List.map aA a1)), (2, .nils)], [.buf 587 (List.map aA s3.1)]⟩) hq2 (Wk.selS [0] (by decide) Z (SelE.spec l0 Z (.slo (by first | rfl | simp)) Z Z (sl [1, 2, 3, 5] Z)) (.cons (lt_buf aH) Z (ASub.refl _) .nil)) (fun _ s3 h2 => ?_)); rw [barrier_own_own_L1] at h2; refine Wq o1 Z (Ss Z (.lss (lq 1 Z) (lq 2 Z)) (Nn (AWp.seq ?_))); refine AWp.condM l0 h2 (fun c1 h2 => ?_) (fun c1 h2 => ?_)
    · refine AWp.skip (aC (AWp.seq (AWp.block ?_))); refine Wq o4 Z (h2.b fun j5 m5 h2 => Ss Z (.ixS sli22 (lq 4 Z) (lq 2 Z) m5) (h2.n fun v6 ev6 h2 => Ss Z (.nv (.ldC l0 Z) (congrArg aA ev6.symm)) (Sv (.ptr 1 [] 0) [.buf 587 (List.map aA s3.1), .cells (z49)] Z (.alloc zv49) Z Z trivial ?_))); refine Sn [.buf 587 (List.map aA s3.1), .cells (aA v6)] Z Z (.sw l0 (lq 1 Z) Z Z Z) Z trivial (Nw o5 Z (Ss Z (.fieldAddr lay49 Z Z l0) (Su Z (.ldP l0 Z (.f Z .nil) Z Z) ?_))); refine h2.b fun r7 m7 h2 => Ss Z (.cq (cr l0 .nil) (C_clone_65 m7) Z) (Ss Z (.fieldAddr lay49 Z Z (lq 3 Z)) (h2.n fun v8 ev8 h2 => Sn [.buf 587 (List.map aA s3.1), .cells (aA v8)] Z Z (.sP l0 (lq 1 Z) Z (.refl _) Z (.f Z .nil) Z (.st Z .nil Z) (congrArg (fun z => ([.buf 587 (List.map aA s3.1), aK.cells (aA z)] : List aK)) ev8.symm)) Z trivial (Nn ?_))); refine W.reg o5 Z (Sm 8 Z Z (Su Z (.ldP (lq 5 Z) Z .nil Z Z) (Ss Z (.buildSliceW sli22 zv49 Z Z (by decide) (.cons l0 Z (.refl _) (aH.fl v8) .nil)) ?_))); refine h2.b fun l9 m9 h2 => Sv (.slo 587 2 [] 0 0 l9.length 1) [.dead, .cells (aA v8), .buf 587 (List.map aA l9)] Z (.appOwnT sli22 und22 zv49 Z (by decide) (lq 2 Z) Z (by first | rfl | simp) l0 Rd.sl m9 Z) Z Z trivial (Sa Z l0 (S.nil (blockQ_n ?_))); refine aC (W.reg o2 Z (Ss Z (.add (lq 14 Z) cI) (Sa Z l0 ?_))); exact Nn ⟨_, h2.ret, (Wk.selS [2] (by decide) Z (SelE.spec (lw 2 Z) Z (.slo (by first | rfl | simp)) Z Z (sl [0, 17, 18, 19] Z)) (hb Z .nil))⟩
    · refine AWp.exit (thenQ_x (thenQ_x (blockQ_x ?_))); exact aC ⟨_, h2.ret, (Wk.selS [0] (by decide) Z (SelE.spec (lw 1 Z) Z (.slo (by first | rfl | simp)) Z Z (sl [5] Z)) (hb Z .nil))⟩
  · refine aC (Wq o2 Z (Sa Z l0 (Sa Z l0 ?_))); refine Nn (AWp.ret ?_); obtain rfl := h.ret; exact endF1 Z (Wk.selS [0] (by decide) Z (SelE.spec (v := .slo 587 0 [] 0 0 x4.length 1) l0 Z (.slo (by first | rfl | simp)) Z Z .nil) (hb Z .nil)) (.tmp l0 Z) Z Z
theorem C_barrier_copied_own {a1 : YbrB} {r : YbrB} (h : barrier_copied_own a1 = some r) : CallSpec Pg 36 [aI a1] [] fun o H' => o = .ret (.st [(V.int .i64) r.N, (V.int .i64) r.State, (V.int .i64) r.Number, (V.int .i64) r.Epoch, E_TPlan r.Plan, (V.int .i64) r.Due, (V.int .i64) r.Acked, (V.int .i64) r.Told, .slo 587 0 [] 0 0 r.Joined.length 1, .slo 587 1 [] 0 0 r.Made.length 1]) ∧ H' = [.buf 587 (List.map aA r.Joined), .buf 587 (List.map aA r.Made)] := by
  refine CallSpec.of_bodyF 12 0 fn36 Z Z Z (Nat.le_of_ble_eq_true Z) ?_; replace h := Ok.of h; unfold barrier_copied_own at h; refine Wq o2 Z (Sv (.ptr 0 [] 0) [.cells (aI a1)] Z (.box l0 Z) Z Z trivial (Sv (.ptr 1 [] 0) [.cells (aI a1), .cells (z29)] Z (.alloc zv29) Z Z trivial (Nn ?_))); refine .seq (W.regD [0, 1, 3, 4, 2, 5, 6, 7, 8, 9] mixed (Ss Z (.fieldAddr lay29 Z Z (lq 1 Z)) (Su Z (.ldP l0 Z (.f Z .nil) Z Z) ?_))); refine Ss Z (.fieldAddr lay29 Z Z (lq 3 Z)) (Su Z (.ldP l0 Z (.f Z .nil) Z Z) (h.b fun r2 m2 h => S.new 5 Z Z (.nv (v2 := .slo 587 2 [] 0 0 r2.length 1) (.callN ent30 cF [] (C_barrier_own_own m2) .nil .nil (aG (ty_S_TField.lt _ _) ltL_nil) (.c (lq 2 Z) (vsubr (V.sub.refl _) (ty_S_TField.lt _ 0)) .nil) Z (mapc (ren_buf aH _) Z) Z) Z) trivial (h.b fun r3 m3 h => ?_))); refine S.new 8 Z Z (.nv (v2 := .slo 587 3 [] 0 0 r3.length 1) (.callN ent30 cF [] (C_barrier_own_own m3) .nil .nil (aG (ty_S_TField.lt _ _) ltL_nil) (.c (lq 1 Z) (vsubr (V.sub.refl _) (ty_S_TField.lt _ 0)) .nil) Z (mapc (ren_buf aH _) Z) Z) Z) trivial (Ss Z (.fieldAddr lay29 Z Z (lq 7 Z)) (Sn [.cells (.st [I a1.N, I a1.State, I a1.Number, I a1.Epoch, E_TPlan a1.Plan, I a1.Due, I a1.Acked, I a1.Told, .slo 587 2 [] 0 0 r2.length 1, E_S_TField a1.Made]), .cells (z29), .buf 587 (List.map aA r2), .buf 587 (List.map aA r3)] Z Z (.sP l0 (lq 2 Z) Z (.refl _) Z (.f Z .nil) Z (.st Z .nil Z) Z) Z trivial (Ss Z (.fieldAddr lay29 Z Z (lq 8 Z)) ?_))); refine Sn [.cells (.st [I a1.N, I a1.State, I a1.Number, I a1.Epoch, E_TPlan a1.Plan, I a1.Due, I a1.Acked, I a1.Told, .slo 587 2 [] 0 0 r2.length 1, .slo 587 3 [] 0 0 r3.length 1]), .cells (z29), .buf 587 (List.map aA r2), .buf 587 (List.map aA r3)] Z Z (.sP l0 (lq 2 Z) Z (.refl _) Z (.f Z .nil) Z (.st Z .nil Z) Z) Z trivial (S.nilD (by kernel_rfl) (aC (Wq o2 Z ?_))); refine Su Z (.ldP (lq 9 Z) Z .nil Z Z) (Sn [.cells (.st [I a1.N, I a1.State, I a1.Number, I a1.Epoch, E_TPlan a1.Plan, I a1.Due, I a1.Acked, I a1.Told, .slo 587 2 [] 0 0 r2.length 1, .slo 587 3 [] 0 0 r3.length 1]), .cells (.st [I a1.N, I a1.State, I a1.Number, I a1.Epoch, E_TPlan a1.Plan, I a1.Due, I a1.Acked, I a1.Told, .slo 587 2 [] 0 0 r2.length 1, .slo 587 3 [] 0 0 r3.length 1]), .buf 587 (List.map aA r2), .buf 587 (List.map aA r3)] Z Z (.sw (lq 9 Z) l0 Z Z Z) Z trivial (Nn (Pr [9] Z ?_))); refine AWp.ret (endF_wk (Wk.freeze 1 Z Z (.cons l0 Z (.ptr .nil Z) .nil) (.refl _)) ?_); obtain rfl := h.ret; exact endF1 Z (Wk.selS [2, 3] (by decide) Z (SelE.spec l0 Z (.cptr (.st (.cons (.refl _) (.cons (.refl _) (.cons (.refl _) (.cons (.refl _) (.cons (.refl _) (.cons (.refl _) (.cons (.refl _) (.cons (.refl _) (.cons (.slo (by first | rfl | simp)) (.cons (.slo (by first | rfl | simp)) .nil)))))))))))) (ren_cptr Z) (lt_cptr (lt_st (aG ((aM.int .i64).lt _ _) (aG ((aM.int .i64).lt _ _) (aG ((aM.int .i64).lt _ _) (aG ((aM.int .i64).lt _ _) (aG (ty_TPlan.lt _ _) (aG ((aM.int .i64).lt _ _) (aG ((aM.int .i64).lt _ _) (aG ((aM.int .i64).lt _ _) (aG Z (aG Z ltL_nil)))))))))))) .nil) (hb Z (hb Z .nil))) (.cellC sz29 ag29 l0 (fl_st (flL_c (show flen _ = 1 from Z) (flL_c (show flen _ = 1 from Z) (flL_c (show flen _ = 1 from Z) (flL_c (show flen _ = 1 from Z) (flL_c (ty_TPlan.fl a1.Plan) (flL_c (show flen _ = 1 from Z) (flL_c (show flen _ = 1 from Z) (flL_c (show flen _ = 1 from Z) (flL_c (show flen _ = 1 from Z) (flL_c (show flen _ = 1 from Z) flL_nil))))))))))) Z) Z Z
theorem C_vec_Join {a1 : Vector Int 16} {a2 : Vector Int 16} {r : (Vector Int 16)} (h : vec_Join a1 a2 = some r) : PureC Pg 120 [E_A16_i64 a1, E_A16_i64 a2] (E_A16_i64 r) := by
  refine .c 20 fn120 Z Z Z ?_; replace h := Ok.of h; unfold vec_Join at h; refine Wq o3 Z (Sv (.ptr 0 [] 0) [.cells (E_A16_i64 a1)] Z (.box l0 Z) Z Z trivial (Sv (.ptr 1 [] 0) [.cells (E_A16_i64 a1), .cells (E_A16_i64 a2)] Z (.box (lq 2 Z) Z) Z Z trivial (Sv (.ptr 2 [] 0) [.cells (E_A16_i64 a1), .cells (E_A16_i64 a2), .cells (E_A16_i64 (default : Vector Int 16))] Z (.alloc zv39) Z Z trivial ?_))); refine Nn (AWp.wk (Wk.freeze 1 Z Z (.cons (lw 1 Z) Z (.ptr .nil Z) (.l [0, 2] Z)) (.refl _)) (AWp.seq (Wq o1 Z ?_))); refine Sa Z cI (Nn (AWp.cutX (fun x5 => ⟨[(4, .ptr 0 [] 0), (2, .ptr 1 [] 0)], [.cells (E_A16_i64 (default : Vector Int 16)), .cells (E_A16_i64 x5)]⟩) nc_then h (fun q3 hq3 => ?_) (fun x5 h => ?_)))
  · refine AWp.block (AWp.loopT (fun s4 => ⟨[(4, .ptr 0 [] 0), (2, .ptr 1 [] 0), (6, I s4.1), (3, .cptr (E_A16_i64 a2))], [.cells (E_A16_i64 (default : Vector Int 16)), .cells (E_A16_i64 s4.2)]⟩) hq3 (Wk.selS [2, 0] (by decide) Z (SelE.spec (lw 2 Z) Z (.refl _) Z Z (SelE.spec (lw 3 Z) Z (.refl _) Z Z (sl [0, 1] Z))) (hc Z (.refl _) (hc Z (.refl _) .nil))) (fun _ s4 h3 => ?_)); rw [vec_Join_L1] at h3; refine Wq o1 Z (Ss Z (.lss (lq 2 Z) cI) (Nn (AWp.seq ?_))); refine AWp.condM l0 h3 (fun c1 h3 => ?_) (fun c1 h3 => ?_)
    · refine AWp.skip (aC (AWp.seq (AWp.block ?_))); refine Wq o2 Z (Sm 3 Z Z (Sa Z l0 (Nn ?_))); refine W.regD o10 mixed (Sa Z l0 (Sm 1 Z Z (h3.b fun k6 m6 h3 => ?_))); refine Ss Z (.ixP arr39 (lq 6 Z) l0 m6) (Su Z (.ldP l0 Z (.vc k6 .nil) (by first | rfl | omega) Z) (Sm 4 Z Z (h3.b fun k7 m7 h3 => ?_))); refine Ss Z (.ixC arr39 (lq 11 Z) l0 m7) (Ss Z (.ldC l0 Z) (Ss Z (.bmax (lq 3 Z) l0) (h3.b fun k8 m8 h3 => ?_))); refine Ss Z (.ixP arr39 (lq 12 Z) (lq 7 Z) m8) (h3.n fun v9 ev9 h3 => Sn [.cells (E_A16_i64 (default : Vector Int 16)), .cells (E_A16_i64 v9)] Z Z (.sP l0 (lq 1 Z) Z (.refl _) Z (.vc k8 .nil) (by first | rfl | omega) (.vc (max (s4.2.get k6) (a2.get k7)) k8 .nil) (congrArg (fun z => ([.cells (E_A16_i64 (default : Vector Int 16)), aK.cells (E_A16_i64 z)] : List aK)) ev9.symm)) Z trivial (S.nilD (by kernel_rfl) (blockQ_n ?_))); refine aC (W.reg o2 Z (Ss Z (.add (lq 14 Z) cI) (Sa Z l0 ?_))); exact Nn ⟨_, h3.ret, (Wk.selS [0, 1] (by decide) Z (SelE.spec (lw 14 Z) Z (.refl _) Z Z (SelE.spec (lw 15 Z) Z (.refl _) Z Z (sl [0, 17] Z))) (hc Z (.refl _) (hc Z (.refl _) .nil)))⟩
    · refine AWp.exit (thenQ_x (thenQ_x (blockQ_x ?_))); exact aC ⟨_, h3.ret, (Wk.selS [0, 1] (by decide) Z (SelE.spec (lw 1 Z) Z (.refl _) Z Z (SelE.spec (lw 2 Z) Z (.refl _) Z Z .nil)) (hc Z (.refl _) (hc Z (.refl _) .nil)))⟩
  · refine aC (Wq o2 Z (Su Z (.ldP (lq 1 Z) Z .nil Z Z) (Sn [.cells (E_A16_i64 x5), .cells (E_A16_i64 x5)] Z Z (.sw (lq 1 Z) l0 Z Z Z) Z trivial ?_))); refine Nn (AWp.ret (endF_wk (Wk.freeze 0 Z Z (.cons (lw 1 Z) Z (.ptr .nil Z) .nil) (.refl _)) ?_)); obtain rfl := h.ret; exact endF1 Z (Wk.z [0] Z) (.cellC sz39 ag39 l0 (ty_A16_i64.fl _) Z) Z Z
theorem C_rights_Join_1 {a2 : Vector Int 16} {b1 : TRights} {r : TRights} (h : rights_Join_1 a2 b1 = some r) : CallSpec Pg 119 [.ptr 0 [0] 0, E_A16_i64 a2] [.cells (E_TRights b1)] fun o H' => o = .ret (.tup []) ∧ H' = [.cells (E_TRights r)] := by
  refine CallSpec.of_bodyF 11 1 fn119 Z Z Z (Nat.le_of_ble_eq_true Z) ?_; replace h := Ok.of h; unfold rights_Join_1 at h; refine Wq o1 Z (Sv (.ptr 1 [] 0) [.cells (E_TRights b1), .cells (E_A16_i64 a2)] Z (.box (lq 1 Z) Z) Z Z trivial (Nn (AWp.wk (Wk.freeze 1 Z Z (.cons l0 Z (.ptr .nil Z) (.l [1] Z)) (.refl _)) ?_))); refine W.regD o8 mixed (Sm 1 Z Z (Sm 2 Z Z (Ss Z (.nilCheck l0 Z) ?_))); refine Su Z (.ldP l0 Z (.f Z .nil) Z Z) (Ss Z (.ldC (lq 4 Z) Z) (h.b fun r3 m3 h => Ss Z (.cq (cr (lq 1 Z) (cr l0 .nil)) (C_vec_Join m3) Z) (Ss Z (.nilCheck (lq 5 Z) Z) ?_))); refine h.n fun v4 ev4 h => Sn [.cells (E_TRights v4), .dead] Z Z (.sP l0 (lq 1 Z) Z (.refl _) Z (.f Z .nil) Z (.st Z .nil Z) (congrArg (fun z => ([aK.cells (E_TRights z), .dead] : List aK)) ev4.symm)) Z trivial (S.nilD (by kernel_rfl) (endF_n ?_)); obtain rfl := h.ret; exact endFN Z (Wk.selS [0] (by decide) Z .nil (hc Z (.refl _) .nil)) .nil Z Z Z
theorem C_rights_Join_1_2 {a2 : Vector Int 16} {b1 : TRights} {r : TRights} (h : rights_Join_1_2 a2 b1 = some r) : CallSpec Pg 119 [.ptr 0 [1] 16, E_A16_i64 a2] [.cells (E_TRights b1)] fun o H' => o = .ret (.tup []) ∧ H' = [.cells (E_TRights r)] := by
  refine CallSpec.of_bodyF 11 1 fn119 Z Z Z (Nat.le_of_ble_eq_true Z) ?_; replace h := Ok.of h; unfold rights_Join_1_2 at h; refine Wq o1 Z (Sv (.ptr 1 [] 0) [.cells (E_TRights b1), .cells (E_A16_i64 a2)] Z (.box (lq 1 Z) Z) Z Z trivial (Nn (AWp.wk (Wk.freeze 1 Z Z (.cons l0 Z (.ptr .nil Z) (.l [1] Z)) (.refl _)) ?_))); refine W.regD o8 mixed (Sm 1 Z Z (Sm 2 Z Z (Ss Z (.nilCheck l0 Z) ?_))); refine Su Z (.ldP l0 Z (.f Z .nil) Z Z) (Ss Z (.ldC (lq 4 Z) Z) (h.b fun r3 m3 h => Ss Z (.cq (cr (lq 1 Z) (cr l0 .nil)) (C_vec_Join m3) Z) (Ss Z (.nilCheck (lq 5 Z) Z) ?_))); refine h.n fun v4 ev4 h => Sn [.cells (E_TRights v4), .dead] Z Z (.sP l0 (lq 1 Z) Z (.refl _) Z (.f Z .nil) Z (.st Z .nil Z) (congrArg (fun z => ([aK.cells (E_TRights z), .dead] : List aK)) ev4.symm)) Z trivial (S.nilD (by kernel_rfl) (endF_n ?_)); obtain rfl := h.ret; exact endFN Z (Wk.selS [0] (by decide) Z .nil (hc Z (.refl _) .nil)) .nil Z Z Z
theorem C_rights_Join_1_3 {k2 : Fin 16} {a3 : Vector Int 16} {b1 : TRights} {r : TRights} (h : rights_Join_1_3 k2 a3 b1 = some r) : CallSpec Pg 119 [.ptr 0 [2, k2.val] (32 + k2.val * 16), E_A16_i64 a3] [.cells (E_TRights b1)] fun o H' => o = .ret (.tup []) ∧ H' = [.cells (E_TRights r)] := by
  refine CallSpec.of_bodyF 11 1 fn119 Z Z Z (Nat.le_of_ble_eq_true Z) ?_; replace h := Ok.of h; unfold rights_Join_1_3 at h; refine Wq o1 Z (Sv (.ptr 1 [] 0) [.cells (E_TRights b1), .cells (E_A16_i64 a3)] Z (.box (lq 1 Z) Z) Z Z trivial (Nn (AWp.wk (Wk.freeze 1 Z Z (.cons l0 Z (.ptr .nil Z) (.l [1] Z)) (.refl _)) ?_))); refine W.regD o8 mixed (Sm 1 Z Z (Sm 2 Z Z (Ss Z (.nilCheck l0 Z) ?_))); refine h.n fun v4 ev4 h => Su Z (.nv (.ldP l0 Z (.f Z (.vc k2 .nil)) (by first | rfl | omega) Z) (congrArg E_A16_i64 ev4.symm)) (Ss Z (.ldC (lq 4 Z) Z) (h.b fun r5 m5 h => Ss Z (.cq (cr (lq 1 Z) (cr l0 .nil)) (C_vec_Join m5) Z) (Ss Z (.nilCheck (lq 5 Z) Z) ?_))); refine h.n fun v6 ev6 h => Sn [.cells (E_TRights v6), .dead] Z Z (.sP l0 (lq 1 Z) Z (.refl _) Z (.f Z (.vc k2 .nil)) (by first | rfl | omega) (.st Z (.vc r5 k2 .nil) Z) (congrArg (fun z => ([aK.cells (E_TRights z), .dead] : List aK)) ev6.symm)) Z trivial (S.nilD (by kernel_rfl) (endF_n ?_)); obtain rfl := h.ret; exact endFN Z (Wk.selS [0] (by decide) Z .nil (hc Z (.refl _) .nil)) .nil Z Z Z
theorem C_rights_Join {a1 : TRights} {a2 : TRights} {r : TRights} (h : rights_Join a1 a2 = some r) : PureC Pg 89 [E_TRights a1, E_TRights a2] (E_TRights r) := by
  refine .c 31 fn89 Z Z Z ?_; replace h := Ok.of h; unfold rights_Join at h; refine Wq o3 Z (Sv (.ptr 0 [] 0) [.cells (E_TRights a1)] Z (.box l0 Z) Z Z trivial (Sv (.ptr 1 [] 0) [.cells (E_TRights a1), .cells (E_TRights a2)] Z (.box (lq 2 Z) Z) Z Z trivial (Sv (.ptr 2 [] 0) [.cells (E_TRights a1), .cells (E_TRights a2), .cells (E_TRights (default : TRights))] Z (.alloc zv42) Z Z trivial ?_))); refine Nn (AWp.wk (Wk.freeze 1 Z Z (.cons (lw 1 Z) Z (.ptr .nil Z) (.l [0, 2] Z)) (.refl _)) (Wq o1 Z (Sa Z cF ?_))); refine Nw o5 Z (Sa Z l0 (Ss Z (.fieldAddr lay42 Z Z (lq 4 Z)) (Ss Z (.faC Z Z (lq 3 Z) Z) ?_))); refine Ss Z (.ldC l0 Z) (h.b fun r3 m3 h => Se Z (.nf (H2 := [.cells (E_TRights r3), .dead, .cells (E_TRights (default : TRights))]) (.callH ent119 (lq 3 Z) [0] (C_rights_Join_1 m3) (by decide) (hc Z (.refl _) .nil) (aG Z (aG (ty_A16_i64.lt _ _) ltL_nil)) (.c (lq 2 Z) (subren Z) (.c l0 (vsubr (V.sub.refl _) (ty_A16_i64.lt _ _)) .nil)) (ren_tup Z) (mapc (ren_cells (ty_TRights.cl _ _)) Z) Z) Z Z) trivial (Nw o5 Z (Sm 5 Z Z ?_))); refine Ss Z (.fieldAddr lay42 Z Z (lq 9 Z)) (Ss Z (.faC Z Z (lq 8 Z) Z) (Ss Z (.ldC l0 Z) (h.b fun r4 m4 h => ?_))); refine Se Z (.nf (H2 := [.cells (E_TRights r4), .dead, .cells (E_TRights (default : TRights))]) (.callH ent119 (lq 3 Z) [0] (C_rights_Join_1_2 m4) (by decide) (hc Z (.refl _) .nil) (aG Z (aG (ty_A16_i64.lt _ _) ltL_nil)) (.c (lq 2 Z) (subren Z) (.c l0 (vsubr (V.sub.refl _) (ty_A16_i64.lt _ _)) .nil)) (ren_tup Z) (mapc (ren_cells (ty_TRights.cl _ _)) Z) Z) Z Z) trivial (Nn (Pr [10, 11, 12, 13] Z (AWp.seq ?_))); refine Wq o1 Z (Sa Z cI (Nn (AWp.cutX (fun x7 => ⟨[(4, .ptr 0 [] 0), (2, .ptr 1 [] 0)], [.cells (E_TRights (default : TRights)), .cells (E_TRights x7)]⟩) nc_then h (fun q5 hq5 => ?_) (fun x7 h => ?_))))
  · refine AWp.block (AWp.loopT (fun s6 => ⟨[(4, .ptr 0 [] 0), (2, .ptr 1 [] 0), (17, I s6.1), (5, .fn 119 [] []), (3, .cptr (E_TRights a2))], [.cells (E_TRights (default : TRights)), .cells (E_TRights s6.2)]⟩) hq5 (Wk.selS [2, 0] (by decide) Z (SelE.spec (lw 3 Z) Z (.refl _) Z Z (SelE.spec (lw 4 Z) Z (.refl _) Z Z (sl [0, 1, 2] Z))) (hc Z (.refl _) (hc Z (.refl _) .nil))) (fun _ s6 h5 => ?_)); rw [rights_Join_L1] at h5; refine Wq o1 Z (Ss Z (.lss (lq 2 Z) cI) (Nn (AWp.seq ?_))); refine AWp.condM l0 h5 (fun c1 h5 => ?_) (fun c1 h5 => ?_)
    · refine AWp.skip (aC (AWp.seq (AWp.block ?_))); refine Wq o2 Z (Sm 3 Z Z (Sa Z l0 (Nn ?_))); refine W.regD o9 mixed (Sm 6 Z Z (Sm 1 Z Z (Ss Z (.fieldAddr lay42 Z Z (lq 6 Z)) ?_))); refine h5.b fun k8 m8 h5 => Ss Z (.ixP arr40 l0 (lq 1 Z) m8) (Sm 4 Z Z (Ss Z (.faC Z Z (lq 12 Z) Z) (h5.b fun k9 m9 h5 => ?_))); refine Ss Z (.ixC arr40 l0 (lq 1 Z) m9) (h5.n fun v10 ev10 h5 => Ss Z (.nv (.ldC l0 Z) (congrArg E_A16_i64 ev10.symm)) (h5.b fun r11 m11 h5 => Se Z (.nf (H2 := [.cells (E_TRights (default : TRights)), .cells (E_TRights r11)]) (.callH ent119 (lq 7 Z) [1] (C_rights_Join_1_3 m11) (by decide) (hc Z (.refl _) .nil) (aG Z (aG (ty_A16_i64.lt _ _) ltL_nil)) (.c (lq 4 Z) (subren Z) (.c l0 (vsubr (V.sub.refl _) (ty_A16_i64.lt _ _)) .nil)) (ren_tup Z) (mapc (ren_cells (ty_TRights.cl _ _)) Z) Z) Z Z) trivial (S.nilD (by kernel_rfl) ?_))); refine blockQ_n (aC (W.reg o2 Z (Ss Z (.add (lq 14 Z) cI) ?_))); exact Sa Z l0 (Nn ⟨_, h5.ret, (Wk.selS [0, 1] (by decide) Z (SelE.spec (lw 14 Z) Z (.refl _) Z Z (SelE.spec (lw 15 Z) Z (.refl _) Z Z (sl [0, 17, 18] Z))) (hc Z (.refl _) (hc Z (.refl _) .nil)))⟩)
    · refine AWp.exit (thenQ_x (thenQ_x (blockQ_x ?_))); exact aC ⟨_, h5.ret, (Wk.selS [0, 1] (by decide) Z (SelE.spec (lw 1 Z) Z (.refl _) Z Z (SelE.spec (lw 2 Z) Z (.refl _) Z Z .nil)) (hc Z (.refl _) (hc Z (.refl _) .nil)))⟩
  · refine aC (Wq o2 Z (Su Z (.ldP (lq 1 Z) Z .nil Z Z) (Sn [.cells (E_TRights x7), .cells (E_TRights x7)] Z Z (.sw (lq 1 Z) l0 Z Z Z) Z trivial ?_))); refine Nn (AWp.ret (endF_wk (Wk.freeze 0 Z Z (.cons (lw 1 Z) Z (.ptr .nil Z) .nil) (.refl _)) ?_)); obtain rfl := h.ret; exact endF1 Z (Wk.z [0] Z) (.cellC sz42 ag42 l0 (ty_TRights.fl _) Z) Z Z
theorem C_counter_Join {a1 : aJ} {a2 : aJ} {r : aJ × Int} (h : counter_Join a1 a2 = some r) : PureC Pg 70 [aF a1, aF a2] (.tup [aF r.1, (V.int .i64) r.2]) := by
  refine .c 39 fn70 Z Z Z ?_; replace h := Ok.of h; unfold counter_Join at h; refine Wq o4 Z (Sv (.ptr 0 [] 0) [.cells (aF a1)] Z (.box l0 Z) Z Z trivial (Sv (.ptr 1 [] 0) [.cells (aF a1), .cells (aF a2)] Z (.box (lq 2 Z) Z) Z Z trivial (Sv (.ptr 2 [] 0) [.cells (aF a1), .cells (aF a2), .cells (aF (default : aJ))] Z (.alloc zv44) Z Z trivial ?_))); refine Sa Z cI (Nn (AWp.wk (Wk.freeze 1 Z Z (.cons (lw 2 Z) Z (.ptr .nil Z) (.l [0, 1, 3] Z)) (.refl _)) (AWp.seq ?_))); refine Wq o19 Z (Ss Z (.fieldAddr lay44 Z Z (lq 3 Z)) (Su Z (.ldP l0 Z (.f Z .nil) Z Z) (Ss Z (.faC Z Z (lq 2 Z) Z) ?_))); refine Ss Z (.ldC l0 Z) (Ss Z (.neq (lq 2 Z) l0) (Sa Z l0 (Sg Z l0 (.fieldAddr lay44 Z Z (lq 9 Z)) ?_))); refine S.gqui 13 5 11 false Z Z Z (lq 1 Z) (fun hB _ => .ldP (i0 hB) Z (.f Z .nil) Z Z) (Sg Z (lq 2 Z) (.faC Z Z (lq 8 Z) Z) (Sj Z (lq 3 Z) (fun hB => .ldC (i0 hB) Z) (Sj Z (lq 4 Z) (fun hB => .neq (ifT hB (lq 2 Z)) (i0 hB)) ?_))); refine Ss Z (.pickOr (lq 5 Z) cB i0) (Sa Z l0 (Sg Z l0 (.fieldAddr lay44 Z Z (lq 16 Z)) (S.gqui 20 12 18 false Z Z Z (lq 1 Z) (fun hB _ => .ldP (i0 hB) Z (.f Z .nil) Z Z) ?_))); refine Sg Z (lq 2 Z) (.faC Z Z (lq 15 Z) Z) (Sj Z (lq 3 Z) (fun hB => .ldC (i0 hB) Z) (Sj Z (lq 4 Z) (fun hB => .neq (ifT hB (lq 2 Z)) (i0 hB)) (h.n fun v3 ev3 h => ?_))); refine Ss Z (.nv (.pickOr (lq 5 Z) cB i0) (congrArg V.bool ev3.symm)) (Nn (Pr [0, 19, 20, 21, 22] Z (AWp.condM l0 h (fun c1 h => ?_) (fun c1 h => ?_))))
  · refine Wq o3 Z (h.n fun v4 ev4 h => Ss Z (.nv (.nv (v2 := aF (⟨0, 0, 0, (default : TRights), (default : TRights)⟩ : aJ)) (.buildStW lay44 zv44 Z .nil) Z) (congrArg aF ev4.symm)) (Sn [.cells (aF a1), .dead, .cells (aF v4)] Z Z (.sw (lq 4 Z) l0 Z Z Z) Z trivial (Sa Z cI ?_))); refine Nn (AWp.ret (aD (endF_wk (Wk.freeze 2 Z Z (.cons (lw 5 Z) Z (.ptr .nil Z) (.l [0, 0] Z)) (.refl _)) ?_))); obtain rfl := h.ret; exact endFN Z (Wk.z [0, 1] Z) (.cons (.cellC sz44 ag44 l0 (ty_TCounter.fl _) Z) (.cons (.tmp (lw 1 Z) Z) .nil)) Z Z Z
  · refine AWp.skip (aC (AWp.seq (W.regD o14 mixed ?_))); refine Ss Z (.fieldAddr lay44 Z Z (lq 4 Z)) (Su Z (.ldP l0 Z (.f Z .nil) Z Z) (Ss Z (.faC Z Z (lq 3 Z) Z) (Ss Z (.ldC l0 Z) ?_))); refine h.b fun r5 m5 h => Ss Z (.cq (cr (lq 2 Z) (cr l0 .nil)) (C_rights_Join m5) Z) (Ss Z (.fieldAddr lay44 Z Z (lq 9 Z)) (Su Z (.ldP l0 Z (.f Z .nil) Z Z) (Ss Z (.faC Z Z (lq 8 Z) Z) ?_))); refine Ss Z (.ldC l0 Z) (h.b fun r6 m6 h => Ss Z (.cq (cr (lq 2 Z) (cr l0 .nil)) (C_rights_Join m6) Z) (Ss Z (.fieldAddr lay44 Z Z (lq 14 Z)) (h.n fun v7 ev7 h => ?_))); refine Sn [.cells (aF v7), .dead, .cells (aF (default : aJ))] Z Z (.sP l0 (lq 6 Z) Z (.refl _) Z (.f Z .nil) Z (.st Z .nil Z) (congrArg (fun z => ([aK.cells (aF z), .dead, .cells (aF (default : aJ))] : List aK)) ev7.symm)) Z trivial (Ss Z (.fieldAddr lay44 Z Z (lq 15 Z)) (h.n fun v8 ev8 h => Sn [.cells (aF v8), .dead, .cells (aF (default : aJ))] Z Z (.sP l0 (lq 2 Z) Z (.refl _) Z (.f Z .nil) Z (.st Z .nil Z) (congrArg (fun z => ([aK.cells (aF z), .dead, .cells (aF (default : aJ))] : List aK)) ev8.symm)) Z trivial (S.nilD (by kernel_rfl) ?_))); refine aC (Pr [14, 15, 16] Z (Wq o3 Z (Su Z (.ldP (lq 2 Z) Z .nil Z Z) ?_))); refine Sn [.cells (aF v8), .dead, .cells (aF v8)] Z Z (.sw (lq 2 Z) l0 Z Z Z) Z trivial (Sa Z cI (Nn (AWp.ret ?_))); refine endF_wk (Wk.freeze 2 Z Z (.cons (lw 3 Z) Z (.ptr .nil Z) (.l [0, 0] Z)) (.refl _)) ?_; obtain rfl := h.ret; exact endFN Z (Wk.z [0, 1] Z) (.cons (.cellC sz44 ag44 l0 (ty_TCounter.fl _) Z) (.cons (.tmp (lw 1 Z) Z) .nil)) Z Z Z
theorem C_cloneO_65 {a1 : List THold} {r : List THold} (h : app 40 [] a1 = some r) : CallSpec Pg 65 [E_S_THold a1] [] fun o H' => o = .ret (.slo 5 0 [] 0 0 r.length 1) ∧ H' = [.buf 5 (List.map E_THold r)] := by
  refine CallSpec.of_bodyF 8 0 fn65 Z Z Z (Nat.le_of_ble_eq_true Z) ?_
  have hr := (app_get h).2
  refine Wq o1 Z (Sa Z cNs (Nn (AWp.splitNil (t := 0) (lw 1 Z) (fun hn => ?_) ?_)))
  · obtain rfl : a1 = [] := List.map_eq_nil_iff.1 hn
    obtain rfl : r = [] := by simpa using hr
    refine .seq (Wq o2 Z (Sa Z l0 (Ss Z (.eqlNil sli47 l0 cNs) ?_))); refine Nn (AWp.condT l0 (Wq o1 Z (Sa Z cNs ?_))); refine Nn (AWp.ret (aD (endF_wk (Wk.nilbuf 5 l0) ?_))); exact endF1 Z (Wk.selS [0] (by decide) Z (SelE.spec l0 Z (.refl _) Z Z .nil) (.cons Z Z (ASub.refl _) .nil)) (.tmp l0 Z) Z Z
  · refine .seq (Wq o2 Z (Sa Z l0 (Ss Z (.eqlNn sli47 l0 cNs) ?_))); refine Nn (AWp.condF l0 (AWp.skip (aC ?_))); refine Wq o4 Z (Ss Z (.buildSliceW sli47 zv106 Z Z (by decide) .nil) (Sm 3 Z Z (S.new 7 Z Z (.appNewT sli47 und47 zv106 Z (by decide) (lq 1 Z) (V.sub.refl _) l0 Rd.sl h Z) trivial ?_))); exact Sa Z l0 (Nn (AWp.ret (endF1 Z (Wk.selS [0] (by decide) Z (SelE.spec l0 Z (.refl _) Z Z .nil) (.cons (lt_buf ty_THold) Z ⟨Z, RSubL.leafr ty_THold _ Z⟩ .nil)) (.tmp l0 Z) Z Z)))
end
end Go.Av
namespace Go.Proofs
open Go.Shelf in
def Tryz.sort91_ren : Go.Shelf.Ren := ⟨fun | 6 => 91 | 15 => 99 | 14 => 122 | 28 => 133 | 29 => 134 | 20 => 144 | 21 => 145 | 22 => 146 | 23 => 147 | 24 => 148 | 25 => 149 | 26 => 150 | 27 => 151 | 46 => 162 | 47 => 154 | 48 => 155 | 49 => 163 | 50 => 164 | 57 => 169 | n => n, fun | 22 => 47 | 24 => 106 | 25 => 134 | 3 => 3 | 39 => 141 | 0 => 0 | 53 => 162 | 55 => 164 | 4 => 4 | 46 => 156 | 45 => 155 | 50 => 81 | 5 => 5 | 9 => 9 | 66 => 175 | 70 => 179 | 76 => 185 | 77 => 186 | n => n, fun | n => n⟩
open Go.Shelf in
theorem Tryz.sort91 : Go.Proofs.SlLaysF0.n6 Tryz.prog Tryz.sort91_ren := {
  mixed := by kernel_rfl
  f6 := ⟨Tryz.f91.name, by decide, Tryz.func91.trans (congrArg some (by kernel_rfl))⟩
  f14 := ⟨Tryz.f122.name, by decide, Tryz.func122.trans (congrArg some (by kernel_rfl))⟩
  f15 := Tryz.func99.trans (congrArg some (by kernel_rfl))
  f20 := ⟨Tryz.f144.name, by decide, Tryz.func144.trans (congrArg some (by kernel_rfl))⟩
  f21 := ⟨Tryz.f145.name, by decide, Tryz.func145.trans (congrArg some (by kernel_rfl))⟩
  f22 := ⟨Tryz.f146.name, by decide, Tryz.func146.trans (congrArg some (by kernel_rfl))⟩
  f23 := ⟨Tryz.f147.name, by decide, Tryz.func147.trans (congrArg some (by kernel_rfl))⟩
  f24 := ⟨Tryz.f148.name, by decide, Tryz.func148.trans (congrArg some (by kernel_rfl))⟩
  f25 := ⟨Tryz.f149.name, by decide, Tryz.func149.trans (congrArg some (by kernel_rfl))⟩
  f26 := ⟨Tryz.f150.name, by decide, Tryz.func150.trans (congrArg some (by kernel_rfl))⟩
  f27 := ⟨Tryz.f151.name, by decide, Tryz.func151.trans (congrArg some (by kernel_rfl))⟩
  f28 := Tryz.func133.trans (congrArg some (by kernel_rfl))
  f29 := Tryz.func134.trans (congrArg some (by kernel_rfl))
  f46 := ⟨Tryz.f162.name, by decide, Tryz.func162.trans (congrArg some (by kernel_rfl))⟩
  f47 := Tryz.func154.trans (congrArg some (by kernel_rfl))
  f48 := Tryz.func155.trans (congrArg some (by kernel_rfl))
  f49 := ⟨Tryz.f163.name, by decide, Tryz.func163.trans (congrArg some (by kernel_rfl))⟩
  f50 := ⟨Tryz.f164.name, by decide, Tryz.func164.trans (congrArg some (by kernel_rfl))⟩
  f57 := ⟨Tryz.f169.name, by decide, Tryz.func169.trans (congrArg some (by kernel_rfl))⟩
  t0 := Tryz.underlying0
  a0 := Tryz.isAgg0
  z0 := Tryz.sizeOf0
  v0 := Tryz.zeroValue0
  t3 := Tryz.underlying3
  a3 := Tryz.isAgg3
  z3 := Tryz.sizeOf3
  v3 := Tryz.zeroValue3
  t4 := Tryz.underlying4
  a4 := Tryz.isAgg4
  z4 := Tryz.sizeOf4
  v4 := Tryz.zeroValue4
  t5 := Tryz.underlying5
  a5 := Tryz.isAgg5
  z5 := Tryz.sizeOf5
  v5 := Tryz.zeroValue5
  t9 := Tryz.underlying9
  a9 := Tryz.isAgg9
  z9 := Tryz.sizeOf9
  v9 := Tryz.zeroValue9
  t22 := Tryz.underlying47
  a22 := Tryz.isAgg47
  z22 := Tryz.sizeOf47
  v22 := Tryz.zeroValue47
  t25 := Tryz.underlying134
  a25 := Tryz.isAgg134
  z25 := Tryz.sizeOf134
  v25 := Tryz.zeroValue134
  t39 := Tryz.underlying141
  a39 := Tryz.isAgg141
  z39 := Tryz.sizeOf141
  v39 := Tryz.zeroValue141
  t45 := Tryz.underlying155
  a45 := Tryz.isAgg155
  z45 := Tryz.sizeOf155
  v45 := Tryz.zeroValue155
  t46 := Tryz.underlying156
  a46 := Tryz.isAgg156
  z46 := Tryz.sizeOf156
  v46 := Tryz.zeroValue156
  t50 := Tryz.underlying81
  a50 := Tryz.isAgg81
  z50 := Tryz.sizeOf81
  v50 := Tryz.zeroValue81
  t53 := Tryz.underlying162
  a53 := Tryz.isAgg162
  z53 := Tryz.sizeOf162
  v53 := Tryz.zeroValue162
  t55 := Tryz.underlying164
  a55 := Tryz.isAgg164
  z55 := Tryz.sizeOf164
  v55 := Tryz.zeroValue164
  t66 := Tryz.underlying175
  a66 := Tryz.isAgg175
  z66 := Tryz.sizeOf175
  v66 := Tryz.zeroValue175
  t70 := Tryz.underlying179
  a70 := Tryz.isAgg179
  z70 := Tryz.sizeOf179
  v70 := Tryz.zeroValue179
  t76 := Tryz.underlying185
  a76 := Tryz.isAgg185
  z76 := Tryz.sizeOf185
  v76 := Tryz.zeroValue185
  t77 := Tryz.underlying186
  a77 := Tryz.isAgg186
  z77 := Tryz.sizeOf186
  v77 := Tryz.zeroValue186 }
end Go.Proofs
namespace Go.Av
section
open Go.Proofs
theorem srt91 : Go.Proofs.SlLaysF0.n6 Pg Go.Proofs.Tryz.sort91_ren := by rw [Pg_eq]; exact Go.Proofs.Tryz.sort91
theorem C_hold_Join {a1 : List THold} {a2 : List THold} {r : (List THold) × Int} (h : hold_Join a1 a2 = some r) : PureC Pg 71 [.sl 5 .no (List.map E_THold a1), .sl 5 .no (List.map E_THold a2)] (.tup [E_S_THold r.1, (V.int .i64) r.2]) := by
  refine .c 101 fn71 Z Z Z ?_; replace h := Ok.of h; unfold hold_Join at h; refine Wq o2 Z (Sa Z cNs (Sa Z cI (Nn ?_))); refine .seq (Wq o8 Z (Sm 2 Z Z (h.b fun r3 m3 h => ?_))); refine Ss Z (.cq (cr l0 .nil) (C_hold_Rights m3) Z) (Ss Z (.not l0) (Sa Z l0 (Sg Z l0 (.move (lq 7 Z)) ?_))); refine h.b fun r4 m4 h => Sj Z (lq 1 Z) (fun hB => .cq (cr (i0 hB) .nil) (C_hold_Rights (gd_get m4 hB)) Z) (Sj Z (lq 2 Z) (fun hB => .not (i0 hB)) (Ss Z (.pickOr (lq 3 Z) cB i0) (Nn ?_))); refine AWp.condM l0 h (fun c1 h => ?_) (fun c1 h => ?_)
  · refine Wq o2 Z (Sa Z cNs (Sa Z cI (Nn ?_))); refine Pr [0, 1, 12, 13] Z (AWp.ret (aD ?_)); obtain rfl := h.ret; exact endFN Z (Wk.selS [] .nil Z (lp 1 Z (.nils_no _) (sl [0] Z)) .nil) (.cons (.tmp l0 Z) (.cons (.tmp (lw 1 Z) Z) .nil)) Z Z Z
  · refine AWp.skip (aC (Wq o2 Z (Sv (.map 0) [.map (encE E_A2_i64 I (AMap.empty : AMap (Vector Int 2) Int okInts).es)] Z (.makeMap) Z Z trivial ?_))); refine Sa Z l0 (Nw o3 Z (Sm 12 Z Z (h.b fun l5 m5 h => ?_))); refine Sv (.slo 5 1 [] 0 0 l5.length 1) [.map (encE E_A2_i64 I (AMap.empty : AMap (Vector Int 2) Int okInts).es), .buf 5 (List.map E_THold l5)] Z (.callN ent65 cF [] (C_cloneO_65 m5) .nil .nil (aG (ty_S_THold.lt _ _) ltL_nil) (.c l0 (vsubr (V.sub.refl _) (ty_S_THold.lt _ 0)) .nil) Z (mapc (ren_buf ty_THold _) Z) Z) Z Z trivial (Sa Z l0 (Nn (Pr [0, 3, 13, 14, 15, 16] Z ?_))); refine .seq (Wq o3 Z (Sm 4 Z Z (Ss Z (.lenT sli47 l0 (vsub Z (.refl _))) ?_))); refine Sa Z cI (Nn (AWp.cutX (fun x8 => ⟨[(7, .slo 5 0 [] 0 0 l5.length 1), (6, .map 1), (5, I 0), (4, .nils), (1, .sl 5 .no (List.map E_THold a2))], [.buf 5 (List.map E_THold l5), .map (encE E_A2_i64 I x8.es)]⟩) nc_then h (fun q6 hq6 => ?_) (fun x8 h => ?_)))
    · refine AWp.block (AWp.loopT (fun s7 => ⟨[(7, .slo 5 0 [] 0 0 l5.length 1), (6, .map 1), (27, I s7.1), (26, I (a1.length : Int)), (25, .sl 5 .no (List.map E_THold a1)), (5, I 0), (4, .nils), (1, .sl 5 .no (List.map E_THold a2))], [.buf 5 (List.map E_THold l5), .map (encE E_A2_i64 I s7.2.es)]⟩) hq6 (Wk.selS [1, 0] (by decide) Z (SelE.spec (lw 3 Z) Z (.slo (by first | rfl | simp)) Z Z (SelE.spec (lw 4 Z) Z (.refl _) Z Z (sl [0, 1, 2, 5, 6, 8] Z))) (hb Z (.cons (lt_map ty_A2_i64 (aM.int .i64)) Z (asub_map ty_A2_i64 (aM.int .i64) _) .nil))) (fun _ s7 h6 => ?_)); rw [hold_Join_L1] at h6; refine Wq o1 Z (Ss Z (.lss (lq 2 Z) (lq 3 Z)) (Nn (AWp.seq ?_))); refine AWp.condM l0 h6 (fun c2 h6 => ?_) (fun c2 h6 => ?_)
      · refine AWp.skip (aC (AWp.seq (AWp.block ?_))); refine Wq o6 Z (Sm 3 Z Z (h6.b fun j9 m9 h6 => Ss Z (.ixS sli47 (lq 6 Z) (lq 4 Z) m9) (h6.n fun v10 ev10 h6 => ?_))); refine Ss Z (.nv (.ldC l0 Z) (congrArg E_THold ev10.symm)) (Sv (.ptr 2 [] 0) [.buf 5 (List.map E_THold l5), .map (encE E_A2_i64 I s7.2.es), .cells (E_THold (default : THold))] Z (.alloc zv106) Z Z trivial (Sm 3 Z Z (Sn [.buf 5 (List.map E_THold l5), .map (encE E_A2_i64 I s7.2.es), .cells (E_THold v10)] Z Z (.sw (lq 1 Z) (lq 2 Z) Z Z Z) Z trivial ?_))); refine Nn (AWp.wk (Wk.freeze 2 Z Z (.cons (lw 1 Z) Z (.ptr .nil Z) (.l [0, 2, 3, 4, 5, 6, 7, 8, 9, 10, 11, 12, 13] Z)) (.refl _)) (W.reg o8 Z (Sm 7 Z Z ?_))); refine Ss Z (.faC Z Z (lq 1 Z) Z) (Ss Z (.ldC l0 Z) (Ss Z (.faC Z Z (lq 3 Z) Z) (Ss Z (.ldC l0 Z) ?_))); refine Ss Z (.buildArrL (w := E_A2_i64 (#v[v10.Replica, v10.Number] : Vector Int 2)) arr132 zv132 (.cons (lq 2 Z) Z Z Z (.cons l0 Z Z Z .nil)) Z Z) (Sm 7 Z Z (h6.b fun p11 m11 h6 => Sn [.buf 5 (List.map E_THold l5), .map (encE E_A2_i64 I p11.es), .dead] Z Z (.mapPutT und131 key132 kt132 ((aM.int .i64).ok) (lq 6 Z) (lq 1 Z) l0 Z m11 Z) Z trivial (S.nil ?_))); refine blockQ_n (aC (W.reg o2 Z (Ss Z (.add (lq 15 Z) cI) ?_))); exact Sa Z l0 (Nn ⟨_, h6.ret, (Wk.selS [0, 1] (by decide) Z (SelE.spec (lw 15 Z) Z (.slo (by first | rfl | simp)) Z Z (SelE.spec (lw 16 Z) Z (.refl _) Z Z (sl [0, 18, 19, 20, 21, 22] Z))) (hb Z (.cons (lt_map ty_A2_i64 (aM.int .i64)) Z (asub_map ty_A2_i64 (aM.int .i64) _) .nil)))⟩)
      · refine AWp.exit (thenQ_x (thenQ_x (blockQ_x ?_))); exact aC ⟨_, h6.ret, (Wk.selS [0, 1] (by decide) Z (SelE.spec (lw 1 Z) Z (.slo (by first | rfl | simp)) Z Z (SelE.spec (lw 2 Z) Z (.refl _) Z Z (sl [6, 7, 8] Z))) (hb Z (.cons (lt_map ty_A2_i64 (aM.int .i64)) Z (asub_map ty_A2_i64 (aM.int .i64) _) .nil)))⟩
    · refine aC (AWp.seq (Wq o3 Z (Sm 4 Z Z ?_))); refine Ss Z (.lenT sli47 l0 (vsub Z (.refl _))) (Sa Z cI (Nn (AWp.cutL (fun x14 => ⟨[(7, .slo 5 0 [] 0 0 x14.length 1), (5, I 0), (4, .nils)], [.buf 5 (List.map E_THold x14)]⟩) nc_then h (fun q12 hq12 h => ?_) (fun x14 h => ?_))))
      · refine AWp.block (AWp.loopT (fun s13 => ⟨[(7, .slo 5 0 [] 0 0 s13.2.length 1), (6, .map 1), (42, I s13.1), (41, I (a2.length : Int)), (40, .sl 5 .no (List.map E_THold a2)), (5, I 0), (4, .nils)], [.buf 5 (List.map E_THold s13.2), .map (encE E_A2_i64 I x8.es)]⟩) hq12 (Wk.selS [0, 1] (by decide) Z (SelE.spec (lw 3 Z) Z (.slo (by first | rfl | simp)) Z Z (SelE.spec (lw 4 Z) Z (.refl _) Z Z (sl [0, 1, 2, 5, 6] Z))) (hb Z (.cons (lt_map ty_A2_i64 (aM.int .i64)) Z (asub_map ty_A2_i64 (aM.int .i64) _) .nil))) (fun _ s13 h12 => ?_)); rw [hold_Join_L2] at h12; refine Wq o1 Z (Ss Z (.lss (lq 2 Z) (lq 3 Z)) (Nn (AWp.seq ?_))); refine AWp.condM l0 h12 (fun c3 h12 => ?_) (fun c3 h12 => ?_)
        · refine AWp.skip (aC (AWp.seq (AWp.block ?_))); refine Wq o4 Z (h12.b fun j15 m15 h12 => Ss Z (.ixS sli47 (lq 5 Z) (lq 3 Z) m15) (h12.n fun v16 ev16 h12 => Ss Z (.nv (.ldC l0 Z) (congrArg E_THold ev16.symm)) (Sv (.ptr 2 [] 0) [.buf 5 (List.map E_THold s13.2), .map (encE E_A2_i64 I x8.es), .cells (E_THold (default : THold))] Z (.alloc zv106) Z Z trivial ?_))); refine Sn [.buf 5 (List.map E_THold s13.2), .map (encE E_A2_i64 I x8.es), .cells (E_THold v16)] Z Z (.sw l0 (lq 1 Z) Z Z Z) Z trivial (Nn (AWp.wk (Wk.freeze 2 Z Z (.cons l0 Z (.ptr .nil Z) (.l [1, 2, 3, 4, 5, 6, 7, 8, 9, 10] Z)) (.refl _)) (Wq o12 Z ?_))); refine Sm 5 Z Z (Ss Z (.faC Z Z (lq 1 Z) Z) (Ss Z (.ldC l0 Z) (Ss Z (.faC Z Z (lq 3 Z) Z) ?_))); refine Ss Z (.ldC l0 Z) (Ss Z (.buildArrL (w := E_A2_i64 (#v[v16.Replica, v16.Number] : Vector Int 2)) arr132 zv132 (.cons (lq 2 Z) Z Z Z (.cons l0 Z Z Z .nil)) Z Z) (h12.b fun o17 m17 h12 => Su Z (.mapGetT und131 key132 kt132 ((aM.int .i64).ok) zv3 (lq 5 Z) l0 Z m17) (Sa Z l0 ?_))); refine Ss Z (.extract l0 Z) (Ss Z (.extract (lq 1 Z) Z) (Sm 1 Z Z (Sm 1 Z Z ?_))); refine Nn (AWp.block (Wq o3 Z (Sa Z l0 ?_))); refine Ss Z (.not l0) (Sa Z l0 (Nn (AWp.condM l0 h12 (fun c4 h12 => ?_) (fun c4 h12 => ?_))))
          · refine W.reg o5 Z (Sm 19 Z Z (Ss Z (.ldC (lq 16 Z) Z) (Ss Z (.buildSliceW sli47 zv106 Z Z (by decide) (.cons l0 Z (.refl _) (ty_THold.fl v16) .nil)) ?_))); refine h12.b fun l18 m18 h12 => Sv (.slo 5 3 [] 0 0 l18.length 1) [.dead, .map (encE E_A2_i64 I x8.es), .dead, .buf 5 (List.map E_THold l18)] Z (.appOwnT sli47 und47 zv106 Z (by decide) (lq 2 Z) Z (by first | rfl | simp) l0 Rd.sl m18 Z) Z Z trivial (Sa Z l0 (S.nil (blockQ_n ?_))); refine blockQ_n (aC (W.reg o2 Z (Ss Z (.add (lq 26 Z) cI) ?_))); exact Sa Z l0 (Nn ⟨_, h12.ret, (Wk.selS [3, 1] (by decide) Z (SelE.spec (lw 2 Z) Z (.slo (by first | rfl | simp)) Z Z (SelE.spec (lw 27 Z) Z (.refl _) Z Z (sl [0, 29, 30, 31, 32] Z))) (hb Z (.cons (lt_map ty_A2_i64 (aM.int .i64)) Z (asub_map ty_A2_i64 (aM.int .i64) _) .nil)))⟩)
          · refine .seq (W.regD o19 mixed (Sm 19 Z Z (Sm 5 Z Z ?_))); refine h12.b fun j19 m19 h12 => Ss Z (.ixO sli47 (lq 1 Z) l0 (by first | rfl | simp) m19) (Ss Z (.fieldAddr lay106 Z Z l0) (Su Z (.loadB sz3 ag3 l0 Z (.ls (by first | exact lsm m19 | (have := six_lt m19; simp at this ⊢; omega)) (.f Z .nil)) (by first | omega | rfl) Z Z) (Ss Z (.faC Z Z (lq 20 Z) Z) ?_))); refine Ss Z (.ldC l0 Z) (Ss Z (.neq (lq 2 Z) l0) (Sa Z l0 (Sg Z l0 (.move (lq 28 Z)) ?_))); refine Sg Z (lq 1 Z) (.move (lq 14 Z)) (h12.b fun j20 m20 h12 => Sj Z (lq 2 Z) (fun hB => .ixO sli47 (ifT hB (lq 1 Z)) (i0 hB) (by first | rfl | simp) (gd_get m20 hB)) (Sj Z (lq 3 Z) (fun hB => .fieldAddr lay106 Z Z (i0 hB)) (S.gqui 89 8 84 false Z Z Z (lq 4 Z) (fun hB _ => .loadB sz3 ag3 (i0 hB) Z (.ls (by first | exact lsm (gd_get m20 hB) | (have := six_lt (gd_get m20 hB); simp at this ⊢; omega)) (.f Z .nil)) (by first | omega | rfl) Z Z) ?_))); refine Sg Z (lq 5 Z) (.faC Z Z (lq 29 Z) Z) (Sj Z (lq 6 Z) (fun hB => .ldC (i0 hB) Z) (Sj Z (lq 7 Z) (fun hB => .neq (ifT hB (lq 2 Z)) (i0 hB)) (h12.n fun v21 ev21 h12 => ?_))); refine Ss Z (.nv (.pickOr (lq 8 Z) cB i0) (congrArg V.bool ev21.symm)) (Sa Z l0 (S.nilD (by kernel_rfl) (aC ?_))); refine AWp.condM l0 h12 (fun c5 h12 => ?_) (fun c5 h12 => ?_)
            · refine Wq o2 Z (Sa Z cNs (Sa Z cI (Nn ?_))); refine Pr [0, 1, 2, 3, 12, 13, 14, 15, 16, 17, 18, 19, 20, 21, 22, 23, 24, 25, 26, 27, 28, 29, 30, 31, 32, 33, 34, 35, 36, 37, 38, 39, 40, 41, 42, 43, 44] Z (AWp.ret (blockQ_r (blockQ_r ?_))); refine aD (aD (blockQ_r (aD ?_))); refine aD ?_
              have h := Ok.inrq h h12.ret
              obtain rfl := h.ret; exact endFN Z (Wk.selS [] .nil Z (lp 1 Z (.nils_no _) (sl [0] Z)) .nil) (.cons (.tmp l0 Z) (.cons (.tmp (lw 1 Z) Z) .nil)) Z Z Z
            · refine W.regD o13 mixed (Sm 38 Z Z (Sm 24 Z Z (Sm 40 Z Z ?_))); refine Sm 26 Z Z (h12.b fun j22 m22 h12 => Ss Z (.ixO sli47 (lq 1 Z) l0 (by first | rfl | simp) m22) (Ss Z (.fieldAddr lay106 Z Z l0) (Su Z (.loadB sz3 ag3 l0 Z (.ls (by first | exact lsm m22 | (have := six_lt m22; simp at this ⊢; omega)) (.f Z .nil)) (by first | omega | rfl) Z Z) ?_))); refine Ss Z (.faC Z Z (lq 41 Z) Z) (Ss Z (.ldC l0 Z) (Ss Z (.bmax (lq 2 Z) l0) (h12.b fun j23 m23 h12 => ?_))); refine Ss Z (.ixO sli47 (lq 9 Z) (lq 8 Z) (by first | rfl | simp) m23) (Ss Z (.fieldAddr lay106 Z Z l0) (h12.n fun v24 ev24 h12 => Sn [.buf 5 (List.map E_THold v24), .map (encE E_A2_i64 I x8.es), .dead] Z Z (.storeB sz3 l0 (lq 2 Z) Z (.refl _) Z (.ls (by first | exact lsm m23 | (have := six_lt m23; simp at this ⊢; omega)) (.f Z .nil)) (by first | omega | rfl) (.ls ({ (s13.2.getD j23 default) with State := (max ((s13.2.getD j22 default).State) v16.State) }) (by first | exact lsm m23 | (have := six_lt m23; simp at this ⊢; omega)) (.st Z .nil Z)) Z Z (congrArg (fun z => ([aK.buf 5 (List.map E_THold z), .map (encE E_A2_i64 I x8.es), .dead] : List aK)) ev24.symm)) Z trivial (S.nilD (by kernel_rfl) ?_))); refine blockQ_n (blockQ_n (aC (W.reg o2 Z ?_))); exact Ss Z (.add (lq 52 Z) cI) (Sa Z l0 (Nn ⟨_, h12.ret, (Wk.selS [0, 1] (by decide) Z (SelE.spec (lw 52 Z) Z (.slo (by first | rfl | simp [ev24, ev16])) Z Z (SelE.spec (lw 53 Z) Z (.refl _) Z Z (sl [0, 55, 56, 57, 58] Z))) (hb Z (.cons (lt_map ty_A2_i64 (aM.int .i64)) Z (asub_map ty_A2_i64 (aM.int .i64) _) .nil)))⟩))
        · refine AWp.exit (thenQ_x (thenQ_x (blockQ_x ?_))); exact aC ⟨_, h12.ret, (Wk.selS [0] (by decide) Z (SelE.spec (lw 1 Z) Z (.slo (by first | rfl | simp)) Z Z (sl [6, 7] Z)) (hb Z .nil))⟩
      · refine aC (AWp.seq (Wq o3 Z (Sa Z l0 ?_))); refine Ss Z (.lenO sli47 l0) (Ss Z (.gtr l0 cI) (Nn (AWp.condM l0 h (fun c6 h => ?_) (fun c6 h => ?_))))
        · refine Wq o2 Z (Sa Z cNs (Sa Z cI (Nn ?_))); refine AWp.ret (aD ?_); obtain rfl := h.ret; exact endFN Z (Wk.selS [] .nil Z (lp 1 Z (.nils_no _) (sl [0] Z)) .nil) (.cons (.tmp l0 Z) (.cons (.tmp (lw 1 Z) Z) .nil)) Z Z Z
        · refine AWp.skip (aC (Wq o2 Z (Sm 3 Z Z ?_))); refine h.b fun l25 m25 h => Se Z (.nf (H2 := [.buf 5 (List.map E_THold l25)]) (.sortFunc (ρ := Go.Proofs.Tryz.sort91_ren) srt91 Z Z ag106 sz106 ty_THold holdCmp_swo ent91 ent92 ltL_nil (fun x y => C_hold_compare (hold_compare_eq x y)) cF l0 cF Z (by first | rfl | simp) m25 Z) Z Z) trivial (Nw o3 Z (Sm 5 Z Z (Sa Z l0 ?_))); refine Sa Z cI (Nn (AWp.ret (endF_wk (Wk.freeze 0 Z Z (.cons (lw 1 Z) Z (.slo (by first | rfl | simp [(sort_len holdCmp_swo m25)])) (.l [0, 0, 1] Z)) (.refl _)) ?_))); obtain rfl := h.ret; exact eN [0, 1] Z Z Z Z Z
theorem C_lock_Compare {a1 : TLock} {a2 : TLock} {r : Int} (h : lock_Compare a1 a2 = some r) : PureC Pg 93 [E_TLock a1, E_TLock a2] ((V.int .i64) r) := by
  refine .c 42 fn93 Z Z Z ?_; replace h := Ok.of h; unfold lock_Compare at h; refine Wq o3 Z (Sv (.ptr 0 [] 0) [.cells (E_TLock a1)] Z (.box l0 Z) Z Z trivial (Sv (.ptr 1 [] 0) [.cells (E_TLock a1), .cells (E_TLock a2)] Z (.box (lq 2 Z) Z) Z Z trivial (Sa Z cI ?_))); refine Nn (AWp.wk (Wk.freeze 0 Z Z (.cons (lw 2 Z) Z (.ptr .nil Z) (.l [0, 1] Z)) (.refl _)) (AWp.wk (Wk.freeze 1 Z Z (.cons (lw 2 Z) Z (.ptr .nil Z) (.l [0, 1] Z)) (.refl _)) (AWp.seq ?_))); refine Wq o22 Z (Ss Z (.faC Z Z (lq 1 Z) Z) (Ss Z (.ldC l0 Z) (Ss Z (.faC Z Z (lq 2 Z) Z) ?_))); refine Ss Z (.ldC l0 Z) (Ss Z (.buildArrL (w := E_A2_i64 (#v[a1.Seq, a2.Seq] : Vector Int 2)) arr132 zv132 (.cons (lq 2 Z) Z Z Z (.cons l0 Z Z Z .nil)) Z Z) (Ss Z (.faC Z Z (lq 6 Z) Z) (Ss Z (.ldC l0 Z) ?_))); refine Ss Z (.faC Z Z (lq 7 Z) Z) (Ss Z (.ldC l0 Z) (Ss Z (.buildArrL (w := E_A2_i64 (#v[a1.Ver, a2.Ver] : Vector Int 2)) arr132 zv132 (.cons (lq 2 Z) Z Z Z (.cons l0 Z Z Z .nil)) Z Z) (Ss Z (.faC Z Z (lq 11 Z) Z) ?_))); refine Ss Z (.ldC l0 Z) (Ss Z (.faC Z Z (lq 12 Z) Z) (Ss Z (.ldC l0 Z) (Ss Z (.buildArrL (w := E_A2_i64 (#v[a1.Holder, a2.Holder] : Vector Int 2)) arr132 zv132 (.cons (lq 2 Z) Z Z Z (.cons l0 Z Z Z .nil)) Z Z) ?_))); refine Ss Z (.faC Z Z (lq 16 Z) Z) (Ss Z (.ldC l0 Z) (Ss Z (.faC Z Z (lq 17 Z) Z) (Ss Z (.ldC l0 Z) ?_))); refine Ss Z (.buildArrL (w := E_A2_i64 (#v[a1.Value, a2.Value] : Vector Int 2)) arr132 zv132 (.cons (lq 2 Z) Z Z Z (.cons l0 Z Z Z .nil)) Z Z) (Ss Z (.buildArrL (w := E_A4_A2_i64 (#v[(#v[a1.Seq, a2.Seq] : Vector Int 2), (#v[a1.Ver, a2.Ver] : Vector Int 2), (#v[a1.Holder, a2.Holder] : Vector Int 2), (#v[a1.Value, a2.Value] : Vector Int 2)] : Vector (Vector Int 2) 4)) arr153 zv153 (.cons (lq 15 Z) Z Z (ty_A2_i64.fl (#v[a1.Seq, a2.Seq] : Vector Int 2)) (.cons (lq 10 Z) Z Z (ty_A2_i64.fl (#v[a1.Ver, a2.Ver] : Vector Int 2)) (.cons (lq 5 Z) Z Z (ty_A2_i64.fl (#v[a1.Holder, a2.Holder] : Vector Int 2)) (.cons l0 Z Z (ty_A2_i64.fl (#v[a1.Value, a2.Value] : Vector Int 2)) .nil)))) Z Z) (Sa Z cI (Nn ?_))); refine Pr [0, 1, 24] Z (AWp.cutL (fun x5 => ⟨[(4, I 0)], []⟩) nc_then h (fun q3 hq3 h => ?_) (fun x5 h => ?_))
  · refine AWp.block (AWp.loopT (fun s4 => ⟨[(28, I s4), (27, E_A4_A2_i64 (#v[(#v[a1.Seq, a2.Seq] : Vector Int 2), (#v[a1.Ver, a2.Ver] : Vector Int 2), (#v[a1.Holder, a2.Holder] : Vector Int 2), (#v[a1.Value, a2.Value] : Vector Int 2)] : Vector (Vector Int 2) 4)), (4, I 0)], []⟩) hq3 (Wk.selS [] (by decide) Z (sl [0, 1, 2] Z) .nil) (fun _ s4 h3 => ?_)); rw [lock_Compare_L1] at h3; refine Wq o1 Z (Ss Z (.lss l0 cI) (Nn (AWp.seq ?_))); refine AWp.condM l0 h3 (fun c1 h3 => ?_) (fun c1 h3 => ?_)
    · refine AWp.skip (aC (AWp.seq (AWp.block ?_))); refine Wq o3 Z (h3.b fun k6 m6 h3 => Ss Z (.ixV arr153 (lq 2 Z) (lq 1 Z) m6 Z) (Sv (.ptr 0 [] 0) [.cells (E_A2_i64 (default : Vector Int 2))] Z (.alloc zv132) Z Z trivial (h3.n fun v7 ev7 h3 => ?_))); refine Sn [.cells (E_A2_i64 v7)] Z Z (.sw l0 (lq 1 Z) Z Z (congrArg (fun z => ([aK.cells (E_A2_i64 z)] : List aK)) ev7.symm)) Z trivial (Nn (AWp.wk (Wk.freeze 0 Z Z (.cons l0 Z (.ptr .nil Z) (.l [1, 2, 3, 4, 5] Z)) (.refl _)) (Wq o5 Z ?_))); refine h3.b fun k8 m8 h3 => Ss Z (.ixC arr132 l0 cI m8) (Ss Z (.ldC l0 Z) (h3.b fun k9 m9 h3 => Ss Z (.ixC arr132 (lq 2 Z) cI m9) (Ss Z (.ldC l0 Z) ?_))); refine Ss Z (.neq (lq 2 Z) l0) (Nn (AWp.condM l0 h3 (fun c2 h3 => ?_) (fun c2 h3 => ?_)))
      · refine .seq (Wq o5 Z (h3.b fun k10 m10 h3 => Ss Z (.ixC arr132 (lq 5 Z) cI m10) (Ss Z (.ldC l0 Z) ?_))); refine h3.b fun k11 m11 h3 => Ss Z (.ixC arr132 (lq 7 Z) cI m11) (Ss Z (.ldC l0 Z) (Ss Z (.gtr (lq 2 Z) l0) (Nn ?_))); refine AWp.condM l0 h3 (fun c3 h3 => ?_) (fun c3 h3 => ?_)
        · refine Wq o1 Z (Sa Z cI (Nn (AWp.ret ?_))); refine aD (blockQ_r (aD (aD ?_))); refine blockQ_r (aD (aD ?_))
          have h := Ok.inrq h h3.ret
          obtain rfl := h.ret; exact e2 0 Z Z
        · refine AWp.skip (aC (Wq o1 Z (Sa Z cI ?_))); refine Nn (AWp.ret (blockQ_r (aD ?_))); refine aD (blockQ_r (aD (aD ?_)))
          have h := Ok.inrq h h3.ret
          obtain rfl := h.ret; exact e2 0 Z Z
      · refine AWp.skip (blockQ_n (aC (W.reg o2 Z ?_))); exact Ss Z (.add (lq 8 Z) cI) (Sa Z l0 (Nn ⟨_, h3.ret, (Wk.selS [] (by decide) Z (sl [0, 11, 12] Z) .nil)⟩))
    · refine AWp.exit (thenQ_x (thenQ_x (blockQ_x ?_))); exact aC ⟨_, h3.ret, (Wk.selS [] (by decide) Z (sl [3] Z) .nil)⟩
  · refine aC (Wq o1 Z (Sa Z cI (Nn ?_))); refine AWp.ret ?_; obtain rfl := h.ret; exact e2 0 Z Z
end
end Go.Av
