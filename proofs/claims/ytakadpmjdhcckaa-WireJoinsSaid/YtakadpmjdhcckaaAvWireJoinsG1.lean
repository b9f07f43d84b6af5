/- Each function tells what its mirror tells. -/
import Derived.Test.YtakadpmjdhcckaaAvWireJoinsM1
import Derived.Test.YtakadpmjdhcckaaProg
import Derived.KernelRfl
namespace Go.Av
set_option linter.unusedSectionVars false
open Go.Proofs
set_option linter.unusedVariables false
set_option linter.unusedSimpArgs false
set_option maxHeartbeats 4000000
set_option maxRecDepth 10000
@[irreducible] noncomputable def Pg : Program := Try.prog
theorem Pg_eq : Pg = Try.prog := by unfold Pg; rfl
theorem mixed : Pg.follows .mixedOrders = true := by kernel_rfl
theorem fn9 : Pg.funcs[9]? = some Try.f9 := by rw [Pg_eq]; exact Try.func9
theorem fn11 : Pg.funcs[11]? = some Try.f11 := by rw [Pg_eq]; exact Try.func11
theorem fn12 : Pg.funcs[12]? = some Try.f12 := by rw [Pg_eq]; exact Try.func12
theorem fn13 : Pg.funcs[13]? = some Try.f13 := by rw [Pg_eq]; exact Try.func13
theorem fn14 : Pg.funcs[14]? = some Try.f14 := by rw [Pg_eq]; exact Try.func14
theorem fn15 : Pg.funcs[15]? = some Try.f15 := by rw [Pg_eq]; exact Try.func15
theorem fn16 : Pg.funcs[16]? = some Try.f16 := by rw [Pg_eq]; exact Try.func16
theorem fn18 : Pg.funcs[18]? = some Try.f18 := by rw [Pg_eq]; exact Try.func18
theorem fn26 : Pg.funcs[26]? = some Try.f26 := by rw [Pg_eq]; exact Try.func26
theorem fn27 : Pg.funcs[27]? = some Try.f27 := by rw [Pg_eq]; exact Try.func27
theorem fn28 : Pg.funcs[28]? = some Try.f28 := by rw [Pg_eq]; exact Try.func28
theorem fn32 : Pg.funcs[32]? = some Try.f32 := by rw [Pg_eq]; exact Try.func32
theorem fn34 : Pg.funcs[34]? = some Try.f34 := by rw [Pg_eq]; exact Try.func34
theorem fn35 : Pg.funcs[35]? = some Try.f35 := by rw [Pg_eq]; exact Try.func35
theorem fn36 : Pg.funcs[36]? = some Try.f36 := by rw [Pg_eq]; exact Try.func36
theorem fn37 : Pg.funcs[37]? = some Try.f37 := by rw [Pg_eq]; exact Try.func37
theorem fn38 : Pg.funcs[38]? = some Try.f38 := by rw [Pg_eq]; exact Try.func38
theorem fn39 : Pg.funcs[39]? = some Try.f39 := by rw [Pg_eq]; exact Try.func39
theorem fn40 : Pg.funcs[40]? = some Try.f40 := by rw [Pg_eq]; exact Try.func40
theorem fn41 : Pg.funcs[41]? = some Try.f41 := by rw [Pg_eq]; exact Try.func41
theorem fn42 : Pg.funcs[42]? = some Try.f42 := by rw [Pg_eq]; exact Try.func42
theorem fn43 : Pg.funcs[43]? = some Try.f43 := by rw [Pg_eq]; exact Try.func43
theorem fn44 : Pg.funcs[44]? = some Try.f44 := by rw [Pg_eq]; exact Try.func44
theorem fn45 : Pg.funcs[45]? = some Try.f45 := by rw [Pg_eq]; exact Try.func45
theorem fn54 : Pg.funcs[54]? = some Try.f54 := by rw [Pg_eq]; exact Try.func54
theorem fn55 : Pg.funcs[55]? = some Try.f55 := by rw [Pg_eq]; exact Try.func55
theorem fn56 : Pg.funcs[56]? = some Try.f56 := by rw [Pg_eq]; exact Try.func56
theorem fn57 : Pg.funcs[57]? = some Try.f57 := by rw [Pg_eq]; exact Try.func57
theorem fn58 : Pg.funcs[58]? = some Try.f58 := by rw [Pg_eq]; exact Try.func58
theorem fn59 : Pg.funcs[59]? = some Try.f59 := by rw [Pg_eq]; exact Try.func59
theorem fn64 : Pg.funcs[64]? = some Try.f64 := by rw [Pg_eq]; exact Try.func64
theorem fn65 : Pg.funcs[65]? = some Try.f65 := by rw [Pg_eq]; exact Try.func65
theorem fn70 : Pg.funcs[70]? = some Try.f70 := by rw [Pg_eq]; exact Try.func70
theorem fn71 : Pg.funcs[71]? = some Try.f71 := by rw [Pg_eq]; exact Try.func71
theorem fn72 : Pg.funcs[72]? = some Try.f72 := by rw [Pg_eq]; exact Try.func72
theorem fn73 : Pg.funcs[73]? = some Try.f73 := by rw [Pg_eq]; exact Try.func73
theorem fn74 : Pg.funcs[74]? = some Try.f74 := by rw [Pg_eq]; exact Try.func74
theorem fn75 : Pg.funcs[75]? = some Try.f75 := by rw [Pg_eq]; exact Try.func75
theorem fn76 : Pg.funcs[76]? = some Try.f76 := by rw [Pg_eq]; exact Try.func76
theorem fn77 : Pg.funcs[77]? = some Try.f77 := by rw [Pg_eq]; exact Try.func77
theorem fn78 : Pg.funcs[78]? = some Try.f78 := by rw [Pg_eq]; exact Try.func78
theorem fn79 : Pg.funcs[79]? = some Try.f79 := by rw [Pg_eq]; exact Try.func79
theorem fn80 : Pg.funcs[80]? = some Try.f80 := by rw [Pg_eq]; exact Try.func80
theorem fn81 : Pg.funcs[81]? = some Try.f81 := by rw [Pg_eq]; exact Try.func81
theorem fn82 : Pg.funcs[82]? = some Try.f82 := by rw [Pg_eq]; exact Try.func82
theorem fn83 : Pg.funcs[83]? = some Try.f83 := by rw [Pg_eq]; exact Try.func83
theorem fn84 : Pg.funcs[84]? = some Try.f84 := by rw [Pg_eq]; exact Try.func84
theorem fn85 : Pg.funcs[85]? = some Try.f85 := by rw [Pg_eq]; exact Try.func85
theorem fn86 : Pg.funcs[86]? = some Try.f86 := by rw [Pg_eq]; exact Try.func86
theorem fn87 : Pg.funcs[87]? = some Try.f87 := by rw [Pg_eq]; exact Try.func87
theorem fn103 : Pg.funcs[103]? = some Try.f103 := by rw [Pg_eq]; exact Try.func103
theorem fn104 : Pg.funcs[104]? = some Try.f104 := by rw [Pg_eq]; exact Try.func104
theorem fn105 : Pg.funcs[105]? = some Try.f105 := by rw [Pg_eq]; exact Try.func105
theorem fn106 : Pg.funcs[106]? = some Try.f106 := by rw [Pg_eq]; exact Try.func106
theorem fn108 : Pg.funcs[108]? = some Try.f108 := by rw [Pg_eq]; exact Try.func108
theorem fn109 : Pg.funcs[109]? = some Try.f109 := by rw [Pg_eq]; exact Try.func109
theorem fn119 : Pg.funcs[119]? = some Try.f119 := by rw [Pg_eq]; exact Try.func119
theorem fn123 : Pg.funcs[123]? = some Try.f123 := by rw [Pg_eq]; exact Try.func123
theorem fn124 : Pg.funcs[124]? = some Try.f124 := by rw [Pg_eq]; exact Try.func124
theorem fn125 : Pg.funcs[125]? = some Try.f125 := by rw [Pg_eq]; exact Try.func125
theorem fn126 : Pg.funcs[126]? = some Try.f126 := by rw [Pg_eq]; exact Try.func126
theorem fn127 : Pg.funcs[127]? = some Try.f127 := by rw [Pg_eq]; exact Try.func127
theorem fn128 : Pg.funcs[128]? = some Try.f128 := by rw [Pg_eq]; exact Try.func128
theorem fn129 : Pg.funcs[129]? = some Try.f129 := by rw [Pg_eq]; exact Try.func129
theorem fn130 : Pg.funcs[130]? = some Try.f130 := by rw [Pg_eq]; exact Try.func130
theorem fn131 : Pg.funcs[131]? = some Try.f131 := by rw [Pg_eq]; exact Try.func131
theorem fn132 : Pg.funcs[132]? = some Try.f132 := by rw [Pg_eq]; exact Try.func132
theorem fn133 : Pg.funcs[133]? = some Try.f133 := by rw [Pg_eq]; exact Try.func133
theorem fn134 : Pg.funcs[134]? = some Try.f134 := by rw [Pg_eq]; exact Try.func134
theorem fn147 : Pg.funcs[147]? = some Try.f147 := by rw [Pg_eq]; exact Try.func147
theorem fn148 : Pg.funcs[148]? = some Try.f148 := by rw [Pg_eq]; exact Try.func148
theorem fn149 : Pg.funcs[149]? = some Try.f149 := by rw [Pg_eq]; exact Try.func149
theorem fn154 : Pg.funcs[154]? = some Try.f154 := by rw [Pg_eq]; exact Try.func154
theorem fn155 : Pg.funcs[155]? = some Try.f155 := by rw [Pg_eq]; exact Try.func155
theorem fn156 : Pg.funcs[156]? = some Try.f156 := by rw [Pg_eq]; exact Try.func156
theorem fn157 : Pg.funcs[157]? = some Try.f157 := by rw [Pg_eq]; exact Try.func157
theorem fn158 : Pg.funcs[158]? = some Try.f158 := by rw [Pg_eq]; exact Try.func158
theorem fn159 : Pg.funcs[159]? = some Try.f159 := by rw [Pg_eq]; exact Try.func159
theorem fn160 : Pg.funcs[160]? = some Try.f160 := by rw [Pg_eq]; exact Try.func160
theorem fn182 : Pg.funcs[182]? = some Try.f182 := by rw [Pg_eq]; exact Try.func182
theorem fn187 : Pg.funcs[187]? = some Try.f187 := by rw [Pg_eq]; exact Try.func187
theorem fn188 : Pg.funcs[188]? = some Try.f188 := by rw [Pg_eq]; exact Try.func188
theorem sz3 : szOf Pg 3 = some 1 := by kernel_rfl
theorem ag3 : aggOf Pg 3 = some false := by kernel_rfl
theorem und3 : Pg.underlying 3 = some (.int .i64) := by kernel_rfl
theorem zv3 : ZeroV Pg 3 (.int .i64 0) := ⟨((Pg.info? 3).bind (·.zero)).getD .nilFunc, (by kernel_rfl), (by kernel_rfl), (by kernel_rfl)⟩
theorem sz9 : szOf Pg 9 = some 1 := by kernel_rfl
theorem ag9 : aggOf Pg 9 = some false := by kernel_rfl
theorem und9 : Pg.underlying 9 = some .string := by kernel_rfl
theorem sz23 : szOf Pg 23 = some 16 := by kernel_rfl
theorem ag23 : aggOf Pg 23 = some true := by kernel_rfl
theorem arr23 : arrOf Pg 23 = some (16, 1, false) := by kernel_rfl
theorem zv23 : ZeroV Pg 23 (.arr 1 (List.replicate 16 (.int .i64 0))) := ⟨((Pg.info? 23).bind (·.zero)).getD .nilFunc, (by kernel_rfl), (by kernel_rfl), (by kernel_rfl)⟩
theorem sz24 : szOf Pg 24 = some 256 := by kernel_rfl
theorem ag24 : aggOf Pg 24 = some true := by kernel_rfl
theorem arr24 : arrOf Pg 24 = some (16, 16, true) := by kernel_rfl
theorem sz26 : szOf Pg 26 = some 288 := by kernel_rfl
theorem ag26 : aggOf Pg 26 = some true := by kernel_rfl
theorem lay26 : layOf Pg 26 = some [(0, 16, true), (16, 16, true), (32, 256, true)] := by kernel_rfl
theorem zv26 : ZeroV Pg 26 (.st [.arr 1 (List.replicate 16 (.int .i64 0)), .arr 1 (List.replicate 16 (.int .i64 0)), .arr 16 (List.replicate 16 (.arr 1 (List.replicate 16 (.int .i64 0))))]) := ⟨((Pg.info? 26).bind (·.zero)).getD .nilFunc, (by kernel_rfl), (by kernel_rfl), (by kernel_rfl)⟩
theorem sz28 : szOf Pg 28 = some 579 := by kernel_rfl
theorem ag28 : aggOf Pg 28 = some true := by kernel_rfl
theorem lay28 : layOf Pg 28 = some [(0, 1, false), (1, 1, false), (2, 1, false), (3, 288, true), (291, 288, true)] := by kernel_rfl
theorem zv28 : ZeroV Pg 28 (.st [.int .i64 0, .int .i64 0, .int .i64 0, .st [.arr 1 (List.replicate 16 (.int .i64 0)), .arr 1 (List.replicate 16 (.int .i64 0)), .arr 16 (List.replicate 16 (.arr 1 (List.replicate 16 (.int .i64 0))))], .st [.arr 1 (List.replicate 16 (.int .i64 0)), .arr 1 (List.replicate 16 (.int .i64 0)), .arr 16 (List.replicate 16 (.arr 1 (List.replicate 16 (.int .i64 0))))]]) := ⟨((Pg.info? 28).bind (·.zero)).getD .nilFunc, (by kernel_rfl), (by kernel_rfl), (by kernel_rfl)⟩
theorem sz30 : szOf Pg 30 = some 4 := by kernel_rfl
theorem ag30 : aggOf Pg 30 = some true := by kernel_rfl
theorem lay30 : layOf Pg 30 = some [(0, 1, false), (1, 1, false), (2, 1, false), (3, 1, false)] := by kernel_rfl
theorem zv30 : ZeroV Pg 30 (.st [.int .i64 0, .int .i64 0, .int .i64 0, .int .i64 0]) := ⟨((Pg.info? 30).bind (·.zero)).getD .nilFunc, (by kernel_rfl), (by kernel_rfl), (by kernel_rfl)⟩
theorem sz31 : szOf Pg 31 = some 1 := by kernel_rfl
theorem ag31 : aggOf Pg 31 = some false := by kernel_rfl
theorem sli31 : sliOf Pg 31 = some (66, 5, true, 40) := by kernel_rfl
theorem und31 : Pg.underlying 31 = some (.slice 66) := by kernel_rfl
theorem zv31 : ZeroV Pg 31 (.nils) := ⟨((Pg.info? 31).bind (·.zero)).getD .nilFunc, (by kernel_rfl), (by kernel_rfl), (by kernel_rfl)⟩
theorem sz33 : szOf Pg 33 = some 587 := by kernel_rfl
theorem ag33 : aggOf Pg 33 = some true := by kernel_rfl
theorem lay33 : layOf Pg 33 = some [(0, 1, false), (1, 1, false), (2, 1, false), (3, 579, true), (582, 4, true), (586, 1, false)] := by kernel_rfl
theorem zv33 : ZeroV Pg 33 (.st [.str ⟨#[]⟩, .int .i64 0, .int .i64 0, .st [.int .i64 0, .int .i64 0, .int .i64 0, .st [.arr 1 (List.replicate 16 (.int .i64 0)), .arr 1 (List.replicate 16 (.int .i64 0)), .arr 16 (List.replicate 16 (.arr 1 (List.replicate 16 (.int .i64 0))))], .st [.arr 1 (List.replicate 16 (.int .i64 0)), .arr 1 (List.replicate 16 (.int .i64 0)), .arr 16 (List.replicate 16 (.arr 1 (List.replicate 16 (.int .i64 0))))]], .st [.int .i64 0, .int .i64 0, .int .i64 0, .int .i64 0], .nils]) := ⟨((Pg.info? 33).bind (·.zero)).getD .nilFunc, (by kernel_rfl), (by kernel_rfl), (by kernel_rfl)⟩
theorem sz37 : szOf Pg 37 = some 2 := by kernel_rfl
theorem ag37 : aggOf Pg 37 = some true := by kernel_rfl
theorem lay37 : layOf Pg 37 = some [(0, 1, false), (1, 1, false)] := by kernel_rfl
theorem zv37 : ZeroV Pg 37 (.st [.int .i64 0, .nils]) := ⟨((Pg.info? 37).bind (·.zero)).getD .nilFunc, (by kernel_rfl), (by kernel_rfl), (by kernel_rfl)⟩
theorem sz38 : szOf Pg 38 = some 1 := by kernel_rfl
theorem ag38 : aggOf Pg 38 = some false := by kernel_rfl
theorem und38 : Pg.underlying 38 = some (.int .i64) := by kernel_rfl
theorem zv38 : ZeroV Pg 38 (.int .i64 0) := ⟨((Pg.info? 38).bind (·.zero)).getD .nilFunc, (by kernel_rfl), (by kernel_rfl), (by kernel_rfl)⟩
theorem zv41 : ZeroV Pg 41 (.nilfn) := ⟨((Pg.info? 41).bind (·.zero)).getD .nilFunc, (by kernel_rfl), (by kernel_rfl), (by kernel_rfl)⟩
theorem sli49 : sliOf Pg 49 = some (33, 587, true, 4720) := by kernel_rfl
theorem sz66 : szOf Pg 66 = some 5 := by kernel_rfl
theorem ag66 : aggOf Pg 66 = some true := by kernel_rfl
theorem lay66 : layOf Pg 66 = some [(0, 1, false), (1, 1, false), (2, 1, false), (3, 1, false), (4, 1, false)] := by kernel_rfl
theorem zv66 : ZeroV Pg 66 (.st [.int .i64 0, .int .i64 0, .int .i64 0, .int .i64 0, .int .i64 0]) := ⟨((Pg.info? 66).bind (·.zero)).getD .nilFunc, (by kernel_rfl), (by kernel_rfl), (by kernel_rfl)⟩
theorem und81 : Pg.underlying 81 = some (.map 3 41) := by kernel_rfl
theorem sli114 : sliOf Pg 114 = some (31, 1, false, 24) := by kernel_rfl
theorem sz116 : szOf Pg 116 = some 1 := by kernel_rfl
theorem ag116 : aggOf Pg 116 = some false := by kernel_rfl
theorem sli116 : sliOf Pg 116 = some (3, 1, false, 8) := by kernel_rfl
theorem und116 : Pg.underlying 116 = some (.slice 3) := by kernel_rfl
theorem und134 : Pg.underlying 134 = some (.map 135 3) := by kernel_rfl
theorem sz135 : szOf Pg 135 = some 2 := by kernel_rfl
theorem arr135 : arrOf Pg 135 = some (2, 1, false) := by kernel_rfl
theorem zv135 : ZeroV Pg 135 (.arr 1 (List.replicate 2 (.int .i64 0))) := ⟨((Pg.info? 135).bind (·.zero)).getD .nilFunc, (by kernel_rfl), (by kernel_rfl), (by kernel_rfl)⟩
theorem arr171 : arrOf Pg 171 = some (2, 2, true) := by kernel_rfl
theorem zv171 : ZeroV Pg 171 (.arr 2 (List.replicate 2 (.arr 1 (List.replicate 2 (.int .i64 0))))) := ⟨((Pg.info? 171).bind (·.zero)).getD .nilFunc, (by kernel_rfl), (by kernel_rfl), (by kernel_rfl)⟩
theorem arr172 : arrOf Pg 172 = some (4, 2, true) := by kernel_rfl
theorem zv172 : ZeroV Pg 172 (.arr 2 (List.replicate 4 (.arr 1 (List.replicate 2 (.int .i64 0))))) := ⟨((Pg.info? 172).bind (·.zero)).getD .nilFunc, (by kernel_rfl), (by kernel_rfl), (by kernel_rfl)⟩
theorem key135 : Maps.Keyed Pg 135 := .of_law (deep_law_gate (by kernel_rfl) (of_decide_eq_true (by kernel_rfl)) (of_decide_eq_true (by kernel_rfl)) (by kernel_rfl) (by kernel_rfl))
theorem kt135 : KeyT Pg 135 E_A2_i64 okInts := keyT_ints (e := 3) (by kernel_rfl) (by kernel_rfl) (by kernel_rfl) (by kernel_rfl) (by kernel_rfl) (of_decide_eq_true (by kernel_rfl))
theorem eqt28 : EqT Pg 28 (.st [(0, .int .i64), (1, .int .i64), (2, .int .i64), (3, .st [(0, .arr 16 1 (.int .i64)), (16, .arr 16 1 (.int .i64)), (32, .arr 16 16 (.arr 16 1 (.int .i64)))] 288), (291, .st [(0, .arr 16 1 (.int .i64)), (16, .arr 16 1 (.int .i64)), (32, .arr 16 16 (.arr 16 1 (.int .i64)))] 288)] 579) := ⟨by kernel_rfl, by kernel_rfl⟩
theorem eqt30 : EqT Pg 30 (.st [(0, .int .i64), (1, .int .i64), (2, .int .i64), (3, .int .i64)] 4) := ⟨by kernel_rfl, by kernel_rfl⟩
theorem eqt66 : EqT Pg 66 (.st [(0, .int .i64), (1, .int .i64), (2, .int .i64), (3, .int .i64), (4, .int .i64)] 5) := ⟨by kernel_rfl, by kernel_rfl⟩
theorem ent11 : enters Pg 11 = true := by kernel_rfl
theorem ent12 : enters Pg 12 = true := by kernel_rfl
theorem ent13 : enters Pg 13 = true := by kernel_rfl
theorem ent14 : enters Pg 14 = true := by kernel_rfl
theorem ent15 : enters Pg 15 = true := by kernel_rfl
theorem ent16 : enters Pg 16 = true := by kernel_rfl
theorem ent18 : enters Pg 18 = true := by kernel_rfl
theorem ent26 : enters Pg 26 = true := by kernel_rfl
theorem ent27 : enters Pg 27 = true := by kernel_rfl
theorem ent28 : enters Pg 28 = true := by kernel_rfl
theorem ent32 : enters Pg 32 = true := by kernel_rfl
theorem ent34 : enters Pg 34 = true := by kernel_rfl
theorem ent35 : enters Pg 35 = true := by kernel_rfl
theorem ent36 : enters Pg 36 = true := by kernel_rfl
theorem ent37 : enters Pg 37 = true := by kernel_rfl
theorem ent38 : enters Pg 38 = true := by kernel_rfl
theorem ent39 : enters Pg 39 = true := by kernel_rfl
theorem ent40 : enters Pg 40 = true := by kernel_rfl
theorem ent41 : enters Pg 41 = true := by kernel_rfl
theorem ent42 : enters Pg 42 = true := by kernel_rfl
theorem ent43 : enters Pg 43 = true := by kernel_rfl
theorem ent44 : enters Pg 44 = true := by kernel_rfl
theorem ent45 : enters Pg 45 = true := by kernel_rfl
theorem ent54 : enters Pg 54 = true := by kernel_rfl
theorem ent55 : enters Pg 55 = true := by kernel_rfl
theorem ent56 : enters Pg 56 = true := by kernel_rfl
theorem ent57 : enters Pg 57 = true := by kernel_rfl
theorem ent58 : enters Pg 58 = true := by kernel_rfl
theorem ent59 : enters Pg 59 = true := by kernel_rfl
theorem ent64 : enters Pg 64 = true := by kernel_rfl
theorem ent65 : enters Pg 65 = true := by kernel_rfl
theorem ent70 : enters Pg 70 = true := by kernel_rfl
theorem ent71 : enters Pg 71 = true := by kernel_rfl
theorem ent72 : enters Pg 72 = true := by kernel_rfl
theorem ent73 : enters Pg 73 = true := by kernel_rfl
theorem ent74 : enters Pg 74 = true := by kernel_rfl
theorem ent75 : enters Pg 75 = true := by kernel_rfl
theorem ent76 : enters Pg 76 = true := by kernel_rfl
theorem ent77 : enters Pg 77 = true := by kernel_rfl
theorem ent78 : enters Pg 78 = true := by kernel_rfl
theorem ent79 : enters Pg 79 = true := by kernel_rfl
theorem ent80 : enters Pg 80 = true := by kernel_rfl
theorem ent81 : enters Pg 81 = true := by kernel_rfl
theorem ent82 : enters Pg 82 = true := by kernel_rfl
theorem ent83 : enters Pg 83 = true := by kernel_rfl
theorem ent84 : enters Pg 84 = true := by kernel_rfl
theorem ent85 : enters Pg 85 = true := by kernel_rfl
theorem ent86 : enters Pg 86 = true := by kernel_rfl
theorem ent87 : enters Pg 87 = true := by kernel_rfl
theorem ent103 : enters Pg 103 = true := by kernel_rfl
theorem ent104 : enters Pg 104 = true := by kernel_rfl
theorem ent105 : enters Pg 105 = true := by kernel_rfl
theorem ent106 : enters Pg 106 = true := by kernel_rfl
theorem ent107 : enters Pg 107 = true := by kernel_rfl
theorem ent108 : enters Pg 108 = true := by kernel_rfl
theorem ent109 : enters Pg 109 = true := by kernel_rfl
theorem ent119 : enters Pg 119 = true := by kernel_rfl
theorem ent123 : enters Pg 123 = true := by kernel_rfl
theorem ent124 : enters Pg 124 = true := by kernel_rfl
theorem ent125 : enters Pg 125 = true := by kernel_rfl
theorem ent126 : enters Pg 126 = true := by kernel_rfl
theorem ent127 : enters Pg 127 = true := by kernel_rfl
theorem ent128 : enters Pg 128 = true := by kernel_rfl
theorem ent129 : enters Pg 129 = true := by kernel_rfl
theorem ent130 : enters Pg 130 = true := by kernel_rfl
theorem ent131 : enters Pg 131 = true := by kernel_rfl
theorem ent132 : enters Pg 132 = true := by kernel_rfl
theorem ent133 : enters Pg 133 = true := by kernel_rfl
theorem ent134 : enters Pg 134 = true := by kernel_rfl
theorem ent147 : enters Pg 147 = true := by kernel_rfl
theorem ent148 : enters Pg 148 = true := by kernel_rfl
theorem ent149 : enters Pg 149 = true := by kernel_rfl
theorem ent154 : enters Pg 154 = true := by kernel_rfl
theorem ent155 : enters Pg 155 = true := by kernel_rfl
theorem ent156 : enters Pg 156 = true := by kernel_rfl
theorem ent157 : enters Pg 157 = true := by kernel_rfl
theorem ent158 : enters Pg 158 = true := by kernel_rfl
theorem ent159 : enters Pg 159 = true := by kernel_rfl
theorem ent160 : enters Pg 160 = true := by kernel_rfl
theorem ent182 : enters Pg 182 = true := by kernel_rfl
theorem ent187 : enters Pg 187 = true := by kernel_rfl
theorem ent188 : enters Pg 188 = true := by kernel_rfl
theorem C_usufructlaw07_Few {a1 : List TField} {r : Bool} (h : usufructlaw07_Few a1 = some r) : PureC Pg 11 [.sl 587 .no (List.map E_TField a1)] (V.bool r) := by
  refine PureC.ofF (CallSpec.of_bodyF 22 0 fn11 rfl rfl rfl (Nat.le_of_ble_eq_true rfl) ?_) (ltL_c (lt_sl rfl (ty_TField.ltm _ _)) ltL_nil) (TyOk.bool.lt _ _)
  replace h := Ok.of h
  unfold usufructlaw07_Few at h
  refine AWp.seq ?_
  refine W.reg [0] rfl ?_
  refine S.sil 2 rfl rfl (fun _ hF => .assign cB) ?_
  refine S.nil ?_
  refine thenQ_n ?_
  refine AWp.seq ?_
  refine AWp.seq ?_
  refine W.reg [0, 1, 2] rfl ?_
  refine S.sil 5 rfl rfl (fun _ hF => .move (lk 1 rfl rfl)) ?_
  refine S.sil 6 rfl rfl (fun _ hF => .lenT sli49 (lk 0 rfl rfl) (vsub rfl (.refl _))) ?_
  refine S.sil 7 rfl rfl (fun _ hF => .move cI) ?_
  refine S.nil ?_
  refine thenQ_n ?_
  refine AWp.cutL (fun x4 => ⟨[(2, V.bool false)], []⟩) nc_then h (fun q2 hq2 h => ?_) (fun x4 h => ?_)
  · refine AWp.block ?_
    refine AWp.loopT (fun s3 => ⟨[(7, (V.int .i64) s3), (6, (V.int .i64) (a1.length : Int)), (5, .sl 587 .no (List.map E_TField a1)), (2, V.bool false)], []⟩) hq2 (Wk.selS [] (by decide) rfl (SelE.leaf (lk 0 rfl rfl) rfl (.refl _) (fun m => ((TyOk.int .i64).lt _ _)) (SelE.leaf (lk 1 rfl rfl) rfl (.refl _) (fun m => ((TyOk.int .i64).lt _ _)) (SelE.leaf (lk 2 rfl rfl) rfl (.refl _) (fun m => (lt_sl rfl (ty_TField.ltm _ _))) (SelE.leaf (lk 3 rfl rfl) rfl (.refl _) (fun m => (TyOk.bool.lt _ _)) .nil)))) .nil) (fun _ s3 h2 => ?_)
    rw [usufructlaw07_Few_L1] at h2
    refine AWp.seq ?_
    refine W.reg [0] rfl ?_
    refine S.sil 8 rfl rfl (fun _ hF => .lss (lk 0 rfl rfl) (lk 1 rfl rfl)) ?_
    refine S.nil ?_
    refine thenQ_n ?_
    refine AWp.seq ?_
    refine AWp.condM (lk 0 rfl rfl) h2 (fun c1 h2 => ?_) (fun c1 h2 => ?_)
    · skip
      refine AWp.skip ?_
      refine thenQ_n ?_
      refine AWp.seq ?_
      refine AWp.block ?_
      refine AWp.seq ?_
      refine W.reg [0, 1, 2, 3] rfl ?_
      obtain ⟨j5, m5, h2⟩ := h2.bnd
      refine S.sil 9 rfl rfl (fun _ hF => .ixS sli49 (lk 3 rfl rfl) (lk 1 rfl rfl) m5) ?_
      obtain ⟨v6, ev6, h2⟩ := h2.nam
      refine S.sil 10 rfl rfl (fun _ hF => .nv (.loadC sz33 ag33 (lk 0 rfl rfl) (ty_TField.fl (a1.getD j5 default)) rfl) (congrArg E_TField ev6.symm)) ?_
      refine S.eff 4 rfl rfl (.nf (v2 := .ptr 0 [] 0) (H2 := [.cells (.st [V.str (default : ByteArray), (V.int .i64) 0, (V.int .i64) 0, E_TCounter (default : TCounter), E_TLock (default : TLock), .nils])]) (.alloc zv33) rfl rfl) trivial ?_
      refine S.effN rfl rfl (.nf (H2 := [.cells (E_TField v6)]) (.storeP sz33 (lk 0 rfl rfl) (lk 1 rfl rfl) rfl (.refl _) rfl .nil (by first | rfl | omega) .nil (ty_TField.fl v6) (fl_st (flL_c (show flen _ = 1 from rfl) (flL_c (show flen _ = 1 from rfl) (flL_c (show flen _ = 1 from rfl) (flL_c (ty_TCounter.fl (default : TCounter)) (flL_c (ty_TLock.fl (default : TLock)) (flL_c (show flen _ = 1 from rfl) flL_nil))))))) rfl) rfl rfl) trivial ?_
      refine S.nil ?_
      refine thenQ_n ?_
      refine AWp.wk (Wk.freeze 0 rfl rfl (.cons (lk 0 rfl rfl) rfl (.ptr .nil (by first | rfl | omega)) (.same (lk 1 rfl rfl) (.same (lk 2 rfl rfl) (.same (lk 3 rfl rfl) (.same (lk 4 rfl rfl) (.same (lk 5 rfl rfl) (.same (lk 6 rfl rfl) (.same (lk 7 rfl rfl) .nil)))))))) (.refl _)) ?_
      refine AWp.seq ?_
      refine W.reg [0, 1, 2, 3, 4, 5, 6, 7, 8, 9] rfl ?_
      refine S.sil 11 rfl rfl (fun _ hF => .fieldAddrC lay33 rfl rfl (lk 0 rfl rfl) rfl flL_nil) ?_
      refine S.sil 12 rfl rfl (fun _ hF => .loadC sz9 ag9 (lk 0 rfl rfl) rfl rfl) ?_
      refine S.sil 13 rfl rfl (fun _ hF => .lenS und9 (lk 0 rfl rfl)) ?_
      refine S.sil 14 rfl rfl (fun _ hF => .gtr (lk 0 rfl rfl) cI) ?_
      refine S.sil 15 rfl rfl (fun _ hF => .move (lk 0 rfl rfl)) ?_
      refine S.gsil 16 4 15 false rfl rfl rfl (lk 0 rfl rfl) (fun hB _ hF => .fieldAddrC lay33 rfl rfl (lk 5 rfl rfl) rfl (flL_c (show flen _ = 1 from rfl) (flL_c (show flen _ = 1 from rfl) (flL_c (show flen _ = 1 from rfl) (flL_c (ty_TCounter.fl v6.Counter) (flL_c (ty_TLock.fl v6.Lock) flL_nil)))))) ?_
      refine S.gsil 17 4 15 false rfl rfl rfl (lk 1 rfl rfl) (fun hB _ hF => .loadC sz31 ag31 (ifT hB (lk 0 rfl rfl)) rfl rfl) ?_
      refine S.gsil 18 4 15 false rfl rfl rfl (lk 2 rfl rfl) (fun hB _ hF => .lenT sli31 (ifT hB (lk 0 rfl rfl)) (vsub rfl (.refl _))) ?_
      refine S.gsil 19 4 15 false rfl rfl rfl (lk 3 rfl rfl) (fun hB _ hF => .gtr (ifT hB (lk 0 rfl rfl)) cI) ?_
      obtain ⟨v7, ev7, h2⟩ := h2.nam
      refine S.sil 20 rfl rfl (fun _ hF => .nv (.pickOr (lk 4 rfl rfl) cB (fun h => ifT h (lk 0 rfl rfl))) (congrArg V.bool ev7.symm)) ?_
      refine S.nil ?_
      refine thenQ_n ?_
      refine AWp.condM (lk 0 rfl rfl) h2 (fun c2 h2 => ?_) (fun c2 h2 => ?_)
      · skip
        refine AWp.seq ?_
        refine W.reg [0] rfl ?_
        refine S.sil 2 rfl rfl (fun _ hF => .assign cB) ?_
        refine S.nil ?_
        refine thenQ_n ?_
        refine AWp.ret ?_
        refine blockQ_r ?_
        refine thenQ_r ?_
        refine thenQ_r ?_
        refine blockQ_r ?_
        refine thenQ_r ?_
        refine thenQ_r ?_
        have h := Ok.inrq h h2.ret
        obtain rfl := h.ret
        exact endF1 rfl (Wk.selS [] .nil rfl (SelE.leaf (lk 0 rfl rfl) rfl (.refl _) (fun m => (TyOk.bool.lt _ _)) .nil) .nil) (.tmp (lk 0 rfl rfl) rfl) rfl rfl
      · skip
        refine AWp.skip ?_
        refine blockQ_n ?_
        refine thenQ_n ?_
        refine W.reg [0, 1] rfl ?_
        refine S.sil 21 rfl rfl (fun _ hF => .add (lk 14 rfl rfl) cI) ?_
        refine S.sil 7 rfl rfl (fun _ hF => .move (lk 0 rfl rfl)) ?_
        refine S.nil ?_
        refine thenQ_n ?_
        exact ⟨_, h2.ret, (Wk.selS [] (by decide) rfl (SelE.leaf (lk 0 rfl rfl) rfl (.refl _) (fun m => ((TyOk.int .i64).lt _ _)) (SelE.leaf (lk 17 rfl rfl) rfl (.refl _) (fun m => ((TyOk.int .i64).lt _ _)) (SelE.leaf (lk 18 rfl rfl) rfl (.refl _) (fun m => (lt_sl rfl (ty_TField.ltm _ _))) (SelE.leaf (lk 19 rfl rfl) rfl (.refl _) (fun m => (TyOk.bool.lt _ _)) .nil)))) .nil)⟩
    · skip
      refine AWp.exit ?_
      refine thenQ_x ?_
      refine thenQ_x ?_
      refine blockQ_x ?_
      refine thenQ_n ?_
      exact ⟨_, h2.ret, (Wk.selS [] (by decide) rfl (SelE.leaf (lk 4 rfl rfl) rfl (.refl _) (fun m => (TyOk.bool.lt _ _)) .nil) .nil)⟩
  · skip
    refine thenQ_n ?_
    refine AWp.seq ?_
    refine W.reg [0] rfl ?_
    refine S.sil 2 rfl rfl (fun _ hF => .assign cB) ?_
    refine S.nil ?_
    refine thenQ_n ?_
    refine AWp.ret ?_
    obtain rfl := h.ret
    exact endF1 rfl (Wk.selS [] .nil rfl (SelE.leaf (lk 0 rfl rfl) rfl (.refl _) (fun m => (TyOk.bool.lt _ _)) .nil) .nil) (.tmp (lk 0 rfl rfl) rfl) rfl rfl
theorem C_usufructref07_Name {a1 : ByteArray} {r : Bool} (h : usufructref07_Name a1 = some r) : PureC Pg 39 [V.str a1] (V.bool r) := by
  refine PureC.ofF (CallSpec.of_bodyF 28 0 fn39 rfl rfl rfl (Nat.le_of_ble_eq_true rfl) ?_) (ltL_c (TyOk.str.lt _ _) ltL_nil) (TyOk.bool.lt _ _)
  replace h := Ok.of h
  unfold usufructref07_Name at h
  refine AWp.seq ?_
  refine W.reg [0] rfl ?_
  refine S.sil 2 rfl rfl (fun _ hF => .assign cB) ?_
  refine S.nil ?_
  refine thenQ_n ?_
  refine AWp.seq ?_
  refine AWp.seq ?_
  refine W.reg [0] rfl ?_
  refine S.sil 3 rfl rfl (fun _ hF => .assign cI) ?_
  refine S.nil ?_
  refine thenQ_n ?_
  refine AWp.cutL (fun x4 => ⟨[(2, V.bool false), (0, V.str a1)], []⟩) nc_then h (fun q2 hq2 h => ?_) (fun x4 h => ?_)
  · refine AWp.block ?_
    refine AWp.loopT (fun s3 => ⟨[(3, (V.int .i64) s3), (2, V.bool false), (0, V.str a1)], []⟩) hq2 (Wk.selS [] (by decide) rfl (SelE.leaf (lk 0 rfl rfl) rfl (.refl _) (fun m => ((TyOk.int .i64).lt _ _)) (SelE.leaf (lk 1 rfl rfl) rfl (.refl _) (fun m => (TyOk.bool.lt _ _)) (SelE.leaf (lk 2 rfl rfl) rfl (.refl _) (fun m => (TyOk.str.lt _ _)) .nil))) .nil) (fun _ s3 h2 => ?_)
    rw [usufructref07_Name_L1] at h2
    refine AWp.seq ?_
    refine AWp.seq ?_
    refine W.reg [0, 1, 2, 3] rfl ?_
    refine S.sil 4 rfl rfl (fun _ hF => .move (lk 0 rfl rfl)) ?_
    refine S.sil 5 rfl rfl (fun _ hF => .move (lk 3 rfl rfl)) ?_
    refine S.sil 6 rfl rfl (fun _ hF => .lenS und9 (lk 0 rfl rfl)) ?_
    refine S.sil 7 rfl rfl (fun _ hF => .lss (lk 2 rfl rfl) (lk 0 rfl rfl)) ?_
    refine S.nil ?_
    refine thenQ_n ?_
    refine AWp.condM (lk 0 rfl rfl) h2 (fun c1 h2 => ?_) (fun c1 h2 => ?_)
    · skip
      refine AWp.skip ?_
      refine thenQ_n ?_
      refine AWp.seq ?_
      refine AWp.block ?_
      refine AWp.seq ?_
      refine W.reg [0, 1, 2, 3, 4, 5, 6, 7, 8, 9] rfl ?_
      refine S.sil 10 rfl rfl (fun _ hF => .move (lk 6 rfl rfl)) ?_
      refine S.sil 11 rfl rfl (fun _ hF => .move (lk 5 rfl rfl)) ?_
      obtain ⟨n5, m5, h2⟩ := h2.bnd
      refine S.sil 12 rfl rfl (fun _ hF => .ixStr und9 (lk 1 rfl rfl) (lk 0 rfl rfl) m5) ?_
      refine S.sil 13 rfl rfl (fun _ hF => .lss (lk 0 rfl rfl) cI) ?_
      refine S.sil 14 rfl rfl (fun _ hF => .move (lk 0 rfl rfl)) ?_
      refine S.gsil 15 4 14 false rfl rfl rfl (lk 0 rfl rfl) (fun hB _ hF => .move (lk 11 rfl rfl)) ?_
      refine S.gsil 16 4 14 false rfl rfl rfl (lk 1 rfl rfl) (fun hB _ hF => .move (lk 10 rfl rfl)) ?_
      obtain ⟨n6, m6, h2⟩ := h2.bnd
      refine S.gsil 17 4 14 false rfl rfl rfl (lk 2 rfl rfl) (fun hB _ hF => .ixStr und9 (ifT hB (lk 1 rfl rfl)) (ifT hB (lk 0 rfl rfl)) (gd_get m6 hB)) ?_
      refine S.gsil 18 4 14 false rfl rfl rfl (lk 3 rfl rfl) (fun hB _ hF => .gtr (ifT hB (lk 0 rfl rfl)) cI) ?_
      refine S.sil 19 rfl rfl (fun _ hF => .pickOr (lk 4 rfl rfl) cB (fun h => ifT h (lk 0 rfl rfl))) ?_
      refine S.nil ?_
      refine thenQ_n ?_
      refine AWp.condM (lk 0 rfl rfl) h2 (fun c2 h2 => ?_) (fun c2 h2 => ?_)
      · skip
        refine AWp.seq ?_
        refine W.reg [0] rfl ?_
        refine S.sil 2 rfl rfl (fun _ hF => .assign cB) ?_
        refine S.nil ?_
        refine thenQ_n ?_
        refine AWp.ret ?_
        refine blockQ_r ?_
        refine thenQ_r ?_
        refine thenQ_r ?_
        refine blockQ_r ?_
        refine thenQ_r ?_
        refine thenQ_r ?_
        have h := Ok.inrq h h2.ret
        obtain rfl := h.ret
        exact endF1 rfl (Wk.selS [] .nil rfl (SelE.leaf (lk 0 rfl rfl) rfl (.refl _) (fun m => (TyOk.bool.lt _ _)) .nil) .nil) (.tmp (lk 0 rfl rfl) rfl) rfl rfl
      · skip
        refine AWp.skip ?_
        refine blockQ_n ?_
        refine thenQ_n ?_
        refine W.reg [0, 1, 2] rfl ?_
        refine S.sil 8 rfl rfl (fun _ hF => .move (lk 14 rfl rfl)) ?_
        refine S.sil 9 rfl rfl (fun _ hF => .add (lk 0 rfl rfl) cI) ?_
        refine S.sil 3 rfl rfl (fun _ hF => .assign (lk 0 rfl rfl)) ?_
        refine S.nil ?_
        refine thenQ_n ?_
        exact ⟨_, h2.ret, (Wk.selS [] (by decide) rfl (SelE.leaf (lk 0 rfl rfl) rfl (.refl _) (fun m => ((TyOk.int .i64).lt _ _)) (SelE.leaf (lk 18 rfl rfl) rfl (.refl _) (fun m => (TyOk.bool.lt _ _)) (SelE.leaf (lk 19 rfl rfl) rfl (.refl _) (fun m => (TyOk.str.lt _ _)) .nil))) .nil)⟩
    · skip
      refine AWp.exit ?_
      refine thenQ_x ?_
      refine thenQ_x ?_
      refine blockQ_x ?_
      refine thenQ_n ?_
      exact ⟨_, h2.ret, (Wk.selS [] (by decide) rfl (SelE.leaf (lk 5 rfl rfl) rfl (.refl _) (fun m => (TyOk.bool.lt _ _)) (SelE.leaf (lk 6 rfl rfl) rfl (.refl _) (fun m => (TyOk.str.lt _ _)) .nil)) .nil)⟩
  · skip
    refine thenQ_n ?_
    refine AWp.seq ?_
    refine W.reg [0, 1, 2, 3, 4, 5, 6, 7, 8] rfl ?_
    refine S.sil 20 rfl rfl (fun _ hF => .move (lk 1 rfl rfl)) ?_
    refine S.sil 21 rfl rfl (fun _ hF => .lenS und9 (lk 0 rfl rfl)) ?_
    refine S.sil 22 rfl rfl (fun _ hF => .gtr (lk 0 rfl rfl) cI) ?_
    refine S.sil 23 rfl rfl (fun _ hF => .move (lk 0 rfl rfl)) ?_
    refine S.gsil 24 3 23 true rfl rfl rfl (lk 0 rfl rfl) (fun hB _ hF => .move (lk 5 rfl rfl)) ?_
    refine S.gsil 25 3 23 true rfl rfl rfl (lk 1 rfl rfl) (fun hB _ hF => .lenS und9 (ifT hB (lk 0 rfl rfl))) ?_
    refine S.gsil 26 3 23 true rfl rfl rfl (lk 2 rfl rfl) (fun hB _ hF => .leq (ifT hB (lk 0 rfl rfl)) cI) ?_
    refine S.sil 27 rfl rfl (fun _ hF => .pickAnd (lk 3 rfl rfl) (fun h => ifT h (lk 0 rfl rfl)) cB) ?_
    obtain ⟨v7, ev7, h⟩ := h.nam
    refine S.sil 2 rfl rfl (fun _ hF => .nv (.assign (lk 0 rfl rfl)) (congrArg V.bool ev7.symm)) ?_
    refine S.nil ?_
    refine thenQ_n ?_
    refine AWp.prune (.eq (lk 0 rfl rfl) rfl .nil) ?_
    refine AWp.ret ?_
    obtain rfl := h.ret
    exact endF1 rfl (Wk.selS [] .nil rfl (SelE.leaf (lk 0 rfl rfl) rfl (.refl _) (fun m => (TyOk.bool.lt _ _)) .nil) .nil) (.tmp (lk 0 rfl rfl) rfl) rfl rfl
theorem C_usufructref01_Is {a1 : Int} {r : Bool} (h : usufructref01_Is a1 = some r) : PureC Pg 40 [(V.int .i64) a1] (V.bool r) := by
  refine PureC.ofF (CallSpec.of_bodyF 9 0 fn40 rfl rfl rfl (Nat.le_of_ble_eq_true rfl) ?_) (ltL_c ((TyOk.int .i64).lt _ _) ltL_nil) (TyOk.bool.lt _ _)
  replace h := Ok.of h
  unfold usufructref01_Is at h
  refine AWp.seq ?_
  refine W.reg [0] rfl ?_
  refine S.sil 2 rfl rfl (fun _ hF => .assign cB) ?_
  refine S.nil ?_
  refine thenQ_n ?_
  refine AWp.seq ?_
  refine W.reg [0, 1, 2, 3, 4, 5, 6] rfl ?_
  refine S.sil 3 rfl rfl (fun _ hF => .move (lk 1 rfl rfl)) ?_
  refine S.sil 4 rfl rfl (fun _ hF => .leq (lk 0 rfl rfl) cI) ?_
  refine S.sil 5 rfl rfl (fun _ hF => .move (lk 0 rfl rfl)) ?_
  refine S.gsil 6 2 5 true rfl rfl rfl (lk 0 rfl rfl) (fun hB _ hF => .move (lk 4 rfl rfl)) ?_
  refine S.gsil 7 2 5 true rfl rfl rfl (lk 1 rfl rfl) (fun hB _ hF => .geq (ifT hB (lk 0 rfl rfl)) cI) ?_
  refine S.sil 8 rfl rfl (fun _ hF => .pickAnd (lk 2 rfl rfl) (fun h => ifT h (lk 0 rfl rfl)) cB) ?_
  obtain ⟨v2, ev2, h⟩ := h.nam
  refine S.sil 2 rfl rfl (fun _ hF => .nv (.assign (lk 0 rfl rfl)) (congrArg V.bool ev2.symm)) ?_
  refine S.nil ?_
  refine thenQ_n ?_
  refine AWp.ret ?_
  obtain rfl := h.ret
  exact endF1 rfl (Wk.selS [] .nil rfl (SelE.leaf (lk 0 rfl rfl) rfl (.refl _) (fun m => (TyOk.bool.lt _ _)) .nil) .nil) (.tmp (lk 0 rfl rfl) rfl) rfl rfl
theorem C_usufructref02_Right {a1 : Vector Int 16} {r : Bool} (h : usufructref02_Right a1 = some r) : PureC Pg 130 [E_A16_i64 a1] (V.bool r) := by
  refine PureC.ofF (CallSpec.of_bodyF 18 0 fn130 rfl rfl rfl (Nat.le_of_ble_eq_true rfl) ?_) (ltL_c (ty_A16_i64.lt _ _) ltL_nil) (TyOk.bool.lt _ _)
  replace h := Ok.of h
  unfold usufructref02_Right at h
  refine AWp.seq ?_
  refine W.reg [0, 1] rfl ?_
  refine S.eff 1 rfl rfl (.nf (v2 := .ptr 0 [] 0) (H2 := [.cells (E_A16_i64 a1)]) (.box (lk 0 rfl rfl) rfl) rfl rfl) trivial ?_
  refine S.sil 2 rfl rfl (fun _ hF => .assign cB) ?_
  refine S.nil ?_
  refine thenQ_n ?_
  refine AWp.wk (Wk.freeze 0 rfl rfl (.same (lk 0 rfl rfl) (.cons (lk 1 rfl rfl) rfl (.ptr .nil (by first | rfl | omega)) .nil)) (.refl _)) ?_
  refine AWp.seq ?_
  refine AWp.seq ?_
  refine W.reg [0] rfl ?_
  refine S.sil 3 rfl rfl (fun _ hF => .assign cI) ?_
  refine S.nil ?_
  refine thenQ_n ?_
  refine AWp.cutL (fun x4 => ⟨[(2, V.bool false)], []⟩) nc_then h (fun q2 hq2 h => ?_) (fun x4 h => ?_)
  · refine AWp.block ?_
    refine AWp.loopT (fun s3 => ⟨[(3, (V.int .i64) s3), (2, V.bool false), (1, .cptr (E_A16_i64 a1))], []⟩) hq2 (Wk.selS [] (by decide) rfl (SelE.leaf (lk 0 rfl rfl) rfl (.refl _) (fun m => ((TyOk.int .i64).lt _ _)) (SelE.leaf (lk 1 rfl rfl) rfl (.refl _) (fun m => (TyOk.bool.lt _ _)) (SelE.leaf (lk 2 rfl rfl) rfl (.refl _) (fun m => (lt_cptr (ty_A16_i64.lt _ _))) .nil))) .nil) (fun _ s3 h2 => ?_)
    rw [usufructref02_Right_L1] at h2
    refine AWp.seq ?_
    refine AWp.seq ?_
    refine W.reg [0, 1] rfl ?_
    refine S.sil 4 rfl rfl (fun _ hF => .move (lk 0 rfl rfl)) ?_
    refine S.sil 5 rfl rfl (fun _ hF => .lss (lk 0 rfl rfl) cI) ?_
    refine S.nil ?_
    refine thenQ_n ?_
    refine AWp.condM (lk 0 rfl rfl) h2 (fun c1 h2 => ?_) (fun c1 h2 => ?_)
    · skip
      refine AWp.skip ?_
      refine thenQ_n ?_
      refine AWp.seq ?_
      refine AWp.block ?_
      refine AWp.seq ?_
      refine W.reg [0, 1, 2, 3, 4, 5, 6, 7, 8, 9] rfl ?_
      refine S.sil 8 rfl rfl (fun _ hF => .move (lk 2 rfl rfl)) ?_
      obtain ⟨k5, m5, h2⟩ := h2.bnd
      refine S.sil 9 rfl rfl (fun _ hF => .ixC arr23 (lk 5 rfl rfl) (lk 0 rfl rfl) m5) ?_
      refine S.sil 10 rfl rfl (fun _ hF => .loadC sz3 ag3 (lk 0 rfl rfl) rfl rfl) ?_
      refine S.sil 11 rfl rfl (fun _ hF => .lss (lk 0 rfl rfl) cI) ?_
      refine S.sil 12 rfl rfl (fun _ hF => .move (lk 0 rfl rfl)) ?_
      refine S.gsil 13 4 12 false rfl rfl rfl (lk 0 rfl rfl) (fun hB _ hF => .move (lk 7 rfl rfl)) ?_
      obtain ⟨k6, m6, h2⟩ := h2.bnd
      refine S.gsil 14 4 12 false rfl rfl rfl (lk 1 rfl rfl) (fun hB _ hF => .ixC arr23 (lk 10 rfl rfl) (ifT hB (lk 0 rfl rfl)) (gd_get m6 hB)) ?_
      refine S.gsil 15 4 12 false rfl rfl rfl (lk 2 rfl rfl) (fun hB _ hF => .loadC sz3 ag3 (ifT hB (lk 0 rfl rfl)) rfl rfl) ?_
      refine S.gsil 16 4 12 false rfl rfl rfl (lk 3 rfl rfl) (fun hB _ hF => .gtr (ifT hB (lk 0 rfl rfl)) cI) ?_
      refine S.sil 17 rfl rfl (fun _ hF => .pickOr (lk 4 rfl rfl) cB (fun h => ifT h (lk 0 rfl rfl))) ?_
      refine S.nil ?_
      refine thenQ_n ?_
      refine AWp.condM (lk 0 rfl rfl) h2 (fun c2 h2 => ?_) (fun c2 h2 => ?_)
      · skip
        refine AWp.seq ?_
        refine W.reg [0] rfl ?_
        refine S.sil 2 rfl rfl (fun _ hF => .assign cB) ?_
        refine S.nil ?_
        refine thenQ_n ?_
        refine AWp.ret ?_
        refine blockQ_r ?_
        refine thenQ_r ?_
        refine thenQ_r ?_
        refine blockQ_r ?_
        refine thenQ_r ?_
        refine thenQ_r ?_
        have h := Ok.inrq h h2.ret
        obtain rfl := h.ret
        exact endF1 rfl (Wk.selS [] .nil rfl (SelE.leaf (lk 0 rfl rfl) rfl (.refl _) (fun m => (TyOk.bool.lt _ _)) .nil) .nil) (.tmp (lk 0 rfl rfl) rfl) rfl rfl
      · skip
        refine AWp.skip ?_
        refine blockQ_n ?_
        refine thenQ_n ?_
        refine W.reg [0, 1, 2] rfl ?_
        refine S.sil 6 rfl rfl (fun _ hF => .move (lk 12 rfl rfl)) ?_
        refine S.sil 7 rfl rfl (fun _ hF => .add (lk 0 rfl rfl) cI) ?_
        refine S.sil 3 rfl rfl (fun _ hF => .assign (lk 0 rfl rfl)) ?_
        refine S.nil ?_
        refine thenQ_n ?_
        exact ⟨_, h2.ret, (Wk.selS [] (by decide) rfl (SelE.leaf (lk 0 rfl rfl) rfl (.refl _) (fun m => ((TyOk.int .i64).lt _ _)) (SelE.leaf (lk 16 rfl rfl) rfl (.refl _) (fun m => (TyOk.bool.lt _ _)) (SelE.leaf (lk 17 rfl rfl) rfl (.refl _) (fun m => (lt_cptr (ty_A16_i64.lt _ _))) .nil))) .nil)⟩
    · skip
      refine AWp.exit ?_
      refine thenQ_x ?_
      refine thenQ_x ?_
      refine blockQ_x ?_
      refine thenQ_n ?_
      exact ⟨_, h2.ret, (Wk.selS [] (by decide) rfl (SelE.leaf (lk 3 rfl rfl) rfl (.refl _) (fun m => (TyOk.bool.lt _ _)) .nil) .nil)⟩
  · skip
    refine thenQ_n ?_
    refine AWp.seq ?_
    refine W.reg [0] rfl ?_
    refine S.sil 2 rfl rfl (fun _ hF => .assign cB) ?_
    refine S.nil ?_
    refine thenQ_n ?_
    refine AWp.ret ?_
    obtain rfl := h.ret
    exact endF1 rfl (Wk.selS [] .nil rfl (SelE.leaf (lk 0 rfl rfl) rfl (.refl _) (fun m => (TyOk.bool.lt _ _)) .nil) .nil) (.tmp (lk 0 rfl rfl) rfl) rfl rfl
theorem C_usufructref03_Right {a1 : TRights} {r : Bool} (h : usufructref03_Right a1 = some r) : PureC Pg 78 [E_TRights a1] (V.bool r) := by
  refine PureC.ofF (CallSpec.of_bodyF 35 0 fn78 rfl rfl rfl (Nat.le_of_ble_eq_true rfl) ?_) (ltL_c (ty_TRights.lt _ _) ltL_nil) (TyOk.bool.lt _ _)
  replace h := Ok.of h
  unfold usufructref03_Right at h
  refine AWp.seq ?_
  refine W.reg [0, 1] rfl ?_
  refine S.eff 1 rfl rfl (.nf (v2 := .ptr 0 [] 0) (H2 := [.cells (E_TRights a1)]) (.box (lk 0 rfl rfl) rfl) rfl rfl) trivial ?_
  refine S.sil 2 rfl rfl (fun _ hF => .assign cB) ?_
  refine S.nil ?_
  refine thenQ_n ?_
  refine AWp.wk (Wk.freeze 0 rfl rfl (.same (lk 0 rfl rfl) (.cons (lk 1 rfl rfl) rfl (.ptr .nil (by first | rfl | omega)) .nil)) (.refl _)) ?_
  refine AWp.seq ?_
  refine W.reg [0, 1, 2, 3, 4, 5, 6, 7, 8] rfl ?_
  refine S.sil 5 rfl rfl (fun _ hF => .fieldAddrC lay26 rfl rfl (lk 1 rfl rfl) rfl flL_nil) ?_
  refine S.sil 6 rfl rfl (fun _ hF => .loadC sz23 ag23 (lk 0 rfl rfl) (ty_A16_i64.fl a1.Given) rfl) ?_
  obtain ⟨r2, m2, h⟩ := h.bnd
  refine S.sil 7 rfl rfl (fun _ hF => .callQ ent130 cF (.c (lk 0 rfl rfl) (V.sub.refl _) .nil) (C_usufructref02_Right m2)) ?_
  refine S.sil 8 rfl rfl (fun _ hF => .move (lk 0 rfl rfl)) ?_
  refine S.gsil 9 3 8 true rfl rfl rfl (lk 0 rfl rfl) (fun hB _ hF => .fieldAddrC lay26 rfl rfl (lk 5 rfl rfl) rfl (flL_c (ty_A16_i64.fl a1.Given) flL_nil)) ?_
  refine S.gsil 10 3 8 true rfl rfl rfl (lk 1 rfl rfl) (fun hB _ hF => .loadC sz23 ag23 (ifT hB (lk 0 rfl rfl)) (ty_A16_i64.fl a1.Used) rfl) ?_
  obtain ⟨r3, m3, h⟩ := h.bnd
  refine S.gsil 11 3 8 true rfl rfl rfl (lk 2 rfl rfl) (fun hB _ hF => .callQ ent130 cF (.c (ifT hB (lk 0 rfl rfl)) (V.sub.refl _) .nil) (C_usufructref02_Right (gd_get m3 hB))) ?_
  refine S.sil 12 rfl rfl (fun _ hF => .pickAnd (lk 3 rfl rfl) (fun h => ifT h (lk 0 rfl rfl)) cB) ?_
  refine S.sil 3 rfl rfl (fun _ hF => .assign (lk 0 rfl rfl)) ?_
  refine S.nil ?_
  refine thenQ_n ?_
  refine AWp.seq ?_
  refine AWp.seq ?_
  refine W.reg [0] rfl ?_
  refine S.sil 4 rfl rfl (fun _ hF => .assign cI) ?_
  refine S.nil ?_
  refine thenQ_n ?_
  refine AWp.cutX (fun x6 => ⟨[(3, V.bool x6), (2, V.bool false)], []⟩) nc_then h (fun q4 hq4 => ?_) (fun x6 h => ?_)
  · refine AWp.block ?_
    refine AWp.loopT (fun s5 => ⟨[(4, (V.int .i64) s5.1), (3, V.bool s5.2), (2, V.bool false), (1, .cptr (E_TRights a1))], []⟩) hq4 (Wk.selS [] (by decide) rfl (SelE.leaf (lk 0 rfl rfl) rfl (.refl _) (fun m => ((TyOk.int .i64).lt _ _)) (SelE.leaf (lk 1 rfl rfl) rfl (.refl _) (fun m => (TyOk.bool.lt _ _)) (SelE.leaf (lk 10 rfl rfl) rfl (.refl _) (fun m => (TyOk.bool.lt _ _)) (SelE.leaf (lk 11 rfl rfl) rfl (.refl _) (fun m => (lt_cptr (ty_TRights.lt _ _))) .nil)))) .nil) (fun _ s5 h4 => ?_)
    rw [usufructref03_Right_L1] at h4
    refine AWp.seq ?_
    refine AWp.seq ?_
    refine W.reg [0, 1] rfl ?_
    refine S.sil 13 rfl rfl (fun _ hF => .move (lk 0 rfl rfl)) ?_
    refine S.sil 14 rfl rfl (fun _ hF => .lss (lk 0 rfl rfl) cI) ?_
    refine S.nil ?_
    refine thenQ_n ?_
    refine AWp.condM (lk 0 rfl rfl) h4 (fun c1 h4 => ?_) (fun c1 h4 => ?_)
    · skip
      refine AWp.skip ?_
      refine thenQ_n ?_
      refine AWp.seq ?_
      refine AWp.block ?_
      refine W.reg [0, 1, 2, 3, 4, 5, 6, 7, 8, 9, 10, 11, 12, 13, 14, 15, 16, 17] rfl ?_
      refine S.sil 17 rfl rfl (fun _ hF => .move (lk 3 rfl rfl)) ?_
      refine S.sil 18 rfl rfl (fun _ hF => .move (lk 0 rfl rfl)) ?_
      refine S.gsil 19 1 18 true rfl rfl rfl (lk 0 rfl rfl) (fun hB _ hF => .move (lk 4 rfl rfl)) ?_
      refine S.gsil 20 1 18 true rfl rfl rfl (lk 1 rfl rfl) (fun hB _ hF => .fieldAddrC lay26 rfl rfl (lk 8 rfl rfl) rfl (flL_c (ty_A16_i64.fl a1.Given) (flL_c (ty_A16_i64.fl a1.Used) flL_nil))) ?_
      obtain ⟨k7, m7, h4⟩ := h4.bnd
      refine S.gsil 21 1 18 true rfl rfl rfl (lk 2 rfl rfl) (fun hB _ hF => .ixC arr24 (ifT hB (lk 0 rfl rfl)) (ifT hB (lk 1 rfl rfl)) (gd_get m7 hB)) ?_
      refine S.gsil 22 1 18 true rfl rfl rfl (lk 3 rfl rfl) (fun hB _ hF => .loadC sz23 ag23 (ifT hB (lk 0 rfl rfl)) (ty_A16_i64.fl (a1.Moved.get k7)) rfl) ?_
      obtain ⟨r8, m8, h4⟩ := h4.bnd
      refine S.gsil 23 1 18 true rfl rfl rfl (lk 4 rfl rfl) (fun hB _ hF => .callQ ent130 cF (.c (ifT hB (lk 0 rfl rfl)) (V.sub.refl _) .nil) (C_usufructref02_Right (gd_get m8 hB))) ?_
      refine S.sil 24 rfl rfl (fun _ hF => .pickAnd (lk 5 rfl rfl) (fun h => ifT h (lk 0 rfl rfl)) cB) ?_
      refine S.sil 25 rfl rfl (fun _ hF => .move (lk 0 rfl rfl)) ?_
      refine S.gsil 26 8 25 true rfl rfl rfl (lk 0 rfl rfl) (fun hB _ hF => .move (lk 11 rfl rfl)) ?_
      refine S.gsil 27 8 25 true rfl rfl rfl (lk 1 rfl rfl) (fun hB _ hF => .move (lk 12 rfl rfl)) ?_
      refine S.gsil 28 8 25 true rfl rfl rfl (lk 2 rfl rfl) (fun hB _ hF => .fieldAddrC lay26 rfl rfl (lk 16 rfl rfl) rfl (flL_c (ty_A16_i64.fl a1.Given) (flL_c (ty_A16_i64.fl a1.Used) flL_nil))) ?_
      obtain ⟨k9, m9, h4⟩ := h4.bnd
      refine S.gsil 29 8 25 true rfl rfl rfl (lk 3 rfl rfl) (fun hB _ hF => .ixC arr24 (ifT hB (lk 0 rfl rfl)) (ifT hB (lk 2 rfl rfl)) (gd_get m9 hB)) ?_
      obtain ⟨k10, m10, h4⟩ := h4.bnd
      refine S.gsil 30 8 25 true rfl rfl rfl (lk 4 rfl rfl) (fun hB _ hF => .ixC arr23 (ifT hB (lk 0 rfl rfl)) (ifT hB (lk 2 rfl rfl)) (gd_get m10 hB)) ?_
      refine S.gsil 31 8 25 true rfl rfl rfl (lk 5 rfl rfl) (fun hB _ hF => .loadC sz3 ag3 (ifT hB (lk 0 rfl rfl)) rfl rfl) ?_
      refine S.gsil 32 8 25 true rfl rfl rfl (lk 6 rfl rfl) (fun hB _ hF => .eql (ifT hB (lk 0 rfl rfl)) cI) ?_
      refine S.sil 33 rfl rfl (fun _ hF => .pickAnd (lk 7 rfl rfl) (fun h => ifT h (lk 0 rfl rfl)) cB) ?_
      obtain ⟨v11, ev11, h4⟩ := h4.nam
      refine S.sil 3 rfl rfl (fun _ hF => .nv (.assign (lk 0 rfl rfl)) (congrArg V.bool ev11.symm)) ?_
      refine S.nil ?_
      refine blockQ_n ?_
      refine thenQ_n ?_
      refine AWp.prune (.eq (lk 0 rfl rfl) rfl (.eq (lk 1 rfl rfl) rfl (.eq (lk 9 rfl rfl) rfl (.eq (lk 10 rfl rfl) rfl (.eq (lk 16 rfl rfl) rfl (.eq (lk 17 rfl rfl) rfl (.eq (lk 18 rfl rfl) rfl (.eq (lk 19 rfl rfl) rfl (.eq (lk 20 rfl rfl) rfl (.eq (lk 22 rfl rfl) rfl (.eq (lk 23 rfl rfl) rfl .nil))))))))))) ?_
      refine W.reg [0, 1, 2] rfl ?_
      refine S.sil 15 rfl rfl (fun _ hF => .move (lk 8 rfl rfl)) ?_
      refine S.sil 16 rfl rfl (fun _ hF => .add (lk 0 rfl rfl) cI) ?_
      refine S.sil 4 rfl rfl (fun _ hF => .assign (lk 0 rfl rfl)) ?_
      refine S.nil ?_
      refine thenQ_n ?_
      exact ⟨_, h4.ret, (Wk.selS [] (by decide) rfl (SelE.leaf (lk 0 rfl rfl) rfl (.refl _) (fun m => ((TyOk.int .i64).lt _ _)) (SelE.leaf (lk 3 rfl rfl) rfl (.refl _) (fun m => (TyOk.bool.lt _ _)) (SelE.leaf (lk 12 rfl rfl) rfl (.refl _) (fun m => (TyOk.bool.lt _ _)) (SelE.leaf (lk 13 rfl rfl) rfl (.refl _) (fun m => (lt_cptr (ty_TRights.lt _ _))) .nil)))) .nil)⟩
    · skip
      refine AWp.exit ?_
      refine thenQ_x ?_
      refine thenQ_x ?_
      refine blockQ_x ?_
      refine thenQ_n ?_
      exact ⟨_, h4.ret, (Wk.selS [] (by decide) rfl (SelE.leaf (lk 3 rfl rfl) rfl (.refl _) (fun m => (TyOk.bool.lt _ _)) (SelE.leaf (lk 4 rfl rfl) rfl (.refl _) (fun m => (TyOk.bool.lt _ _)) .nil)) .nil)⟩
  · skip
    refine thenQ_n ?_
    refine AWp.seq ?_
    refine W.reg [0, 1] rfl ?_
    refine S.sil 34 rfl rfl (fun _ hF => .move (lk 0 rfl rfl)) ?_
    refine S.sil 2 rfl rfl (fun _ hF => .assign (lk 0 rfl rfl)) ?_
    refine S.nil ?_
    refine thenQ_n ?_
    refine AWp.ret ?_
    obtain rfl := h.ret
    exact endF1 rfl (Wk.selS [] .nil rfl (SelE.leaf (lk 0 rfl rfl) rfl (.refl _) (fun m => (TyOk.bool.lt _ _)) .nil) .nil) (.tmp (lk 0 rfl rfl) rfl) rfl rfl
theorem C_usufructref01_Add {a1 : Int} {a2 : Int} {r : Int × Int} (h : usufructref01_Add a1 a2 = some r) : PureC Pg 80 [(V.int .i64) a1, (V.int .i64) a2] (.tup [(V.int .i64) r.1, (V.int .i64) r.2]) := by
  refine PureC.ofF (CallSpec.of_bodyF 24 0 fn80 rfl rfl rfl (Nat.le_of_ble_eq_true rfl) ?_) (ltL_c ((TyOk.int .i64).lt _ _) (ltL_c ((TyOk.int .i64).lt _ _) ltL_nil)) (lt_tup (ltL_c ((TyOk.int .i64).lt _ _) (ltL_c ((TyOk.int .i64).lt _ _) ltL_nil)))
  replace h := Ok.of h
  unfold usufructref01_Add at h
  refine AWp.seq ?_
  refine W.reg [0, 1] rfl ?_
  refine S.sil 4 rfl rfl (fun _ hF => .assign cI) ?_
  refine S.sil 5 rfl rfl (fun _ hF => .assign cI) ?_
  refine S.nil ?_
  refine thenQ_n ?_
  refine AWp.seq ?_
  refine AWp.seq ?_
  refine W.reg [0, 1, 2, 3, 4, 5, 6, 7, 8, 9, 10, 11, 12, 13, 14] rfl ?_
  refine S.sil 6 rfl rfl (fun _ hF => .move (lk 2 rfl rfl)) ?_
  obtain ⟨r3, m3, h⟩ := h.bnd
  refine S.sil 7 rfl rfl (fun _ hF => .callQ ent40 cF (.c (lk 0 rfl rfl) (V.sub.refl _) .nil) (C_usufructref01_Is m3)) ?_
  refine S.sil 8 rfl rfl (fun _ hF => .not (lk 0 rfl rfl)) ?_
  refine S.sil 9 rfl rfl (fun _ hF => .move (lk 0 rfl rfl)) ?_
  refine S.gsil 10 3 9 false rfl rfl rfl (lk 0 rfl rfl) (fun hB _ hF => .move (lk 7 rfl rfl)) ?_
  obtain ⟨r4, m4, h⟩ := h.bnd
  refine S.gsil 11 3 9 false rfl rfl rfl (lk 1 rfl rfl) (fun hB _ hF => .callQ ent40 cF (.c (ifT hB (lk 0 rfl rfl)) (V.sub.refl _) .nil) (C_usufructref01_Is (gd_get m4 hB))) ?_
  refine S.gsil 12 3 9 false rfl rfl rfl (lk 2 rfl rfl) (fun hB _ hF => .not (ifT hB (lk 0 rfl rfl))) ?_
  refine S.sil 13 rfl rfl (fun _ hF => .pickOr (lk 3 rfl rfl) cB (fun h => ifT h (lk 0 rfl rfl))) ?_
  refine S.sil 14 rfl rfl (fun _ hF => .move (lk 0 rfl rfl)) ?_
  refine S.gsil 15 8 14 false rfl rfl rfl (lk 0 rfl rfl) (fun hB _ hF => .move (lk 11 rfl rfl)) ?_
  refine S.gsil 16 8 14 false rfl rfl rfl (lk 1 rfl rfl) (fun hB _ hF => .move (lk 13 rfl rfl)) ?_
  refine S.gsil 17 8 14 false rfl rfl rfl (lk 2 rfl rfl) (fun hB _ hF => .add (ifT hB (lk 1 rfl rfl)) (ifT hB (lk 0 rfl rfl))) ?_
  obtain ⟨r5, m5, h⟩ := h.bnd
  refine S.gsil 18 8 14 false rfl rfl rfl (lk 3 rfl rfl) (fun hB _ hF => .callQ ent40 cF (.c (ifT hB (lk 0 rfl rfl)) (V.sub.refl _) .nil) (C_usufructref01_Is (gd_get m5 hB))) ?_
  refine S.gsil 19 8 14 false rfl rfl rfl (lk 4 rfl rfl) (fun hB _ hF => .not (ifT hB (lk 0 rfl rfl))) ?_
  refine S.sil 20 rfl rfl (fun _ hF => .pickOr (lk 5 rfl rfl) cB (fun h => ifT h (lk 0 rfl rfl))) ?_
  refine S.nil ?_
  refine thenQ_n ?_
  refine AWp.prune (.eq (lk 0 rfl rfl) rfl (.eq (lk 15 rfl rfl) rfl (.eq (lk 16 rfl rfl) rfl (.eq (lk 17 rfl rfl) rfl (.eq (lk 18 rfl rfl) rfl .nil))))) ?_
  refine AWp.condM (lk 0 rfl rfl) h (fun c1 h => ?_) (fun c1 h => ?_)
  · skip
    refine AWp.seq ?_
    refine W.reg [0, 1] rfl ?_
    refine S.sil 4 rfl rfl (fun _ hF => .assign cI) ?_
    refine S.sil 5 rfl rfl (fun _ hF => .assign cI) ?_
    refine S.nil ?_
    refine thenQ_n ?_
    refine AWp.ret ?_
    refine thenQ_r ?_
    obtain rfl := h.ret
    exact endFN rfl (Wk.selS [] .nil rfl (SelE.leaf (lk 1 rfl rfl) rfl (.refl _) (fun m => ((TyOk.int .i64).lt _ _)) (SelE.leaf (lk 0 rfl rfl) rfl (.refl _) (fun m => ((TyOk.int .i64).lt _ _)) .nil)) .nil) (.cons (.tmp (lk 0 rfl rfl) rfl) (.cons (.tmp (lk 1 rfl rfl) rfl) .nil)) rfl rfl rfl
  · skip
    refine AWp.skip ?_
    refine thenQ_n ?_
    refine AWp.seq ?_
    refine W.reg [0, 1, 2, 3, 4] rfl ?_
    refine S.sil 21 rfl rfl (fun _ hF => .move (lk 3 rfl rfl)) ?_
    refine S.sil 22 rfl rfl (fun _ hF => .move (lk 5 rfl rfl)) ?_
    refine S.sil 23 rfl rfl (fun _ hF => .add (lk 1 rfl rfl) (lk 0 rfl rfl)) ?_
    refine S.sil 4 rfl rfl (fun _ hF => .assign (lk 0 rfl rfl)) ?_
    refine S.sil 5 rfl rfl (fun _ hF => .assign cI) ?_
    refine S.nil ?_
    refine thenQ_n ?_
    refine AWp.ret ?_
    obtain rfl := h.ret
    exact endFN rfl (Wk.selS [] .nil rfl (SelE.leaf (lk 1 rfl rfl) rfl (.refl _) (fun m => ((TyOk.int .i64).lt _ _)) (SelE.leaf (lk 0 rfl rfl) rfl (.refl _) (fun m => ((TyOk.int .i64).lt _ _)) .nil)) .nil) (.cons (.tmp (lk 0 rfl rfl) rfl) (.cons (.tmp (lk 1 rfl rfl) rfl) .nil)) rfl rfl rfl
theorem C_usufructref01_Sum {a1 : List Int} {r : Int × Int} (h : usufructref01_Sum a1 = some r) : PureC Pg 103 [.sl 1 .no (List.map (V.int .i64) a1)] (.tup [(V.int .i64) r.1, (V.int .i64) r.2]) := by
  refine PureC.ofF (CallSpec.of_bodyF 28 0 fn103 rfl rfl rfl (Nat.le_of_ble_eq_true rfl) ?_) (ltL_c (lt_sl rfl ((TyOk.int .i64).ltm _ _)) ltL_nil) (lt_tup (ltL_c ((TyOk.int .i64).lt _ _) (ltL_c ((TyOk.int .i64).lt _ _) ltL_nil)))
  replace h := Ok.of h
  unfold usufructref01_Sum at h
  refine AWp.seq ?_
  refine W.reg [0, 1] rfl ?_
  refine S.sil 2 rfl rfl (fun _ hF => .assign cI) ?_
  refine S.sil 3 rfl rfl (fun _ hF => .assign cI) ?_
  refine S.nil ?_
  refine thenQ_n ?_
  refine AWp.seq ?_
  refine W.reg [0] rfl ?_
  refine S.sil 4 rfl rfl (fun _ hF => .assign cI) ?_
  refine S.nil ?_
  refine thenQ_n ?_
  refine AWp.seq ?_
  refine AWp.seq ?_
  refine W.reg [0] rfl ?_
  refine S.sil 5 rfl rfl (fun _ hF => .assign cI) ?_
  refine S.nil ?_
  refine thenQ_n ?_
  refine AWp.cutL (fun x4 => ⟨[(4, (V.int .i64) x4), (3, (V.int .i64) 0), (2, (V.int .i64) 0)], []⟩) nc_then h (fun q2 hq2 h => ?_) (fun x4 h => ?_)
  · refine AWp.block ?_
    refine AWp.loopT (fun s3 => ⟨[(5, (V.int .i64) s3.1), (4, (V.int .i64) s3.2), (3, (V.int .i64) 0), (2, (V.int .i64) 0), (0, .sl 1 .no (List.map (V.int .i64) a1))], []⟩) hq2 (Wk.selS [] (by decide) rfl (SelE.leaf (lk 0 rfl rfl) rfl (.refl _) (fun m => ((TyOk.int .i64).lt _ _)) (SelE.leaf (lk 1 rfl rfl) rfl (.refl _) (fun m => ((TyOk.int .i64).lt _ _)) (SelE.leaf (lk 2 rfl rfl) rfl (.refl _) (fun m => ((TyOk.int .i64).lt _ _)) (SelE.leaf (lk 3 rfl rfl) rfl (.refl _) (fun m => ((TyOk.int .i64).lt _ _)) (SelE.leaf (lk 4 rfl rfl) rfl (.refl _) (fun m => (lt_sl rfl ((TyOk.int .i64).ltm _ _))) .nil))))) .nil) (fun _ s3 h2 => ?_)
    rw [usufructref01_Sum_L1] at h2
    refine AWp.seq ?_
    refine AWp.seq ?_
    refine W.reg [0, 1, 2, 3] rfl ?_
    refine S.sil 8 rfl rfl (fun _ hF => .move (lk 0 rfl rfl)) ?_
    refine S.sil 9 rfl rfl (fun _ hF => .move (lk 5 rfl rfl)) ?_
    refine S.sil 10 rfl rfl (fun _ hF => .lenT sli116 (lk 0 rfl rfl) (vsub rfl (.refl _))) ?_
    refine S.sil 11 rfl rfl (fun _ hF => .lss (lk 2 rfl rfl) (lk 0 rfl rfl)) ?_
    refine S.nil ?_
    refine thenQ_n ?_
    refine AWp.condM (lk 0 rfl rfl) h2 (fun c1 h2 => ?_) (fun c1 h2 => ?_)
    · skip
      refine AWp.skip ?_
      refine thenQ_n ?_
      refine AWp.seq ?_
      refine AWp.block ?_
      refine AWp.seq ?_
      refine W.reg [0, 1, 2, 3, 4, 5, 6, 7, 8, 9, 10] rfl ?_
      refine S.sil 15 rfl rfl (fun _ hF => .move (lk 5 rfl rfl)) ?_
      refine S.sil 16 rfl rfl (fun _ hF => .move (lk 9 rfl rfl)) ?_
      refine S.sil 17 rfl rfl (fun _ hF => .move (lk 6 rfl rfl)) ?_
      obtain ⟨j5, m5, h2⟩ := h2.bnd
      refine S.sil 18 rfl rfl (fun _ hF => .ixS sli116 (lk 1 rfl rfl) (lk 0 rfl rfl) m5) ?_
      refine S.sil 19 rfl rfl (fun _ hF => .loadC sz3 ag3 (lk 0 rfl rfl) rfl rfl) ?_
      obtain ⟨r6, m6, h2⟩ := h2.bnd
      refine S.sil 20 rfl rfl (fun _ hF => .callQ ent80 cF (.c (lk 4 rfl rfl) (V.sub.refl _) (.c (lk 0 rfl rfl) (V.sub.refl _) .nil)) (C_usufructref01_Add m6)) ?_
      refine S.sil 14 rfl rfl (fun _ hF => .move (lk 0 rfl rfl)) ?_
      refine S.sil 21 rfl rfl (fun _ hF => .extract (lk 0 rfl rfl) rfl) ?_
      refine S.sil 22 rfl rfl (fun _ hF => .extract (lk 1 rfl rfl) rfl) ?_
      refine S.sil 6 rfl rfl (fun _ hF => .assign (lk 1 rfl rfl)) ?_
      refine S.sil 7 rfl rfl (fun _ hF => .assign (lk 1 rfl rfl)) ?_
      refine S.nil ?_
      refine thenQ_n ?_
      refine AWp.seq ?_
      refine AWp.seq ?_
      refine W.reg [0, 1] rfl ?_
      refine S.sil 23 rfl rfl (fun _ hF => .move (lk 0 rfl rfl)) ?_
      refine S.sil 24 rfl rfl (fun _ hF => .neq (lk 0 rfl rfl) cI) ?_
      refine S.nil ?_
      refine thenQ_n ?_
      refine AWp.condM (lk 0 rfl rfl) h2 (fun c2 h2 => ?_) (fun c2 h2 => ?_)
      · skip
        refine AWp.seq ?_
        refine W.reg [0, 1, 2] rfl ?_
        refine S.sil 25 rfl rfl (fun _ hF => .move (lk 2 rfl rfl)) ?_
        refine S.sil 2 rfl rfl (fun _ hF => .assign cI) ?_
        refine S.sil 3 rfl rfl (fun _ hF => .assign (lk 1 rfl rfl)) ?_
        refine S.nil ?_
        refine thenQ_n ?_
        refine AWp.ret ?_
        refine thenQ_r ?_
        refine blockQ_r ?_
        refine thenQ_r ?_
        refine thenQ_r ?_
        refine blockQ_r ?_
        refine thenQ_r ?_
        refine thenQ_r ?_
        have h := Ok.inrq h h2.ret
        obtain rfl := h.ret
        exact endFN rfl (Wk.selS [] .nil rfl (SelE.leaf (lk 1 rfl rfl) rfl (.refl _) (fun m => ((TyOk.int .i64).lt _ _)) (SelE.leaf (lk 0 rfl rfl) rfl (.refl _) (fun m => ((TyOk.int .i64).lt _ _)) .nil)) .nil) (.cons (.tmp (lk 0 rfl rfl) rfl) (.cons (.tmp (lk 1 rfl rfl) rfl) .nil)) rfl rfl rfl
      · skip
        refine AWp.skip ?_
        refine thenQ_n ?_
        refine W.reg [0, 1] rfl ?_
        refine S.sil 26 rfl rfl (fun _ hF => .move (lk 3 rfl rfl)) ?_
        refine S.sil 4 rfl rfl (fun _ hF => .assign (lk 0 rfl rfl)) ?_
        refine S.nil ?_
        refine blockQ_n ?_
        refine thenQ_n ?_
        refine W.reg [0, 1, 2] rfl ?_
        refine S.sil 12 rfl rfl (fun _ hF => .move (lk 19 rfl rfl)) ?_
        refine S.sil 13 rfl rfl (fun _ hF => .add (lk 0 rfl rfl) cI) ?_
        refine S.sil 5 rfl rfl (fun _ hF => .assign (lk 0 rfl rfl)) ?_
        refine S.nil ?_
        refine thenQ_n ?_
        exact ⟨_, h2.ret, (Wk.selS [] (by decide) rfl (SelE.leaf (lk 0 rfl rfl) rfl (.refl _) (fun m => ((TyOk.int .i64).lt _ _)) (SelE.leaf (lk 3 rfl rfl) rfl (.refl _) (fun m => ((TyOk.int .i64).lt _ _)) (SelE.leaf (lk 24 rfl rfl) rfl (.refl _) (fun m => ((TyOk.int .i64).lt _ _)) (SelE.leaf (lk 25 rfl rfl) rfl (.refl _) (fun m => ((TyOk.int .i64).lt _ _)) (SelE.leaf (lk 26 rfl rfl) rfl (.refl _) (fun m => (lt_sl rfl ((TyOk.int .i64).ltm _ _))) .nil))))) .nil)⟩
    · skip
      refine AWp.exit ?_
      refine thenQ_x ?_
      refine thenQ_x ?_
      refine blockQ_x ?_
      refine thenQ_n ?_
      exact ⟨_, h2.ret, (Wk.selS [] (by decide) rfl (SelE.leaf (lk 5 rfl rfl) rfl (.refl _) (fun m => ((TyOk.int .i64).lt _ _)) (SelE.leaf (lk 6 rfl rfl) rfl (.refl _) (fun m => ((TyOk.int .i64).lt _ _)) (SelE.leaf (lk 7 rfl rfl) rfl (.refl _) (fun m => ((TyOk.int .i64).lt _ _)) .nil))) .nil)⟩
  · skip
    refine thenQ_n ?_
    refine AWp.seq ?_
    refine W.reg [0, 1, 2] rfl ?_
    refine S.sil 27 rfl rfl (fun _ hF => .move (lk 0 rfl rfl)) ?_
    refine S.sil 2 rfl rfl (fun _ hF => .assign (lk 0 rfl rfl)) ?_
    refine S.sil 3 rfl rfl (fun _ hF => .assign cI) ?_
    refine S.nil ?_
    refine thenQ_n ?_
    refine AWp.ret ?_
    obtain rfl := h.ret
    exact endFN rfl (Wk.selS [] .nil rfl (SelE.leaf (lk 1 rfl rfl) rfl (.refl _) (fun m => ((TyOk.int .i64).lt _ _)) (SelE.leaf (lk 0 rfl rfl) rfl (.refl _) (fun m => ((TyOk.int .i64).lt _ _)) .nil)) .nil) (.cons (.tmp (lk 0 rfl rfl) rfl) (.cons (.tmp (lk 1 rfl rfl) rfl) .nil)) rfl rfl rfl
theorem C_usufructref02_Sum {a1 : Vector Int 16} {r : Int × Int} (h : usufructref02_Sum a1 = some r) : PureC Pg 79 [E_A16_i64 a1] (.tup [(V.int .i64) r.1, (V.int .i64) r.2]) := by
  refine PureC.ofF (CallSpec.of_bodyF 8 0 fn79 rfl rfl rfl (Nat.le_of_ble_eq_true rfl) ?_) (ltL_c (ty_A16_i64.lt _ _) ltL_nil) (lt_tup (ltL_c ((TyOk.int .i64).lt _ _) (ltL_c ((TyOk.int .i64).lt _ _) ltL_nil)))
  replace h := Ok.of h
  unfold usufructref02_Sum at h
  refine AWp.seq ?_
  refine W.reg [0, 1, 2] rfl ?_
  refine S.eff 1 rfl rfl (.nf (v2 := .ptr 0 [] 0) (H2 := [.cells (E_A16_i64 a1)]) (.box (lk 0 rfl rfl) rfl) rfl rfl) trivial ?_
  refine S.sil 2 rfl rfl (fun _ hF => .assign cI) ?_
  refine S.sil 3 rfl rfl (fun _ hF => .assign cI) ?_
  refine S.nil ?_
  refine thenQ_n ?_
  refine AWp.wk (Wk.freeze 0 rfl rfl (.same (lk 0 rfl rfl) (.same (lk 1 rfl rfl) (.cons (lk 2 rfl rfl) rfl (.ptr .nil (by first | rfl | omega)) .nil))) (.refl _)) ?_
  refine AWp.seq ?_
  refine W.reg [0, 1, 2, 3, 4, 5] rfl ?_
  refine S.sil 4 rfl rfl (fun _ hF => .sliceArr arr23 (lk 2 rfl rfl) (by simp)) ?_
  obtain ⟨r2, m2, h⟩ := h.bnd
  refine S.sil 5 rfl rfl (fun _ hF => .callQ ent103 cF (.c (lk 0 rfl rfl) (vsub rfl (.forget _ _ _)) .nil) (C_usufructref01_Sum m2)) ?_
  refine S.sil 6 rfl rfl (fun _ hF => .extract (lk 0 rfl rfl) rfl) ?_
  refine S.sil 7 rfl rfl (fun _ hF => .extract (lk 1 rfl rfl) rfl) ?_
  refine S.sil 2 rfl rfl (fun _ hF => .assign (lk 1 rfl rfl)) ?_
  refine S.sil 3 rfl rfl (fun _ hF => .assign (lk 1 rfl rfl)) ?_
  refine S.nil ?_
  refine thenQ_n ?_
  refine AWp.ret ?_
  obtain rfl := h.ret
  exact endFN rfl (Wk.selS [] .nil rfl (SelE.leaf (lk 1 rfl rfl) rfl (.refl _) (fun m => ((TyOk.int .i64).lt _ _)) (SelE.leaf (lk 0 rfl rfl) rfl (.refl _) (fun m => ((TyOk.int .i64).lt _ _)) .nil)) .nil) (.cons (.tmp (lk 0 rfl rfl) rfl) (.cons (.tmp (lk 1 rfl rfl) rfl) .nil)) rfl rfl rfl
theorem C_usufructref04_Right {a1 : TCounter} {r : Bool} (h : usufructref04_Right a1 = some r) : PureC Pg 41 [E_TCounter a1] (V.bool r) := by
  refine PureC.ofF (CallSpec.of_bodyF 137 0 fn41 rfl rfl rfl (Nat.le_of_ble_eq_true rfl) ?_) (ltL_c (ty_TCounter.lt _ _) ltL_nil) (TyOk.bool.lt _ _)
  replace h := Ok.of h
  unfold usufructref04_Right at h
  refine AWp.seq ?_
  refine W.reg [0, 1] rfl ?_
  refine S.eff 1 rfl rfl (.nf (v2 := .ptr 0 [] 0) (H2 := [.cells (E_TCounter a1)]) (.box (lk 0 rfl rfl) rfl) rfl rfl) trivial ?_
  refine S.sil 2 rfl rfl (fun _ hF => .assign cB) ?_
  refine S.nil ?_
  refine thenQ_n ?_
  refine AWp.wk (Wk.freeze 0 rfl rfl (.same (lk 0 rfl rfl) (.cons (lk 1 rfl rfl) rfl (.ptr .nil (by first | rfl | omega)) .nil)) (.refl _)) ?_
  refine AWp.seq ?_
  refine AWp.seq ?_
  refine W.reg [0, 1, 2, 3, 4, 5, 6, 7, 8, 9, 10, 11, 12, 13, 14, 15, 16, 17, 18, 19, 20, 21, 22, 23, 24, 25, 26, 27, 28, 29, 30, 31, 32, 33, 34, 35, 36, 37, 38, 39, 40, 41] rfl ?_
  refine S.sil 15 rfl rfl (fun _ hF => .fieldAddrC lay28 rfl rfl (lk 1 rfl rfl) rfl flL_nil) ?_
  refine S.sil 16 rfl rfl (fun _ hF => .loadC sz3 ag3 (lk 0 rfl rfl) rfl rfl) ?_
  obtain ⟨r2, m2, h⟩ := h.bnd
  refine S.sil 17 rfl rfl (fun _ hF => .callQ ent40 cF (.c (lk 0 rfl rfl) (V.sub.refl _) .nil) (C_usufructref01_Is m2)) ?_
  refine S.sil 18 rfl rfl (fun _ hF => .not (lk 0 rfl rfl)) ?_
  refine S.sil 19 rfl rfl (fun _ hF => .move (lk 0 rfl rfl)) ?_
  refine S.gsil 20 4 19 false rfl rfl rfl (lk 0 rfl rfl) (fun hB _ hF => .fieldAddrC lay28 rfl rfl (lk 6 rfl rfl) rfl (flL_c (show flen _ = 1 from rfl) flL_nil)) ?_
  refine S.gsil 21 4 19 false rfl rfl rfl (lk 1 rfl rfl) (fun hB _ hF => .loadC sz3 ag3 (ifT hB (lk 0 rfl rfl)) rfl rfl) ?_
  obtain ⟨r3, m3, h⟩ := h.bnd
  refine S.gsil 22 4 19 false rfl rfl rfl (lk 2 rfl rfl) (fun hB _ hF => .callQ ent40 cF (.c (ifT hB (lk 0 rfl rfl)) (V.sub.refl _) .nil) (C_usufructref01_Is (gd_get m3 hB))) ?_
  refine S.gsil 23 4 19 false rfl rfl rfl (lk 3 rfl rfl) (fun hB _ hF => .not (ifT hB (lk 0 rfl rfl))) ?_
  refine S.sil 24 rfl rfl (fun _ hF => .pickOr (lk 4 rfl rfl) cB (fun h => ifT h (lk 0 rfl rfl))) ?_
  refine S.sil 25 rfl rfl (fun _ hF => .move (lk 0 rfl rfl)) ?_
  refine S.gsil 26 10 25 false rfl rfl rfl (lk 0 rfl rfl) (fun hB _ hF => .fieldAddrC lay28 rfl rfl (lk 12 rfl rfl) rfl (flL_c (show flen _ = 1 from rfl) (flL_c (show flen _ = 1 from rfl) flL_nil))) ?_
  refine S.gsil 27 10 25 false rfl rfl rfl (lk 1 rfl rfl) (fun hB _ hF => .loadC sz3 ag3 (ifT hB (lk 0 rfl rfl)) rfl rfl) ?_
  obtain ⟨r4, m4, h⟩ := h.bnd
  refine S.gsil 28 10 25 false rfl rfl rfl (lk 2 rfl rfl) (fun hB _ hF => .callQ ent40 cF (.c (ifT hB (lk 0 rfl rfl)) (V.sub.refl _) .nil) (C_usufructref01_Is (gd_get m4 hB))) ?_
  refine S.gsil 29 10 25 false rfl rfl rfl (lk 3 rfl rfl) (fun hB _ hF => .not (ifT hB (lk 0 rfl rfl))) ?_
  refine S.sil 30 rfl rfl (fun _ hF => .pickOr (lk 4 rfl rfl) cB (fun h => ifT h (lk 0 rfl rfl))) ?_
  refine S.sil 31 rfl rfl (fun _ hF => .move (lk 0 rfl rfl)) ?_
  refine S.gsil 32 16 31 false rfl rfl rfl (lk 0 rfl rfl) (fun hB _ hF => .fieldAddrC lay28 rfl rfl (lk 18 rfl rfl) rfl (flL_c (show flen _ = 1 from rfl) flL_nil)) ?_
  refine S.gsil 33 16 31 false rfl rfl rfl (lk 1 rfl rfl) (fun hB _ hF => .loadC sz3 ag3 (ifT hB (lk 0 rfl rfl)) rfl rfl) ?_
  refine S.gsil 34 16 31 false rfl rfl rfl (lk 2 rfl rfl) (fun hB _ hF => .fieldAddrC lay28 rfl rfl (lk 20 rfl rfl) rfl flL_nil) ?_
  refine S.gsil 35 16 31 false rfl rfl rfl (lk 3 rfl rfl) (fun hB _ hF => .loadC sz3 ag3 (ifT hB (lk 0 rfl rfl)) rfl rfl) ?_
  refine S.gsil 36 16 31 false rfl rfl rfl (lk 4 rfl rfl) (fun hB _ hF => .gtr (ifT hB (lk 2 rfl rfl)) (ifT hB (lk 0 rfl rfl))) ?_
  refine S.sil 37 rfl rfl (fun _ hF => .pickOr (lk 5 rfl rfl) cB (fun h => ifT h (lk 0 rfl rfl))) ?_
  refine S.sil 38 rfl rfl (fun _ hF => .move (lk 0 rfl rfl)) ?_
  refine S.gsil 39 23 38 false rfl rfl rfl (lk 0 rfl rfl) (fun hB _ hF => .fieldAddrC lay28 rfl rfl (lk 25 rfl rfl) rfl flL_nil) ?_
  refine S.gsil 40 23 38 false rfl rfl rfl (lk 1 rfl rfl) (fun hB _ hF => .loadC sz3 ag3 (ifT hB (lk 0 rfl rfl)) rfl rfl) ?_
  refine S.gsil 41 23 38 false rfl rfl rfl (lk 2 rfl rfl) (fun hB _ hF => .fieldAddrC lay28 rfl rfl (lk 27 rfl rfl) rfl (flL_c (show flen _ = 1 from rfl) (flL_c (show flen _ = 1 from rfl) flL_nil))) ?_
  refine S.gsil 42 23 38 false rfl rfl rfl (lk 3 rfl rfl) (fun hB _ hF => .loadC sz3 ag3 (ifT hB (lk 0 rfl rfl)) rfl rfl) ?_
  refine S.gsil 43 23 38 false rfl rfl rfl (lk 4 rfl rfl) (fun hB _ hF => .gtr (ifT hB (lk 2 rfl rfl)) (ifT hB (lk 0 rfl rfl))) ?_
  obtain ⟨v5, ev5, h⟩ := h.nam
  refine S.sil 44 rfl rfl (fun _ hF => .nv (.pickOr (lk 5 rfl rfl) cB (fun h => ifT h (lk 0 rfl rfl))) (congrArg V.bool ev5.symm)) ?_
  refine S.sil 45 rfl rfl (fun _ hF => .move (lk 0 rfl rfl)) ?_
  refine S.gsil 46 30 45 false rfl rfl rfl (lk 0 rfl rfl) (fun hB _ hF => .fieldAddrC lay28 rfl rfl (lk 32 rfl rfl) rfl (flL_c (show flen _ = 1 from rfl) (flL_c (show flen _ = 1 from rfl) (flL_c (show flen _ = 1 from rfl) flL_nil)))) ?_
  refine S.gsil 47 30 45 false rfl rfl rfl (lk 1 rfl rfl) (fun hB _ hF => .loadC sz26 ag26 (ifT hB (lk 0 rfl rfl)) (ty_TRights.fl a1.Down) rfl) ?_
  obtain ⟨r6, m6, h⟩ := h.bnd
  refine S.gsil 48 30 45 false rfl rfl rfl (lk 2 rfl rfl) (fun hB _ hF => .callQ ent78 cF (.c (ifT hB (lk 0 rfl rfl)) (V.sub.refl _) .nil) (C_usufructref03_Right (gd_get m6 hB))) ?_
  refine S.gsil 49 30 45 false rfl rfl rfl (lk 3 rfl rfl) (fun hB _ hF => .not (ifT hB (lk 0 rfl rfl))) ?_
  refine S.sil 50 rfl rfl (fun _ hF => .pickOr (lk 4 rfl rfl) cB (fun h => ifT h (lk 0 rfl rfl))) ?_
  refine S.sil 51 rfl rfl (fun _ hF => .move (lk 0 rfl rfl)) ?_
  refine S.gsil 52 36 51 false rfl rfl rfl (lk 0 rfl rfl) (fun hB _ hF => .fieldAddrC lay28 rfl rfl (lk 38 rfl rfl) rfl (flL_c (show flen _ = 1 from rfl) (flL_c (show flen _ = 1 from rfl) (flL_c (show flen _ = 1 from rfl) (flL_c (ty_TRights.fl a1.Down) flL_nil))))) ?_
  refine S.gsil 53 36 51 false rfl rfl rfl (lk 1 rfl rfl) (fun hB _ hF => .loadC sz26 ag26 (ifT hB (lk 0 rfl rfl)) (ty_TRights.fl a1.Up) rfl) ?_
  obtain ⟨r7, m7, h⟩ := h.bnd
  refine S.gsil 54 36 51 false rfl rfl rfl (lk 2 rfl rfl) (fun hB _ hF => .callQ ent78 cF (.c (ifT hB (lk 0 rfl rfl)) (V.sub.refl _) .nil) (C_usufructref03_Right (gd_get m7 hB))) ?_
  refine S.gsil 55 36 51 false rfl rfl rfl (lk 3 rfl rfl) (fun hB _ hF => .not (ifT hB (lk 0 rfl rfl))) ?_
  refine S.sil 56 rfl rfl (fun _ hF => .pickOr (lk 4 rfl rfl) cB (fun h => ifT h (lk 0 rfl rfl))) ?_
  refine S.nil ?_
  refine thenQ_n ?_
  refine AWp.prune (.eq (lk 0 rfl rfl) rfl (.eq (lk 42 rfl rfl) rfl (.eq (lk 43 rfl rfl) rfl .nil))) ?_
  refine AWp.condM (lk 0 rfl rfl) h (fun c1 h => ?_) (fun c1 h => ?_)
  · skip
    refine AWp.seq ?_
    refine W.reg [0] rfl ?_
    refine S.sil 2 rfl rfl (fun _ hF => .assign cB) ?_
    refine S.nil ?_
    refine thenQ_n ?_
    refine AWp.ret ?_
    refine thenQ_r ?_
    obtain rfl := h.ret
    exact endF1 rfl (Wk.selS [] .nil rfl (SelE.leaf (lk 0 rfl rfl) rfl (.refl _) (fun m => (TyOk.bool.lt _ _)) .nil) .nil) (.tmp (lk 0 rfl rfl) rfl) rfl rfl
  · skip
    refine AWp.skip ?_
    refine thenQ_n ?_
    refine AWp.seq ?_
    refine W.reg [0, 1, 2, 3, 4, 5, 6, 7, 8] rfl ?_
    refine S.sil 58 rfl rfl (fun _ hF => .fieldAddrC lay28 rfl rfl (lk 2 rfl rfl) rfl (flL_c (show flen _ = 1 from rfl) (flL_c (show flen _ = 1 from rfl) (flL_c (show flen _ = 1 from rfl) flL_nil)))) ?_
    refine S.sil 59 rfl rfl (fun _ hF => .fieldAddrC lay26 rfl rfl (lk 0 rfl rfl) rfl flL_nil) ?_
    refine S.sil 60 rfl rfl (fun _ hF => .loadC sz23 ag23 (lk 0 rfl rfl) (ty_A16_i64.fl a1.Down.Given) rfl) ?_
    obtain ⟨r8, m8, h⟩ := h.bnd
    refine S.sil 61 rfl rfl (fun _ hF => .callQ ent79 cF (.c (lk 0 rfl rfl) (V.sub.refl _) .nil) (C_usufructref02_Sum m8)) ?_
    refine S.sil 57 rfl rfl (fun _ hF => .move (lk 0 rfl rfl)) ?_
    refine S.sil 62 rfl rfl (fun _ hF => .extract (lk 0 rfl rfl) rfl) ?_
    refine S.sil 63 rfl rfl (fun _ hF => .extract (lk 1 rfl rfl) rfl) ?_
    refine S.sil 3 rfl rfl (fun _ hF => .assign (lk 1 rfl rfl)) ?_
    refine S.sil 4 rfl rfl (fun _ hF => .assign (lk 1 rfl rfl)) ?_
    refine S.nil ?_
    refine thenQ_n ?_
    refine AWp.seq ?_
    refine W.reg [0, 1, 2, 3, 4, 5, 6, 7, 8] rfl ?_
    refine S.sil 65 rfl rfl (fun _ hF => .fieldAddrC lay28 rfl rfl (lk 11 rfl rfl) rfl (flL_c (show flen _ = 1 from rfl) (flL_c (show flen _ = 1 from rfl) (flL_c (show flen _ = 1 from rfl) (flL_c (ty_TRights.fl a1.Down) flL_nil))))) ?_
    refine S.sil 66 rfl rfl (fun _ hF => .fieldAddrC lay26 rfl rfl (lk 0 rfl rfl) rfl (flL_c (ty_A16_i64.fl a1.Up.Given) flL_nil)) ?_
    refine S.sil 67 rfl rfl (fun _ hF => .loadC sz23 ag23 (lk 0 rfl rfl) (ty_A16_i64.fl a1.Up.Used) rfl) ?_
    obtain ⟨r9, m9, h⟩ := h.bnd
    refine S.sil 68 rfl rfl (fun _ hF => .callQ ent79 cF (.c (lk 0 rfl rfl) (V.sub.refl _) .nil) (C_usufructref02_Sum m9)) ?_
    refine S.sil 64 rfl rfl (fun _ hF => .move (lk 0 rfl rfl)) ?_
    refine S.sil 69 rfl rfl (fun _ hF => .extract (lk 0 rfl rfl) rfl) ?_
    refine S.sil 70 rfl rfl (fun _ hF => .extract (lk 1 rfl rfl) rfl) ?_
    refine S.sil 5 rfl rfl (fun _ hF => .assign (lk 1 rfl rfl)) ?_
    refine S.sil 6 rfl rfl (fun _ hF => .assign (lk 1 rfl rfl)) ?_
    refine S.nil ?_
    refine thenQ_n ?_
    refine AWp.prune (.eq (lk 0 rfl rfl) rfl (.eq (lk 1 rfl rfl) rfl (.eq (lk 9 rfl rfl) rfl (.eq (lk 10 rfl rfl) rfl (.eq (lk 19 rfl rfl) rfl (.eq (lk 20 rfl rfl) rfl .nil)))))) ?_
    refine AWp.seq ?_
    refine W.reg [0, 1, 2, 3, 4, 5, 6, 7, 8, 9, 10, 11] rfl ?_
    refine S.sil 72 rfl rfl (fun _ hF => .fieldAddrC lay28 rfl rfl (lk 5 rfl rfl) rfl flL_nil) ?_
    refine S.sil 73 rfl rfl (fun _ hF => .loadC sz3 ag3 (lk 0 rfl rfl) rfl rfl) ?_
    refine S.sil 74 rfl rfl (fun _ hF => .fieldAddrC lay28 rfl rfl (lk 7 rfl rfl) rfl (flL_c (show flen _ = 1 from rfl) flL_nil)) ?_
    refine S.sil 75 rfl rfl (fun _ hF => .loadC sz3 ag3 (lk 0 rfl rfl) rfl rfl) ?_
    refine S.sil 76 rfl rfl (fun _ hF => .sub (lk 2 rfl rfl) (lk 0 rfl rfl)) ?_
    refine S.sil 77 rfl rfl (fun _ hF => .move (lk 6 rfl rfl)) ?_
    obtain ⟨r10, m10, h⟩ := h.bnd
    refine S.sil 78 rfl rfl (fun _ hF => .callQ ent80 cF (.c (lk 1 rfl rfl) (V.sub.refl _) (.c (lk 0 rfl rfl) (V.sub.refl _) .nil)) (C_usufructref01_Add m10)) ?_
    refine S.sil 71 rfl rfl (fun _ hF => .move (lk 0 rfl rfl)) ?_
    refine S.sil 79 rfl rfl (fun _ hF => .extract (lk 0 rfl rfl) rfl) ?_
    refine S.sil 80 rfl rfl (fun _ hF => .extract (lk 1 rfl rfl) rfl) ?_
    refine S.sil 7 rfl rfl (fun _ hF => .assign (lk 1 rfl rfl)) ?_
    refine S.sil 8 rfl rfl (fun _ hF => .assign (lk 1 rfl rfl)) ?_
    refine S.nil ?_
    refine thenQ_n ?_
    refine AWp.prune (.eq (lk 0 rfl rfl) rfl (.eq (lk 1 rfl rfl) rfl (.eq (lk 12 rfl rfl) rfl (.eq (lk 14 rfl rfl) rfl (.eq (lk 15 rfl rfl) rfl (.eq (lk 16 rfl rfl) rfl (.eq (lk 17 rfl rfl) rfl .nil))))))) ?_
    refine AWp.seq ?_
    refine W.reg [0, 1, 2, 3, 4, 5, 6, 7, 8] rfl ?_
    refine S.sil 82 rfl rfl (fun _ hF => .fieldAddrC lay28 rfl rfl (lk 6 rfl rfl) rfl (flL_c (show flen _ = 1 from rfl) (flL_c (show flen _ = 1 from rfl) (flL_c (show flen _ = 1 from rfl) (flL_c (ty_TRights.fl a1.Down) flL_nil))))) ?_
    refine S.sil 83 rfl rfl (fun _ hF => .fieldAddrC lay26 rfl rfl (lk 0 rfl rfl) rfl flL_nil) ?_
    refine S.sil 84 rfl rfl (fun _ hF => .loadC sz23 ag23 (lk 0 rfl rfl) (ty_A16_i64.fl a1.Up.Given) rfl) ?_
    obtain ⟨r11, m11, h⟩ := h.bnd
    refine S.sil 85 rfl rfl (fun _ hF => .callQ ent79 cF (.c (lk 0 rfl rfl) (V.sub.refl _) .nil) (C_usufructref02_Sum m11)) ?_
    refine S.sil 81 rfl rfl (fun _ hF => .move (lk 0 rfl rfl)) ?_
    refine S.sil 86 rfl rfl (fun _ hF => .extract (lk 0 rfl rfl) rfl) ?_
    refine S.sil 87 rfl rfl (fun _ hF => .extract (lk 1 rfl rfl) rfl) ?_
    refine S.sil 9 rfl rfl (fun _ hF => .assign (lk 1 rfl rfl)) ?_
    refine S.sil 10 rfl rfl (fun _ hF => .assign (lk 1 rfl rfl)) ?_
    refine S.nil ?_
    refine thenQ_n ?_
    refine AWp.seq ?_
    refine W.reg [0, 1, 2, 3, 4, 5, 6, 7, 8] rfl ?_
    refine S.sil 89 rfl rfl (fun _ hF => .fieldAddrC lay28 rfl rfl (lk 15 rfl rfl) rfl (flL_c (show flen _ = 1 from rfl) (flL_c (show flen _ = 1 from rfl) (flL_c (show flen _ = 1 from rfl) flL_nil)))) ?_
    refine S.sil 90 rfl rfl (fun _ hF => .fieldAddrC lay26 rfl rfl (lk 0 rfl rfl) rfl (flL_c (ty_A16_i64.fl a1.Down.Given) flL_nil)) ?_
    refine S.sil 91 rfl rfl (fun _ hF => .loadC sz23 ag23 (lk 0 rfl rfl) (ty_A16_i64.fl a1.Down.Used) rfl) ?_
    obtain ⟨r12, m12, h⟩ := h.bnd
    refine S.sil 92 rfl rfl (fun _ hF => .callQ ent79 cF (.c (lk 0 rfl rfl) (V.sub.refl _) .nil) (C_usufructref02_Sum m12)) ?_
    refine S.sil 88 rfl rfl (fun _ hF => .move (lk 0 rfl rfl)) ?_
    refine S.sil 93 rfl rfl (fun _ hF => .extract (lk 0 rfl rfl) rfl) ?_
    refine S.sil 94 rfl rfl (fun _ hF => .extract (lk 1 rfl rfl) rfl) ?_
    refine S.sil 11 rfl rfl (fun _ hF => .assign (lk 1 rfl rfl)) ?_
    refine S.sil 12 rfl rfl (fun _ hF => .assign (lk 1 rfl rfl)) ?_
    refine S.nil ?_
    refine thenQ_n ?_
    refine AWp.prune (.eq (lk 0 rfl rfl) rfl (.eq (lk 1 rfl rfl) rfl (.eq (lk 9 rfl rfl) rfl (.eq (lk 10 rfl rfl) rfl (.eq (lk 18 rfl rfl) rfl (.eq (lk 19 rfl rfl) rfl (.eq (lk 20 rfl rfl) rfl (.eq (lk 21 rfl rfl) rfl (.eq (lk 22 rfl rfl) rfl (.eq (lk 23 rfl rfl) rfl (.eq (lk 24 rfl rfl) rfl .nil))))))))))) ?_
    refine AWp.seq ?_
    refine W.reg [0, 1, 2, 3, 4, 5, 6, 7, 8, 9, 10, 11] rfl ?_
    refine S.sil 96 rfl rfl (fun _ hF => .fieldAddrC lay28 rfl rfl (lk 10 rfl rfl) rfl (flL_c (show flen _ = 1 from rfl) (flL_c (show flen _ = 1 from rfl) flL_nil))) ?_
    refine S.sil 97 rfl rfl (fun _ hF => .loadC sz3 ag3 (lk 0 rfl rfl) rfl rfl) ?_
    refine S.sil 98 rfl rfl (fun _ hF => .fieldAddrC lay28 rfl rfl (lk 12 rfl rfl) rfl flL_nil) ?_
    refine S.sil 99 rfl rfl (fun _ hF => .loadC sz3 ag3 (lk 0 rfl rfl) rfl rfl) ?_
    refine S.sil 100 rfl rfl (fun _ hF => .sub (lk 2 rfl rfl) (lk 0 rfl rfl)) ?_
    refine S.sil 101 rfl rfl (fun _ hF => .move (lk 6 rfl rfl)) ?_
    obtain ⟨r13, m13, h⟩ := h.bnd
    refine S.sil 102 rfl rfl (fun _ hF => .callQ ent80 cF (.c (lk 1 rfl rfl) (V.sub.refl _) (.c (lk 0 rfl rfl) (V.sub.refl _) .nil)) (C_usufructref01_Add m13)) ?_
    refine S.sil 95 rfl rfl (fun _ hF => .move (lk 0 rfl rfl)) ?_
    refine S.sil 103 rfl rfl (fun _ hF => .extract (lk 0 rfl rfl) rfl) ?_
    refine S.sil 104 rfl rfl (fun _ hF => .extract (lk 1 rfl rfl) rfl) ?_
    refine S.sil 13 rfl rfl (fun _ hF => .assign (lk 1 rfl rfl)) ?_
    refine S.sil 14 rfl rfl (fun _ hF => .assign (lk 1 rfl rfl)) ?_
    refine S.nil ?_
    refine thenQ_n ?_
    refine AWp.prune (.eq (lk 0 rfl rfl) rfl (.eq (lk 1 rfl rfl) rfl (.eq (lk 12 rfl rfl) rfl (.eq (lk 14 rfl rfl) rfl (.eq (lk 15 rfl rfl) rfl (.eq (lk 16 rfl rfl) rfl (.eq (lk 17 rfl rfl) rfl (.eq (lk 18 rfl rfl) rfl (.eq (lk 19 rfl rfl) rfl (.eq (lk 20 rfl rfl) rfl (.eq (lk 21 rfl rfl) rfl .nil))))))))))) ?_
    refine AWp.seq ?_
    refine W.reg [0, 1, 2, 3, 4, 5, 6, 7, 8, 9, 10, 11, 12, 13, 14, 15, 16, 17, 18, 19, 20, 21, 22, 23, 24, 25, 26, 27, 28, 29, 30, 31, 32] rfl ?_
    refine S.sil 105 rfl rfl (fun _ hF => .move (lk 8 rfl rfl)) ?_
    refine S.sil 106 rfl rfl (fun _ hF => .eql (lk 0 rfl rfl) cI) ?_
    refine S.sil 107 rfl rfl (fun _ hF => .move (lk 0 rfl rfl)) ?_
    refine S.gsil 108 2 107 true rfl rfl rfl (lk 0 rfl rfl) (fun hB _ hF => .move (lk 10 rfl rfl)) ?_
    refine S.gsil 109 2 107 true rfl rfl rfl (lk 1 rfl rfl) (fun hB _ hF => .eql (ifT hB (lk 0 rfl rfl)) cI) ?_
    refine S.sil 110 rfl rfl (fun _ hF => .pickAnd (lk 2 rfl rfl) (fun h => ifT h (lk 0 rfl rfl)) cB) ?_
    refine S.sil 111 rfl rfl (fun _ hF => .move (lk 0 rfl rfl)) ?_
    refine S.gsil 112 6 111 true rfl rfl rfl (lk 0 rfl rfl) (fun hB _ hF => .move (lk 12 rfl rfl)) ?_
    refine S.gsil 113 6 111 true rfl rfl rfl (lk 1 rfl rfl) (fun hB _ hF => .eql (ifT hB (lk 0 rfl rfl)) cI) ?_
    refine S.sil 114 rfl rfl (fun _ hF => .pickAnd (lk 2 rfl rfl) (fun h => ifT h (lk 0 rfl rfl)) cB) ?_
    refine S.sil 115 rfl rfl (fun _ hF => .move (lk 0 rfl rfl)) ?_
    refine S.gsil 116 10 115 true rfl rfl rfl (lk 0 rfl rfl) (fun hB _ hF => .move (lk 14 rfl rfl)) ?_
    refine S.gsil 117 10 115 true rfl rfl rfl (lk 1 rfl rfl) (fun hB _ hF => .eql (ifT hB (lk 0 rfl rfl)) cI) ?_
    obtain ⟨v14, ev14, h⟩ := h.nam
    refine S.sil 118 rfl rfl (fun _ hF => .nv (.pickAnd (lk 2 rfl rfl) (fun h => ifT h (lk 0 rfl rfl)) cB) (congrArg V.bool ev14.symm)) ?_
    refine S.sil 119 rfl rfl (fun _ hF => .move (lk 0 rfl rfl)) ?_
    refine S.gsil 120 14 119 true rfl rfl rfl (lk 0 rfl rfl) (fun hB _ hF => .move (lk 17 rfl rfl)) ?_
    refine S.gsil 121 14 119 true rfl rfl rfl (lk 1 rfl rfl) (fun hB _ hF => .eql (ifT hB (lk 0 rfl rfl)) cI) ?_
    refine S.sil 122 rfl rfl (fun _ hF => .pickAnd (lk 2 rfl rfl) (fun h => ifT h (lk 0 rfl rfl)) cB) ?_
    refine S.sil 123 rfl rfl (fun _ hF => .move (lk 0 rfl rfl)) ?_
    refine S.gsil 124 18 123 true rfl rfl rfl (lk 0 rfl rfl) (fun hB _ hF => .move (lk 19 rfl rfl)) ?_
    refine S.gsil 125 18 123 true rfl rfl rfl (lk 1 rfl rfl) (fun hB _ hF => .eql (ifT hB (lk 0 rfl rfl)) cI) ?_
    refine S.sil 126 rfl rfl (fun _ hF => .pickAnd (lk 2 rfl rfl) (fun h => ifT h (lk 0 rfl rfl)) cB) ?_
    refine S.sil 127 rfl rfl (fun _ hF => .move (lk 0 rfl rfl)) ?_
    refine S.gsil 128 22 127 true rfl rfl rfl (lk 0 rfl rfl) (fun hB _ hF => .move (lk 32 rfl rfl)) ?_
    refine S.gsil 129 22 127 true rfl rfl rfl (lk 1 rfl rfl) (fun hB _ hF => .move (lk 30 rfl rfl)) ?_
    refine S.gsil 130 22 127 true rfl rfl rfl (lk 2 rfl rfl) (fun hB _ hF => .eql (ifT hB (lk 1 rfl rfl)) (ifT hB (lk 0 rfl rfl))) ?_
    obtain ⟨v15, ev15, h⟩ := h.nam
    refine S.sil 131 rfl rfl (fun _ hF => .nv (.pickAnd (lk 3 rfl rfl) (fun h => ifT h (lk 0 rfl rfl)) cB) (congrArg V.bool ev15.symm)) ?_
    refine S.sil 132 rfl rfl (fun _ hF => .move (lk 0 rfl rfl)) ?_
    refine S.gsil 133 27 132 true rfl rfl rfl (lk 0 rfl rfl) (fun hB _ hF => .move (lk 32 rfl rfl)) ?_
    refine S.gsil 134 27 132 true rfl rfl rfl (lk 1 rfl rfl) (fun hB _ hF => .move (lk 30 rfl rfl)) ?_
    refine S.gsil 135 27 132 true rfl rfl rfl (lk 2 rfl rfl) (fun hB _ hF => .eql (ifT hB (lk 1 rfl rfl)) (ifT hB (lk 0 rfl rfl))) ?_
    refine S.sil 136 rfl rfl (fun _ hF => .pickAnd (lk 3 rfl rfl) (fun h => ifT h (lk 0 rfl rfl)) cB) ?_
    obtain ⟨v16, ev16, h⟩ := h.nam
    refine S.sil 2 rfl rfl (fun _ hF => .nv (.assign (lk 0 rfl rfl)) (congrArg V.bool ev16.symm)) ?_
    refine S.nil ?_
    refine thenQ_n ?_
    refine AWp.prune (.eq (lk 0 rfl rfl) rfl .nil) ?_
    refine AWp.ret ?_
    obtain rfl := h.ret
    exact endF1 rfl (Wk.selS [] .nil rfl (SelE.leaf (lk 0 rfl rfl) rfl (.refl _) (fun m => (TyOk.bool.lt _ _)) .nil) .nil) (.tmp (lk 0 rfl rfl) rfl) rfl rfl
theorem C_usufructref06_counts {a1 : Int} {r : Bool} (h : usufructref06_counts a1 = some r) : PureC Pg 131 [(V.int .i64) a1] (V.bool r) := by
  refine PureC.ofF (CallSpec.of_bodyF 9 0 fn131 rfl rfl rfl (Nat.le_of_ble_eq_true rfl) ?_) (ltL_c ((TyOk.int .i64).lt _ _) ltL_nil) (TyOk.bool.lt _ _)
  replace h := Ok.of h
  unfold usufructref06_counts at h
  refine AWp.seq ?_
  refine W.reg [0] rfl ?_
  refine S.sil 2 rfl rfl (fun _ hF => .assign cB) ?_
  refine S.nil ?_
  refine thenQ_n ?_
  refine AWp.seq ?_
  refine W.reg [0, 1, 2, 3, 4, 5, 6] rfl ?_
  refine S.sil 3 rfl rfl (fun _ hF => .move (lk 1 rfl rfl)) ?_
  refine S.sil 4 rfl rfl (fun _ hF => .geq (lk 0 rfl rfl) cI) ?_
  refine S.sil 5 rfl rfl (fun _ hF => .move (lk 0 rfl rfl)) ?_
  refine S.gsil 6 2 5 true rfl rfl rfl (lk 0 rfl rfl) (fun hB _ hF => .move (lk 4 rfl rfl)) ?_
  obtain ⟨r2, m2, h⟩ := h.bnd
  refine S.gsil 7 2 5 true rfl rfl rfl (lk 1 rfl rfl) (fun hB _ hF => .callQ ent40 cF (.c (ifT hB (lk 0 rfl rfl)) (V.sub.refl _) .nil) (C_usufructref01_Is (gd_get m2 hB))) ?_
  refine S.sil 8 rfl rfl (fun _ hF => .pickAnd (lk 2 rfl rfl) (fun h => ifT h (lk 0 rfl rfl)) cB) ?_
  obtain ⟨v3, ev3, h⟩ := h.nam
  refine S.sil 2 rfl rfl (fun _ hF => .nv (.assign (lk 0 rfl rfl)) (congrArg V.bool ev3.symm)) ?_
  refine S.nil ?_
  refine thenQ_n ?_
  refine AWp.ret ?_
  obtain rfl := h.ret
  exact endF1 rfl (Wk.selS [] .nil rfl (SelE.leaf (lk 0 rfl rfl) rfl (.refl _) (fun m => (TyOk.bool.lt _ _)) .nil) .nil) (.tmp (lk 0 rfl rfl) rfl) rfl rfl
theorem C_usufructref06_Right {a1 : THold} {r : Bool} (h : usufructref06_Right a1 = some r) : PureC Pg 81 [E_THold a1] (V.bool r) := by
  refine PureC.ofF (CallSpec.of_bodyF 41 0 fn81 rfl rfl rfl (Nat.le_of_ble_eq_true rfl) ?_) (ltL_c (ty_THold.lt _ _) ltL_nil) (TyOk.bool.lt _ _)
  replace h := Ok.of h
  unfold usufructref06_Right at h
  refine AWp.seq ?_
  refine W.reg [0, 1] rfl ?_
  refine S.eff 1 rfl rfl (.nf (v2 := .ptr 0 [] 0) (H2 := [.cells (E_THold a1)]) (.box (lk 0 rfl rfl) rfl) rfl rfl) trivial ?_
  refine S.sil 2 rfl rfl (fun _ hF => .assign cB) ?_
  refine S.nil ?_
  refine thenQ_n ?_
  refine AWp.wk (Wk.freeze 0 rfl rfl (.same (lk 0 rfl rfl) (.cons (lk 1 rfl rfl) rfl (.ptr .nil (by first | rfl | omega)) .nil)) (.refl _)) ?_
  refine AWp.seq ?_
  refine W.reg [0, 1, 2, 3, 4, 5, 6, 7, 8, 9, 10, 11, 12, 13, 14, 15, 16, 17, 18, 19, 20, 21, 22, 23, 24, 25, 26, 27, 28, 29, 30, 31, 32, 33, 34, 35, 36, 37, 38] rfl ?_
  refine S.sil 3 rfl rfl (fun _ hF => .fieldAddrC lay66 rfl rfl (lk 1 rfl rfl) rfl flL_nil) ?_
  refine S.sil 4 rfl rfl (fun _ hF => .loadC sz3 ag3 (lk 0 rfl rfl) rfl rfl) ?_
  refine S.sil 5 rfl rfl (fun _ hF => .geq (lk 0 rfl rfl) cI) ?_
  refine S.sil 6 rfl rfl (fun _ hF => .move (lk 0 rfl rfl)) ?_
  refine S.gsil 7 3 6 true rfl rfl rfl (lk 0 rfl rfl) (fun hB _ hF => .fieldAddrC lay66 rfl rfl (lk 5 rfl rfl) rfl flL_nil) ?_
  refine S.gsil 8 3 6 true rfl rfl rfl (lk 1 rfl rfl) (fun hB _ hF => .loadC sz3 ag3 (ifT hB (lk 0 rfl rfl)) rfl rfl) ?_
  refine S.gsil 9 3 6 true rfl rfl rfl (lk 2 rfl rfl) (fun hB _ hF => .leq (ifT hB (lk 0 rfl rfl)) cI) ?_
  refine S.sil 10 rfl rfl (fun _ hF => .pickAnd (lk 3 rfl rfl) (fun h => ifT h (lk 0 rfl rfl)) cB) ?_
  refine S.sil 11 rfl rfl (fun _ hF => .move (lk 0 rfl rfl)) ?_
  refine S.gsil 12 8 11 true rfl rfl rfl (lk 0 rfl rfl) (fun hB _ hF => .fieldAddrC lay66 rfl rfl (lk 10 rfl rfl) rfl (flL_c (show flen _ = 1 from rfl) flL_nil)) ?_
  refine S.gsil 13 8 11 true rfl rfl rfl (lk 1 rfl rfl) (fun hB _ hF => .loadC sz3 ag3 (ifT hB (lk 0 rfl rfl)) rfl rfl) ?_
  refine S.gsil 14 8 11 true rfl rfl rfl (lk 2 rfl rfl) (fun hB _ hF => .gtr (ifT hB (lk 0 rfl rfl)) cI) ?_
  obtain ⟨v2, ev2, h⟩ := h.nam
  refine S.sil 15 rfl rfl (fun _ hF => .nv (.pickAnd (lk 3 rfl rfl) (fun h => ifT h (lk 0 rfl rfl)) cB) (congrArg V.bool ev2.symm)) ?_
  refine S.sil 16 rfl rfl (fun _ hF => .move (lk 0 rfl rfl)) ?_
  refine S.gsil 17 13 16 true rfl rfl rfl (lk 0 rfl rfl) (fun hB _ hF => .fieldAddrC lay66 rfl rfl (lk 15 rfl rfl) rfl (flL_c (show flen _ = 1 from rfl) flL_nil)) ?_
  refine S.gsil 18 13 16 true rfl rfl rfl (lk 1 rfl rfl) (fun hB _ hF => .loadC sz3 ag3 (ifT hB (lk 0 rfl rfl)) rfl rfl) ?_
  obtain ⟨r3, m3, h⟩ := h.bnd
  refine S.gsil 19 13 16 true rfl rfl rfl (lk 2 rfl rfl) (fun hB _ hF => .callQ ent131 cF (.c (ifT hB (lk 0 rfl rfl)) (V.sub.refl _) .nil) (C_usufructref06_counts (gd_get m3 hB))) ?_
  refine S.sil 20 rfl rfl (fun _ hF => .pickAnd (lk 3 rfl rfl) (fun h => ifT h (lk 0 rfl rfl)) cB) ?_
  refine S.sil 21 rfl rfl (fun _ hF => .move (lk 0 rfl rfl)) ?_
  refine S.gsil 22 18 21 true rfl rfl rfl (lk 0 rfl rfl) (fun hB _ hF => .fieldAddrC lay66 rfl rfl (lk 20 rfl rfl) rfl (flL_c (show flen _ = 1 from rfl) (flL_c (show flen _ = 1 from rfl) flL_nil))) ?_
  refine S.gsil 23 18 21 true rfl rfl rfl (lk 1 rfl rfl) (fun hB _ hF => .loadC sz3 ag3 (ifT hB (lk 0 rfl rfl)) rfl rfl) ?_
  obtain ⟨r4, m4, h⟩ := h.bnd
  refine S.gsil 24 18 21 true rfl rfl rfl (lk 2 rfl rfl) (fun hB _ hF => .callQ ent131 cF (.c (ifT hB (lk 0 rfl rfl)) (V.sub.refl _) .nil) (C_usufructref06_counts (gd_get m4 hB))) ?_
  refine S.sil 25 rfl rfl (fun _ hF => .pickAnd (lk 3 rfl rfl) (fun h => ifT h (lk 0 rfl rfl)) cB) ?_
  refine S.sil 26 rfl rfl (fun _ hF => .move (lk 0 rfl rfl)) ?_
  refine S.gsil 27 23 26 true rfl rfl rfl (lk 0 rfl rfl) (fun hB _ hF => .fieldAddrC lay66 rfl rfl (lk 25 rfl rfl) rfl (flL_c (show flen _ = 1 from rfl) (flL_c (show flen _ = 1 from rfl) (flL_c (show flen _ = 1 from rfl) flL_nil)))) ?_
  refine S.gsil 28 23 26 true rfl rfl rfl (lk 1 rfl rfl) (fun hB _ hF => .loadC sz3 ag3 (ifT hB (lk 0 rfl rfl)) rfl rfl) ?_
  obtain ⟨r5, m5, h⟩ := h.bnd
  refine S.gsil 29 23 26 true rfl rfl rfl (lk 2 rfl rfl) (fun hB _ hF => .callQ ent131 cF (.c (ifT hB (lk 0 rfl rfl)) (V.sub.refl _) .nil) (C_usufructref06_counts (gd_get m5 hB))) ?_
  refine S.sil 30 rfl rfl (fun _ hF => .pickAnd (lk 3 rfl rfl) (fun h => ifT h (lk 0 rfl rfl)) cB) ?_
  refine S.sil 31 rfl rfl (fun _ hF => .move (lk 0 rfl rfl)) ?_
  refine S.gsil 32 28 31 true rfl rfl rfl (lk 0 rfl rfl) (fun hB _ hF => .fieldAddrC lay66 rfl rfl (lk 30 rfl rfl) rfl (flL_c (show flen _ = 1 from rfl) (flL_c (show flen _ = 1 from rfl) (flL_c (show flen _ = 1 from rfl) (flL_c (show flen _ = 1 from rfl) flL_nil))))) ?_
  refine S.gsil 33 28 31 true rfl rfl rfl (lk 1 rfl rfl) (fun hB _ hF => .loadC sz3 ag3 (ifT hB (lk 0 rfl rfl)) rfl rfl) ?_
  refine S.gsil 34 28 31 true rfl rfl rfl (lk 2 rfl rfl) (fun hB _ hF => .geq (ifT hB (lk 0 rfl rfl)) cI) ?_
  refine S.sil 35 rfl rfl (fun _ hF => .pickAnd (lk 3 rfl rfl) (fun h => ifT h (lk 0 rfl rfl)) cB) ?_
  refine S.sil 36 rfl rfl (fun _ hF => .move (lk 0 rfl rfl)) ?_
  refine S.gsil 37 33 36 true rfl rfl rfl (lk 0 rfl rfl) (fun hB _ hF => .fieldAddrC lay66 rfl rfl (lk 35 rfl rfl) rfl (flL_c (show flen _ = 1 from rfl) (flL_c (show flen _ = 1 from rfl) (flL_c (show flen _ = 1 from rfl) (flL_c (show flen _ = 1 from rfl) flL_nil))))) ?_
  refine S.gsil 38 33 36 true rfl rfl rfl (lk 1 rfl rfl) (fun hB _ hF => .loadC sz3 ag3 (ifT hB (lk 0 rfl rfl)) rfl rfl) ?_
  refine S.gsil 39 33 36 true rfl rfl rfl (lk 2 rfl rfl) (fun hB _ hF => .leq (ifT hB (lk 0 rfl rfl)) cI) ?_
  obtain ⟨v6, ev6, h⟩ := h.nam
  refine S.sil 40 rfl rfl (fun _ hF => .nv (.pickAnd (lk 3 rfl rfl) (fun h => ifT h (lk 0 rfl rfl)) cB) (congrArg V.bool ev6.symm)) ?_
  refine S.sil 2 rfl rfl (fun _ hF => .assign (lk 0 rfl rfl)) ?_
  refine S.nil ?_
  refine thenQ_n ?_
  refine AWp.prune (.eq (lk 0 rfl rfl) rfl .nil) ?_
  refine AWp.ret ?_
  obtain rfl := h.ret
  exact endF1 rfl (Wk.selS [] .nil rfl (SelE.leaf (lk 0 rfl rfl) rfl (.refl _) (fun m => (TyOk.bool.lt _ _)) .nil) .nil) (.tmp (lk 0 rfl rfl) rfl) rfl rfl
theorem C_usufructref06_Ahead {a1 : THold} {a2 : THold} {r : Bool} (h : usufructref06_Ahead a1 a2 = some r) : PureC Pg 82 [E_THold a1, E_THold a2] (V.bool r) := by
  refine PureC.ofF (CallSpec.of_bodyF 24 0 fn82 rfl rfl rfl (Nat.le_of_ble_eq_true rfl) ?_) (ltL_c (ty_THold.lt _ _) (ltL_c (ty_THold.lt _ _) ltL_nil)) (TyOk.bool.lt _ _)
  replace h := Ok.of h
  unfold usufructref06_Ahead at h
  refine AWp.seq ?_
  refine W.reg [0, 1, 2] rfl ?_
  refine S.eff 2 rfl rfl (.nf (v2 := .ptr 0 [] 0) (H2 := [.cells (E_THold a1)]) (.box (lk 0 rfl rfl) rfl) rfl rfl) trivial ?_
  refine S.eff 3 rfl rfl (.nf (v2 := .ptr 1 [] 0) (H2 := [.cells (E_THold a1), .cells (E_THold a2)]) (.box (lk 2 rfl rfl) rfl) rfl rfl) trivial ?_
  refine S.sil 4 rfl rfl (fun _ hF => .assign cB) ?_
  refine S.nil ?_
  refine thenQ_n ?_
  refine AWp.wk (Wk.freeze 0 rfl rfl (.same (lk 0 rfl rfl) (.same (lk 1 rfl rfl) (.cons (lk 2 rfl rfl) rfl (.ptr .nil (by first | rfl | omega)) .nil))) (.refl _)) ?_
  refine AWp.wk (Wk.freeze 1 rfl rfl (.same (lk 0 rfl rfl) (.cons (lk 1 rfl rfl) rfl (.ptr .nil (by first | rfl | omega)) (.same (lk 2 rfl rfl) .nil))) (.refl _)) ?_
  refine AWp.seq ?_
  refine W.reg [0, 1, 2, 3, 4, 5, 6, 7, 8, 9, 10, 11, 12, 13, 14, 15, 16, 17, 18, 19] rfl ?_
  refine S.sil 5 rfl rfl (fun _ hF => .fieldAddrC lay66 rfl rfl (lk 2 rfl rfl) rfl flL_nil) ?_
  refine S.sil 6 rfl rfl (fun _ hF => .loadC sz3 ag3 (lk 0 rfl rfl) rfl rfl) ?_
  refine S.sil 7 rfl rfl (fun _ hF => .fieldAddrC lay66 rfl rfl (lk 3 rfl rfl) rfl flL_nil) ?_
  refine S.sil 8 rfl rfl (fun _ hF => .loadC sz3 ag3 (lk 0 rfl rfl) rfl rfl) ?_
  refine S.sil 9 rfl rfl (fun _ hF => .lss (lk 2 rfl rfl) (lk 0 rfl rfl)) ?_
  refine S.sil 10 rfl rfl (fun _ hF => .move (lk 0 rfl rfl)) ?_
  refine S.gsil 11 5 10 false rfl rfl rfl (lk 0 rfl rfl) (fun hB _ hF => .fieldAddrC lay66 rfl rfl (lk 8 rfl rfl) rfl flL_nil) ?_
  refine S.gsil 12 5 10 false rfl rfl rfl (lk 1 rfl rfl) (fun hB _ hF => .loadC sz3 ag3 (ifT hB (lk 0 rfl rfl)) rfl rfl) ?_
  refine S.gsil 13 5 10 false rfl rfl rfl (lk 2 rfl rfl) (fun hB _ hF => .fieldAddrC lay66 rfl rfl (lk 9 rfl rfl) rfl flL_nil) ?_
  refine S.gsil 14 5 10 false rfl rfl rfl (lk 3 rfl rfl) (fun hB _ hF => .loadC sz3 ag3 (ifT hB (lk 0 rfl rfl)) rfl rfl) ?_
  refine S.gsil 15 5 10 false rfl rfl rfl (lk 4 rfl rfl) (fun hB _ hF => .eql (ifT hB (lk 2 rfl rfl)) (ifT hB (lk 0 rfl rfl))) ?_
  refine S.gsil 16 5 10 false rfl rfl rfl (lk 5 rfl rfl) (fun hB _ hF => .move (ifT hB (lk 0 rfl rfl))) ?_
  refine S.gsil2 17 11 16 true rfl rfl rfl (lk 0 rfl rfl) (fun hB _ hF => .fieldAddrC lay66 rfl rfl (lk 14 rfl rfl) rfl (flL_c (show flen _ = 1 from rfl) flL_nil)) ?_
  refine S.gsil2 18 11 16 true rfl rfl rfl (lk 1 rfl rfl) (fun hB _ hF => .loadC sz3 ag3 (ifT hB (lk 0 rfl rfl)) rfl rfl) ?_
  refine S.gsil2 19 11 16 true rfl rfl rfl (lk 2 rfl rfl) (fun hB _ hF => .fieldAddrC lay66 rfl rfl (lk 15 rfl rfl) rfl (flL_c (show flen _ = 1 from rfl) flL_nil)) ?_
  refine S.gsil2 20 11 16 true rfl rfl rfl (lk 3 rfl rfl) (fun hB _ hF => .loadC sz3 ag3 (ifT hB (lk 0 rfl rfl)) rfl rfl) ?_
  refine S.gsil2 21 11 16 true rfl rfl rfl (lk 4 rfl rfl) (fun hB _ hF => .lss (ifT hB (lk 2 rfl rfl)) (ifT hB (lk 0 rfl rfl))) ?_
  refine S.gsil 22 5 10 false rfl rfl rfl (lk 11 rfl rfl) (fun hB _ hF => .pickAnd (ifT hB (lk 5 rfl rfl)) (fun h => ifT ⟨hB, h⟩ (lk 0 rfl rfl)) cB) ?_
  obtain ⟨v3, ev3, h⟩ := h.nam
  refine S.sil 23 rfl rfl (fun _ hF => .nv (.pickOr (lk 12 rfl rfl) cB (fun h => ifT h (lk 0 rfl rfl))) (congrArg V.bool ev3.symm)) ?_
  refine S.sil 4 rfl rfl (fun _ hF => .assign (lk 0 rfl rfl)) ?_
  refine S.nil ?_
  refine thenQ_n ?_
  refine AWp.prune (.eq (lk 0 rfl rfl) rfl .nil) ?_
  refine AWp.ret ?_
  obtain rfl := h.ret
  exact endF1 rfl (Wk.selS [] .nil rfl (SelE.leaf (lk 0 rfl rfl) rfl (.refl _) (fun m => (TyOk.bool.lt _ _)) .nil) .nil) (.tmp (lk 0 rfl rfl) rfl) rfl rfl
theorem C_usufructref06_Rights {a1 : List THold} {r : Bool} (h : usufructref06_Rights a1 = some r) : PureC Pg 42 [.sl 5 .no (List.map E_THold a1)] (V.bool r) := by
  refine PureC.ofF (CallSpec.of_bodyF 36 0 fn42 rfl rfl rfl (Nat.le_of_ble_eq_true rfl) ?_) (ltL_c (lt_sl rfl (ty_THold.ltm _ _)) ltL_nil) (TyOk.bool.lt _ _)
  replace h := Ok.of h
  unfold usufructref06_Rights at h
  refine AWp.seq ?_
  refine W.reg [0] rfl ?_
  refine S.sil 2 rfl rfl (fun _ hF => .assign cB) ?_
  refine S.nil ?_
  refine thenQ_n ?_
  refine AWp.seq ?_
  refine AWp.seq ?_
  refine W.reg [0] rfl ?_
  refine S.sil 3 rfl rfl (fun _ hF => .assign cI) ?_
  refine S.nil ?_
  refine thenQ_n ?_
  refine AWp.cutL (fun x4 => ⟨[(2, V.bool false), (0, .sl 5 .no (List.map E_THold a1))], []⟩) nc_then h (fun q2 hq2 h => ?_) (fun x4 h => ?_)
  · refine AWp.block ?_
    refine AWp.loopT (fun s3 => ⟨[(3, (V.int .i64) s3), (2, V.bool false), (0, .sl 5 .no (List.map E_THold a1))], []⟩) hq2 (Wk.selS [] (by decide) rfl (SelE.leaf (lk 0 rfl rfl) rfl (.refl _) (fun m => ((TyOk.int .i64).lt _ _)) (SelE.leaf (lk 1 rfl rfl) rfl (.refl _) (fun m => (TyOk.bool.lt _ _)) (SelE.leaf (lk 2 rfl rfl) rfl (.refl _) (fun m => (lt_sl rfl (ty_THold.ltm _ _))) .nil))) .nil) (fun _ s3 h2 => ?_)
    rw [usufructref06_Rights_L1] at h2
    refine AWp.seq ?_
    refine AWp.seq ?_
    refine W.reg [0, 1, 2, 3] rfl ?_
    refine S.sil 4 rfl rfl (fun _ hF => .move (lk 0 rfl rfl)) ?_
    refine S.sil 5 rfl rfl (fun _ hF => .move (lk 3 rfl rfl)) ?_
    refine S.sil 6 rfl rfl (fun _ hF => .lenT sli31 (lk 0 rfl rfl) (vsub rfl (.refl _))) ?_
    refine S.sil 7 rfl rfl (fun _ hF => .lss (lk 2 rfl rfl) (lk 0 rfl rfl)) ?_
    refine S.nil ?_
    refine thenQ_n ?_
    refine AWp.condM (lk 0 rfl rfl) h2 (fun c1 h2 => ?_) (fun c1 h2 => ?_)
    · skip
      refine AWp.skip ?_
      refine thenQ_n ?_
      refine AWp.seq ?_
      refine AWp.block ?_
      refine AWp.seq ?_
      refine W.regD [0, 1, 2, 3, 4, 5, 6, 7, 8, 9, 10, 11, 12, 13, 14, 15, 16, 17, 18, 19, 20, 21, 22] mixed ?_
      refine S.sil 10 rfl rfl (fun _ hF => .move (lk 6 rfl rfl)) ?_
      refine S.sil 11 rfl rfl (fun _ hF => .move (lk 5 rfl rfl)) ?_
      obtain ⟨j5, m5, h2⟩ := h2.bnd
      refine S.sil 12 rfl rfl (fun _ hF => .ixS sli31 (lk 1 rfl rfl) (lk 0 rfl rfl) m5) ?_
      obtain ⟨v6, ev6, h2⟩ := h2.nam
      refine S.sil 13 rfl rfl (fun _ hF => .nv (.loadC sz66 ag66 (lk 0 rfl rfl) (ty_THold.fl (a1.getD j5 default)) rfl) (congrArg E_THold ev6.symm)) ?_
      obtain ⟨r7, m7, h2⟩ := h2.bnd
      refine S.sil 14 rfl rfl (fun _ hF => .callQ ent81 cF (.c (lk 0 rfl rfl) (V.sub.refl _) .nil) (C_usufructref06_Right m7)) ?_
      refine S.sil 15 rfl rfl (fun _ hF => .not (lk 0 rfl rfl)) ?_
      refine S.sil 16 rfl rfl (fun _ hF => .move (lk 0 rfl rfl)) ?_
      refine S.gsil 17 6 16 false rfl rfl rfl (lk 0 rfl rfl) (fun hB _ hF => .move (lk 11 rfl rfl)) ?_
      refine S.gsil 18 6 16 false rfl rfl rfl (lk 1 rfl rfl) (fun hB _ hF => .gtr (ifT hB (lk 0 rfl rfl)) cI) ?_
      refine S.gsil 19 6 16 false rfl rfl rfl (lk 2 rfl rfl) (fun hB _ hF => .move (ifT hB (lk 0 rfl rfl))) ?_
      refine S.gsil2 20 9 19 true rfl rfl rfl (lk 0 rfl rfl) (fun hB _ hF => .move (lk 16 rfl rfl)) ?_
      refine S.gsil2 21 9 19 true rfl rfl rfl (lk 1 rfl rfl) (fun hB _ hF => .move (lk 15 rfl rfl)) ?_
      refine S.gsil2 22 9 19 true rfl rfl rfl (lk 2 rfl rfl) (fun hB _ hF => .sub (ifT hB (lk 0 rfl rfl)) cI) ?_
      obtain ⟨j8, m8, h2⟩ := h2.bnd
      refine S.gsil2 23 9 19 true rfl rfl rfl (lk 3 rfl rfl) (fun hB _ hF => .ixS sli31 (ifT hB (lk 2 rfl rfl)) (ifT hB (lk 0 rfl rfl)) (gd_get m8 hB)) ?_
      refine S.gsil2 24 9 19 true rfl rfl rfl (lk 4 rfl rfl) (fun hB _ hF => .loadC sz66 ag66 (ifT hB (lk 0 rfl rfl)) (ty_THold.fl (a1.getD j8 default)) rfl) ?_
      refine S.gsil2 25 9 19 true rfl rfl rfl (lk 5 rfl rfl) (fun hB _ hF => .move (lk 21 rfl rfl)) ?_
      refine S.gsil2 26 9 19 true rfl rfl rfl (lk 6 rfl rfl) (fun hB _ hF => .move (lk 20 rfl rfl)) ?_
      obtain ⟨j9, m9, h2⟩ := h2.bnd
      refine S.gsil2 27 9 19 true rfl rfl rfl (lk 7 rfl rfl) (fun hB _ hF => .ixS sli31 (ifT hB (lk 1 rfl rfl)) (ifT hB (lk 0 rfl rfl)) (gd_get m9 hB)) ?_
      refine S.gsil2 28 9 19 true rfl rfl rfl (lk 8 rfl rfl) (fun hB _ hF => .loadC sz66 ag66 (ifT hB (lk 0 rfl rfl)) (ty_THold.fl (a1.getD j9 default)) rfl) ?_
      obtain ⟨r10, m10, h2⟩ := h2.bnd
      refine S.gsil2 29 9 19 true rfl rfl rfl (lk 9 rfl rfl) (fun hB _ hF => .callQ ent82 cF (.c (ifT hB (lk 4 rfl rfl)) (V.sub.refl _) (.c (ifT hB (lk 0 rfl rfl)) (V.sub.refl _) .nil)) (C_usufructref06_Ahead (gd_get m10 hB))) ?_
      refine S.gsil2 30 9 19 true rfl rfl rfl (lk 10 rfl rfl) (fun hB _ hF => .not (ifT hB (lk 0 rfl rfl))) ?_
      refine S.gsil 31 6 16 false rfl rfl rfl (lk 14 rfl rfl) (fun hB _ hF => .pickAnd (ifT hB (lk 11 rfl rfl)) (fun h => ifT ⟨hB, h⟩ (lk 0 rfl rfl)) cB) ?_
      refine S.sil 32 rfl rfl (fun _ hF => .pickOr (lk 15 rfl rfl) cB (fun h => ifT h (lk 0 rfl rfl))) ?_
      refine S.nilD (by kernel_rfl) ?_
      refine thenQ_n ?_
      refine AWp.prune (.eq (lk 0 rfl rfl) rfl (.eq (lk 16 rfl rfl) rfl (.eq (lk 17 rfl rfl) rfl (.eq (lk 18 rfl rfl) rfl (.eq (lk 19 rfl rfl) rfl (.eq (lk 20 rfl rfl) rfl (.eq (lk 21 rfl rfl) rfl (.eq (lk 22 rfl rfl) rfl (.eq (lk 23 rfl rfl) rfl (.eq (lk 24 rfl rfl) rfl (.eq (lk 25 rfl rfl) rfl (.eq (lk 26 rfl rfl) rfl (.eq (lk 27 rfl rfl) rfl (.eq (lk 28 rfl rfl) rfl (.eq (lk 29 rfl rfl) rfl .nil))))))))))))))) ?_
      refine AWp.condM (lk 0 rfl rfl) h2 (fun c2 h2 => ?_) (fun c2 h2 => ?_)
      · skip
        refine AWp.seq ?_
        refine W.reg [0] rfl ?_
        refine S.sil 2 rfl rfl (fun _ hF => .assign cB) ?_
        refine S.nil ?_
        refine thenQ_n ?_
        refine AWp.ret ?_
        refine blockQ_r ?_
        refine thenQ_r ?_
        refine thenQ_r ?_
        refine blockQ_r ?_
        refine thenQ_r ?_
        refine thenQ_r ?_
        have h := Ok.inrq h h2.ret
        obtain rfl := h.ret
        exact endF1 rfl (Wk.selS [] .nil rfl (SelE.leaf (lk 0 rfl rfl) rfl (.refl _) (fun m => (TyOk.bool.lt _ _)) .nil) .nil) (.tmp (lk 0 rfl rfl) rfl) rfl rfl
      · skip
        refine AWp.skip ?_
        refine blockQ_n ?_
        refine thenQ_n ?_
        refine W.reg [0, 1, 2] rfl ?_
        refine S.sil 8 rfl rfl (fun _ hF => .move (lk 12 rfl rfl)) ?_
        refine S.sil 9 rfl rfl (fun _ hF => .add (lk 0 rfl rfl) cI) ?_
        refine S.sil 3 rfl rfl (fun _ hF => .assign (lk 0 rfl rfl)) ?_
        refine S.nil ?_
        refine thenQ_n ?_
        exact ⟨_, h2.ret, (Wk.selS [] (by decide) rfl (SelE.leaf (lk 0 rfl rfl) rfl (.refl _) (fun m => ((TyOk.int .i64).lt _ _)) (SelE.leaf (lk 16 rfl rfl) rfl (.refl _) (fun m => (TyOk.bool.lt _ _)) (SelE.leaf (lk 17 rfl rfl) rfl (.refl _) (fun m => (lt_sl rfl (ty_THold.ltm _ _))) .nil))) .nil)⟩
    · skip
      refine AWp.exit ?_
      refine thenQ_x ?_
      refine thenQ_x ?_
      refine blockQ_x ?_
      refine thenQ_n ?_
      exact ⟨_, h2.ret, (Wk.selS [] (by decide) rfl (SelE.leaf (lk 5 rfl rfl) rfl (.refl _) (fun m => (TyOk.bool.lt _ _)) (SelE.leaf (lk 6 rfl rfl) rfl (.refl _) (fun m => (lt_sl rfl (ty_THold.ltm _ _))) .nil)) .nil)⟩
  · skip
    refine thenQ_n ?_
    refine AWp.seq ?_
    refine W.reg [0, 1, 2, 3] rfl ?_
    refine S.sil 33 rfl rfl (fun _ hF => .move (lk 1 rfl rfl)) ?_
    refine S.sil 34 rfl rfl (fun _ hF => .lenT sli31 (lk 0 rfl rfl) (vsub rfl (.refl _))) ?_
    refine S.sil 35 rfl rfl (fun _ hF => .leq (lk 0 rfl rfl) cI) ?_
    obtain ⟨v11, ev11, h⟩ := h.nam
    refine S.sil 2 rfl rfl (fun _ hF => .nv (.assign (lk 0 rfl rfl)) (congrArg V.bool ev11.symm)) ?_
    refine S.nil ?_
    refine thenQ_n ?_
    refine AWp.ret ?_
    obtain rfl := h.ret
    exact endF1 rfl (Wk.selS [] .nil rfl (SelE.leaf (lk 0 rfl rfl) rfl (.refl _) (fun m => (TyOk.bool.lt _ _)) .nil) .nil) (.tmp (lk 0 rfl rfl) rfl) rfl rfl
theorem C_usufructref05_Right {a1 : TLock} {r : Bool} (h : usufructref05_Right a1 = some r) : PureC Pg 43 [E_TLock a1] (V.bool r) := by
  refine PureC.ofF (CallSpec.of_bodyF 36 0 fn43 rfl rfl rfl (Nat.le_of_ble_eq_true rfl) ?_) (ltL_c (ty_TLock.lt _ _) ltL_nil) (TyOk.bool.lt _ _)
  replace h := Ok.of h
  unfold usufructref05_Right at h
  refine AWp.seq ?_
  refine W.reg [0, 1] rfl ?_
  refine S.eff 1 rfl rfl (.nf (v2 := .ptr 0 [] 0) (H2 := [.cells (E_TLock a1)]) (.box (lk 0 rfl rfl) rfl) rfl rfl) trivial ?_
  refine S.sil 2 rfl rfl (fun _ hF => .assign cB) ?_
  refine S.nil ?_
  refine thenQ_n ?_
  refine AWp.wk (Wk.freeze 0 rfl rfl (.same (lk 0 rfl rfl) (.cons (lk 1 rfl rfl) rfl (.ptr .nil (by first | rfl | omega)) .nil)) (.refl _)) ?_
  refine AWp.seq ?_
  refine W.reg [0, 1, 2, 3, 4, 5, 6, 7, 8, 9, 10, 11, 12, 13, 14, 15, 16, 17, 18, 19, 20, 21, 22, 23, 24, 25, 26, 27, 28, 29, 30, 31, 32, 33] rfl ?_
  refine S.sil 3 rfl rfl (fun _ hF => .fieldAddrC lay30 rfl rfl (lk 1 rfl rfl) rfl flL_nil) ?_
  refine S.sil 4 rfl rfl (fun _ hF => .loadC sz3 ag3 (lk 0 rfl rfl) rfl rfl) ?_
  refine S.sil 5 rfl rfl (fun _ hF => .geq (lk 0 rfl rfl) cI) ?_
  refine S.sil 6 rfl rfl (fun _ hF => .move (lk 0 rfl rfl)) ?_
  refine S.gsil 7 3 6 true rfl rfl rfl (lk 0 rfl rfl) (fun hB _ hF => .fieldAddrC lay30 rfl rfl (lk 5 rfl rfl) rfl flL_nil) ?_
  refine S.gsil 8 3 6 true rfl rfl rfl (lk 1 rfl rfl) (fun hB _ hF => .loadC sz3 ag3 (ifT hB (lk 0 rfl rfl)) rfl rfl) ?_
  obtain ⟨r2, m2, h⟩ := h.bnd
  refine S.gsil 9 3 6 true rfl rfl rfl (lk 2 rfl rfl) (fun hB _ hF => .callQ ent40 cF (.c (ifT hB (lk 0 rfl rfl)) (V.sub.refl _) .nil) (C_usufructref01_Is (gd_get m2 hB))) ?_
  refine S.sil 10 rfl rfl (fun _ hF => .pickAnd (lk 3 rfl rfl) (fun h => ifT h (lk 0 rfl rfl)) cB) ?_
  refine S.sil 11 rfl rfl (fun _ hF => .move (lk 0 rfl rfl)) ?_
  refine S.gsil 12 8 11 true rfl rfl rfl (lk 0 rfl rfl) (fun hB _ hF => .fieldAddrC lay30 rfl rfl (lk 10 rfl rfl) rfl (flL_c (show flen _ = 1 from rfl) flL_nil)) ?_
  refine S.gsil 13 8 11 true rfl rfl rfl (lk 1 rfl rfl) (fun hB _ hF => .loadC sz3 ag3 (ifT hB (lk 0 rfl rfl)) rfl rfl) ?_
  refine S.gsil 14 8 11 true rfl rfl rfl (lk 2 rfl rfl) (fun hB _ hF => .geq (ifT hB (lk 0 rfl rfl)) cI) ?_
  refine S.sil 15 rfl rfl (fun _ hF => .pickAnd (lk 3 rfl rfl) (fun h => ifT h (lk 0 rfl rfl)) cB) ?_
  refine S.sil 16 rfl rfl (fun _ hF => .move (lk 0 rfl rfl)) ?_
  refine S.gsil 17 13 16 true rfl rfl rfl (lk 0 rfl rfl) (fun hB _ hF => .fieldAddrC lay30 rfl rfl (lk 15 rfl rfl) rfl (flL_c (show flen _ = 1 from rfl) flL_nil)) ?_
  refine S.gsil 18 13 16 true rfl rfl rfl (lk 1 rfl rfl) (fun hB _ hF => .loadC sz3 ag3 (ifT hB (lk 0 rfl rfl)) rfl rfl) ?_
  obtain ⟨r3, m3, h⟩ := h.bnd
  refine S.gsil 19 13 16 true rfl rfl rfl (lk 2 rfl rfl) (fun hB _ hF => .callQ ent40 cF (.c (ifT hB (lk 0 rfl rfl)) (V.sub.refl _) .nil) (C_usufructref01_Is (gd_get m3 hB))) ?_
  refine S.sil 20 rfl rfl (fun _ hF => .pickAnd (lk 3 rfl rfl) (fun h => ifT h (lk 0 rfl rfl)) cB) ?_
  refine S.sil 21 rfl rfl (fun _ hF => .move (lk 0 rfl rfl)) ?_
  refine S.gsil 22 18 21 true rfl rfl rfl (lk 0 rfl rfl) (fun hB _ hF => .fieldAddrC lay30 rfl rfl (lk 20 rfl rfl) rfl (flL_c (show flen _ = 1 from rfl) (flL_c (show flen _ = 1 from rfl) flL_nil))) ?_
  refine S.gsil 23 18 21 true rfl rfl rfl (lk 1 rfl rfl) (fun hB _ hF => .loadC sz3 ag3 (ifT hB (lk 0 rfl rfl)) rfl rfl) ?_
  refine S.gsil 24 18 21 true rfl rfl rfl (lk 2 rfl rfl) (fun hB _ hF => .geq (ifT hB (lk 0 rfl rfl)) cI) ?_
  obtain ⟨v4, ev4, h⟩ := h.nam
  refine S.sil 25 rfl rfl (fun _ hF => .nv (.pickAnd (lk 3 rfl rfl) (fun h => ifT h (lk 0 rfl rfl)) cB) (congrArg V.bool ev4.symm)) ?_
  refine S.sil 26 rfl rfl (fun _ hF => .move (lk 0 rfl rfl)) ?_
  refine S.gsil 27 23 26 true rfl rfl rfl (lk 0 rfl rfl) (fun hB _ hF => .fieldAddrC lay30 rfl rfl (lk 25 rfl rfl) rfl (flL_c (show flen _ = 1 from rfl) (flL_c (show flen _ = 1 from rfl) flL_nil))) ?_
  refine S.gsil 28 23 26 true rfl rfl rfl (lk 1 rfl rfl) (fun hB _ hF => .loadC sz3 ag3 (ifT hB (lk 0 rfl rfl)) rfl rfl) ?_
  refine S.gsil 29 23 26 true rfl rfl rfl (lk 2 rfl rfl) (fun hB _ hF => .leq (ifT hB (lk 0 rfl rfl)) cI) ?_
  refine S.sil 30 rfl rfl (fun _ hF => .pickAnd (lk 3 rfl rfl) (fun h => ifT h (lk 0 rfl rfl)) cB) ?_
  refine S.sil 31 rfl rfl (fun _ hF => .move (lk 0 rfl rfl)) ?_
  refine S.gsil 32 28 31 true rfl rfl rfl (lk 0 rfl rfl) (fun hB _ hF => .fieldAddrC lay30 rfl rfl (lk 30 rfl rfl) rfl (flL_c (show flen _ = 1 from rfl) (flL_c (show flen _ = 1 from rfl) (flL_c (show flen _ = 1 from rfl) flL_nil)))) ?_
  refine S.gsil 33 28 31 true rfl rfl rfl (lk 1 rfl rfl) (fun hB _ hF => .loadC sz3 ag3 (ifT hB (lk 0 rfl rfl)) rfl rfl) ?_
  obtain ⟨r5, m5, h⟩ := h.bnd
  refine S.gsil 34 28 31 true rfl rfl rfl (lk 2 rfl rfl) (fun hB _ hF => .callQ ent40 cF (.c (ifT hB (lk 0 rfl rfl)) (V.sub.refl _) .nil) (C_usufructref01_Is (gd_get m5 hB))) ?_
  refine S.sil 35 rfl rfl (fun _ hF => .pickAnd (lk 3 rfl rfl) (fun h => ifT h (lk 0 rfl rfl)) cB) ?_
  obtain ⟨v6, ev6, h⟩ := h.nam
  refine S.sil 2 rfl rfl (fun _ hF => .nv (.assign (lk 0 rfl rfl)) (congrArg V.bool ev6.symm)) ?_
  refine S.nil ?_
  refine thenQ_n ?_
  refine AWp.prune (.eq (lk 0 rfl rfl) rfl .nil) ?_
  refine AWp.ret ?_
  obtain rfl := h.ret
  exact endF1 rfl (Wk.selS [] .nil rfl (SelE.leaf (lk 0 rfl rfl) rfl (.refl _) (fun m => (TyOk.bool.lt _ _)) .nil) .nil) (.tmp (lk 0 rfl rfl) rfl) rfl rfl
theorem C_usufructref07_Right {a1 : TField} {r : Bool} (h : usufructref07_Right a1 = some r) : PureC Pg 14 [E_TField a1] (V.bool r) := by
  refine PureC.ofF (CallSpec.of_bodyF 55 0 fn14 rfl rfl rfl (Nat.le_of_ble_eq_true rfl) ?_) (ltL_c (ty_TField.lt _ _) ltL_nil) (TyOk.bool.lt _ _)
  replace h := Ok.of h
  unfold usufructref07_Right at h
  refine AWp.seq ?_
  refine W.reg [0, 1] rfl ?_
  refine S.eff 1 rfl rfl (.nf (v2 := .ptr 0 [] 0) (H2 := [.cells (E_TField a1)]) (.box (lk 0 rfl rfl) rfl) rfl rfl) trivial ?_
  refine S.sil 2 rfl rfl (fun _ hF => .assign cB) ?_
  refine S.nil ?_
  refine thenQ_n ?_
  refine AWp.wk (Wk.freeze 0 rfl rfl (.same (lk 0 rfl rfl) (.cons (lk 1 rfl rfl) rfl (.ptr .nil (by first | rfl | omega)) .nil)) (.refl _)) ?_
  refine AWp.seq ?_
  refine AWp.seq ?_
  refine W.reg [0, 1, 2, 3, 4, 5, 6, 7, 8, 9, 10, 11, 12, 13, 14] rfl ?_
  refine S.sil 3 rfl rfl (fun _ hF => .fieldAddrC lay33 rfl rfl (lk 1 rfl rfl) rfl flL_nil) ?_
  refine S.sil 4 rfl rfl (fun _ hF => .loadC sz9 ag9 (lk 0 rfl rfl) rfl rfl) ?_
  obtain ⟨r2, m2, h⟩ := h.bnd
  refine S.sil 5 rfl rfl (fun _ hF => .callQ ent39 cF (.c (lk 0 rfl rfl) (V.sub.refl _) .nil) (C_usufructref07_Name m2)) ?_
  refine S.sil 6 rfl rfl (fun _ hF => .not (lk 0 rfl rfl)) ?_
  refine S.sil 7 rfl rfl (fun _ hF => .move (lk 0 rfl rfl)) ?_
  refine S.gsil 8 4 7 false rfl rfl rfl (lk 0 rfl rfl) (fun hB _ hF => .fieldAddrC lay33 rfl rfl (lk 6 rfl rfl) rfl (flL_c (show flen _ = 1 from rfl) (flL_c (show flen _ = 1 from rfl) flL_nil))) ?_
  refine S.gsil 9 4 7 false rfl rfl rfl (lk 1 rfl rfl) (fun hB _ hF => .loadC sz3 ag3 (ifT hB (lk 0 rfl rfl)) rfl rfl) ?_
  refine S.gsil 10 4 7 false rfl rfl rfl (lk 2 rfl rfl) (fun hB _ hF => .lss (ifT hB (lk 0 rfl rfl)) cI) ?_
  refine S.sil 11 rfl rfl (fun _ hF => .pickOr (lk 3 rfl rfl) cB (fun h => ifT h (lk 0 rfl rfl))) ?_
  refine S.sil 12 rfl rfl (fun _ hF => .move (lk 0 rfl rfl)) ?_
  refine S.gsil 13 9 12 false rfl rfl rfl (lk 0 rfl rfl) (fun hB _ hF => .fieldAddrC lay33 rfl rfl (lk 11 rfl rfl) rfl (flL_c (show flen _ = 1 from rfl) (flL_c (show flen _ = 1 from rfl) flL_nil))) ?_
  refine S.gsil 14 9 12 false rfl rfl rfl (lk 1 rfl rfl) (fun hB _ hF => .loadC sz3 ag3 (ifT hB (lk 0 rfl rfl)) rfl rfl) ?_
  obtain ⟨r3, m3, h⟩ := h.bnd
  refine S.gsil 15 9 12 false rfl rfl rfl (lk 2 rfl rfl) (fun hB _ hF => .callQ ent40 cF (.c (ifT hB (lk 0 rfl rfl)) (V.sub.refl _) .nil) (C_usufructref01_Is (gd_get m3 hB))) ?_
  refine S.gsil 16 9 12 false rfl rfl rfl (lk 3 rfl rfl) (fun hB _ hF => .not (ifT hB (lk 0 rfl rfl))) ?_
  refine S.sil 17 rfl rfl (fun _ hF => .pickOr (lk 4 rfl rfl) cB (fun h => ifT h (lk 0 rfl rfl))) ?_
  refine S.nil ?_
  refine thenQ_n ?_
  refine AWp.prune (.eq (lk 0 rfl rfl) rfl (.eq (lk 15 rfl rfl) rfl (.eq (lk 16 rfl rfl) rfl .nil))) ?_
  refine AWp.condM (lk 0 rfl rfl) h (fun c1 h => ?_) (fun c1 h => ?_)
  · skip
    refine AWp.seq ?_
    refine W.reg [0] rfl ?_
    refine S.sil 2 rfl rfl (fun _ hF => .assign cB) ?_
    refine S.nil ?_
    refine thenQ_n ?_
    refine AWp.ret ?_
    refine thenQ_r ?_
    obtain rfl := h.ret
    exact endF1 rfl (Wk.selS [] .nil rfl (SelE.leaf (lk 0 rfl rfl) rfl (.refl _) (fun m => (TyOk.bool.lt _ _)) .nil) .nil) (.tmp (lk 0 rfl rfl) rfl) rfl rfl
  · skip
    refine AWp.skip ?_
    refine thenQ_n ?_
    refine AWp.seq ?_
    refine AWp.seq ?_
    refine W.reg [0, 1, 2] rfl ?_
    refine S.sil 18 rfl rfl (fun _ hF => .fieldAddrC lay33 rfl rfl (lk 2 rfl rfl) rfl (flL_c (show flen _ = 1 from rfl) flL_nil)) ?_
    refine S.sil 19 rfl rfl (fun _ hF => .loadC sz3 ag3 (lk 0 rfl rfl) rfl rfl) ?_
    refine S.sil 20 rfl rfl (fun _ hF => .eql (lk 0 rfl rfl) cI) ?_
    refine S.nil ?_
    refine thenQ_n ?_
    refine AWp.condM (lk 0 rfl rfl) h (fun c2 h => ?_) (fun c2 h => ?_)
    · skip
      refine AWp.seq ?_
      refine W.reg [0, 1, 2, 3, 4, 5, 6, 7, 8, 9, 10, 11, 12, 13, 14] rfl ?_
      refine S.sil 21 rfl rfl (fun _ hF => .fieldAddrC lay33 rfl rfl (lk 5 rfl rfl) rfl (flL_c (show flen _ = 1 from rfl) (flL_c (show flen _ = 1 from rfl) (flL_c (show flen _ = 1 from rfl) flL_nil)))) ?_
      refine S.sil 22 rfl rfl (fun _ hF => .loadC sz28 ag28 (lk 0 rfl rfl) (ty_TCounter.fl a1.Counter) rfl) ?_
      obtain ⟨r4, m4, h⟩ := h.bnd
      refine S.sil 23 rfl rfl (fun _ hF => .callQ ent41 cF (.c (lk 0 rfl rfl) (V.sub.refl _) .nil) (C_usufructref04_Right m4)) ?_
      refine S.sil 24 rfl rfl (fun _ hF => .move (lk 0 rfl rfl)) ?_
      refine S.gsil 25 3 24 true rfl rfl rfl (lk 0 rfl rfl) (fun hB _ hF => .fieldAddrC lay33 rfl rfl (lk 9 rfl rfl) rfl (flL_c (show flen _ = 1 from rfl) (flL_c (show flen _ = 1 from rfl) (flL_c (show flen _ = 1 from rfl) (flL_c (ty_TCounter.fl a1.Counter) (flL_c (ty_TLock.fl a1.Lock) flL_nil)))))) ?_
      refine S.gsil 26 3 24 true rfl rfl rfl (lk 1 rfl rfl) (fun hB _ hF => .loadC sz31 ag31 (ifT hB (lk 0 rfl rfl)) rfl rfl) ?_
      obtain ⟨r5, m5, h⟩ := h.bnd
      refine S.gsil 27 3 24 true rfl rfl rfl (lk 2 rfl rfl) (fun hB _ hF => .callQ ent42 cF (.c (ifT hB (lk 0 rfl rfl)) (V.sub.refl _) .nil) (C_usufructref06_Rights (gd_get m5 hB))) ?_
      refine S.sil 28 rfl rfl (fun _ hF => .pickAnd (lk 3 rfl rfl) (fun h => ifT h (lk 0 rfl rfl)) cB) ?_
      refine S.sil 29 rfl rfl (fun _ hF => .move (lk 0 rfl rfl)) ?_
      refine S.gsil 30 8 29 true rfl rfl rfl (lk 0 rfl rfl) (fun hB _ hF => .fieldAddrC lay33 rfl rfl (lk 14 rfl rfl) rfl (flL_c (show flen _ = 1 from rfl) (flL_c (show flen _ = 1 from rfl) (flL_c (show flen _ = 1 from rfl) (flL_c (ty_TCounter.fl a1.Counter) flL_nil))))) ?_
      refine S.gsil 31 8 29 true rfl rfl rfl (lk 1 rfl rfl) (fun hB _ hF => .loadC sz30 ag30 (ifT hB (lk 0 rfl rfl)) (ty_TLock.fl a1.Lock) rfl) ?_
      refine S.gsil 32 8 29 true rfl rfl rfl (lk 2 rfl rfl) (fun hB _ hF => .nv (v2 := E_TLock (⟨0, 0, 0, 0⟩ : TLock)) (.buildStW lay30 zv30 rfl .nil) rfl) ?_
      refine S.gsil 33 8 29 true rfl rfl rfl (lk 3 rfl rfl) (fun hB _ hF => .eqlT eqt30 eqk_TLock shk_TLock (ifT hB (lk 1 rfl rfl)) (ifT hB (lk 0 rfl rfl)) rfl rfl) ?_
      refine S.sil 34 rfl rfl (fun _ hF => .pickAnd (lk 4 rfl rfl) (fun h => ifT h (lk 0 rfl rfl)) cB) ?_
      obtain ⟨v6, ev6, h⟩ := h.nam
      refine S.sil 2 rfl rfl (fun _ hF => .nv (.assign (lk 0 rfl rfl)) (congrArg V.bool ev6.symm)) ?_
      refine S.nil ?_
      refine thenQ_n ?_
      refine AWp.prune (.eq (lk 0 rfl rfl) rfl (.eq (lk 20 rfl rfl) rfl .nil)) ?_
      refine AWp.ret ?_
      refine thenQ_r ?_
      obtain rfl := h.ret
      exact endF1 rfl (Wk.selS [] .nil rfl (SelE.leaf (lk 0 rfl rfl) rfl (.refl _) (fun m => (TyOk.bool.lt _ _)) .nil) .nil) (.tmp (lk 0 rfl rfl) rfl) rfl rfl
    · skip
      refine AWp.skip ?_
      refine thenQ_n ?_
      refine AWp.seq ?_
      refine W.reg [0, 1, 2, 3, 4, 5, 6, 7, 8, 9, 10, 11, 12, 13, 14, 15, 16, 17, 18, 19, 20] rfl ?_
      refine S.sil 35 rfl rfl (fun _ hF => .fieldAddrC lay33 rfl rfl (lk 5 rfl rfl) rfl (flL_c (show flen _ = 1 from rfl) flL_nil)) ?_
      refine S.sil 36 rfl rfl (fun _ hF => .loadC sz3 ag3 (lk 0 rfl rfl) rfl rfl) ?_
      refine S.sil 37 rfl rfl (fun _ hF => .eql (lk 0 rfl rfl) cI) ?_
      refine S.sil 38 rfl rfl (fun _ hF => .move (lk 0 rfl rfl)) ?_
      refine S.gsil 39 3 38 true rfl rfl rfl (lk 0 rfl rfl) (fun hB _ hF => .fieldAddrC lay33 rfl rfl (lk 9 rfl rfl) rfl (flL_c (show flen _ = 1 from rfl) (flL_c (show flen _ = 1 from rfl) (flL_c (show flen _ = 1 from rfl) (flL_c (ty_TCounter.fl a1.Counter) flL_nil))))) ?_
      refine S.gsil 40 3 38 true rfl rfl rfl (lk 1 rfl rfl) (fun hB _ hF => .loadC sz30 ag30 (ifT hB (lk 0 rfl rfl)) (ty_TLock.fl a1.Lock) rfl) ?_
      obtain ⟨r7, m7, h⟩ := h.bnd
      refine S.gsil 41 3 38 true rfl rfl rfl (lk 2 rfl rfl) (fun hB _ hF => .callQ ent43 cF (.c (ifT hB (lk 0 rfl rfl)) (V.sub.refl _) .nil) (C_usufructref05_Right (gd_get m7 hB))) ?_
      refine S.sil 42 rfl rfl (fun _ hF => .pickAnd (lk 3 rfl rfl) (fun h => ifT h (lk 0 rfl rfl)) cB) ?_
      refine S.sil 43 rfl rfl (fun _ hF => .move (lk 0 rfl rfl)) ?_
      refine S.gsil 44 8 43 true rfl rfl rfl (lk 0 rfl rfl) (fun hB _ hF => .fieldAddrC lay33 rfl rfl (lk 14 rfl rfl) rfl (flL_c (show flen _ = 1 from rfl) (flL_c (show flen _ = 1 from rfl) (flL_c (show flen _ = 1 from rfl) (flL_c (ty_TCounter.fl a1.Counter) (flL_c (ty_TLock.fl a1.Lock) flL_nil)))))) ?_
      refine S.gsil 45 8 43 true rfl rfl rfl (lk 1 rfl rfl) (fun hB _ hF => .loadC sz31 ag31 (ifT hB (lk 0 rfl rfl)) rfl rfl) ?_
      refine S.gsil 46 8 43 true rfl rfl rfl (lk 2 rfl rfl) (fun hB _ hF => .lenT sli31 (ifT hB (lk 0 rfl rfl)) (vsub rfl (.refl _))) ?_
      refine S.gsil 47 8 43 true rfl rfl rfl (lk 3 rfl rfl) (fun hB _ hF => .eql (ifT hB (lk 0 rfl rfl)) cI) ?_
      obtain ⟨v8, ev8, h⟩ := h.nam
      refine S.sil 48 rfl rfl (fun _ hF => .nv (.pickAnd (lk 4 rfl rfl) (fun h => ifT h (lk 0 rfl rfl)) cB) (congrArg V.bool ev8.symm)) ?_
      refine S.sil 49 rfl rfl (fun _ hF => .move (lk 0 rfl rfl)) ?_
      refine S.gsil 50 14 49 true rfl rfl rfl (lk 0 rfl rfl) (fun hB _ hF => .fieldAddrC lay33 rfl rfl (lk 20 rfl rfl) rfl (flL_c (show flen _ = 1 from rfl) (flL_c (show flen _ = 1 from rfl) (flL_c (show flen _ = 1 from rfl) flL_nil)))) ?_
      refine S.gsil 51 14 49 true rfl rfl rfl (lk 1 rfl rfl) (fun hB _ hF => .loadC sz28 ag28 (ifT hB (lk 0 rfl rfl)) (ty_TCounter.fl a1.Counter) rfl) ?_
      refine S.gsil 52 14 49 true rfl rfl rfl (lk 2 rfl rfl) (fun hB _ hF => .nv (v2 := E_TCounter (⟨0, 0, 0, (default : TRights), (default : TRights)⟩ : TCounter)) (.buildStW lay28 zv28 rfl .nil) rfl) ?_
      refine S.gsil 53 14 49 true rfl rfl rfl (lk 3 rfl rfl) (fun hB _ hF => .eqlT eqt28 eqk_TCounter shk_TCounter (ifT hB (lk 1 rfl rfl)) (ifT hB (lk 0 rfl rfl)) rfl rfl) ?_
      obtain ⟨v9, ev9, h⟩ := h.nam
      refine S.sil 54 rfl rfl (fun _ hF => .nv (.pickAnd (lk 4 rfl rfl) (fun h => ifT h (lk 0 rfl rfl)) cB) (congrArg V.bool ev9.symm)) ?_
      refine S.sil 2 rfl rfl (fun _ hF => .assign (lk 0 rfl rfl)) ?_
      refine S.nil ?_
      refine thenQ_n ?_
      refine AWp.prune (.eq (lk 0 rfl rfl) rfl .nil) ?_
      refine AWp.ret ?_
      obtain rfl := h.ret
      exact endF1 rfl (Wk.selS [] .nil rfl (SelE.leaf (lk 0 rfl rfl) rfl (.refl _) (fun m => (TyOk.bool.lt _ _)) .nil) .nil) (.tmp (lk 0 rfl rfl) rfl) rfl rfl
theorem C_num_Is {a1 : Int} {r : Bool} (h : num_Is a1 = some r) : PureC Pg 64 [(V.int .i64) a1] (V.bool r) := by
  refine PureC.ofF (CallSpec.of_bodyF 9 0 fn64 rfl rfl rfl (Nat.le_of_ble_eq_true rfl) ?_) (ltL_c ((TyOk.int .i64).lt _ _) ltL_nil) (TyOk.bool.lt _ _)
  replace h := Ok.of h
  unfold num_Is at h
  refine AWp.seq ?_
  refine W.reg [0] rfl ?_
  refine S.sil 2 rfl rfl (fun _ hF => .assign cB) ?_
  refine S.nil ?_
  refine thenQ_n ?_
  refine AWp.seq ?_
  refine W.reg [0, 1, 2, 3, 4, 5, 6] rfl ?_
  refine S.sil 3 rfl rfl (fun _ hF => .move (lk 1 rfl rfl)) ?_
  refine S.sil 4 rfl rfl (fun _ hF => .geq (lk 0 rfl rfl) cI) ?_
  refine S.sil 5 rfl rfl (fun _ hF => .move (lk 0 rfl rfl)) ?_
  refine S.gsil 6 2 5 true rfl rfl rfl (lk 0 rfl rfl) (fun hB _ hF => .move (lk 4 rfl rfl)) ?_
  refine S.gsil 7 2 5 true rfl rfl rfl (lk 1 rfl rfl) (fun hB _ hF => .leq (ifT hB (lk 0 rfl rfl)) cI) ?_
  refine S.sil 8 rfl rfl (fun _ hF => .pickAnd (lk 2 rfl rfl) (fun h => ifT h (lk 0 rfl rfl)) cB) ?_
  obtain ⟨v2, ev2, h⟩ := h.nam
  refine S.sil 2 rfl rfl (fun _ hF => .nv (.assign (lk 0 rfl rfl)) (congrArg V.bool ev2.symm)) ?_
  refine S.nil ?_
  refine thenQ_n ?_
  refine AWp.ret ?_
  obtain rfl := h.ret
  exact endF1 rfl (Wk.selS [] .nil rfl (SelE.leaf (lk 0 rfl rfl) rfl (.refl _) (fun m => (TyOk.bool.lt _ _)) .nil) .nil) (.tmp (lk 0 rfl rfl) rfl) rfl rfl
theorem C_num_checked {a1 : Int} {a2 : List Int} {r : Int × Int} (h : num_checked a1 a2 = some r) : PureC Pg 156 [(V.int .i64) a1, .sl 1 .exact (List.map (V.int .i64) a2)] (.tup [(V.int .i64) r.1, (V.int .i64) r.2]) := by
  refine PureC.ofF (CallSpec.of_bodyF 22 0 fn156 rfl rfl rfl (Nat.le_of_ble_eq_true rfl) ?_) (ltL_c ((TyOk.int .i64).lt _ _) (ltL_c (lt_sl rfl ((TyOk.int .i64).ltm _ _)) ltL_nil)) (lt_tup (ltL_c ((TyOk.int .i64).lt _ _) (ltL_c ((TyOk.int .i64).lt _ _) ltL_nil)))
  replace h := Ok.of h
  unfold num_checked at h
  refine AWp.seq ?_
  refine W.reg [0, 1] rfl ?_
  refine S.sil 4 rfl rfl (fun _ hF => .assign cI) ?_
  refine S.sil 5 rfl rfl (fun _ hF => .assign cI) ?_
  refine S.nil ?_
  refine thenQ_n ?_
  refine AWp.seq ?_
  refine AWp.seq ?_
  refine W.reg [0, 1, 2, 3, 4, 5] rfl ?_
  refine S.sil 8 rfl rfl (fun _ hF => .move (lk 3 rfl rfl)) ?_
  refine S.sil 9 rfl rfl (fun _ hF => .move (lk 3 rfl rfl)) ?_
  refine S.sil 10 rfl rfl (fun _ hF => .buildSliceW sli116 zv3 rfl rfl (by decide) (.cons (lk 0 rfl rfl) rfl (.refl _) rfl .nil)) ?_
  obtain ⟨l3, m3, h⟩ := h.bnd
  refine S.eff 11 rfl rfl (.nf (v2 := .sl 1 (.tok 0) (List.map (V.int .i64) l3)) (H2 := [.tail]) (.appX sli116 und116 zv3 rfl (by decide) (lk 2 rfl rfl) (V.sub.refl _) (lk 0 rfl rfl) Rd.sl m3 rfl) rfl rfl) trivial ?_
  refine S.sil 12 rfl rfl (fun _ hF => .lenT sli116 (lk 0 rfl rfl) (vsub rfl (.forget _ _ _))) ?_
  refine S.sil 13 rfl rfl (fun _ hF => .move cI) ?_
  refine S.nil ?_
  refine thenQ_n ?_
  refine AWp.cutL (fun x6 => ⟨[(5, (V.int .i64) 0), (4, (V.int .i64) 0), (0, (V.int .i64) a1)], []⟩) nc_then h (fun q4 hq4 h => ?_) (fun x6 h => ?_)
  · refine AWp.block ?_
    refine AWp.loopT (fun s5 => ⟨[(13, (V.int .i64) s5), (12, (V.int .i64) (l3.length : Int)), (11, .sl 1 (.tok 0) (List.map (V.int .i64) l3)), (5, (V.int .i64) 0), (4, (V.int .i64) 0), (0, (V.int .i64) a1)], [.tail]⟩) hq4 (Wk.selS [0] (by decide) rfl (SelE.leaf (lk 0 rfl rfl) rfl (.refl _) (fun m => ((TyOk.int .i64).lt _ _)) (SelE.leaf (lk 1 rfl rfl) rfl (.refl _) (fun m => ((TyOk.int .i64).lt _ _)) (SelE.spec (lk 2 rfl rfl) rfl (.refl _) (ren_sl (TyOk.int .i64) _) (lt_sl rfl ((TyOk.int .i64).ltm _ _)) (SelE.leaf (lk 6 rfl rfl) rfl (.refl _) (fun m => ((TyOk.int .i64).lt _ _)) (SelE.leaf (lk 7 rfl rfl) rfl (.refl _) (fun m => ((TyOk.int .i64).lt _ _)) (SelE.leaf (lk 8 rfl rfl) rfl (.refl _) (fun m => ((TyOk.int .i64).lt _ _)) .nil)))))) (.cons rfl rfl trivial .nil)) (fun _ s5 h4 => ?_)
    rw [num_checked_L1] at h4
    refine AWp.seq ?_
    refine W.reg [0] rfl ?_
    refine S.sil 14 rfl rfl (fun _ hF => .lss (lk 0 rfl rfl) (lk 1 rfl rfl)) ?_
    refine S.nil ?_
    refine thenQ_n ?_
    refine AWp.seq ?_
    refine AWp.condM (lk 0 rfl rfl) h4 (fun c1 h4 => ?_) (fun c1 h4 => ?_)
    · skip
      refine AWp.skip ?_
      refine thenQ_n ?_
      refine AWp.seq ?_
      refine AWp.block ?_
      refine AWp.seq ?_
      refine W.reg [0, 1, 2] rfl ?_
      obtain ⟨j7, m7, h4⟩ := h4.bnd
      refine S.sil 15 rfl rfl (fun _ hF => .ixS sli116 (lk 3 rfl rfl) (lk 1 rfl rfl) m7) ?_
      refine S.sil 16 rfl rfl (fun _ hF => .loadC sz3 ag3 (lk 0 rfl rfl) rfl rfl) ?_
      refine S.sil 7 rfl rfl (fun _ hF => .assign (lk 0 rfl rfl)) ?_
      refine S.nil ?_
      refine thenQ_n ?_
      refine AWp.seq ?_
      refine W.reg [0, 1, 2] rfl ?_
      refine S.sil 17 rfl rfl (fun _ hF => .move (lk 0 rfl rfl)) ?_
      obtain ⟨r8, m8, h4⟩ := h4.bnd
      refine S.sil 18 rfl rfl (fun _ hF => .callQ ent64 cF (.c (lk 0 rfl rfl) (V.sub.refl _) .nil) (C_num_Is m8)) ?_
      refine S.sil 19 rfl rfl (fun _ hF => .not (lk 0 rfl rfl)) ?_
      refine S.nil ?_
      refine thenQ_n ?_
      refine AWp.condM (lk 0 rfl rfl) h4 (fun c2 h4 => ?_) (fun c2 h4 => ?_)
      · skip
        refine AWp.seq ?_
        refine W.reg [0, 1] rfl ?_
        refine S.sil 4 rfl rfl (fun _ hF => .assign cI) ?_
        refine S.sil 5 rfl rfl (fun _ hF => .assign cI) ?_
        refine S.nil ?_
        refine thenQ_n ?_
        refine AWp.ret ?_
        refine blockQ_r ?_
        refine thenQ_r ?_
        refine thenQ_r ?_
        refine blockQ_r ?_
        refine thenQ_r ?_
        refine thenQ_r ?_
        have h := Ok.inrq h h4.ret
        obtain rfl := h.ret
        exact endFN rfl (Wk.selS [] .nil rfl (SelE.leaf (lk 1 rfl rfl) rfl (.refl _) (fun m => ((TyOk.int .i64).lt _ _)) (SelE.leaf (lk 0 rfl rfl) rfl (.refl _) (fun m => ((TyOk.int .i64).lt _ _)) .nil)) .nil) (.cons (.tmp (lk 0 rfl rfl) rfl) (.cons (.tmp (lk 1 rfl rfl) rfl) .nil)) rfl rfl rfl
      · skip
        refine AWp.skip ?_
        refine blockQ_n ?_
        refine thenQ_n ?_
        refine W.reg [0, 1] rfl ?_
        refine S.sil 20 rfl rfl (fun _ hF => .add (lk 7 rfl rfl) cI) ?_
        refine S.sil 13 rfl rfl (fun _ hF => .move (lk 0 rfl rfl)) ?_
        refine S.nil ?_
        refine thenQ_n ?_
        exact ⟨_, h4.ret, (Wk.selS [0] (by decide) rfl (SelE.leaf (lk 0 rfl rfl) rfl (.refl _) (fun m => ((TyOk.int .i64).lt _ _)) (SelE.leaf (lk 10 rfl rfl) rfl (.refl _) (fun m => ((TyOk.int .i64).lt _ _)) (SelE.spec (lk 11 rfl rfl) rfl (.refl _) (ren_sl (TyOk.int .i64) _) (lt_sl rfl ((TyOk.int .i64).ltm _ _)) (SelE.leaf (lk 12 rfl rfl) rfl (.refl _) (fun m => ((TyOk.int .i64).lt _ _)) (SelE.leaf (lk 13 rfl rfl) rfl (.refl _) (fun m => ((TyOk.int .i64).lt _ _)) (SelE.leaf (lk 14 rfl rfl) rfl (.refl _) (fun m => ((TyOk.int .i64).lt _ _)) .nil)))))) (.cons rfl rfl trivial .nil))⟩
    · skip
      refine AWp.exit ?_
      refine thenQ_x ?_
      refine thenQ_x ?_
      refine blockQ_x ?_
      refine thenQ_n ?_
      exact ⟨_, h4.ret, (Wk.selS [] (by decide) rfl (SelE.leaf (lk 4 rfl rfl) rfl (.refl _) (fun m => ((TyOk.int .i64).lt _ _)) (SelE.leaf (lk 5 rfl rfl) rfl (.refl _) (fun m => ((TyOk.int .i64).lt _ _)) (SelE.leaf (lk 6 rfl rfl) rfl (.refl _) (fun m => ((TyOk.int .i64).lt _ _)) .nil))) .nil)⟩
  · skip
    refine thenQ_n ?_
    refine AWp.seq ?_
    refine W.reg [0, 1, 2] rfl ?_
    refine S.sil 21 rfl rfl (fun _ hF => .move (lk 2 rfl rfl)) ?_
    refine S.sil 4 rfl rfl (fun _ hF => .assign (lk 0 rfl rfl)) ?_
    refine S.sil 5 rfl rfl (fun _ hF => .assign cI) ?_
    refine S.nil ?_
    refine thenQ_n ?_
    refine AWp.ret ?_
    obtain rfl := h.ret
    exact endFN rfl (Wk.selS [] .nil rfl (SelE.leaf (lk 1 rfl rfl) rfl (.refl _) (fun m => ((TyOk.int .i64).lt _ _)) (SelE.leaf (lk 0 rfl rfl) rfl (.refl _) (fun m => ((TyOk.int .i64).lt _ _)) .nil)) .nil) (.cons (.tmp (lk 0 rfl rfl) rfl) (.cons (.tmp (lk 1 rfl rfl) rfl) .nil)) rfl rfl rfl
theorem C_num_Sub {a1 : Int} {a2 : Int} {r : Int × Int} (h : num_Sub a1 a2 = some r) : PureC Pg 125 [(V.int .i64) a1, (V.int .i64) a2] (.tup [(V.int .i64) r.1, (V.int .i64) r.2]) := by
  refine PureC.ofF (CallSpec.of_bodyF 15 0 fn125 rfl rfl rfl (Nat.le_of_ble_eq_true rfl) ?_) (ltL_c ((TyOk.int .i64).lt _ _) (ltL_c ((TyOk.int .i64).lt _ _) ltL_nil)) (lt_tup (ltL_c ((TyOk.int .i64).lt _ _) (ltL_c ((TyOk.int .i64).lt _ _) ltL_nil)))
  replace h := Ok.of h
  unfold num_Sub at h
  refine AWp.seq ?_
  refine W.reg [0, 1] rfl ?_
  refine S.sil 4 rfl rfl (fun _ hF => .assign cI) ?_
  refine S.sil 5 rfl rfl (fun _ hF => .assign cI) ?_
  refine S.nil ?_
  refine thenQ_n ?_
  refine AWp.seq ?_
  refine W.reg [0, 1, 2, 3, 4, 5, 6, 7, 8, 9, 10] rfl ?_
  refine S.sil 6 rfl rfl (fun _ hF => .move (lk 2 rfl rfl)) ?_
  refine S.sil 7 rfl rfl (fun _ hF => .move (lk 4 rfl rfl)) ?_
  refine S.sil 8 rfl rfl (fun _ hF => .sub (lk 1 rfl rfl) (lk 0 rfl rfl)) ?_
  refine S.sil 9 rfl rfl (fun _ hF => .move (lk 5 rfl rfl)) ?_
  refine S.sil 10 rfl rfl (fun _ hF => .move (lk 7 rfl rfl)) ?_
  refine S.sil 11 rfl rfl (fun _ hF => .buildSliceW sli116 zv3 rfl rfl (by decide) (.cons (lk 1 rfl rfl) rfl (.refl _) rfl (.cons (lk 0 rfl rfl) rfl (.refl _) rfl .nil))) ?_
  obtain ⟨r3, m3, h⟩ := h.bnd
  refine S.sil 12 rfl rfl (fun _ hF => .callQ ent156 cF (.c (lk 3 rfl rfl) (V.sub.refl _) (.c (lk 0 rfl rfl) (V.sub.refl _) .nil)) (C_num_checked m3)) ?_
  refine S.sil 13 rfl rfl (fun _ hF => .extract (lk 0 rfl rfl) rfl) ?_
  refine S.sil 14 rfl rfl (fun _ hF => .extract (lk 1 rfl rfl) rfl) ?_
  refine S.sil 4 rfl rfl (fun _ hF => .assign (lk 1 rfl rfl)) ?_
  refine S.sil 5 rfl rfl (fun _ hF => .assign (lk 1 rfl rfl)) ?_
  refine S.nil ?_
  refine thenQ_n ?_
  refine AWp.prune (.eq (lk 0 rfl rfl) rfl (.eq (lk 1 rfl rfl) rfl .nil)) ?_
  refine AWp.ret ?_
  obtain rfl := h.ret
  exact endFN rfl (Wk.selS [] .nil rfl (SelE.leaf (lk 1 rfl rfl) rfl (.refl _) (fun m => ((TyOk.int .i64).lt _ _)) (SelE.leaf (lk 0 rfl rfl) rfl (.refl _) (fun m => ((TyOk.int .i64).lt _ _)) .nil)) .nil) (.cons (.tmp (lk 0 rfl rfl) rfl) (.cons (.tmp (lk 1 rfl rfl) rfl) .nil)) rfl rfl rfl
theorem C_counter_New {a1 : Int} {a2 : Int} {a3 : Int} {r : TCounter × Int} (h : counter_New a1 a2 a3 = some r) : PureC Pg 71 [(V.int .i64) a1, (V.int .i64) a2, (V.int .i64) a3] (.tup [E_TCounter r.1, (V.int .i64) r.2]) := by
  refine PureC.ofF (CallSpec.of_bodyF 65 0 fn71 rfl rfl rfl (Nat.le_of_ble_eq_true rfl) ?_) (ltL_c ((TyOk.int .i64).lt _ _) (ltL_c ((TyOk.int .i64).lt _ _) (ltL_c ((TyOk.int .i64).lt _ _) ltL_nil))) (lt_tup (ltL_c (ty_TCounter.lt _ _) (ltL_c ((TyOk.int .i64).lt _ _) ltL_nil)))
  replace h := Ok.of h
  unfold counter_New at h
  refine AWp.seq ?_
  refine W.reg [0, 1] rfl ?_
  refine S.eff 6 rfl rfl (.nf (v2 := .ptr 0 [] 0) (H2 := [.cells (E_TCounter (default : TCounter))]) (.alloc zv28) rfl rfl) trivial ?_
  refine S.sil 7 rfl rfl (fun _ hF => .assign cI) ?_
  refine S.nil ?_
  refine thenQ_n ?_
  refine AWp.seq ?_
  refine W.reg [0, 1, 2, 3, 4, 5] rfl ?_
  refine S.sil 15 rfl rfl (fun _ hF => .move (lk 2 rfl rfl)) ?_
  refine S.sil 16 rfl rfl (fun _ hF => .move (lk 4 rfl rfl)) ?_
  refine S.sil 17 rfl rfl (fun _ hF => .move (lk 6 rfl rfl)) ?_
  obtain ⟨v4, ev4, h⟩ := h.nam
  refine S.sil 18 rfl rfl (fun _ hF => .nv (.nv (v2 := E_TCounter (⟨a1, a2, a3, (default : TRights), (default : TRights)⟩ : TCounter)) (.buildStW lay28 zv28 rfl (.cons (lk 2 rfl rfl) rfl rfl rfl rfl (.cons (lk 1 rfl rfl) rfl rfl rfl rfl (.cons (lk 0 rfl rfl) rfl rfl rfl rfl .nil)))) rfl) (congrArg E_TCounter ev4.symm)) ?_
  refine S.eff 8 rfl rfl (.nf (v2 := .ptr 1 [] 0) (H2 := [.cells (E_TCounter (default : TCounter)), .cells (E_TCounter (default : TCounter))]) (.alloc zv28) rfl rfl) trivial ?_
  refine S.effN rfl rfl (.nf (H2 := [.cells (E_TCounter (default : TCounter)), .cells (E_TCounter v4)]) (.storeP sz28 (lk 0 rfl rfl) (lk 1 rfl rfl) rfl (.refl _) rfl .nil (by first | rfl | omega) .nil (ty_TCounter.fl v4) (ty_TCounter.fl (default : TCounter)) rfl) rfl rfl) trivial ?_
  refine S.nil ?_
  refine thenQ_n ?_
  refine AWp.seq ?_
  refine W.reg [0, 1, 2, 3, 4, 5, 6, 7] rfl ?_
  refine S.sil 20 rfl rfl (fun _ hF => .move (lk 7 rfl rfl)) ?_
  refine S.sil 21 rfl rfl (fun _ hF => .move (lk 9 rfl rfl)) ?_
  obtain ⟨r5, m5, h⟩ := h.bnd
  refine S.sil 22 rfl rfl (fun _ hF => .callQ ent125 cF (.c (lk 1 rfl rfl) (V.sub.refl _) (.c (lk 0 rfl rfl) (V.sub.refl _) .nil)) (C_num_Sub m5)) ?_
  refine S.sil 19 rfl rfl (fun _ hF => .move (lk 0 rfl rfl)) ?_
  refine S.sil 23 rfl rfl (fun _ hF => .extract (lk 0 rfl rfl) rfl) ?_
  refine S.sil 24 rfl rfl (fun _ hF => .extract (lk 1 rfl rfl) rfl) ?_
  refine S.sil 9 rfl rfl (fun _ hF => .assign (lk 1 rfl rfl)) ?_
  refine S.sil 10 rfl rfl (fun _ hF => .assign (lk 1 rfl rfl)) ?_
  refine S.nil ?_
  refine thenQ_n ?_
  refine AWp.prune (.eq (lk 0 rfl rfl) rfl (.eq (lk 1 rfl rfl) rfl (.eq (lk 8 rfl rfl) rfl (.eq (lk 13 rfl rfl) rfl (.eq (lk 14 rfl rfl) rfl (.eq (lk 15 rfl rfl) rfl (.eq (lk 16 rfl rfl) rfl (.eq (lk 17 rfl rfl) rfl .nil)))))))) ?_
  refine AWp.seq ?_
  refine W.reg [0, 1, 2, 3, 4, 5, 6, 7] rfl ?_
  refine S.sil 26 rfl rfl (fun _ hF => .move (lk 7 rfl rfl)) ?_
  refine S.sil 27 rfl rfl (fun _ hF => .move (lk 6 rfl rfl)) ?_
  obtain ⟨r6, m6, h⟩ := h.bnd
  refine S.sil 28 rfl rfl (fun _ hF => .callQ ent125 cF (.c (lk 1 rfl rfl) (V.sub.refl _) (.c (lk 0 rfl rfl) (V.sub.refl _) .nil)) (C_num_Sub m6)) ?_
  refine S.sil 25 rfl rfl (fun _ hF => .move (lk 0 rfl rfl)) ?_
  refine S.sil 29 rfl rfl (fun _ hF => .extract (lk 0 rfl rfl) rfl) ?_
  refine S.sil 30 rfl rfl (fun _ hF => .extract (lk 1 rfl rfl) rfl) ?_
  refine S.sil 11 rfl rfl (fun _ hF => .assign (lk 1 rfl rfl)) ?_
  refine S.sil 12 rfl rfl (fun _ hF => .assign (lk 1 rfl rfl)) ?_
  refine S.nil ?_
  refine thenQ_n ?_
  refine AWp.seq ?_
  refine W.reg [0, 1, 2, 3, 4, 5, 6, 7] rfl ?_
  refine S.sil 32 rfl rfl (fun _ hF => .move (lk 15 rfl rfl)) ?_
  refine S.sil 33 rfl rfl (fun _ hF => .move (lk 15 rfl rfl)) ?_
  obtain ⟨r7, m7, h⟩ := h.bnd
  refine S.sil 34 rfl rfl (fun _ hF => .callQ ent125 cF (.c (lk 1 rfl rfl) (V.sub.refl _) (.c (lk 0 rfl rfl) (V.sub.refl _) .nil)) (C_num_Sub m7)) ?_
  refine S.sil 31 rfl rfl (fun _ hF => .move (lk 0 rfl rfl)) ?_
  refine S.sil 35 rfl rfl (fun _ hF => .extract (lk 0 rfl rfl) rfl) ?_
  refine S.sil 36 rfl rfl (fun _ hF => .extract (lk 1 rfl rfl) rfl) ?_
  refine S.sil 13 rfl rfl (fun _ hF => .assign (lk 1 rfl rfl)) ?_
  refine S.sil 14 rfl rfl (fun _ hF => .assign (lk 1 rfl rfl)) ?_
  refine S.nil ?_
  refine thenQ_n ?_
  refine AWp.prune (.eq (lk 0 rfl rfl) rfl (.eq (lk 8 rfl rfl) rfl (.eq (lk 9 rfl rfl) rfl (.eq (lk 16 rfl rfl) rfl (.eq (lk 17 rfl rfl) rfl (.eq (lk 18 rfl rfl) rfl (.eq (lk 19 rfl rfl) rfl (.eq (lk 20 rfl rfl) rfl .nil)))))))) ?_
  refine AWp.seq ?_
  refine AWp.seq ?_
  refine W.reg [0, 1, 2, 3, 4, 5, 6, 7, 8, 9, 10, 11, 12, 13, 14, 15, 16, 17] rfl ?_
  refine S.sil 37 rfl rfl (fun _ hF => .move (lk 3 rfl rfl)) ?_
  refine S.sil 38 rfl rfl (fun _ hF => .neq (lk 0 rfl rfl) cI) ?_
  refine S.sil 39 rfl rfl (fun _ hF => .move (lk 0 rfl rfl)) ?_
  refine S.gsil 40 2 39 false rfl rfl rfl (lk 0 rfl rfl) (fun hB _ hF => .move (lk 4 rfl rfl)) ?_
  refine S.gsil 41 2 39 false rfl rfl rfl (lk 1 rfl rfl) (fun hB _ hF => .neq (ifT hB (lk 0 rfl rfl)) cI) ?_
  refine S.sil 42 rfl rfl (fun _ hF => .pickOr (lk 2 rfl rfl) cB (fun h => ifT h (lk 0 rfl rfl))) ?_
  refine S.sil 43 rfl rfl (fun _ hF => .move (lk 0 rfl rfl)) ?_
  refine S.gsil 44 6 43 false rfl rfl rfl (lk 0 rfl rfl) (fun hB _ hF => .move (lk 7 rfl rfl)) ?_
  refine S.gsil 45 6 43 false rfl rfl rfl (lk 1 rfl rfl) (fun hB _ hF => .neq (ifT hB (lk 0 rfl rfl)) cI) ?_
  obtain ⟨v8, ev8, h⟩ := h.nam
  refine S.sil 46 rfl rfl (fun _ hF => .nv (.pickOr (lk 2 rfl rfl) cB (fun h => ifT h (lk 0 rfl rfl))) (congrArg V.bool ev8.symm)) ?_
  refine S.sil 47 rfl rfl (fun _ hF => .move (lk 0 rfl rfl)) ?_
  refine S.gsil 48 10 47 false rfl rfl rfl (lk 0 rfl rfl) (fun hB _ hF => .move (lk 15 rfl rfl)) ?_
  refine S.gsil 49 10 47 false rfl rfl rfl (lk 1 rfl rfl) (fun hB _ hF => .lss (ifT hB (lk 0 rfl rfl)) cI) ?_
  refine S.sil 50 rfl rfl (fun _ hF => .pickOr (lk 2 rfl rfl) cB (fun h => ifT h (lk 0 rfl rfl))) ?_
  refine S.sil 51 rfl rfl (fun _ hF => .move (lk 0 rfl rfl)) ?_
  refine S.gsil 52 14 51 false rfl rfl rfl (lk 0 rfl rfl) (fun hB _ hF => .move (lk 17 rfl rfl)) ?_
  refine S.gsil 53 14 51 false rfl rfl rfl (lk 1 rfl rfl) (fun hB _ hF => .lss (ifT hB (lk 0 rfl rfl)) cI) ?_
  refine S.sil 54 rfl rfl (fun _ hF => .pickOr (lk 2 rfl rfl) cB (fun h => ifT h (lk 0 rfl rfl))) ?_
  refine S.nil ?_
  refine thenQ_n ?_
  refine AWp.prune (.eq (lk 0 rfl rfl) rfl (.eq (lk 20 rfl rfl) rfl (.eq (lk 22 rfl rfl) rfl (.eq (lk 23 rfl rfl) rfl (.eq (lk 24 rfl rfl) rfl (.eq (lk 25 rfl rfl) rfl .nil)))))) ?_
  refine AWp.condM (lk 0 rfl rfl) h (fun c1 h => ?_) (fun c1 h => ?_)
  · skip
    refine AWp.seq ?_
    refine W.reg [0, 1, 2] rfl ?_
    obtain ⟨v9, ev9, h⟩ := h.nam
    refine S.sil 55 rfl rfl (fun _ hF => .nv (.nv (v2 := E_TCounter (⟨0, 0, 0, (default : TRights), (default : TRights)⟩ : TCounter)) (.buildStW lay28 zv28 rfl .nil) rfl) (congrArg E_TCounter ev9.symm)) ?_
    refine S.effN rfl rfl (.nf (H2 := [.cells (E_TCounter v9), .cells (E_TCounter v4)]) (.storeP sz28 (lk 6 rfl rfl) (lk 0 rfl rfl) rfl (.refl _) rfl .nil (by first | rfl | omega) .nil (ty_TCounter.fl v9) (ty_TCounter.fl (default : TCounter)) rfl) rfl rfl) trivial ?_
    refine S.sil 7 rfl rfl (fun _ hF => .assign cI) ?_
    refine S.nil ?_
    refine thenQ_n ?_
    refine AWp.ret ?_
    refine thenQ_r ?_
    refine endF_wk (Wk.freeze 0 rfl rfl (.same (lk 0 rfl rfl) (.same (lk 0 rfl rfl) (.cons (lk 7 rfl rfl) rfl (.ptr .nil (by first | rfl | omega)) .nil))) (.refl _)) ?_
    obtain rfl := h.ret
    exact endFN rfl (Wk.selS [] .nil rfl (SelE.leaf (lk 2 rfl rfl) rfl (.refl _) (fun m => (lt_cptr (ty_TCounter.lt _ _))) (SelE.leaf (lk 0 rfl rfl) rfl (.refl _) (fun m => ((TyOk.int .i64).lt _ _)) .nil)) .nil) (.cons (.cellC sz28 ag28 (lk 0 rfl rfl) (ty_TCounter.fl _) rfl) (.cons (.tmp (lk 1 rfl rfl) rfl) .nil)) rfl rfl rfl
  · skip
    refine AWp.skip ?_
    refine thenQ_n ?_
    refine AWp.seq ?_
    refine W.reg [0, 1, 2, 3, 4, 5, 6, 7, 8, 9] rfl ?_
    refine S.sil 56 rfl rfl (fun _ hF => .move (lk 2 rfl rfl)) ?_
    refine S.sil 57 rfl rfl (fun _ hF => .move (lk 2 rfl rfl)) ?_
    refine S.sil 58 rfl rfl (fun _ hF => .fieldAddr lay28 rfl rfl (lk 5 rfl rfl)) ?_
    refine S.sil 59 rfl rfl (fun _ hF => .fieldAddr lay26 rfl rfl (lk 0 rfl rfl)) ?_
    obtain ⟨k10, m10, h⟩ := h.bnd
    refine S.sil 60 rfl rfl (fun _ hF => .ixP arr23 (lk 0 rfl rfl) cI m10) ?_
    obtain ⟨v11, ev11, h⟩ := h.nam
    refine S.effN rfl rfl (.nf (H2 := [.cells (E_TCounter (default : TCounter)), .cells (E_TCounter v11)]) (.storeP sz3 (lk 0 rfl rfl) (lk 4 rfl rfl) rfl (.refl _) rfl (.st rfl (flL_c (show flen _ = 1 from rfl) (flL_c (show flen _ = 1 from rfl) (flL_c (show flen _ = 1 from rfl) flL_nil))) (.st rfl flL_nil (.vc k10 .nil))) (by first | rfl | omega) (.st rfl (.st rfl (.vc r5.1 k10 .nil) rfl) rfl) rfl rfl (congrArg (fun z => ([.cells (E_TCounter (default : TCounter)), AObj.cells (E_TCounter z)] : List AObj)) ev11.symm)) rfl rfl) trivial ?_
    refine S.sil 61 rfl rfl (fun _ hF => .fieldAddr lay28 rfl rfl (lk 8 rfl rfl)) ?_
    refine S.sil 62 rfl rfl (fun _ hF => .fieldAddr lay26 rfl rfl (lk 0 rfl rfl)) ?_
    obtain ⟨k12, m12, h⟩ := h.bnd
    refine S.sil 63 rfl rfl (fun _ hF => .ixP arr23 (lk 0 rfl rfl) cI m12) ?_
    obtain ⟨v13, ev13, h⟩ := h.nam
    refine S.effN rfl rfl (.nf (H2 := [.cells (E_TCounter (default : TCounter)), .cells (E_TCounter v13)]) (.storeP sz3 (lk 0 rfl rfl) (lk 6 rfl rfl) rfl (.refl _) rfl (.st rfl (flL_c (show flen _ = 1 from rfl) (flL_c (show flen _ = 1 from rfl) (flL_c (show flen _ = 1 from rfl) (flL_c (ty_TRights.fl v11.Down) flL_nil)))) (.st rfl flL_nil (.vc k12 .nil))) (by first | rfl | omega) (.st rfl (.st rfl (.vc r6.1 k12 .nil) rfl) rfl) rfl rfl (congrArg (fun z => ([.cells (E_TCounter (default : TCounter)), AObj.cells (E_TCounter z)] : List AObj)) ev13.symm)) rfl rfl) trivial ?_
    refine S.nil ?_
    refine thenQ_n ?_
    refine AWp.prune (.eq (lk 11 rfl rfl) rfl (.eq (lk 12 rfl rfl) rfl (.eq (lk 13 rfl rfl) rfl .nil))) ?_
    refine AWp.seq ?_
    refine W.reg [0, 1, 2] rfl ?_
    refine S.qui 64 rfl rfl (fun _ => .loadP sz28 ag28 (lk 0 rfl rfl) rfl .nil (by first | rfl | omega) (ty_TCounter.fl v13) rfl) ?_
    refine S.effN rfl rfl (.nf (H2 := [.cells (E_TCounter v13), .cells (E_TCounter v13)]) (.storeP sz28 (lk 3 rfl rfl) (lk 0 rfl rfl) rfl (.refl _) rfl .nil (by first | rfl | omega) .nil (ty_TCounter.fl v13) (ty_TCounter.fl (default : TCounter)) rfl) rfl rfl) trivial ?_
    refine S.sil 7 rfl rfl (fun _ hF => .assign cI) ?_
    refine S.nil ?_
    refine thenQ_n ?_
    refine AWp.ret ?_
    refine endF_wk (Wk.freeze 0 rfl rfl (.same (lk 0 rfl rfl) (.same (lk 0 rfl rfl) (.cons (lk 4 rfl rfl) rfl (.ptr .nil (by first | rfl | omega)) .nil))) (.refl _)) ?_
    obtain rfl := h.ret
    exact endFN rfl (Wk.selS [] .nil rfl (SelE.leaf (lk 2 rfl rfl) rfl (.refl _) (fun m => (lt_cptr (ty_TCounter.lt _ _))) (SelE.leaf (lk 0 rfl rfl) rfl (.refl _) (fun m => ((TyOk.int .i64).lt _ _)) .nil)) .nil) (.cons (.cellC sz28 ag28 (lk 0 rfl rfl) (ty_TCounter.fl _) rfl) (.cons (.tmp (lk 1 rfl rfl) rfl) .nil)) rfl rfl rfl
theorem C_field_Name {a1 : ByteArray} {r : Bool} (h : field_Name a1 = some r) : PureC Pg 72 [V.str a1] (V.bool r) := by
  refine PureC.ofF (CallSpec.of_bodyF 28 0 fn72 rfl rfl rfl (Nat.le_of_ble_eq_true rfl) ?_) (ltL_c (TyOk.str.lt _ _) ltL_nil) (TyOk.bool.lt _ _)
  replace h := Ok.of h
  unfold field_Name at h
  refine AWp.seq ?_
  refine W.reg [0] rfl ?_
  refine S.sil 2 rfl rfl (fun _ hF => .assign cB) ?_
  refine S.nil ?_
  refine thenQ_n ?_
  refine AWp.seq ?_
  refine AWp.seq ?_
  refine W.reg [0, 1, 2] rfl ?_
  refine S.sil 4 rfl rfl (fun _ hF => .move (lk 1 rfl rfl)) ?_
  refine S.sil 5 rfl rfl (fun _ hF => .lenS und9 (lk 0 rfl rfl)) ?_
  refine S.sil 6 rfl rfl (fun _ hF => .move cI) ?_
  refine S.nil ?_
  refine thenQ_n ?_
  refine AWp.cutL (fun x4 => ⟨[(2, V.bool false), (0, V.str a1)], []⟩) nc_then h (fun q2 hq2 h => ?_) (fun x4 h => ?_)
  · refine AWp.block ?_
    refine AWp.loopT (fun s3 => ⟨[(6, (V.int .i64) s3), (5, (V.int .i64) (a1.size : Int)), (2, V.bool false), (0, V.str a1)], []⟩) hq2 (Wk.selS [] (by decide) rfl (SelE.leaf (lk 0 rfl rfl) rfl (.refl _) (fun m => ((TyOk.int .i64).lt _ _)) (SelE.leaf (lk 1 rfl rfl) rfl (.refl _) (fun m => ((TyOk.int .i64).lt _ _)) (SelE.leaf (lk 3 rfl rfl) rfl (.refl _) (fun m => (TyOk.bool.lt _ _)) (SelE.leaf (lk 4 rfl rfl) rfl (.refl _) (fun m => (TyOk.str.lt _ _)) .nil)))) .nil) (fun _ s3 h2 => ?_)
    rw [field_Name_L1] at h2
    refine AWp.seq ?_
    refine W.reg [0] rfl ?_
    refine S.sil 7 rfl rfl (fun _ hF => .lss (lk 0 rfl rfl) (lk 1 rfl rfl)) ?_
    refine S.nil ?_
    refine thenQ_n ?_
    refine AWp.seq ?_
    refine AWp.condM (lk 0 rfl rfl) h2 (fun c1 h2 => ?_) (fun c1 h2 => ?_)
    · skip
      refine AWp.skip ?_
      refine thenQ_n ?_
      refine AWp.seq ?_
      refine AWp.block ?_
      refine AWp.seq ?_
      refine W.reg [0, 1] rfl ?_
      refine S.sil 8 rfl rfl (fun _ hF => .move (lk 1 rfl rfl)) ?_
      refine S.sil 3 rfl rfl (fun _ hF => .assign (lk 0 rfl rfl)) ?_
      refine S.nil ?_
      refine thenQ_n ?_
      refine AWp.seq ?_
      refine W.reg [0, 1, 2, 3, 4, 5, 6, 7, 8, 9] rfl ?_
      refine S.sil 9 rfl rfl (fun _ hF => .move (lk 6 rfl rfl)) ?_
      refine S.sil 10 rfl rfl (fun _ hF => .move (lk 1 rfl rfl)) ?_
      obtain ⟨n5, m5, h2⟩ := h2.bnd
      refine S.sil 11 rfl rfl (fun _ hF => .ixStr und9 (lk 1 rfl rfl) (lk 0 rfl rfl) m5) ?_
      refine S.sil 12 rfl rfl (fun _ hF => .lss (lk 0 rfl rfl) cI) ?_
      refine S.sil 13 rfl rfl (fun _ hF => .move (lk 0 rfl rfl)) ?_
      refine S.gsil 14 4 13 false rfl rfl rfl (lk 0 rfl rfl) (fun hB _ hF => .move (lk 11 rfl rfl)) ?_
      refine S.gsil 15 4 13 false rfl rfl rfl (lk 1 rfl rfl) (fun hB _ hF => .move (lk 6 rfl rfl)) ?_
      obtain ⟨n6, m6, h2⟩ := h2.bnd
      refine S.gsil 16 4 13 false rfl rfl rfl (lk 2 rfl rfl) (fun hB _ hF => .ixStr und9 (ifT hB (lk 1 rfl rfl)) (ifT hB (lk 0 rfl rfl)) (gd_get m6 hB)) ?_
      refine S.gsil 17 4 13 false rfl rfl rfl (lk 3 rfl rfl) (fun hB _ hF => .gtr (ifT hB (lk 0 rfl rfl)) cI) ?_
      refine S.sil 18 rfl rfl (fun _ hF => .pickOr (lk 4 rfl rfl) cB (fun h => ifT h (lk 0 rfl rfl))) ?_
      refine S.nil ?_
      refine thenQ_n ?_
      refine AWp.condM (lk 0 rfl rfl) h2 (fun c2 h2 => ?_) (fun c2 h2 => ?_)
      · skip
        refine AWp.seq ?_
        refine W.reg [0] rfl ?_
        refine S.sil 2 rfl rfl (fun _ hF => .assign cB) ?_
        refine S.nil ?_
        refine thenQ_n ?_
        refine AWp.ret ?_
        refine blockQ_r ?_
        refine thenQ_r ?_
        refine thenQ_r ?_
        refine blockQ_r ?_
        refine thenQ_r ?_
        refine thenQ_r ?_
        have h := Ok.inrq h h2.ret
        obtain rfl := h.ret
        exact endF1 rfl (Wk.selS [] .nil rfl (SelE.leaf (lk 0 rfl rfl) rfl (.refl _) (fun m => (TyOk.bool.lt _ _)) .nil) .nil) (.tmp (lk 0 rfl rfl) rfl) rfl rfl
      · skip
        refine AWp.skip ?_
        refine blockQ_n ?_
        refine thenQ_n ?_
        refine W.reg [0, 1] rfl ?_
        refine S.sil 19 rfl rfl (fun _ hF => .add (lk 13 rfl rfl) cI) ?_
        refine S.sil 6 rfl rfl (fun _ hF => .move (lk 0 rfl rfl)) ?_
        refine S.nil ?_
        refine thenQ_n ?_
        exact ⟨_, h2.ret, (Wk.selS [] (by decide) rfl (SelE.leaf (lk 0 rfl rfl) rfl (.refl _) (fun m => ((TyOk.int .i64).lt _ _)) (SelE.leaf (lk 16 rfl rfl) rfl (.refl _) (fun m => ((TyOk.int .i64).lt _ _)) (SelE.leaf (lk 17 rfl rfl) rfl (.refl _) (fun m => (TyOk.bool.lt _ _)) (SelE.leaf (lk 18 rfl rfl) rfl (.refl _) (fun m => (TyOk.str.lt _ _)) .nil)))) .nil)⟩
    · skip
      refine AWp.exit ?_
      refine thenQ_x ?_
      refine thenQ_x ?_
      refine blockQ_x ?_
      refine thenQ_n ?_
      exact ⟨_, h2.ret, (Wk.selS [] (by decide) rfl (SelE.leaf (lk 3 rfl rfl) rfl (.refl _) (fun m => (TyOk.bool.lt _ _)) (SelE.leaf (lk 4 rfl rfl) rfl (.refl _) (fun m => (TyOk.str.lt _ _)) .nil)) .nil)⟩
  · skip
    refine thenQ_n ?_
    refine AWp.seq ?_
    refine W.reg [0, 1, 2, 3, 4, 5, 6, 7, 8] rfl ?_
    refine S.sil 20 rfl rfl (fun _ hF => .move (lk 1 rfl rfl)) ?_
    refine S.sil 21 rfl rfl (fun _ hF => .lenS und9 (lk 0 rfl rfl)) ?_
    refine S.sil 22 rfl rfl (fun _ hF => .geq (lk 0 rfl rfl) cI) ?_
    refine S.sil 23 rfl rfl (fun _ hF => .move (lk 0 rfl rfl)) ?_
    refine S.gsil 24 3 23 true rfl rfl rfl (lk 0 rfl rfl) (fun hB _ hF => .move (lk 5 rfl rfl)) ?_
    refine S.gsil 25 3 23 true rfl rfl rfl (lk 1 rfl rfl) (fun hB _ hF => .lenS und9 (ifT hB (lk 0 rfl rfl))) ?_
    refine S.gsil 26 3 23 true rfl rfl rfl (lk 2 rfl rfl) (fun hB _ hF => .leq (ifT hB (lk 0 rfl rfl)) cI) ?_
    refine S.sil 27 rfl rfl (fun _ hF => .pickAnd (lk 3 rfl rfl) (fun h => ifT h (lk 0 rfl rfl)) cB) ?_
    obtain ⟨v7, ev7, h⟩ := h.nam
    refine S.sil 2 rfl rfl (fun _ hF => .nv (.assign (lk 0 rfl rfl)) (congrArg V.bool ev7.symm)) ?_
    refine S.nil ?_
    refine thenQ_n ?_
    refine AWp.prune (.eq (lk 0 rfl rfl) rfl .nil) ?_
    refine AWp.ret ?_
    obtain rfl := h.ret
    exact endF1 rfl (Wk.selS [] .nil rfl (SelE.leaf (lk 0 rfl rfl) rfl (.refl _) (fun m => (TyOk.bool.lt _ _)) .nil) .nil) (.tmp (lk 0 rfl rfl) rfl) rfl rfl
theorem C_clone_38 {a1 : List THold} {r : List THold} (h : app 40 [] a1 = some r) : PureC Pg 38 [E_S_THold a1] (E_S_THold r) := by
  refine PureC.ofF (CallSpec.of_bodyF 8 0 fn38 rfl rfl rfl (Nat.le_of_ble_eq_true rfl) ?_) (ltL_c (ty_S_THold.lt _ _) ltL_nil) (ty_S_THold.lt _ _)
  have hr := (app_get h).2
  refine AWp.seq ?_
  refine W.reg [0] rfl ?_
  refine S.sil 2 rfl rfl (fun _ hF => .assign cNs) ?_
  refine S.nil ?_
  refine thenQ_n ?_
  refine AWp.splitNil (t := 0) (lk 1 rfl rfl) (fun hn => ?_) ?_
  · obtain rfl : a1 = [] := List.map_eq_nil_iff.1 hn
    obtain rfl : r = [] := by simpa using hr
    refine AWp.seq ?_
    refine AWp.seq ?_
    refine W.reg [0, 1] rfl ?_
    refine S.sil 3 rfl rfl (fun _ hF => .move (lk 0 rfl rfl)) ?_
    refine S.sil 4 rfl rfl (fun _ hF => .eqlNil sli31 (lk 0 rfl rfl) cNs) ?_
    refine S.nil ?_
    refine thenQ_n ?_
    refine AWp.condT (lk 0 rfl rfl) ?_
    refine AWp.seq ?_
    refine W.reg [0] rfl ?_
    refine S.sil 2 rfl rfl (fun _ hF => .assign cNs) ?_
    refine S.nil ?_
    refine thenQ_n ?_
    refine AWp.ret ?_
    refine thenQ_r ?_
    exact endF1 rfl (Wk.selS [] .nil rfl (SelE.leaf (lk 0 rfl rfl) rfl (.nils_no 5) (fun m => (ty_S_THold.lt ([] : List THold) _)) .nil) .nil) (.tmp (lk 0 rfl rfl) rfl) rfl rfl
  · refine AWp.seq ?_
    refine AWp.seq ?_
    refine W.reg [0, 1] rfl ?_
    refine S.sil 3 rfl rfl (fun _ hF => .move (lk 0 rfl rfl)) ?_
    refine S.sil 4 rfl rfl (fun _ hF => .eqlNn sli31 (lk 0 rfl rfl) cNs) ?_
    refine S.nil ?_
    refine thenQ_n ?_
    refine AWp.condF (lk 0 rfl rfl) ?_
    refine AWp.skip ?_
    refine thenQ_n ?_
    refine AWp.seq ?_
    refine W.reg [0, 1, 2, 3] rfl ?_
    refine S.sil 5 rfl rfl (fun _ hF => .buildSliceW sli31 zv66 rfl rfl (by decide) .nil) ?_
    refine S.sil 6 rfl rfl (fun _ hF => .move (lk 3 rfl rfl)) ?_
    refine S.new 7 rfl rfl (.appX (f := E_THold) (xs := []) sli31 und31 zv66 rfl (by decide) (lk 1 rfl rfl) (V.sub.refl _) (lk 0 rfl rfl) Rd.sl h rfl) trivial ?_
    refine S.sil 2 rfl rfl (fun _ hF => .assign (lk 0 rfl rfl)) ?_
    refine S.nil ?_
    refine thenQ_n ?_
    refine AWp.ret ?_
    exact endF1 rfl (Wk.selS [] .nil rfl (SelE.leaf (lk 0 rfl rfl) rfl (.forget _ _ _) (fun m => (ty_S_THold.lt r _)) .nil) .nil) (.tmp (lk 0 rfl rfl) rfl) rfl rfl
theorem C_field_done {a1 : TField} {a2 : Int} {r : TField × Int} (h : field_done a1 a2 = some r) : PureC Pg 73 [E_TField a1, (V.int .i64) a2] (.tup [E_TField r.1, (V.int .i64) r.2]) := by
  refine PureC.ofF (CallSpec.of_bodyF 15 0 fn73 rfl rfl rfl (Nat.le_of_ble_eq_true rfl) ?_) (ltL_c (ty_TField.lt _ _) (ltL_c ((TyOk.int .i64).lt _ _) ltL_nil)) (lt_tup (ltL_c (ty_TField.lt _ _) (ltL_c ((TyOk.int .i64).lt _ _) ltL_nil)))
  replace h := Ok.of h
  unfold field_done at h
  refine AWp.seq ?_
  refine W.reg [0, 1, 2] rfl ?_
  refine S.eff 2 rfl rfl (.nf (v2 := .ptr 0 [] 0) (H2 := [.cells (E_TField a1)]) (.box (lk 0 rfl rfl) rfl) rfl rfl) trivial ?_
  refine S.eff 4 rfl rfl (.nf (v2 := .ptr 1 [] 0) (H2 := [.cells (E_TField a1), .cells (.st [V.str (default : ByteArray), (V.int .i64) 0, (V.int .i64) 0, E_TCounter (default : TCounter), E_TLock (default : TLock), .nils])]) (.alloc zv33) rfl rfl) trivial ?_
  refine S.sil 5 rfl rfl (fun _ hF => .assign cI) ?_
  refine S.nil ?_
  refine thenQ_n ?_
  refine AWp.seq ?_
  refine AWp.seq ?_
  refine W.reg [0, 1] rfl ?_
  refine S.sil 6 rfl rfl (fun _ hF => .move (lk 4 rfl rfl)) ?_
  refine S.sil 7 rfl rfl (fun _ hF => .neq (lk 0 rfl rfl) cI) ?_
  refine S.nil ?_
  refine thenQ_n ?_
  refine AWp.condM (lk 0 rfl rfl) h (fun c1 h => ?_) (fun c1 h => ?_)
  · skip
    refine AWp.seq ?_
    refine W.reg [0, 1, 2, 3] rfl ?_
    obtain ⟨v3, ev3, h⟩ := h.nam
    refine S.sil 8 rfl rfl (fun _ hF => .nv (.vs (v := .st [V.str (default : ByteArray), (V.int .i64) 0, (V.int .i64) 0, E_TCounter (default : TCounter), E_TLock (default : TLock), .nils]) (v2 := E_TField (⟨(default : ByteArray), 0, 0, (default : TCounter), (default : TLock), ([] : List THold)⟩ : TField)) (.buildStW lay33 zv33 rfl .nil) rfl (.st (.cons (.refl _) (.cons (.refl _) (.cons (.refl _) (.cons (.refl _) (.cons (.refl _) (.cons (.nils_no _) .nil)))))))) (congrArg E_TField ev3.symm)) ?_
    refine S.sil 9 rfl rfl (fun _ hF => .move (lk 7 rfl rfl)) ?_
    refine S.effN rfl rfl (.nf (H2 := [.cells (E_TField a1), .cells (E_TField v3)]) (.storeP sz33 (lk 5 rfl rfl) (lk 1 rfl rfl) rfl (.refl _) rfl .nil (by first | rfl | omega) .nil (ty_TField.fl v3) (fl_st (flL_c (show flen _ = 1 from rfl) (flL_c (show flen _ = 1 from rfl) (flL_c (show flen _ = 1 from rfl) (flL_c (ty_TCounter.fl (default : TCounter)) (flL_c (ty_TLock.fl (default : TLock)) (flL_c (show flen _ = 1 from rfl) flL_nil))))))) rfl) rfl rfl) trivial ?_
    refine S.sil 5 rfl rfl (fun _ hF => .assign (lk 0 rfl rfl)) ?_
    refine S.nil ?_
    refine thenQ_n ?_
    refine AWp.ret ?_
    refine thenQ_r ?_
    refine endF_wk (Wk.freeze 1 rfl rfl (.same (lk 0 rfl rfl) (.same (lk 0 rfl rfl) (.cons (lk 6 rfl rfl) rfl (.ptr .nil (by first | rfl | omega)) .nil))) (.refl _)) ?_
    obtain rfl := h.ret
    exact endFN rfl (Wk.selS [] .nil rfl (SelE.leaf (lk 2 rfl rfl) rfl (.refl _) (fun m => (lt_cptr (ty_TField.lt _ _))) (SelE.leaf (lk 0 rfl rfl) rfl (.refl _) (fun m => ((TyOk.int .i64).lt _ _)) .nil)) .nil) (.cons (.cellC sz33 ag33 (lk 0 rfl rfl) (ty_TField.fl _) rfl) (.cons (.tmp (lk 1 rfl rfl) rfl) .nil)) rfl rfl rfl
  · skip
    refine AWp.skip ?_
    refine thenQ_n ?_
    refine AWp.seq ?_
    refine W.reg [0, 1, 2, 3, 4] rfl ?_
    refine S.sil 10 rfl rfl (fun _ hF => .fieldAddr lay33 rfl rfl (lk 4 rfl rfl)) ?_
    refine S.qui 11 rfl rfl (fun _ => .loadP sz31 ag31 (lk 0 rfl rfl) rfl (.st rfl (flL_c (show flen _ = 1 from rfl) (flL_c (show flen _ = 1 from rfl) (flL_c (show flen _ = 1 from rfl) (flL_c (ty_TCounter.fl a1.Counter) (flL_c (ty_TLock.fl a1.Lock) flL_nil))))) .nil) (by first | rfl | omega) rfl rfl) ?_
    obtain ⟨r4, m4, h⟩ := h.bnd
    refine S.sil 12 rfl rfl (fun _ hF => .callQ ent38 cF (.c (lk 0 rfl rfl) (V.sub.refl _) .nil) (C_clone_38 m4)) ?_
    refine S.sil 13 rfl rfl (fun _ hF => .fieldAddr lay33 rfl rfl (lk 7 rfl rfl)) ?_
    obtain ⟨v5, ev5, h⟩ := h.nam
    refine S.effN rfl rfl (.nf (H2 := [.cells (E_TField v5), .cells (.st [V.str (default : ByteArray), (V.int .i64) 0, (V.int .i64) 0, E_TCounter (default : TCounter), E_TLock (default : TLock), .nils])]) (.storeP sz31 (lk 0 rfl rfl) (lk 1 rfl rfl) rfl (.refl _) rfl (.st rfl (flL_c (show flen _ = 1 from rfl) (flL_c (show flen _ = 1 from rfl) (flL_c (show flen _ = 1 from rfl) (flL_c (ty_TCounter.fl a1.Counter) (flL_c (ty_TLock.fl a1.Lock) flL_nil))))) .nil) (by first | rfl | omega) (.st rfl .nil rfl) rfl rfl (congrArg (fun z => ([AObj.cells (E_TField z), .cells (.st [V.str (default : ByteArray), (V.int .i64) 0, (V.int .i64) 0, E_TCounter (default : TCounter), E_TLock (default : TLock), .nils])] : List AObj)) ev5.symm)) rfl rfl) trivial ?_
    refine S.nil ?_
    refine thenQ_n ?_
    refine AWp.seq ?_
    refine W.reg [0, 1, 2] rfl ?_
    refine S.qui 14 rfl rfl (fun _ => .loadP sz33 ag33 (lk 8 rfl rfl) rfl .nil (by first | rfl | omega) (ty_TField.fl v5) rfl) ?_
    refine S.effN rfl rfl (.nf (H2 := [.cells (E_TField v5), .cells (E_TField v5)]) (.storeP sz33 (lk 8 rfl rfl) (lk 0 rfl rfl) rfl (.refl _) rfl .nil (by first | rfl | omega) .nil (ty_TField.fl v5) (fl_st (flL_c (show flen _ = 1 from rfl) (flL_c (show flen _ = 1 from rfl) (flL_c (show flen _ = 1 from rfl) (flL_c (ty_TCounter.fl (default : TCounter)) (flL_c (ty_TLock.fl (default : TLock)) (flL_c (show flen _ = 1 from rfl) flL_nil))))))) rfl) rfl rfl) trivial ?_
    refine S.sil 5 rfl rfl (fun _ hF => .assign cI) ?_
    refine S.nil ?_
    refine thenQ_n ?_
    refine AWp.prune (.eq (lk 0 rfl rfl) rfl (.eq (lk 9 rfl rfl) rfl .nil)) ?_
    refine AWp.ret ?_
    refine endF_wk (Wk.freeze 1 rfl rfl (.same (lk 0 rfl rfl) (.cons (lk 1 rfl rfl) rfl (.ptr .nil (by first | rfl | omega)) .nil)) (.refl _)) ?_
    obtain rfl := h.ret
    exact endFN rfl (Wk.selS [] .nil rfl (SelE.leaf (lk 1 rfl rfl) rfl (.refl _) (fun m => (lt_cptr (ty_TField.lt _ _))) (SelE.leaf (lk 0 rfl rfl) rfl (.refl _) (fun m => ((TyOk.int .i64).lt _ _)) .nil)) .nil) (.cons (.cellC sz33 ag33 (lk 0 rfl rfl) (ty_TField.fl _) rfl) (.cons (.tmp (lk 1 rfl rfl) rfl) .nil)) rfl rfl rfl
theorem C_field_Counter {a1 : ByteArray} {a2 : Int} {a3 : Int} {a4 : Int} {r : TField × Int} (h : field_Counter a1 a2 a3 a4 = some r) : PureC Pg 34 [V.str a1, (V.int .i64) a2, (V.int .i64) a3, (V.int .i64) a4] (.tup [E_TField r.1, (V.int .i64) r.2]) := by
  refine PureC.ofF (CallSpec.of_bodyF 29 0 fn34 rfl rfl rfl (Nat.le_of_ble_eq_true rfl) ?_) (ltL_c (TyOk.str.lt _ _) (ltL_c ((TyOk.int .i64).lt _ _) (ltL_c ((TyOk.int .i64).lt _ _) (ltL_c ((TyOk.int .i64).lt _ _) ltL_nil)))) (lt_tup (ltL_c (ty_TField.lt _ _) (ltL_c ((TyOk.int .i64).lt _ _) ltL_nil)))
  replace h := Ok.of h
  unfold field_Counter at h
  refine AWp.seq ?_
  refine W.reg [0, 1] rfl ?_
  refine S.eff 8 rfl rfl (.nf (v2 := .ptr 0 [] 0) (H2 := [.cells (.st [V.str (default : ByteArray), (V.int .i64) 0, (V.int .i64) 0, E_TCounter (default : TCounter), E_TLock (default : TLock), .nils])]) (.alloc zv33) rfl rfl) trivial ?_
  refine S.sil 9 rfl rfl (fun _ hF => .assign cI) ?_
  refine S.nil ?_
  refine thenQ_n ?_
  refine AWp.seq ?_
  refine W.reg [0, 1, 2, 3, 4, 5, 6, 7, 8, 9] rfl ?_
  refine S.sil 13 rfl rfl (fun _ hF => .move (lk 3 rfl rfl)) ?_
  refine S.sil 14 rfl rfl (fun _ hF => .move (lk 5 rfl rfl)) ?_
  refine S.sil 15 rfl rfl (fun _ hF => .move (lk 7 rfl rfl)) ?_
  obtain ⟨r5, m5, h⟩ := h.bnd
  refine S.sil 16 rfl rfl (fun _ hF => .callQ ent71 cF (.c (lk 2 rfl rfl) (V.sub.refl _) (.c (lk 1 rfl rfl) (V.sub.refl _) (.c (lk 0 rfl rfl) (V.sub.refl _) .nil))) (C_counter_New m5)) ?_
  refine S.sil 12 rfl rfl (fun _ hF => .move (lk 0 rfl rfl)) ?_
  refine S.sil 17 rfl rfl (fun _ hF => .extract (lk 0 rfl rfl) rfl) ?_
  refine S.sil 18 rfl rfl (fun _ hF => .extract (lk 1 rfl rfl) rfl) ?_
  refine S.eff 10 rfl rfl (.nf (v2 := .ptr 1 [] 0) (H2 := [.cells (.st [V.str (default : ByteArray), (V.int .i64) 0, (V.int .i64) 0, E_TCounter (default : TCounter), E_TLock (default : TLock), .nils]), .cells (E_TCounter (default : TCounter))]) (.alloc zv28) rfl rfl) trivial ?_
  refine S.effN rfl rfl (.nf (H2 := [.cells (.st [V.str (default : ByteArray), (V.int .i64) 0, (V.int .i64) 0, E_TCounter (default : TCounter), E_TLock (default : TLock), .nils]), .cells (E_TCounter r5.1)]) (.storeP sz28 (lk 0 rfl rfl) (lk 2 rfl rfl) rfl (.refl _) rfl .nil (by first | rfl | omega) .nil (ty_TCounter.fl r5.1) (ty_TCounter.fl (default : TCounter)) rfl) rfl rfl) trivial ?_
  refine S.sil 11 rfl rfl (fun _ hF => .assign (lk 1 rfl rfl)) ?_
  refine S.nil ?_
  refine thenQ_n ?_
  refine AWp.wk (Wk.freeze 1 rfl rfl (.same (lk 0 rfl rfl) (.cons (lk 1 rfl rfl) rfl (.ptr .nil (by first | rfl | omega)) (.same (lk 9 rfl rfl) (.same (lk 10 rfl rfl) (.same (lk 11 rfl rfl) .nil))))) (.refl _)) ?_
  refine AWp.seq ?_
  refine AWp.seq ?_
  refine W.reg [0, 1, 2] rfl ?_
  refine S.sil 19 rfl rfl (fun _ hF => .move (lk 4 rfl rfl)) ?_
  obtain ⟨r6, m6, h⟩ := h.bnd
  refine S.sil 20 rfl rfl (fun _ hF => .callQ ent72 cF (.c (lk 0 rfl rfl) (V.sub.refl _) .nil) (C_field_Name m6)) ?_
  refine S.sil 21 rfl rfl (fun _ hF => .not (lk 0 rfl rfl)) ?_
  refine S.nil ?_
  refine thenQ_n ?_
  refine AWp.condM (lk 0 rfl rfl) h (fun c1 h => ?_) (fun c1 h => ?_)
  · skip
    refine W.reg [0] rfl ?_
    refine S.sil 11 rfl rfl (fun _ hF => .assign cI) ?_
    refine S.nil ?_
    refine thenQ_n ?_
    refine AWp.seq ?_
    refine W.reg [0, 1, 2, 3, 4, 5, 6, 7, 8] rfl ?_
    refine S.sil 22 rfl rfl (fun _ hF => .move (lk 8 rfl rfl)) ?_
    refine S.sil 23 rfl rfl (fun _ hF => .loadC sz28 ag28 (lk 6 rfl rfl) (ty_TCounter.fl r5.1) rfl) ?_
    obtain ⟨v7, ev7, h⟩ := h.nam
    refine S.sil 24 rfl rfl (fun _ hF => .nv (.vs (v := .st [V.str a1, (V.int .i64) 1, (V.int .i64) 0, E_TCounter r5.1, E_TLock (default : TLock), .nils]) (v2 := E_TField (⟨a1, 1, 0, r5.1, (default : TLock), ([] : List THold)⟩ : TField)) (.buildStW lay33 zv33 rfl (.cons (lk 1 rfl rfl) rfl rfl rfl rfl (.cons cI rfl rfl rfl rfl (.cons (lk 0 rfl rfl) rfl rfl (ty_TCounter.fl r5.1) rfl .nil)))) rfl (.st (.cons (.refl _) (.cons (.refl _) (.cons (.refl _) (.cons (.refl _) (.cons (.refl _) (.cons (.nils_no _) .nil)))))))) (congrArg E_TField ev7.symm)) ?_
    refine S.sil 25 rfl rfl (fun _ hF => .move (lk 3 rfl rfl)) ?_
    obtain ⟨r8, m8, h⟩ := h.bnd
    refine S.sil 26 rfl rfl (fun _ hF => .callQ ent73 cF (.c (lk 1 rfl rfl) (V.sub.refl _) (.c (lk 0 rfl rfl) (V.sub.refl _) .nil)) (C_field_done m8)) ?_
    refine S.sil 27 rfl rfl (fun _ hF => .extract (lk 0 rfl rfl) rfl) ?_
    refine S.sil 28 rfl rfl (fun _ hF => .extract (lk 1 rfl rfl) rfl) ?_
    refine S.effN rfl rfl (.nf (H2 := [.cells (E_TField r8.1), .dead]) (.storeP sz33 (lk 14 rfl rfl) (lk 1 rfl rfl) rfl (.refl _) rfl .nil (by first | rfl | omega) .nil (ty_TField.fl r8.1) (fl_st (flL_c (show flen _ = 1 from rfl) (flL_c (show flen _ = 1 from rfl) (flL_c (show flen _ = 1 from rfl) (flL_c (ty_TCounter.fl (default : TCounter)) (flL_c (ty_TLock.fl (default : TLock)) (flL_c (show flen _ = 1 from rfl) flL_nil))))))) rfl) rfl rfl) trivial ?_
    refine S.sil 9 rfl rfl (fun _ hF => .assign (lk 0 rfl rfl)) ?_
    refine S.nil ?_
    refine thenQ_n ?_
    refine AWp.prune (.eq (lk 0 rfl rfl) rfl (.eq (lk 15 rfl rfl) rfl .nil)) ?_
    refine AWp.ret ?_
    refine endF_wk (Wk.freeze 0 rfl rfl (.same (lk 0 rfl rfl) (.cons (lk 1 rfl rfl) rfl (.ptr .nil (by first | rfl | omega)) .nil)) (.refl _)) ?_
    obtain rfl := h.ret
    exact endFN rfl (Wk.selS [] .nil rfl (SelE.leaf (lk 1 rfl rfl) rfl (.refl _) (fun m => (lt_cptr (ty_TField.lt _ _))) (SelE.leaf (lk 0 rfl rfl) rfl (.refl _) (fun m => ((TyOk.int .i64).lt _ _)) .nil)) .nil) (.cons (.cellC sz33 ag33 (lk 0 rfl rfl) (ty_TField.fl _) rfl) (.cons (.tmp (lk 1 rfl rfl) rfl) .nil)) rfl rfl rfl
  · skip
    refine AWp.skip ?_
    refine thenQ_n ?_
    refine AWp.seq ?_
    refine W.reg [0, 1, 2, 3, 4, 5, 6, 7, 8] rfl ?_
    refine S.sil 22 rfl rfl (fun _ hF => .move (lk 7 rfl rfl)) ?_
    refine S.sil 23 rfl rfl (fun _ hF => .loadC sz28 ag28 (lk 5 rfl rfl) (ty_TCounter.fl r5.1) rfl) ?_
    obtain ⟨v9, ev9, h⟩ := h.nam
    refine S.sil 24 rfl rfl (fun _ hF => .nv (.vs (v := .st [V.str a1, (V.int .i64) 1, (V.int .i64) 0, E_TCounter r5.1, E_TLock (default : TLock), .nils]) (v2 := E_TField (⟨a1, 1, 0, r5.1, (default : TLock), ([] : List THold)⟩ : TField)) (.buildStW lay33 zv33 rfl (.cons (lk 1 rfl rfl) rfl rfl rfl rfl (.cons cI rfl rfl rfl rfl (.cons (lk 0 rfl rfl) rfl rfl (ty_TCounter.fl r5.1) rfl .nil)))) rfl (.st (.cons (.refl _) (.cons (.refl _) (.cons (.refl _) (.cons (.refl _) (.cons (.refl _) (.cons (.nils_no _) .nil)))))))) (congrArg E_TField ev9.symm)) ?_
    refine S.sil 25 rfl rfl (fun _ hF => .move (lk 6 rfl rfl)) ?_
    obtain ⟨r10, m10, h⟩ := h.bnd
    refine S.sil 26 rfl rfl (fun _ hF => .callQ ent73 cF (.c (lk 1 rfl rfl) (V.sub.refl _) (.c (lk 0 rfl rfl) (V.sub.refl _) .nil)) (C_field_done m10)) ?_
    refine S.sil 27 rfl rfl (fun _ hF => .extract (lk 0 rfl rfl) rfl) ?_
    refine S.sil 28 rfl rfl (fun _ hF => .extract (lk 1 rfl rfl) rfl) ?_
    refine S.effN rfl rfl (.nf (H2 := [.cells (E_TField r10.1), .dead]) (.storeP sz33 (lk 13 rfl rfl) (lk 1 rfl rfl) rfl (.refl _) rfl .nil (by first | rfl | omega) .nil (ty_TField.fl r10.1) (fl_st (flL_c (show flen _ = 1 from rfl) (flL_c (show flen _ = 1 from rfl) (flL_c (show flen _ = 1 from rfl) (flL_c (ty_TCounter.fl (default : TCounter)) (flL_c (ty_TLock.fl (default : TLock)) (flL_c (show flen _ = 1 from rfl) flL_nil))))))) rfl) rfl rfl) trivial ?_
    refine S.sil 9 rfl rfl (fun _ hF => .assign (lk 0 rfl rfl)) ?_
    refine S.nil ?_
    refine thenQ_n ?_
    refine AWp.prune (.eq (lk 0 rfl rfl) rfl (.eq (lk 14 rfl rfl) rfl .nil)) ?_
    refine AWp.ret ?_
    refine endF_wk (Wk.freeze 0 rfl rfl (.same (lk 0 rfl rfl) (.cons (lk 1 rfl rfl) rfl (.ptr .nil (by first | rfl | omega)) .nil)) (.refl _)) ?_
    obtain rfl := h.ret
    exact endFN rfl (Wk.selS [] .nil rfl (SelE.leaf (lk 1 rfl rfl) rfl (.refl _) (fun m => (lt_cptr (ty_TField.lt _ _))) (SelE.leaf (lk 0 rfl rfl) rfl (.refl _) (fun m => ((TyOk.int .i64).lt _ _)) .nil)) .nil) (.cons (.cellC sz33 ag33 (lk 0 rfl rfl) (ty_TField.fl _) rfl) (.cons (.tmp (lk 1 rfl rfl) rfl) .nil)) rfl rfl rfl
theorem C_rights_is {a1 : Int} {r : Bool} (h : rights_is a1 = some r) : PureC Pg 187 [(V.int .i64) a1] (V.bool r) := by
  refine PureC.ofF (CallSpec.of_bodyF 9 0 fn187 rfl rfl rfl (Nat.le_of_ble_eq_true rfl) ?_) (ltL_c ((TyOk.int .i64).lt _ _) ltL_nil) (TyOk.bool.lt _ _)
  replace h := Ok.of h
  unfold rights_is at h
  refine AWp.seq ?_
  refine W.reg [0] rfl ?_
  refine S.sil 2 rfl rfl (fun _ hF => .assign cB) ?_
  refine S.nil ?_
  refine thenQ_n ?_
  refine AWp.seq ?_
  refine W.reg [0, 1, 2, 3, 4, 5, 6] rfl ?_
  refine S.sil 3 rfl rfl (fun _ hF => .move (lk 1 rfl rfl)) ?_
  refine S.sil 4 rfl rfl (fun _ hF => .geq (lk 0 rfl rfl) cI) ?_
  refine S.sil 5 rfl rfl (fun _ hF => .move (lk 0 rfl rfl)) ?_
  refine S.gsil 6 2 5 true rfl rfl rfl (lk 0 rfl rfl) (fun hB _ hF => .move (lk 4 rfl rfl)) ?_
  refine S.gsil 7 2 5 true rfl rfl rfl (lk 1 rfl rfl) (fun hB _ hF => .lss (ifT hB (lk 0 rfl rfl)) cI) ?_
  refine S.sil 8 rfl rfl (fun _ hF => .pickAnd (lk 2 rfl rfl) (fun h => ifT h (lk 0 rfl rfl)) cB) ?_
  obtain ⟨v2, ev2, h⟩ := h.nam
  refine S.sil 2 rfl rfl (fun _ hF => .nv (.assign (lk 0 rfl rfl)) (congrArg V.bool ev2.symm)) ?_
  refine S.nil ?_
  refine thenQ_n ?_
  refine AWp.ret ?_
  obtain rfl := h.ret
  exact endF1 rfl (Wk.selS [] .nil rfl (SelE.leaf (lk 0 rfl rfl) rfl (.refl _) (fun m => (TyOk.bool.lt _ _)) .nil) .nil) (.tmp (lk 0 rfl rfl) rfl) rfl rfl
theorem C_rights_less {a1 : Vector Int 16} {r : (List Int)} (h : rights_less a1 = some r) : PureC Pg 188 [E_A16_i64 a1] (E_S_i64 r) := by
  refine PureC.ofF (CallSpec.of_bodyF 17 0 fn188 rfl rfl rfl (Nat.le_of_ble_eq_true rfl) ?_) (ltL_c (ty_A16_i64.lt _ _) ltL_nil) (ty_S_i64.lt _ _)
  replace h := Ok.of h
  unfold rights_less at h
  refine AWp.seq ?_
  refine W.reg [0, 1] rfl ?_
  refine S.eff 1 rfl rfl (.nf (v2 := .ptr 0 [] 0) (H2 := [.cells (E_A16_i64 a1)]) (.box (lk 0 rfl rfl) rfl) rfl rfl) trivial ?_
  refine S.sil 2 rfl rfl (fun _ hF => .assign cNs) ?_
  refine S.nil ?_
  refine thenQ_n ?_
  refine AWp.wk (Wk.freeze 0 rfl rfl (.same (lk 0 rfl rfl) (.cons (lk 1 rfl rfl) rfl (.ptr .nil (by first | rfl | omega)) .nil)) (.refl _)) ?_
  refine AWp.seq ?_
  refine W.reg [0] rfl ?_
  refine S.sil 3 rfl rfl (fun _ hF => .assign cNs) ?_
  refine S.nil ?_
  refine thenQ_n ?_
  refine AWp.seq ?_
  refine AWp.seq ?_
  refine W.reg [0, 1] rfl ?_
  refine S.sil 6 rfl rfl (fun _ hF => .loadC sz23 ag23 (lk 2 rfl rfl) (ty_A16_i64.fl a1) rfl) ?_
  refine S.sil 7 rfl rfl (fun _ hF => .move cI) ?_
  refine S.nil ?_
  refine thenQ_n ?_
  refine AWp.cutX (fun x4 => ⟨[(3, .sl 1 (.tok 0) (List.map (V.int .i64) x4)), (2, .nils)], [.tail]⟩) nc_then h (fun q2 hq2 => ?_) (fun x4 h => ?_)
  · refine AWp.block ?_
    refine AWp.loopT (fun s3 => ⟨[(7, (V.int .i64) s3.1), (6, E_A16_i64 a1), (3, .sl 1 (.tok 0) (List.map (V.int .i64) s3.2)), (2, .nils)], [.tail]⟩) hq2 (Wk.vacant.trans (Wk.selS [1] (by decide) rfl (SelE.leaf (lk 0 rfl rfl) rfl (.refl _) (fun m => ((TyOk.int .i64).lt _ _)) (SelE.leaf (lk 1 rfl rfl) rfl (.refl _) (fun m => (ty_A16_i64.lt _ _)) (SelE.spec (lk 2 rfl rfl) rfl (.nils_tok _ _) (ren_sl (TyOk.int .i64) _) (lt_sl rfl ((TyOk.int .i64).ltm _ _)) (SelE.leaf (lk 3 rfl rfl) rfl (.refl _) (fun m => rfl) .nil)))) (.cons rfl rfl trivial .nil))) (fun _ s3 h2 => ?_)
    rw [rights_less_L1] at h2
    refine AWp.seq ?_
    refine W.reg [0] rfl ?_
    refine S.sil 8 rfl rfl (fun _ hF => .lss (lk 0 rfl rfl) cI) ?_
    refine S.nil ?_
    refine thenQ_n ?_
    refine AWp.seq ?_
    refine AWp.condM (lk 0 rfl rfl) h2 (fun c1 h2 => ?_) (fun c1 h2 => ?_)
    · skip
      refine AWp.skip ?_
      refine thenQ_n ?_
      refine AWp.seq ?_
      refine AWp.block ?_
      refine AWp.seq ?_
      refine W.reg [0, 1] rfl ?_
      obtain ⟨k5, m5, h2⟩ := h2.bnd
      refine S.sil 9 rfl rfl (fun _ hF => .ixV arr23 (lk 2 rfl rfl) (lk 1 rfl rfl) m5 rfl) ?_
      refine S.sil 5 rfl rfl (fun _ hF => .assign (lk 0 rfl rfl)) ?_
      refine S.nil ?_
      refine thenQ_n ?_
      refine W.reg [0, 1, 2, 3, 4, 5] rfl ?_
      refine S.sil 10 rfl rfl (fun _ hF => .move (lk 5 rfl rfl)) ?_
      refine S.sil 11 rfl rfl (fun _ hF => .move (lk 1 rfl rfl)) ?_
      refine S.sil 12 rfl rfl (fun _ hF => .neg (lk 0 rfl rfl)) ?_
      refine S.sil 13 rfl rfl (fun _ hF => .buildSliceW sli116 zv3 rfl rfl (by decide) (.cons (lk 0 rfl rfl) rfl (.refl _) rfl .nil)) ?_
      obtain ⟨l6, m6, h2⟩ := h2.bnd
      refine S.eff 14 rfl rfl (.nf (v2 := .sl 1 (.tok 1) (List.map (V.int .i64) l6)) (H2 := [.dead, .tail]) (.appT sli116 und116 zv3 rfl (by decide) (lk 3 rfl rfl) rfl (lk 0 rfl rfl) Rd.sl m6 rfl) rfl rfl) trivial ?_
      refine S.sil 3 rfl rfl (fun _ hF => .assign (lk 0 rfl rfl)) ?_
      refine S.nil ?_
      refine blockQ_n ?_
      refine thenQ_n ?_
      refine W.reg [0, 1] rfl ?_
      refine S.sil 15 rfl rfl (fun _ hF => .add (lk 9 rfl rfl) cI) ?_
      refine S.sil 7 rfl rfl (fun _ hF => .move (lk 0 rfl rfl)) ?_
      refine S.nil ?_
      refine thenQ_n ?_
      exact ⟨_, h2.ret, (Wk.selS [1] (by decide) rfl (SelE.leaf (lk 0 rfl rfl) rfl (.refl _) (fun m => ((TyOk.int .i64).lt _ _)) (SelE.leaf (lk 12 rfl rfl) rfl (.refl _) (fun m => (ty_A16_i64.lt _ _)) (SelE.spec (lk 2 rfl rfl) rfl (.refl _) (ren_sl (TyOk.int .i64) _) (lt_sl rfl ((TyOk.int .i64).ltm _ _)) (SelE.leaf (lk 14 rfl rfl) rfl (.refl _) (fun m => rfl) .nil)))) (.cons rfl rfl trivial .nil))⟩
    · skip
      refine AWp.exit ?_
      refine thenQ_x ?_
      refine thenQ_x ?_
      refine blockQ_x ?_
      refine thenQ_n ?_
      exact ⟨_, h2.ret, (Wk.selS [0] (by decide) rfl (SelE.spec (lk 3 rfl rfl) rfl (.refl _) (ren_sl (TyOk.int .i64) _) (lt_sl rfl ((TyOk.int .i64).ltm _ _)) (SelE.leaf (lk 4 rfl rfl) rfl (.refl _) (fun m => rfl) .nil)) (.cons rfl rfl trivial .nil))⟩
  · skip
    refine thenQ_n ?_
    refine AWp.seq ?_
    refine W.reg [0, 1] rfl ?_
    refine S.sil 16 rfl rfl (fun _ hF => .move (lk 0 rfl rfl)) ?_
    refine S.sil 2 rfl rfl (fun _ hF => .assign (lk 0 rfl rfl)) ?_
    refine S.nil ?_
    refine thenQ_n ?_
    refine AWp.ret ?_
    obtain rfl := h.ret
    exact endF1 rfl (Wk.selS [] .nil rfl (SelE.leaf (lk 0 rfl rfl) rfl (.forget _ _ _) (fun m => (ty_S_i64.lt _ _)) .nil) .nil) (.tmp (lk 0 rfl rfl) rfl) rfl rfl
theorem C_num_Add {a1 : Int} {a2 : Int} {r : Int × Int} (h : num_Add a1 a2 = some r) : PureC Pg 123 [(V.int .i64) a1, (V.int .i64) a2] (.tup [(V.int .i64) r.1, (V.int .i64) r.2]) := by
  refine PureC.ofF (CallSpec.of_bodyF 15 0 fn123 rfl rfl rfl (Nat.le_of_ble_eq_true rfl) ?_) (ltL_c ((TyOk.int .i64).lt _ _) (ltL_c ((TyOk.int .i64).lt _ _) ltL_nil)) (lt_tup (ltL_c ((TyOk.int .i64).lt _ _) (ltL_c ((TyOk.int .i64).lt _ _) ltL_nil)))
  replace h := Ok.of h
  unfold num_Add at h
  refine AWp.seq ?_
  refine W.reg [0, 1] rfl ?_
  refine S.sil 4 rfl rfl (fun _ hF => .assign cI) ?_
  refine S.sil 5 rfl rfl (fun _ hF => .assign cI) ?_
  refine S.nil ?_
  refine thenQ_n ?_
  refine AWp.seq ?_
  refine W.reg [0, 1, 2, 3, 4, 5, 6, 7, 8, 9, 10] rfl ?_
  refine S.sil 6 rfl rfl (fun _ hF => .move (lk 2 rfl rfl)) ?_
  refine S.sil 7 rfl rfl (fun _ hF => .move (lk 4 rfl rfl)) ?_
  refine S.sil 8 rfl rfl (fun _ hF => .add (lk 1 rfl rfl) (lk 0 rfl rfl)) ?_
  refine S.sil 9 rfl rfl (fun _ hF => .move (lk 5 rfl rfl)) ?_
  refine S.sil 10 rfl rfl (fun _ hF => .move (lk 7 rfl rfl)) ?_
  refine S.sil 11 rfl rfl (fun _ hF => .buildSliceW sli116 zv3 rfl rfl (by decide) (.cons (lk 1 rfl rfl) rfl (.refl _) rfl (.cons (lk 0 rfl rfl) rfl (.refl _) rfl .nil))) ?_
  obtain ⟨r3, m3, h⟩ := h.bnd
  refine S.sil 12 rfl rfl (fun _ hF => .callQ ent156 cF (.c (lk 3 rfl rfl) (V.sub.refl _) (.c (lk 0 rfl rfl) (V.sub.refl _) .nil)) (C_num_checked m3)) ?_
  refine S.sil 13 rfl rfl (fun _ hF => .extract (lk 0 rfl rfl) rfl) ?_
  refine S.sil 14 rfl rfl (fun _ hF => .extract (lk 1 rfl rfl) rfl) ?_
  refine S.sil 4 rfl rfl (fun _ hF => .assign (lk 1 rfl rfl)) ?_
  refine S.sil 5 rfl rfl (fun _ hF => .assign (lk 1 rfl rfl)) ?_
  refine S.nil ?_
  refine thenQ_n ?_
  refine AWp.prune (.eq (lk 0 rfl rfl) rfl (.eq (lk 1 rfl rfl) rfl .nil)) ?_
  refine AWp.ret ?_
  obtain rfl := h.ret
  exact endFN rfl (Wk.selS [] .nil rfl (SelE.leaf (lk 1 rfl rfl) rfl (.refl _) (fun m => ((TyOk.int .i64).lt _ _)) (SelE.leaf (lk 0 rfl rfl) rfl (.refl _) (fun m => ((TyOk.int .i64).lt _ _)) .nil)) .nil) (.cons (.tmp (lk 0 rfl rfl) rfl) (.cons (.tmp (lk 1 rfl rfl) rfl) .nil)) rfl rfl rfl
theorem C_num_Must {a1 : Int} {a2 : Int} {r : Int} (h : num_Must a1 a2 = some r) : PureC Pg 134 [(V.int .i64) a1, (V.int .i64) a2] ((V.int .i64) r) := by
  refine PureC.ofF (CallSpec.of_bodyF 10 0 fn134 rfl rfl rfl (Nat.le_of_ble_eq_true rfl) ?_) (ltL_c ((TyOk.int .i64).lt _ _) (ltL_c ((TyOk.int .i64).lt _ _) ltL_nil)) ((TyOk.int .i64).lt _ _)
  replace h := Ok.of h
  unfold num_Must at h
  refine AWp.seq ?_
  refine W.reg [0] rfl ?_
  refine S.sil 4 rfl rfl (fun _ hF => .assign cI) ?_
  refine S.nil ?_
  refine thenQ_n ?_
  refine AWp.seq ?_
  refine AWp.seq ?_
  refine W.reg [0, 1] rfl ?_
  refine S.sil 5 rfl rfl (fun _ hF => .move (lk 2 rfl rfl)) ?_
  refine S.sil 6 rfl rfl (fun _ hF => .neq (lk 0 rfl rfl) cI) ?_
  refine S.nil ?_
  refine thenQ_n ?_
  refine AWp.condM (lk 0 rfl rfl) h (fun c1 h => ?_) (fun c1 h => ?_)
  · skip
    exact h.no.elim
  · skip
    refine AWp.skip ?_
    refine thenQ_n ?_
    refine AWp.seq ?_
    refine W.reg [0, 1] rfl ?_
    refine S.sil 9 rfl rfl (fun _ hF => .move (lk 3 rfl rfl)) ?_
    refine S.sil 4 rfl rfl (fun _ hF => .assign (lk 0 rfl rfl)) ?_
    refine S.nil ?_
    refine thenQ_n ?_
    refine AWp.ret ?_
    obtain rfl := h.ret
    exact endF1 rfl (Wk.selS [] .nil rfl (SelE.leaf (lk 0 rfl rfl) rfl (.refl _) (fun m => ((TyOk.int .i64).lt _ _)) .nil) .nil) (.tmp (lk 0 rfl rfl) rfl) rfl rfl
theorem C_num_Sum_1 {a1 : List Int} {r : Int} (h : num_Sum_1 a1 = some r) : PureC Pg 133 [.cptr (.sl 1 .no (List.map (V.int .i64) a1))] ((V.int .i64) r) := by
  refine PureC.ofF (CallSpec.of_bodyF 19 0 fn133 rfl rfl rfl (Nat.le_of_ble_eq_true rfl) ?_) (ltL_c (lt_cptr (lt_sl rfl ((TyOk.int .i64).ltm _ _))) ltL_nil) ((TyOk.int .i64).lt _ _)
  replace h := Ok.of h
  unfold num_Sum_1 at h
  refine AWp.seq ?_
  refine W.reg [0] rfl ?_
  refine S.sil 1 rfl rfl (fun _ hF => .assign cI) ?_
  refine S.nil ?_
  refine thenQ_n ?_
  refine AWp.seq ?_
  refine W.reg [0] rfl ?_
  refine S.sil 2 rfl rfl (fun _ hF => .assign cI) ?_
  refine S.nil ?_
  refine thenQ_n ?_
  refine AWp.seq ?_
  refine AWp.seq ?_
  refine W.reg [0, 1, 2] rfl ?_
  refine S.sil 5 rfl rfl (fun _ hF => .loadC sz116 ag116 (lk 2 rfl rfl) rfl rfl) ?_
  refine S.sil 6 rfl rfl (fun _ hF => .lenT sli116 (lk 0 rfl rfl) (vsub rfl (.refl _))) ?_
  refine S.sil 7 rfl rfl (fun _ hF => .move cI) ?_
  refine S.nil ?_
  refine thenQ_n ?_
  refine AWp.cutX (fun x4 => ⟨[(2, (V.int .i64) x4), (1, (V.int .i64) 0)], []⟩) nc_then h (fun q2 hq2 => ?_) (fun x4 h => ?_)
  · refine AWp.block ?_
    refine AWp.loopT (fun s3 => ⟨[(7, (V.int .i64) s3.1), (6, (V.int .i64) (a1.length : Int)), (5, .sl 1 .no (List.map (V.int .i64) a1)), (2, (V.int .i64) s3.2), (1, (V.int .i64) 0)], []⟩) hq2 (Wk.selS [] (by decide) rfl (SelE.leaf (lk 0 rfl rfl) rfl (.refl _) (fun m => ((TyOk.int .i64).lt _ _)) (SelE.leaf (lk 1 rfl rfl) rfl (.refl _) (fun m => ((TyOk.int .i64).lt _ _)) (SelE.leaf (lk 2 rfl rfl) rfl (.refl _) (fun m => (lt_sl rfl ((TyOk.int .i64).ltm _ _))) (SelE.leaf (lk 3 rfl rfl) rfl (.refl _) (fun m => ((TyOk.int .i64).lt _ _)) (SelE.leaf (lk 4 rfl rfl) rfl (.refl _) (fun m => ((TyOk.int .i64).lt _ _)) .nil))))) .nil) (fun _ s3 h2 => ?_)
    rw [num_Sum_1_L1] at h2
    refine AWp.seq ?_
    refine W.reg [0] rfl ?_
    refine S.sil 8 rfl rfl (fun _ hF => .lss (lk 0 rfl rfl) (lk 1 rfl rfl)) ?_
    refine S.nil ?_
    refine thenQ_n ?_
    refine AWp.seq ?_
    refine AWp.condM (lk 0 rfl rfl) h2 (fun c1 h2 => ?_) (fun c1 h2 => ?_)
    · skip
      refine AWp.skip ?_
      refine thenQ_n ?_
      refine AWp.seq ?_
      refine AWp.block ?_
      refine AWp.seq ?_
      refine W.reg [0, 1, 2] rfl ?_
      obtain ⟨j5, m5, h2⟩ := h2.bnd
      refine S.sil 9 rfl rfl (fun _ hF => .ixS sli116 (lk 3 rfl rfl) (lk 1 rfl rfl) m5) ?_
      refine S.sil 10 rfl rfl (fun _ hF => .loadC sz3 ag3 (lk 0 rfl rfl) rfl rfl) ?_
      refine S.sil 4 rfl rfl (fun _ hF => .assign (lk 0 rfl rfl)) ?_
      refine S.nil ?_
      refine thenQ_n ?_
      refine W.reg [0, 1, 2, 3, 4, 5, 6] rfl ?_
      refine S.sil 11 rfl rfl (fun _ hF => .move (lk 7 rfl rfl)) ?_
      refine S.sil 12 rfl rfl (fun _ hF => .move (lk 1 rfl rfl)) ?_
      obtain ⟨r6, m6, h2⟩ := h2.bnd
      refine S.sil 13 rfl rfl (fun _ hF => .callQ ent123 cF (.c (lk 1 rfl rfl) (V.sub.refl _) (.c (lk 0 rfl rfl) (V.sub.refl _) .nil)) (C_num_Add m6)) ?_
      refine S.sil 14 rfl rfl (fun _ hF => .extract (lk 0 rfl rfl) rfl) ?_
      refine S.sil 15 rfl rfl (fun _ hF => .extract (lk 1 rfl rfl) rfl) ?_
      obtain ⟨r7, m7, h2⟩ := h2.bnd
      refine S.sil 16 rfl rfl (fun _ hF => .callQ ent134 cF (.c (lk 1 rfl rfl) (V.sub.refl _) (.c (lk 0 rfl rfl) (V.sub.refl _) .nil)) (C_num_Must m7)) ?_
      refine S.sil 2 rfl rfl (fun _ hF => .assign (lk 0 rfl rfl)) ?_
      refine S.nil ?_
      refine blockQ_n ?_
      refine thenQ_n ?_
      refine W.reg [0, 1] rfl ?_
      refine S.sil 17 rfl rfl (fun _ hF => .add (lk 11 rfl rfl) cI) ?_
      refine S.sil 7 rfl rfl (fun _ hF => .move (lk 0 rfl rfl)) ?_
      refine S.nil ?_
      refine thenQ_n ?_
      exact ⟨_, h2.ret, (Wk.selS [] (by decide) rfl (SelE.leaf (lk 0 rfl rfl) rfl (.refl _) (fun m => ((TyOk.int .i64).lt _ _)) (SelE.leaf (lk 14 rfl rfl) rfl (.refl _) (fun m => ((TyOk.int .i64).lt _ _)) (SelE.leaf (lk 15 rfl rfl) rfl (.refl _) (fun m => (lt_sl rfl ((TyOk.int .i64).ltm _ _))) (SelE.leaf (lk 2 rfl rfl) rfl (.refl _) (fun m => ((TyOk.int .i64).lt _ _)) (SelE.leaf (lk 17 rfl rfl) rfl (.refl _) (fun m => ((TyOk.int .i64).lt _ _)) .nil))))) .nil)⟩
    · skip
      refine AWp.exit ?_
      refine thenQ_x ?_
      refine thenQ_x ?_
      refine blockQ_x ?_
      refine thenQ_n ?_
      exact ⟨_, h2.ret, (Wk.selS [] (by decide) rfl (SelE.leaf (lk 4 rfl rfl) rfl (.refl _) (fun m => ((TyOk.int .i64).lt _ _)) (SelE.leaf (lk 5 rfl rfl) rfl (.refl _) (fun m => ((TyOk.int .i64).lt _ _)) .nil)) .nil)⟩
  · skip
    refine thenQ_n ?_
    refine AWp.seq ?_
    refine W.reg [0, 1] rfl ?_
    refine S.sil 18 rfl rfl (fun _ hF => .move (lk 0 rfl rfl)) ?_
    refine S.sil 1 rfl rfl (fun _ hF => .assign (lk 0 rfl rfl)) ?_
    refine S.nil ?_
    refine thenQ_n ?_
    refine AWp.ret ?_
    obtain rfl := h.ret
    exact endF1 rfl (Wk.selS [] .nil rfl (SelE.leaf (lk 0 rfl rfl) rfl (.refl _) (fun m => ((TyOk.int .i64).lt _ _)) .nil) .nil) (.tmp (lk 0 rfl rfl) rfl) rfl rfl
theorem ifc20 : (match Pg.underlying 20 with | some (.interface _) => true | _ => false) = true := by kernel_rfl
theorem fun151 : (match Pg.underlying 151 with | some (.func ..) => true | _ => false) = true := by kernel_rfl
theorem C_num_Must_P {a1 : Int} {a2 : Int} (h : a2 ≠ 0) : PanC Pg 134 [(V.int .i64) a1, (V.int .i64) a2] (.ifc 38 ((V.int .i64) a2)) := by
  refine PanC.ofF (CallSpec.of_bodyF 10 0 fn134 rfl rfl rfl (Nat.le_of_ble_eq_true rfl) ?_) (ltL_c ((TyOk.int .i64).lt _ _) (ltL_c ((TyOk.int .i64).lt _ _) ltL_nil)) (lt_ifc ((TyOk.int .i64).lt _ _))
  refine AWp.seq ?_
  refine W.reg [0] rfl ?_
  refine S.sil 4 rfl rfl (fun _ hF => .assign cI) ?_
  refine S.nil ?_
  refine thenQ_n ?_
  refine AWp.seq ?_
  refine AWp.seq ?_
  refine W.reg [0, 1] rfl ?_
  refine S.sil 5 rfl rfl (fun _ hF => .move (lk 2 rfl rfl)) ?_
  refine S.sil 6 rfl rfl (fun _ hF => .neq (lk 0 rfl rfl) cI) ?_
  refine S.nil ?_
  refine thenQ_n ?_
  refine AWp.cond (lk 0 rfl rfl) (fun _ => ?_) (fun e => by simp [h] at e)
  refine AWp.regionP [0, 1] 2 [] rfl rfl rfl ?_
  refine S.sil 7 rfl rfl (fun _ hF => .move (lk 4 rfl rfl)) ?_
  refine S.sil 8 rfl rfl (fun _ hF => .mkIface und38 rfl (lk 0 rfl rfl) rfl) ?_
  refine S.nil ?_
  exact ⟨_, _, .panic (lk 0 rfl rfl), thenQ_p ⟨rfl, rfl⟩⟩

theorem C_num_Sum_P {a1 : List Int} {r : Int} (h : num_Sum_P a1 = some r) : PanC Pg 133 [.cptr (.sl 1 .no (List.map (V.int .i64) a1))] (.ifc 38 ((V.int .i64) r)) := by
  refine PanC.ofF (CallSpec.of_bodyF 19 0 fn133 rfl rfl rfl (Nat.le_of_ble_eq_true rfl) ?_) (ltL_c (lt_cptr (lt_sl rfl ((TyOk.int .i64).ltm _ _))) ltL_nil) (lt_ifc ((TyOk.int .i64).lt _ _))
  refine AWp.seq ?_
  refine W.reg [0] rfl ?_
  refine S.sil 1 rfl rfl (fun _ hF => .assign cI) ?_
  refine S.nil ?_
  refine thenQ_n ?_
  refine AWp.seq ?_
  refine W.reg [0] rfl ?_
  refine S.sil 2 rfl rfl (fun _ hF => .assign cI) ?_
  refine S.nil ?_
  refine thenQ_n ?_
  refine AWp.seq ?_
  refine AWp.seq ?_
  refine W.reg [0, 1, 2] rfl ?_
  refine S.sil 5 rfl rfl (fun _ hF => .loadC sz116 ag116 (lk 2 rfl rfl) rfl rfl) ?_
  refine S.sil 6 rfl rfl (fun _ hF => .lenT sli116 (lk 0 rfl rfl) (vsub rfl (.refl _))) ?_
  refine S.sil 7 rfl rfl (fun _ hF => .move cI) ?_
  refine S.nil ?_
  refine thenQ_n ?_
  refine AWp.block ?_
  refine AWp.loopT (fun s3 => ⟨[(7, (V.int .i64) s3.1), (6, (V.int .i64) (a1.length : Int)), (5, .sl 1 .no (List.map (V.int .i64) a1)), (2, (V.int .i64) s3.2), (1, (V.int .i64) 0)], []⟩) h (Wk.selS [] (by decide) rfl (SelE.leaf (lk 0 rfl rfl) rfl (.refl _) (fun m => ((TyOk.int .i64).lt _ _)) (SelE.leaf (lk 1 rfl rfl) rfl (.refl _) (fun m => ((TyOk.int .i64).lt _ _)) (SelE.leaf (lk 2 rfl rfl) rfl (.refl _) (fun m => (lt_sl rfl ((TyOk.int .i64).ltm _ _))) (SelE.leaf (lk 3 rfl rfl) rfl (.refl _) (fun m => ((TyOk.int .i64).lt _ _)) (SelE.leaf (lk 4 rfl rfl) rfl (.refl _) (fun m => ((TyOk.int .i64).lt _ _)) .nil))))) .nil) (fun _ s3 h2 => ?_)
  rw [num_Sum_P_L1] at h2
  refine AWp.seq ?_
  refine W.reg [0] rfl ?_
  refine S.sil 8 rfl rfl (fun _ hF => .lss (lk 0 rfl rfl) (lk 1 rfl rfl)) ?_
  refine S.nil ?_
  refine thenQ_n ?_
  refine AWp.seq ?_
  refine AWp.condM (lk 0 rfl rfl) h2 (fun c1 h2 => ?_) (fun c1 h2 => h2.no.elim)
  refine AWp.skip ?_
  refine thenQ_n ?_
  refine AWp.seq ?_
  refine AWp.block ?_
  refine AWp.seq ?_
  refine W.reg [0, 1, 2] rfl ?_
  obtain ⟨j5, m5, h2⟩ := h2.bnd
  refine S.sil 9 rfl rfl (fun _ hF => .ixS sli116 (lk 3 rfl rfl) (lk 1 rfl rfl) m5) ?_
  refine S.sil 10 rfl rfl (fun _ hF => .loadC sz3 ag3 (lk 0 rfl rfl) rfl rfl) ?_
  refine S.sil 4 rfl rfl (fun _ hF => .assign (lk 0 rfl rfl)) ?_
  refine S.nil ?_
  refine thenQ_n ?_
  obtain ⟨r6, m6, h2⟩ := h2.bnd
  by_cases hz : r6.2 = 0
  · replace h2 := (h2.t (by simp [hz])).ret
    refine W.reg [0, 1, 2, 3, 4, 5, 6] rfl ?_
    refine S.sil 11 rfl rfl (fun _ hF => .move (lk 7 rfl rfl)) ?_
    refine S.sil 12 rfl rfl (fun _ hF => .move (lk 1 rfl rfl)) ?_
    refine S.sil 13 rfl rfl (fun _ hF => .callQ ent123 cF (.c (lk 1 rfl rfl) (V.sub.refl _) (.c (lk 0 rfl rfl) (V.sub.refl _) .nil)) (C_num_Add m6)) ?_
    refine S.sil 14 rfl rfl (fun _ hF => .extract (lk 0 rfl rfl) rfl) ?_
    refine S.sil 15 rfl rfl (fun _ hF => .extract (lk 1 rfl rfl) rfl) ?_
    refine S.sil 16 rfl rfl (fun _ hF => .callQ ent134 cF (.c (lk 1 rfl rfl) (V.sub.refl _) (.c (lk 0 rfl rfl) (V.sub.refl _) .nil)) (C_num_Must (r := r6.1) (by simp [num_Must, hz]))) ?_
    refine S.sil 2 rfl rfl (fun _ hF => .assign (lk 0 rfl rfl)) ?_
    refine S.nil ?_
    refine blockQ_n ?_
    refine thenQ_n ?_
    refine W.reg [0, 1] rfl ?_
    refine S.sil 17 rfl rfl (fun _ hF => .add (lk 11 rfl rfl) cI) ?_
    refine S.sil 7 rfl rfl (fun _ hF => .move (lk 0 rfl rfl)) ?_
    refine S.nil ?_
    refine thenQ_n ?_
    exact ⟨_, h2, (Wk.selS [] (by decide) rfl (SelE.leaf (lk 0 rfl rfl) rfl (.refl _) (fun m => ((TyOk.int .i64).lt _ _)) (SelE.leaf (lk 14 rfl rfl) rfl (.refl _) (fun m => ((TyOk.int .i64).lt _ _)) (SelE.leaf (lk 15 rfl rfl) rfl (.refl _) (fun m => (lt_sl rfl ((TyOk.int .i64).ltm _ _))) (SelE.leaf (lk 2 rfl rfl) rfl (.refl _) (fun m => ((TyOk.int .i64).lt _ _)) (SelE.leaf (lk 17 rfl rfl) rfl (.refl _) (fun m => ((TyOk.int .i64).lt _ _)) .nil))))) .nil)⟩
  · replace h2 := (h2.f (by simp [hz])).ret
    simp only [loopK] at h2
    subst h2
    refine AWp.regionP [0, 1, 2, 3, 4] 5 [6] rfl rfl rfl ?_
    refine S.sil 11 rfl rfl (fun _ hF => .move (lk 7 rfl rfl)) ?_
    refine S.sil 12 rfl rfl (fun _ hF => .move (lk 1 rfl rfl)) ?_
    refine S.sil 13 rfl rfl (fun _ hF => .callQ ent123 cF (.c (lk 1 rfl rfl) (V.sub.refl _) (.c (lk 0 rfl rfl) (V.sub.refl _) .nil)) (C_num_Add m6)) ?_
    refine S.sil 14 rfl rfl (fun _ hF => .extract (lk 0 rfl rfl) rfl) ?_
    refine S.sil 15 rfl rfl (fun _ hF => .extract (lk 1 rfl rfl) rfl) ?_
    refine S.nil ?_
    refine ⟨_, _, .call ent134 cF (.c (lk 1 rfl rfl) (V.sub.refl _) (.c (lk 0 rfl rfl) (V.sub.refl _) .nil)) (C_num_Must_P hz), ?_⟩
    repeat (first | refine thenQ_p ?_ | refine blockQ_p ?_)
    exact ⟨rfl, rfl⟩

/-- The deferred function, when there is a panic. -/
theorem catch_pan {g : Gh} {w : World} {xs : List Value} {e a b : Int} {older : List PanicEntry} (hx : RVs g [.ptr 1 [] 0, .ptr 0 [] 0] xs) (hr : HR g [.cells (.int .i64 a), .cells (.int .i64 b)] w) {vx : Value} (hv : RV g (.ifc 38 (.int .i64 e)) vx) :
    CallsD Pg 160 xs.toArray (.panicking ({ v := vx, recovered := false } :: older)) w fun e' u' w' => e' = .returned (.tuple #[]) ∧ u' = .panicking ({ v := vx, recovered := true } :: older) ∧
      ∃ g', HR g' [.cells (.int .i64 0), .cells (.int .i64 e)] w' ∧ Ev g [.cells (.int .i64 a), .cells (.int .i64 b)] w g' [.cells (.int .i64 0), .cells (.int .i64 e)] w' := by
  refine callsD_of_wpS fn160 rfl fun c₀ cs hu => ?_
  have h0 : RAct g 15 (argEnv 0 [.ptr 1 [] 0, .ptr 0 [] 0]) { tmps := xs.toArray ++ Array.replicate (15 - xs.toArray.size) Go.undef, defers := [] } := RAct.start hx (Nat.le_of_ble_eq_true rfl)
  have hsz : (Try.f160.ntmps : Nat) = 15 := rfl
  rw [hsz]
  apply wpS_seq
  apply wpS_region
  refine wpS_recover rfl rfl rfl (by rw [h0.size]; exact Nat.le_of_ble_eq_true rfl) (v := vx) (cs' := { c₀ with mode := .panicking ({ v := vx, recovered := true } :: older) } :: cs) (.inl (by simp [recoverD, hu])) ?_
  have h1 := (h0.put (dst := some 4) rfl hv).put (dst := some 2) rfl hv
  simp only [Exit.thenS]
  refine wpS_of_wp ?_
  refine wp_mono ((?_ : AWp Pg 15 2 _ (fun ex s => ex = .normal ∧ s.H = [.cells (.int .i64 0), .cells (.int .i64 e)]) ⟨(2, .ifc 38 (.int .i64 e)) :: (4, .ifc 38 (.int .i64 e)) :: argEnv 0 [.ptr 1 [] 0, .ptr 0 [] 0], [.cells (.int .i64 a), .cells (.int .i64 b)]⟩) ⟨g, [.cells (.int .i64 a), .cells (.int .i64 b)], w⟩ g _ w rfl (by simpa using hr.len) h1 hr (.refl _ _ _)) ?_
  · refine AWp.seq ?_
    refine W.reg [0, 1] rfl ?_
    refine S.sil 5 rfl rfl (fun _ hF => .move (lk 0 rfl rfl)) ?_
    refine S.sil 6 rfl rfl (fun _ hF => .neqIN ifc20 (lk 0 rfl rfl) cNi) ?_
    refine S.nil ?_
    refine thenQ_n ?_
    refine AWp.condT (lk 0 rfl rfl) ?_
    refine AWp.seq ?_
    refine W.reg [0] rfl ?_
    refine S.sil 3 rfl rfl (fun _ hF => .assign cB) ?_
    refine S.nil ?_
    refine thenQ_n ?_
    refine AWp.seq ?_
    refine AWp.seq ?_
    refine W.reg [0, 1, 2, 3, 4, 5, 6] rfl ?_
    refine S.sil 8 rfl rfl (fun _ hF => .move (lk 3 rfl rfl)) ?_
    refine S.sil 9 rfl rfl (fun _ hF => .assertSame und38 (lk 0 rfl rfl)) ?_
    refine S.sil 7 rfl rfl (fun _ hF => .move (lk 0 rfl rfl)) ?_
    refine S.sil 10 rfl rfl (fun _ hF => .extract (lk 0 rfl rfl) rfl) ?_
    refine S.sil 11 rfl rfl (fun _ hF => .extract (lk 1 rfl rfl) rfl) ?_
    refine S.effN rfl rfl (.nf (H2 := [.cells (.int .i64 a), .cells (.int .i64 e)]) (.storeP sz38 (lk 10 rfl rfl) (lk 1 rfl rfl) rfl (.refl _) rfl .nil rfl .nil rfl rfl rfl) rfl rfl) trivial ?_
    refine S.sil 3 rfl rfl (fun _ hF => .assign (lk 0 rfl rfl)) ?_
    refine S.nil ?_
    refine thenQ_n ?_
    refine AWp.seq ?_
    refine W.reg [0, 1] rfl ?_
    refine S.sil 12 rfl rfl (fun _ hF => .move (lk 0 rfl rfl)) ?_
    refine S.sil 13 rfl rfl (fun _ hF => .not (lk 0 rfl rfl)) ?_
    refine S.nil ?_
    refine thenQ_n ?_
    refine AWp.condF (lk 0 rfl rfl) ?_
    refine AWp.skip ?_
    refine thenQ_n ?_
    refine W.reg [0] rfl ?_
    refine S.effN rfl rfl (.nf (H2 := [.cells (.int .i64 0), .cells (.int .i64 e)]) (.storeP sz3 (lk 14 rfl rfl) cI rfl (.refl _) rfl .nil rfl .nil rfl rfl rfl) rfl rfl) trivial ?_
    refine S.nil ?_
    exact ⟨rfl, rfl⟩
  · rintro ex a' w' ⟨g', s', ae, ⟨rfl, hs⟩, hx', r1, r2, r3⟩
    cases ex <;> simp only [ExRel] at hx' <;> try exact hx'.elim
    rw [hs] at r2 r3
    exact ⟨r1.defers, _, rfl, .tuple #[], by simp [results, Try.results160, go_sem], rfl, rfl, g', r2, r3⟩

/-- The deferred function, when there is none. -/
theorem catch_idle {g : Gh} {w : World} {xs : List Value} {a b : Int} (hx : RVs g [.ptr 1 [] 0, .ptr 0 [] 0] xs) (hr : HR g [.cells (.int .i64 a), .cells (.int .i64 b)] w) :
    CallsD Pg 160 xs.toArray .returning w fun e' u' w' => e' = .returned (.tuple #[]) ∧ u' = .returning ∧
      ∃ g', HR g' [.cells (.int .i64 a), .cells (.int .i64 b)] w' ∧ Ev g [.cells (.int .i64 a), .cells (.int .i64 b)] w g' [.cells (.int .i64 a), .cells (.int .i64 b)] w' := by
  refine callsD_of_wpS fn160 rfl fun c₀ cs hu => ?_
  have h0 : RAct g 15 (argEnv 0 [.ptr 1 [] 0, .ptr 0 [] 0]) { tmps := xs.toArray ++ Array.replicate (15 - xs.toArray.size) Go.undef, defers := [] } := RAct.start hx (Nat.le_of_ble_eq_true rfl)
  have hsz : (Try.f160.ntmps : Nat) = 15 := rfl
  rw [hsz]
  apply wpS_seq
  apply wpS_region
  have hv : RV g .nili .nilIface := ⟨rfl, by simp [RC, Value.cells]⟩
  refine wpS_recover rfl rfl rfl (by rw [h0.size]; exact Nat.le_of_ble_eq_true rfl) (v := .nilIface) (cs' := c₀ :: cs) (.inr ⟨by simp [recoverD, hu], rfl, rfl⟩) ?_
  have h1 := (h0.put (dst := some 4) rfl hv).put (dst := some 2) rfl hv
  simp only [Exit.thenS]
  refine wpS_of_wp ?_
  refine wp_mono ((?_ : AWp Pg 15 2 _ (fun ex s => ex = .normal ∧ s.H = [.cells (.int .i64 a), .cells (.int .i64 b)]) ⟨(2, .nili) :: (4, .nili) :: argEnv 0 [.ptr 1 [] 0, .ptr 0 [] 0], [.cells (.int .i64 a), .cells (.int .i64 b)]⟩) ⟨g, [.cells (.int .i64 a), .cells (.int .i64 b)], w⟩ g _ w rfl (by simpa using hr.len) h1 hr (.refl _ _ _)) ?_
  · refine AWp.seq ?_
    refine W.reg [0, 1] rfl ?_
    refine S.sil 5 rfl rfl (fun _ hF => .move (lk 0 rfl rfl)) ?_
    refine S.sil 6 rfl rfl (fun _ hF => .neqNN ifc20 (lk 0 rfl rfl) cNi) ?_
    refine S.nil ?_
    refine thenQ_n ?_
    refine AWp.condF (lk 0 rfl rfl) ?_
    refine AWp.skip ?_
    exact ⟨rfl, rfl⟩
  · rintro ex a' w' ⟨g', s', ae, ⟨rfl, hs⟩, hx', r1, r2, r3⟩
    cases ex <;> simp only [ExRel] at hx' <;> try exact hx'.elim
    rw [hs] at r2 r3
    have hc : c₀ = { c₀ with mode := .returning } := by rw [← hu]
    exact ⟨r1.defers, .returning, by rw [← hc], .tuple #[], by simp [results, Try.results160, go_sem], rfl, rfl, g', r2, r3⟩


theorem ResTry {x y : Int} {env : List (Nat × V)} (h2 : look env 2 = .ptr 0 [] 0) (h3 : look env 3 = .ptr 1 [] 0) : ResOK Pg Try.f132 9 ⟨env, [.cells (.int .i64 x), .cells (.int .i64 y)]⟩ (.tup [.int .i64 x, .int .i64 y]) :=
  .many (rs := [.cell 2 3, .cell 3 38]) rfl (.cons (.cell sz3 ag3 h2 rfl (by simp [V.at]) rfl rfl rfl) (.cons (.cell sz38 ag38 h3 rfl (by simp [V.at]) rfl rfl rfl) .nil)) (by simp)

theorem Try_start {ff : FuncId} {cap : List V} {g : Gh} {w : World} {xs : List Value} (hx : RVs g [.fn ff [] cap] xs) (hr : HR g [] w) (hk : okL cap = true) {Q : Exit → Act → World → Prop}
    (k : ∀ g' a' w' b', RVl g' [.ptr 1 [] 0, .ptr 0 [] 0] b'.toList →
      RActD g' 9 [{ target := .fn (.func 160) b', args := #[] }] ((6, .fn 160 [] [.ptr 1 [] 0, .ptr 0 [] 0]) :: (5, .bool false) :: (4, .fn ff [] cap) :: (3, .ptr 1 [] 0) :: (2, .ptr 0 [] 0) :: argEnv 0 [.fn ff [] cap]) a' →
      HR g' [.cells (.int .i64 0), .cells (.int .i64 0)] w' → Ev g [] w g' [.cells (.int .i64 0), .cells (.int .i64 0)] w' →
      (tail3 (Try.f132.body.getD .skip)).wp Pg Q a' w') :
    ∃ c, Try.f132.body = some c ∧ c.wp Pg Q { tmps := xs.toArray ++ Array.replicate (9 - xs.toArray.size) Go.undef, defers := [] } w := by
  refine ⟨_, rfl, ?_⟩
  have h0 : RAct g 9 (argEnv 0 [.fn ff [] cap]) _ := RAct.start hx (Nat.le_of_ble_eq_true rfl)
  refine AWp.toD (s := ⟨argEnv 0 [.fn ff [] cap], []⟩) (s' := ⟨(3, .ptr 1 [] 0) :: (2, .ptr 0 [] 0) :: argEnv 0 [.fn ff [] cap], [.cells (.int .i64 0), .cells (.int .i64 0)]⟩) (B := ⟨g, [], w⟩) (m := 0) ?_ rfl (by simpa using hr.len) h0 hr (.refl _ _ _) fun g1 a1 w1 p1 p2 p3 => ?_
  · refine W.reg [0, 1] rfl ?_
    refine S.new 2 rfl rfl (.alloc zv3) trivial ?_
    refine S.new 3 rfl rfl (.alloc zv38) trivial ?_
    refine S.nil ?_
    exact ⟨rfl, rfl⟩
  refine AWp.toD (s := ⟨(3, .ptr 1 [] 0) :: (2, .ptr 0 [] 0) :: argEnv 0 [.fn ff [] cap], [.cells (.int .i64 0), .cells (.int .i64 0)]⟩) (s' := ⟨(5, .bool false) :: (4, .fn ff [] cap) :: (3, .ptr 1 [] 0) :: (2, .ptr 0 [] 0) :: argEnv 0 [.fn ff [] cap], [.cells (.int .i64 0), .cells (.int .i64 0)]⟩) (B := ⟨g, [], w⟩) (m := 0) ?_ rfl (by simpa using hr.len) p1 p2 p3 fun g2 a2 w2 q1 q2 q3 => ?_
  · refine AWp.seq ?_
    refine W.reg [0, 1] rfl ?_
    refine S.sil 4 rfl rfl (fun _ hF => .move (lk 2 rfl rfl)) ?_
    refine S.sil 5 rfl rfl (fun _ hF => .eqlFN fun151 (lk 0 rfl rfl) cNf) ?_
    refine S.nil ?_
    refine thenQ_n ?_
    refine AWp.condF (lk 0 rfl rfl) ?_
    refine AWp.skip ?_
    exact ⟨rfl, rfl⟩
  refine wp_seq (wp_region ?_)
  show wpOps Pg _ _ ([0] ++ [1]) a2 w2
  refine runD_of (D := []) (s := ⟨(5, .bool false) :: (4, .fn ff [] cap) :: (3, .ptr 1 [] 0) :: (2, .ptr 0 [] 0) :: argEnv 0 [.fn ff [] cap], [.cells (.int .i64 0), .cells (.int .i64 0)]⟩) (s' := ⟨(6, .fn 160 [] [.ptr 1 [] 0, .ptr 0 [] 0]) :: (5, .bool false) :: (4, .fn ff [] cap) :: (3, .ptr 1 [] 0) :: (2, .ptr 0 [] 0) :: argEnv 0 [.fn ff [] cap], [.cells (.int .i64 0), .cells (.int .i64 0)]⟩) ?_ ⟨q1.env, q1.size, q1.defers⟩ q2 fun g3 a3 w3 u1 u2 u3 => ?_
  · refine S.sil 6 rfl rfl (fun _ hF => .makeFunc (a := []) (b := [.ptr 1 [] 0, .ptr 0 [] 0]) rfl rfl rfl rfl) ?_
    refine S.nil ?_
    rfl
  refine defer_op (x := .tmp 6) (f := 160) (cap := [.ptr 1 [] 0, .ptr 0 [] 0]) rfl rfl u1 fun b' v1 v2 => ?_
  simp only [wpOps, Exit.then]
  exact k g3 _ w3 b' v1 v2 u2 (q3.trans u3)

theorem C_Try_ret {ff : FuncId} {cap : List V} {r : Int} (hE : enters Pg ff = true) (hc : V.ltL 0 cap = true) (hk : okL cap = true) (hf : PureC Pg ff cap (.int .i64 r)) : PureC Pg 132 [.fn ff [] cap] (.tup [.int .i64 r, .int .i64 0]) := by
  refine PureC.of ?_ (ltL_c (lt_fn ltL_nil hc) ltL_nil) (lt_tup (ltL_c ((TyOk.int .i64).lt _ _) (ltL_c ((TyOk.int .i64).lt _ _) ltL_nil)))
  intro g w xs hx hr
  refine Exists.elim (Try_start (Q := bodyPostD Pg Try.f132 fun e w' => ∃ g' H' o, o = .ret (.tup [.int .i64 r, .int .i64 0]) ∧ OutRel g' e o ∧ HR g' H' w' ∧ Ev g [] w g' H' w') hx hr hk fun g1 a1 w1 b' v1 u1 u2 u3 => ?_) fun c hb => calls_of_wp_defers fn132 hb.1 hb.2
  · refine wp_seq (wp_region ?_)
    show wpOps Pg _ _ ([0, 1, 2, 3] ++ []) a1 w1
    refine runD_of (s := ⟨(6, .fn 160 [] [.ptr 1 [] 0, .ptr 0 [] 0]) :: (5, .bool false) :: (4, .fn ff [] cap) :: (3, .ptr 1 [] 0) :: (2, .ptr 0 [] 0) :: argEnv 0 [.fn ff [] cap], [.cells (.int .i64 0), .cells (.int .i64 0)]⟩) (s' := ⟨(8, .int .i64 r) :: (7, .fn ff [] cap) :: (6, .fn 160 [] [.ptr 1 [] 0, .ptr 0 [] 0]) :: (5, .bool false) :: (4, .fn ff [] cap) :: (3, .ptr 1 [] 0) :: (2, .ptr 0 [] 0) :: argEnv 0 [.fn ff [] cap], [.cells (.int .i64 r), .cells (.int .i64 0)]⟩) ?_ u1 u2 fun g2 a2 w2 p1 p2 p3 => ?_
    · refine S.sil 7 rfl rfl (fun _ hF => .move (lk 5 rfl rfl)) ?_
      refine S.sil 8 rfl rfl (fun _ hF => .callQ hE (lk 0 rfl rfl) (by simpa using SubL.refl _) hf) ?_
      refine S.effN rfl rfl (.nf (H2 := [.cells (.int .i64 r), .cells (.int .i64 0)]) (.storeP sz3 (lk 6 rfl rfl) (lk 0 rfl rfl) rfl (.refl _) rfl .nil rfl .nil rfl rfl rfl) rfl rfl) trivial ?_
      refine S.effN rfl rfl (.nf (H2 := [.cells (.int .i64 r), .cells (.int .i64 0)]) (.storeP sz38 (lk 5 rfl rfl) cI rfl (.refl _) rfl .nil rfl .nil rfl rfl rfl) rfl rfl) trivial ?_
      refine S.nil ?_
      rfl
    simp only [wpOps, Exit.then]
    refine wp_ret ?_
    simp only [bodyPostD]
    rw [p1.defers]
    refine leaves_cons (by simp) (invoke_fn ent160 b' w2) ?_
    refine (catch_idle (xs := b'.toList) (v1.rvs.mono p3.le) p2).mono ?_
    rintro e' u' w3 ⟨rfl, rfl, g3, q1, q2⟩
    obtain ⟨x, h1, h2⟩ := (ResTry (x := r) (y := 0) (env := (8, .int .i64 r) :: (7, .fn ff [] cap) :: (6, .fn 160 [] [.ptr 1 [] 0, .ptr 0 [] 0]) :: (5, .bool false) :: (4, .fn ff [] cap) :: (3, .ptr 1 [] 0) :: (2, .ptr 0 [] 0) :: argEnv 0 [.fn ff [] cap]) rfl rfl).drop (p1.mono q2.le) q1
    exact ⟨x, h1, g3, _, _, rfl, h2, q1, (u3.trans p3).trans q2⟩

theorem C_Try_pan {ff : FuncId} {cap : List V} {r : Int} (hE : enters Pg ff = true) (hc : V.ltL 0 cap = true) (hk : okL cap = true) (hf : PanC Pg ff cap (.ifc 38 (.int .i64 r))) : PureC Pg 132 [.fn ff [] cap] (.tup [.int .i64 0, .int .i64 r]) := by
  refine PureC.of ?_ (ltL_c (lt_fn ltL_nil hc) ltL_nil) (lt_tup (ltL_c ((TyOk.int .i64).lt _ _) (ltL_c ((TyOk.int .i64).lt _ _) ltL_nil)))
  intro g w xs hx hr
  refine Exists.elim (Try_start (Q := bodyPostD Pg Try.f132 fun e w' => ∃ g' H' o, o = .ret (.tup [.int .i64 0, .int .i64 r]) ∧ OutRel g' e o ∧ HR g' H' w' ∧ Ev g [] w g' H' w') hx hr hk fun g1 a1 w1 b' v1 u1 u2 u3 => ?_) fun c hb => calls_of_wp_defers fn132 hb.1 hb.2
  · refine wp_seq (wp_region ?_)
    show wpOps Pg _ _ ([0] ++ [1, 2, 3]) a1 w1
    refine runD_of (s := ⟨(6, .fn 160 [] [.ptr 1 [] 0, .ptr 0 [] 0]) :: (5, .bool false) :: (4, .fn ff [] cap) :: (3, .ptr 1 [] 0) :: (2, .ptr 0 [] 0) :: argEnv 0 [.fn ff [] cap], [.cells (.int .i64 0), .cells (.int .i64 0)]⟩) (s' := ⟨(7, .fn ff [] cap) :: (6, .fn 160 [] [.ptr 1 [] 0, .ptr 0 [] 0]) :: (5, .bool false) :: (4, .fn ff [] cap) :: (3, .ptr 1 [] 0) :: (2, .ptr 0 [] 0) :: argEnv 0 [.fn ff [] cap], [.cells (.int .i64 0), .cells (.int .i64 0)]⟩) ?_ u1 u2 fun g2 a2 w2 p1 p2 p3 => ?_
    · refine S.sil 7 rfl rfl (fun _ hF => .move (lk 5 rfl rfl)) ?_
      refine S.nil ?_
      rfl
    refine pan_op (o := ⟨some 8, .call ⟨.value (.tmp 7), #[], #[]⟩, 3, "num.go:58", #[⟨0, .data⟩], none⟩) (s := ⟨(7, .fn ff [] cap) :: (6, .fn 160 [] [.ptr 1 [] 0, .ptr 0 [] 0]) :: (5, .bool false) :: (4, .fn ff [] cap) :: (3, .ptr 1 [] 0) :: (2, .ptr 0 [] 0) :: argEnv 0 [.fn ff [] cap], [.cells (.int .i64 0), .cells (.int .i64 0)]⟩) rfl rfl (v := .ifc 38 (.int .i64 r)) (.call (first := []) (cap := cap) hE rfl (by simpa using SubL.refl _) hf) p1 p2 fun g3 x w3 r1 r2 r3 r4 => ?_
    simp only [Exit.then, bodyPostD]
    rw [p1.defers]
    refine leaves_cons (by simp) (invoke_fn ent160 b' w3) ?_
    refine (catch_pan (xs := b'.toList) ((v1.rvs.mono p3.le).mono r4.le) r3 r1).mono ?_
    rintro e' u' w4 ⟨rfl, rfl, g4, q1, q2⟩
    obtain ⟨y, h1, h2⟩ := (ResTry (x := 0) (y := r) (env := (7, .fn ff [] cap) :: (6, .fn 160 [] [.ptr 1 [] 0, .ptr 0 [] 0]) :: (5, .bool false) :: (4, .fn ff [] cap) :: (3, .ptr 1 [] 0) :: (2, .ptr 0 [] 0) :: argEnv 0 [.fn ff [] cap]) rfl rfl).drop (r2.mono q2.le) q1
    exact ⟨y, h1, g4, _, _, rfl, h2, q1, ((u3.trans p3).trans r4).trans q2⟩
theorem C_Try_sum {a1 : List Int} {r : Int × Int} (h : tryM (num_Sum_1 a1) (num_Sum_P a1) = some r) : PureC Pg 132 [.fn 133 [] [.cptr (.sl 1 .no (List.map (V.int .i64) a1))]] (.tup [(V.int .i64) r.1, (V.int .i64) r.2]) := by
  unfold tryM at h
  split at h
  · cases h
    exact C_Try_ret ent133 (ltL_c (lt_cptr (lt_sl rfl ((TyOk.int .i64).ltm _ _))) ltL_nil) rfl (C_num_Sum_1 (by assumption))
  · split at h
    · cases h
      exact C_Try_pan ent133 (ltL_c (lt_cptr (lt_sl rfl ((TyOk.int .i64).ltm _ _))) ltL_nil) rfl (C_num_Sum_P (by assumption))
    · cases h
theorem C_num_Sum {a1 : List Int} {r : Int × Int} (h : num_Sum a1 = some r) : PureC Pg 87 [.sl 1 .no (List.map (V.int .i64) a1)] (.tup [(V.int .i64) r.1, (V.int .i64) r.2]) := by
  refine PureC.ofF (CallSpec.of_bodyF 8 0 fn87 rfl rfl rfl (Nat.le_of_ble_eq_true rfl) ?_) (ltL_c (lt_sl rfl ((TyOk.int .i64).ltm _ _)) ltL_nil) (lt_tup (ltL_c ((TyOk.int .i64).lt _ _) (ltL_c ((TyOk.int .i64).lt _ _) ltL_nil)))
  replace h := Ok.of h
  unfold num_Sum at h
  refine AWp.seq ?_
  refine W.reg [0, 1, 2] rfl ?_
  refine S.eff 1 rfl rfl (.nf (v2 := .ptr 0 [] 0) (H2 := [.cells (.sl 1 .no (List.map (V.int .i64) a1))]) (.box (lk 0 rfl rfl) rfl) rfl rfl) trivial ?_
  refine S.sil 2 rfl rfl (fun _ hF => .assign cI) ?_
  refine S.sil 3 rfl rfl (fun _ hF => .assign cI) ?_
  refine S.nil ?_
  refine thenQ_n ?_
  refine AWp.wk (Wk.freeze 0 rfl rfl (.same (lk 0 rfl rfl) (.same (lk 1 rfl rfl) (.cons (lk 2 rfl rfl) rfl (.ptr .nil (by first | rfl | omega)) .nil))) (.refl _)) ?_
  refine AWp.seq ?_
  refine W.reg [0, 1, 2, 3, 4, 5] rfl ?_
  refine S.sil 4 rfl rfl (fun _ hF => .makeFunc rfl (mapE1 (lk 2 rfl rfl)) rfl rfl) ?_
  obtain ⟨r2, m2, h⟩ := h.bnd
  refine S.sil 5 rfl rfl (fun _ hF => .callQ ent132 cF (.c (lk 0 rfl rfl) (V.sub.refl _) .nil) (C_Try_sum m2)) ?_
  refine S.sil 6 rfl rfl (fun _ hF => .extract (lk 0 rfl rfl) rfl) ?_
  refine S.sil 7 rfl rfl (fun _ hF => .extract (lk 1 rfl rfl) rfl) ?_
  refine S.sil 2 rfl rfl (fun _ hF => .assign (lk 1 rfl rfl)) ?_
  refine S.sil 3 rfl rfl (fun _ hF => .assign (lk 1 rfl rfl)) ?_
  refine S.nil ?_
  refine thenQ_n ?_
  refine AWp.ret ?_
  obtain rfl := h.ret
  exact endFN rfl (Wk.selS [] .nil rfl (SelE.leaf (lk 1 rfl rfl) rfl (.refl _) (fun m => ((TyOk.int .i64).lt _ _)) (SelE.leaf (lk 0 rfl rfl) rfl (.refl _) (fun m => ((TyOk.int .i64).lt _ _)) .nil)) .nil) (.cons (.tmp (lk 0 rfl rfl) rfl) (.cons (.tmp (lk 1 rfl rfl) rfl) .nil)) rfl rfl rfl
theorem C_rights_Free {a1 : TRights} {a2 : Int} {r : Int × Int} (h : rights_Free a1 a2 = some r) : PureC Pg 182 [E_TRights a1, (V.int .i64) a2] (.tup [(V.int .i64) r.1, (V.int .i64) r.2]) := by
  refine PureC.ofF (CallSpec.of_bodyF 47 0 fn182 rfl rfl rfl (Nat.le_of_ble_eq_true rfl) ?_) (ltL_c (ty_TRights.lt _ _) (ltL_c ((TyOk.int .i64).lt _ _) ltL_nil)) (lt_tup (ltL_c ((TyOk.int .i64).lt _ _) (ltL_c ((TyOk.int .i64).lt _ _) ltL_nil)))
  replace h := Ok.of h
  unfold rights_Free at h
  refine AWp.seq ?_
  refine W.reg [0, 1, 2] rfl ?_
  refine S.eff 2 rfl rfl (.nf (v2 := .ptr 0 [] 0) (H2 := [.cells (E_TRights a1)]) (.box (lk 0 rfl rfl) rfl) rfl rfl) trivial ?_
  refine S.sil 4 rfl rfl (fun _ hF => .assign cI) ?_
  refine S.sil 5 rfl rfl (fun _ hF => .assign cI) ?_
  refine S.nil ?_
  refine thenQ_n ?_
  refine AWp.wk (Wk.freeze 0 rfl rfl (.same (lk 0 rfl rfl) (.same (lk 1 rfl rfl) (.cons (lk 2 rfl rfl) rfl (.ptr .nil (by first | rfl | omega)) (.same (lk 4 rfl rfl) .nil)))) (.refl _)) ?_
  refine AWp.seq ?_
  refine AWp.seq ?_
  refine W.reg [0, 1, 2] rfl ?_
  refine S.sil 9 rfl rfl (fun _ hF => .move (lk 3 rfl rfl)) ?_
  obtain ⟨r3, m3, h⟩ := h.bnd
  refine S.sil 10 rfl rfl (fun _ hF => .callQ ent187 cF (.c (lk 0 rfl rfl) (V.sub.refl _) .nil) (C_rights_is m3)) ?_
  refine S.sil 11 rfl rfl (fun _ hF => .not (lk 0 rfl rfl)) ?_
  refine S.nil ?_
  refine thenQ_n ?_
  refine AWp.condM (lk 0 rfl rfl) h (fun c1 h => ?_) (fun c1 h => ?_)
  · skip
    refine AWp.seq ?_
    refine W.reg [0, 1] rfl ?_
    refine S.sil 4 rfl rfl (fun _ hF => .assign cI) ?_
    refine S.sil 5 rfl rfl (fun _ hF => .assign cI) ?_
    refine S.nil ?_
    refine thenQ_n ?_
    refine AWp.ret ?_
    refine thenQ_r ?_
    obtain rfl := h.ret
    exact endFN rfl (Wk.selS [] .nil rfl (SelE.leaf (lk 1 rfl rfl) rfl (.refl _) (fun m => ((TyOk.int .i64).lt _ _)) (SelE.leaf (lk 0 rfl rfl) rfl (.refl _) (fun m => ((TyOk.int .i64).lt _ _)) .nil)) .nil) (.cons (.tmp (lk 0 rfl rfl) rfl) (.cons (.tmp (lk 1 rfl rfl) rfl) .nil)) rfl rfl rfl
  · skip
    refine AWp.skip ?_
    refine thenQ_n ?_
    refine AWp.seq ?_
    refine W.reg [0, 1, 2, 3, 4, 5] rfl ?_
    refine S.sil 12 rfl rfl (fun _ hF => .move (lk 6 rfl rfl)) ?_
    refine S.sil 13 rfl rfl (fun _ hF => .fieldAddrC lay26 rfl rfl (lk 6 rfl rfl) rfl flL_nil) ?_
    obtain ⟨k4, m4, h⟩ := h.bnd
    refine S.sil 14 rfl rfl (fun _ hF => .ixC arr23 (lk 0 rfl rfl) (lk 1 rfl rfl) m4) ?_
    refine S.sil 15 rfl rfl (fun _ hF => .loadC sz3 ag3 (lk 0 rfl rfl) rfl rfl) ?_
    refine S.sil 16 rfl rfl (fun _ hF => .buildSliceW sli116 zv3 rfl rfl (by decide) (.cons (lk 0 rfl rfl) rfl (.refl _) rfl .nil)) ?_
    refine S.sil 6 rfl rfl (fun _ hF => .assign (lk 0 rfl rfl)) ?_
    refine S.nil ?_
    refine thenQ_n ?_
    refine AWp.seq ?_
    refine AWp.seq ?_
    refine W.reg [0, 1, 2] rfl ?_
    refine S.sil 17 rfl rfl (fun _ hF => .fieldAddrC lay26 rfl rfl (lk 11 rfl rfl) rfl (flL_c (ty_A16_i64.fl a1.Given) (flL_c (ty_A16_i64.fl a1.Used) flL_nil))) ?_
    refine S.sil 18 rfl rfl (fun _ hF => .loadC sz24 ag24 (lk 0 rfl rfl) (ty_A16_A16_i64.fl a1.Moved) rfl) ?_
    refine S.sil 19 rfl rfl (fun _ hF => .move cI) ?_
    refine S.nil ?_
    refine thenQ_n ?_
    refine AWp.cutX (fun x7 => ⟨[(6, .sl 1 (.tok 0) (List.map (V.int .i64) x7)), (5, (V.int .i64) 0), (4, (V.int .i64) 0), (2, .cptr (E_TRights a1)), (1, (V.int .i64) a2)], [.tail]⟩) nc_then h (fun q5 hq5 => ?_) (fun x7 h => ?_)
    · refine AWp.block ?_
      refine AWp.loopT (fun s6 => ⟨[(19, (V.int .i64) s6.1), (18, E_A16_A16_i64 a1.Moved), (6, .sl 1 (.tok 0) (List.map (V.int .i64) s6.2)), (5, (V.int .i64) 0), (4, (V.int .i64) 0), (2, .cptr (E_TRights a1)), (1, (V.int .i64) a2)], [.tail]⟩) hq5 (Wk.vacant.trans (Wk.selS [1] (by decide) rfl (SelE.leaf (lk 0 rfl rfl) rfl (.refl _) (fun m => ((TyOk.int .i64).lt _ _)) (SelE.leaf (lk 1 rfl rfl) rfl (.refl _) (fun m => (ty_A16_A16_i64.lt _ _)) (SelE.spec (lk 3 rfl rfl) rfl (.tok _ _ _) (ren_sl (TyOk.int .i64) _) (lt_sl rfl ((TyOk.int .i64).ltm _ _)) (SelE.leaf (lk 12 rfl rfl) rfl (.refl _) (fun m => ((TyOk.int .i64).lt _ _)) (SelE.leaf (lk 13 rfl rfl) rfl (.refl _) (fun m => ((TyOk.int .i64).lt _ _)) (SelE.leaf (lk 14 rfl rfl) rfl (.refl _) (fun m => (lt_cptr (ty_TRights.lt _ _))) (SelE.leaf (lk 15 rfl rfl) rfl (.refl _) (fun m => ((TyOk.int .i64).lt _ _)) .nil))))))) (.cons rfl rfl trivial .nil))) (fun _ s6 h5 => ?_)
      rw [rights_Free_L1] at h5
      refine AWp.seq ?_
      refine W.reg [0] rfl ?_
      refine S.sil 20 rfl rfl (fun _ hF => .lss (lk 0 rfl rfl) cI) ?_
      refine S.nil ?_
      refine thenQ_n ?_
      refine AWp.seq ?_
      refine AWp.condM (lk 0 rfl rfl) h5 (fun c2 h5 => ?_) (fun c2 h5 => ?_)
      · skip
        refine AWp.skip ?_
        refine thenQ_n ?_
        refine AWp.seq ?_
        refine AWp.block ?_
        refine AWp.seq ?_
        refine W.reg [0, 1, 2] rfl ?_
        obtain ⟨k8, m8, h5⟩ := h5.bnd
        refine S.sil 21 rfl rfl (fun _ hF => .ixV arr24 (lk 2 rfl rfl) (lk 1 rfl rfl) m8 rfl) ?_
        refine S.eff 8 rfl rfl (.nf (v2 := .ptr 1 [] 0) (H2 := [.tail, .cells (E_A16_i64 (default : Vector Int 16))]) (.alloc zv23) rfl rfl) trivial ?_
        obtain ⟨v9, ev9, h5⟩ := h5.nam
        refine S.effN rfl rfl (.nf (H2 := [.tail, .cells (E_A16_i64 v9)]) (.storeP sz23 (lk 0 rfl rfl) (lk 1 rfl rfl) rfl (.refl _) rfl .nil (by first | rfl | omega) .nil (ty_A16_i64.fl (a1.Moved.get k8)) (ty_A16_i64.fl (default : Vector Int 16)) (congrArg (fun z => ([.tail, AObj.cells (E_A16_i64 z)] : List AObj)) ev9.symm)) rfl rfl) trivial ?_
        refine S.nil ?_
        refine thenQ_n ?_
        refine AWp.wk (Wk.freeze 1 rfl rfl (.cons (lk 0 rfl rfl) rfl (.ptr .nil (by first | rfl | omega)) (.same (lk 1 rfl rfl) (.same (lk 2 rfl rfl) (.same (lk 3 rfl rfl) (.same (lk 4 rfl rfl) (.same (lk 5 rfl rfl) (.same (lk 6 rfl rfl) (.same (lk 7 rfl rfl) (.same (lk 8 rfl rfl) (.same (lk 9 rfl rfl) .nil)))))))))) (.refl _)) ?_
        refine W.reg [0, 1, 2, 3, 4, 5, 6] rfl ?_
        refine S.sil 22 rfl rfl (fun _ hF => .move (lk 5 rfl rfl)) ?_
        refine S.sil 23 rfl rfl (fun _ hF => .move (lk 10 rfl rfl)) ?_
        obtain ⟨k10, m10, h5⟩ := h5.bnd
        refine S.sil 24 rfl rfl (fun _ hF => .ixC arr23 (lk 2 rfl rfl) (lk 0 rfl rfl) m10) ?_
        refine S.sil 25 rfl rfl (fun _ hF => .loadC sz3 ag3 (lk 0 rfl rfl) rfl rfl) ?_
        refine S.sil 26 rfl rfl (fun _ hF => .buildSliceW sli116 zv3 rfl rfl (by decide) (.cons (lk 0 rfl rfl) rfl (.refl _) rfl .nil)) ?_
        obtain ⟨l11, m11, h5⟩ := h5.bnd
        refine S.eff 27 rfl rfl (.nf (v2 := .sl 1 (.tok 2) (List.map (V.int .i64) l11)) (H2 := [.dead, .dead, .tail]) (.appT sli116 und116 zv3 rfl (by decide) (lk 4 rfl rfl) rfl (lk 0 rfl rfl) Rd.sl m11 rfl) rfl rfl) trivial ?_
        refine S.sil 6 rfl rfl (fun _ hF => .assign (lk 0 rfl rfl)) ?_
        refine S.nil ?_
        refine blockQ_n ?_
        refine thenQ_n ?_
        refine W.reg [0, 1] rfl ?_
        refine S.sil 28 rfl rfl (fun _ hF => .add (lk 10 rfl rfl) cI) ?_
        refine S.sil 19 rfl rfl (fun _ hF => .move (lk 0 rfl rfl)) ?_
        refine S.nil ?_
        refine thenQ_n ?_
        exact ⟨_, h5.ret, (Wk.selS [2] (by decide) rfl (SelE.leaf (lk 0 rfl rfl) rfl (.refl _) (fun m => ((TyOk.int .i64).lt _ _)) (SelE.leaf (lk 13 rfl rfl) rfl (.refl _) (fun m => (ty_A16_A16_i64.lt _ _)) (SelE.spec (lk 2 rfl rfl) rfl (.refl _) (ren_sl (TyOk.int .i64) _) (lt_sl rfl ((TyOk.int .i64).ltm _ _)) (SelE.leaf (lk 15 rfl rfl) rfl (.refl _) (fun m => ((TyOk.int .i64).lt _ _)) (SelE.leaf (lk 16 rfl rfl) rfl (.refl _) (fun m => ((TyOk.int .i64).lt _ _)) (SelE.leaf (lk 17 rfl rfl) rfl (.refl _) (fun m => (lt_cptr (ty_TRights.lt _ _))) (SelE.leaf (lk 18 rfl rfl) rfl (.refl _) (fun m => ((TyOk.int .i64).lt _ _)) .nil))))))) (.cons rfl rfl trivial .nil))⟩
      · skip
        refine AWp.exit ?_
        refine thenQ_x ?_
        refine thenQ_x ?_
        refine blockQ_x ?_
        refine thenQ_n ?_
        exact ⟨_, h5.ret, (Wk.selS [0] (by decide) rfl (SelE.spec (lk 3 rfl rfl) rfl (.refl _) (ren_sl (TyOk.int .i64) _) (lt_sl rfl ((TyOk.int .i64).ltm _ _)) (SelE.leaf (lk 4 rfl rfl) rfl (.refl _) (fun m => ((TyOk.int .i64).lt _ _)) (SelE.leaf (lk 5 rfl rfl) rfl (.refl _) (fun m => ((TyOk.int .i64).lt _ _)) (SelE.leaf (lk 6 rfl rfl) rfl (.refl _) (fun m => (lt_cptr (ty_TRights.lt _ _))) (SelE.leaf (lk 7 rfl rfl) rfl (.refl _) (fun m => ((TyOk.int .i64).lt _ _)) .nil))))) (.cons rfl rfl trivial .nil))⟩
    · skip
      refine thenQ_n ?_
      refine AWp.seq ?_
      refine W.reg [0, 1, 2, 3, 4, 5, 6, 7, 8] rfl ?_
      refine S.sil 29 rfl rfl (fun _ hF => .move (lk 0 rfl rfl)) ?_
      refine S.sil 30 rfl rfl (fun _ hF => .move (lk 5 rfl rfl)) ?_
      refine S.sil 31 rfl rfl (fun _ hF => .fieldAddrC lay26 rfl rfl (lk 5 rfl rfl) rfl (flL_c (ty_A16_i64.fl a1.Given) flL_nil)) ?_
      obtain ⟨k12, m12, h⟩ := h.bnd
      refine S.sil 32 rfl rfl (fun _ hF => .ixC arr23 (lk 0 rfl rfl) (lk 1 rfl rfl) m12) ?_
      refine S.sil 33 rfl rfl (fun _ hF => .loadC sz3 ag3 (lk 0 rfl rfl) rfl rfl) ?_
      refine S.sil 34 rfl rfl (fun _ hF => .neg (lk 0 rfl rfl)) ?_
      refine S.sil 35 rfl rfl (fun _ hF => .buildSliceW sli116 zv3 rfl rfl (by decide) (.cons (lk 0 rfl rfl) rfl (.refl _) rfl .nil)) ?_
      obtain ⟨l13, m13, h⟩ := h.bnd
      refine S.eff 36 rfl rfl (.nf (v2 := .sl 1 (.tok 1) (List.map (V.int .i64) l13)) (H2 := [.dead, .tail]) (.appT sli116 und116 zv3 rfl (by decide) (lk 6 rfl rfl) rfl (lk 0 rfl rfl) Rd.sl m13 rfl) rfl rfl) trivial ?_
      refine S.sil 6 rfl rfl (fun _ hF => .assign (lk 0 rfl rfl)) ?_
      refine S.nil ?_
      refine thenQ_n ?_
      refine AWp.seq ?_
      refine W.reg [0, 1, 2, 3, 4, 5, 6, 7, 8, 9, 10, 11] rfl ?_
      refine S.sil 37 rfl rfl (fun _ hF => .move (lk 0 rfl rfl)) ?_
      refine S.sil 38 rfl rfl (fun _ hF => .move (lk 14 rfl rfl)) ?_
      refine S.sil 39 rfl rfl (fun _ hF => .fieldAddrC lay26 rfl rfl (lk 14 rfl rfl) rfl (flL_c (ty_A16_i64.fl a1.Given) (flL_c (ty_A16_i64.fl a1.Used) flL_nil))) ?_
      obtain ⟨k14, m14, h⟩ := h.bnd
      refine S.sil 40 rfl rfl (fun _ hF => .ixC arr24 (lk 0 rfl rfl) (lk 1 rfl rfl) m14) ?_
      obtain ⟨v15, ev15, h⟩ := h.nam
      refine S.sil 41 rfl rfl (fun _ hF => .nv (.loadC sz23 ag23 (lk 0 rfl rfl) (ty_A16_i64.fl (a1.Moved.get k14)) rfl) (congrArg E_A16_i64 ev15.symm)) ?_
      obtain ⟨r16, m16, h⟩ := h.bnd
      refine S.sil 42 rfl rfl (fun _ hF => .callQ ent188 cF (.c (lk 0 rfl rfl) (V.sub.refl _) .nil) (C_rights_less m16)) ?_
      obtain ⟨l17, m17, h⟩ := h.bnd
      refine S.eff 43 rfl rfl (.nf (v2 := .sl 1 (.tok 2) (List.map (V.int .i64) l17)) (H2 := [.dead, .dead, .tail]) (.appT sli116 und116 zv3 rfl (by decide) (lk 5 rfl rfl) rfl (lk 0 rfl rfl) Rd.sl m17 rfl) rfl rfl) trivial ?_
      obtain ⟨r18, m18, h⟩ := h.bnd
      refine S.sil 44 rfl rfl (fun _ hF => .callQ ent87 cF (.c (lk 0 rfl rfl) (vsub rfl (.forget _ _ _)) .nil) (C_num_Sum m18)) ?_
      refine S.sil 45 rfl rfl (fun _ hF => .extract (lk 0 rfl rfl) rfl) ?_
      refine S.sil 46 rfl rfl (fun _ hF => .extract (lk 1 rfl rfl) rfl) ?_
      refine S.sil 4 rfl rfl (fun _ hF => .assign (lk 1 rfl rfl)) ?_
      refine S.sil 5 rfl rfl (fun _ hF => .assign (lk 1 rfl rfl)) ?_
      refine S.nil ?_
      refine thenQ_n ?_
      refine AWp.prune (.eq (lk 0 rfl rfl) rfl (.eq (lk 1 rfl rfl) rfl .nil)) ?_
      refine AWp.ret ?_
      obtain rfl := h.ret
      exact endFN rfl (Wk.selS [] .nil rfl (SelE.leaf (lk 1 rfl rfl) rfl (.refl _) (fun m => ((TyOk.int .i64).lt _ _)) (SelE.leaf (lk 0 rfl rfl) rfl (.refl _) (fun m => ((TyOk.int .i64).lt _ _)) .nil)) .nil) (.cons (.tmp (lk 0 rfl rfl) rfl) (.cons (.tmp (lk 1 rfl rfl) rfl) .nil)) rfl rfl rfl
theorem C_counter_Room {a1 : TCounter} {a2 : Int} {r : Int × Int} (h : counter_Room a1 a2 = some r) : PureC Pg 154 [E_TCounter a1, (V.int .i64) a2] (.tup [(V.int .i64) r.1, (V.int .i64) r.2]) := by
  refine PureC.ofF (CallSpec.of_bodyF 26 0 fn154 rfl rfl rfl (Nat.le_of_ble_eq_true rfl) ?_) (ltL_c (ty_TCounter.lt _ _) (ltL_c ((TyOk.int .i64).lt _ _) ltL_nil)) (lt_tup (ltL_c ((TyOk.int .i64).lt _ _) (ltL_c ((TyOk.int .i64).lt _ _) ltL_nil)))
  replace h := Ok.of h
  unfold counter_Room at h
  refine AWp.seq ?_
  refine W.reg [0, 1, 2] rfl ?_
  refine S.eff 2 rfl rfl (.nf (v2 := .ptr 0 [] 0) (H2 := [.cells (E_TCounter a1)]) (.box (lk 0 rfl rfl) rfl) rfl rfl) trivial ?_
  refine S.sil 4 rfl rfl (fun _ hF => .assign cI) ?_
  refine S.sil 5 rfl rfl (fun _ hF => .assign cI) ?_
  refine S.nil ?_
  refine thenQ_n ?_
  refine AWp.wk (Wk.freeze 0 rfl rfl (.same (lk 0 rfl rfl) (.same (lk 1 rfl rfl) (.cons (lk 2 rfl rfl) rfl (.ptr .nil (by first | rfl | omega)) (.same (lk 4 rfl rfl) .nil)))) (.refl _)) ?_
  refine AWp.seq ?_
  refine W.reg [0, 1, 2, 3, 4, 5, 6, 7, 8] rfl ?_
  refine S.sil 11 rfl rfl (fun _ hF => .fieldAddrC lay28 rfl rfl (lk 2 rfl rfl) rfl (flL_c (show flen _ = 1 from rfl) (flL_c (show flen _ = 1 from rfl) (flL_c (show flen _ = 1 from rfl) flL_nil)))) ?_
  refine S.sil 12 rfl rfl (fun _ hF => .loadC sz26 ag26 (lk 0 rfl rfl) (ty_TRights.fl a1.Down) rfl) ?_
  refine S.sil 13 rfl rfl (fun _ hF => .move (lk 5 rfl rfl)) ?_
  obtain ⟨r3, m3, h⟩ := h.bnd
  refine S.sil 14 rfl rfl (fun _ hF => .callQ ent182 cF (.c (lk 1 rfl rfl) (V.sub.refl _) (.c (lk 0 rfl rfl) (V.sub.refl _) .nil)) (C_rights_Free m3)) ?_
  refine S.sil 10 rfl rfl (fun _ hF => .move (lk 0 rfl rfl)) ?_
  refine S.sil 15 rfl rfl (fun _ hF => .extract (lk 0 rfl rfl) rfl) ?_
  refine S.sil 16 rfl rfl (fun _ hF => .extract (lk 1 rfl rfl) rfl) ?_
  refine S.sil 6 rfl rfl (fun _ hF => .assign (lk 1 rfl rfl)) ?_
  refine S.sil 7 rfl rfl (fun _ hF => .assign (lk 1 rfl rfl)) ?_
  refine S.nil ?_
  refine thenQ_n ?_
  refine AWp.seq ?_
  refine W.reg [0, 1, 2, 3, 4, 5, 6, 7, 8] rfl ?_
  refine S.sil 18 rfl rfl (fun _ hF => .fieldAddrC lay28 rfl rfl (lk 11 rfl rfl) rfl (flL_c (show flen _ = 1 from rfl) (flL_c (show flen _ = 1 from rfl) (flL_c (show flen _ = 1 from rfl) (flL_c (ty_TRights.fl a1.Down) flL_nil))))) ?_
  refine S.sil 19 rfl rfl (fun _ hF => .loadC sz26 ag26 (lk 0 rfl rfl) (ty_TRights.fl a1.Up) rfl) ?_
  refine S.sil 20 rfl rfl (fun _ hF => .move (lk 14 rfl rfl)) ?_
  obtain ⟨r4, m4, h⟩ := h.bnd
  refine S.sil 21 rfl rfl (fun _ hF => .callQ ent182 cF (.c (lk 1 rfl rfl) (V.sub.refl _) (.c (lk 0 rfl rfl) (V.sub.refl _) .nil)) (C_rights_Free m4)) ?_
  refine S.sil 17 rfl rfl (fun _ hF => .move (lk 0 rfl rfl)) ?_
  refine S.sil 22 rfl rfl (fun _ hF => .extract (lk 0 rfl rfl) rfl) ?_
  refine S.sil 23 rfl rfl (fun _ hF => .extract (lk 1 rfl rfl) rfl) ?_
  refine S.sil 8 rfl rfl (fun _ hF => .assign (lk 1 rfl rfl)) ?_
  refine S.sil 9 rfl rfl (fun _ hF => .assign (lk 1 rfl rfl)) ?_
  refine S.nil ?_
  refine thenQ_n ?_
  refine AWp.prune (.eq (lk 1 rfl rfl) rfl (.eq (lk 10 rfl rfl) rfl (.eq (lk 18 rfl rfl) rfl (.eq (lk 19 rfl rfl) rfl .nil)))) ?_
  refine AWp.seq ?_
  refine W.reg [0, 1, 2, 3] rfl ?_
  refine S.sil 24 rfl rfl (fun _ hF => .move (lk 1 rfl rfl)) ?_
  refine S.sil 25 rfl rfl (fun _ hF => .move (lk 1 rfl rfl)) ?_
  refine S.sil 4 rfl rfl (fun _ hF => .assign (lk 1 rfl rfl)) ?_
  refine S.sil 5 rfl rfl (fun _ hF => .assign (lk 1 rfl rfl)) ?_
  refine S.nil ?_
  refine thenQ_n ?_
  refine AWp.ret ?_
  obtain rfl := h.ret
  exact endFN rfl (Wk.selS [] .nil rfl (SelE.leaf (lk 1 rfl rfl) rfl (.refl _) (fun m => ((TyOk.int .i64).lt _ _)) (SelE.leaf (lk 0 rfl rfl) rfl (.refl _) (fun m => ((TyOk.int .i64).lt _ _)) .nil)) .nil) (.cons (.tmp (lk 0 rfl rfl) rfl) (.cons (.tmp (lk 1 rfl rfl) rfl) .nil)) rfl rfl rfl
theorem C_hold_Sum {a1 : List THold} {a2 : Int} {r : Int} (h : hold_Sum a1 a2 = some r) : PureC Pg 155 [.sl 5 .no (List.map E_THold a1), (V.int .i64) a2] ((V.int .i64) r) := by
  refine PureC.ofF (CallSpec.of_bodyF 30 0 fn155 rfl rfl rfl (Nat.le_of_ble_eq_true rfl) ?_) (ltL_c (lt_sl rfl (ty_THold.ltm _ _)) (ltL_c ((TyOk.int .i64).lt _ _) ltL_nil)) ((TyOk.int .i64).lt _ _)
  replace h := Ok.of h
  unfold hold_Sum at h
  refine AWp.seq ?_
  refine W.reg [0] rfl ?_
  refine S.sil 4 rfl rfl (fun _ hF => .assign cI) ?_
  refine S.nil ?_
  refine thenQ_n ?_
  refine AWp.seq ?_
  refine W.reg [0] rfl ?_
  refine S.sil 5 rfl rfl (fun _ hF => .assign cI) ?_
  refine S.nil ?_
  refine thenQ_n ?_
  refine AWp.seq ?_
  refine AWp.seq ?_
  refine W.reg [0, 1, 2] rfl ?_
  refine S.sil 8 rfl rfl (fun _ hF => .move (lk 2 rfl rfl)) ?_
  refine S.sil 9 rfl rfl (fun _ hF => .lenT sli31 (lk 0 rfl rfl) (vsub rfl (.refl _))) ?_
  refine S.sil 10 rfl rfl (fun _ hF => .move cI) ?_
  refine S.nil ?_
  refine thenQ_n ?_
  refine AWp.cutX (fun x5 => ⟨[(5, (V.int .i64) x5), (4, (V.int .i64) 0)], []⟩) nc_then h (fun q3 hq3 => ?_) (fun x5 h => ?_)
  · refine AWp.block ?_
    refine AWp.loopT (fun s4 => ⟨[(10, (V.int .i64) s4.1), (9, (V.int .i64) (a1.length : Int)), (8, .sl 5 .no (List.map E_THold a1)), (5, (V.int .i64) s4.2), (4, (V.int .i64) 0), (1, (V.int .i64) a2)], []⟩) hq3 (Wk.selS [] (by decide) rfl (SelE.leaf (lk 0 rfl rfl) rfl (.refl _) (fun m => ((TyOk.int .i64).lt _ _)) (SelE.leaf (lk 1 rfl rfl) rfl (.refl _) (fun m => ((TyOk.int .i64).lt _ _)) (SelE.leaf (lk 2 rfl rfl) rfl (.refl _) (fun m => (lt_sl rfl (ty_THold.ltm _ _))) (SelE.leaf (lk 3 rfl rfl) rfl (.refl _) (fun m => ((TyOk.int .i64).lt _ _)) (SelE.leaf (lk 4 rfl rfl) rfl (.refl _) (fun m => ((TyOk.int .i64).lt _ _)) (SelE.leaf (lk 6 rfl rfl) rfl (.refl _) (fun m => ((TyOk.int .i64).lt _ _)) .nil)))))) .nil) (fun _ s4 h3 => ?_)
    rw [hold_Sum_L1] at h3
    refine AWp.seq ?_
    refine W.reg [0] rfl ?_
    refine S.sil 11 rfl rfl (fun _ hF => .lss (lk 0 rfl rfl) (lk 1 rfl rfl)) ?_
    refine S.nil ?_
    refine thenQ_n ?_
    refine AWp.seq ?_
    refine AWp.condM (lk 0 rfl rfl) h3 (fun c1 h3 => ?_) (fun c1 h3 => ?_)
    · skip
      refine AWp.skip ?_
      refine thenQ_n ?_
      refine AWp.seq ?_
      refine AWp.block ?_
      refine AWp.seq ?_
      refine W.reg [0, 1, 2, 3] rfl ?_
      obtain ⟨j6, m6, h3⟩ := h3.bnd
      refine S.sil 12 rfl rfl (fun _ hF => .ixS sli31 (lk 3 rfl rfl) (lk 1 rfl rfl) m6) ?_
      obtain ⟨v7, ev7, h3⟩ := h3.nam
      refine S.sil 13 rfl rfl (fun _ hF => .nv (.loadC sz66 ag66 (lk 0 rfl rfl) (ty_THold.fl (a1.getD j6 default)) rfl) (congrArg E_THold ev7.symm)) ?_
      refine S.eff 7 rfl rfl (.nf (v2 := .ptr 0 [] 0) (H2 := [.cells (E_THold (default : THold))]) (.alloc zv66) rfl rfl) trivial ?_
      refine S.effN rfl rfl (.nf (H2 := [.cells (E_THold v7)]) (.storeP sz66 (lk 0 rfl rfl) (lk 1 rfl rfl) rfl (.refl _) rfl .nil (by first | rfl | omega) .nil (ty_THold.fl v7) (ty_THold.fl (default : THold)) rfl) rfl rfl) trivial ?_
      refine S.nil ?_
      refine thenQ_n ?_
      refine AWp.wk (Wk.freeze 0 rfl rfl (.cons (lk 0 rfl rfl) rfl (.ptr .nil (by first | rfl | omega)) (.same (lk 1 rfl rfl) (.same (lk 2 rfl rfl) (.same (lk 3 rfl rfl) (.same (lk 4 rfl rfl) (.same (lk 5 rfl rfl) (.same (lk 6 rfl rfl) (.same (lk 7 rfl rfl) (.same (lk 8 rfl rfl) (.same (lk 9 rfl rfl) .nil)))))))))) (.refl _)) ?_
      refine AWp.seq ?_
      refine W.reg [0, 1, 2, 3, 4, 5, 6, 7, 8] rfl ?_
      refine S.sil 14 rfl rfl (fun _ hF => .fieldAddrC lay66 rfl rfl (lk 0 rfl rfl) rfl flL_nil) ?_
      refine S.sil 15 rfl rfl (fun _ hF => .loadC sz3 ag3 (lk 0 rfl rfl) rfl rfl) ?_
      refine S.sil 16 rfl rfl (fun _ hF => .move (lk 11 rfl rfl)) ?_
      refine S.sil 17 rfl rfl (fun _ hF => .eql (lk 1 rfl rfl) (lk 0 rfl rfl)) ?_
      refine S.sil 18 rfl rfl (fun _ hF => .move (lk 0 rfl rfl)) ?_
      refine S.gsil 19 4 18 true rfl rfl rfl (lk 0 rfl rfl) (fun hB _ hF => .fieldAddrC lay66 rfl rfl (lk 5 rfl rfl) rfl (flL_c (show flen _ = 1 from rfl) (flL_c (show flen _ = 1 from rfl) (flL_c (show flen _ = 1 from rfl) (flL_c (show flen _ = 1 from rfl) flL_nil))))) ?_
      refine S.gsil 20 4 18 true rfl rfl rfl (lk 1 rfl rfl) (fun hB _ hF => .loadC sz3 ag3 (ifT hB (lk 0 rfl rfl)) rfl rfl) ?_
      refine S.gsil 21 4 18 true rfl rfl rfl (lk 2 rfl rfl) (fun hB _ hF => .eql (ifT hB (lk 0 rfl rfl)) cI) ?_
      refine S.sil 22 rfl rfl (fun _ hF => .pickAnd (lk 3 rfl rfl) (fun h => ifT h (lk 0 rfl rfl)) cB) ?_
      refine S.nil ?_
      refine thenQ_n ?_
      refine AWp.condM (lk 0 rfl rfl) h3 (fun c2 h3 => ?_) (fun c2 h3 => ?_)
      · skip
        refine W.reg [0, 1, 2, 3, 4, 5] rfl ?_
        refine S.sil 23 rfl rfl (fun _ hF => .move (lk 16 rfl rfl)) ?_
        refine S.sil 24 rfl rfl (fun _ hF => .fieldAddrC lay66 rfl rfl (lk 10 rfl rfl) rfl (flL_c (show flen _ = 1 from rfl) (flL_c (show flen _ = 1 from rfl) flL_nil))) ?_
        refine S.sil 25 rfl rfl (fun _ hF => .loadC sz3 ag3 (lk 0 rfl rfl) rfl rfl) ?_
        refine S.sil 26 rfl rfl (fun _ hF => .add (lk 2 rfl rfl) (lk 0 rfl rfl)) ?_
        refine S.sil 27 rfl rfl (fun _ hF => .bmin (lk 0 rfl rfl) cI) ?_
        obtain ⟨v8, ev8, h3⟩ := h3.nam
        refine S.sil 5 rfl rfl (fun _ hF => .nv (.assign (lk 0 rfl rfl)) (congrArg (V.int .i64) ev8.symm)) ?_
        refine S.nil ?_
        refine blockQ_n ?_
        refine thenQ_n ?_
        refine W.reg [0, 1] rfl ?_
        refine S.sil 28 rfl rfl (fun _ hF => .add (lk 19 rfl rfl) cI) ?_
        refine S.sil 10 rfl rfl (fun _ hF => .move (lk 0 rfl rfl)) ?_
        refine S.nil ?_
        refine thenQ_n ?_
        exact ⟨_, h3.ret, (Wk.selS [] (by decide) rfl (SelE.leaf (lk 0 rfl rfl) rfl (.refl _) (fun m => ((TyOk.int .i64).lt _ _)) (SelE.leaf (lk 22 rfl rfl) rfl (.refl _) (fun m => ((TyOk.int .i64).lt _ _)) (SelE.leaf (lk 23 rfl rfl) rfl (.refl _) (fun m => (lt_sl rfl (ty_THold.ltm _ _))) (SelE.leaf (lk 2 rfl rfl) rfl (.refl _) (fun m => ((TyOk.int .i64).lt _ _)) (SelE.leaf (lk 25 rfl rfl) rfl (.refl _) (fun m => ((TyOk.int .i64).lt _ _)) (SelE.leaf (lk 26 rfl rfl) rfl (.refl _) (fun m => ((TyOk.int .i64).lt _ _)) .nil)))))) .nil)⟩
      · skip
        refine AWp.skip ?_
        refine blockQ_n ?_
        refine thenQ_n ?_
        refine W.reg [0, 1] rfl ?_
        refine S.sil 28 rfl rfl (fun _ hF => .add (lk 13 rfl rfl) cI) ?_
        refine S.sil 10 rfl rfl (fun _ hF => .move (lk 0 rfl rfl)) ?_
        refine S.nil ?_
        refine thenQ_n ?_
        exact ⟨_, h3.ret, (Wk.selS [] (by decide) rfl (SelE.leaf (lk 0 rfl rfl) rfl (.refl _) (fun m => ((TyOk.int .i64).lt _ _)) (SelE.leaf (lk 16 rfl rfl) rfl (.refl _) (fun m => ((TyOk.int .i64).lt _ _)) (SelE.leaf (lk 17 rfl rfl) rfl (.refl _) (fun m => (lt_sl rfl (ty_THold.ltm _ _))) (SelE.leaf (lk 18 rfl rfl) rfl (.refl _) (fun m => ((TyOk.int .i64).lt _ _)) (SelE.leaf (lk 19 rfl rfl) rfl (.refl _) (fun m => ((TyOk.int .i64).lt _ _)) (SelE.leaf (lk 20 rfl rfl) rfl (.refl _) (fun m => ((TyOk.int .i64).lt _ _)) .nil)))))) .nil)⟩
    · skip
      refine AWp.exit ?_
      refine thenQ_x ?_
      refine thenQ_x ?_
      refine blockQ_x ?_
      refine thenQ_n ?_
      exact ⟨_, h3.ret, (Wk.selS [] (by decide) rfl (SelE.leaf (lk 4 rfl rfl) rfl (.refl _) (fun m => ((TyOk.int .i64).lt _ _)) (SelE.leaf (lk 5 rfl rfl) rfl (.refl _) (fun m => ((TyOk.int .i64).lt _ _)) .nil)) .nil)⟩
  · skip
    refine thenQ_n ?_
    refine AWp.seq ?_
    refine W.reg [0, 1] rfl ?_
    refine S.sil 29 rfl rfl (fun _ hF => .move (lk 0 rfl rfl)) ?_
    refine S.sil 4 rfl rfl (fun _ hF => .assign (lk 0 rfl rfl)) ?_
    refine S.nil ?_
    refine thenQ_n ?_
    refine AWp.ret ?_
    obtain rfl := h.ret
    exact endF1 rfl (Wk.selS [] .nil rfl (SelE.leaf (lk 0 rfl rfl) rfl (.refl _) (fun m => ((TyOk.int .i64).lt _ _)) .nil) .nil) (.tmp (lk 0 rfl rfl) rfl) rfl rfl
theorem C_field_Loose {a1 : TField} {a2 : Int} {r : Int × Int} (h : field_Loose a1 a2 = some r) : PureC Pg 119 [E_TField a1, (V.int .i64) a2] (.tup [(V.int .i64) r.1, (V.int .i64) r.2]) := by
  refine PureC.ofF (CallSpec.of_bodyF 25 0 fn119 rfl rfl rfl (Nat.le_of_ble_eq_true rfl) ?_) (ltL_c (ty_TField.lt _ _) (ltL_c ((TyOk.int .i64).lt _ _) ltL_nil)) (lt_tup (ltL_c ((TyOk.int .i64).lt _ _) (ltL_c ((TyOk.int .i64).lt _ _) ltL_nil)))
  replace h := Ok.of h
  unfold field_Loose at h
  refine AWp.seq ?_
  refine W.reg [0, 1, 2] rfl ?_
  refine S.eff 2 rfl rfl (.nf (v2 := .ptr 0 [] 0) (H2 := [.cells (E_TField a1)]) (.box (lk 0 rfl rfl) rfl) rfl rfl) trivial ?_
  refine S.sil 4 rfl rfl (fun _ hF => .assign cI) ?_
  refine S.sil 5 rfl rfl (fun _ hF => .assign cI) ?_
  refine S.nil ?_
  refine thenQ_n ?_
  refine AWp.wk (Wk.freeze 0 rfl rfl (.same (lk 0 rfl rfl) (.same (lk 1 rfl rfl) (.cons (lk 2 rfl rfl) rfl (.ptr .nil (by first | rfl | omega)) (.same (lk 4 rfl rfl) .nil)))) (.refl _)) ?_
  refine AWp.seq ?_
  refine AWp.seq ?_
  refine W.reg [0, 1, 2] rfl ?_
  refine S.sil 8 rfl rfl (fun _ hF => .fieldAddrC lay33 rfl rfl (lk 2 rfl rfl) rfl (flL_c (show flen _ = 1 from rfl) flL_nil)) ?_
  refine S.sil 9 rfl rfl (fun _ hF => .loadC sz3 ag3 (lk 0 rfl rfl) rfl rfl) ?_
  refine S.sil 10 rfl rfl (fun _ hF => .neq (lk 0 rfl rfl) cI) ?_
  refine S.nil ?_
  refine thenQ_n ?_
  refine AWp.condM (lk 0 rfl rfl) h (fun c1 h => ?_) (fun c1 h => ?_)
  · skip
    refine AWp.seq ?_
    refine W.reg [0, 1] rfl ?_
    refine S.sil 4 rfl rfl (fun _ hF => .assign cI) ?_
    refine S.sil 5 rfl rfl (fun _ hF => .assign cI) ?_
    refine S.nil ?_
    refine thenQ_n ?_
    refine AWp.ret ?_
    refine thenQ_r ?_
    obtain rfl := h.ret
    exact endFN rfl (Wk.selS [] .nil rfl (SelE.leaf (lk 1 rfl rfl) rfl (.refl _) (fun m => ((TyOk.int .i64).lt _ _)) (SelE.leaf (lk 0 rfl rfl) rfl (.refl _) (fun m => ((TyOk.int .i64).lt _ _)) .nil)) .nil) (.cons (.tmp (lk 0 rfl rfl) rfl) (.cons (.tmp (lk 1 rfl rfl) rfl) .nil)) rfl rfl rfl
  · skip
    refine AWp.skip ?_
    refine thenQ_n ?_
    refine AWp.seq ?_
    refine W.reg [0, 1, 2, 3, 4, 5, 6, 7, 8] rfl ?_
    refine S.sil 12 rfl rfl (fun _ hF => .fieldAddrC lay33 rfl rfl (lk 5 rfl rfl) rfl (flL_c (show flen _ = 1 from rfl) (flL_c (show flen _ = 1 from rfl) (flL_c (show flen _ = 1 from rfl) flL_nil)))) ?_
    refine S.sil 13 rfl rfl (fun _ hF => .loadC sz28 ag28 (lk 0 rfl rfl) (ty_TCounter.fl a1.Counter) rfl) ?_
    refine S.sil 14 rfl rfl (fun _ hF => .move (lk 8 rfl rfl)) ?_
    obtain ⟨r3, m3, h⟩ := h.bnd
    refine S.sil 15 rfl rfl (fun _ hF => .callQ ent154 cF (.c (lk 1 rfl rfl) (V.sub.refl _) (.c (lk 0 rfl rfl) (V.sub.refl _) .nil)) (C_counter_Room m3)) ?_
    refine S.sil 11 rfl rfl (fun _ hF => .move (lk 0 rfl rfl)) ?_
    refine S.sil 16 rfl rfl (fun _ hF => .extract (lk 0 rfl rfl) rfl) ?_
    refine S.sil 17 rfl rfl (fun _ hF => .extract (lk 1 rfl rfl) rfl) ?_
    refine S.sil 6 rfl rfl (fun _ hF => .assign (lk 1 rfl rfl)) ?_
    refine S.sil 7 rfl rfl (fun _ hF => .assign (lk 1 rfl rfl)) ?_
    refine S.nil ?_
    refine thenQ_n ?_
    refine AWp.prune (.eq (lk 0 rfl rfl) rfl (.eq (lk 1 rfl rfl) rfl (.eq (lk 12 rfl rfl) rfl (.eq (lk 13 rfl rfl) rfl (.eq (lk 14 rfl rfl) rfl (.eq (lk 15 rfl rfl) rfl .nil)))))) ?_
    refine AWp.seq ?_
    refine W.reg [0, 1, 2, 3, 4, 5, 6, 7, 8] rfl ?_
    refine S.sil 18 rfl rfl (fun _ hF => .move (lk 1 rfl rfl)) ?_
    refine S.sil 19 rfl rfl (fun _ hF => .fieldAddrC lay33 rfl rfl (lk 5 rfl rfl) rfl (flL_c (show flen _ = 1 from rfl) (flL_c (show flen _ = 1 from rfl) (flL_c (show flen _ = 1 from rfl) (flL_c (ty_TCounter.fl a1.Counter) (flL_c (ty_TLock.fl a1.Lock) flL_nil)))))) ?_
    refine S.sil 20 rfl rfl (fun _ hF => .loadC sz31 ag31 (lk 0 rfl rfl) rfl rfl) ?_
    refine S.sil 21 rfl rfl (fun _ hF => .move (lk 8 rfl rfl)) ?_
    obtain ⟨r4, m4, h⟩ := h.bnd
    refine S.sil 22 rfl rfl (fun _ hF => .callQ ent155 cF (.c (lk 1 rfl rfl) (V.sub.refl _) (.c (lk 0 rfl rfl) (V.sub.refl _) .nil)) (C_hold_Sum m4)) ?_
    refine S.sil 23 rfl rfl (fun _ hF => .sub (lk 4 rfl rfl) (lk 0 rfl rfl)) ?_
    refine S.sil 24 rfl rfl (fun _ hF => .move (lk 6 rfl rfl)) ?_
    refine S.sil 4 rfl rfl (fun _ hF => .assign (lk 1 rfl rfl)) ?_
    refine S.sil 5 rfl rfl (fun _ hF => .assign (lk 1 rfl rfl)) ?_
    refine S.nil ?_
    refine thenQ_n ?_
    refine AWp.prune (.eq (lk 0 rfl rfl) rfl (.eq (lk 1 rfl rfl) rfl .nil)) ?_
    refine AWp.ret ?_
    obtain rfl := h.ret
    exact endFN rfl (Wk.selS [] .nil rfl (SelE.leaf (lk 1 rfl rfl) rfl (.refl _) (fun m => ((TyOk.int .i64).lt _ _)) (SelE.leaf (lk 0 rfl rfl) rfl (.refl _) (fun m => ((TyOk.int .i64).lt _ _)) .nil)) .nil) (.cons (.tmp (lk 0 rfl rfl) rfl) (.cons (.tmp (lk 1 rfl rfl) rfl) .nil)) rfl rfl rfl
end Go.Av
