/- Each function tells what its mirror tells. -/
import Derived.Test.YtakadpmjdhcckaaAvPlanBoundsM1
import Derived.Test.YtakadpmjdhcckaaProg
import Derived.KernelRfl
namespace Go.Av
set_option linter.unusedSectionVars false
open Go.Proofs
set_option linter.unusedVariables false
set_option linter.unusedSimpArgs false
set_option maxHeartbeats 4000000
set_option maxRecDepth 10000
@[irreducible] noncomputable def Pg : Program := Try.prog
theorem Pg_eq : Pg = Try.prog := by unfold Pg; rfl
theorem mixed : Pg.follows .mixedOrders = true := by kernel_rfl
theorem fn7 : Pg.funcs[7]? = some Try.f7 := by rw [Pg_eq]; exact Try.func7
theorem fn11 : Pg.funcs[11]? = some Try.f11 := by rw [Pg_eq]; exact Try.func11
theorem fn20 : Pg.funcs[20]? = some Try.f20 := by rw [Pg_eq]; exact Try.func20
theorem fn21 : Pg.funcs[21]? = some Try.f21 := by rw [Pg_eq]; exact Try.func21
theorem fn22 : Pg.funcs[22]? = some Try.f22 := by rw [Pg_eq]; exact Try.func22
theorem fn23 : Pg.funcs[23]? = some Try.f23 := by rw [Pg_eq]; exact Try.func23
theorem fn24 : Pg.funcs[24]? = some Try.f24 := by rw [Pg_eq]; exact Try.func24
theorem fn25 : Pg.funcs[25]? = some Try.f25 := by rw [Pg_eq]; exact Try.func25
theorem fn34 : Pg.funcs[34]? = some Try.f34 := by rw [Pg_eq]; exact Try.func34
theorem fn36 : Pg.funcs[36]? = some Try.f36 := by rw [Pg_eq]; exact Try.func36
theorem fn38 : Pg.funcs[38]? = some Try.f38 := by rw [Pg_eq]; exact Try.func38
theorem fn40 : Pg.funcs[40]? = some Try.f40 := by rw [Pg_eq]; exact Try.func40
theorem fn46 : Pg.funcs[46]? = some Try.f46 := by rw [Pg_eq]; exact Try.func46
theorem fn47 : Pg.funcs[47]? = some Try.f47 := by rw [Pg_eq]; exact Try.func47
theorem fn48 : Pg.funcs[48]? = some Try.f48 := by rw [Pg_eq]; exact Try.func48
theorem fn49 : Pg.funcs[49]? = some Try.f49 := by rw [Pg_eq]; exact Try.func49
theorem fn50 : Pg.funcs[50]? = some Try.f50 := by rw [Pg_eq]; exact Try.func50
theorem fn52 : Pg.funcs[52]? = some Try.f52 := by rw [Pg_eq]; exact Try.func52
theorem fn53 : Pg.funcs[53]? = some Try.f53 := by rw [Pg_eq]; exact Try.func53
theorem fn61 : Pg.funcs[61]? = some Try.f61 := by rw [Pg_eq]; exact Try.func61
theorem fn64 : Pg.funcs[64]? = some Try.f64 := by rw [Pg_eq]; exact Try.func64
theorem fn71 : Pg.funcs[71]? = some Try.f71 := by rw [Pg_eq]; exact Try.func71
theorem fn72 : Pg.funcs[72]? = some Try.f72 := by rw [Pg_eq]; exact Try.func72
theorem fn73 : Pg.funcs[73]? = some Try.f73 := by rw [Pg_eq]; exact Try.func73
theorem fn75 : Pg.funcs[75]? = some Try.f75 := by rw [Pg_eq]; exact Try.func75
theorem fn76 : Pg.funcs[76]? = some Try.f76 := by rw [Pg_eq]; exact Try.func76
theorem fn77 : Pg.funcs[77]? = some Try.f77 := by rw [Pg_eq]; exact Try.func77
theorem fn80 : Pg.funcs[80]? = some Try.f80 := by rw [Pg_eq]; exact Try.func80
theorem fn87 : Pg.funcs[87]? = some Try.f87 := by rw [Pg_eq]; exact Try.func87
theorem fn88 : Pg.funcs[88]? = some Try.f88 := by rw [Pg_eq]; exact Try.func88
theorem fn89 : Pg.funcs[89]? = some Try.f89 := by rw [Pg_eq]; exact Try.func89
theorem fn90 : Pg.funcs[90]? = some Try.f90 := by rw [Pg_eq]; exact Try.func90
theorem fn91 : Pg.funcs[91]? = some Try.f91 := by rw [Pg_eq]; exact Try.func91
theorem fn92 : Pg.funcs[92]? = some Try.f92 := by rw [Pg_eq]; exact Try.func92
theorem fn93 : Pg.funcs[93]? = some Try.f93 := by rw [Pg_eq]; exact Try.func93
theorem fn94 : Pg.funcs[94]? = some Try.f94 := by rw [Pg_eq]; exact Try.func94
theorem fn95 : Pg.funcs[95]? = some Try.f95 := by rw [Pg_eq]; exact Try.func95
theorem fn96 : Pg.funcs[96]? = some Try.f96 := by rw [Pg_eq]; exact Try.func96
theorem fn97 : Pg.funcs[97]? = some Try.f97 := by rw [Pg_eq]; exact Try.func97
theorem fn98 : Pg.funcs[98]? = some Try.f98 := by rw [Pg_eq]; exact Try.func98
theorem fn99 : Pg.funcs[99]? = some Try.f99 := by rw [Pg_eq]; exact Try.func99
theorem fn100 : Pg.funcs[100]? = some Try.f100 := by rw [Pg_eq]; exact Try.func100
theorem fn103 : Pg.funcs[103]? = some Try.f103 := by rw [Pg_eq]; exact Try.func103
theorem fn108 : Pg.funcs[108]? = some Try.f108 := by rw [Pg_eq]; exact Try.func108
theorem fn111 : Pg.funcs[111]? = some Try.f111 := by rw [Pg_eq]; exact Try.func111
theorem fn123 : Pg.funcs[123]? = some Try.f123 := by rw [Pg_eq]; exact Try.func123
theorem fn124 : Pg.funcs[124]? = some Try.f124 := by rw [Pg_eq]; exact Try.func124
theorem fn125 : Pg.funcs[125]? = some Try.f125 := by rw [Pg_eq]; exact Try.func125
theorem fn126 : Pg.funcs[126]? = some Try.f126 := by rw [Pg_eq]; exact Try.func126
theorem fn127 : Pg.funcs[127]? = some Try.f127 := by rw [Pg_eq]; exact Try.func127
theorem fn128 : Pg.funcs[128]? = some Try.f128 := by rw [Pg_eq]; exact Try.func128
theorem fn129 : Pg.funcs[129]? = some Try.f129 := by rw [Pg_eq]; exact Try.func129
theorem fn132 : Pg.funcs[132]? = some Try.f132 := by rw [Pg_eq]; exact Try.func132
theorem fn133 : Pg.funcs[133]? = some Try.f133 := by rw [Pg_eq]; exact Try.func133
theorem fn134 : Pg.funcs[134]? = some Try.f134 := by rw [Pg_eq]; exact Try.func134
theorem fn135 : Pg.funcs[135]? = some Try.f135 := by rw [Pg_eq]; exact Try.func135
theorem fn136 : Pg.funcs[136]? = some Try.f136 := by rw [Pg_eq]; exact Try.func136
theorem fn156 : Pg.funcs[156]? = some Try.f156 := by rw [Pg_eq]; exact Try.func156
theorem fn157 : Pg.funcs[157]? = some Try.f157 := by rw [Pg_eq]; exact Try.func157
theorem fn158 : Pg.funcs[158]? = some Try.f158 := by rw [Pg_eq]; exact Try.func158
theorem fn159 : Pg.funcs[159]? = some Try.f159 := by rw [Pg_eq]; exact Try.func159
theorem fn160 : Pg.funcs[160]? = some Try.f160 := by rw [Pg_eq]; exact Try.func160
theorem fn161 : Pg.funcs[161]? = some Try.f161 := by rw [Pg_eq]; exact Try.func161
theorem fn162 : Pg.funcs[162]? = some Try.f162 := by rw [Pg_eq]; exact Try.func162
theorem fn163 : Pg.funcs[163]? = some Try.f163 := by rw [Pg_eq]; exact Try.func163
theorem fn164 : Pg.funcs[164]? = some Try.f164 := by rw [Pg_eq]; exact Try.func164
theorem fn165 : Pg.funcs[165]? = some Try.f165 := by rw [Pg_eq]; exact Try.func165
theorem fn166 : Pg.funcs[166]? = some Try.f166 := by rw [Pg_eq]; exact Try.func166
theorem fn167 : Pg.funcs[167]? = some Try.f167 := by rw [Pg_eq]; exact Try.func167
theorem sz3 : szOf Pg 3 = some 1 := by kernel_rfl
theorem ag3 : aggOf Pg 3 = some false := by kernel_rfl
theorem und3 : Pg.underlying 3 = some (.int .i64) := by kernel_rfl
theorem zv3 : ZeroV Pg 3 (.int .i64 0) := ⟨((Pg.info? 3).bind (·.zero)).getD .nilFunc, (by kernel_rfl), (by kernel_rfl), (by kernel_rfl)⟩
theorem sz9 : szOf Pg 9 = some 1 := by kernel_rfl
theorem ag9 : aggOf Pg 9 = some false := by kernel_rfl
theorem und9 : Pg.underlying 9 = some .string := by kernel_rfl
theorem zv9 : ZeroV Pg 9 (.str ⟨#[]⟩) := ⟨((Pg.info? 9).bind (·.zero)).getD .nilFunc, (by kernel_rfl), (by kernel_rfl), (by kernel_rfl)⟩
theorem sz23 : szOf Pg 23 = some 16 := by kernel_rfl
theorem ag23 : aggOf Pg 23 = some true := by kernel_rfl
theorem arr23 : arrOf Pg 23 = some (16, 1, false) := by kernel_rfl
theorem zv23 : ZeroV Pg 23 (.arr 1 (List.replicate 16 (.int .i64 0))) := ⟨((Pg.info? 23).bind (·.zero)).getD .nilFunc, (by kernel_rfl), (by kernel_rfl), (by kernel_rfl)⟩
theorem sz24 : szOf Pg 24 = some 256 := by kernel_rfl
theorem ag24 : aggOf Pg 24 = some true := by kernel_rfl
theorem arr24 : arrOf Pg 24 = some (16, 16, true) := by kernel_rfl
theorem sz26 : szOf Pg 26 = some 288 := by kernel_rfl
theorem ag26 : aggOf Pg 26 = some true := by kernel_rfl
theorem lay26 : layOf Pg 26 = some [(0, 16, true), (16, 16, true), (32, 256, true)] := by kernel_rfl
theorem sz28 : szOf Pg 28 = some 579 := by kernel_rfl
theorem ag28 : aggOf Pg 28 = some true := by kernel_rfl
theorem lay28 : layOf Pg 28 = some [(0, 1, false), (1, 1, false), (2, 1, false), (3, 288, true), (291, 288, true)] := by kernel_rfl
theorem zv28 : ZeroV Pg 28 (.st [.int .i64 0, .int .i64 0, .int .i64 0, .st [.arr 1 (List.replicate 16 (.int .i64 0)), .arr 1 (List.replicate 16 (.int .i64 0)), .arr 16 (List.replicate 16 (.arr 1 (List.replicate 16 (.int .i64 0))))], .st [.arr 1 (List.replicate 16 (.int .i64 0)), .arr 1 (List.replicate 16 (.int .i64 0)), .arr 16 (List.replicate 16 (.arr 1 (List.replicate 16 (.int .i64 0))))]]) := ⟨((Pg.info? 28).bind (·.zero)).getD .nilFunc, (by kernel_rfl), (by kernel_rfl), (by kernel_rfl)⟩
theorem sz30 : szOf Pg 30 = some 4 := by kernel_rfl
theorem ag30 : aggOf Pg 30 = some true := by kernel_rfl
theorem lay30 : layOf Pg 30 = some [(0, 1, false), (1, 1, false), (2, 1, false), (3, 1, false)] := by kernel_rfl
theorem zv30 : ZeroV Pg 30 (.st [.int .i64 0, .int .i64 0, .int .i64 0, .int .i64 0]) := ⟨((Pg.info? 30).bind (·.zero)).getD .nilFunc, (by kernel_rfl), (by kernel_rfl), (by kernel_rfl)⟩
theorem sz31 : szOf Pg 31 = some 1 := by kernel_rfl
theorem ag31 : aggOf Pg 31 = some false := by kernel_rfl
theorem sli31 : sliOf Pg 31 = some (66, 5, true, 40) := by kernel_rfl
theorem und31 : Pg.underlying 31 = some (.slice 66) := by kernel_rfl
theorem sz33 : szOf Pg 33 = some 587 := by kernel_rfl
theorem ag33 : aggOf Pg 33 = some true := by kernel_rfl
theorem lay33 : layOf Pg 33 = some [(0, 1, false), (1, 1, false), (2, 1, false), (3, 579, true), (582, 4, true), (586, 1, false)] := by kernel_rfl
theorem zv33 : ZeroV Pg 33 (.st [.str ⟨#[]⟩, .int .i64 0, .int .i64 0, .st [.int .i64 0, .int .i64 0, .int .i64 0, .st [.arr 1 (List.replicate 16 (.int .i64 0)), .arr 1 (List.replicate 16 (.int .i64 0)), .arr 16 (List.replicate 16 (.arr 1 (List.replicate 16 (.int .i64 0))))], .st [.arr 1 (List.replicate 16 (.int .i64 0)), .arr 1 (List.replicate 16 (.int .i64 0)), .arr 16 (List.replicate 16 (.arr 1 (List.replicate 16 (.int .i64 0))))]], .st [.int .i64 0, .int .i64 0, .int .i64 0, .int .i64 0], .nils]) := ⟨((Pg.info? 33).bind (·.zero)).getD .nilFunc, (by kernel_rfl), (by kernel_rfl), (by kernel_rfl)⟩
theorem sz38 : szOf Pg 38 = some 1 := by kernel_rfl
theorem ag38 : aggOf Pg 38 = some false := by kernel_rfl
theorem und38 : Pg.underlying 38 = some (.int .i64) := by kernel_rfl
theorem zv38 : ZeroV Pg 38 (.int .i64 0) := ⟨((Pg.info? 38).bind (·.zero)).getD .nilFunc, (by kernel_rfl), (by kernel_rfl), (by kernel_rfl)⟩
theorem sli49 : sliOf Pg 49 = some (33, 587, true, 4720) := by kernel_rfl
theorem und49 : Pg.underlying 49 = some (.slice 33) := by kernel_rfl
theorem sz51 : szOf Pg 51 = some 5 := by kernel_rfl
theorem ag51 : aggOf Pg 51 = some true := by kernel_rfl
theorem lay51 : layOf Pg 51 = some [(0, 1, false), (1, 1, false), (2, 1, false), (3, 1, false), (4, 1, false)] := by kernel_rfl
theorem zv51 : ZeroV Pg 51 (.st [.int .i64 0, .str ⟨#[]⟩, .str ⟨#[]⟩, .int .i64 0, .int .i64 0]) := ⟨((Pg.info? 51).bind (·.zero)).getD .nilFunc, (by kernel_rfl), (by kernel_rfl), (by kernel_rfl)⟩
theorem sz66 : szOf Pg 66 = some 5 := by kernel_rfl
theorem ag66 : aggOf Pg 66 = some true := by kernel_rfl
theorem lay66 : layOf Pg 66 = some [(0, 1, false), (1, 1, false), (2, 1, false), (3, 1, false), (4, 1, false)] := by kernel_rfl
theorem zv66 : ZeroV Pg 66 (.st [.int .i64 0, .int .i64 0, .int .i64 0, .int .i64 0, .int .i64 0]) := ⟨((Pg.info? 66).bind (·.zero)).getD .nilFunc, (by kernel_rfl), (by kernel_rfl), (by kernel_rfl)⟩
theorem sz112 : szOf Pg 112 = some 1 := by kernel_rfl
theorem ag112 : aggOf Pg 112 = some false := by kernel_rfl
theorem zv112 : ZeroV Pg 112 (.nilfn) := ⟨((Pg.info? 112).bind (·.zero)).getD .nilFunc, (by kernel_rfl), (by kernel_rfl), (by kernel_rfl)⟩
theorem sz116 : szOf Pg 116 = some 1 := by kernel_rfl
theorem ag116 : aggOf Pg 116 = some false := by kernel_rfl
theorem sli116 : sliOf Pg 116 = some (3, 1, false, 8) := by kernel_rfl
theorem und116 : Pg.underlying 116 = some (.slice 3) := by kernel_rfl
theorem sz119 : szOf Pg 119 = some 1 := by kernel_rfl
theorem ag119 : aggOf Pg 119 = some false := by kernel_rfl
theorem zv119 : ZeroV Pg 119 (.nilfn) := ⟨((Pg.info? 119).bind (·.zero)).getD .nilFunc, (by kernel_rfl), (by kernel_rfl), (by kernel_rfl)⟩
theorem sli120 : sliOf Pg 120 = some (9, 1, false, 16) := by kernel_rfl
theorem sz135 : szOf Pg 135 = some 2 := by kernel_rfl
theorem arr135 : arrOf Pg 135 = some (2, 1, false) := by kernel_rfl
theorem zv135 : ZeroV Pg 135 (.arr 1 (List.replicate 2 (.int .i64 0))) := ⟨((Pg.info? 135).bind (·.zero)).getD .nilFunc, (by kernel_rfl), (by kernel_rfl), (by kernel_rfl)⟩
theorem und153 : Pg.underlying 153 = some (.map 3 119) := by kernel_rfl
theorem arr171 : arrOf Pg 171 = some (2, 2, true) := by kernel_rfl
theorem zv171 : ZeroV Pg 171 (.arr 2 (List.replicate 2 (.arr 1 (List.replicate 2 (.int .i64 0))))) := ⟨((Pg.info? 171).bind (·.zero)).getD .nilFunc, (by kernel_rfl), (by kernel_rfl), (by kernel_rfl)⟩
theorem eqt28 : EqT Pg 28 (.st [(0, .int .i64), (1, .int .i64), (2, .int .i64), (3, .st [(0, .arr 16 1 (.int .i64)), (16, .arr 16 1 (.int .i64)), (32, .arr 16 16 (.arr 16 1 (.int .i64)))] 288), (291, .st [(0, .arr 16 1 (.int .i64)), (16, .arr 16 1 (.int .i64)), (32, .arr 16 16 (.arr 16 1 (.int .i64)))] 288)] 579) := ⟨by kernel_rfl, by kernel_rfl⟩
theorem eqt30 : EqT Pg 30 (.st [(0, .int .i64), (1, .int .i64), (2, .int .i64), (3, .int .i64)] 4) := ⟨by kernel_rfl, by kernel_rfl⟩
theorem ent11 : enters Pg 11 = true := by kernel_rfl
theorem ent20 : enters Pg 20 = true := by kernel_rfl
theorem ent21 : enters Pg 21 = true := by kernel_rfl
theorem ent22 : enters Pg 22 = true := by kernel_rfl
theorem ent23 : enters Pg 23 = true := by kernel_rfl
theorem ent24 : enters Pg 24 = true := by kernel_rfl
theorem ent25 : enters Pg 25 = true := by kernel_rfl
theorem ent34 : enters Pg 34 = true := by kernel_rfl
theorem ent36 : enters Pg 36 = true := by kernel_rfl
theorem ent38 : enters Pg 38 = true := by kernel_rfl
theorem ent40 : enters Pg 40 = true := by kernel_rfl
theorem ent46 : enters Pg 46 = true := by kernel_rfl
theorem ent47 : enters Pg 47 = true := by kernel_rfl
theorem ent48 : enters Pg 48 = true := by kernel_rfl
theorem ent49 : enters Pg 49 = true := by kernel_rfl
theorem ent50 : enters Pg 50 = true := by kernel_rfl
theorem ent51 : enters Pg 51 = true := by kernel_rfl
theorem ent52 : enters Pg 52 = true := by kernel_rfl
theorem ent53 : enters Pg 53 = true := by kernel_rfl
theorem ent61 : enters Pg 61 = true := by kernel_rfl
theorem ent64 : enters Pg 64 = true := by kernel_rfl
theorem ent71 : enters Pg 71 = true := by kernel_rfl
theorem ent72 : enters Pg 72 = true := by kernel_rfl
theorem ent73 : enters Pg 73 = true := by kernel_rfl
theorem ent75 : enters Pg 75 = true := by kernel_rfl
theorem ent76 : enters Pg 76 = true := by kernel_rfl
theorem ent77 : enters Pg 77 = true := by kernel_rfl
theorem ent80 : enters Pg 80 = true := by kernel_rfl
theorem ent87 : enters Pg 87 = true := by kernel_rfl
theorem ent88 : enters Pg 88 = true := by kernel_rfl
theorem ent89 : enters Pg 89 = true := by kernel_rfl
theorem ent90 : enters Pg 90 = true := by kernel_rfl
theorem ent91 : enters Pg 91 = true := by kernel_rfl
theorem ent92 : enters Pg 92 = true := by kernel_rfl
theorem ent93 : enters Pg 93 = true := by kernel_rfl
theorem ent94 : enters Pg 94 = true := by kernel_rfl
theorem ent95 : enters Pg 95 = true := by kernel_rfl
theorem ent96 : enters Pg 96 = true := by kernel_rfl
theorem ent97 : enters Pg 97 = true := by kernel_rfl
theorem ent98 : enters Pg 98 = true := by kernel_rfl
theorem ent99 : enters Pg 99 = true := by kernel_rfl
theorem ent100 : enters Pg 100 = true := by kernel_rfl
theorem ent103 : enters Pg 103 = true := by kernel_rfl
theorem ent108 : enters Pg 108 = true := by kernel_rfl
theorem ent111 : enters Pg 111 = true := by kernel_rfl
theorem ent123 : enters Pg 123 = true := by kernel_rfl
theorem ent124 : enters Pg 124 = true := by kernel_rfl
theorem ent125 : enters Pg 125 = true := by kernel_rfl
theorem ent126 : enters Pg 126 = true := by kernel_rfl
theorem ent127 : enters Pg 127 = true := by kernel_rfl
theorem ent128 : enters Pg 128 = true := by kernel_rfl
theorem ent129 : enters Pg 129 = true := by kernel_rfl
theorem ent132 : enters Pg 132 = true := by kernel_rfl
theorem ent133 : enters Pg 133 = true := by kernel_rfl
theorem ent134 : enters Pg 134 = true := by kernel_rfl
theorem ent135 : enters Pg 135 = true := by kernel_rfl
theorem ent136 : enters Pg 136 = true := by kernel_rfl
theorem ent156 : enters Pg 156 = true := by kernel_rfl
theorem ent157 : enters Pg 157 = true := by kernel_rfl
theorem ent158 : enters Pg 158 = true := by kernel_rfl
theorem ent159 : enters Pg 159 = true := by kernel_rfl
theorem ent160 : enters Pg 160 = true := by kernel_rfl
theorem ent161 : enters Pg 161 = true := by kernel_rfl
theorem ent162 : enters Pg 162 = true := by kernel_rfl
theorem ent163 : enters Pg 163 = true := by kernel_rfl
theorem ent164 : enters Pg 164 = true := by kernel_rfl
theorem ent165 : enters Pg 165 = true := by kernel_rfl
theorem ent166 : enters Pg 166 = true := by kernel_rfl
theorem ent167 : enters Pg 167 = true := by kernel_rfl
theorem C_usufructlaw07_Few {a1 : List TField} {r : Bool} (h : usufructlaw07_Few a1 = some r) : PureC Pg 11 [.sl 587 .no (List.map E_TField a1)] (V.bool r) := by
  refine PureC.ofF (CallSpec.of_bodyF 22 0 fn11 rfl rfl rfl (Nat.le_of_ble_eq_true rfl) ?_) (ltL_c (lt_sl rfl (ty_TField.ltm _ _)) ltL_nil) (TyOk.bool.lt _ _)
  replace h := Ok.of h
  unfold usufructlaw07_Few at h
  refine AWp.seq ?_
  refine W.reg [0] rfl ?_
  refine S.sil 2 rfl rfl (fun _ hF => .assign cB) ?_
  refine S.nil ?_
  refine thenQ_n ?_
  refine AWp.seq ?_
  refine AWp.seq ?_
  refine W.reg [0, 1, 2] rfl ?_
  refine S.sil 5 rfl rfl (fun _ hF => .move (lk 1 rfl rfl)) ?_
  refine S.sil 6 rfl rfl (fun _ hF => .lenT sli49 (lk 0 rfl rfl) (vsub rfl (.refl _))) ?_
  refine S.sil 7 rfl rfl (fun _ hF => .move cI) ?_
  refine S.nil ?_
  refine thenQ_n ?_
  refine AWp.cutL (fun x4 => ⟨[(2, V.bool false)], []⟩) nc_then h (fun q2 hq2 h => ?_) (fun x4 h => ?_)
  · refine AWp.block ?_
    refine AWp.loopT (fun s3 => ⟨[(7, (V.int .i64) s3), (6, (V.int .i64) (a1.length : Int)), (5, .sl 587 .no (List.map E_TField a1)), (2, V.bool false)], []⟩) hq2 (Wk.selS [] (by decide) rfl (SelE.leaf (lk 0 rfl rfl) rfl (.refl _) (fun m => ((TyOk.int .i64).lt _ _)) (SelE.leaf (lk 1 rfl rfl) rfl (.refl _) (fun m => ((TyOk.int .i64).lt _ _)) (SelE.leaf (lk 2 rfl rfl) rfl (.refl _) (fun m => (lt_sl rfl (ty_TField.ltm _ _))) (SelE.leaf (lk 3 rfl rfl) rfl (.refl _) (fun m => (TyOk.bool.lt _ _)) .nil)))) .nil) (fun _ s3 h2 => ?_)
    rw [usufructlaw07_Few_L1] at h2
    refine AWp.seq ?_
    refine W.reg [0] rfl ?_
    refine S.sil 8 rfl rfl (fun _ hF => .lss (lk 0 rfl rfl) (lk 1 rfl rfl)) ?_
    refine S.nil ?_
    refine thenQ_n ?_
    refine AWp.seq ?_
    refine AWp.condM (lk 0 rfl rfl) h2 (fun c1 h2 => ?_) (fun c1 h2 => ?_)
    · skip
      refine AWp.skip ?_
      refine thenQ_n ?_
      refine AWp.seq ?_
      refine AWp.block ?_
      refine AWp.seq ?_
      refine W.reg [0, 1, 2, 3] rfl ?_
      obtain ⟨j5, m5, h2⟩ := h2.bnd
      refine S.sil 9 rfl rfl (fun _ hF => .ixS sli49 (lk 3 rfl rfl) (lk 1 rfl rfl) m5) ?_
      obtain ⟨v6, ev6, h2⟩ := h2.nam
      refine S.sil 10 rfl rfl (fun _ hF => .nv (.loadC sz33 ag33 (lk 0 rfl rfl) (ty_TField.fl (a1.getD j5 default)) rfl) (congrArg E_TField ev6.symm)) ?_
      refine S.eff 4 rfl rfl (.nf (v2 := .ptr 0 [] 0) (H2 := [.cells (.st [V.str (default : ByteArray), (V.int .i64) 0, (V.int .i64) 0, E_TCounter (default : TCounter), E_TLock (default : TLock), .nils])]) (.alloc zv33) rfl rfl) trivial ?_
      refine S.effN rfl rfl (.nf (H2 := [.cells (E_TField v6)]) (.storeP sz33 (lk 0 rfl rfl) (lk 1 rfl rfl) rfl (.refl _) rfl .nil (by first | rfl | omega) .nil (ty_TField.fl v6) (fl_st (flL_c (show flen _ = 1 from rfl) (flL_c (show flen _ = 1 from rfl) (flL_c (show flen _ = 1 from rfl) (flL_c (ty_TCounter.fl (default : TCounter)) (flL_c (ty_TLock.fl (default : TLock)) (flL_c (show flen _ = 1 from rfl) flL_nil))))))) rfl) rfl rfl) trivial ?_
      refine S.nil ?_
      refine thenQ_n ?_
      refine AWp.wk (Wk.freeze 0 rfl rfl (.cons (lk 0 rfl rfl) rfl (.ptr .nil (by first | rfl | omega)) (.same (lk 1 rfl rfl) (.same (lk 2 rfl rfl) (.same (lk 3 rfl rfl) (.same (lk 4 rfl rfl) (.same (lk 5 rfl rfl) (.same (lk 6 rfl rfl) (.same (lk 7 rfl rfl) .nil)))))))) (.refl _)) ?_
      refine AWp.seq ?_
      refine W.reg [0, 1, 2, 3, 4, 5, 6, 7, 8, 9] rfl ?_
      refine S.sil 11 rfl rfl (fun _ hF => .fieldAddrC lay33 rfl rfl (lk 0 rfl rfl) rfl flL_nil) ?_
      refine S.sil 12 rfl rfl (fun _ hF => .loadC sz9 ag9 (lk 0 rfl rfl) rfl rfl) ?_
      refine S.sil 13 rfl rfl (fun _ hF => .lenS und9 (lk 0 rfl rfl)) ?_
      refine S.sil 14 rfl rfl (fun _ hF => .gtr (lk 0 rfl rfl) cI) ?_
      refine S.sil 15 rfl rfl (fun _ hF => .move (lk 0 rfl rfl)) ?_
      refine S.gsil 16 4 15 false rfl rfl rfl (lk 0 rfl rfl) (fun hB _ hF => .fieldAddrC lay33 rfl rfl (lk 5 rfl rfl) rfl (flL_c (show flen _ = 1 from rfl) (flL_c (show flen _ = 1 from rfl) (flL_c (show flen _ = 1 from rfl) (flL_c (ty_TCounter.fl v6.Counter) (flL_c (ty_TLock.fl v6.Lock) flL_nil)))))) ?_
      refine S.gsil 17 4 15 false rfl rfl rfl (lk 1 rfl rfl) (fun hB _ hF => .loadC sz31 ag31 (ifT hB (lk 0 rfl rfl)) rfl rfl) ?_
      refine S.gsil 18 4 15 false rfl rfl rfl (lk 2 rfl rfl) (fun hB _ hF => .lenT sli31 (ifT hB (lk 0 rfl rfl)) (vsub rfl (.refl _))) ?_
      refine S.gsil 19 4 15 false rfl rfl rfl (lk 3 rfl rfl) (fun hB _ hF => .gtr (ifT hB (lk 0 rfl rfl)) cI) ?_
      obtain ⟨v7, ev7, h2⟩ := h2.nam
      refine S.sil 20 rfl rfl (fun _ hF => .nv (.pickOr (lk 4 rfl rfl) cB (fun h => ifT h (lk 0 rfl rfl))) (congrArg V.bool ev7.symm)) ?_
      refine S.nil ?_
      refine thenQ_n ?_
      refine AWp.condM (lk 0 rfl rfl) h2 (fun c2 h2 => ?_) (fun c2 h2 => ?_)
      · skip
        refine AWp.seq ?_
        refine W.reg [0] rfl ?_
        refine S.sil 2 rfl rfl (fun _ hF => .assign cB) ?_
        refine S.nil ?_
        refine thenQ_n ?_
        refine AWp.ret ?_
        refine blockQ_r ?_
        refine thenQ_r ?_
        refine thenQ_r ?_
        refine blockQ_r ?_
        refine thenQ_r ?_
        refine thenQ_r ?_
        have h := Ok.inrq h h2.ret
        obtain rfl := h.ret
        exact endF1 rfl (Wk.selS [] .nil rfl (SelE.leaf (lk 0 rfl rfl) rfl (.refl _) (fun m => (TyOk.bool.lt _ _)) .nil) .nil) (.tmp (lk 0 rfl rfl) rfl) rfl rfl
      · skip
        refine AWp.skip ?_
        refine blockQ_n ?_
        refine thenQ_n ?_
        refine W.reg [0, 1] rfl ?_
        refine S.sil 21 rfl rfl (fun _ hF => .add (lk 14 rfl rfl) cI) ?_
        refine S.sil 7 rfl rfl (fun _ hF => .move (lk 0 rfl rfl)) ?_
        refine S.nil ?_
        refine thenQ_n ?_
        exact ⟨_, h2.ret, (Wk.selS [] (by decide) rfl (SelE.leaf (lk 0 rfl rfl) rfl (.refl _) (fun m => ((TyOk.int .i64).lt _ _)) (SelE.leaf (lk 17 rfl rfl) rfl (.refl _) (fun m => ((TyOk.int .i64).lt _ _)) (SelE.leaf (lk 18 rfl rfl) rfl (.refl _) (fun m => (lt_sl rfl (ty_TField.ltm _ _))) (SelE.leaf (lk 19 rfl rfl) rfl (.refl _) (fun m => (TyOk.bool.lt _ _)) .nil)))) .nil)⟩
    · skip
      refine AWp.exit ?_
      refine thenQ_x ?_
      refine thenQ_x ?_
      refine blockQ_x ?_
      refine thenQ_n ?_
      exact ⟨_, h2.ret, (Wk.selS [] (by decide) rfl (SelE.leaf (lk 4 rfl rfl) rfl (.refl _) (fun m => (TyOk.bool.lt _ _)) .nil) .nil)⟩
  · skip
    refine thenQ_n ?_
    refine AWp.seq ?_
    refine W.reg [0] rfl ?_
    refine S.sil 2 rfl rfl (fun _ hF => .assign cB) ?_
    refine S.nil ?_
    refine thenQ_n ?_
    refine AWp.ret ?_
    obtain rfl := h.ret
    exact endF1 rfl (Wk.selS [] .nil rfl (SelE.leaf (lk 0 rfl rfl) rfl (.refl _) (fun m => (TyOk.bool.lt _ _)) .nil) .nil) (.tmp (lk 0 rfl rfl) rfl) rfl rfl
theorem C_usufructlaw13_Few {a1 : List TField} {a2 : TPlan} {r : Bool} (h : usufructlaw13_Few a1 a2 = some r) : PureC Pg 20 [.sl 587 .no (List.map E_TField a1), E_TPlan a2] (V.bool r) := by
  refine PureC.ofF (CallSpec.of_bodyF 24 0 fn20 rfl rfl rfl (Nat.le_of_ble_eq_true rfl) ?_) (ltL_c (lt_sl rfl (ty_TField.ltm _ _)) (ltL_c (ty_TPlan.lt _ _) ltL_nil)) (TyOk.bool.lt _ _)
  replace h := Ok.of h
  unfold usufructlaw13_Few at h
  refine AWp.seq ?_
  refine W.reg [0, 1] rfl ?_
  refine S.eff 3 rfl rfl (.nf (v2 := .ptr 0 [] 0) (H2 := [.cells (E_TPlan a2)]) (.box (lk 1 rfl rfl) rfl) rfl rfl) trivial ?_
  refine S.sil 4 rfl rfl (fun _ hF => .assign cB) ?_
  refine S.nil ?_
  refine thenQ_n ?_
  refine AWp.wk (Wk.freeze 0 rfl rfl (.same (lk 0 rfl rfl) (.cons (lk 1 rfl rfl) rfl (.ptr .nil (by first | rfl | omega)) (.same (lk 2 rfl rfl) .nil))) (.refl _)) ?_
  refine AWp.seq ?_
  refine W.reg [0, 1, 2, 3, 4, 5, 6, 7, 8, 9, 10, 11, 12, 13, 14, 15, 16, 17, 18, 19] rfl ?_
  refine S.sil 5 rfl rfl (fun _ hF => .move (lk 2 rfl rfl)) ?_
  refine S.sil 6 rfl rfl (fun _ hF => .lenT sli49 (lk 0 rfl rfl) (vsub rfl (.refl _))) ?_
  refine S.sil 7 rfl rfl (fun _ hF => .leq (lk 0 rfl rfl) cI) ?_
  refine S.sil 8 rfl rfl (fun _ hF => .move (lk 0 rfl rfl)) ?_
  refine S.gsil 9 3 8 true rfl rfl rfl (lk 0 rfl rfl) (fun hB _ hF => .move (lk 6 rfl rfl)) ?_
  obtain ⟨r3, m3, h⟩ := h.bnd
  refine S.gsil 10 3 8 true rfl rfl rfl (lk 1 rfl rfl) (fun hB _ hF => .callQ ent11 cF (.c (ifT hB (lk 0 rfl rfl)) (V.sub.refl _) .nil) (C_usufructlaw07_Few (gd_get m3 hB))) ?_
  refine S.sil 11 rfl rfl (fun _ hF => .pickAnd (lk 2 rfl rfl) (fun h => ifT h (lk 0 rfl rfl)) cB) ?_
  refine S.sil 12 rfl rfl (fun _ hF => .move (lk 0 rfl rfl)) ?_
  refine S.gsil 13 7 12 true rfl rfl rfl (lk 0 rfl rfl) (fun hB _ hF => .fieldAddrC lay51 rfl rfl (lk 9 rfl rfl) rfl (flL_c (show flen _ = 1 from rfl) flL_nil)) ?_
  refine S.gsil 14 7 12 true rfl rfl rfl (lk 1 rfl rfl) (fun hB _ hF => .loadC sz9 ag9 (ifT hB (lk 0 rfl rfl)) rfl rfl) ?_
  refine S.gsil 15 7 12 true rfl rfl rfl (lk 2 rfl rfl) (fun hB _ hF => .lenS und9 (ifT hB (lk 0 rfl rfl))) ?_
  refine S.gsil 16 7 12 true rfl rfl rfl (lk 3 rfl rfl) (fun hB _ hF => .leq (ifT hB (lk 0 rfl rfl)) cI) ?_
  obtain ⟨v4, ev4, h⟩ := h.nam
  refine S.sil 17 rfl rfl (fun _ hF => .nv (.pickAnd (lk 4 rfl rfl) (fun h => ifT h (lk 0 rfl rfl)) cB) (congrArg V.bool ev4.symm)) ?_
  refine S.sil 18 rfl rfl (fun _ hF => .move (lk 0 rfl rfl)) ?_
  refine S.gsil 19 13 18 true rfl rfl rfl (lk 0 rfl rfl) (fun hB _ hF => .fieldAddrC lay51 rfl rfl (lk 15 rfl rfl) rfl (flL_c (show flen _ = 1 from rfl) (flL_c (show flen _ = 1 from rfl) flL_nil))) ?_
  refine S.gsil 20 13 18 true rfl rfl rfl (lk 1 rfl rfl) (fun hB _ hF => .loadC sz9 ag9 (ifT hB (lk 0 rfl rfl)) rfl rfl) ?_
  refine S.gsil 21 13 18 true rfl rfl rfl (lk 2 rfl rfl) (fun hB _ hF => .lenS und9 (ifT hB (lk 0 rfl rfl))) ?_
  refine S.gsil 22 13 18 true rfl rfl rfl (lk 3 rfl rfl) (fun hB _ hF => .leq (ifT hB (lk 0 rfl rfl)) cI) ?_
  refine S.sil 23 rfl rfl (fun _ hF => .pickAnd (lk 4 rfl rfl) (fun h => ifT h (lk 0 rfl rfl)) cB) ?_
  obtain ⟨v5, ev5, h⟩ := h.nam
  refine S.sil 4 rfl rfl (fun _ hF => .nv (.assign (lk 0 rfl rfl)) (congrArg V.bool ev5.symm)) ?_
  refine S.nil ?_
  refine thenQ_n ?_
  refine AWp.prune (.eq (lk 0 rfl rfl) rfl .nil) ?_
  refine AWp.ret ?_
  obtain rfl := h.ret
  exact endF1 rfl (Wk.selS [] .nil rfl (SelE.leaf (lk 0 rfl rfl) rfl (.refl _) (fun m => (TyOk.bool.lt _ _)) .nil) .nil) (.tmp (lk 0 rfl rfl) rfl) rfl rfl
theorem C_num_Is {a1 : Int} {r : Bool} (h : num_Is a1 = some r) : PureC Pg 64 [(V.int .i64) a1] (V.bool r) := by
  refine PureC.ofF (CallSpec.of_bodyF 9 0 fn64 rfl rfl rfl (Nat.le_of_ble_eq_true rfl) ?_) (ltL_c ((TyOk.int .i64).lt _ _) ltL_nil) (TyOk.bool.lt _ _)
  replace h := Ok.of h
  unfold num_Is at h
  refine AWp.seq ?_
  refine W.reg [0] rfl ?_
  refine S.sil 2 rfl rfl (fun _ hF => .assign cB) ?_
  refine S.nil ?_
  refine thenQ_n ?_
  refine AWp.seq ?_
  refine W.reg [0, 1, 2, 3, 4, 5, 6] rfl ?_
  refine S.sil 3 rfl rfl (fun _ hF => .move (lk 1 rfl rfl)) ?_
  refine S.sil 4 rfl rfl (fun _ hF => .geq (lk 0 rfl rfl) cI) ?_
  refine S.sil 5 rfl rfl (fun _ hF => .move (lk 0 rfl rfl)) ?_
  refine S.gsil 6 2 5 true rfl rfl rfl (lk 0 rfl rfl) (fun hB _ hF => .move (lk 4 rfl rfl)) ?_
  refine S.gsil 7 2 5 true rfl rfl rfl (lk 1 rfl rfl) (fun hB _ hF => .leq (ifT hB (lk 0 rfl rfl)) cI) ?_
  refine S.sil 8 rfl rfl (fun _ hF => .pickAnd (lk 2 rfl rfl) (fun h => ifT h (lk 0 rfl rfl)) cB) ?_
  obtain ⟨v2, ev2, h⟩ := h.nam
  refine S.sil 2 rfl rfl (fun _ hF => .nv (.assign (lk 0 rfl rfl)) (congrArg V.bool ev2.symm)) ?_
  refine S.nil ?_
  refine thenQ_n ?_
  refine AWp.ret ?_
  obtain rfl := h.ret
  exact endF1 rfl (Wk.selS [] .nil rfl (SelE.leaf (lk 0 rfl rfl) rfl (.refl _) (fun m => (TyOk.bool.lt _ _)) .nil) .nil) (.tmp (lk 0 rfl rfl) rfl) rfl rfl
theorem C_num_checked {a1 : Int} {a2 : List Int} {r : Int × Int} (h : num_checked a1 a2 = some r) : PureC Pg 156 [(V.int .i64) a1, .sl 1 .exact (List.map (V.int .i64) a2)] (.tup [(V.int .i64) r.1, (V.int .i64) r.2]) := by
  refine PureC.ofF (CallSpec.of_bodyF 22 0 fn156 rfl rfl rfl (Nat.le_of_ble_eq_true rfl) ?_) (ltL_c ((TyOk.int .i64).lt _ _) (ltL_c (lt_sl rfl ((TyOk.int .i64).ltm _ _)) ltL_nil)) (lt_tup (ltL_c ((TyOk.int .i64).lt _ _) (ltL_c ((TyOk.int .i64).lt _ _) ltL_nil)))
  replace h := Ok.of h
  unfold num_checked at h
  refine AWp.seq ?_
  refine W.reg [0, 1] rfl ?_
  refine S.sil 4 rfl rfl (fun _ hF => .assign cI) ?_
  refine S.sil 5 rfl rfl (fun _ hF => .assign cI) ?_
  refine S.nil ?_
  refine thenQ_n ?_
  refine AWp.seq ?_
  refine AWp.seq ?_
  refine W.reg [0, 1, 2, 3, 4, 5] rfl ?_
  refine S.sil 8 rfl rfl (fun _ hF => .move (lk 3 rfl rfl)) ?_
  refine S.sil 9 rfl rfl (fun _ hF => .move (lk 3 rfl rfl)) ?_
  refine S.sil 10 rfl rfl (fun _ hF => .buildSliceW sli116 zv3 rfl rfl (by decide) (.cons (lk 0 rfl rfl) rfl (.refl _) rfl .nil)) ?_
  obtain ⟨l3, m3, h⟩ := h.bnd
  refine S.eff 11 rfl rfl (.nf (v2 := .sl 1 (.tok 0) (List.map (V.int .i64) l3)) (H2 := [.tail]) (.appX sli116 und116 zv3 rfl (by decide) (lk 2 rfl rfl) (V.sub.refl _) (lk 0 rfl rfl) Rd.sl m3 rfl) rfl rfl) trivial ?_
  refine S.sil 12 rfl rfl (fun _ hF => .lenT sli116 (lk 0 rfl rfl) (vsub rfl (.forget _ _ _))) ?_
  refine S.sil 13 rfl rfl (fun _ hF => .move cI) ?_
  refine S.nil ?_
  refine thenQ_n ?_
  refine AWp.cutL (fun x6 => ⟨[(5, (V.int .i64) 0), (4, (V.int .i64) 0), (0, (V.int .i64) a1)], []⟩) nc_then h (fun q4 hq4 h => ?_) (fun x6 h => ?_)
  · refine AWp.block ?_
    refine AWp.loopT (fun s5 => ⟨[(13, (V.int .i64) s5), (12, (V.int .i64) (l3.length : Int)), (11, .sl 1 (.tok 0) (List.map (V.int .i64) l3)), (5, (V.int .i64) 0), (4, (V.int .i64) 0), (0, (V.int .i64) a1)], [.tail]⟩) hq4 (Wk.selS [0] (by decide) rfl (SelE.leaf (lk 0 rfl rfl) rfl (.refl _) (fun m => ((TyOk.int .i64).lt _ _)) (SelE.leaf (lk 1 rfl rfl) rfl (.refl _) (fun m => ((TyOk.int .i64).lt _ _)) (SelE.spec (lk 2 rfl rfl) rfl (.refl _) (ren_sl (TyOk.int .i64) _) (lt_sl rfl ((TyOk.int .i64).ltm _ _)) (SelE.leaf (lk 6 rfl rfl) rfl (.refl _) (fun m => ((TyOk.int .i64).lt _ _)) (SelE.leaf (lk 7 rfl rfl) rfl (.refl _) (fun m => ((TyOk.int .i64).lt _ _)) (SelE.leaf (lk 8 rfl rfl) rfl (.refl _) (fun m => ((TyOk.int .i64).lt _ _)) .nil)))))) (.cons rfl rfl trivial .nil)) (fun _ s5 h4 => ?_)
    rw [num_checked_L1] at h4
    refine AWp.seq ?_
    refine W.reg [0] rfl ?_
    refine S.sil 14 rfl rfl (fun _ hF => .lss (lk 0 rfl rfl) (lk 1 rfl rfl)) ?_
    refine S.nil ?_
    refine thenQ_n ?_
    refine AWp.seq ?_
    refine AWp.condM (lk 0 rfl rfl) h4 (fun c1 h4 => ?_) (fun c1 h4 => ?_)
    · skip
      refine AWp.skip ?_
      refine thenQ_n ?_
      refine AWp.seq ?_
      refine AWp.block ?_
      refine AWp.seq ?_
      refine W.reg [0, 1, 2] rfl ?_
      obtain ⟨j7, m7, h4⟩ := h4.bnd
      refine S.sil 15 rfl rfl (fun _ hF => .ixS sli116 (lk 3 rfl rfl) (lk 1 rfl rfl) m7) ?_
      refine S.sil 16 rfl rfl (fun _ hF => .loadC sz3 ag3 (lk 0 rfl rfl) rfl rfl) ?_
      refine S.sil 7 rfl rfl (fun _ hF => .assign (lk 0 rfl rfl)) ?_
      refine S.nil ?_
      refine thenQ_n ?_
      refine AWp.seq ?_
      refine W.reg [0, 1, 2] rfl ?_
      refine S.sil 17 rfl rfl (fun _ hF => .move (lk 0 rfl rfl)) ?_
      obtain ⟨r8, m8, h4⟩ := h4.bnd
      refine S.sil 18 rfl rfl (fun _ hF => .callQ ent64 cF (.c (lk 0 rfl rfl) (V.sub.refl _) .nil) (C_num_Is m8)) ?_
      refine S.sil 19 rfl rfl (fun _ hF => .not (lk 0 rfl rfl)) ?_
      refine S.nil ?_
      refine thenQ_n ?_
      refine AWp.condM (lk 0 rfl rfl) h4 (fun c2 h4 => ?_) (fun c2 h4 => ?_)
      · skip
        refine AWp.seq ?_
        refine W.reg [0, 1] rfl ?_
        refine S.sil 4 rfl rfl (fun _ hF => .assign cI) ?_
        refine S.sil 5 rfl rfl (fun _ hF => .assign cI) ?_
        refine S.nil ?_
        refine thenQ_n ?_
        refine AWp.ret ?_
        refine blockQ_r ?_
        refine thenQ_r ?_
        refine thenQ_r ?_
        refine blockQ_r ?_
        refine thenQ_r ?_
        refine thenQ_r ?_
        have h := Ok.inrq h h4.ret
        obtain rfl := h.ret
        exact endFN rfl (Wk.selS [] .nil rfl (SelE.leaf (lk 1 rfl rfl) rfl (.refl _) (fun m => ((TyOk.int .i64).lt _ _)) (SelE.leaf (lk 0 rfl rfl) rfl (.refl _) (fun m => ((TyOk.int .i64).lt _ _)) .nil)) .nil) (.cons (.tmp (lk 0 rfl rfl) rfl) (.cons (.tmp (lk 1 rfl rfl) rfl) .nil)) rfl rfl rfl
      · skip
        refine AWp.skip ?_
        refine blockQ_n ?_
        refine thenQ_n ?_
        refine W.reg [0, 1] rfl ?_
        refine S.sil 20 rfl rfl (fun _ hF => .add (lk 7 rfl rfl) cI) ?_
        refine S.sil 13 rfl rfl (fun _ hF => .move (lk 0 rfl rfl)) ?_
        refine S.nil ?_
        refine thenQ_n ?_
        exact ⟨_, h4.ret, (Wk.selS [0] (by decide) rfl (SelE.leaf (lk 0 rfl rfl) rfl (.refl _) (fun m => ((TyOk.int .i64).lt _ _)) (SelE.leaf (lk 10 rfl rfl) rfl (.refl _) (fun m => ((TyOk.int .i64).lt _ _)) (SelE.spec (lk 11 rfl rfl) rfl (.refl _) (ren_sl (TyOk.int .i64) _) (lt_sl rfl ((TyOk.int .i64).ltm _ _)) (SelE.leaf (lk 12 rfl rfl) rfl (.refl _) (fun m => ((TyOk.int .i64).lt _ _)) (SelE.leaf (lk 13 rfl rfl) rfl (.refl _) (fun m => ((TyOk.int .i64).lt _ _)) (SelE.leaf (lk 14 rfl rfl) rfl (.refl _) (fun m => ((TyOk.int .i64).lt _ _)) .nil)))))) (.cons rfl rfl trivial .nil))⟩
    · skip
      refine AWp.exit ?_
      refine thenQ_x ?_
      refine thenQ_x ?_
      refine blockQ_x ?_
      refine thenQ_n ?_
      exact ⟨_, h4.ret, (Wk.selS [] (by decide) rfl (SelE.leaf (lk 4 rfl rfl) rfl (.refl _) (fun m => ((TyOk.int .i64).lt _ _)) (SelE.leaf (lk 5 rfl rfl) rfl (.refl _) (fun m => ((TyOk.int .i64).lt _ _)) (SelE.leaf (lk 6 rfl rfl) rfl (.refl _) (fun m => ((TyOk.int .i64).lt _ _)) .nil))) .nil)⟩
  · skip
    refine thenQ_n ?_
    refine AWp.seq ?_
    refine W.reg [0, 1, 2] rfl ?_
    refine S.sil 21 rfl rfl (fun _ hF => .move (lk 2 rfl rfl)) ?_
    refine S.sil 4 rfl rfl (fun _ hF => .assign (lk 0 rfl rfl)) ?_
    refine S.sil 5 rfl rfl (fun _ hF => .assign cI) ?_
    refine S.nil ?_
    refine thenQ_n ?_
    refine AWp.ret ?_
    obtain rfl := h.ret
    exact endFN rfl (Wk.selS [] .nil rfl (SelE.leaf (lk 1 rfl rfl) rfl (.refl _) (fun m => ((TyOk.int .i64).lt _ _)) (SelE.leaf (lk 0 rfl rfl) rfl (.refl _) (fun m => ((TyOk.int .i64).lt _ _)) .nil)) .nil) (.cons (.tmp (lk 0 rfl rfl) rfl) (.cons (.tmp (lk 1 rfl rfl) rfl) .nil)) rfl rfl rfl
theorem C_num_Sub {a1 : Int} {a2 : Int} {r : Int × Int} (h : num_Sub a1 a2 = some r) : PureC Pg 125 [(V.int .i64) a1, (V.int .i64) a2] (.tup [(V.int .i64) r.1, (V.int .i64) r.2]) := by
  refine PureC.ofF (CallSpec.of_bodyF 15 0 fn125 rfl rfl rfl (Nat.le_of_ble_eq_true rfl) ?_) (ltL_c ((TyOk.int .i64).lt _ _) (ltL_c ((TyOk.int .i64).lt _ _) ltL_nil)) (lt_tup (ltL_c ((TyOk.int .i64).lt _ _) (ltL_c ((TyOk.int .i64).lt _ _) ltL_nil)))
  replace h := Ok.of h
  unfold num_Sub at h
  refine AWp.seq ?_
  refine W.reg [0, 1] rfl ?_
  refine S.sil 4 rfl rfl (fun _ hF => .assign cI) ?_
  refine S.sil 5 rfl rfl (fun _ hF => .assign cI) ?_
  refine S.nil ?_
  refine thenQ_n ?_
  refine AWp.seq ?_
  refine W.reg [0, 1, 2, 3, 4, 5, 6, 7, 8, 9, 10] rfl ?_
  refine S.sil 6 rfl rfl (fun _ hF => .move (lk 2 rfl rfl)) ?_
  refine S.sil 7 rfl rfl (fun _ hF => .move (lk 4 rfl rfl)) ?_
  refine S.sil 8 rfl rfl (fun _ hF => .sub (lk 1 rfl rfl) (lk 0 rfl rfl)) ?_
  refine S.sil 9 rfl rfl (fun _ hF => .move (lk 5 rfl rfl)) ?_
  refine S.sil 10 rfl rfl (fun _ hF => .move (lk 7 rfl rfl)) ?_
  refine S.sil 11 rfl rfl (fun _ hF => .buildSliceW sli116 zv3 rfl rfl (by decide) (.cons (lk 1 rfl rfl) rfl (.refl _) rfl (.cons (lk 0 rfl rfl) rfl (.refl _) rfl .nil))) ?_
  obtain ⟨r3, m3, h⟩ := h.bnd
  refine S.sil 12 rfl rfl (fun _ hF => .callQ ent156 cF (.c (lk 3 rfl rfl) (V.sub.refl _) (.c (lk 0 rfl rfl) (V.sub.refl _) .nil)) (C_num_checked m3)) ?_
  refine S.sil 13 rfl rfl (fun _ hF => .extract (lk 0 rfl rfl) rfl) ?_
  refine S.sil 14 rfl rfl (fun _ hF => .extract (lk 1 rfl rfl) rfl) ?_
  refine S.sil 4 rfl rfl (fun _ hF => .assign (lk 1 rfl rfl)) ?_
  refine S.sil 5 rfl rfl (fun _ hF => .assign (lk 1 rfl rfl)) ?_
  refine S.nil ?_
  refine thenQ_n ?_
  refine AWp.prune (.eq (lk 0 rfl rfl) rfl (.eq (lk 1 rfl rfl) rfl .nil)) ?_
  refine AWp.ret ?_
  obtain rfl := h.ret
  exact endFN rfl (Wk.selS [] .nil rfl (SelE.leaf (lk 1 rfl rfl) rfl (.refl _) (fun m => ((TyOk.int .i64).lt _ _)) (SelE.leaf (lk 0 rfl rfl) rfl (.refl _) (fun m => ((TyOk.int .i64).lt _ _)) .nil)) .nil) (.cons (.tmp (lk 0 rfl rfl) rfl) (.cons (.tmp (lk 1 rfl rfl) rfl) .nil)) rfl rfl rfl
theorem C_counter_New {a1 : Int} {a2 : Int} {a3 : Int} {r : TCounter × Int} (h : counter_New a1 a2 a3 = some r) : PureC Pg 71 [(V.int .i64) a1, (V.int .i64) a2, (V.int .i64) a3] (.tup [E_TCounter r.1, (V.int .i64) r.2]) := by
  refine PureC.ofF (CallSpec.of_bodyF 65 0 fn71 rfl rfl rfl (Nat.le_of_ble_eq_true rfl) ?_) (ltL_c ((TyOk.int .i64).lt _ _) (ltL_c ((TyOk.int .i64).lt _ _) (ltL_c ((TyOk.int .i64).lt _ _) ltL_nil))) (lt_tup (ltL_c (ty_TCounter.lt _ _) (ltL_c ((TyOk.int .i64).lt _ _) ltL_nil)))
  replace h := Ok.of h
  unfold counter_New at h
  refine AWp.seq ?_
  refine W.reg [0, 1] rfl ?_
  refine S.eff 6 rfl rfl (.nf (v2 := .ptr 0 [] 0) (H2 := [.cells (E_TCounter (default : TCounter))]) (.alloc zv28) rfl rfl) trivial ?_
  refine S.sil 7 rfl rfl (fun _ hF => .assign cI) ?_
  refine S.nil ?_
  refine thenQ_n ?_
  refine AWp.seq ?_
  refine W.reg [0, 1, 2, 3, 4, 5] rfl ?_
  refine S.sil 15 rfl rfl (fun _ hF => .move (lk 2 rfl rfl)) ?_
  refine S.sil 16 rfl rfl (fun _ hF => .move (lk 4 rfl rfl)) ?_
  refine S.sil 17 rfl rfl (fun _ hF => .move (lk 6 rfl rfl)) ?_
  obtain ⟨v4, ev4, h⟩ := h.nam
  refine S.sil 18 rfl rfl (fun _ hF => .nv (.nv (v2 := E_TCounter (⟨a1, a2, a3, (default : TRights), (default : TRights)⟩ : TCounter)) (.buildStW lay28 zv28 rfl (.cons (lk 2 rfl rfl) rfl rfl rfl rfl (.cons (lk 1 rfl rfl) rfl rfl rfl rfl (.cons (lk 0 rfl rfl) rfl rfl rfl rfl .nil)))) rfl) (congrArg E_TCounter ev4.symm)) ?_
  refine S.eff 8 rfl rfl (.nf (v2 := .ptr 1 [] 0) (H2 := [.cells (E_TCounter (default : TCounter)), .cells (E_TCounter (default : TCounter))]) (.alloc zv28) rfl rfl) trivial ?_
  refine S.effN rfl rfl (.nf (H2 := [.cells (E_TCounter (default : TCounter)), .cells (E_TCounter v4)]) (.storeP sz28 (lk 0 rfl rfl) (lk 1 rfl rfl) rfl (.refl _) rfl .nil (by first | rfl | omega) .nil (ty_TCounter.fl v4) (ty_TCounter.fl (default : TCounter)) rfl) rfl rfl) trivial ?_
  refine S.nil ?_
  refine thenQ_n ?_
  refine AWp.seq ?_
  refine W.reg [0, 1, 2, 3, 4, 5, 6, 7] rfl ?_
  refine S.sil 20 rfl rfl (fun _ hF => .move (lk 7 rfl rfl)) ?_
  refine S.sil 21 rfl rfl (fun _ hF => .move (lk 9 rfl rfl)) ?_
  obtain ⟨r5, m5, h⟩ := h.bnd
  refine S.sil 22 rfl rfl (fun _ hF => .callQ ent125 cF (.c (lk 1 rfl rfl) (V.sub.refl _) (.c (lk 0 rfl rfl) (V.sub.refl _) .nil)) (C_num_Sub m5)) ?_
  refine S.sil 19 rfl rfl (fun _ hF => .move (lk 0 rfl rfl)) ?_
  refine S.sil 23 rfl rfl (fun _ hF => .extract (lk 0 rfl rfl) rfl) ?_
  refine S.sil 24 rfl rfl (fun _ hF => .extract (lk 1 rfl rfl) rfl) ?_
  refine S.sil 9 rfl rfl (fun _ hF => .assign (lk 1 rfl rfl)) ?_
  refine S.sil 10 rfl rfl (fun _ hF => .assign (lk 1 rfl rfl)) ?_
  refine S.nil ?_
  refine thenQ_n ?_
  refine AWp.prune (.eq (lk 0 rfl rfl) rfl (.eq (lk 1 rfl rfl) rfl (.eq (lk 8 rfl rfl) rfl (.eq (lk 13 rfl rfl) rfl (.eq (lk 14 rfl rfl) rfl (.eq (lk 15 rfl rfl) rfl (.eq (lk 16 rfl rfl) rfl (.eq (lk 17 rfl rfl) rfl .nil)))))))) ?_
  refine AWp.seq ?_
  refine W.reg [0, 1, 2, 3, 4, 5, 6, 7] rfl ?_
  refine S.sil 26 rfl rfl (fun _ hF => .move (lk 7 rfl rfl)) ?_
  refine S.sil 27 rfl rfl (fun _ hF => .move (lk 6 rfl rfl)) ?_
  obtain ⟨r6, m6, h⟩ := h.bnd
  refine S.sil 28 rfl rfl (fun _ hF => .callQ ent125 cF (.c (lk 1 rfl rfl) (V.sub.refl _) (.c (lk 0 rfl rfl) (V.sub.refl _) .nil)) (C_num_Sub m6)) ?_
  refine S.sil 25 rfl rfl (fun _ hF => .move (lk 0 rfl rfl)) ?_
  refine S.sil 29 rfl rfl (fun _ hF => .extract (lk 0 rfl rfl) rfl) ?_
  refine S.sil 30 rfl rfl (fun _ hF => .extract (lk 1 rfl rfl) rfl) ?_
  refine S.sil 11 rfl rfl (fun _ hF => .assign (lk 1 rfl rfl)) ?_
  refine S.sil 12 rfl rfl (fun _ hF => .assign (lk 1 rfl rfl)) ?_
  refine S.nil ?_
  refine thenQ_n ?_
  refine AWp.seq ?_
  refine W.reg [0, 1, 2, 3, 4, 5, 6, 7] rfl ?_
  refine S.sil 32 rfl rfl (fun _ hF => .move (lk 15 rfl rfl)) ?_
  refine S.sil 33 rfl rfl (fun _ hF => .move (lk 15 rfl rfl)) ?_
  obtain ⟨r7, m7, h⟩ := h.bnd
  refine S.sil 34 rfl rfl (fun _ hF => .callQ ent125 cF (.c (lk 1 rfl rfl) (V.sub.refl _) (.c (lk 0 rfl rfl) (V.sub.refl _) .nil)) (C_num_Sub m7)) ?_
  refine S.sil 31 rfl rfl (fun _ hF => .move (lk 0 rfl rfl)) ?_
  refine S.sil 35 rfl rfl (fun _ hF => .extract (lk 0 rfl rfl) rfl) ?_
  refine S.sil 36 rfl rfl (fun _ hF => .extract (lk 1 rfl rfl) rfl) ?_
  refine S.sil 13 rfl rfl (fun _ hF => .assign (lk 1 rfl rfl)) ?_
  refine S.sil 14 rfl rfl (fun _ hF => .assign (lk 1 rfl rfl)) ?_
  refine S.nil ?_
  refine thenQ_n ?_
  refine AWp.prune (.eq (lk 0 rfl rfl) rfl (.eq (lk 8 rfl rfl) rfl (.eq (lk 9 rfl rfl) rfl (.eq (lk 16 rfl rfl) rfl (.eq (lk 17 rfl rfl) rfl (.eq (lk 18 rfl rfl) rfl (.eq (lk 19 rfl rfl) rfl (.eq (lk 20 rfl rfl) rfl .nil)))))))) ?_
  refine AWp.seq ?_
  refine AWp.seq ?_
  refine W.reg [0, 1, 2, 3, 4, 5, 6, 7, 8, 9, 10, 11, 12, 13, 14, 15, 16, 17] rfl ?_
  refine S.sil 37 rfl rfl (fun _ hF => .move (lk 3 rfl rfl)) ?_
  refine S.sil 38 rfl rfl (fun _ hF => .neq (lk 0 rfl rfl) cI) ?_
  refine S.sil 39 rfl rfl (fun _ hF => .move (lk 0 rfl rfl)) ?_
  refine S.gsil 40 2 39 false rfl rfl rfl (lk 0 rfl rfl) (fun hB _ hF => .move (lk 4 rfl rfl)) ?_
  refine S.gsil 41 2 39 false rfl rfl rfl (lk 1 rfl rfl) (fun hB _ hF => .neq (ifT hB (lk 0 rfl rfl)) cI) ?_
  refine S.sil 42 rfl rfl (fun _ hF => .pickOr (lk 2 rfl rfl) cB (fun h => ifT h (lk 0 rfl rfl))) ?_
  refine S.sil 43 rfl rfl (fun _ hF => .move (lk 0 rfl rfl)) ?_
  refine S.gsil 44 6 43 false rfl rfl rfl (lk 0 rfl rfl) (fun hB _ hF => .move (lk 7 rfl rfl)) ?_
  refine S.gsil 45 6 43 false rfl rfl rfl (lk 1 rfl rfl) (fun hB _ hF => .neq (ifT hB (lk 0 rfl rfl)) cI) ?_
  obtain ⟨v8, ev8, h⟩ := h.nam
  refine S.sil 46 rfl rfl (fun _ hF => .nv (.pickOr (lk 2 rfl rfl) cB (fun h => ifT h (lk 0 rfl rfl))) (congrArg V.bool ev8.symm)) ?_
  refine S.sil 47 rfl rfl (fun _ hF => .move (lk 0 rfl rfl)) ?_
  refine S.gsil 48 10 47 false rfl rfl rfl (lk 0 rfl rfl) (fun hB _ hF => .move (lk 15 rfl rfl)) ?_
  refine S.gsil 49 10 47 false rfl rfl rfl (lk 1 rfl rfl) (fun hB _ hF => .lss (ifT hB (lk 0 rfl rfl)) cI) ?_
  refine S.sil 50 rfl rfl (fun _ hF => .pickOr (lk 2 rfl rfl) cB (fun h => ifT h (lk 0 rfl rfl))) ?_
  refine S.sil 51 rfl rfl (fun _ hF => .move (lk 0 rfl rfl)) ?_
  refine S.gsil 52 14 51 false rfl rfl rfl (lk 0 rfl rfl) (fun hB _ hF => .move (lk 17 rfl rfl)) ?_
  refine S.gsil 53 14 51 false rfl rfl rfl (lk 1 rfl rfl) (fun hB _ hF => .lss (ifT hB (lk 0 rfl rfl)) cI) ?_
  refine S.sil 54 rfl rfl (fun _ hF => .pickOr (lk 2 rfl rfl) cB (fun h => ifT h (lk 0 rfl rfl))) ?_
  refine S.nil ?_
  refine thenQ_n ?_
  refine AWp.prune (.eq (lk 0 rfl rfl) rfl (.eq (lk 20 rfl rfl) rfl (.eq (lk 22 rfl rfl) rfl (.eq (lk 23 rfl rfl) rfl (.eq (lk 24 rfl rfl) rfl (.eq (lk 25 rfl rfl) rfl .nil)))))) ?_
  refine AWp.condM (lk 0 rfl rfl) h (fun c1 h => ?_) (fun c1 h => ?_)
  · skip
    refine AWp.seq ?_
    refine W.reg [0, 1, 2] rfl ?_
    obtain ⟨v9, ev9, h⟩ := h.nam
    refine S.sil 55 rfl rfl (fun _ hF => .nv (.nv (v2 := E_TCounter (⟨0, 0, 0, (default : TRights), (default : TRights)⟩ : TCounter)) (.buildStW lay28 zv28 rfl .nil) rfl) (congrArg E_TCounter ev9.symm)) ?_
    refine S.effN rfl rfl (.nf (H2 := [.cells (E_TCounter v9), .cells (E_TCounter v4)]) (.storeP sz28 (lk 6 rfl rfl) (lk 0 rfl rfl) rfl (.refl _) rfl .nil (by first | rfl | omega) .nil (ty_TCounter.fl v9) (ty_TCounter.fl (default : TCounter)) rfl) rfl rfl) trivial ?_
    refine S.sil 7 rfl rfl (fun _ hF => .assign cI) ?_
    refine S.nil ?_
    refine thenQ_n ?_
    refine AWp.ret ?_
    refine thenQ_r ?_
    refine endF_wk (Wk.freeze 0 rfl rfl (.same (lk 0 rfl rfl) (.same (lk 0 rfl rfl) (.cons (lk 7 rfl rfl) rfl (.ptr .nil (by first | rfl | omega)) .nil))) (.refl _)) ?_
    obtain rfl := h.ret
    exact endFN rfl (Wk.selS [] .nil rfl (SelE.leaf (lk 2 rfl rfl) rfl (.refl _) (fun m => (lt_cptr (ty_TCounter.lt _ _))) (SelE.leaf (lk 0 rfl rfl) rfl (.refl _) (fun m => ((TyOk.int .i64).lt _ _)) .nil)) .nil) (.cons (.cellC sz28 ag28 (lk 0 rfl rfl) (ty_TCounter.fl _) rfl) (.cons (.tmp (lk 1 rfl rfl) rfl) .nil)) rfl rfl rfl
  · skip
    refine AWp.skip ?_
    refine thenQ_n ?_
    refine AWp.seq ?_
    refine W.reg [0, 1, 2, 3, 4, 5, 6, 7, 8, 9] rfl ?_
    refine S.sil 56 rfl rfl (fun _ hF => .move (lk 2 rfl rfl)) ?_
    refine S.sil 57 rfl rfl (fun _ hF => .move (lk 2 rfl rfl)) ?_
    refine S.sil 58 rfl rfl (fun _ hF => .fieldAddr lay28 rfl rfl (lk 5 rfl rfl)) ?_
    refine S.sil 59 rfl rfl (fun _ hF => .fieldAddr lay26 rfl rfl (lk 0 rfl rfl)) ?_
    obtain ⟨k10, m10, h⟩ := h.bnd
    refine S.sil 60 rfl rfl (fun _ hF => .ixP arr23 (lk 0 rfl rfl) cI m10) ?_
    obtain ⟨v11, ev11, h⟩ := h.nam
    refine S.effN rfl rfl (.nf (H2 := [.cells (E_TCounter (default : TCounter)), .cells (E_TCounter v11)]) (.storeP sz3 (lk 0 rfl rfl) (lk 4 rfl rfl) rfl (.refl _) rfl (.st rfl (flL_c (show flen _ = 1 from rfl) (flL_c (show flen _ = 1 from rfl) (flL_c (show flen _ = 1 from rfl) flL_nil))) (.st rfl flL_nil (.vc k10 .nil))) (by first | rfl | omega) (.st rfl (.st rfl (.vc r5.1 k10 .nil) rfl) rfl) rfl rfl (congrArg (fun z => ([.cells (E_TCounter (default : TCounter)), AObj.cells (E_TCounter z)] : List AObj)) ev11.symm)) rfl rfl) trivial ?_
    refine S.sil 61 rfl rfl (fun _ hF => .fieldAddr lay28 rfl rfl (lk 8 rfl rfl)) ?_
    refine S.sil 62 rfl rfl (fun _ hF => .fieldAddr lay26 rfl rfl (lk 0 rfl rfl)) ?_
    obtain ⟨k12, m12, h⟩ := h.bnd
    refine S.sil 63 rfl rfl (fun _ hF => .ixP arr23 (lk 0 rfl rfl) cI m12) ?_
    obtain ⟨v13, ev13, h⟩ := h.nam
    refine S.effN rfl rfl (.nf (H2 := [.cells (E_TCounter (default : TCounter)), .cells (E_TCounter v13)]) (.storeP sz3 (lk 0 rfl rfl) (lk 6 rfl rfl) rfl (.refl _) rfl (.st rfl (flL_c (show flen _ = 1 from rfl) (flL_c (show flen _ = 1 from rfl) (flL_c (show flen _ = 1 from rfl) (flL_c (ty_TRights.fl v11.Down) flL_nil)))) (.st rfl flL_nil (.vc k12 .nil))) (by first | rfl | omega) (.st rfl (.st rfl (.vc r6.1 k12 .nil) rfl) rfl) rfl rfl (congrArg (fun z => ([.cells (E_TCounter (default : TCounter)), AObj.cells (E_TCounter z)] : List AObj)) ev13.symm)) rfl rfl) trivial ?_
    refine S.nil ?_
    refine thenQ_n ?_
    refine AWp.prune (.eq (lk 11 rfl rfl) rfl (.eq (lk 12 rfl rfl) rfl (.eq (lk 13 rfl rfl) rfl .nil))) ?_
    refine AWp.seq ?_
    refine W.reg [0, 1, 2] rfl ?_
    refine S.qui 64 rfl rfl (fun _ => .loadP sz28 ag28 (lk 0 rfl rfl) rfl .nil (by first | rfl | omega) (ty_TCounter.fl v13) rfl) ?_
    refine S.effN rfl rfl (.nf (H2 := [.cells (E_TCounter v13), .cells (E_TCounter v13)]) (.storeP sz28 (lk 3 rfl rfl) (lk 0 rfl rfl) rfl (.refl _) rfl .nil (by first | rfl | omega) .nil (ty_TCounter.fl v13) (ty_TCounter.fl (default : TCounter)) rfl) rfl rfl) trivial ?_
    refine S.sil 7 rfl rfl (fun _ hF => .assign cI) ?_
    refine S.nil ?_
    refine thenQ_n ?_
    refine AWp.ret ?_
    refine endF_wk (Wk.freeze 0 rfl rfl (.same (lk 0 rfl rfl) (.same (lk 0 rfl rfl) (.cons (lk 4 rfl rfl) rfl (.ptr .nil (by first | rfl | omega)) .nil))) (.refl _)) ?_
    obtain rfl := h.ret
    exact endFN rfl (Wk.selS [] .nil rfl (SelE.leaf (lk 2 rfl rfl) rfl (.refl _) (fun m => (lt_cptr (ty_TCounter.lt _ _))) (SelE.leaf (lk 0 rfl rfl) rfl (.refl _) (fun m => ((TyOk.int .i64).lt _ _)) .nil)) .nil) (.cons (.cellC sz28 ag28 (lk 0 rfl rfl) (ty_TCounter.fl _) rfl) (.cons (.tmp (lk 1 rfl rfl) rfl) .nil)) rfl rfl rfl
theorem C_field_Name {a1 : ByteArray} {r : Bool} (h : field_Name a1 = some r) : PureC Pg 72 [V.str a1] (V.bool r) := by
  refine PureC.ofF (CallSpec.of_bodyF 28 0 fn72 rfl rfl rfl (Nat.le_of_ble_eq_true rfl) ?_) (ltL_c (TyOk.str.lt _ _) ltL_nil) (TyOk.bool.lt _ _)
  replace h := Ok.of h
  unfold field_Name at h
  refine AWp.seq ?_
  refine W.reg [0] rfl ?_
  refine S.sil 2 rfl rfl (fun _ hF => .assign cB) ?_
  refine S.nil ?_
  refine thenQ_n ?_
  refine AWp.seq ?_
  refine AWp.seq ?_
  refine W.reg [0, 1, 2] rfl ?_
  refine S.sil 4 rfl rfl (fun _ hF => .move (lk 1 rfl rfl)) ?_
  refine S.sil 5 rfl rfl (fun _ hF => .lenS und9 (lk 0 rfl rfl)) ?_
  refine S.sil 6 rfl rfl (fun _ hF => .move cI) ?_
  refine S.nil ?_
  refine thenQ_n ?_
  refine AWp.cutL (fun x4 => ⟨[(2, V.bool false), (0, V.str a1)], []⟩) nc_then h (fun q2 hq2 h => ?_) (fun x4 h => ?_)
  · refine AWp.block ?_
    refine AWp.loopT (fun s3 => ⟨[(6, (V.int .i64) s3), (5, (V.int .i64) (a1.size : Int)), (2, V.bool false), (0, V.str a1)], []⟩) hq2 (Wk.selS [] (by decide) rfl (SelE.leaf (lk 0 rfl rfl) rfl (.refl _) (fun m => ((TyOk.int .i64).lt _ _)) (SelE.leaf (lk 1 rfl rfl) rfl (.refl _) (fun m => ((TyOk.int .i64).lt _ _)) (SelE.leaf (lk 3 rfl rfl) rfl (.refl _) (fun m => (TyOk.bool.lt _ _)) (SelE.leaf (lk 4 rfl rfl) rfl (.refl _) (fun m => (TyOk.str.lt _ _)) .nil)))) .nil) (fun _ s3 h2 => ?_)
    rw [field_Name_L1] at h2
    refine AWp.seq ?_
    refine W.reg [0] rfl ?_
    refine S.sil 7 rfl rfl (fun _ hF => .lss (lk 0 rfl rfl) (lk 1 rfl rfl)) ?_
    refine S.nil ?_
    refine thenQ_n ?_
    refine AWp.seq ?_
    refine AWp.condM (lk 0 rfl rfl) h2 (fun c1 h2 => ?_) (fun c1 h2 => ?_)
    · skip
      refine AWp.skip ?_
      refine thenQ_n ?_
      refine AWp.seq ?_
      refine AWp.block ?_
      refine AWp.seq ?_
      refine W.reg [0, 1] rfl ?_
      refine S.sil 8 rfl rfl (fun _ hF => .move (lk 1 rfl rfl)) ?_
      refine S.sil 3 rfl rfl (fun _ hF => .assign (lk 0 rfl rfl)) ?_
      refine S.nil ?_
      refine thenQ_n ?_
      refine AWp.seq ?_
      refine W.reg [0, 1, 2, 3, 4, 5, 6, 7, 8, 9] rfl ?_
      refine S.sil 9 rfl rfl (fun _ hF => .move (lk 6 rfl rfl)) ?_
      refine S.sil 10 rfl rfl (fun _ hF => .move (lk 1 rfl rfl)) ?_
      obtain ⟨n5, m5, h2⟩ := h2.bnd
      refine S.sil 11 rfl rfl (fun _ hF => .ixStr und9 (lk 1 rfl rfl) (lk 0 rfl rfl) m5) ?_
      refine S.sil 12 rfl rfl (fun _ hF => .lss (lk 0 rfl rfl) cI) ?_
      refine S.sil 13 rfl rfl (fun _ hF => .move (lk 0 rfl rfl)) ?_
      refine S.gsil 14 4 13 false rfl rfl rfl (lk 0 rfl rfl) (fun hB _ hF => .move (lk 11 rfl rfl)) ?_
      refine S.gsil 15 4 13 false rfl rfl rfl (lk 1 rfl rfl) (fun hB _ hF => .move (lk 6 rfl rfl)) ?_
      obtain ⟨n6, m6, h2⟩ := h2.bnd
      refine S.gsil 16 4 13 false rfl rfl rfl (lk 2 rfl rfl) (fun hB _ hF => .ixStr und9 (ifT hB (lk 1 rfl rfl)) (ifT hB (lk 0 rfl rfl)) (gd_get m6 hB)) ?_
      refine S.gsil 17 4 13 false rfl rfl rfl (lk 3 rfl rfl) (fun hB _ hF => .gtr (ifT hB (lk 0 rfl rfl)) cI) ?_
      refine S.sil 18 rfl rfl (fun _ hF => .pickOr (lk 4 rfl rfl) cB (fun h => ifT h (lk 0 rfl rfl))) ?_
      refine S.nil ?_
      refine thenQ_n ?_
      refine AWp.condM (lk 0 rfl rfl) h2 (fun c2 h2 => ?_) (fun c2 h2 => ?_)
      · skip
        refine AWp.seq ?_
        refine W.reg [0] rfl ?_
        refine S.sil 2 rfl rfl (fun _ hF => .assign cB) ?_
        refine S.nil ?_
        refine thenQ_n ?_
        refine AWp.ret ?_
        refine blockQ_r ?_
        refine thenQ_r ?_
        refine thenQ_r ?_
        refine blockQ_r ?_
        refine thenQ_r ?_
        refine thenQ_r ?_
        have h := Ok.inrq h h2.ret
        obtain rfl := h.ret
        exact endF1 rfl (Wk.selS [] .nil rfl (SelE.leaf (lk 0 rfl rfl) rfl (.refl _) (fun m => (TyOk.bool.lt _ _)) .nil) .nil) (.tmp (lk 0 rfl rfl) rfl) rfl rfl
      · skip
        refine AWp.skip ?_
        refine blockQ_n ?_
        refine thenQ_n ?_
        refine W.reg [0, 1] rfl ?_
        refine S.sil 19 rfl rfl (fun _ hF => .add (lk 13 rfl rfl) cI) ?_
        refine S.sil 6 rfl rfl (fun _ hF => .move (lk 0 rfl rfl)) ?_
        refine S.nil ?_
        refine thenQ_n ?_
        exact ⟨_, h2.ret, (Wk.selS [] (by decide) rfl (SelE.leaf (lk 0 rfl rfl) rfl (.refl _) (fun m => ((TyOk.int .i64).lt _ _)) (SelE.leaf (lk 16 rfl rfl) rfl (.refl _) (fun m => ((TyOk.int .i64).lt _ _)) (SelE.leaf (lk 17 rfl rfl) rfl (.refl _) (fun m => (TyOk.bool.lt _ _)) (SelE.leaf (lk 18 rfl rfl) rfl (.refl _) (fun m => (TyOk.str.lt _ _)) .nil)))) .nil)⟩
    · skip
      refine AWp.exit ?_
      refine thenQ_x ?_
      refine thenQ_x ?_
      refine blockQ_x ?_
      refine thenQ_n ?_
      exact ⟨_, h2.ret, (Wk.selS [] (by decide) rfl (SelE.leaf (lk 3 rfl rfl) rfl (.refl _) (fun m => (TyOk.bool.lt _ _)) (SelE.leaf (lk 4 rfl rfl) rfl (.refl _) (fun m => (TyOk.str.lt _ _)) .nil)) .nil)⟩
  · skip
    refine thenQ_n ?_
    refine AWp.seq ?_
    refine W.reg [0, 1, 2, 3, 4, 5, 6, 7, 8] rfl ?_
    refine S.sil 20 rfl rfl (fun _ hF => .move (lk 1 rfl rfl)) ?_
    refine S.sil 21 rfl rfl (fun _ hF => .lenS und9 (lk 0 rfl rfl)) ?_
    refine S.sil 22 rfl rfl (fun _ hF => .geq (lk 0 rfl rfl) cI) ?_
    refine S.sil 23 rfl rfl (fun _ hF => .move (lk 0 rfl rfl)) ?_
    refine S.gsil 24 3 23 true rfl rfl rfl (lk 0 rfl rfl) (fun hB _ hF => .move (lk 5 rfl rfl)) ?_
    refine S.gsil 25 3 23 true rfl rfl rfl (lk 1 rfl rfl) (fun hB _ hF => .lenS und9 (ifT hB (lk 0 rfl rfl))) ?_
    refine S.gsil 26 3 23 true rfl rfl rfl (lk 2 rfl rfl) (fun hB _ hF => .leq (ifT hB (lk 0 rfl rfl)) cI) ?_
    refine S.sil 27 rfl rfl (fun _ hF => .pickAnd (lk 3 rfl rfl) (fun h => ifT h (lk 0 rfl rfl)) cB) ?_
    obtain ⟨v7, ev7, h⟩ := h.nam
    refine S.sil 2 rfl rfl (fun _ hF => .nv (.assign (lk 0 rfl rfl)) (congrArg V.bool ev7.symm)) ?_
    refine S.nil ?_
    refine thenQ_n ?_
    refine AWp.prune (.eq (lk 0 rfl rfl) rfl .nil) ?_
    refine AWp.ret ?_
    obtain rfl := h.ret
    exact endF1 rfl (Wk.selS [] .nil rfl (SelE.leaf (lk 0 rfl rfl) rfl (.refl _) (fun m => (TyOk.bool.lt _ _)) .nil) .nil) (.tmp (lk 0 rfl rfl) rfl) rfl rfl
theorem C_clone_38 {a1 : List THold} {r : List THold} (h : app 40 [] a1 = some r) : PureC Pg 38 [E_S_THold a1] (E_S_THold r) := by
  refine PureC.ofF (CallSpec.of_bodyF 8 0 fn38 rfl rfl rfl (Nat.le_of_ble_eq_true rfl) ?_) (ltL_c (ty_S_THold.lt _ _) ltL_nil) (ty_S_THold.lt _ _)
  have hr := (app_get h).2
  refine AWp.seq ?_
  refine W.reg [0] rfl ?_
  refine S.sil 2 rfl rfl (fun _ hF => .assign cNs) ?_
  refine S.nil ?_
  refine thenQ_n ?_
  refine AWp.splitNil (t := 0) (lk 1 rfl rfl) (fun hn => ?_) ?_
  · obtain rfl : a1 = [] := List.map_eq_nil_iff.1 hn
    obtain rfl : r = [] := by simpa using hr
    refine AWp.seq ?_
    refine AWp.seq ?_
    refine W.reg [0, 1] rfl ?_
    refine S.sil 3 rfl rfl (fun _ hF => .move (lk 0 rfl rfl)) ?_
    refine S.sil 4 rfl rfl (fun _ hF => .eqlNil sli31 (lk 0 rfl rfl) cNs) ?_
    refine S.nil ?_
    refine thenQ_n ?_
    refine AWp.condT (lk 0 rfl rfl) ?_
    refine AWp.seq ?_
    refine W.reg [0] rfl ?_
    refine S.sil 2 rfl rfl (fun _ hF => .assign cNs) ?_
    refine S.nil ?_
    refine thenQ_n ?_
    refine AWp.ret ?_
    refine thenQ_r ?_
    exact endF1 rfl (Wk.selS [] .nil rfl (SelE.leaf (lk 0 rfl rfl) rfl (.nils_no 5) (fun m => (ty_S_THold.lt ([] : List THold) _)) .nil) .nil) (.tmp (lk 0 rfl rfl) rfl) rfl rfl
  · refine AWp.seq ?_
    refine AWp.seq ?_
    refine W.reg [0, 1] rfl ?_
    refine S.sil 3 rfl rfl (fun _ hF => .move (lk 0 rfl rfl)) ?_
    refine S.sil 4 rfl rfl (fun _ hF => .eqlNn sli31 (lk 0 rfl rfl) cNs) ?_
    refine S.nil ?_
    refine thenQ_n ?_
    refine AWp.condF (lk 0 rfl rfl) ?_
    refine AWp.skip ?_
    refine thenQ_n ?_
    refine AWp.seq ?_
    refine W.reg [0, 1, 2, 3] rfl ?_
    refine S.sil 5 rfl rfl (fun _ hF => .buildSliceW sli31 zv66 rfl rfl (by decide) .nil) ?_
    refine S.sil 6 rfl rfl (fun _ hF => .move (lk 3 rfl rfl)) ?_
    refine S.new 7 rfl rfl (.appX (f := E_THold) (xs := []) sli31 und31 zv66 rfl (by decide) (lk 1 rfl rfl) (V.sub.refl _) (lk 0 rfl rfl) Rd.sl h rfl) trivial ?_
    refine S.sil 2 rfl rfl (fun _ hF => .assign (lk 0 rfl rfl)) ?_
    refine S.nil ?_
    refine thenQ_n ?_
    refine AWp.ret ?_
    exact endF1 rfl (Wk.selS [] .nil rfl (SelE.leaf (lk 0 rfl rfl) rfl (.forget _ _ _) (fun m => (ty_S_THold.lt r _)) .nil) .nil) (.tmp (lk 0 rfl rfl) rfl) rfl rfl
theorem C_field_done {a1 : TField} {a2 : Int} {r : TField × Int} (h : field_done a1 a2 = some r) : PureC Pg 73 [E_TField a1, (V.int .i64) a2] (.tup [E_TField r.1, (V.int .i64) r.2]) := by
  refine PureC.ofF (CallSpec.of_bodyF 15 0 fn73 rfl rfl rfl (Nat.le_of_ble_eq_true rfl) ?_) (ltL_c (ty_TField.lt _ _) (ltL_c ((TyOk.int .i64).lt _ _) ltL_nil)) (lt_tup (ltL_c (ty_TField.lt _ _) (ltL_c ((TyOk.int .i64).lt _ _) ltL_nil)))
  replace h := Ok.of h
  unfold field_done at h
  refine AWp.seq ?_
  refine W.reg [0, 1, 2] rfl ?_
  refine S.eff 2 rfl rfl (.nf (v2 := .ptr 0 [] 0) (H2 := [.cells (E_TField a1)]) (.box (lk 0 rfl rfl) rfl) rfl rfl) trivial ?_
  refine S.eff 4 rfl rfl (.nf (v2 := .ptr 1 [] 0) (H2 := [.cells (E_TField a1), .cells (.st [V.str (default : ByteArray), (V.int .i64) 0, (V.int .i64) 0, E_TCounter (default : TCounter), E_TLock (default : TLock), .nils])]) (.alloc zv33) rfl rfl) trivial ?_
  refine S.sil 5 rfl rfl (fun _ hF => .assign cI) ?_
  refine S.nil ?_
  refine thenQ_n ?_
  refine AWp.seq ?_
  refine AWp.seq ?_
  refine W.reg [0, 1] rfl ?_
  refine S.sil 6 rfl rfl (fun _ hF => .move (lk 4 rfl rfl)) ?_
  refine S.sil 7 rfl rfl (fun _ hF => .neq (lk 0 rfl rfl) cI) ?_
  refine S.nil ?_
  refine thenQ_n ?_
  refine AWp.condM (lk 0 rfl rfl) h (fun c1 h => ?_) (fun c1 h => ?_)
  · skip
    refine AWp.seq ?_
    refine W.reg [0, 1, 2, 3] rfl ?_
    obtain ⟨v3, ev3, h⟩ := h.nam
    refine S.sil 8 rfl rfl (fun _ hF => .nv (.vs (v := .st [V.str (default : ByteArray), (V.int .i64) 0, (V.int .i64) 0, E_TCounter (default : TCounter), E_TLock (default : TLock), .nils]) (v2 := E_TField (⟨(default : ByteArray), 0, 0, (default : TCounter), (default : TLock), ([] : List THold)⟩ : TField)) (.buildStW lay33 zv33 rfl .nil) rfl (.st (.cons (.refl _) (.cons (.refl _) (.cons (.refl _) (.cons (.refl _) (.cons (.refl _) (.cons (.nils_no _) .nil)))))))) (congrArg E_TField ev3.symm)) ?_
    refine S.sil 9 rfl rfl (fun _ hF => .move (lk 7 rfl rfl)) ?_
    refine S.effN rfl rfl (.nf (H2 := [.cells (E_TField a1), .cells (E_TField v3)]) (.storeP sz33 (lk 5 rfl rfl) (lk 1 rfl rfl) rfl (.refl _) rfl .nil (by first | rfl | omega) .nil (ty_TField.fl v3) (fl_st (flL_c (show flen _ = 1 from rfl) (flL_c (show flen _ = 1 from rfl) (flL_c (show flen _ = 1 from rfl) (flL_c (ty_TCounter.fl (default : TCounter)) (flL_c (ty_TLock.fl (default : TLock)) (flL_c (show flen _ = 1 from rfl) flL_nil))))))) rfl) rfl rfl) trivial ?_
    refine S.sil 5 rfl rfl (fun _ hF => .assign (lk 0 rfl rfl)) ?_
    refine S.nil ?_
    refine thenQ_n ?_
    refine AWp.ret ?_
    refine thenQ_r ?_
    refine endF_wk (Wk.freeze 1 rfl rfl (.same (lk 0 rfl rfl) (.same (lk 0 rfl rfl) (.cons (lk 6 rfl rfl) rfl (.ptr .nil (by first | rfl | omega)) .nil))) (.refl _)) ?_
    obtain rfl := h.ret
    exact endFN rfl (Wk.selS [] .nil rfl (SelE.leaf (lk 2 rfl rfl) rfl (.refl _) (fun m => (lt_cptr (ty_TField.lt _ _))) (SelE.leaf (lk 0 rfl rfl) rfl (.refl _) (fun m => ((TyOk.int .i64).lt _ _)) .nil)) .nil) (.cons (.cellC sz33 ag33 (lk 0 rfl rfl) (ty_TField.fl _) rfl) (.cons (.tmp (lk 1 rfl rfl) rfl) .nil)) rfl rfl rfl
  · skip
    refine AWp.skip ?_
    refine thenQ_n ?_
    refine AWp.seq ?_
    refine W.reg [0, 1, 2, 3, 4] rfl ?_
    refine S.sil 10 rfl rfl (fun _ hF => .fieldAddr lay33 rfl rfl (lk 4 rfl rfl)) ?_
    refine S.qui 11 rfl rfl (fun _ => .loadP sz31 ag31 (lk 0 rfl rfl) rfl (.st rfl (flL_c (show flen _ = 1 from rfl) (flL_c (show flen _ = 1 from rfl) (flL_c (show flen _ = 1 from rfl) (flL_c (ty_TCounter.fl a1.Counter) (flL_c (ty_TLock.fl a1.Lock) flL_nil))))) .nil) (by first | rfl | omega) rfl rfl) ?_
    obtain ⟨r4, m4, h⟩ := h.bnd
    refine S.sil 12 rfl rfl (fun _ hF => .callQ ent38 cF (.c (lk 0 rfl rfl) (V.sub.refl _) .nil) (C_clone_38 m4)) ?_
    refine S.sil 13 rfl rfl (fun _ hF => .fieldAddr lay33 rfl rfl (lk 7 rfl rfl)) ?_
    obtain ⟨v5, ev5, h⟩ := h.nam
    refine S.effN rfl rfl (.nf (H2 := [.cells (E_TField v5), .cells (.st [V.str (default : ByteArray), (V.int .i64) 0, (V.int .i64) 0, E_TCounter (default : TCounter), E_TLock (default : TLock), .nils])]) (.storeP sz31 (lk 0 rfl rfl) (lk 1 rfl rfl) rfl (.refl _) rfl (.st rfl (flL_c (show flen _ = 1 from rfl) (flL_c (show flen _ = 1 from rfl) (flL_c (show flen _ = 1 from rfl) (flL_c (ty_TCounter.fl a1.Counter) (flL_c (ty_TLock.fl a1.Lock) flL_nil))))) .nil) (by first | rfl | omega) (.st rfl .nil rfl) rfl rfl (congrArg (fun z => ([AObj.cells (E_TField z), .cells (.st [V.str (default : ByteArray), (V.int .i64) 0, (V.int .i64) 0, E_TCounter (default : TCounter), E_TLock (default : TLock), .nils])] : List AObj)) ev5.symm)) rfl rfl) trivial ?_
    refine S.nil ?_
    refine thenQ_n ?_
    refine AWp.seq ?_
    refine W.reg [0, 1, 2] rfl ?_
    refine S.qui 14 rfl rfl (fun _ => .loadP sz33 ag33 (lk 8 rfl rfl) rfl .nil (by first | rfl | omega) (ty_TField.fl v5) rfl) ?_
    refine S.effN rfl rfl (.nf (H2 := [.cells (E_TField v5), .cells (E_TField v5)]) (.storeP sz33 (lk 8 rfl rfl) (lk 0 rfl rfl) rfl (.refl _) rfl .nil (by first | rfl | omega) .nil (ty_TField.fl v5) (fl_st (flL_c (show flen _ = 1 from rfl) (flL_c (show flen _ = 1 from rfl) (flL_c (show flen _ = 1 from rfl) (flL_c (ty_TCounter.fl (default : TCounter)) (flL_c (ty_TLock.fl (default : TLock)) (flL_c (show flen _ = 1 from rfl) flL_nil))))))) rfl) rfl rfl) trivial ?_
    refine S.sil 5 rfl rfl (fun _ hF => .assign cI) ?_
    refine S.nil ?_
    refine thenQ_n ?_
    refine AWp.prune (.eq (lk 0 rfl rfl) rfl (.eq (lk 9 rfl rfl) rfl .nil)) ?_
    refine AWp.ret ?_
    refine endF_wk (Wk.freeze 1 rfl rfl (.same (lk 0 rfl rfl) (.cons (lk 1 rfl rfl) rfl (.ptr .nil (by first | rfl | omega)) .nil)) (.refl _)) ?_
    obtain rfl := h.ret
    exact endFN rfl (Wk.selS [] .nil rfl (SelE.leaf (lk 1 rfl rfl) rfl (.refl _) (fun m => (lt_cptr (ty_TField.lt _ _))) (SelE.leaf (lk 0 rfl rfl) rfl (.refl _) (fun m => ((TyOk.int .i64).lt _ _)) .nil)) .nil) (.cons (.cellC sz33 ag33 (lk 0 rfl rfl) (ty_TField.fl _) rfl) (.cons (.tmp (lk 1 rfl rfl) rfl) .nil)) rfl rfl rfl
theorem C_field_Counter {a1 : ByteArray} {a2 : Int} {a3 : Int} {a4 : Int} {r : TField × Int} (h : field_Counter a1 a2 a3 a4 = some r) : PureC Pg 34 [V.str a1, (V.int .i64) a2, (V.int .i64) a3, (V.int .i64) a4] (.tup [E_TField r.1, (V.int .i64) r.2]) := by
  refine PureC.ofF (CallSpec.of_bodyF 29 0 fn34 rfl rfl rfl (Nat.le_of_ble_eq_true rfl) ?_) (ltL_c (TyOk.str.lt _ _) (ltL_c ((TyOk.int .i64).lt _ _) (ltL_c ((TyOk.int .i64).lt _ _) (ltL_c ((TyOk.int .i64).lt _ _) ltL_nil)))) (lt_tup (ltL_c (ty_TField.lt _ _) (ltL_c ((TyOk.int .i64).lt _ _) ltL_nil)))
  replace h := Ok.of h
  unfold field_Counter at h
  refine AWp.seq ?_
  refine W.reg [0, 1] rfl ?_
  refine S.eff 8 rfl rfl (.nf (v2 := .ptr 0 [] 0) (H2 := [.cells (.st [V.str (default : ByteArray), (V.int .i64) 0, (V.int .i64) 0, E_TCounter (default : TCounter), E_TLock (default : TLock), .nils])]) (.alloc zv33) rfl rfl) trivial ?_
  refine S.sil 9 rfl rfl (fun _ hF => .assign cI) ?_
  refine S.nil ?_
  refine thenQ_n ?_
  refine AWp.seq ?_
  refine W.reg [0, 1, 2, 3, 4, 5, 6, 7, 8, 9] rfl ?_
  refine S.sil 13 rfl rfl (fun _ hF => .move (lk 3 rfl rfl)) ?_
  refine S.sil 14 rfl rfl (fun _ hF => .move (lk 5 rfl rfl)) ?_
  refine S.sil 15 rfl rfl (fun _ hF => .move (lk 7 rfl rfl)) ?_
  obtain ⟨r5, m5, h⟩ := h.bnd
  refine S.sil 16 rfl rfl (fun _ hF => .callQ ent71 cF (.c (lk 2 rfl rfl) (V.sub.refl _) (.c (lk 1 rfl rfl) (V.sub.refl _) (.c (lk 0 rfl rfl) (V.sub.refl _) .nil))) (C_counter_New m5)) ?_
  refine S.sil 12 rfl rfl (fun _ hF => .move (lk 0 rfl rfl)) ?_
  refine S.sil 17 rfl rfl (fun _ hF => .extract (lk 0 rfl rfl) rfl) ?_
  refine S.sil 18 rfl rfl (fun _ hF => .extract (lk 1 rfl rfl) rfl) ?_
  refine S.eff 10 rfl rfl (.nf (v2 := .ptr 1 [] 0) (H2 := [.cells (.st [V.str (default : ByteArray), (V.int .i64) 0, (V.int .i64) 0, E_TCounter (default : TCounter), E_TLock (default : TLock), .nils]), .cells (E_TCounter (default : TCounter))]) (.alloc zv28) rfl rfl) trivial ?_
  refine S.effN rfl rfl (.nf (H2 := [.cells (.st [V.str (default : ByteArray), (V.int .i64) 0, (V.int .i64) 0, E_TCounter (default : TCounter), E_TLock (default : TLock), .nils]), .cells (E_TCounter r5.1)]) (.storeP sz28 (lk 0 rfl rfl) (lk 2 rfl rfl) rfl (.refl _) rfl .nil (by first | rfl | omega) .nil (ty_TCounter.fl r5.1) (ty_TCounter.fl (default : TCounter)) rfl) rfl rfl) trivial ?_
  refine S.sil 11 rfl rfl (fun _ hF => .assign (lk 1 rfl rfl)) ?_
  refine S.nil ?_
  refine thenQ_n ?_
  refine AWp.wk (Wk.freeze 1 rfl rfl (.same (lk 0 rfl rfl) (.cons (lk 1 rfl rfl) rfl (.ptr .nil (by first | rfl | omega)) (.same (lk 9 rfl rfl) (.same (lk 10 rfl rfl) (.same (lk 11 rfl rfl) .nil))))) (.refl _)) ?_
  refine AWp.seq ?_
  refine AWp.seq ?_
  refine W.reg [0, 1, 2] rfl ?_
  refine S.sil 19 rfl rfl (fun _ hF => .move (lk 4 rfl rfl)) ?_
  obtain ⟨r6, m6, h⟩ := h.bnd
  refine S.sil 20 rfl rfl (fun _ hF => .callQ ent72 cF (.c (lk 0 rfl rfl) (V.sub.refl _) .nil) (C_field_Name m6)) ?_
  refine S.sil 21 rfl rfl (fun _ hF => .not (lk 0 rfl rfl)) ?_
  refine S.nil ?_
  refine thenQ_n ?_
  refine AWp.condM (lk 0 rfl rfl) h (fun c1 h => ?_) (fun c1 h => ?_)
  · skip
    refine W.reg [0] rfl ?_
    refine S.sil 11 rfl rfl (fun _ hF => .assign cI) ?_
    refine S.nil ?_
    refine thenQ_n ?_
    refine AWp.seq ?_
    refine W.reg [0, 1, 2, 3, 4, 5, 6, 7, 8] rfl ?_
    refine S.sil 22 rfl rfl (fun _ hF => .move (lk 8 rfl rfl)) ?_
    refine S.sil 23 rfl rfl (fun _ hF => .loadC sz28 ag28 (lk 6 rfl rfl) (ty_TCounter.fl r5.1) rfl) ?_
    obtain ⟨v7, ev7, h⟩ := h.nam
    refine S.sil 24 rfl rfl (fun _ hF => .nv (.vs (v := .st [V.str a1, (V.int .i64) 1, (V.int .i64) 0, E_TCounter r5.1, E_TLock (default : TLock), .nils]) (v2 := E_TField (⟨a1, 1, 0, r5.1, (default : TLock), ([] : List THold)⟩ : TField)) (.buildStW lay33 zv33 rfl (.cons (lk 1 rfl rfl) rfl rfl rfl rfl (.cons cI rfl rfl rfl rfl (.cons (lk 0 rfl rfl) rfl rfl (ty_TCounter.fl r5.1) rfl .nil)))) rfl (.st (.cons (.refl _) (.cons (.refl _) (.cons (.refl _) (.cons (.refl _) (.cons (.refl _) (.cons (.nils_no _) .nil)))))))) (congrArg E_TField ev7.symm)) ?_
    refine S.sil 25 rfl rfl (fun _ hF => .move (lk 3 rfl rfl)) ?_
    obtain ⟨r8, m8, h⟩ := h.bnd
    refine S.sil 26 rfl rfl (fun _ hF => .callQ ent73 cF (.c (lk 1 rfl rfl) (V.sub.refl _) (.c (lk 0 rfl rfl) (V.sub.refl _) .nil)) (C_field_done m8)) ?_
    refine S.sil 27 rfl rfl (fun _ hF => .extract (lk 0 rfl rfl) rfl) ?_
    refine S.sil 28 rfl rfl (fun _ hF => .extract (lk 1 rfl rfl) rfl) ?_
    refine S.effN rfl rfl (.nf (H2 := [.cells (E_TField r8.1), .dead]) (.storeP sz33 (lk 14 rfl rfl) (lk 1 rfl rfl) rfl (.refl _) rfl .nil (by first | rfl | omega) .nil (ty_TField.fl r8.1) (fl_st (flL_c (show flen _ = 1 from rfl) (flL_c (show flen _ = 1 from rfl) (flL_c (show flen _ = 1 from rfl) (flL_c (ty_TCounter.fl (default : TCounter)) (flL_c (ty_TLock.fl (default : TLock)) (flL_c (show flen _ = 1 from rfl) flL_nil))))))) rfl) rfl rfl) trivial ?_
    refine S.sil 9 rfl rfl (fun _ hF => .assign (lk 0 rfl rfl)) ?_
    refine S.nil ?_
    refine thenQ_n ?_
    refine AWp.prune (.eq (lk 0 rfl rfl) rfl (.eq (lk 15 rfl rfl) rfl .nil)) ?_
    refine AWp.ret ?_
    refine endF_wk (Wk.freeze 0 rfl rfl (.same (lk 0 rfl rfl) (.cons (lk 1 rfl rfl) rfl (.ptr .nil (by first | rfl | omega)) .nil)) (.refl _)) ?_
    obtain rfl := h.ret
    exact endFN rfl (Wk.selS [] .nil rfl (SelE.leaf (lk 1 rfl rfl) rfl (.refl _) (fun m => (lt_cptr (ty_TField.lt _ _))) (SelE.leaf (lk 0 rfl rfl) rfl (.refl _) (fun m => ((TyOk.int .i64).lt _ _)) .nil)) .nil) (.cons (.cellC sz33 ag33 (lk 0 rfl rfl) (ty_TField.fl _) rfl) (.cons (.tmp (lk 1 rfl rfl) rfl) .nil)) rfl rfl rfl
  · skip
    refine AWp.skip ?_
    refine thenQ_n ?_
    refine AWp.seq ?_
    refine W.reg [0, 1, 2, 3, 4, 5, 6, 7, 8] rfl ?_
    refine S.sil 22 rfl rfl (fun _ hF => .move (lk 7 rfl rfl)) ?_
    refine S.sil 23 rfl rfl (fun _ hF => .loadC sz28 ag28 (lk 5 rfl rfl) (ty_TCounter.fl r5.1) rfl) ?_
    obtain ⟨v9, ev9, h⟩ := h.nam
    refine S.sil 24 rfl rfl (fun _ hF => .nv (.vs (v := .st [V.str a1, (V.int .i64) 1, (V.int .i64) 0, E_TCounter r5.1, E_TLock (default : TLock), .nils]) (v2 := E_TField (⟨a1, 1, 0, r5.1, (default : TLock), ([] : List THold)⟩ : TField)) (.buildStW lay33 zv33 rfl (.cons (lk 1 rfl rfl) rfl rfl rfl rfl (.cons cI rfl rfl rfl rfl (.cons (lk 0 rfl rfl) rfl rfl (ty_TCounter.fl r5.1) rfl .nil)))) rfl (.st (.cons (.refl _) (.cons (.refl _) (.cons (.refl _) (.cons (.refl _) (.cons (.refl _) (.cons (.nils_no _) .nil)))))))) (congrArg E_TField ev9.symm)) ?_
    refine S.sil 25 rfl rfl (fun _ hF => .move (lk 6 rfl rfl)) ?_
    obtain ⟨r10, m10, h⟩ := h.bnd
    refine S.sil 26 rfl rfl (fun _ hF => .callQ ent73 cF (.c (lk 1 rfl rfl) (V.sub.refl _) (.c (lk 0 rfl rfl) (V.sub.refl _) .nil)) (C_field_done m10)) ?_
    refine S.sil 27 rfl rfl (fun _ hF => .extract (lk 0 rfl rfl) rfl) ?_
    refine S.sil 28 rfl rfl (fun _ hF => .extract (lk 1 rfl rfl) rfl) ?_
    refine S.effN rfl rfl (.nf (H2 := [.cells (E_TField r10.1), .dead]) (.storeP sz33 (lk 13 rfl rfl) (lk 1 rfl rfl) rfl (.refl _) rfl .nil (by first | rfl | omega) .nil (ty_TField.fl r10.1) (fl_st (flL_c (show flen _ = 1 from rfl) (flL_c (show flen _ = 1 from rfl) (flL_c (show flen _ = 1 from rfl) (flL_c (ty_TCounter.fl (default : TCounter)) (flL_c (ty_TLock.fl (default : TLock)) (flL_c (show flen _ = 1 from rfl) flL_nil))))))) rfl) rfl rfl) trivial ?_
    refine S.sil 9 rfl rfl (fun _ hF => .assign (lk 0 rfl rfl)) ?_
    refine S.nil ?_
    refine thenQ_n ?_
    refine AWp.prune (.eq (lk 0 rfl rfl) rfl (.eq (lk 14 rfl rfl) rfl .nil)) ?_
    refine AWp.ret ?_
    refine endF_wk (Wk.freeze 0 rfl rfl (.same (lk 0 rfl rfl) (.cons (lk 1 rfl rfl) rfl (.ptr .nil (by first | rfl | omega)) .nil)) (.refl _)) ?_
    obtain rfl := h.ret
    exact endFN rfl (Wk.selS [] .nil rfl (SelE.leaf (lk 1 rfl rfl) rfl (.refl _) (fun m => (lt_cptr (ty_TField.lt _ _))) (SelE.leaf (lk 0 rfl rfl) rfl (.refl _) (fun m => ((TyOk.int .i64).lt _ _)) .nil)) .nil) (.cons (.cellC sz33 ag33 (lk 0 rfl rfl) (ty_TField.fl _) rfl) (.cons (.tmp (lk 1 rfl rfl) rfl) .nil)) rfl rfl rfl
theorem C_vec_Right {a1 : Vector Int 16} {r : Bool} (h : vec_Right a1 = some r) : PureC Pg 158 [E_A16_i64 a1] (V.bool r) := by
  refine PureC.ofF (CallSpec.of_bodyF 17 0 fn158 rfl rfl rfl (Nat.le_of_ble_eq_true rfl) ?_) (ltL_c (ty_A16_i64.lt _ _) ltL_nil) (TyOk.bool.lt _ _)
  replace h := Ok.of h
  unfold vec_Right at h
  refine AWp.seq ?_
  refine W.reg [0, 1] rfl ?_
  refine S.eff 1 rfl rfl (.nf (v2 := .ptr 0 [] 0) (H2 := [.cells (E_A16_i64 a1)]) (.box (lk 0 rfl rfl) rfl) rfl rfl) trivial ?_
  refine S.sil 2 rfl rfl (fun _ hF => .assign cB) ?_
  refine S.nil ?_
  refine thenQ_n ?_
  refine AWp.wk (Wk.freeze 0 rfl rfl (.same (lk 0 rfl rfl) (.cons (lk 1 rfl rfl) rfl (.ptr .nil (by first | rfl | omega)) .nil)) (.refl _)) ?_
  refine AWp.seq ?_
  refine AWp.seq ?_
  refine W.reg [0, 1] rfl ?_
  refine S.sil 5 rfl rfl (fun _ hF => .loadC sz23 ag23 (lk 1 rfl rfl) (ty_A16_i64.fl a1) rfl) ?_
  refine S.sil 6 rfl rfl (fun _ hF => .move cI) ?_
  refine S.nil ?_
  refine thenQ_n ?_
  refine AWp.cutL (fun x4 => ⟨[(2, V.bool false)], []⟩) nc_then h (fun q2 hq2 h => ?_) (fun x4 h => ?_)
  · refine AWp.block ?_
    refine AWp.loopT (fun s3 => ⟨[(6, (V.int .i64) s3), (5, E_A16_i64 a1), (2, V.bool false)], []⟩) hq2 (Wk.selS [] (by decide) rfl (SelE.leaf (lk 0 rfl rfl) rfl (.refl _) (fun m => ((TyOk.int .i64).lt _ _)) (SelE.leaf (lk 1 rfl rfl) rfl (.refl _) (fun m => (ty_A16_i64.lt _ _)) (SelE.leaf (lk 2 rfl rfl) rfl (.refl _) (fun m => (TyOk.bool.lt _ _)) .nil))) .nil) (fun _ s3 h2 => ?_)
    rw [vec_Right_L1] at h2
    refine AWp.seq ?_
    refine W.reg [0] rfl ?_
    refine S.sil 7 rfl rfl (fun _ hF => .lss (lk 0 rfl rfl) cI) ?_
    refine S.nil ?_
    refine thenQ_n ?_
    refine AWp.seq ?_
    refine AWp.condM (lk 0 rfl rfl) h2 (fun c1 h2 => ?_) (fun c1 h2 => ?_)
    · skip
      refine AWp.skip ?_
      refine thenQ_n ?_
      refine AWp.seq ?_
      refine AWp.block ?_
      refine AWp.seq ?_
      refine W.reg [0, 1] rfl ?_
      obtain ⟨k5, m5, h2⟩ := h2.bnd
      refine S.sil 8 rfl rfl (fun _ hF => .ixV arr23 (lk 2 rfl rfl) (lk 1 rfl rfl) m5 rfl) ?_
      refine S.sil 4 rfl rfl (fun _ hF => .assign (lk 0 rfl rfl)) ?_
      refine S.nil ?_
      refine thenQ_n ?_
      refine AWp.seq ?_
      refine W.reg [0, 1, 2, 3, 4, 5, 6] rfl ?_
      refine S.sil 9 rfl rfl (fun _ hF => .move (lk 0 rfl rfl)) ?_
      refine S.sil 10 rfl rfl (fun _ hF => .lss (lk 0 rfl rfl) cI) ?_
      refine S.sil 11 rfl rfl (fun _ hF => .move (lk 0 rfl rfl)) ?_
      refine S.gsil 12 2 11 false rfl rfl rfl (lk 0 rfl rfl) (fun hB _ hF => .move (lk 3 rfl rfl)) ?_
      obtain ⟨r6, m6, h2⟩ := h2.bnd
      refine S.gsil 13 2 11 false rfl rfl rfl (lk 1 rfl rfl) (fun hB _ hF => .callQ ent64 cF (.c (ifT hB (lk 0 rfl rfl)) (V.sub.refl _) .nil) (C_num_Is (gd_get m6 hB))) ?_
      refine S.gsil 14 2 11 false rfl rfl rfl (lk 2 rfl rfl) (fun hB _ hF => .not (ifT hB (lk 0 rfl rfl))) ?_
      refine S.sil 15 rfl rfl (fun _ hF => .pickOr (lk 3 rfl rfl) cB (fun h => ifT h (lk 0 rfl rfl))) ?_
      refine S.nil ?_
      refine thenQ_n ?_
      refine AWp.condM (lk 0 rfl rfl) h2 (fun c2 h2 => ?_) (fun c2 h2 => ?_)
      · skip
        refine AWp.seq ?_
        refine W.reg [0] rfl ?_
        refine S.sil 2 rfl rfl (fun _ hF => .assign cB) ?_
        refine S.nil ?_
        refine thenQ_n ?_
        refine AWp.ret ?_
        refine blockQ_r ?_
        refine thenQ_r ?_
        refine thenQ_r ?_
        refine blockQ_r ?_
        refine thenQ_r ?_
        refine thenQ_r ?_
        have h := Ok.inrq h h2.ret
        obtain rfl := h.ret
        exact endF1 rfl (Wk.selS [] .nil rfl (SelE.leaf (lk 0 rfl rfl) rfl (.refl _) (fun m => (TyOk.bool.lt _ _)) .nil) .nil) (.tmp (lk 0 rfl rfl) rfl) rfl rfl
      · skip
        refine AWp.skip ?_
        refine blockQ_n ?_
        refine thenQ_n ?_
        refine W.reg [0, 1] rfl ?_
        refine S.sil 16 rfl rfl (fun _ hF => .add (lk 10 rfl rfl) cI) ?_
        refine S.sil 6 rfl rfl (fun _ hF => .move (lk 0 rfl rfl)) ?_
        refine S.nil ?_
        refine thenQ_n ?_
        exact ⟨_, h2.ret, (Wk.selS [] (by decide) rfl (SelE.leaf (lk 0 rfl rfl) rfl (.refl _) (fun m => ((TyOk.int .i64).lt _ _)) (SelE.leaf (lk 13 rfl rfl) rfl (.refl _) (fun m => (ty_A16_i64.lt _ _)) (SelE.leaf (lk 14 rfl rfl) rfl (.refl _) (fun m => (TyOk.bool.lt _ _)) .nil))) .nil)⟩
    · skip
      refine AWp.exit ?_
      refine thenQ_x ?_
      refine thenQ_x ?_
      refine blockQ_x ?_
      refine thenQ_n ?_
      exact ⟨_, h2.ret, (Wk.selS [] (by decide) rfl (SelE.leaf (lk 3 rfl rfl) rfl (.refl _) (fun m => (TyOk.bool.lt _ _)) .nil) .nil)⟩
  · skip
    refine thenQ_n ?_
    refine AWp.seq ?_
    refine W.reg [0] rfl ?_
    refine S.sil 2 rfl rfl (fun _ hF => .assign cB) ?_
    refine S.nil ?_
    refine thenQ_n ?_
    refine AWp.ret ?_
    obtain rfl := h.ret
    exact endF1 rfl (Wk.selS [] .nil rfl (SelE.leaf (lk 0 rfl rfl) rfl (.refl _) (fun m => (TyOk.bool.lt _ _)) .nil) .nil) (.tmp (lk 0 rfl rfl) rfl) rfl rfl
theorem C_rights_Right {a1 : TRights} {r : Bool} (h : rights_Right a1 = some r) : PureC Pg 126 [E_TRights a1] (V.bool r) := by
  refine PureC.ofF (CallSpec.of_bodyF 31 0 fn126 rfl rfl rfl (Nat.le_of_ble_eq_true rfl) ?_) (ltL_c (ty_TRights.lt _ _) ltL_nil) (TyOk.bool.lt _ _)
  replace h := Ok.of h
  unfold rights_Right at h
  refine AWp.seq ?_
  refine W.reg [0, 1] rfl ?_
  refine S.eff 1 rfl rfl (.nf (v2 := .ptr 0 [] 0) (H2 := [.cells (E_TRights a1)]) (.box (lk 0 rfl rfl) rfl) rfl rfl) trivial ?_
  refine S.sil 2 rfl rfl (fun _ hF => .assign cB) ?_
  refine S.nil ?_
  refine thenQ_n ?_
  refine AWp.wk (Wk.freeze 0 rfl rfl (.same (lk 0 rfl rfl) (.cons (lk 1 rfl rfl) rfl (.ptr .nil (by first | rfl | omega)) .nil)) (.refl _)) ?_
  refine AWp.seq ?_
  refine AWp.seq ?_
  refine W.reg [0, 1, 2, 3, 4, 5, 6, 7, 8, 9] rfl ?_
  refine S.sil 5 rfl rfl (fun _ hF => .fieldAddrC lay26 rfl rfl (lk 1 rfl rfl) rfl flL_nil) ?_
  refine S.sil 6 rfl rfl (fun _ hF => .loadC sz23 ag23 (lk 0 rfl rfl) (ty_A16_i64.fl a1.Given) rfl) ?_
  obtain ⟨r2, m2, h⟩ := h.bnd
  refine S.sil 7 rfl rfl (fun _ hF => .callQ ent158 cF (.c (lk 0 rfl rfl) (V.sub.refl _) .nil) (C_vec_Right m2)) ?_
  refine S.sil 8 rfl rfl (fun _ hF => .not (lk 0 rfl rfl)) ?_
  refine S.sil 9 rfl rfl (fun _ hF => .move (lk 0 rfl rfl)) ?_
  refine S.gsil 10 4 9 false rfl rfl rfl (lk 0 rfl rfl) (fun hB _ hF => .fieldAddrC lay26 rfl rfl (lk 6 rfl rfl) rfl (flL_c (ty_A16_i64.fl a1.Given) flL_nil)) ?_
  refine S.gsil 11 4 9 false rfl rfl rfl (lk 1 rfl rfl) (fun hB _ hF => .loadC sz23 ag23 (ifT hB (lk 0 rfl rfl)) (ty_A16_i64.fl a1.Used) rfl) ?_
  obtain ⟨r3, m3, h⟩ := h.bnd
  refine S.gsil 12 4 9 false rfl rfl rfl (lk 2 rfl rfl) (fun hB _ hF => .callQ ent158 cF (.c (ifT hB (lk 0 rfl rfl)) (V.sub.refl _) .nil) (C_vec_Right (gd_get m3 hB))) ?_
  refine S.gsil 13 4 9 false rfl rfl rfl (lk 3 rfl rfl) (fun hB _ hF => .not (ifT hB (lk 0 rfl rfl))) ?_
  refine S.sil 14 rfl rfl (fun _ hF => .pickOr (lk 4 rfl rfl) cB (fun h => ifT h (lk 0 rfl rfl))) ?_
  refine S.nil ?_
  refine thenQ_n ?_
  refine AWp.condM (lk 0 rfl rfl) h (fun c1 h => ?_) (fun c1 h => ?_)
  · skip
    refine AWp.seq ?_
    refine W.reg [0] rfl ?_
    refine S.sil 2 rfl rfl (fun _ hF => .assign cB) ?_
    refine S.nil ?_
    refine thenQ_n ?_
    refine AWp.prune (.eq (lk 0 rfl rfl) rfl (.eq (lk 12 rfl rfl) rfl .nil)) ?_
    refine AWp.ret ?_
    refine thenQ_r ?_
    obtain rfl := h.ret
    exact endF1 rfl (Wk.selS [] .nil rfl (SelE.leaf (lk 0 rfl rfl) rfl (.refl _) (fun m => (TyOk.bool.lt _ _)) .nil) .nil) (.tmp (lk 0 rfl rfl) rfl) rfl rfl
  · skip
    refine AWp.skip ?_
    refine thenQ_n ?_
    refine AWp.prune (.eq (lk 10 rfl rfl) rfl (.eq (lk 11 rfl rfl) rfl .nil)) ?_
    refine AWp.seq ?_
    refine AWp.seq ?_
    refine W.reg [0, 1, 2] rfl ?_
    refine S.sil 15 rfl rfl (fun _ hF => .fieldAddrC lay26 rfl rfl (lk 1 rfl rfl) rfl (flL_c (ty_A16_i64.fl a1.Given) (flL_c (ty_A16_i64.fl a1.Used) flL_nil))) ?_
    refine S.sil 16 rfl rfl (fun _ hF => .loadC sz24 ag24 (lk 0 rfl rfl) (ty_A16_A16_i64.fl a1.Moved) rfl) ?_
    refine S.sil 17 rfl rfl (fun _ hF => .move cI) ?_
    refine S.nil ?_
    refine thenQ_n ?_
    refine AWp.cutL (fun x6 => ⟨[(2, V.bool false)], []⟩) nc_then h (fun q4 hq4 h => ?_) (fun x6 h => ?_)
    · refine AWp.block ?_
      refine AWp.loopT (fun s5 => ⟨[(17, (V.int .i64) s5), (16, E_A16_A16_i64 a1.Moved), (2, V.bool false)], []⟩) hq4 (Wk.selS [] (by decide) rfl (SelE.leaf (lk 0 rfl rfl) rfl (.refl _) (fun m => ((TyOk.int .i64).lt _ _)) (SelE.leaf (lk 1 rfl rfl) rfl (.refl _) (fun m => (ty_A16_A16_i64.lt _ _)) (SelE.leaf (lk 3 rfl rfl) rfl (.refl _) (fun m => (TyOk.bool.lt _ _)) .nil))) .nil) (fun _ s5 h4 => ?_)
      rw [rights_Right_L1] at h4
      refine AWp.seq ?_
      refine W.reg [0] rfl ?_
      refine S.sil 18 rfl rfl (fun _ hF => .lss (lk 0 rfl rfl) cI) ?_
      refine S.nil ?_
      refine thenQ_n ?_
      refine AWp.seq ?_
      refine AWp.condM (lk 0 rfl rfl) h4 (fun c2 h4 => ?_) (fun c2 h4 => ?_)
      · skip
        refine AWp.skip ?_
        refine thenQ_n ?_
        refine AWp.seq ?_
        refine AWp.block ?_
        refine AWp.seq ?_
        refine W.reg [0, 1, 2, 3, 4] rfl ?_
        refine S.sil 19 rfl rfl (fun _ hF => .move (lk 1 rfl rfl)) ?_
        obtain ⟨k7, m7, h4⟩ := h4.bnd
        refine S.sil 20 rfl rfl (fun _ hF => .ixV arr24 (lk 3 rfl rfl) (lk 2 rfl rfl) m7 rfl) ?_
        refine S.eff 4 rfl rfl (.nf (v2 := .ptr 0 [] 0) (H2 := [.cells (E_A16_i64 (default : Vector Int 16))]) (.alloc zv23) rfl rfl) trivial ?_
        refine S.sil 3 rfl rfl (fun _ hF => .assign (lk 2 rfl rfl)) ?_
        obtain ⟨v8, ev8, h4⟩ := h4.nam
        refine S.effN rfl rfl (.nf (H2 := [.cells (E_A16_i64 v8)]) (.storeP sz23 (lk 1 rfl rfl) (lk 2 rfl rfl) rfl (.refl _) rfl .nil (by first | rfl | omega) .nil (ty_A16_i64.fl (a1.Moved.get k7)) (ty_A16_i64.fl (default : Vector Int 16)) (congrArg (fun z => ([AObj.cells (E_A16_i64 z)] : List AObj)) ev8.symm)) rfl rfl) trivial ?_
        refine S.nil ?_
        refine thenQ_n ?_
        refine AWp.wk (Wk.freeze 0 rfl rfl (.same (lk 0 rfl rfl) (.cons (lk 1 rfl rfl) rfl (.ptr .nil (by first | rfl | omega)) (.same (lk 2 rfl rfl) (.same (lk 3 rfl rfl) (.same (lk 4 rfl rfl) (.same (lk 5 rfl rfl) (.same (lk 6 rfl rfl) (.same (lk 7 rfl rfl) .nil)))))))) (.refl _)) ?_
        refine AWp.seq ?_
        refine W.reg [0, 1, 2, 3, 4, 5, 6, 7, 8] rfl ?_
        refine S.sil 21 rfl rfl (fun _ hF => .loadC sz23 ag23 (lk 1 rfl rfl) (ty_A16_i64.fl v8) rfl) ?_
        obtain ⟨r9, m9, h4⟩ := h4.bnd
        refine S.sil 22 rfl rfl (fun _ hF => .callQ ent158 cF (.c (lk 0 rfl rfl) (V.sub.refl _) .nil) (C_vec_Right m9)) ?_
        refine S.sil 23 rfl rfl (fun _ hF => .not (lk 0 rfl rfl)) ?_
        refine S.sil 24 rfl rfl (fun _ hF => .move (lk 0 rfl rfl)) ?_
        refine S.gsil 25 3 24 false rfl rfl rfl (lk 0 rfl rfl) (fun hB _ hF => .move (lk 4 rfl rfl)) ?_
        obtain ⟨k10, m10, h4⟩ := h4.bnd
        refine S.gsil 26 3 24 false rfl rfl rfl (lk 1 rfl rfl) (fun hB _ hF => .ixC arr23 (lk 6 rfl rfl) (ifT hB (lk 0 rfl rfl)) (gd_get m10 hB)) ?_
        refine S.gsil 27 3 24 false rfl rfl rfl (lk 2 rfl rfl) (fun hB _ hF => .loadC sz3 ag3 (ifT hB (lk 0 rfl rfl)) rfl rfl) ?_
        refine S.gsil 28 3 24 false rfl rfl rfl (lk 3 rfl rfl) (fun hB _ hF => .neq (ifT hB (lk 0 rfl rfl)) cI) ?_
        refine S.sil 29 rfl rfl (fun _ hF => .pickOr (lk 4 rfl rfl) cB (fun h => ifT h (lk 0 rfl rfl))) ?_
        refine S.nil ?_
        refine thenQ_n ?_
        refine AWp.condM (lk 0 rfl rfl) h4 (fun c3 h4 => ?_) (fun c3 h4 => ?_)
        · skip
          refine AWp.seq ?_
          refine W.reg [0] rfl ?_
          refine S.sil 2 rfl rfl (fun _ hF => .assign cB) ?_
          refine S.nil ?_
          refine thenQ_n ?_
          refine AWp.ret ?_
          refine blockQ_r ?_
          refine thenQ_r ?_
          refine thenQ_r ?_
          refine blockQ_r ?_
          refine thenQ_r ?_
          refine thenQ_r ?_
          have h := Ok.inrq h h4.ret
          obtain rfl := h.ret
          exact endF1 rfl (Wk.selS [] .nil rfl (SelE.leaf (lk 0 rfl rfl) rfl (.refl _) (fun m => (TyOk.bool.lt _ _)) .nil) .nil) (.tmp (lk 0 rfl rfl) rfl) rfl rfl
        · skip
          refine AWp.skip ?_
          refine blockQ_n ?_
          refine thenQ_n ?_
          refine W.reg [0, 1] rfl ?_
          refine S.sil 30 rfl rfl (fun _ hF => .add (lk 14 rfl rfl) cI) ?_
          refine S.sil 17 rfl rfl (fun _ hF => .move (lk 0 rfl rfl)) ?_
          refine S.nil ?_
          refine thenQ_n ?_
          exact ⟨_, h4.ret, (Wk.selS [] (by decide) rfl (SelE.leaf (lk 0 rfl rfl) rfl (.refl _) (fun m => ((TyOk.int .i64).lt _ _)) (SelE.leaf (lk 17 rfl rfl) rfl (.refl _) (fun m => (ty_A16_A16_i64.lt _ _)) (SelE.leaf (lk 18 rfl rfl) rfl (.refl _) (fun m => (TyOk.bool.lt _ _)) .nil))) .nil)⟩
      · skip
        refine AWp.exit ?_
        refine thenQ_x ?_
        refine thenQ_x ?_
        refine blockQ_x ?_
        refine thenQ_n ?_
        exact ⟨_, h4.ret, (Wk.selS [] (by decide) rfl (SelE.leaf (lk 3 rfl rfl) rfl (.refl _) (fun m => (TyOk.bool.lt _ _)) .nil) .nil)⟩
    · skip
      refine thenQ_n ?_
      refine AWp.seq ?_
      refine W.reg [0] rfl ?_
      refine S.sil 2 rfl rfl (fun _ hF => .assign cB) ?_
      refine S.nil ?_
      refine thenQ_n ?_
      refine AWp.ret ?_
      obtain rfl := h.ret
      exact endF1 rfl (Wk.selS [] .nil rfl (SelE.leaf (lk 0 rfl rfl) rfl (.refl _) (fun m => (TyOk.bool.lt _ _)) .nil) .nil) (.tmp (lk 0 rfl rfl) rfl) rfl rfl
theorem C_num_Add {a1 : Int} {a2 : Int} {r : Int × Int} (h : num_Add a1 a2 = some r) : PureC Pg 123 [(V.int .i64) a1, (V.int .i64) a2] (.tup [(V.int .i64) r.1, (V.int .i64) r.2]) := by
  refine PureC.ofF (CallSpec.of_bodyF 15 0 fn123 rfl rfl rfl (Nat.le_of_ble_eq_true rfl) ?_) (ltL_c ((TyOk.int .i64).lt _ _) (ltL_c ((TyOk.int .i64).lt _ _) ltL_nil)) (lt_tup (ltL_c ((TyOk.int .i64).lt _ _) (ltL_c ((TyOk.int .i64).lt _ _) ltL_nil)))
  replace h := Ok.of h
  unfold num_Add at h
  refine AWp.seq ?_
  refine W.reg [0, 1] rfl ?_
  refine S.sil 4 rfl rfl (fun _ hF => .assign cI) ?_
  refine S.sil 5 rfl rfl (fun _ hF => .assign cI) ?_
  refine S.nil ?_
  refine thenQ_n ?_
  refine AWp.seq ?_
  refine W.reg [0, 1, 2, 3, 4, 5, 6, 7, 8, 9, 10] rfl ?_
  refine S.sil 6 rfl rfl (fun _ hF => .move (lk 2 rfl rfl)) ?_
  refine S.sil 7 rfl rfl (fun _ hF => .move (lk 4 rfl rfl)) ?_
  refine S.sil 8 rfl rfl (fun _ hF => .add (lk 1 rfl rfl) (lk 0 rfl rfl)) ?_
  refine S.sil 9 rfl rfl (fun _ hF => .move (lk 5 rfl rfl)) ?_
  refine S.sil 10 rfl rfl (fun _ hF => .move (lk 7 rfl rfl)) ?_
  refine S.sil 11 rfl rfl (fun _ hF => .buildSliceW sli116 zv3 rfl rfl (by decide) (.cons (lk 1 rfl rfl) rfl (.refl _) rfl (.cons (lk 0 rfl rfl) rfl (.refl _) rfl .nil))) ?_
  obtain ⟨r3, m3, h⟩ := h.bnd
  refine S.sil 12 rfl rfl (fun _ hF => .callQ ent156 cF (.c (lk 3 rfl rfl) (V.sub.refl _) (.c (lk 0 rfl rfl) (V.sub.refl _) .nil)) (C_num_checked m3)) ?_
  refine S.sil 13 rfl rfl (fun _ hF => .extract (lk 0 rfl rfl) rfl) ?_
  refine S.sil 14 rfl rfl (fun _ hF => .extract (lk 1 rfl rfl) rfl) ?_
  refine S.sil 4 rfl rfl (fun _ hF => .assign (lk 1 rfl rfl)) ?_
  refine S.sil 5 rfl rfl (fun _ hF => .assign (lk 1 rfl rfl)) ?_
  refine S.nil ?_
  refine thenQ_n ?_
  refine AWp.prune (.eq (lk 0 rfl rfl) rfl (.eq (lk 1 rfl rfl) rfl .nil)) ?_
  refine AWp.ret ?_
  obtain rfl := h.ret
  exact endFN rfl (Wk.selS [] .nil rfl (SelE.leaf (lk 1 rfl rfl) rfl (.refl _) (fun m => ((TyOk.int .i64).lt _ _)) (SelE.leaf (lk 0 rfl rfl) rfl (.refl _) (fun m => ((TyOk.int .i64).lt _ _)) .nil)) .nil) (.cons (.tmp (lk 0 rfl rfl) rfl) (.cons (.tmp (lk 1 rfl rfl) rfl) .nil)) rfl rfl rfl
theorem C_num_Must {a1 : Int} {a2 : Int} {r : Int} (h : num_Must a1 a2 = some r) : PureC Pg 134 [(V.int .i64) a1, (V.int .i64) a2] ((V.int .i64) r) := by
  refine PureC.ofF (CallSpec.of_bodyF 10 0 fn134 rfl rfl rfl (Nat.le_of_ble_eq_true rfl) ?_) (ltL_c ((TyOk.int .i64).lt _ _) (ltL_c ((TyOk.int .i64).lt _ _) ltL_nil)) ((TyOk.int .i64).lt _ _)
  replace h := Ok.of h
  unfold num_Must at h
  refine AWp.seq ?_
  refine W.reg [0] rfl ?_
  refine S.sil 4 rfl rfl (fun _ hF => .assign cI) ?_
  refine S.nil ?_
  refine thenQ_n ?_
  refine AWp.seq ?_
  refine AWp.seq ?_
  refine W.reg [0, 1] rfl ?_
  refine S.sil 5 rfl rfl (fun _ hF => .move (lk 2 rfl rfl)) ?_
  refine S.sil 6 rfl rfl (fun _ hF => .neq (lk 0 rfl rfl) cI) ?_
  refine S.nil ?_
  refine thenQ_n ?_
  refine AWp.condM (lk 0 rfl rfl) h (fun c1 h => ?_) (fun c1 h => ?_)
  · skip
    exact h.no.elim
  · skip
    refine AWp.skip ?_
    refine thenQ_n ?_
    refine AWp.seq ?_
    refine W.reg [0, 1] rfl ?_
    refine S.sil 9 rfl rfl (fun _ hF => .move (lk 3 rfl rfl)) ?_
    refine S.sil 4 rfl rfl (fun _ hF => .assign (lk 0 rfl rfl)) ?_
    refine S.nil ?_
    refine thenQ_n ?_
    refine AWp.ret ?_
    obtain rfl := h.ret
    exact endF1 rfl (Wk.selS [] .nil rfl (SelE.leaf (lk 0 rfl rfl) rfl (.refl _) (fun m => ((TyOk.int .i64).lt _ _)) .nil) .nil) (.tmp (lk 0 rfl rfl) rfl) rfl rfl
theorem C_num_Sum_1 {a1 : List Int} {r : Int} (h : num_Sum_1 a1 = some r) : PureC Pg 133 [.cptr (.sl 1 .no (List.map (V.int .i64) a1))] ((V.int .i64) r) := by
  refine PureC.ofF (CallSpec.of_bodyF 19 0 fn133 rfl rfl rfl (Nat.le_of_ble_eq_true rfl) ?_) (ltL_c (lt_cptr (lt_sl rfl ((TyOk.int .i64).ltm _ _))) ltL_nil) ((TyOk.int .i64).lt _ _)
  replace h := Ok.of h
  unfold num_Sum_1 at h
  refine AWp.seq ?_
  refine W.reg [0] rfl ?_
  refine S.sil 1 rfl rfl (fun _ hF => .assign cI) ?_
  refine S.nil ?_
  refine thenQ_n ?_
  refine AWp.seq ?_
  refine W.reg [0] rfl ?_
  refine S.sil 2 rfl rfl (fun _ hF => .assign cI) ?_
  refine S.nil ?_
  refine thenQ_n ?_
  refine AWp.seq ?_
  refine AWp.seq ?_
  refine W.reg [0, 1, 2] rfl ?_
  refine S.sil 5 rfl rfl (fun _ hF => .loadC sz116 ag116 (lk 2 rfl rfl) rfl rfl) ?_
  refine S.sil 6 rfl rfl (fun _ hF => .lenT sli116 (lk 0 rfl rfl) (vsub rfl (.refl _))) ?_
  refine S.sil 7 rfl rfl (fun _ hF => .move cI) ?_
  refine S.nil ?_
  refine thenQ_n ?_
  refine AWp.cutX (fun x4 => ⟨[(2, (V.int .i64) x4), (1, (V.int .i64) 0)], []⟩) nc_then h (fun q2 hq2 => ?_) (fun x4 h => ?_)
  · refine AWp.block ?_
    refine AWp.loopT (fun s3 => ⟨[(7, (V.int .i64) s3.1), (6, (V.int .i64) (a1.length : Int)), (5, .sl 1 .no (List.map (V.int .i64) a1)), (2, (V.int .i64) s3.2), (1, (V.int .i64) 0)], []⟩) hq2 (Wk.selS [] (by decide) rfl (SelE.leaf (lk 0 rfl rfl) rfl (.refl _) (fun m => ((TyOk.int .i64).lt _ _)) (SelE.leaf (lk 1 rfl rfl) rfl (.refl _) (fun m => ((TyOk.int .i64).lt _ _)) (SelE.leaf (lk 2 rfl rfl) rfl (.refl _) (fun m => (lt_sl rfl ((TyOk.int .i64).ltm _ _))) (SelE.leaf (lk 3 rfl rfl) rfl (.refl _) (fun m => ((TyOk.int .i64).lt _ _)) (SelE.leaf (lk 4 rfl rfl) rfl (.refl _) (fun m => ((TyOk.int .i64).lt _ _)) .nil))))) .nil) (fun _ s3 h2 => ?_)
    rw [num_Sum_1_L1] at h2
    refine AWp.seq ?_
    refine W.reg [0] rfl ?_
    refine S.sil 8 rfl rfl (fun _ hF => .lss (lk 0 rfl rfl) (lk 1 rfl rfl)) ?_
    refine S.nil ?_
    refine thenQ_n ?_
    refine AWp.seq ?_
    refine AWp.condM (lk 0 rfl rfl) h2 (fun c1 h2 => ?_) (fun c1 h2 => ?_)
    · skip
      refine AWp.skip ?_
      refine thenQ_n ?_
      refine AWp.seq ?_
      refine AWp.block ?_
      refine AWp.seq ?_
      refine W.reg [0, 1, 2] rfl ?_
      obtain ⟨j5, m5, h2⟩ := h2.bnd
      refine S.sil 9 rfl rfl (fun _ hF => .ixS sli116 (lk 3 rfl rfl) (lk 1 rfl rfl) m5) ?_
      refine S.sil 10 rfl rfl (fun _ hF => .loadC sz3 ag3 (lk 0 rfl rfl) rfl rfl) ?_
      refine S.sil 4 rfl rfl (fun _ hF => .assign (lk 0 rfl rfl)) ?_
      refine S.nil ?_
      refine thenQ_n ?_
      refine W.reg [0, 1, 2, 3, 4, 5, 6] rfl ?_
      refine S.sil 11 rfl rfl (fun _ hF => .move (lk 7 rfl rfl)) ?_
      refine S.sil 12 rfl rfl (fun _ hF => .move (lk 1 rfl rfl)) ?_
      obtain ⟨r6, m6, h2⟩ := h2.bnd
      refine S.sil 13 rfl rfl (fun _ hF => .callQ ent123 cF (.c (lk 1 rfl rfl) (V.sub.refl _) (.c (lk 0 rfl rfl) (V.sub.refl _) .nil)) (C_num_Add m6)) ?_
      refine S.sil 14 rfl rfl (fun _ hF => .extract (lk 0 rfl rfl) rfl) ?_
      refine S.sil 15 rfl rfl (fun _ hF => .extract (lk 1 rfl rfl) rfl) ?_
      obtain ⟨r7, m7, h2⟩ := h2.bnd
      refine S.sil 16 rfl rfl (fun _ hF => .callQ ent134 cF (.c (lk 1 rfl rfl) (V.sub.refl _) (.c (lk 0 rfl rfl) (V.sub.refl _) .nil)) (C_num_Must m7)) ?_
      refine S.sil 2 rfl rfl (fun _ hF => .assign (lk 0 rfl rfl)) ?_
      refine S.nil ?_
      refine blockQ_n ?_
      refine thenQ_n ?_
      refine W.reg [0, 1] rfl ?_
      refine S.sil 17 rfl rfl (fun _ hF => .add (lk 11 rfl rfl) cI) ?_
      refine S.sil 7 rfl rfl (fun _ hF => .move (lk 0 rfl rfl)) ?_
      refine S.nil ?_
      refine thenQ_n ?_
      exact ⟨_, h2.ret, (Wk.selS [] (by decide) rfl (SelE.leaf (lk 0 rfl rfl) rfl (.refl _) (fun m => ((TyOk.int .i64).lt _ _)) (SelE.leaf (lk 14 rfl rfl) rfl (.refl _) (fun m => ((TyOk.int .i64).lt _ _)) (SelE.leaf (lk 15 rfl rfl) rfl (.refl _) (fun m => (lt_sl rfl ((TyOk.int .i64).ltm _ _))) (SelE.leaf (lk 2 rfl rfl) rfl (.refl _) (fun m => ((TyOk.int .i64).lt _ _)) (SelE.leaf (lk 17 rfl rfl) rfl (.refl _) (fun m => ((TyOk.int .i64).lt _ _)) .nil))))) .nil)⟩
    · skip
      refine AWp.exit ?_
      refine thenQ_x ?_
      refine thenQ_x ?_
      refine blockQ_x ?_
      refine thenQ_n ?_
      exact ⟨_, h2.ret, (Wk.selS [] (by decide) rfl (SelE.leaf (lk 4 rfl rfl) rfl (.refl _) (fun m => ((TyOk.int .i64).lt _ _)) (SelE.leaf (lk 5 rfl rfl) rfl (.refl _) (fun m => ((TyOk.int .i64).lt _ _)) .nil)) .nil)⟩
  · skip
    refine thenQ_n ?_
    refine AWp.seq ?_
    refine W.reg [0, 1] rfl ?_
    refine S.sil 18 rfl rfl (fun _ hF => .move (lk 0 rfl rfl)) ?_
    refine S.sil 1 rfl rfl (fun _ hF => .assign (lk 0 rfl rfl)) ?_
    refine S.nil ?_
    refine thenQ_n ?_
    refine AWp.ret ?_
    obtain rfl := h.ret
    exact endF1 rfl (Wk.selS [] .nil rfl (SelE.leaf (lk 0 rfl rfl) rfl (.refl _) (fun m => ((TyOk.int .i64).lt _ _)) .nil) .nil) (.tmp (lk 0 rfl rfl) rfl) rfl rfl
theorem ifc20 : (match Pg.underlying 20 with | some (.interface _) => true | _ => false) = true := by kernel_rfl
theorem fun151 : (match Pg.underlying 151 with | some (.func ..) => true | _ => false) = true := by kernel_rfl
theorem C_num_Must_P {a1 : Int} {a2 : Int} (h : a2 ≠ 0) : PanC Pg 134 [(V.int .i64) a1, (V.int .i64) a2] (.ifc 38 ((V.int .i64) a2)) := by
  refine PanC.ofF (CallSpec.of_bodyF 10 0 fn134 rfl rfl rfl (Nat.le_of_ble_eq_true rfl) ?_) (ltL_c ((TyOk.int .i64).lt _ _) (ltL_c ((TyOk.int .i64).lt _ _) ltL_nil)) (lt_ifc ((TyOk.int .i64).lt _ _))
  refine AWp.seq ?_
  refine W.reg [0] rfl ?_
  refine S.sil 4 rfl rfl (fun _ hF => .assign cI) ?_
  refine S.nil ?_
  refine thenQ_n ?_
  refine AWp.seq ?_
  refine AWp.seq ?_
  refine W.reg [0, 1] rfl ?_
  refine S.sil 5 rfl rfl (fun _ hF => .move (lk 2 rfl rfl)) ?_
  refine S.sil 6 rfl rfl (fun _ hF => .neq (lk 0 rfl rfl) cI) ?_
  refine S.nil ?_
  refine thenQ_n ?_
  refine AWp.cond (lk 0 rfl rfl) (fun _ => ?_) (fun e => by simp [h] at e)
  refine AWp.regionP [0, 1] 2 [] rfl rfl rfl ?_
  refine S.sil 7 rfl rfl (fun _ hF => .move (lk 4 rfl rfl)) ?_
  refine S.sil 8 rfl rfl (fun _ hF => .mkIface und38 rfl (lk 0 rfl rfl) rfl) ?_
  refine S.nil ?_
  exact ⟨_, _, .panic (lk 0 rfl rfl), thenQ_p ⟨rfl, rfl⟩⟩

theorem C_num_Sum_P {a1 : List Int} {r : Int} (h : num_Sum_P a1 = some r) : PanC Pg 133 [.cptr (.sl 1 .no (List.map (V.int .i64) a1))] (.ifc 38 ((V.int .i64) r)) := by
  refine PanC.ofF (CallSpec.of_bodyF 19 0 fn133 rfl rfl rfl (Nat.le_of_ble_eq_true rfl) ?_) (ltL_c (lt_cptr (lt_sl rfl ((TyOk.int .i64).ltm _ _))) ltL_nil) (lt_ifc ((TyOk.int .i64).lt _ _))
  refine AWp.seq ?_
  refine W.reg [0] rfl ?_
  refine S.sil 1 rfl rfl (fun _ hF => .assign cI) ?_
  refine S.nil ?_
  refine thenQ_n ?_
  refine AWp.seq ?_
  refine W.reg [0] rfl ?_
  refine S.sil 2 rfl rfl (fun _ hF => .assign cI) ?_
  refine S.nil ?_
  refine thenQ_n ?_
  refine AWp.seq ?_
  refine AWp.seq ?_
  refine W.reg [0, 1, 2] rfl ?_
  refine S.sil 5 rfl rfl (fun _ hF => .loadC sz116 ag116 (lk 2 rfl rfl) rfl rfl) ?_
  refine S.sil 6 rfl rfl (fun _ hF => .lenT sli116 (lk 0 rfl rfl) (vsub rfl (.refl _))) ?_
  refine S.sil 7 rfl rfl (fun _ hF => .move cI) ?_
  refine S.nil ?_
  refine thenQ_n ?_
  refine AWp.block ?_
  refine AWp.loopT (fun s3 => ⟨[(7, (V.int .i64) s3.1), (6, (V.int .i64) (a1.length : Int)), (5, .sl 1 .no (List.map (V.int .i64) a1)), (2, (V.int .i64) s3.2), (1, (V.int .i64) 0)], []⟩) h (Wk.selS [] (by decide) rfl (SelE.leaf (lk 0 rfl rfl) rfl (.refl _) (fun m => ((TyOk.int .i64).lt _ _)) (SelE.leaf (lk 1 rfl rfl) rfl (.refl _) (fun m => ((TyOk.int .i64).lt _ _)) (SelE.leaf (lk 2 rfl rfl) rfl (.refl _) (fun m => (lt_sl rfl ((TyOk.int .i64).ltm _ _))) (SelE.leaf (lk 3 rfl rfl) rfl (.refl _) (fun m => ((TyOk.int .i64).lt _ _)) (SelE.leaf (lk 4 rfl rfl) rfl (.refl _) (fun m => ((TyOk.int .i64).lt _ _)) .nil))))) .nil) (fun _ s3 h2 => ?_)
  rw [num_Sum_P_L1] at h2
  refine AWp.seq ?_
  refine W.reg [0] rfl ?_
  refine S.sil 8 rfl rfl (fun _ hF => .lss (lk 0 rfl rfl) (lk 1 rfl rfl)) ?_
  refine S.nil ?_
  refine thenQ_n ?_
  refine AWp.seq ?_
  refine AWp.condM (lk 0 rfl rfl) h2 (fun c1 h2 => ?_) (fun c1 h2 => h2.no.elim)
  refine AWp.skip ?_
  refine thenQ_n ?_
  refine AWp.seq ?_
  refine AWp.block ?_
  refine AWp.seq ?_
  refine W.reg [0, 1, 2] rfl ?_
  obtain ⟨j5, m5, h2⟩ := h2.bnd
  refine S.sil 9 rfl rfl (fun _ hF => .ixS sli116 (lk 3 rfl rfl) (lk 1 rfl rfl) m5) ?_
  refine S.sil 10 rfl rfl (fun _ hF => .loadC sz3 ag3 (lk 0 rfl rfl) rfl rfl) ?_
  refine S.sil 4 rfl rfl (fun _ hF => .assign (lk 0 rfl rfl)) ?_
  refine S.nil ?_
  refine thenQ_n ?_
  obtain ⟨r6, m6, h2⟩ := h2.bnd
  by_cases hz : r6.2 = 0
  · replace h2 := (h2.t (by simp [hz])).ret
    refine W.reg [0, 1, 2, 3, 4, 5, 6] rfl ?_
    refine S.sil 11 rfl rfl (fun _ hF => .move (lk 7 rfl rfl)) ?_
    refine S.sil 12 rfl rfl (fun _ hF => .move (lk 1 rfl rfl)) ?_
    refine S.sil 13 rfl rfl (fun _ hF => .callQ ent123 cF (.c (lk 1 rfl rfl) (V.sub.refl _) (.c (lk 0 rfl rfl) (V.sub.refl _) .nil)) (C_num_Add m6)) ?_
    refine S.sil 14 rfl rfl (fun _ hF => .extract (lk 0 rfl rfl) rfl) ?_
    refine S.sil 15 rfl rfl (fun _ hF => .extract (lk 1 rfl rfl) rfl) ?_
    refine S.sil 16 rfl rfl (fun _ hF => .callQ ent134 cF (.c (lk 1 rfl rfl) (V.sub.refl _) (.c (lk 0 rfl rfl) (V.sub.refl _) .nil)) (C_num_Must (r := r6.1) (by simp [num_Must, hz]))) ?_
    refine S.sil 2 rfl rfl (fun _ hF => .assign (lk 0 rfl rfl)) ?_
    refine S.nil ?_
    refine blockQ_n ?_
    refine thenQ_n ?_
    refine W.reg [0, 1] rfl ?_
    refine S.sil 17 rfl rfl (fun _ hF => .add (lk 11 rfl rfl) cI) ?_
    refine S.sil 7 rfl rfl (fun _ hF => .move (lk 0 rfl rfl)) ?_
    refine S.nil ?_
    refine thenQ_n ?_
    exact ⟨_, h2, (Wk.selS [] (by decide) rfl (SelE.leaf (lk 0 rfl rfl) rfl (.refl _) (fun m => ((TyOk.int .i64).lt _ _)) (SelE.leaf (lk 14 rfl rfl) rfl (.refl _) (fun m => ((TyOk.int .i64).lt _ _)) (SelE.leaf (lk 15 rfl rfl) rfl (.refl _) (fun m => (lt_sl rfl ((TyOk.int .i64).ltm _ _))) (SelE.leaf (lk 2 rfl rfl) rfl (.refl _) (fun m => ((TyOk.int .i64).lt _ _)) (SelE.leaf (lk 17 rfl rfl) rfl (.refl _) (fun m => ((TyOk.int .i64).lt _ _)) .nil))))) .nil)⟩
  · replace h2 := (h2.f (by simp [hz])).ret
    simp only [loopK] at h2
    subst h2
    refine AWp.regionP [0, 1, 2, 3, 4] 5 [6] rfl rfl rfl ?_
    refine S.sil 11 rfl rfl (fun _ hF => .move (lk 7 rfl rfl)) ?_
    refine S.sil 12 rfl rfl (fun _ hF => .move (lk 1 rfl rfl)) ?_
    refine S.sil 13 rfl rfl (fun _ hF => .callQ ent123 cF (.c (lk 1 rfl rfl) (V.sub.refl _) (.c (lk 0 rfl rfl) (V.sub.refl _) .nil)) (C_num_Add m6)) ?_
    refine S.sil 14 rfl rfl (fun _ hF => .extract (lk 0 rfl rfl) rfl) ?_
    refine S.sil 15 rfl rfl (fun _ hF => .extract (lk 1 rfl rfl) rfl) ?_
    refine S.nil ?_
    refine ⟨_, _, .call ent134 cF (.c (lk 1 rfl rfl) (V.sub.refl _) (.c (lk 0 rfl rfl) (V.sub.refl _) .nil)) (C_num_Must_P hz), ?_⟩
    repeat (first | refine thenQ_p ?_ | refine blockQ_p ?_)
    exact ⟨rfl, rfl⟩

/-- The deferred function, when there is a panic. -/
theorem catch_pan {g : Gh} {w : World} {xs : List Value} {e a b : Int} {older : List PanicEntry} (hx : RVs g [.ptr 1 [] 0, .ptr 0 [] 0] xs) (hr : HR g [.cells (.int .i64 a), .cells (.int .i64 b)] w) {vx : Value} (hv : RV g (.ifc 38 (.int .i64 e)) vx) :
    CallsD Pg 160 xs.toArray (.panicking ({ v := vx, recovered := false } :: older)) w fun e' u' w' => e' = .returned (.tuple #[]) ∧ u' = .panicking ({ v := vx, recovered := true } :: older) ∧
      ∃ g', HR g' [.cells (.int .i64 0), .cells (.int .i64 e)] w' ∧ Ev g [.cells (.int .i64 a), .cells (.int .i64 b)] w g' [.cells (.int .i64 0), .cells (.int .i64 e)] w' := by
  refine callsD_of_wpS fn160 rfl fun c₀ cs hu => ?_
  have h0 : RAct g 15 (argEnv 0 [.ptr 1 [] 0, .ptr 0 [] 0]) { tmps := xs.toArray ++ Array.replicate (15 - xs.toArray.size) Go.undef, defers := [] } := RAct.start hx (Nat.le_of_ble_eq_true rfl)
  have hsz : (Try.f160.ntmps : Nat) = 15 := rfl
  rw [hsz]
  apply wpS_seq
  apply wpS_region
  refine wpS_recover rfl rfl rfl (by rw [h0.size]; exact Nat.le_of_ble_eq_true rfl) (v := vx) (cs' := { c₀ with mode := .panicking ({ v := vx, recovered := true } :: older) } :: cs) (.inl (by simp [recoverD, hu])) ?_
  have h1 := (h0.put (dst := some 4) rfl hv).put (dst := some 2) rfl hv
  simp only [Exit.thenS]
  refine wpS_of_wp ?_
  refine wp_mono ((?_ : AWp Pg 15 2 _ (fun ex s => ex = .normal ∧ s.H = [.cells (.int .i64 0), .cells (.int .i64 e)]) ⟨(2, .ifc 38 (.int .i64 e)) :: (4, .ifc 38 (.int .i64 e)) :: argEnv 0 [.ptr 1 [] 0, .ptr 0 [] 0], [.cells (.int .i64 a), .cells (.int .i64 b)]⟩) ⟨g, [.cells (.int .i64 a), .cells (.int .i64 b)], w⟩ g _ w rfl (by simpa using hr.len) h1 hr (.refl _ _ _)) ?_
  · refine AWp.seq ?_
    refine W.reg [0, 1] rfl ?_
    refine S.sil 5 rfl rfl (fun _ hF => .move (lk 0 rfl rfl)) ?_
    refine S.sil 6 rfl rfl (fun _ hF => .neqIN ifc20 (lk 0 rfl rfl) cNi) ?_
    refine S.nil ?_
    refine thenQ_n ?_
    refine AWp.condT (lk 0 rfl rfl) ?_
    refine AWp.seq ?_
    refine W.reg [0] rfl ?_
    refine S.sil 3 rfl rfl (fun _ hF => .assign cB) ?_
    refine S.nil ?_
    refine thenQ_n ?_
    refine AWp.seq ?_
    refine AWp.seq ?_
    refine W.reg [0, 1, 2, 3, 4, 5, 6] rfl ?_
    refine S.sil 8 rfl rfl (fun _ hF => .move (lk 3 rfl rfl)) ?_
    refine S.sil 9 rfl rfl (fun _ hF => .assertSame und38 (lk 0 rfl rfl)) ?_
    refine S.sil 7 rfl rfl (fun _ hF => .move (lk 0 rfl rfl)) ?_
    refine S.sil 10 rfl rfl (fun _ hF => .extract (lk 0 rfl rfl) rfl) ?_
    refine S.sil 11 rfl rfl (fun _ hF => .extract (lk 1 rfl rfl) rfl) ?_
    refine S.effN rfl rfl (.nf (H2 := [.cells (.int .i64 a), .cells (.int .i64 e)]) (.storeP sz38 (lk 10 rfl rfl) (lk 1 rfl rfl) rfl (.refl _) rfl .nil rfl .nil rfl rfl rfl) rfl rfl) trivial ?_
    refine S.sil 3 rfl rfl (fun _ hF => .assign (lk 0 rfl rfl)) ?_
    refine S.nil ?_
    refine thenQ_n ?_
    refine AWp.seq ?_
    refine W.reg [0, 1] rfl ?_
    refine S.sil 12 rfl rfl (fun _ hF => .move (lk 0 rfl rfl)) ?_
    refine S.sil 13 rfl rfl (fun _ hF => .not (lk 0 rfl rfl)) ?_
    refine S.nil ?_
    refine thenQ_n ?_
    refine AWp.condF (lk 0 rfl rfl) ?_
    refine AWp.skip ?_
    refine thenQ_n ?_
    refine W.reg [0] rfl ?_
    refine S.effN rfl rfl (.nf (H2 := [.cells (.int .i64 0), .cells (.int .i64 e)]) (.storeP sz3 (lk 14 rfl rfl) cI rfl (.refl _) rfl .nil rfl .nil rfl rfl rfl) rfl rfl) trivial ?_
    refine S.nil ?_
    exact ⟨rfl, rfl⟩
  · rintro ex a' w' ⟨g', s', ae, ⟨rfl, hs⟩, hx', r1, r2, r3⟩
    cases ex <;> simp only [ExRel] at hx' <;> try exact hx'.elim
    rw [hs] at r2 r3
    exact ⟨r1.defers, _, rfl, .tuple #[], by simp [results, Try.results160, go_sem], rfl, rfl, g', r2, r3⟩

/-- The deferred function, when there is none. -/
theorem catch_idle {g : Gh} {w : World} {xs : List Value} {a b : Int} (hx : RVs g [.ptr 1 [] 0, .ptr 0 [] 0] xs) (hr : HR g [.cells (.int .i64 a), .cells (.int .i64 b)] w) :
    CallsD Pg 160 xs.toArray .returning w fun e' u' w' => e' = .returned (.tuple #[]) ∧ u' = .returning ∧
      ∃ g', HR g' [.cells (.int .i64 a), .cells (.int .i64 b)] w' ∧ Ev g [.cells (.int .i64 a), .cells (.int .i64 b)] w g' [.cells (.int .i64 a), .cells (.int .i64 b)] w' := by
  refine callsD_of_wpS fn160 rfl fun c₀ cs hu => ?_
  have h0 : RAct g 15 (argEnv 0 [.ptr 1 [] 0, .ptr 0 [] 0]) { tmps := xs.toArray ++ Array.replicate (15 - xs.toArray.size) Go.undef, defers := [] } := RAct.start hx (Nat.le_of_ble_eq_true rfl)
  have hsz : (Try.f160.ntmps : Nat) = 15 := rfl
  rw [hsz]
  apply wpS_seq
  apply wpS_region
  have hv : RV g .nili .nilIface := ⟨rfl, by simp [RC, Value.cells]⟩
  refine wpS_recover rfl rfl rfl (by rw [h0.size]; exact Nat.le_of_ble_eq_true rfl) (v := .nilIface) (cs' := c₀ :: cs) (.inr ⟨by simp [recoverD, hu], rfl, rfl⟩) ?_
  have h1 := (h0.put (dst := some 4) rfl hv).put (dst := some 2) rfl hv
  simp only [Exit.thenS]
  refine wpS_of_wp ?_
  refine wp_mono ((?_ : AWp Pg 15 2 _ (fun ex s => ex = .normal ∧ s.H = [.cells (.int .i64 a), .cells (.int .i64 b)]) ⟨(2, .nili) :: (4, .nili) :: argEnv 0 [.ptr 1 [] 0, .ptr 0 [] 0], [.cells (.int .i64 a), .cells (.int .i64 b)]⟩) ⟨g, [.cells (.int .i64 a), .cells (.int .i64 b)], w⟩ g _ w rfl (by simpa using hr.len) h1 hr (.refl _ _ _)) ?_
  · refine AWp.seq ?_
    refine W.reg [0, 1] rfl ?_
    refine S.sil 5 rfl rfl (fun _ hF => .move (lk 0 rfl rfl)) ?_
    refine S.sil 6 rfl rfl (fun _ hF => .neqNN ifc20 (lk 0 rfl rfl) cNi) ?_
    refine S.nil ?_
    refine thenQ_n ?_
    refine AWp.condF (lk 0 rfl rfl) ?_
    refine AWp.skip ?_
    exact ⟨rfl, rfl⟩
  · rintro ex a' w' ⟨g', s', ae, ⟨rfl, hs⟩, hx', r1, r2, r3⟩
    cases ex <;> simp only [ExRel] at hx' <;> try exact hx'.elim
    rw [hs] at r2 r3
    have hc : c₀ = { c₀ with mode := .returning } := by rw [← hu]
    exact ⟨r1.defers, .returning, by rw [← hc], .tuple #[], by simp [results, Try.results160, go_sem], rfl, rfl, g', r2, r3⟩


theorem ResTry {x y : Int} {env : List (Nat × V)} (h2 : look env 2 = .ptr 0 [] 0) (h3 : look env 3 = .ptr 1 [] 0) : ResOK Pg Try.f132 9 ⟨env, [.cells (.int .i64 x), .cells (.int .i64 y)]⟩ (.tup [.int .i64 x, .int .i64 y]) :=
  .many (rs := [.cell 2 3, .cell 3 38]) rfl (.cons (.cell sz3 ag3 h2 rfl (by simp [V.at]) rfl rfl rfl) (.cons (.cell sz38 ag38 h3 rfl (by simp [V.at]) rfl rfl rfl) .nil)) (by simp)

theorem Try_start {ff : FuncId} {cap : List V} {g : Gh} {w : World} {xs : List Value} (hx : RVs g [.fn ff [] cap] xs) (hr : HR g [] w) (hk : okL cap = true) {Q : Exit → Act → World → Prop}
    (k : ∀ g' a' w' b', RVl g' [.ptr 1 [] 0, .ptr 0 [] 0] b'.toList →
      RActD g' 9 [{ target := .fn (.func 160) b', args := #[] }] ((6, .fn 160 [] [.ptr 1 [] 0, .ptr 0 [] 0]) :: (5, .bool false) :: (4, .fn ff [] cap) :: (3, .ptr 1 [] 0) :: (2, .ptr 0 [] 0) :: argEnv 0 [.fn ff [] cap]) a' →
      HR g' [.cells (.int .i64 0), .cells (.int .i64 0)] w' → Ev g [] w g' [.cells (.int .i64 0), .cells (.int .i64 0)] w' →
      (tail3 (Try.f132.body.getD .skip)).wp Pg Q a' w') :
    ∃ c, Try.f132.body = some c ∧ c.wp Pg Q { tmps := xs.toArray ++ Array.replicate (9 - xs.toArray.size) Go.undef, defers := [] } w := by
  refine ⟨_, rfl, ?_⟩
  have h0 : RAct g 9 (argEnv 0 [.fn ff [] cap]) _ := RAct.start hx (Nat.le_of_ble_eq_true rfl)
  refine AWp.toD (s := ⟨argEnv 0 [.fn ff [] cap], []⟩) (s' := ⟨(3, .ptr 1 [] 0) :: (2, .ptr 0 [] 0) :: argEnv 0 [.fn ff [] cap], [.cells (.int .i64 0), .cells (.int .i64 0)]⟩) (B := ⟨g, [], w⟩) (m := 0) ?_ rfl (by simpa using hr.len) h0 hr (.refl _ _ _) fun g1 a1 w1 p1 p2 p3 => ?_
  · refine W.reg [0, 1] rfl ?_
    refine S.new 2 rfl rfl (.alloc zv3) trivial ?_
    refine S.new 3 rfl rfl (.alloc zv38) trivial ?_
    refine S.nil ?_
    exact ⟨rfl, rfl⟩
  refine AWp.toD (s := ⟨(3, .ptr 1 [] 0) :: (2, .ptr 0 [] 0) :: argEnv 0 [.fn ff [] cap], [.cells (.int .i64 0), .cells (.int .i64 0)]⟩) (s' := ⟨(5, .bool false) :: (4, .fn ff [] cap) :: (3, .ptr 1 [] 0) :: (2, .ptr 0 [] 0) :: argEnv 0 [.fn ff [] cap], [.cells (.int .i64 0), .cells (.int .i64 0)]⟩) (B := ⟨g, [], w⟩) (m := 0) ?_ rfl (by simpa using hr.len) p1 p2 p3 fun g2 a2 w2 q1 q2 q3 => ?_
  · refine AWp.seq ?_
    refine W.reg [0, 1] rfl ?_
    refine S.sil 4 rfl rfl (fun _ hF => .move (lk 2 rfl rfl)) ?_
    refine S.sil 5 rfl rfl (fun _ hF => .eqlFN fun151 (lk 0 rfl rfl) cNf) ?_
    refine S.nil ?_
    refine thenQ_n ?_
    refine AWp.condF (lk 0 rfl rfl) ?_
    refine AWp.skip ?_
    exact ⟨rfl, rfl⟩
  refine wp_seq (wp_region ?_)
  show wpOps Pg _ _ ([0] ++ [1]) a2 w2
  refine runD_of (D := []) (s := ⟨(5, .bool false) :: (4, .fn ff [] cap) :: (3, .ptr 1 [] 0) :: (2, .ptr 0 [] 0) :: argEnv 0 [.fn ff [] cap], [.cells (.int .i64 0), .cells (.int .i64 0)]⟩) (s' := ⟨(6, .fn 160 [] [.ptr 1 [] 0, .ptr 0 [] 0]) :: (5, .bool false) :: (4, .fn ff [] cap) :: (3, .ptr 1 [] 0) :: (2, .ptr 0 [] 0) :: argEnv 0 [.fn ff [] cap], [.cells (.int .i64 0), .cells (.int .i64 0)]⟩) ?_ ⟨q1.env, q1.size, q1.defers⟩ q2 fun g3 a3 w3 u1 u2 u3 => ?_
  · refine S.sil 6 rfl rfl (fun _ hF => .makeFunc (a := []) (b := [.ptr 1 [] 0, .ptr 0 [] 0]) rfl rfl rfl rfl) ?_
    refine S.nil ?_
    rfl
  refine defer_op (x := .tmp 6) (f := 160) (cap := [.ptr 1 [] 0, .ptr 0 [] 0]) rfl rfl u1 fun b' v1 v2 => ?_
  simp only [wpOps, Exit.then]
  exact k g3 _ w3 b' v1 v2 u2 (q3.trans u3)

theorem C_Try_ret {ff : FuncId} {cap : List V} {r : Int} (hE : enters Pg ff = true) (hc : V.ltL 0 cap = true) (hk : okL cap = true) (hf : PureC Pg ff cap (.int .i64 r)) : PureC Pg 132 [.fn ff [] cap] (.tup [.int .i64 r, .int .i64 0]) := by
  refine PureC.of ?_ (ltL_c (lt_fn ltL_nil hc) ltL_nil) (lt_tup (ltL_c ((TyOk.int .i64).lt _ _) (ltL_c ((TyOk.int .i64).lt _ _) ltL_nil)))
  intro g w xs hx hr
  refine Exists.elim (Try_start (Q := bodyPostD Pg Try.f132 fun e w' => ∃ g' H' o, o = .ret (.tup [.int .i64 r, .int .i64 0]) ∧ OutRel g' e o ∧ HR g' H' w' ∧ Ev g [] w g' H' w') hx hr hk fun g1 a1 w1 b' v1 u1 u2 u3 => ?_) fun c hb => calls_of_wp_defers fn132 hb.1 hb.2
  · refine wp_seq (wp_region ?_)
    show wpOps Pg _ _ ([0, 1, 2, 3] ++ []) a1 w1
    refine runD_of (s := ⟨(6, .fn 160 [] [.ptr 1 [] 0, .ptr 0 [] 0]) :: (5, .bool false) :: (4, .fn ff [] cap) :: (3, .ptr 1 [] 0) :: (2, .ptr 0 [] 0) :: argEnv 0 [.fn ff [] cap], [.cells (.int .i64 0), .cells (.int .i64 0)]⟩) (s' := ⟨(8, .int .i64 r) :: (7, .fn ff [] cap) :: (6, .fn 160 [] [.ptr 1 [] 0, .ptr 0 [] 0]) :: (5, .bool false) :: (4, .fn ff [] cap) :: (3, .ptr 1 [] 0) :: (2, .ptr 0 [] 0) :: argEnv 0 [.fn ff [] cap], [.cells (.int .i64 r), .cells (.int .i64 0)]⟩) ?_ u1 u2 fun g2 a2 w2 p1 p2 p3 => ?_
    · refine S.sil 7 rfl rfl (fun _ hF => .move (lk 5 rfl rfl)) ?_
      refine S.sil 8 rfl rfl (fun _ hF => .callQ hE (lk 0 rfl rfl) (by simpa using SubL.refl _) hf) ?_
      refine S.effN rfl rfl (.nf (H2 := [.cells (.int .i64 r), .cells (.int .i64 0)]) (.storeP sz3 (lk 6 rfl rfl) (lk 0 rfl rfl) rfl (.refl _) rfl .nil rfl .nil rfl rfl rfl) rfl rfl) trivial ?_
      refine S.effN rfl rfl (.nf (H2 := [.cells (.int .i64 r), .cells (.int .i64 0)]) (.storeP sz38 (lk 5 rfl rfl) cI rfl (.refl _) rfl .nil rfl .nil rfl rfl rfl) rfl rfl) trivial ?_
      refine S.nil ?_
      rfl
    simp only [wpOps, Exit.then]
    refine wp_ret ?_
    simp only [bodyPostD]
    rw [p1.defers]
    refine leaves_cons (by simp) (invoke_fn ent160 b' w2) ?_
    refine (catch_idle (xs := b'.toList) (v1.rvs.mono p3.le) p2).mono ?_
    rintro e' u' w3 ⟨rfl, rfl, g3, q1, q2⟩
    obtain ⟨x, h1, h2⟩ := (ResTry (x := r) (y := 0) (env := (8, .int .i64 r) :: (7, .fn ff [] cap) :: (6, .fn 160 [] [.ptr 1 [] 0, .ptr 0 [] 0]) :: (5, .bool false) :: (4, .fn ff [] cap) :: (3, .ptr 1 [] 0) :: (2, .ptr 0 [] 0) :: argEnv 0 [.fn ff [] cap]) rfl rfl).drop (p1.mono q2.le) q1
    exact ⟨x, h1, g3, _, _, rfl, h2, q1, (u3.trans p3).trans q2⟩

theorem C_Try_pan {ff : FuncId} {cap : List V} {r : Int} (hE : enters Pg ff = true) (hc : V.ltL 0 cap = true) (hk : okL cap = true) (hf : PanC Pg ff cap (.ifc 38 (.int .i64 r))) : PureC Pg 132 [.fn ff [] cap] (.tup [.int .i64 0, .int .i64 r]) := by
  refine PureC.of ?_ (ltL_c (lt_fn ltL_nil hc) ltL_nil) (lt_tup (ltL_c ((TyOk.int .i64).lt _ _) (ltL_c ((TyOk.int .i64).lt _ _) ltL_nil)))
  intro g w xs hx hr
  refine Exists.elim (Try_start (Q := bodyPostD Pg Try.f132 fun e w' => ∃ g' H' o, o = .ret (.tup [.int .i64 0, .int .i64 r]) ∧ OutRel g' e o ∧ HR g' H' w' ∧ Ev g [] w g' H' w') hx hr hk fun g1 a1 w1 b' v1 u1 u2 u3 => ?_) fun c hb => calls_of_wp_defers fn132 hb.1 hb.2
  · refine wp_seq (wp_region ?_)
    show wpOps Pg _ _ ([0] ++ [1, 2, 3]) a1 w1
    refine runD_of (s := ⟨(6, .fn 160 [] [.ptr 1 [] 0, .ptr 0 [] 0]) :: (5, .bool false) :: (4, .fn ff [] cap) :: (3, .ptr 1 [] 0) :: (2, .ptr 0 [] 0) :: argEnv 0 [.fn ff [] cap], [.cells (.int .i64 0), .cells (.int .i64 0)]⟩) (s' := ⟨(7, .fn ff [] cap) :: (6, .fn 160 [] [.ptr 1 [] 0, .ptr 0 [] 0]) :: (5, .bool false) :: (4, .fn ff [] cap) :: (3, .ptr 1 [] 0) :: (2, .ptr 0 [] 0) :: argEnv 0 [.fn ff [] cap], [.cells (.int .i64 0), .cells (.int .i64 0)]⟩) ?_ u1 u2 fun g2 a2 w2 p1 p2 p3 => ?_
    · refine S.sil 7 rfl rfl (fun _ hF => .move (lk 5 rfl rfl)) ?_
      refine S.nil ?_
      rfl
    refine pan_op (o := ⟨some 8, .call ⟨.value (.tmp 7), #[], #[]⟩, 3, "num.go:58", #[⟨0, .data⟩], none⟩) (s := ⟨(7, .fn ff [] cap) :: (6, .fn 160 [] [.ptr 1 [] 0, .ptr 0 [] 0]) :: (5, .bool false) :: (4, .fn ff [] cap) :: (3, .ptr 1 [] 0) :: (2, .ptr 0 [] 0) :: argEnv 0 [.fn ff [] cap], [.cells (.int .i64 0), .cells (.int .i64 0)]⟩) rfl rfl (v := .ifc 38 (.int .i64 r)) (.call (first := []) (cap := cap) hE rfl (by simpa using SubL.refl _) hf) p1 p2 fun g3 x w3 r1 r2 r3 r4 => ?_
    simp only [Exit.then, bodyPostD]
    rw [p1.defers]
    refine leaves_cons (by simp) (invoke_fn ent160 b' w3) ?_
    refine (catch_pan (xs := b'.toList) ((v1.rvs.mono p3.le).mono r4.le) r3 r1).mono ?_
    rintro e' u' w4 ⟨rfl, rfl, g4, q1, q2⟩
    obtain ⟨y, h1, h2⟩ := (ResTry (x := 0) (y := r) (env := (7, .fn ff [] cap) :: (6, .fn 160 [] [.ptr 1 [] 0, .ptr 0 [] 0]) :: (5, .bool false) :: (4, .fn ff [] cap) :: (3, .ptr 1 [] 0) :: (2, .ptr 0 [] 0) :: argEnv 0 [.fn ff [] cap]) rfl rfl).drop (r2.mono q2.le) q1
    exact ⟨y, h1, g4, _, _, rfl, h2, q1, ((u3.trans p3).trans r4).trans q2⟩
theorem C_Try_sum {a1 : List Int} {r : Int × Int} (h : tryM (num_Sum_1 a1) (num_Sum_P a1) = some r) : PureC Pg 132 [.fn 133 [] [.cptr (.sl 1 .no (List.map (V.int .i64) a1))]] (.tup [(V.int .i64) r.1, (V.int .i64) r.2]) := by
  unfold tryM at h
  split at h
  · cases h
    exact C_Try_ret ent133 (ltL_c (lt_cptr (lt_sl rfl ((TyOk.int .i64).ltm _ _))) ltL_nil) rfl (C_num_Sum_1 (by assumption))
  · split at h
    · cases h
      exact C_Try_pan ent133 (ltL_c (lt_cptr (lt_sl rfl ((TyOk.int .i64).ltm _ _))) ltL_nil) rfl (C_num_Sum_P (by assumption))
    · cases h
theorem C_num_Sum {a1 : List Int} {r : Int × Int} (h : num_Sum a1 = some r) : PureC Pg 87 [.sl 1 .no (List.map (V.int .i64) a1)] (.tup [(V.int .i64) r.1, (V.int .i64) r.2]) := by
  refine PureC.ofF (CallSpec.of_bodyF 8 0 fn87 rfl rfl rfl (Nat.le_of_ble_eq_true rfl) ?_) (ltL_c (lt_sl rfl ((TyOk.int .i64).ltm _ _)) ltL_nil) (lt_tup (ltL_c ((TyOk.int .i64).lt _ _) (ltL_c ((TyOk.int .i64).lt _ _) ltL_nil)))
  replace h := Ok.of h
  unfold num_Sum at h
  refine AWp.seq ?_
  refine W.reg [0, 1, 2] rfl ?_
  refine S.eff 1 rfl rfl (.nf (v2 := .ptr 0 [] 0) (H2 := [.cells (.sl 1 .no (List.map (V.int .i64) a1))]) (.box (lk 0 rfl rfl) rfl) rfl rfl) trivial ?_
  refine S.sil 2 rfl rfl (fun _ hF => .assign cI) ?_
  refine S.sil 3 rfl rfl (fun _ hF => .assign cI) ?_
  refine S.nil ?_
  refine thenQ_n ?_
  refine AWp.wk (Wk.freeze 0 rfl rfl (.same (lk 0 rfl rfl) (.same (lk 1 rfl rfl) (.cons (lk 2 rfl rfl) rfl (.ptr .nil (by first | rfl | omega)) .nil))) (.refl _)) ?_
  refine AWp.seq ?_
  refine W.reg [0, 1, 2, 3, 4, 5] rfl ?_
  refine S.sil 4 rfl rfl (fun _ hF => .makeFunc rfl (mapE1 (lk 2 rfl rfl)) rfl rfl) ?_
  obtain ⟨r2, m2, h⟩ := h.bnd
  refine S.sil 5 rfl rfl (fun _ hF => .callQ ent132 cF (.c (lk 0 rfl rfl) (V.sub.refl _) .nil) (C_Try_sum m2)) ?_
  refine S.sil 6 rfl rfl (fun _ hF => .extract (lk 0 rfl rfl) rfl) ?_
  refine S.sil 7 rfl rfl (fun _ hF => .extract (lk 1 rfl rfl) rfl) ?_
  refine S.sil 2 rfl rfl (fun _ hF => .assign (lk 1 rfl rfl)) ?_
  refine S.sil 3 rfl rfl (fun _ hF => .assign (lk 1 rfl rfl)) ?_
  refine S.nil ?_
  refine thenQ_n ?_
  refine AWp.ret ?_
  obtain rfl := h.ret
  exact endFN rfl (Wk.selS [] .nil rfl (SelE.leaf (lk 1 rfl rfl) rfl (.refl _) (fun m => ((TyOk.int .i64).lt _ _)) (SelE.leaf (lk 0 rfl rfl) rfl (.refl _) (fun m => ((TyOk.int .i64).lt _ _)) .nil)) .nil) (.cons (.tmp (lk 0 rfl rfl) rfl) (.cons (.tmp (lk 1 rfl rfl) rfl) .nil)) rfl rfl rfl
theorem C_vec_Sum {a1 : Vector Int 16} {r : Int × Int} (h : vec_Sum a1 = some r) : PureC Pg 159 [E_A16_i64 a1] (.tup [(V.int .i64) r.1, (V.int .i64) r.2]) := by
  refine PureC.ofF (CallSpec.of_bodyF 8 0 fn159 rfl rfl rfl (Nat.le_of_ble_eq_true rfl) ?_) (ltL_c (ty_A16_i64.lt _ _) ltL_nil) (lt_tup (ltL_c ((TyOk.int .i64).lt _ _) (ltL_c ((TyOk.int .i64).lt _ _) ltL_nil)))
  replace h := Ok.of h
  unfold vec_Sum at h
  refine AWp.seq ?_
  refine W.reg [0, 1, 2] rfl ?_
  refine S.eff 1 rfl rfl (.nf (v2 := .ptr 0 [] 0) (H2 := [.cells (E_A16_i64 a1)]) (.box (lk 0 rfl rfl) rfl) rfl rfl) trivial ?_
  refine S.sil 2 rfl rfl (fun _ hF => .assign cI) ?_
  refine S.sil 3 rfl rfl (fun _ hF => .assign cI) ?_
  refine S.nil ?_
  refine thenQ_n ?_
  refine AWp.wk (Wk.freeze 0 rfl rfl (.same (lk 0 rfl rfl) (.same (lk 1 rfl rfl) (.cons (lk 2 rfl rfl) rfl (.ptr .nil (by first | rfl | omega)) .nil))) (.refl _)) ?_
  refine AWp.seq ?_
  refine W.reg [0, 1, 2, 3, 4, 5] rfl ?_
  refine S.sil 4 rfl rfl (fun _ hF => .sliceArr arr23 (lk 2 rfl rfl) (by simp)) ?_
  obtain ⟨r2, m2, h⟩ := h.bnd
  refine S.sil 5 rfl rfl (fun _ hF => .callQ ent87 cF (.c (lk 0 rfl rfl) (vsub rfl (.forget _ _ _)) .nil) (C_num_Sum m2)) ?_
  refine S.sil 6 rfl rfl (fun _ hF => .extract (lk 0 rfl rfl) rfl) ?_
  refine S.sil 7 rfl rfl (fun _ hF => .extract (lk 1 rfl rfl) rfl) ?_
  refine S.sil 2 rfl rfl (fun _ hF => .assign (lk 1 rfl rfl)) ?_
  refine S.sil 3 rfl rfl (fun _ hF => .assign (lk 1 rfl rfl)) ?_
  refine S.nil ?_
  refine thenQ_n ?_
  refine AWp.ret ?_
  obtain rfl := h.ret
  exact endFN rfl (Wk.selS [] .nil rfl (SelE.leaf (lk 1 rfl rfl) rfl (.refl _) (fun m => ((TyOk.int .i64).lt _ _)) (SelE.leaf (lk 0 rfl rfl) rfl (.refl _) (fun m => ((TyOk.int .i64).lt _ _)) .nil)) .nil) (.cons (.tmp (lk 0 rfl rfl) rfl) (.cons (.tmp (lk 1 rfl rfl) rfl) .nil)) rfl rfl rfl
theorem C_counter_given {a1 : TRights} {a2 : TRights} {a3 : Int} {r : Bool} (h : counter_given a1 a2 a3 = some r) : PureC Pg 127 [E_TRights a1, E_TRights a2, (V.int .i64) a3] (V.bool r) := by
  refine PureC.ofF (CallSpec.of_bodyF 46 0 fn127 rfl rfl rfl (Nat.le_of_ble_eq_true rfl) ?_) (ltL_c (ty_TRights.lt _ _) (ltL_c (ty_TRights.lt _ _) (ltL_c ((TyOk.int .i64).lt _ _) ltL_nil))) (TyOk.bool.lt _ _)
  replace h := Ok.of h
  unfold counter_given at h
  refine AWp.seq ?_
  refine W.reg [0, 1, 2] rfl ?_
  refine S.eff 3 rfl rfl (.nf (v2 := .ptr 0 [] 0) (H2 := [.cells (E_TRights a1)]) (.box (lk 0 rfl rfl) rfl) rfl rfl) trivial ?_
  refine S.eff 4 rfl rfl (.nf (v2 := .ptr 1 [] 0) (H2 := [.cells (E_TRights a1), .cells (E_TRights a2)]) (.box (lk 2 rfl rfl) rfl) rfl rfl) trivial ?_
  refine S.sil 6 rfl rfl (fun _ hF => .assign cB) ?_
  refine S.nil ?_
  refine thenQ_n ?_
  refine AWp.wk (Wk.freeze 0 rfl rfl (.same (lk 0 rfl rfl) (.same (lk 1 rfl rfl) (.cons (lk 2 rfl rfl) rfl (.ptr .nil (by first | rfl | omega)) (.same (lk 5 rfl rfl) .nil)))) (.refl _)) ?_
  refine AWp.wk (Wk.freeze 1 rfl rfl (.same (lk 0 rfl rfl) (.cons (lk 1 rfl rfl) rfl (.ptr .nil (by first | rfl | omega)) (.same (lk 2 rfl rfl) (.same (lk 3 rfl rfl) .nil)))) (.refl _)) ?_
  refine AWp.seq ?_
  refine W.reg [0, 1, 2, 3, 4, 5, 6, 7] rfl ?_
  refine S.sil 14 rfl rfl (fun _ hF => .fieldAddrC lay26 rfl rfl (lk 2 rfl rfl) rfl flL_nil) ?_
  refine S.sil 15 rfl rfl (fun _ hF => .loadC sz23 ag23 (lk 0 rfl rfl) (ty_A16_i64.fl a1.Given) rfl) ?_
  obtain ⟨r4, m4, h⟩ := h.bnd
  refine S.sil 16 rfl rfl (fun _ hF => .callQ ent159 cF (.c (lk 0 rfl rfl) (V.sub.refl _) .nil) (C_vec_Sum m4)) ?_
  refine S.sil 13 rfl rfl (fun _ hF => .move (lk 0 rfl rfl)) ?_
  refine S.sil 17 rfl rfl (fun _ hF => .extract (lk 0 rfl rfl) rfl) ?_
  refine S.sil 18 rfl rfl (fun _ hF => .extract (lk 1 rfl rfl) rfl) ?_
  refine S.sil 7 rfl rfl (fun _ hF => .assign (lk 1 rfl rfl)) ?_
  refine S.sil 8 rfl rfl (fun _ hF => .assign (lk 1 rfl rfl)) ?_
  refine S.nil ?_
  refine thenQ_n ?_
  refine AWp.seq ?_
  refine W.reg [0, 1, 2, 3, 4, 5, 6, 7] rfl ?_
  refine S.sil 20 rfl rfl (fun _ hF => .fieldAddrC lay26 rfl rfl (lk 9 rfl rfl) rfl (flL_c (ty_A16_i64.fl a2.Given) flL_nil)) ?_
  refine S.sil 21 rfl rfl (fun _ hF => .loadC sz23 ag23 (lk 0 rfl rfl) (ty_A16_i64.fl a2.Used) rfl) ?_
  obtain ⟨r5, m5, h⟩ := h.bnd
  refine S.sil 22 rfl rfl (fun _ hF => .callQ ent159 cF (.c (lk 0 rfl rfl) (V.sub.refl _) .nil) (C_vec_Sum m5)) ?_
  refine S.sil 19 rfl rfl (fun _ hF => .move (lk 0 rfl rfl)) ?_
  refine S.sil 23 rfl rfl (fun _ hF => .extract (lk 0 rfl rfl) rfl) ?_
  refine S.sil 24 rfl rfl (fun _ hF => .extract (lk 1 rfl rfl) rfl) ?_
  refine S.sil 9 rfl rfl (fun _ hF => .assign (lk 1 rfl rfl)) ?_
  refine S.sil 10 rfl rfl (fun _ hF => .assign (lk 1 rfl rfl)) ?_
  refine S.nil ?_
  refine thenQ_n ?_
  refine AWp.prune (.eq (lk 0 rfl rfl) rfl (.eq (lk 1 rfl rfl) rfl (.eq (lk 8 rfl rfl) rfl (.eq (lk 9 rfl rfl) rfl (.eq (lk 16 rfl rfl) rfl (.eq (lk 19 rfl rfl) rfl .nil)))))) ?_
  refine AWp.seq ?_
  refine W.reg [0, 1, 2, 3, 4, 5, 6, 7] rfl ?_
  refine S.sil 26 rfl rfl (fun _ hF => .move (lk 5 rfl rfl)) ?_
  refine S.sil 27 rfl rfl (fun _ hF => .move (lk 2 rfl rfl)) ?_
  obtain ⟨r6, m6, h⟩ := h.bnd
  refine S.sil 28 rfl rfl (fun _ hF => .callQ ent123 cF (.c (lk 1 rfl rfl) (V.sub.refl _) (.c (lk 0 rfl rfl) (V.sub.refl _) .nil)) (C_num_Add m6)) ?_
  refine S.sil 25 rfl rfl (fun _ hF => .move (lk 0 rfl rfl)) ?_
  refine S.sil 29 rfl rfl (fun _ hF => .extract (lk 0 rfl rfl) rfl) ?_
  refine S.sil 30 rfl rfl (fun _ hF => .extract (lk 1 rfl rfl) rfl) ?_
  refine S.sil 11 rfl rfl (fun _ hF => .assign (lk 1 rfl rfl)) ?_
  refine S.sil 12 rfl rfl (fun _ hF => .assign (lk 1 rfl rfl)) ?_
  refine S.nil ?_
  refine thenQ_n ?_
  refine AWp.seq ?_
  refine W.reg [0, 1, 2, 3, 4, 5, 6, 7, 8, 9, 10, 11, 12, 13, 14, 15] rfl ?_
  refine S.sil 31 rfl rfl (fun _ hF => .move (lk 10 rfl rfl)) ?_
  refine S.sil 32 rfl rfl (fun _ hF => .eql (lk 0 rfl rfl) cI) ?_
  refine S.sil 33 rfl rfl (fun _ hF => .move (lk 0 rfl rfl)) ?_
  refine S.gsil 34 2 33 true rfl rfl rfl (lk 0 rfl rfl) (fun hB _ hF => .move (lk 11 rfl rfl)) ?_
  refine S.gsil 35 2 33 true rfl rfl rfl (lk 1 rfl rfl) (fun hB _ hF => .eql (ifT hB (lk 0 rfl rfl)) cI) ?_
  refine S.sil 36 rfl rfl (fun _ hF => .pickAnd (lk 2 rfl rfl) (fun h => ifT h (lk 0 rfl rfl)) cB) ?_
  refine S.sil 37 rfl rfl (fun _ hF => .move (lk 0 rfl rfl)) ?_
  refine S.gsil 38 6 37 true rfl rfl rfl (lk 0 rfl rfl) (fun hB _ hF => .move (lk 7 rfl rfl)) ?_
  refine S.gsil 39 6 37 true rfl rfl rfl (lk 1 rfl rfl) (fun hB _ hF => .eql (ifT hB (lk 0 rfl rfl)) cI) ?_
  refine S.sil 40 rfl rfl (fun _ hF => .pickAnd (lk 2 rfl rfl) (fun h => ifT h (lk 0 rfl rfl)) cB) ?_
  refine S.sil 41 rfl rfl (fun _ hF => .move (lk 0 rfl rfl)) ?_
  refine S.gsil 42 10 41 true rfl rfl rfl (lk 0 rfl rfl) (fun hB _ hF => .move (lk 22 rfl rfl)) ?_
  refine S.gsil 43 10 41 true rfl rfl rfl (lk 1 rfl rfl) (fun hB _ hF => .move (lk 13 rfl rfl)) ?_
  refine S.gsil 44 10 41 true rfl rfl rfl (lk 2 rfl rfl) (fun hB _ hF => .eql (ifT hB (lk 1 rfl rfl)) (ifT hB (lk 0 rfl rfl))) ?_
  obtain ⟨v7, ev7, h⟩ := h.nam
  refine S.sil 45 rfl rfl (fun _ hF => .nv (.pickAnd (lk 3 rfl rfl) (fun h => ifT h (lk 0 rfl rfl)) cB) (congrArg V.bool ev7.symm)) ?_
  refine S.sil 6 rfl rfl (fun _ hF => .assign (lk 0 rfl rfl)) ?_
  refine S.nil ?_
  refine thenQ_n ?_
  refine AWp.prune (.eq (lk 0 rfl rfl) rfl .nil) ?_
  refine AWp.ret ?_
  obtain rfl := h.ret
  exact endF1 rfl (Wk.selS [] .nil rfl (SelE.leaf (lk 0 rfl rfl) rfl (.refl _) (fun m => (TyOk.bool.lt _ _)) .nil) .nil) (.tmp (lk 0 rfl rfl) rfl) rfl rfl
theorem C_counter_Right {a1 : TCounter} {r : Bool} (h : counter_Right a1 = some r) : PureC Pg 75 [E_TCounter a1] (V.bool r) := by
  refine PureC.ofF (CallSpec.of_bodyF 65 0 fn75 rfl rfl rfl (Nat.le_of_ble_eq_true rfl) ?_) (ltL_c (ty_TCounter.lt _ _) ltL_nil) (TyOk.bool.lt _ _)
  replace h := Ok.of h
  unfold counter_Right at h
  refine AWp.seq ?_
  refine W.reg [0, 1] rfl ?_
  refine S.eff 1 rfl rfl (.nf (v2 := .ptr 0 [] 0) (H2 := [.cells (E_TCounter a1)]) (.box (lk 0 rfl rfl) rfl) rfl rfl) trivial ?_
  refine S.sil 2 rfl rfl (fun _ hF => .assign cB) ?_
  refine S.nil ?_
  refine thenQ_n ?_
  refine AWp.wk (Wk.freeze 0 rfl rfl (.same (lk 0 rfl rfl) (.cons (lk 1 rfl rfl) rfl (.ptr .nil (by first | rfl | omega)) .nil)) (.refl _)) ?_
  refine AWp.seq ?_
  refine AWp.seq ?_
  refine W.reg [0, 1, 2, 3, 4, 5, 6, 7, 8, 9, 10, 11, 12, 13, 14, 15, 16, 17, 18, 19, 20, 21, 22, 23, 24, 25, 26, 27, 28, 29] rfl ?_
  refine S.sil 3 rfl rfl (fun _ hF => .fieldAddrC lay28 rfl rfl (lk 1 rfl rfl) rfl flL_nil) ?_
  refine S.sil 4 rfl rfl (fun _ hF => .loadC sz3 ag3 (lk 0 rfl rfl) rfl rfl) ?_
  obtain ⟨r2, m2, h⟩ := h.bnd
  refine S.sil 5 rfl rfl (fun _ hF => .callQ ent64 cF (.c (lk 0 rfl rfl) (V.sub.refl _) .nil) (C_num_Is m2)) ?_
  refine S.sil 6 rfl rfl (fun _ hF => .not (lk 0 rfl rfl)) ?_
  refine S.sil 7 rfl rfl (fun _ hF => .move (lk 0 rfl rfl)) ?_
  refine S.gsil 8 4 7 false rfl rfl rfl (lk 0 rfl rfl) (fun hB _ hF => .fieldAddrC lay28 rfl rfl (lk 6 rfl rfl) rfl (flL_c (show flen _ = 1 from rfl) flL_nil)) ?_
  refine S.gsil 9 4 7 false rfl rfl rfl (lk 1 rfl rfl) (fun hB _ hF => .loadC sz3 ag3 (ifT hB (lk 0 rfl rfl)) rfl rfl) ?_
  obtain ⟨r3, m3, h⟩ := h.bnd
  refine S.gsil 10 4 7 false rfl rfl rfl (lk 2 rfl rfl) (fun hB _ hF => .callQ ent64 cF (.c (ifT hB (lk 0 rfl rfl)) (V.sub.refl _) .nil) (C_num_Is (gd_get m3 hB))) ?_
  refine S.gsil 11 4 7 false rfl rfl rfl (lk 3 rfl rfl) (fun hB _ hF => .not (ifT hB (lk 0 rfl rfl))) ?_
  refine S.sil 12 rfl rfl (fun _ hF => .pickOr (lk 4 rfl rfl) cB (fun h => ifT h (lk 0 rfl rfl))) ?_
  refine S.sil 13 rfl rfl (fun _ hF => .move (lk 0 rfl rfl)) ?_
  refine S.gsil 14 10 13 false rfl rfl rfl (lk 0 rfl rfl) (fun hB _ hF => .fieldAddrC lay28 rfl rfl (lk 12 rfl rfl) rfl (flL_c (show flen _ = 1 from rfl) (flL_c (show flen _ = 1 from rfl) flL_nil))) ?_
  refine S.gsil 15 10 13 false rfl rfl rfl (lk 1 rfl rfl) (fun hB _ hF => .loadC sz3 ag3 (ifT hB (lk 0 rfl rfl)) rfl rfl) ?_
  obtain ⟨r4, m4, h⟩ := h.bnd
  refine S.gsil 16 10 13 false rfl rfl rfl (lk 2 rfl rfl) (fun hB _ hF => .callQ ent64 cF (.c (ifT hB (lk 0 rfl rfl)) (V.sub.refl _) .nil) (C_num_Is (gd_get m4 hB))) ?_
  refine S.gsil 17 10 13 false rfl rfl rfl (lk 3 rfl rfl) (fun hB _ hF => .not (ifT hB (lk 0 rfl rfl))) ?_
  refine S.sil 18 rfl rfl (fun _ hF => .pickOr (lk 4 rfl rfl) cB (fun h => ifT h (lk 0 rfl rfl))) ?_
  refine S.sil 19 rfl rfl (fun _ hF => .move (lk 0 rfl rfl)) ?_
  refine S.gsil 20 16 19 false rfl rfl rfl (lk 0 rfl rfl) (fun hB _ hF => .fieldAddrC lay28 rfl rfl (lk 18 rfl rfl) rfl (flL_c (show flen _ = 1 from rfl) flL_nil)) ?_
  refine S.gsil 21 16 19 false rfl rfl rfl (lk 1 rfl rfl) (fun hB _ hF => .loadC sz3 ag3 (ifT hB (lk 0 rfl rfl)) rfl rfl) ?_
  refine S.gsil 22 16 19 false rfl rfl rfl (lk 2 rfl rfl) (fun hB _ hF => .fieldAddrC lay28 rfl rfl (lk 20 rfl rfl) rfl flL_nil) ?_
  refine S.gsil 23 16 19 false rfl rfl rfl (lk 3 rfl rfl) (fun hB _ hF => .loadC sz3 ag3 (ifT hB (lk 0 rfl rfl)) rfl rfl) ?_
  refine S.gsil 24 16 19 false rfl rfl rfl (lk 4 rfl rfl) (fun hB _ hF => .gtr (ifT hB (lk 2 rfl rfl)) (ifT hB (lk 0 rfl rfl))) ?_
  refine S.sil 25 rfl rfl (fun _ hF => .pickOr (lk 5 rfl rfl) cB (fun h => ifT h (lk 0 rfl rfl))) ?_
  refine S.sil 26 rfl rfl (fun _ hF => .move (lk 0 rfl rfl)) ?_
  refine S.gsil 27 23 26 false rfl rfl rfl (lk 0 rfl rfl) (fun hB _ hF => .fieldAddrC lay28 rfl rfl (lk 25 rfl rfl) rfl flL_nil) ?_
  refine S.gsil 28 23 26 false rfl rfl rfl (lk 1 rfl rfl) (fun hB _ hF => .loadC sz3 ag3 (ifT hB (lk 0 rfl rfl)) rfl rfl) ?_
  refine S.gsil 29 23 26 false rfl rfl rfl (lk 2 rfl rfl) (fun hB _ hF => .fieldAddrC lay28 rfl rfl (lk 27 rfl rfl) rfl (flL_c (show flen _ = 1 from rfl) (flL_c (show flen _ = 1 from rfl) flL_nil))) ?_
  refine S.gsil 30 23 26 false rfl rfl rfl (lk 3 rfl rfl) (fun hB _ hF => .loadC sz3 ag3 (ifT hB (lk 0 rfl rfl)) rfl rfl) ?_
  refine S.gsil 31 23 26 false rfl rfl rfl (lk 4 rfl rfl) (fun hB _ hF => .gtr (ifT hB (lk 2 rfl rfl)) (ifT hB (lk 0 rfl rfl))) ?_
  obtain ⟨v5, ev5, h⟩ := h.nam
  refine S.sil 32 rfl rfl (fun _ hF => .nv (.pickOr (lk 5 rfl rfl) cB (fun h => ifT h (lk 0 rfl rfl))) (congrArg V.bool ev5.symm)) ?_
  refine S.nil ?_
  refine thenQ_n ?_
  refine AWp.prune (.eq (lk 0 rfl rfl) rfl (.eq (lk 30 rfl rfl) rfl (.eq (lk 31 rfl rfl) rfl .nil))) ?_
  refine AWp.condM (lk 0 rfl rfl) h (fun c1 h => ?_) (fun c1 h => ?_)
  · skip
    refine AWp.seq ?_
    refine W.reg [0] rfl ?_
    refine S.sil 2 rfl rfl (fun _ hF => .assign cB) ?_
    refine S.nil ?_
    refine thenQ_n ?_
    refine AWp.ret ?_
    refine thenQ_r ?_
    obtain rfl := h.ret
    exact endF1 rfl (Wk.selS [] .nil rfl (SelE.leaf (lk 0 rfl rfl) rfl (.refl _) (fun m => (TyOk.bool.lt _ _)) .nil) .nil) (.tmp (lk 0 rfl rfl) rfl) rfl rfl
  · skip
    refine AWp.skip ?_
    refine thenQ_n ?_
    refine AWp.seq ?_
    refine W.reg [0, 1, 2, 3, 4, 5, 6, 7, 8, 9, 10, 11, 12, 13, 14, 15, 16, 17, 18, 19, 20, 21, 22, 23, 24, 25, 26, 27, 28, 29, 30, 31, 32] rfl ?_
    refine S.sil 33 rfl rfl (fun _ hF => .fieldAddrC lay28 rfl rfl (lk 2 rfl rfl) rfl (flL_c (show flen _ = 1 from rfl) (flL_c (show flen _ = 1 from rfl) (flL_c (show flen _ = 1 from rfl) flL_nil)))) ?_
    refine S.sil 34 rfl rfl (fun _ hF => .loadC sz26 ag26 (lk 0 rfl rfl) (ty_TRights.fl a1.Down) rfl) ?_
    obtain ⟨r6, m6, h⟩ := h.bnd
    refine S.sil 35 rfl rfl (fun _ hF => .callQ ent126 cF (.c (lk 0 rfl rfl) (V.sub.refl _) .nil) (C_rights_Right m6)) ?_
    refine S.sil 36 rfl rfl (fun _ hF => .move (lk 0 rfl rfl)) ?_
    refine S.gsil 37 3 36 true rfl rfl rfl (lk 0 rfl rfl) (fun hB _ hF => .fieldAddrC lay28 rfl rfl (lk 6 rfl rfl) rfl (flL_c (show flen _ = 1 from rfl) (flL_c (show flen _ = 1 from rfl) (flL_c (show flen _ = 1 from rfl) (flL_c (ty_TRights.fl a1.Down) flL_nil))))) ?_
    refine S.gsil 38 3 36 true rfl rfl rfl (lk 1 rfl rfl) (fun hB _ hF => .loadC sz26 ag26 (ifT hB (lk 0 rfl rfl)) (ty_TRights.fl a1.Up) rfl) ?_
    obtain ⟨r7, m7, h⟩ := h.bnd
    refine S.gsil 39 3 36 true rfl rfl rfl (lk 2 rfl rfl) (fun hB _ hF => .callQ ent126 cF (.c (ifT hB (lk 0 rfl rfl)) (V.sub.refl _) .nil) (C_rights_Right (gd_get m7 hB))) ?_
    refine S.sil 40 rfl rfl (fun _ hF => .pickAnd (lk 3 rfl rfl) (fun h => ifT h (lk 0 rfl rfl)) cB) ?_
    refine S.sil 41 rfl rfl (fun _ hF => .move (lk 0 rfl rfl)) ?_
    refine S.gsil 42 8 41 true rfl rfl rfl (lk 0 rfl rfl) (fun hB _ hF => .fieldAddrC lay28 rfl rfl (lk 11 rfl rfl) rfl (flL_c (show flen _ = 1 from rfl) (flL_c (show flen _ = 1 from rfl) (flL_c (show flen _ = 1 from rfl) flL_nil)))) ?_
    refine S.gsil 43 8 41 true rfl rfl rfl (lk 1 rfl rfl) (fun hB _ hF => .loadC sz26 ag26 (ifT hB (lk 0 rfl rfl)) (ty_TRights.fl a1.Down) rfl) ?_
    refine S.gsil 44 8 41 true rfl rfl rfl (lk 2 rfl rfl) (fun hB _ hF => .fieldAddrC lay28 rfl rfl (lk 13 rfl rfl) rfl (flL_c (show flen _ = 1 from rfl) (flL_c (show flen _ = 1 from rfl) (flL_c (show flen _ = 1 from rfl) (flL_c (ty_TRights.fl a1.Down) flL_nil))))) ?_
    refine S.gsil 45 8 41 true rfl rfl rfl (lk 3 rfl rfl) (fun hB _ hF => .loadC sz26 ag26 (ifT hB (lk 0 rfl rfl)) (ty_TRights.fl a1.Up) rfl) ?_
    refine S.gsil 46 8 41 true rfl rfl rfl (lk 4 rfl rfl) (fun hB _ hF => .fieldAddrC lay28 rfl rfl (lk 15 rfl rfl) rfl flL_nil) ?_
    refine S.gsil 47 8 41 true rfl rfl rfl (lk 5 rfl rfl) (fun hB _ hF => .loadC sz3 ag3 (ifT hB (lk 0 rfl rfl)) rfl rfl) ?_
    refine S.gsil 48 8 41 true rfl rfl rfl (lk 6 rfl rfl) (fun hB _ hF => .fieldAddrC lay28 rfl rfl (lk 17 rfl rfl) rfl (flL_c (show flen _ = 1 from rfl) flL_nil)) ?_
    refine S.gsil 49 8 41 true rfl rfl rfl (lk 7 rfl rfl) (fun hB _ hF => .loadC sz3 ag3 (ifT hB (lk 0 rfl rfl)) rfl rfl) ?_
    refine S.gsil 50 8 41 true rfl rfl rfl (lk 8 rfl rfl) (fun hB _ hF => .sub (ifT hB (lk 2 rfl rfl)) (ifT hB (lk 0 rfl rfl))) ?_
    obtain ⟨r8, m8, h⟩ := h.bnd
    refine S.gsil 51 8 41 true rfl rfl rfl (lk 9 rfl rfl) (fun hB _ hF => .callQ ent127 cF (.c (ifT hB (lk 7 rfl rfl)) (V.sub.refl _) (.c (ifT hB (lk 5 rfl rfl)) (V.sub.refl _) (.c (ifT hB (lk 0 rfl rfl)) (V.sub.refl _) .nil))) (C_counter_given (gd_get m8 hB))) ?_
    refine S.sil 52 rfl rfl (fun _ hF => .pickAnd (lk 10 rfl rfl) (fun h => ifT h (lk 0 rfl rfl)) cB) ?_
    refine S.sil 53 rfl rfl (fun _ hF => .move (lk 0 rfl rfl)) ?_
    refine S.gsil 54 20 53 true rfl rfl rfl (lk 0 rfl rfl) (fun hB _ hF => .fieldAddrC lay28 rfl rfl (lk 23 rfl rfl) rfl (flL_c (show flen _ = 1 from rfl) (flL_c (show flen _ = 1 from rfl) (flL_c (show flen _ = 1 from rfl) (flL_c (ty_TRights.fl a1.Down) flL_nil))))) ?_
    refine S.gsil 55 20 53 true rfl rfl rfl (lk 1 rfl rfl) (fun hB _ hF => .loadC sz26 ag26 (ifT hB (lk 0 rfl rfl)) (ty_TRights.fl a1.Up) rfl) ?_
    refine S.gsil 56 20 53 true rfl rfl rfl (lk 2 rfl rfl) (fun hB _ hF => .fieldAddrC lay28 rfl rfl (lk 25 rfl rfl) rfl (flL_c (show flen _ = 1 from rfl) (flL_c (show flen _ = 1 from rfl) (flL_c (show flen _ = 1 from rfl) flL_nil)))) ?_
    refine S.gsil 57 20 53 true rfl rfl rfl (lk 3 rfl rfl) (fun hB _ hF => .loadC sz26 ag26 (ifT hB (lk 0 rfl rfl)) (ty_TRights.fl a1.Down) rfl) ?_
    refine S.gsil 58 20 53 true rfl rfl rfl (lk 4 rfl rfl) (fun hB _ hF => .fieldAddrC lay28 rfl rfl (lk 27 rfl rfl) rfl (flL_c (show flen _ = 1 from rfl) (flL_c (show flen _ = 1 from rfl) flL_nil))) ?_
    refine S.gsil 59 20 53 true rfl rfl rfl (lk 5 rfl rfl) (fun hB _ hF => .loadC sz3 ag3 (ifT hB (lk 0 rfl rfl)) rfl rfl) ?_
    refine S.gsil 60 20 53 true rfl rfl rfl (lk 6 rfl rfl) (fun hB _ hF => .fieldAddrC lay28 rfl rfl (lk 29 rfl rfl) rfl flL_nil) ?_
    refine S.gsil 61 20 53 true rfl rfl rfl (lk 7 rfl rfl) (fun hB _ hF => .loadC sz3 ag3 (ifT hB (lk 0 rfl rfl)) rfl rfl) ?_
    refine S.gsil 62 20 53 true rfl rfl rfl (lk 8 rfl rfl) (fun hB _ hF => .sub (ifT hB (lk 2 rfl rfl)) (ifT hB (lk 0 rfl rfl))) ?_
    obtain ⟨r9, m9, h⟩ := h.bnd
    refine S.gsil 63 20 53 true rfl rfl rfl (lk 9 rfl rfl) (fun hB _ hF => .callQ ent127 cF (.c (ifT hB (lk 7 rfl rfl)) (V.sub.refl _) (.c (ifT hB (lk 5 rfl rfl)) (V.sub.refl _) (.c (ifT hB (lk 0 rfl rfl)) (V.sub.refl _) .nil))) (C_counter_given (gd_get m9 hB))) ?_
    refine S.sil 64 rfl rfl (fun _ hF => .pickAnd (lk 10 rfl rfl) (fun h => ifT h (lk 0 rfl rfl)) cB) ?_
    obtain ⟨v10, ev10, h⟩ := h.nam
    refine S.sil 2 rfl rfl (fun _ hF => .nv (.assign (lk 0 rfl rfl)) (congrArg V.bool ev10.symm)) ?_
    refine S.nil ?_
    refine thenQ_n ?_
    refine AWp.prune (.eq (lk 0 rfl rfl) rfl .nil) ?_
    refine AWp.ret ?_
    obtain rfl := h.ret
    exact endF1 rfl (Wk.selS [] .nil rfl (SelE.leaf (lk 0 rfl rfl) rfl (.refl _) (fun m => (TyOk.bool.lt _ _)) .nil) .nil) (.tmp (lk 0 rfl rfl) rfl) rfl rfl
theorem C_hold_count {a1 : Int} {r : Bool} (h : hold_count a1 = some r) : PureC Pg 157 [(V.int .i64) a1] (V.bool r) := by
  refine PureC.ofF (CallSpec.of_bodyF 9 0 fn157 rfl rfl rfl (Nat.le_of_ble_eq_true rfl) ?_) (ltL_c ((TyOk.int .i64).lt _ _) ltL_nil) (TyOk.bool.lt _ _)
  replace h := Ok.of h
  unfold hold_count at h
  refine AWp.seq ?_
  refine W.reg [0] rfl ?_
  refine S.sil 2 rfl rfl (fun _ hF => .assign cB) ?_
  refine S.nil ?_
  refine thenQ_n ?_
  refine AWp.seq ?_
  refine W.reg [0, 1, 2, 3, 4, 5, 6] rfl ?_
  refine S.sil 3 rfl rfl (fun _ hF => .move (lk 1 rfl rfl)) ?_
  refine S.sil 4 rfl rfl (fun _ hF => .geq (lk 0 rfl rfl) cI) ?_
  refine S.sil 5 rfl rfl (fun _ hF => .move (lk 0 rfl rfl)) ?_
  refine S.gsil 6 2 5 true rfl rfl rfl (lk 0 rfl rfl) (fun hB _ hF => .move (lk 4 rfl rfl)) ?_
  obtain ⟨r2, m2, h⟩ := h.bnd
  refine S.gsil 7 2 5 true rfl rfl rfl (lk 1 rfl rfl) (fun hB _ hF => .callQ ent64 cF (.c (ifT hB (lk 0 rfl rfl)) (V.sub.refl _) .nil) (C_num_Is (gd_get m2 hB))) ?_
  refine S.sil 8 rfl rfl (fun _ hF => .pickAnd (lk 2 rfl rfl) (fun h => ifT h (lk 0 rfl rfl)) cB) ?_
  obtain ⟨v3, ev3, h⟩ := h.nam
  refine S.sil 2 rfl rfl (fun _ hF => .nv (.assign (lk 0 rfl rfl)) (congrArg V.bool ev3.symm)) ?_
  refine S.nil ?_
  refine thenQ_n ?_
  refine AWp.ret ?_
  obtain rfl := h.ret
  exact endF1 rfl (Wk.selS [] .nil rfl (SelE.leaf (lk 0 rfl rfl) rfl (.refl _) (fun m => (TyOk.bool.lt _ _)) .nil) .nil) (.tmp (lk 0 rfl rfl) rfl) rfl rfl
theorem C_hold_Right {a1 : THold} {r : Bool} (h : hold_Right a1 = some r) : PureC Pg 124 [E_THold a1] (V.bool r) := by
  refine PureC.ofF (CallSpec.of_bodyF 41 0 fn124 rfl rfl rfl (Nat.le_of_ble_eq_true rfl) ?_) (ltL_c (ty_THold.lt _ _) ltL_nil) (TyOk.bool.lt _ _)
  replace h := Ok.of h
  unfold hold_Right at h
  refine AWp.seq ?_
  refine W.reg [0, 1] rfl ?_
  refine S.eff 1 rfl rfl (.nf (v2 := .ptr 0 [] 0) (H2 := [.cells (E_THold a1)]) (.box (lk 0 rfl rfl) rfl) rfl rfl) trivial ?_
  refine S.sil 2 rfl rfl (fun _ hF => .assign cB) ?_
  refine S.nil ?_
  refine thenQ_n ?_
  refine AWp.wk (Wk.freeze 0 rfl rfl (.same (lk 0 rfl rfl) (.cons (lk 1 rfl rfl) rfl (.ptr .nil (by first | rfl | omega)) .nil)) (.refl _)) ?_
  refine AWp.seq ?_
  refine W.reg [0, 1, 2, 3, 4, 5, 6, 7, 8, 9, 10, 11, 12, 13, 14, 15, 16, 17, 18, 19, 20, 21, 22, 23, 24, 25, 26, 27, 28, 29, 30, 31, 32, 33, 34, 35, 36, 37, 38] rfl ?_
  refine S.sil 3 rfl rfl (fun _ hF => .fieldAddrC lay66 rfl rfl (lk 1 rfl rfl) rfl flL_nil) ?_
  refine S.sil 4 rfl rfl (fun _ hF => .loadC sz3 ag3 (lk 0 rfl rfl) rfl rfl) ?_
  refine S.sil 5 rfl rfl (fun _ hF => .geq (lk 0 rfl rfl) cI) ?_
  refine S.sil 6 rfl rfl (fun _ hF => .move (lk 0 rfl rfl)) ?_
  refine S.gsil 7 3 6 true rfl rfl rfl (lk 0 rfl rfl) (fun hB _ hF => .fieldAddrC lay66 rfl rfl (lk 5 rfl rfl) rfl flL_nil) ?_
  refine S.gsil 8 3 6 true rfl rfl rfl (lk 1 rfl rfl) (fun hB _ hF => .loadC sz3 ag3 (ifT hB (lk 0 rfl rfl)) rfl rfl) ?_
  refine S.gsil 9 3 6 true rfl rfl rfl (lk 2 rfl rfl) (fun hB _ hF => .lss (ifT hB (lk 0 rfl rfl)) cI) ?_
  refine S.sil 10 rfl rfl (fun _ hF => .pickAnd (lk 3 rfl rfl) (fun h => ifT h (lk 0 rfl rfl)) cB) ?_
  refine S.sil 11 rfl rfl (fun _ hF => .move (lk 0 rfl rfl)) ?_
  refine S.gsil 12 8 11 true rfl rfl rfl (lk 0 rfl rfl) (fun hB _ hF => .fieldAddrC lay66 rfl rfl (lk 10 rfl rfl) rfl (flL_c (show flen _ = 1 from rfl) flL_nil)) ?_
  refine S.gsil 13 8 11 true rfl rfl rfl (lk 1 rfl rfl) (fun hB _ hF => .loadC sz3 ag3 (ifT hB (lk 0 rfl rfl)) rfl rfl) ?_
  refine S.gsil 14 8 11 true rfl rfl rfl (lk 2 rfl rfl) (fun hB _ hF => .geq (ifT hB (lk 0 rfl rfl)) cI) ?_
  obtain ⟨v2, ev2, h⟩ := h.nam
  refine S.sil 15 rfl rfl (fun _ hF => .nv (.pickAnd (lk 3 rfl rfl) (fun h => ifT h (lk 0 rfl rfl)) cB) (congrArg V.bool ev2.symm)) ?_
  refine S.sil 16 rfl rfl (fun _ hF => .move (lk 0 rfl rfl)) ?_
  refine S.gsil 17 13 16 true rfl rfl rfl (lk 0 rfl rfl) (fun hB _ hF => .fieldAddrC lay66 rfl rfl (lk 15 rfl rfl) rfl (flL_c (show flen _ = 1 from rfl) flL_nil)) ?_
  refine S.gsil 18 13 16 true rfl rfl rfl (lk 1 rfl rfl) (fun hB _ hF => .loadC sz3 ag3 (ifT hB (lk 0 rfl rfl)) rfl rfl) ?_
  obtain ⟨r3, m3, h⟩ := h.bnd
  refine S.gsil 19 13 16 true rfl rfl rfl (lk 2 rfl rfl) (fun hB _ hF => .callQ ent64 cF (.c (ifT hB (lk 0 rfl rfl)) (V.sub.refl _) .nil) (C_num_Is (gd_get m3 hB))) ?_
  refine S.sil 20 rfl rfl (fun _ hF => .pickAnd (lk 3 rfl rfl) (fun h => ifT h (lk 0 rfl rfl)) cB) ?_
  refine S.sil 21 rfl rfl (fun _ hF => .move (lk 0 rfl rfl)) ?_
  refine S.gsil 22 18 21 true rfl rfl rfl (lk 0 rfl rfl) (fun hB _ hF => .fieldAddrC lay66 rfl rfl (lk 20 rfl rfl) rfl (flL_c (show flen _ = 1 from rfl) (flL_c (show flen _ = 1 from rfl) flL_nil))) ?_
  refine S.gsil 23 18 21 true rfl rfl rfl (lk 1 rfl rfl) (fun hB _ hF => .loadC sz3 ag3 (ifT hB (lk 0 rfl rfl)) rfl rfl) ?_
  obtain ⟨r4, m4, h⟩ := h.bnd
  refine S.gsil 24 18 21 true rfl rfl rfl (lk 2 rfl rfl) (fun hB _ hF => .callQ ent157 cF (.c (ifT hB (lk 0 rfl rfl)) (V.sub.refl _) .nil) (C_hold_count (gd_get m4 hB))) ?_
  refine S.sil 25 rfl rfl (fun _ hF => .pickAnd (lk 3 rfl rfl) (fun h => ifT h (lk 0 rfl rfl)) cB) ?_
  refine S.sil 26 rfl rfl (fun _ hF => .move (lk 0 rfl rfl)) ?_
  refine S.gsil 27 23 26 true rfl rfl rfl (lk 0 rfl rfl) (fun hB _ hF => .fieldAddrC lay66 rfl rfl (lk 25 rfl rfl) rfl (flL_c (show flen _ = 1 from rfl) (flL_c (show flen _ = 1 from rfl) (flL_c (show flen _ = 1 from rfl) flL_nil)))) ?_
  refine S.gsil 28 23 26 true rfl rfl rfl (lk 1 rfl rfl) (fun hB _ hF => .loadC sz3 ag3 (ifT hB (lk 0 rfl rfl)) rfl rfl) ?_
  obtain ⟨r5, m5, h⟩ := h.bnd
  refine S.gsil 29 23 26 true rfl rfl rfl (lk 2 rfl rfl) (fun hB _ hF => .callQ ent157 cF (.c (ifT hB (lk 0 rfl rfl)) (V.sub.refl _) .nil) (C_hold_count (gd_get m5 hB))) ?_
  refine S.sil 30 rfl rfl (fun _ hF => .pickAnd (lk 3 rfl rfl) (fun h => ifT h (lk 0 rfl rfl)) cB) ?_
  refine S.sil 31 rfl rfl (fun _ hF => .move (lk 0 rfl rfl)) ?_
  refine S.gsil 32 28 31 true rfl rfl rfl (lk 0 rfl rfl) (fun hB _ hF => .fieldAddrC lay66 rfl rfl (lk 30 rfl rfl) rfl (flL_c (show flen _ = 1 from rfl) (flL_c (show flen _ = 1 from rfl) (flL_c (show flen _ = 1 from rfl) (flL_c (show flen _ = 1 from rfl) flL_nil))))) ?_
  refine S.gsil 33 28 31 true rfl rfl rfl (lk 1 rfl rfl) (fun hB _ hF => .loadC sz3 ag3 (ifT hB (lk 0 rfl rfl)) rfl rfl) ?_
  refine S.gsil 34 28 31 true rfl rfl rfl (lk 2 rfl rfl) (fun hB _ hF => .geq (ifT hB (lk 0 rfl rfl)) cI) ?_
  refine S.sil 35 rfl rfl (fun _ hF => .pickAnd (lk 3 rfl rfl) (fun h => ifT h (lk 0 rfl rfl)) cB) ?_
  refine S.sil 36 rfl rfl (fun _ hF => .move (lk 0 rfl rfl)) ?_
  refine S.gsil 37 33 36 true rfl rfl rfl (lk 0 rfl rfl) (fun hB _ hF => .fieldAddrC lay66 rfl rfl (lk 35 rfl rfl) rfl (flL_c (show flen _ = 1 from rfl) (flL_c (show flen _ = 1 from rfl) (flL_c (show flen _ = 1 from rfl) (flL_c (show flen _ = 1 from rfl) flL_nil))))) ?_
  refine S.gsil 38 33 36 true rfl rfl rfl (lk 1 rfl rfl) (fun hB _ hF => .loadC sz3 ag3 (ifT hB (lk 0 rfl rfl)) rfl rfl) ?_
  refine S.gsil 39 33 36 true rfl rfl rfl (lk 2 rfl rfl) (fun hB _ hF => .leq (ifT hB (lk 0 rfl rfl)) cI) ?_
  obtain ⟨v6, ev6, h⟩ := h.nam
  refine S.sil 40 rfl rfl (fun _ hF => .nv (.pickAnd (lk 3 rfl rfl) (fun h => ifT h (lk 0 rfl rfl)) cB) (congrArg V.bool ev6.symm)) ?_
  refine S.sil 2 rfl rfl (fun _ hF => .assign (lk 0 rfl rfl)) ?_
  refine S.nil ?_
  refine thenQ_n ?_
  refine AWp.prune (.eq (lk 0 rfl rfl) rfl .nil) ?_
  refine AWp.ret ?_
  obtain rfl := h.ret
  exact endF1 rfl (Wk.selS [] .nil rfl (SelE.leaf (lk 0 rfl rfl) rfl (.refl _) (fun m => (TyOk.bool.lt _ _)) .nil) .nil) (.tmp (lk 0 rfl rfl) rfl) rfl rfl
theorem C_hold_compare {a1 : THold} {a2 : THold} {r : Int} (h : hold_compare a1 a2 = some r) : PureC Pg 108 [E_THold a1, E_THold a2] ((V.int .i64) r) := by
  refine PureC.ofF (CallSpec.of_bodyF 32 0 fn108 rfl rfl rfl (Nat.le_of_ble_eq_true rfl) ?_) (ltL_c (ty_THold.lt _ _) (ltL_c (ty_THold.lt _ _) ltL_nil)) ((TyOk.int .i64).lt _ _)
  replace h := Ok.of h
  unfold hold_compare at h
  refine AWp.seq ?_
  refine W.reg [0, 1, 2] rfl ?_
  refine S.eff 2 rfl rfl (.nf (v2 := .ptr 0 [] 0) (H2 := [.cells (E_THold a1)]) (.box (lk 0 rfl rfl) rfl) rfl rfl) trivial ?_
  refine S.eff 3 rfl rfl (.nf (v2 := .ptr 1 [] 0) (H2 := [.cells (E_THold a1), .cells (E_THold a2)]) (.box (lk 2 rfl rfl) rfl) rfl rfl) trivial ?_
  refine S.sil 4 rfl rfl (fun _ hF => .assign cI) ?_
  refine S.nil ?_
  refine thenQ_n ?_
  refine AWp.wk (Wk.freeze 0 rfl rfl (.same (lk 0 rfl rfl) (.same (lk 1 rfl rfl) (.cons (lk 2 rfl rfl) rfl (.ptr .nil (by first | rfl | omega)) .nil))) (.refl _)) ?_
  refine AWp.wk (Wk.freeze 1 rfl rfl (.same (lk 0 rfl rfl) (.cons (lk 1 rfl rfl) rfl (.ptr .nil (by first | rfl | omega)) (.same (lk 2 rfl rfl) .nil))) (.refl _)) ?_
  refine AWp.seq ?_
  refine AWp.seq ?_
  refine W.reg [0, 1, 2, 3, 4, 5, 6, 7, 8, 9, 10, 11] rfl ?_
  refine S.sil 7 rfl rfl (fun _ hF => .fieldAddrC lay66 rfl rfl (lk 2 rfl rfl) rfl flL_nil) ?_
  refine S.sil 8 rfl rfl (fun _ hF => .loadC sz3 ag3 (lk 0 rfl rfl) rfl rfl) ?_
  refine S.sil 9 rfl rfl (fun _ hF => .fieldAddrC lay66 rfl rfl (lk 3 rfl rfl) rfl flL_nil) ?_
  refine S.sil 10 rfl rfl (fun _ hF => .loadC sz3 ag3 (lk 0 rfl rfl) rfl rfl) ?_
  refine S.sil 11 rfl rfl (fun _ hF => .buildArrL (w := E_A2_i64 (#v[a1.Replica, a2.Replica] : Vector Int 2)) arr135 zv135 (.cons (lk 2 rfl rfl) rfl rfl rfl (.cons (lk 0 rfl rfl) rfl rfl rfl .nil)) rfl rfl) ?_
  refine S.sil 12 rfl rfl (fun _ hF => .fieldAddrC lay66 rfl rfl (lk 7 rfl rfl) rfl (flL_c (show flen _ = 1 from rfl) flL_nil)) ?_
  refine S.sil 13 rfl rfl (fun _ hF => .loadC sz3 ag3 (lk 0 rfl rfl) rfl rfl) ?_
  refine S.sil 14 rfl rfl (fun _ hF => .fieldAddrC lay66 rfl rfl (lk 8 rfl rfl) rfl (flL_c (show flen _ = 1 from rfl) flL_nil)) ?_
  refine S.sil 15 rfl rfl (fun _ hF => .loadC sz3 ag3 (lk 0 rfl rfl) rfl rfl) ?_
  refine S.sil 16 rfl rfl (fun _ hF => .buildArrL (w := E_A2_i64 (#v[a1.Number, a2.Number] : Vector Int 2)) arr135 zv135 (.cons (lk 2 rfl rfl) rfl rfl rfl (.cons (lk 0 rfl rfl) rfl rfl rfl .nil)) rfl rfl) ?_
  refine S.sil 17 rfl rfl (fun _ hF => .buildArrL (w := E_A2_A2_i64 (#v[(#v[a1.Replica, a2.Replica] : Vector Int 2), (#v[a1.Number, a2.Number] : Vector Int 2)] : Vector (Vector Int 2) 2)) arr171 zv171 (.cons (lk 5 rfl rfl) rfl rfl (ty_A2_i64.fl (#v[a1.Replica, a2.Replica] : Vector Int 2)) (.cons (lk 0 rfl rfl) rfl rfl (ty_A2_i64.fl (#v[a1.Number, a2.Number] : Vector Int 2)) .nil)) rfl rfl) ?_
  refine S.sil 18 rfl rfl (fun _ hF => .move cI) ?_
  refine S.nil ?_
  refine thenQ_n ?_
  refine AWp.prune (.eq (lk 0 rfl rfl) rfl (.eq (lk 1 rfl rfl) rfl (.eq (lk 12 rfl rfl) rfl .nil))) ?_
  refine AWp.cutL (fun x5 => ⟨[(4, (V.int .i64) 0)], []⟩) nc_then h (fun q3 hq3 h => ?_) (fun x5 h => ?_)
  · refine AWp.block ?_
    refine AWp.loopT (fun s4 => ⟨[(18, (V.int .i64) s4), (17, E_A2_A2_i64 (#v[(#v[a1.Replica, a2.Replica] : Vector Int 2), (#v[a1.Number, a2.Number] : Vector Int 2)] : Vector (Vector Int 2) 2)), (4, (V.int .i64) 0)], []⟩) hq3 (Wk.selS [] (by decide) rfl (SelE.leaf (lk 0 rfl rfl) rfl (.refl _) (fun m => ((TyOk.int .i64).lt _ _)) (SelE.leaf (lk 1 rfl rfl) rfl (.refl _) (fun m => (ty_A2_A2_i64.lt _ _)) (SelE.leaf (lk 2 rfl rfl) rfl (.refl _) (fun m => ((TyOk.int .i64).lt _ _)) .nil))) .nil) (fun _ s4 h3 => ?_)
    rw [hold_compare_L1] at h3
    refine AWp.seq ?_
    refine W.reg [0] rfl ?_
    refine S.sil 19 rfl rfl (fun _ hF => .lss (lk 0 rfl rfl) cI) ?_
    refine S.nil ?_
    refine thenQ_n ?_
    refine AWp.seq ?_
    refine AWp.condM (lk 0 rfl rfl) h3 (fun c1 h3 => ?_) (fun c1 h3 => ?_)
    · skip
      refine AWp.skip ?_
      refine thenQ_n ?_
      refine AWp.seq ?_
      refine AWp.block ?_
      refine AWp.seq ?_
      refine W.reg [0, 1, 2] rfl ?_
      obtain ⟨k6, m6, h3⟩ := h3.bnd
      refine S.sil 20 rfl rfl (fun _ hF => .ixV arr171 (lk 2 rfl rfl) (lk 1 rfl rfl) m6 rfl) ?_
      refine S.eff 6 rfl rfl (.nf (v2 := .ptr 0 [] 0) (H2 := [.cells (E_A2_i64 (default : Vector Int 2))]) (.alloc zv135) rfl rfl) trivial ?_
      obtain ⟨v7, ev7, h3⟩ := h3.nam
      refine S.effN rfl rfl (.nf (H2 := [.cells (E_A2_i64 v7)]) (.storeP sz135 (lk 0 rfl rfl) (lk 1 rfl rfl) rfl (.refl _) rfl .nil (by first | rfl | omega) .nil (ty_A2_i64.fl ((#v[(#v[a1.Replica, a2.Replica] : Vector Int 2), (#v[a1.Number, a2.Number] : Vector Int 2)] : Vector (Vector Int 2) 2).get k6)) (ty_A2_i64.fl (default : Vector Int 2)) (congrArg (fun z => ([AObj.cells (E_A2_i64 z)] : List AObj)) ev7.symm)) rfl rfl) trivial ?_
      refine S.nil ?_
      refine thenQ_n ?_
      refine AWp.wk (Wk.freeze 0 rfl rfl (.cons (lk 0 rfl rfl) rfl (.ptr .nil (by first | rfl | omega)) (.same (lk 1 rfl rfl) (.same (lk 2 rfl rfl) (.same (lk 3 rfl rfl) (.same (lk 4 rfl rfl) (.same (lk 5 rfl rfl) .nil)))))) (.refl _)) ?_
      refine AWp.seq ?_
      refine W.reg [0, 1, 2, 3, 4] rfl ?_
      obtain ⟨k8, m8, h3⟩ := h3.bnd
      refine S.sil 21 rfl rfl (fun _ hF => .ixC arr135 (lk 0 rfl rfl) cI m8) ?_
      refine S.sil 22 rfl rfl (fun _ hF => .loadC sz3 ag3 (lk 0 rfl rfl) rfl rfl) ?_
      obtain ⟨k9, m9, h3⟩ := h3.bnd
      refine S.sil 23 rfl rfl (fun _ hF => .ixC arr135 (lk 2 rfl rfl) cI m9) ?_
      refine S.sil 24 rfl rfl (fun _ hF => .loadC sz3 ag3 (lk 0 rfl rfl) rfl rfl) ?_
      refine S.sil 25 rfl rfl (fun _ hF => .neq (lk 2 rfl rfl) (lk 0 rfl rfl)) ?_
      refine S.nil ?_
      refine thenQ_n ?_
      refine AWp.condM (lk 0 rfl rfl) h3 (fun c2 h3 => ?_) (fun c2 h3 => ?_)
      · skip
        refine AWp.seq ?_
        refine AWp.seq ?_
        refine W.reg [0, 1, 2, 3, 4] rfl ?_
        obtain ⟨k10, m10, h3⟩ := h3.bnd
        refine S.sil 26 rfl rfl (fun _ hF => .ixC arr135 (lk 5 rfl rfl) cI m10) ?_
        refine S.sil 27 rfl rfl (fun _ hF => .loadC sz3 ag3 (lk 0 rfl rfl) rfl rfl) ?_
        obtain ⟨k11, m11, h3⟩ := h3.bnd
        refine S.sil 28 rfl rfl (fun _ hF => .ixC arr135 (lk 7 rfl rfl) cI m11) ?_
        refine S.sil 29 rfl rfl (fun _ hF => .loadC sz3 ag3 (lk 0 rfl rfl) rfl rfl) ?_
        refine S.sil 30 rfl rfl (fun _ hF => .lss (lk 2 rfl rfl) (lk 0 rfl rfl)) ?_
        refine S.nil ?_
        refine thenQ_n ?_
        refine AWp.condM (lk 0 rfl rfl) h3 (fun c3 h3 => ?_) (fun c3 h3 => ?_)
        · skip
          refine AWp.seq ?_
          refine W.reg [0] rfl ?_
          refine S.sil 4 rfl rfl (fun _ hF => .assign cI) ?_
          refine S.nil ?_
          refine thenQ_n ?_
          refine AWp.ret ?_
          refine thenQ_r ?_
          refine blockQ_r ?_
          refine thenQ_r ?_
          refine thenQ_r ?_
          refine blockQ_r ?_
          refine thenQ_r ?_
          refine thenQ_r ?_
          have h := Ok.inrq h h3.ret
          obtain rfl := h.ret
          exact endF1 rfl (Wk.selS [] .nil rfl (SelE.leaf (lk 0 rfl rfl) rfl (.refl _) (fun m => ((TyOk.int .i64).lt _ _)) .nil) .nil) (.tmp (lk 0 rfl rfl) rfl) rfl rfl
        · skip
          refine AWp.skip ?_
          refine thenQ_n ?_
          refine AWp.seq ?_
          refine W.reg [0] rfl ?_
          refine S.sil 4 rfl rfl (fun _ hF => .assign cI) ?_
          refine S.nil ?_
          refine thenQ_n ?_
          refine AWp.ret ?_
          refine blockQ_r ?_
          refine thenQ_r ?_
          refine thenQ_r ?_
          refine blockQ_r ?_
          refine thenQ_r ?_
          refine thenQ_r ?_
          have h := Ok.inrq h h3.ret
          obtain rfl := h.ret
          exact endF1 rfl (Wk.selS [] .nil rfl (SelE.leaf (lk 0 rfl rfl) rfl (.refl _) (fun m => ((TyOk.int .i64).lt _ _)) .nil) .nil) (.tmp (lk 0 rfl rfl) rfl) rfl rfl
      · skip
        refine AWp.skip ?_
        refine blockQ_n ?_
        refine thenQ_n ?_
        refine W.reg [0, 1] rfl ?_
        refine S.sil 31 rfl rfl (fun _ hF => .add (lk 8 rfl rfl) cI) ?_
        refine S.sil 18 rfl rfl (fun _ hF => .move (lk 0 rfl rfl)) ?_
        refine S.nil ?_
        refine thenQ_n ?_
        exact ⟨_, h3.ret, (Wk.selS [] (by decide) rfl (SelE.leaf (lk 0 rfl rfl) rfl (.refl _) (fun m => ((TyOk.int .i64).lt _ _)) (SelE.leaf (lk 11 rfl rfl) rfl (.refl _) (fun m => (ty_A2_A2_i64.lt _ _)) (SelE.leaf (lk 12 rfl rfl) rfl (.refl _) (fun m => ((TyOk.int .i64).lt _ _)) .nil))) .nil)⟩
    · skip
      refine AWp.exit ?_
      refine thenQ_x ?_
      refine thenQ_x ?_
      refine blockQ_x ?_
      refine thenQ_n ?_
      exact ⟨_, h3.ret, (Wk.selS [] (by decide) rfl (SelE.leaf (lk 3 rfl rfl) rfl (.refl _) (fun m => ((TyOk.int .i64).lt _ _)) .nil) .nil)⟩
  · skip
    refine thenQ_n ?_
    refine AWp.seq ?_
    refine W.reg [0] rfl ?_
    refine S.sil 4 rfl rfl (fun _ hF => .assign cI) ?_
    refine S.nil ?_
    refine thenQ_n ?_
    refine AWp.ret ?_
    obtain rfl := h.ret
    exact endF1 rfl (Wk.selS [] .nil rfl (SelE.leaf (lk 0 rfl rfl) rfl (.refl _) (fun m => ((TyOk.int .i64).lt _ _)) .nil) .nil) (.tmp (lk 0 rfl rfl) rfl) rfl rfl
theorem C_hold_Rights {a1 : List THold} {r : Bool} (h : hold_Rights a1 = some r) : PureC Pg 76 [.sl 5 .no (List.map E_THold a1)] (V.bool r) := by
  refine PureC.ofF (CallSpec.of_bodyF 33 0 fn76 rfl rfl rfl (Nat.le_of_ble_eq_true rfl) ?_) (ltL_c (lt_sl rfl (ty_THold.ltm _ _)) ltL_nil) (TyOk.bool.lt _ _)
  replace h := Ok.of h
  unfold hold_Rights at h
  refine AWp.seq ?_
  refine W.reg [0] rfl ?_
  refine S.sil 2 rfl rfl (fun _ hF => .assign cB) ?_
  refine S.nil ?_
  refine thenQ_n ?_
  refine AWp.seq ?_
  refine AWp.seq ?_
  refine W.reg [0, 1, 2] rfl ?_
  refine S.sil 5 rfl rfl (fun _ hF => .move (lk 1 rfl rfl)) ?_
  refine S.sil 6 rfl rfl (fun _ hF => .lenT sli31 (lk 0 rfl rfl) (vsub rfl (.refl _))) ?_
  refine S.sil 7 rfl rfl (fun _ hF => .move cI) ?_
  refine S.nil ?_
  refine thenQ_n ?_
  refine AWp.cutL (fun x4 => ⟨[(2, V.bool false), (0, .sl 5 .no (List.map E_THold a1))], []⟩) nc_then h (fun q2 hq2 h => ?_) (fun x4 h => ?_)
  · refine AWp.block ?_
    refine AWp.loopT (fun s3 => ⟨[(7, (V.int .i64) s3), (6, (V.int .i64) (a1.length : Int)), (5, .sl 5 .no (List.map E_THold a1)), (2, V.bool false), (0, .sl 5 .no (List.map E_THold a1))], []⟩) hq2 (Wk.selS [] (by decide) rfl (SelE.leaf (lk 0 rfl rfl) rfl (.refl _) (fun m => ((TyOk.int .i64).lt _ _)) (SelE.leaf (lk 1 rfl rfl) rfl (.refl _) (fun m => ((TyOk.int .i64).lt _ _)) (SelE.leaf (lk 2 rfl rfl) rfl (.refl _) (fun m => (lt_sl rfl (ty_THold.ltm _ _))) (SelE.leaf (lk 3 rfl rfl) rfl (.refl _) (fun m => (TyOk.bool.lt _ _)) (SelE.leaf (lk 4 rfl rfl) rfl (.refl _) (fun m => (lt_sl rfl (ty_THold.ltm _ _))) .nil))))) .nil) (fun _ s3 h2 => ?_)
    rw [hold_Rights_L1] at h2
    refine AWp.seq ?_
    refine W.reg [0] rfl ?_
    refine S.sil 8 rfl rfl (fun _ hF => .lss (lk 0 rfl rfl) (lk 1 rfl rfl)) ?_
    refine S.nil ?_
    refine thenQ_n ?_
    refine AWp.seq ?_
    refine AWp.condM (lk 0 rfl rfl) h2 (fun c1 h2 => ?_) (fun c1 h2 => ?_)
    · skip
      refine AWp.skip ?_
      refine thenQ_n ?_
      refine AWp.seq ?_
      refine AWp.block ?_
      refine AWp.seq ?_
      refine W.reg [0, 1, 2, 3, 4, 5] rfl ?_
      refine S.sil 9 rfl rfl (fun _ hF => .move (lk 1 rfl rfl)) ?_
      obtain ⟨j5, m5, h2⟩ := h2.bnd
      refine S.sil 10 rfl rfl (fun _ hF => .ixS sli31 (lk 4 rfl rfl) (lk 2 rfl rfl) m5) ?_
      obtain ⟨v6, ev6, h2⟩ := h2.nam
      refine S.sil 11 rfl rfl (fun _ hF => .nv (.loadC sz66 ag66 (lk 0 rfl rfl) (ty_THold.fl (a1.getD j5 default)) rfl) (congrArg E_THold ev6.symm)) ?_
      refine S.eff 4 rfl rfl (.nf (v2 := .ptr 0 [] 0) (H2 := [.cells (E_THold (default : THold))]) (.alloc zv66) rfl rfl) trivial ?_
      refine S.sil 3 rfl rfl (fun _ hF => .assign (lk 3 rfl rfl)) ?_
      refine S.effN rfl rfl (.nf (H2 := [.cells (E_THold v6)]) (.storeP sz66 (lk 1 rfl rfl) (lk 2 rfl rfl) rfl (.refl _) rfl .nil (by first | rfl | omega) .nil (ty_THold.fl v6) (ty_THold.fl (default : THold)) rfl) rfl rfl) trivial ?_
      refine S.nil ?_
      refine thenQ_n ?_
      refine AWp.wk (Wk.freeze 0 rfl rfl (.same (lk 0 rfl rfl) (.cons (lk 1 rfl rfl) rfl (.ptr .nil (by first | rfl | omega)) (.same (lk 2 rfl rfl) (.same (lk 3 rfl rfl) (.same (lk 4 rfl rfl) (.same (lk 5 rfl rfl) (.same (lk 6 rfl rfl) (.same (lk 7 rfl rfl) (.same (lk 8 rfl rfl) (.same (lk 9 rfl rfl) (.same (lk 10 rfl rfl) .nil))))))))))) (.refl _)) ?_
      refine AWp.seq ?_
      refine W.regD [0, 1, 2, 3, 4, 5, 6, 7, 8, 9, 10, 11, 12, 13, 14, 15, 16] mixed ?_
      refine S.sil 12 rfl rfl (fun _ hF => .loadC sz66 ag66 (lk 1 rfl rfl) (ty_THold.fl v6) rfl) ?_
      obtain ⟨r7, m7, h2⟩ := h2.bnd
      refine S.sil 13 rfl rfl (fun _ hF => .callQ ent124 cF (.c (lk 0 rfl rfl) (V.sub.refl _) .nil) (C_hold_Right m7)) ?_
      refine S.sil 14 rfl rfl (fun _ hF => .not (lk 0 rfl rfl)) ?_
      refine S.sil 15 rfl rfl (fun _ hF => .move (lk 0 rfl rfl)) ?_
      refine S.gsil 16 3 15 false rfl rfl rfl (lk 0 rfl rfl) (fun hB _ hF => .move (lk 4 rfl rfl)) ?_
      refine S.gsil 17 3 15 false rfl rfl rfl (lk 1 rfl rfl) (fun hB _ hF => .gtr (ifT hB (lk 0 rfl rfl)) cI) ?_
      refine S.gsil 18 3 15 false rfl rfl rfl (lk 2 rfl rfl) (fun hB _ hF => .move (ifT hB (lk 0 rfl rfl))) ?_
      refine S.gsil2 19 6 18 true rfl rfl rfl (lk 0 rfl rfl) (fun hB _ hF => .move (lk 17 rfl rfl)) ?_
      refine S.gsil2 20 6 18 true rfl rfl rfl (lk 1 rfl rfl) (fun hB _ hF => .move (lk 8 rfl rfl)) ?_
      refine S.gsil2 21 6 18 true rfl rfl rfl (lk 2 rfl rfl) (fun hB _ hF => .sub (ifT hB (lk 0 rfl rfl)) cI) ?_
      obtain ⟨j8, m8, h2⟩ := h2.bnd
      refine S.gsil2 22 6 18 true rfl rfl rfl (lk 3 rfl rfl) (fun hB _ hF => .ixS sli31 (ifT hB (lk 2 rfl rfl)) (ifT hB (lk 0 rfl rfl)) (gd_get m8 hB)) ?_
      refine S.gsil2 23 6 18 true rfl rfl rfl (lk 4 rfl rfl) (fun hB _ hF => .loadC sz66 ag66 (ifT hB (lk 0 rfl rfl)) (ty_THold.fl (a1.getD j8 default)) rfl) ?_
      refine S.gsil2 24 6 18 true rfl rfl rfl (lk 5 rfl rfl) (fun hB _ hF => .loadC sz66 ag66 (lk 13 rfl rfl) (ty_THold.fl v6) rfl) ?_
      obtain ⟨r9, m9, h2⟩ := h2.bnd
      refine S.gsil2 25 6 18 true rfl rfl rfl (lk 6 rfl rfl) (fun hB _ hF => .callQ ent108 cF (.c (ifT hB (lk 1 rfl rfl)) (V.sub.refl _) (.c (ifT hB (lk 0 rfl rfl)) (V.sub.refl _) .nil)) (C_hold_compare (gd_get m9 hB))) ?_
      refine S.gsil2 26 6 18 true rfl rfl rfl (lk 7 rfl rfl) (fun hB _ hF => .geq (ifT hB (lk 0 rfl rfl)) cI) ?_
      refine S.gsil 27 3 15 false rfl rfl rfl (lk 11 rfl rfl) (fun hB _ hF => .pickAnd (ifT hB (lk 8 rfl rfl)) (fun h => ifT ⟨hB, h⟩ (lk 0 rfl rfl)) cB) ?_
      refine S.sil 28 rfl rfl (fun _ hF => .pickOr (lk 12 rfl rfl) cB (fun h => ifT h (lk 0 rfl rfl))) ?_
      refine S.nilD (by kernel_rfl) ?_
      refine thenQ_n ?_
      refine AWp.prune (.eq (lk 0 rfl rfl) rfl (.eq (lk 13 rfl rfl) rfl (.eq (lk 14 rfl rfl) rfl (.eq (lk 15 rfl rfl) rfl (.eq (lk 16 rfl rfl) rfl (.eq (lk 17 rfl rfl) rfl (.eq (lk 18 rfl rfl) rfl (.eq (lk 19 rfl rfl) rfl (.eq (lk 20 rfl rfl) rfl (.eq (lk 21 rfl rfl) rfl (.eq (lk 22 rfl rfl) rfl (.eq (lk 23 rfl rfl) rfl (.eq (lk 24 rfl rfl) rfl (.eq (lk 25 rfl rfl) rfl (.eq (lk 26 rfl rfl) rfl (.eq (lk 27 rfl rfl) rfl .nil)))))))))))))))) ?_
      refine AWp.condM (lk 0 rfl rfl) h2 (fun c2 h2 => ?_) (fun c2 h2 => ?_)
      · skip
        refine AWp.seq ?_
        refine W.reg [0] rfl ?_
        refine S.sil 2 rfl rfl (fun _ hF => .assign cB) ?_
        refine S.nil ?_
        refine thenQ_n ?_
        refine AWp.ret ?_
        refine blockQ_r ?_
        refine thenQ_r ?_
        refine thenQ_r ?_
        refine blockQ_r ?_
        refine thenQ_r ?_
        refine thenQ_r ?_
        have h := Ok.inrq h h2.ret
        obtain rfl := h.ret
        exact endF1 rfl (Wk.selS [] .nil rfl (SelE.leaf (lk 0 rfl rfl) rfl (.refl _) (fun m => (TyOk.bool.lt _ _)) .nil) .nil) (.tmp (lk 0 rfl rfl) rfl) rfl rfl
      · skip
        refine AWp.skip ?_
        refine blockQ_n ?_
        refine thenQ_n ?_
        refine W.reg [0, 1] rfl ?_
        refine S.sil 29 rfl rfl (fun _ hF => .add (lk 11 rfl rfl) cI) ?_
        refine S.sil 7 rfl rfl (fun _ hF => .move (lk 0 rfl rfl)) ?_
        refine S.nil ?_
        refine thenQ_n ?_
        exact ⟨_, h2.ret, (Wk.selS [] (by decide) rfl (SelE.leaf (lk 0 rfl rfl) rfl (.refl _) (fun m => ((TyOk.int .i64).lt _ _)) (SelE.leaf (lk 14 rfl rfl) rfl (.refl _) (fun m => ((TyOk.int .i64).lt _ _)) (SelE.leaf (lk 15 rfl rfl) rfl (.refl _) (fun m => (lt_sl rfl (ty_THold.ltm _ _))) (SelE.leaf (lk 16 rfl rfl) rfl (.refl _) (fun m => (TyOk.bool.lt _ _)) (SelE.leaf (lk 17 rfl rfl) rfl (.refl _) (fun m => (lt_sl rfl (ty_THold.ltm _ _))) .nil))))) .nil)⟩
    · skip
      refine AWp.exit ?_
      refine thenQ_x ?_
      refine thenQ_x ?_
      refine blockQ_x ?_
      refine thenQ_n ?_
      exact ⟨_, h2.ret, (Wk.selS [] (by decide) rfl (SelE.leaf (lk 4 rfl rfl) rfl (.refl _) (fun m => (TyOk.bool.lt _ _)) (SelE.leaf (lk 5 rfl rfl) rfl (.refl _) (fun m => (lt_sl rfl (ty_THold.ltm _ _))) .nil)) .nil)⟩
  · skip
    refine thenQ_n ?_
    refine AWp.seq ?_
    refine W.reg [0, 1, 2, 3] rfl ?_
    refine S.sil 30 rfl rfl (fun _ hF => .move (lk 1 rfl rfl)) ?_
    refine S.sil 31 rfl rfl (fun _ hF => .lenT sli31 (lk 0 rfl rfl) (vsub rfl (.refl _))) ?_
    refine S.sil 32 rfl rfl (fun _ hF => .leq (lk 0 rfl rfl) cI) ?_
    obtain ⟨v10, ev10, h⟩ := h.nam
    refine S.sil 2 rfl rfl (fun _ hF => .nv (.assign (lk 0 rfl rfl)) (congrArg V.bool ev10.symm)) ?_
    refine S.nil ?_
    refine thenQ_n ?_
    refine AWp.ret ?_
    obtain rfl := h.ret
    exact endF1 rfl (Wk.selS [] .nil rfl (SelE.leaf (lk 0 rfl rfl) rfl (.refl _) (fun m => (TyOk.bool.lt _ _)) .nil) .nil) (.tmp (lk 0 rfl rfl) rfl) rfl rfl
theorem C_lock_Right_1 {a1 : Int} {r : Bool} (h : lock_Right_1 a1 = some r) : PureC Pg 128 [(V.int .i64) a1] (V.bool r) := by
  refine PureC.ofF (CallSpec.of_bodyF 9 0 fn128 rfl rfl rfl (Nat.le_of_ble_eq_true rfl) ?_) (ltL_c ((TyOk.int .i64).lt _ _) ltL_nil) (TyOk.bool.lt _ _)
  replace h := Ok.of h
  unfold lock_Right_1 at h
  refine AWp.seq ?_
  refine W.reg [0] rfl ?_
  refine S.sil 2 rfl rfl (fun _ hF => .assign cB) ?_
  refine S.nil ?_
  refine thenQ_n ?_
  refine AWp.seq ?_
  refine W.reg [0, 1, 2, 3, 4, 5, 6] rfl ?_
  refine S.sil 3 rfl rfl (fun _ hF => .move (lk 1 rfl rfl)) ?_
  refine S.sil 4 rfl rfl (fun _ hF => .geq (lk 0 rfl rfl) cI) ?_
  refine S.sil 5 rfl rfl (fun _ hF => .move (lk 0 rfl rfl)) ?_
  refine S.gsil 6 2 5 true rfl rfl rfl (lk 0 rfl rfl) (fun hB _ hF => .move (lk 4 rfl rfl)) ?_
  obtain ⟨r2, m2, h⟩ := h.bnd
  refine S.gsil 7 2 5 true rfl rfl rfl (lk 1 rfl rfl) (fun hB _ hF => .callQ ent64 cF (.c (ifT hB (lk 0 rfl rfl)) (V.sub.refl _) .nil) (C_num_Is (gd_get m2 hB))) ?_
  refine S.sil 8 rfl rfl (fun _ hF => .pickAnd (lk 2 rfl rfl) (fun h => ifT h (lk 0 rfl rfl)) cB) ?_
  obtain ⟨v3, ev3, h⟩ := h.nam
  refine S.sil 2 rfl rfl (fun _ hF => .nv (.assign (lk 0 rfl rfl)) (congrArg V.bool ev3.symm)) ?_
  refine S.nil ?_
  refine thenQ_n ?_
  refine AWp.ret ?_
  obtain rfl := h.ret
  exact endF1 rfl (Wk.selS [] .nil rfl (SelE.leaf (lk 0 rfl rfl) rfl (.refl _) (fun m => (TyOk.bool.lt _ _)) .nil) .nil) (.tmp (lk 0 rfl rfl) rfl) rfl rfl
theorem C_lock_is {a1 : Int} {r : Bool} (h : lock_is a1 = some r) : PureC Pg 129 [(V.int .i64) a1] (V.bool r) := by
  refine PureC.ofF (CallSpec.of_bodyF 9 0 fn129 rfl rfl rfl (Nat.le_of_ble_eq_true rfl) ?_) (ltL_c ((TyOk.int .i64).lt _ _) ltL_nil) (TyOk.bool.lt _ _)
  replace h := Ok.of h
  unfold lock_is at h
  refine AWp.seq ?_
  refine W.reg [0] rfl ?_
  refine S.sil 2 rfl rfl (fun _ hF => .assign cB) ?_
  refine S.nil ?_
  refine thenQ_n ?_
  refine AWp.seq ?_
  refine W.reg [0, 1, 2, 3, 4, 5, 6] rfl ?_
  refine S.sil 3 rfl rfl (fun _ hF => .move (lk 1 rfl rfl)) ?_
  refine S.sil 4 rfl rfl (fun _ hF => .geq (lk 0 rfl rfl) cI) ?_
  refine S.sil 5 rfl rfl (fun _ hF => .move (lk 0 rfl rfl)) ?_
  refine S.gsil 6 2 5 true rfl rfl rfl (lk 0 rfl rfl) (fun hB _ hF => .move (lk 4 rfl rfl)) ?_
  refine S.gsil 7 2 5 true rfl rfl rfl (lk 1 rfl rfl) (fun hB _ hF => .lss (ifT hB (lk 0 rfl rfl)) cI) ?_
  refine S.sil 8 rfl rfl (fun _ hF => .pickAnd (lk 2 rfl rfl) (fun h => ifT h (lk 0 rfl rfl)) cB) ?_
  obtain ⟨v2, ev2, h⟩ := h.nam
  refine S.sil 2 rfl rfl (fun _ hF => .nv (.assign (lk 0 rfl rfl)) (congrArg V.bool ev2.symm)) ?_
  refine S.nil ?_
  refine thenQ_n ?_
  refine AWp.ret ?_
  obtain rfl := h.ret
  exact endF1 rfl (Wk.selS [] .nil rfl (SelE.leaf (lk 0 rfl rfl) rfl (.refl _) (fun m => (TyOk.bool.lt _ _)) .nil) .nil) (.tmp (lk 0 rfl rfl) rfl) rfl rfl
theorem C_lock_Right {a1 : TLock} {r : Bool} (h : lock_Right a1 = some r) : PureC Pg 77 [E_TLock a1] (V.bool r) := by
  refine PureC.ofF (CallSpec.of_bodyF 24 0 fn77 rfl rfl rfl (Nat.le_of_ble_eq_true rfl) ?_) (ltL_c (ty_TLock.lt _ _) ltL_nil) (TyOk.bool.lt _ _)
  replace h := Ok.of h
  unfold lock_Right at h
  refine AWp.seq ?_
  refine W.reg [0, 1] rfl ?_
  refine S.eff 1 rfl rfl (.nf (v2 := .ptr 0 [] 0) (H2 := [.cells (E_TLock a1)]) (.box (lk 0 rfl rfl) rfl) rfl rfl) trivial ?_
  refine S.sil 2 rfl rfl (fun _ hF => .assign cB) ?_
  refine S.nil ?_
  refine thenQ_n ?_
  refine AWp.wk (Wk.freeze 0 rfl rfl (.same (lk 0 rfl rfl) (.cons (lk 1 rfl rfl) rfl (.ptr .nil (by first | rfl | omega)) .nil)) (.refl _)) ?_
  refine AWp.seq ?_
  refine W.reg [0] rfl ?_
  refine S.sil 3 rfl rfl (fun _ hF => .assign cF) ?_
  refine S.nil ?_
  refine thenQ_n ?_
  refine AWp.seq ?_
  refine W.reg [0, 1, 2, 3, 4, 5, 6, 7, 8, 9, 10, 11, 12, 13, 14, 15, 16, 17, 18, 19, 20] rfl ?_
  refine S.sil 4 rfl rfl (fun _ hF => .move (lk 0 rfl rfl)) ?_
  refine S.sil 5 rfl rfl (fun _ hF => .fieldAddrC lay30 rfl rfl (lk 3 rfl rfl) rfl flL_nil) ?_
  refine S.sil 6 rfl rfl (fun _ hF => .loadC sz3 ag3 (lk 0 rfl rfl) rfl rfl) ?_
  obtain ⟨r2, m2, h⟩ := h.bnd
  refine S.sil 7 rfl rfl (fun _ hF => .callQ ent128 (lk 2 rfl rfl) (.c (lk 0 rfl rfl) (V.sub.refl _) .nil) (C_lock_Right_1 m2)) ?_
  refine S.sil 8 rfl rfl (fun _ hF => .move (lk 0 rfl rfl)) ?_
  refine S.gsil 9 4 8 true rfl rfl rfl (lk 0 rfl rfl) (fun hB _ hF => .move (lk 5 rfl rfl)) ?_
  refine S.gsil 10 4 8 true rfl rfl rfl (lk 1 rfl rfl) (fun hB _ hF => .fieldAddrC lay30 rfl rfl (lk 8 rfl rfl) rfl (flL_c (show flen _ = 1 from rfl) flL_nil)) ?_
  refine S.gsil 11 4 8 true rfl rfl rfl (lk 2 rfl rfl) (fun hB _ hF => .loadC sz3 ag3 (ifT hB (lk 0 rfl rfl)) rfl rfl) ?_
  obtain ⟨r3, m3, h⟩ := h.bnd
  refine S.gsil 12 4 8 true rfl rfl rfl (lk 3 rfl rfl) (fun hB _ hF => .callQ ent128 (ifT hB (lk 2 rfl rfl)) (.c (ifT hB (lk 0 rfl rfl)) (V.sub.refl _) .nil) (C_lock_Right_1 (gd_get m3 hB))) ?_
  refine S.sil 13 rfl rfl (fun _ hF => .pickAnd (lk 4 rfl rfl) (fun h => ifT h (lk 0 rfl rfl)) cB) ?_
  refine S.sil 14 rfl rfl (fun _ hF => .move (lk 0 rfl rfl)) ?_
  refine S.gsil 15 10 14 true rfl rfl rfl (lk 0 rfl rfl) (fun hB _ hF => .fieldAddrC lay30 rfl rfl (lk 13 rfl rfl) rfl (flL_c (show flen _ = 1 from rfl) (flL_c (show flen _ = 1 from rfl) flL_nil))) ?_
  refine S.gsil 16 10 14 true rfl rfl rfl (lk 1 rfl rfl) (fun hB _ hF => .loadC sz3 ag3 (ifT hB (lk 0 rfl rfl)) rfl rfl) ?_
  obtain ⟨r4, m4, h⟩ := h.bnd
  refine S.gsil 17 10 14 true rfl rfl rfl (lk 2 rfl rfl) (fun hB _ hF => .callQ ent129 cF (.c (ifT hB (lk 0 rfl rfl)) (V.sub.refl _) .nil) (C_lock_is (gd_get m4 hB))) ?_
  refine S.sil 18 rfl rfl (fun _ hF => .pickAnd (lk 3 rfl rfl) (fun h => ifT h (lk 0 rfl rfl)) cB) ?_
  refine S.sil 19 rfl rfl (fun _ hF => .move (lk 0 rfl rfl)) ?_
  refine S.gsil 20 15 19 true rfl rfl rfl (lk 0 rfl rfl) (fun hB _ hF => .fieldAddrC lay30 rfl rfl (lk 18 rfl rfl) rfl (flL_c (show flen _ = 1 from rfl) (flL_c (show flen _ = 1 from rfl) (flL_c (show flen _ = 1 from rfl) flL_nil)))) ?_
  refine S.gsil 21 15 19 true rfl rfl rfl (lk 1 rfl rfl) (fun hB _ hF => .loadC sz3 ag3 (ifT hB (lk 0 rfl rfl)) rfl rfl) ?_
  obtain ⟨r5, m5, h⟩ := h.bnd
  refine S.gsil 22 15 19 true rfl rfl rfl (lk 2 rfl rfl) (fun hB _ hF => .callQ ent64 cF (.c (ifT hB (lk 0 rfl rfl)) (V.sub.refl _) .nil) (C_num_Is (gd_get m5 hB))) ?_
  refine S.sil 23 rfl rfl (fun _ hF => .pickAnd (lk 3 rfl rfl) (fun h => ifT h (lk 0 rfl rfl)) cB) ?_
  obtain ⟨v6, ev6, h⟩ := h.nam
  refine S.sil 2 rfl rfl (fun _ hF => .nv (.assign (lk 0 rfl rfl)) (congrArg V.bool ev6.symm)) ?_
  refine S.nil ?_
  refine thenQ_n ?_
  refine AWp.prune (.eq (lk 0 rfl rfl) rfl .nil) ?_
  refine AWp.ret ?_
  obtain rfl := h.ret
  exact endF1 rfl (Wk.selS [] .nil rfl (SelE.leaf (lk 0 rfl rfl) rfl (.refl _) (fun m => (TyOk.bool.lt _ _)) .nil) .nil) (.tmp (lk 0 rfl rfl) rfl) rfl rfl
theorem C_field_Right {a1 : TField} {r : Bool} (h : field_Right a1 = some r) : PureC Pg 36 [E_TField a1] (V.bool r) := by
  refine PureC.ofF (CallSpec.of_bodyF 53 0 fn36 rfl rfl rfl (Nat.le_of_ble_eq_true rfl) ?_) (ltL_c (ty_TField.lt _ _) ltL_nil) (TyOk.bool.lt _ _)
  replace h := Ok.of h
  unfold field_Right at h
  refine AWp.seq ?_
  refine W.reg [0, 1] rfl ?_
  refine S.eff 1 rfl rfl (.nf (v2 := .ptr 0 [] 0) (H2 := [.cells (E_TField a1)]) (.box (lk 0 rfl rfl) rfl) rfl rfl) trivial ?_
  refine S.sil 2 rfl rfl (fun _ hF => .assign cB) ?_
  refine S.nil ?_
  refine thenQ_n ?_
  refine AWp.wk (Wk.freeze 0 rfl rfl (.same (lk 0 rfl rfl) (.cons (lk 1 rfl rfl) rfl (.ptr .nil (by first | rfl | omega)) .nil)) (.refl _)) ?_
  refine AWp.seq ?_
  refine AWp.seq ?_
  refine W.reg [0, 1, 2, 3, 4, 5, 6, 7, 8, 9, 10, 11, 12, 13, 14] rfl ?_
  refine S.sil 3 rfl rfl (fun _ hF => .fieldAddrC lay33 rfl rfl (lk 1 rfl rfl) rfl flL_nil) ?_
  refine S.sil 4 rfl rfl (fun _ hF => .loadC sz9 ag9 (lk 0 rfl rfl) rfl rfl) ?_
  obtain ⟨r2, m2, h⟩ := h.bnd
  refine S.sil 5 rfl rfl (fun _ hF => .callQ ent72 cF (.c (lk 0 rfl rfl) (V.sub.refl _) .nil) (C_field_Name m2)) ?_
  refine S.sil 6 rfl rfl (fun _ hF => .not (lk 0 rfl rfl)) ?_
  refine S.sil 7 rfl rfl (fun _ hF => .move (lk 0 rfl rfl)) ?_
  refine S.gsil 8 4 7 false rfl rfl rfl (lk 0 rfl rfl) (fun hB _ hF => .fieldAddrC lay33 rfl rfl (lk 6 rfl rfl) rfl (flL_c (show flen _ = 1 from rfl) (flL_c (show flen _ = 1 from rfl) flL_nil))) ?_
  refine S.gsil 9 4 7 false rfl rfl rfl (lk 1 rfl rfl) (fun hB _ hF => .loadC sz3 ag3 (ifT hB (lk 0 rfl rfl)) rfl rfl) ?_
  refine S.gsil 10 4 7 false rfl rfl rfl (lk 2 rfl rfl) (fun hB _ hF => .lss (ifT hB (lk 0 rfl rfl)) cI) ?_
  refine S.sil 11 rfl rfl (fun _ hF => .pickOr (lk 3 rfl rfl) cB (fun h => ifT h (lk 0 rfl rfl))) ?_
  refine S.sil 12 rfl rfl (fun _ hF => .move (lk 0 rfl rfl)) ?_
  refine S.gsil 13 9 12 false rfl rfl rfl (lk 0 rfl rfl) (fun hB _ hF => .fieldAddrC lay33 rfl rfl (lk 11 rfl rfl) rfl (flL_c (show flen _ = 1 from rfl) (flL_c (show flen _ = 1 from rfl) flL_nil))) ?_
  refine S.gsil 14 9 12 false rfl rfl rfl (lk 1 rfl rfl) (fun hB _ hF => .loadC sz3 ag3 (ifT hB (lk 0 rfl rfl)) rfl rfl) ?_
  obtain ⟨r3, m3, h⟩ := h.bnd
  refine S.gsil 15 9 12 false rfl rfl rfl (lk 2 rfl rfl) (fun hB _ hF => .callQ ent64 cF (.c (ifT hB (lk 0 rfl rfl)) (V.sub.refl _) .nil) (C_num_Is (gd_get m3 hB))) ?_
  refine S.gsil 16 9 12 false rfl rfl rfl (lk 3 rfl rfl) (fun hB _ hF => .not (ifT hB (lk 0 rfl rfl))) ?_
  refine S.sil 17 rfl rfl (fun _ hF => .pickOr (lk 4 rfl rfl) cB (fun h => ifT h (lk 0 rfl rfl))) ?_
  refine S.nil ?_
  refine thenQ_n ?_
  refine AWp.prune (.eq (lk 0 rfl rfl) rfl (.eq (lk 15 rfl rfl) rfl (.eq (lk 16 rfl rfl) rfl .nil))) ?_
  refine AWp.condM (lk 0 rfl rfl) h (fun c1 h => ?_) (fun c1 h => ?_)
  · skip
    refine AWp.seq ?_
    refine W.reg [0] rfl ?_
    refine S.sil 2 rfl rfl (fun _ hF => .assign cB) ?_
    refine S.nil ?_
    refine thenQ_n ?_
    refine AWp.ret ?_
    refine thenQ_r ?_
    obtain rfl := h.ret
    exact endF1 rfl (Wk.selS [] .nil rfl (SelE.leaf (lk 0 rfl rfl) rfl (.refl _) (fun m => (TyOk.bool.lt _ _)) .nil) .nil) (.tmp (lk 0 rfl rfl) rfl) rfl rfl
  · skip
    refine AWp.skip ?_
    refine thenQ_n ?_
    refine AWp.seq ?_
    refine AWp.seq ?_
    refine W.reg [0, 1] rfl ?_
    refine S.sil 18 rfl rfl (fun _ hF => .fieldAddrC lay33 rfl rfl (lk 2 rfl rfl) rfl (flL_c (show flen _ = 1 from rfl) flL_nil)) ?_
    refine S.sil 19 rfl rfl (fun _ hF => .loadC sz3 ag3 (lk 0 rfl rfl) rfl rfl) ?_
    refine S.nil ?_
    refine thenQ_n ?_
    refine AWp.block ?_
    refine AWp.seq ?_
    refine W.reg [0, 1] rfl ?_
    refine S.sil 21 rfl rfl (fun _ hF => .eql (lk 0 rfl rfl) cI) ?_
    refine S.sil 20 rfl rfl (fun _ hF => .assign (lk 0 rfl rfl)) ?_
    refine S.nil ?_
    refine thenQ_n ?_
    refine AWp.condM (lk 0 rfl rfl) h (fun c2 h => ?_) (fun c2 h => ?_)
    · skip
      refine AWp.seq ?_
      refine W.reg [0, 1, 2, 3, 4, 5, 6, 7, 8, 9, 10, 11, 12, 13, 14] rfl ?_
      refine S.sil 22 rfl rfl (fun _ hF => .fieldAddrC lay33 rfl rfl (lk 6 rfl rfl) rfl (flL_c (show flen _ = 1 from rfl) (flL_c (show flen _ = 1 from rfl) (flL_c (show flen _ = 1 from rfl) flL_nil)))) ?_
      refine S.sil 23 rfl rfl (fun _ hF => .loadC sz28 ag28 (lk 0 rfl rfl) (ty_TCounter.fl a1.Counter) rfl) ?_
      obtain ⟨r4, m4, h⟩ := h.bnd
      refine S.sil 24 rfl rfl (fun _ hF => .callQ ent75 cF (.c (lk 0 rfl rfl) (V.sub.refl _) .nil) (C_counter_Right m4)) ?_
      refine S.sil 25 rfl rfl (fun _ hF => .move (lk 0 rfl rfl)) ?_
      refine S.gsil 26 3 25 true rfl rfl rfl (lk 0 rfl rfl) (fun hB _ hF => .fieldAddrC lay33 rfl rfl (lk 10 rfl rfl) rfl (flL_c (show flen _ = 1 from rfl) (flL_c (show flen _ = 1 from rfl) (flL_c (show flen _ = 1 from rfl) (flL_c (ty_TCounter.fl a1.Counter) (flL_c (ty_TLock.fl a1.Lock) flL_nil)))))) ?_
      refine S.gsil 27 3 25 true rfl rfl rfl (lk 1 rfl rfl) (fun hB _ hF => .loadC sz31 ag31 (ifT hB (lk 0 rfl rfl)) rfl rfl) ?_
      obtain ⟨r5, m5, h⟩ := h.bnd
      refine S.gsil 28 3 25 true rfl rfl rfl (lk 2 rfl rfl) (fun hB _ hF => .callQ ent76 cF (.c (ifT hB (lk 0 rfl rfl)) (V.sub.refl _) .nil) (C_hold_Rights (gd_get m5 hB))) ?_
      refine S.sil 29 rfl rfl (fun _ hF => .pickAnd (lk 3 rfl rfl) (fun h => ifT h (lk 0 rfl rfl)) cB) ?_
      refine S.sil 30 rfl rfl (fun _ hF => .move (lk 0 rfl rfl)) ?_
      refine S.gsil 31 8 30 true rfl rfl rfl (lk 0 rfl rfl) (fun hB _ hF => .fieldAddrC lay33 rfl rfl (lk 15 rfl rfl) rfl (flL_c (show flen _ = 1 from rfl) (flL_c (show flen _ = 1 from rfl) (flL_c (show flen _ = 1 from rfl) (flL_c (ty_TCounter.fl a1.Counter) flL_nil))))) ?_
      refine S.gsil 32 8 30 true rfl rfl rfl (lk 1 rfl rfl) (fun hB _ hF => .loadC sz30 ag30 (ifT hB (lk 0 rfl rfl)) (ty_TLock.fl a1.Lock) rfl) ?_
      refine S.gsil 33 8 30 true rfl rfl rfl (lk 2 rfl rfl) (fun hB _ hF => .nv (v2 := E_TLock (⟨0, 0, 0, 0⟩ : TLock)) (.buildStW lay30 zv30 rfl .nil) rfl) ?_
      refine S.gsil 34 8 30 true rfl rfl rfl (lk 3 rfl rfl) (fun hB _ hF => .eqlT eqt30 eqk_TLock shk_TLock (ifT hB (lk 1 rfl rfl)) (ifT hB (lk 0 rfl rfl)) rfl rfl) ?_
      refine S.sil 35 rfl rfl (fun _ hF => .pickAnd (lk 4 rfl rfl) (fun h => ifT h (lk 0 rfl rfl)) cB) ?_
      obtain ⟨v6, ev6, h⟩ := h.nam
      refine S.sil 2 rfl rfl (fun _ hF => .nv (.assign (lk 0 rfl rfl)) (congrArg V.bool ev6.symm)) ?_
      refine S.nil ?_
      refine thenQ_n ?_
      refine AWp.prune (.eq (lk 0 rfl rfl) rfl .nil) ?_
      refine AWp.ret ?_
      refine blockQ_r ?_
      refine thenQ_r ?_
      obtain rfl := h.ret
      exact endF1 rfl (Wk.selS [] .nil rfl (SelE.leaf (lk 0 rfl rfl) rfl (.refl _) (fun m => (TyOk.bool.lt _ _)) .nil) .nil) (.tmp (lk 0 rfl rfl) rfl) rfl rfl
    · skip
      refine AWp.seq ?_
      refine W.reg [0, 1] rfl ?_
      refine S.sil 37 rfl rfl (fun _ hF => .eql (lk 2 rfl rfl) cI) ?_
      refine S.sil 36 rfl rfl (fun _ hF => .assign (lk 0 rfl rfl)) ?_
      refine S.nil ?_
      refine thenQ_n ?_
      refine AWp.condM (lk 0 rfl rfl) h (fun c3 h => ?_) (fun c3 h => ?_)
      · skip
        refine AWp.seq ?_
        refine W.reg [0, 1, 2, 3, 4, 5, 6, 7, 8, 9, 10, 11, 12, 13, 14, 15] rfl ?_
        refine S.sil 38 rfl rfl (fun _ hF => .fieldAddrC lay33 rfl rfl (lk 8 rfl rfl) rfl (flL_c (show flen _ = 1 from rfl) (flL_c (show flen _ = 1 from rfl) (flL_c (show flen _ = 1 from rfl) (flL_c (ty_TCounter.fl a1.Counter) flL_nil))))) ?_
        refine S.sil 39 rfl rfl (fun _ hF => .loadC sz30 ag30 (lk 0 rfl rfl) (ty_TLock.fl a1.Lock) rfl) ?_
        obtain ⟨r7, m7, h⟩ := h.bnd
        refine S.sil 40 rfl rfl (fun _ hF => .callQ ent77 cF (.c (lk 0 rfl rfl) (V.sub.refl _) .nil) (C_lock_Right m7)) ?_
        refine S.sil 41 rfl rfl (fun _ hF => .move (lk 0 rfl rfl)) ?_
        refine S.gsil 42 3 41 true rfl rfl rfl (lk 0 rfl rfl) (fun hB _ hF => .fieldAddrC lay33 rfl rfl (lk 12 rfl rfl) rfl (flL_c (show flen _ = 1 from rfl) (flL_c (show flen _ = 1 from rfl) (flL_c (show flen _ = 1 from rfl) (flL_c (ty_TCounter.fl a1.Counter) (flL_c (ty_TLock.fl a1.Lock) flL_nil)))))) ?_
        refine S.gsil 43 3 41 true rfl rfl rfl (lk 1 rfl rfl) (fun hB _ hF => .loadC sz31 ag31 (ifT hB (lk 0 rfl rfl)) rfl rfl) ?_
        refine S.gsil 44 3 41 true rfl rfl rfl (lk 2 rfl rfl) (fun hB _ hF => .lenT sli31 (ifT hB (lk 0 rfl rfl)) (vsub rfl (.refl _))) ?_
        refine S.gsil 45 3 41 true rfl rfl rfl (lk 3 rfl rfl) (fun hB _ hF => .eql (ifT hB (lk 0 rfl rfl)) cI) ?_
        refine S.sil 46 rfl rfl (fun _ hF => .pickAnd (lk 4 rfl rfl) (fun h => ifT h (lk 0 rfl rfl)) cB) ?_
        refine S.sil 47 rfl rfl (fun _ hF => .move (lk 0 rfl rfl)) ?_
        refine S.gsil 48 9 47 true rfl rfl rfl (lk 0 rfl rfl) (fun hB _ hF => .fieldAddrC lay33 rfl rfl (lk 18 rfl rfl) rfl (flL_c (show flen _ = 1 from rfl) (flL_c (show flen _ = 1 from rfl) (flL_c (show flen _ = 1 from rfl) flL_nil)))) ?_
        refine S.gsil 49 9 47 true rfl rfl rfl (lk 1 rfl rfl) (fun hB _ hF => .loadC sz28 ag28 (ifT hB (lk 0 rfl rfl)) (ty_TCounter.fl a1.Counter) rfl) ?_
        refine S.gsil 50 9 47 true rfl rfl rfl (lk 2 rfl rfl) (fun hB _ hF => .nv (v2 := E_TCounter (⟨0, 0, 0, (default : TRights), (default : TRights)⟩ : TCounter)) (.buildStW lay28 zv28 rfl .nil) rfl) ?_
        refine S.gsil 51 9 47 true rfl rfl rfl (lk 3 rfl rfl) (fun hB _ hF => .eqlT eqt28 eqk_TCounter shk_TCounter (ifT hB (lk 1 rfl rfl)) (ifT hB (lk 0 rfl rfl)) rfl rfl) ?_
        obtain ⟨v8, ev8, h⟩ := h.nam
        refine S.sil 52 rfl rfl (fun _ hF => .nv (.pickAnd (lk 4 rfl rfl) (fun h => ifT h (lk 0 rfl rfl)) cB) (congrArg V.bool ev8.symm)) ?_
        refine S.sil 2 rfl rfl (fun _ hF => .assign (lk 0 rfl rfl)) ?_
        refine S.nil ?_
        refine thenQ_n ?_
        refine AWp.prune (.eq (lk 0 rfl rfl) rfl .nil) ?_
        refine AWp.ret ?_
        refine blockQ_r ?_
        refine thenQ_r ?_
        obtain rfl := h.ret
        exact endF1 rfl (Wk.selS [] .nil rfl (SelE.leaf (lk 0 rfl rfl) rfl (.refl _) (fun m => (TyOk.bool.lt _ _)) .nil) .nil) (.tmp (lk 0 rfl rfl) rfl) rfl rfl
      · skip
        refine AWp.skip ?_
        refine blockQ_n ?_
        refine thenQ_n ?_
        refine AWp.seq ?_
        refine W.reg [0] rfl ?_
        refine S.sil 2 rfl rfl (fun _ hF => .assign cB) ?_
        refine S.nil ?_
        refine thenQ_n ?_
        refine AWp.ret ?_
        obtain rfl := h.ret
        exact endF1 rfl (Wk.selS [] .nil rfl (SelE.leaf (lk 0 rfl rfl) rfl (.refl _) (fun m => (TyOk.bool.lt _ _)) .nil) .nil) (.tmp (lk 0 rfl rfl) rfl) rfl rfl
theorem C_plan_Fields {a1 : List TField} {r : Bool} (h : plan_Fields a1 = some r) : PureC Pg 88 [.sl 587 .no (List.map E_TField a1)] (V.bool r) := by
  refine PureC.ofF (CallSpec.of_bodyF 34 0 fn88 rfl rfl rfl (Nat.le_of_ble_eq_true rfl) ?_) (ltL_c (lt_sl rfl (ty_TField.ltm _ _)) ltL_nil) (TyOk.bool.lt _ _)
  replace h := Ok.of h
  unfold plan_Fields at h
  refine AWp.seq ?_
  refine W.reg [0] rfl ?_
  refine S.sil 2 rfl rfl (fun _ hF => .assign cB) ?_
  refine S.nil ?_
  refine thenQ_n ?_
  refine AWp.seq ?_
  refine AWp.seq ?_
  refine W.reg [0, 1, 2] rfl ?_
  refine S.sil 5 rfl rfl (fun _ hF => .move (lk 1 rfl rfl)) ?_
  refine S.sil 6 rfl rfl (fun _ hF => .lenT sli49 (lk 0 rfl rfl) (vsub rfl (.refl _))) ?_
  refine S.sil 7 rfl rfl (fun _ hF => .move cI) ?_
  refine S.nil ?_
  refine thenQ_n ?_
  refine AWp.cutL (fun x4 => ⟨[(2, V.bool false), (0, .sl 587 .no (List.map E_TField a1))], []⟩) nc_then h (fun q2 hq2 h => ?_) (fun x4 h => ?_)
  · refine AWp.block ?_
    refine AWp.loopT (fun s3 => ⟨[(7, (V.int .i64) s3), (6, (V.int .i64) (a1.length : Int)), (5, .sl 587 .no (List.map E_TField a1)), (2, V.bool false), (0, .sl 587 .no (List.map E_TField a1))], []⟩) hq2 (Wk.selS [] (by decide) rfl (SelE.leaf (lk 0 rfl rfl) rfl (.refl _) (fun m => ((TyOk.int .i64).lt _ _)) (SelE.leaf (lk 1 rfl rfl) rfl (.refl _) (fun m => ((TyOk.int .i64).lt _ _)) (SelE.leaf (lk 2 rfl rfl) rfl (.refl _) (fun m => (lt_sl rfl (ty_TField.ltm _ _))) (SelE.leaf (lk 3 rfl rfl) rfl (.refl _) (fun m => (TyOk.bool.lt _ _)) (SelE.leaf (lk 4 rfl rfl) rfl (.refl _) (fun m => (lt_sl rfl (ty_TField.ltm _ _))) .nil))))) .nil) (fun _ s3 h2 => ?_)
    rw [plan_Fields_L1] at h2
    refine AWp.seq ?_
    refine W.reg [0] rfl ?_
    refine S.sil 8 rfl rfl (fun _ hF => .lss (lk 0 rfl rfl) (lk 1 rfl rfl)) ?_
    refine S.nil ?_
    refine thenQ_n ?_
    refine AWp.seq ?_
    refine AWp.condM (lk 0 rfl rfl) h2 (fun c1 h2 => ?_) (fun c1 h2 => ?_)
    · skip
      refine AWp.skip ?_
      refine thenQ_n ?_
      refine AWp.seq ?_
      refine AWp.block ?_
      refine AWp.seq ?_
      refine W.reg [0, 1, 2, 3, 4, 5] rfl ?_
      refine S.sil 9 rfl rfl (fun _ hF => .move (lk 1 rfl rfl)) ?_
      obtain ⟨j5, m5, h2⟩ := h2.bnd
      refine S.sil 10 rfl rfl (fun _ hF => .ixS sli49 (lk 4 rfl rfl) (lk 2 rfl rfl) m5) ?_
      obtain ⟨v6, ev6, h2⟩ := h2.nam
      refine S.sil 11 rfl rfl (fun _ hF => .nv (.loadC sz33 ag33 (lk 0 rfl rfl) (ty_TField.fl (a1.getD j5 default)) rfl) (congrArg E_TField ev6.symm)) ?_
      refine S.eff 4 rfl rfl (.nf (v2 := .ptr 0 [] 0) (H2 := [.cells (.st [V.str (default : ByteArray), (V.int .i64) 0, (V.int .i64) 0, E_TCounter (default : TCounter), E_TLock (default : TLock), .nils])]) (.alloc zv33) rfl rfl) trivial ?_
      refine S.sil 3 rfl rfl (fun _ hF => .assign (lk 3 rfl rfl)) ?_
      refine S.effN rfl rfl (.nf (H2 := [.cells (E_TField v6)]) (.storeP sz33 (lk 1 rfl rfl) (lk 2 rfl rfl) rfl (.refl _) rfl .nil (by first | rfl | omega) .nil (ty_TField.fl v6) (fl_st (flL_c (show flen _ = 1 from rfl) (flL_c (show flen _ = 1 from rfl) (flL_c (show flen _ = 1 from rfl) (flL_c (ty_TCounter.fl (default : TCounter)) (flL_c (ty_TLock.fl (default : TLock)) (flL_c (show flen _ = 1 from rfl) flL_nil))))))) rfl) rfl rfl) trivial ?_
      refine S.nil ?_
      refine thenQ_n ?_
      refine AWp.wk (Wk.freeze 0 rfl rfl (.same (lk 0 rfl rfl) (.cons (lk 1 rfl rfl) rfl (.ptr .nil (by first | rfl | omega)) (.same (lk 2 rfl rfl) (.same (lk 3 rfl rfl) (.same (lk 4 rfl rfl) (.same (lk 5 rfl rfl) (.same (lk 6 rfl rfl) (.same (lk 7 rfl rfl) (.same (lk 8 rfl rfl) (.same (lk 9 rfl rfl) (.same (lk 10 rfl rfl) .nil))))))))))) (.refl _)) ?_
      refine AWp.seq ?_
      refine W.regD [0, 1, 2, 3, 4, 5, 6, 7, 8, 9, 10, 11, 12, 13, 14, 15, 16, 17] mixed ?_
      refine S.sil 12 rfl rfl (fun _ hF => .loadC sz33 ag33 (lk 1 rfl rfl) (ty_TField.fl v6) rfl) ?_
      obtain ⟨r7, m7, h2⟩ := h2.bnd
      refine S.sil 13 rfl rfl (fun _ hF => .callQ ent36 cF (.c (lk 0 rfl rfl) (V.sub.refl _) .nil) (C_field_Right m7)) ?_
      refine S.sil 14 rfl rfl (fun _ hF => .not (lk 0 rfl rfl)) ?_
      refine S.sil 15 rfl rfl (fun _ hF => .move (lk 0 rfl rfl)) ?_
      refine S.gsil 16 3 15 false rfl rfl rfl (lk 0 rfl rfl) (fun hB _ hF => .move (lk 4 rfl rfl)) ?_
      refine S.gsil 17 3 15 false rfl rfl rfl (lk 1 rfl rfl) (fun hB _ hF => .gtr (ifT hB (lk 0 rfl rfl)) cI) ?_
      refine S.gsil 18 3 15 false rfl rfl rfl (lk 2 rfl rfl) (fun hB _ hF => .move (ifT hB (lk 0 rfl rfl))) ?_
      refine S.gsil2 19 6 18 true rfl rfl rfl (lk 0 rfl rfl) (fun hB _ hF => .move (lk 17 rfl rfl)) ?_
      refine S.gsil2 20 6 18 true rfl rfl rfl (lk 1 rfl rfl) (fun hB _ hF => .move (lk 8 rfl rfl)) ?_
      refine S.gsil2 21 6 18 true rfl rfl rfl (lk 2 rfl rfl) (fun hB _ hF => .sub (ifT hB (lk 0 rfl rfl)) cI) ?_
      obtain ⟨j8, m8, h2⟩ := h2.bnd
      refine S.gsil2 22 6 18 true rfl rfl rfl (lk 3 rfl rfl) (fun hB _ hF => .ixS sli49 (ifT hB (lk 2 rfl rfl)) (ifT hB (lk 0 rfl rfl)) (gd_get m8 hB)) ?_
      refine S.gsil2 23 6 18 true rfl rfl rfl (lk 4 rfl rfl) (fun hB _ hF => .fieldAddrC lay33 rfl rfl (ifT hB (lk 0 rfl rfl)) rfl flL_nil) ?_
      refine S.gsil2 24 6 18 true rfl rfl rfl (lk 5 rfl rfl) (fun hB _ hF => .loadC sz9 ag9 (ifT hB (lk 0 rfl rfl)) rfl rfl) ?_
      refine S.gsil2 25 6 18 true rfl rfl rfl (lk 6 rfl rfl) (fun hB _ hF => .fieldAddrC lay33 rfl rfl (lk 14 rfl rfl) rfl flL_nil) ?_
      refine S.gsil2 26 6 18 true rfl rfl rfl (lk 7 rfl rfl) (fun hB _ hF => .loadC sz9 ag9 (ifT hB (lk 0 rfl rfl)) rfl rfl) ?_
      refine S.gsil2 27 6 18 true rfl rfl rfl (lk 8 rfl rfl) (fun hB _ hF => .geqS (ifT hB (lk 2 rfl rfl)) (ifT hB (lk 0 rfl rfl))) ?_
      refine S.gsil 28 3 15 false rfl rfl rfl (lk 12 rfl rfl) (fun hB _ hF => .pickAnd (ifT hB (lk 9 rfl rfl)) (fun h => ifT ⟨hB, h⟩ (lk 0 rfl rfl)) cB) ?_
      obtain ⟨v9, ev9, h2⟩ := h2.nam
      refine S.sil 29 rfl rfl (fun _ hF => .nv (.pickOr (lk 13 rfl rfl) cB (fun h => ifT h (lk 0 rfl rfl))) (congrArg V.bool ev9.symm)) ?_
      refine S.nilD (by kernel_rfl) ?_
      refine thenQ_n ?_
      refine AWp.prune (.eq (lk 0 rfl rfl) rfl (.eq (lk 14 rfl rfl) rfl (.eq (lk 15 rfl rfl) rfl (.eq (lk 16 rfl rfl) rfl (.eq (lk 17 rfl rfl) rfl (.eq (lk 18 rfl rfl) rfl (.eq (lk 19 rfl rfl) rfl (.eq (lk 20 rfl rfl) rfl (.eq (lk 21 rfl rfl) rfl (.eq (lk 22 rfl rfl) rfl (.eq (lk 23 rfl rfl) rfl (.eq (lk 24 rfl rfl) rfl (.eq (lk 25 rfl rfl) rfl (.eq (lk 26 rfl rfl) rfl (.eq (lk 27 rfl rfl) rfl (.eq (lk 28 rfl rfl) rfl .nil)))))))))))))))) ?_
      refine AWp.condM (lk 0 rfl rfl) h2 (fun c2 h2 => ?_) (fun c2 h2 => ?_)
      · skip
        refine AWp.seq ?_
        refine W.reg [0] rfl ?_
        refine S.sil 2 rfl rfl (fun _ hF => .assign cB) ?_
        refine S.nil ?_
        refine thenQ_n ?_
        refine AWp.ret ?_
        refine blockQ_r ?_
        refine thenQ_r ?_
        refine thenQ_r ?_
        refine blockQ_r ?_
        refine thenQ_r ?_
        refine thenQ_r ?_
        have h := Ok.inrq h h2.ret
        obtain rfl := h.ret
        exact endF1 rfl (Wk.selS [] .nil rfl (SelE.leaf (lk 0 rfl rfl) rfl (.refl _) (fun m => (TyOk.bool.lt _ _)) .nil) .nil) (.tmp (lk 0 rfl rfl) rfl) rfl rfl
      · skip
        refine AWp.skip ?_
        refine blockQ_n ?_
        refine thenQ_n ?_
        refine W.reg [0, 1] rfl ?_
        refine S.sil 30 rfl rfl (fun _ hF => .add (lk 11 rfl rfl) cI) ?_
        refine S.sil 7 rfl rfl (fun _ hF => .move (lk 0 rfl rfl)) ?_
        refine S.nil ?_
        refine thenQ_n ?_
        exact ⟨_, h2.ret, (Wk.selS [] (by decide) rfl (SelE.leaf (lk 0 rfl rfl) rfl (.refl _) (fun m => ((TyOk.int .i64).lt _ _)) (SelE.leaf (lk 14 rfl rfl) rfl (.refl _) (fun m => ((TyOk.int .i64).lt _ _)) (SelE.leaf (lk 15 rfl rfl) rfl (.refl _) (fun m => (lt_sl rfl (ty_TField.ltm _ _))) (SelE.leaf (lk 16 rfl rfl) rfl (.refl _) (fun m => (TyOk.bool.lt _ _)) (SelE.leaf (lk 17 rfl rfl) rfl (.refl _) (fun m => (lt_sl rfl (ty_TField.ltm _ _))) .nil))))) .nil)⟩
    · skip
      refine AWp.exit ?_
      refine thenQ_x ?_
      refine thenQ_x ?_
      refine blockQ_x ?_
      refine thenQ_n ?_
      exact ⟨_, h2.ret, (Wk.selS [] (by decide) rfl (SelE.leaf (lk 4 rfl rfl) rfl (.refl _) (fun m => (TyOk.bool.lt _ _)) (SelE.leaf (lk 5 rfl rfl) rfl (.refl _) (fun m => (lt_sl rfl (ty_TField.ltm _ _))) .nil)) .nil)⟩
  · skip
    refine thenQ_n ?_
    refine AWp.seq ?_
    refine W.reg [0, 1, 2, 3] rfl ?_
    refine S.sil 31 rfl rfl (fun _ hF => .move (lk 1 rfl rfl)) ?_
    refine S.sil 32 rfl rfl (fun _ hF => .lenT sli49 (lk 0 rfl rfl) (vsub rfl (.refl _))) ?_
    refine S.sil 33 rfl rfl (fun _ hF => .leq (lk 0 rfl rfl) cI) ?_
    obtain ⟨v10, ev10, h⟩ := h.nam
    refine S.sil 2 rfl rfl (fun _ hF => .nv (.assign (lk 0 rfl rfl)) (congrArg V.bool ev10.symm)) ?_
    refine S.nil ?_
    refine thenQ_n ?_
    refine AWp.ret ?_
    obtain rfl := h.ret
    exact endF1 rfl (Wk.selS [] .nil rfl (SelE.leaf (lk 0 rfl rfl) rfl (.refl _) (fun m => (TyOk.bool.lt _ _)) .nil) .nil) (.tmp (lk 0 rfl rfl) rfl) rfl rfl
theorem C_plan_rules  {r : Unit} (h : plan_rules = some r) : CallSpec Pg 135 [] [] fun o H' => o = .ret (.map 0) ∧ H' = [.map (encC [(1, .fn 163 [] [.cptr (.fn 161 [] [])]), (2, .fn 163 [] [.cptr (.fn 161 [] [])]), (3, .fn 164 [] [.cptr (.fn 161 [] [])]), (4, .fn 165 [] [.cptr (.fn 161 [] [])]), (5, .fn 166 [] [.cptr (.fn 162 [] [])]), (6, .fn 167 [] [.cptr (.fn 162 [] [])])])] := by
  refine CallSpec.of_bodyF 13 0 fn135 rfl rfl rfl (Nat.le_of_ble_eq_true rfl) ?_
  replace h := Ok.of h
  unfold plan_rules at h
  refine AWp.seq ?_
  refine W.reg [0] rfl ?_
  refine S.sil 0 rfl rfl (fun _ hF => .assign cNm) ?_
  refine S.nil ?_
  refine thenQ_n ?_
  refine AWp.seq ?_
  refine W.reg [0, 1] rfl ?_
  refine S.eff 1 rfl rfl (.nf (v2 := .ptr 0 [] 0) (H2 := [.cells (.nilfn)]) (.alloc zv119) rfl rfl) trivial ?_
  refine S.effN rfl rfl (.nf (H2 := [.cells (.fn 161 [] [])]) (.storeP sz119 (lk 0 rfl rfl) cF rfl (.refl _) rfl .nil (by first | rfl | omega) .nil rfl rfl rfl) rfl rfl) trivial ?_
  refine S.nil ?_
  refine thenQ_n ?_
  refine AWp.wk (Wk.freeze 0 rfl rfl (.cons (lk 0 rfl rfl) rfl (.ptr .nil (by first | rfl | omega)) (.same (lk 1 rfl rfl) .nil)) (.refl _)) ?_
  refine AWp.seq ?_
  refine W.reg [0, 1] rfl ?_
  refine S.eff 2 rfl rfl (.nf (v2 := .ptr 1 [] 0) (H2 := [.dead, .cells (.nilfn)]) (.alloc zv119) rfl rfl) trivial ?_
  refine S.effN rfl rfl (.nf (H2 := [.dead, .cells (.fn 162 [] [])]) (.storeP sz119 (lk 0 rfl rfl) cF rfl (.refl _) rfl .nil (by first | rfl | omega) .nil rfl rfl rfl) rfl rfl) trivial ?_
  refine S.nil ?_
  refine thenQ_n ?_
  refine AWp.wk (Wk.freeze 1 rfl rfl (.cons (lk 0 rfl rfl) rfl (.ptr .nil (by first | rfl | omega)) (.same (lk 1 rfl rfl) (.same (lk 2 rfl rfl) .nil))) (.refl _)) ?_
  refine AWp.seq ?_
  refine W.reg [0, 1] rfl ?_
  refine S.sil 4 rfl rfl (fun _ hF => .makeFunc rfl (mapE1 (lk 1 rfl rfl)) rfl rfl) ?_
  refine S.sil 3 rfl rfl (fun _ hF => .assign (lk 0 rfl rfl)) ?_
  refine S.nil ?_
  refine thenQ_n ?_
  refine AWp.seq ?_
  refine W.reg [0, 1, 2, 3, 4, 5, 6, 7, 8, 9, 10, 11, 12, 13, 14] rfl ?_
  refine S.eff 5 rfl rfl (.nf (v2 := .map 2) (H2 := [.dead, .dead, .map (encC [])]) (.makeMap) rfl rfl) trivial ?_
  refine S.sil 6 rfl rfl (fun _ hF => .move (lk 1 rfl rfl)) ?_
  refine S.effN rfl rfl (.nf (H2 := [.dead, .dead, .map (encC [(1, .fn 163 [] [.cptr (.fn 161 [] [])])])]) (.insC und153 und3 (lk 1 rfl rfl) cI (lk 0 rfl rfl) rfl rfl rfl (by decide) rfl rfl) rfl rfl) trivial ?_
  refine S.sil 7 rfl rfl (fun _ hF => .move (lk 2 rfl rfl)) ?_
  refine S.effN rfl rfl (.nf (H2 := [.dead, .dead, .map (encC [(1, .fn 163 [] [.cptr (.fn 161 [] [])]), (2, .fn 163 [] [.cptr (.fn 161 [] [])])])]) (.insC und153 und3 (lk 2 rfl rfl) cI (lk 0 rfl rfl) rfl rfl rfl (by decide) rfl rfl) rfl rfl) trivial ?_
  refine S.sil 8 rfl rfl (fun _ hF => .makeFunc rfl (mapE1 (lk 6 rfl rfl)) rfl rfl) ?_
  refine S.effN rfl rfl (.nf (H2 := [.dead, .dead, .map (encC [(1, .fn 163 [] [.cptr (.fn 161 [] [])]), (2, .fn 163 [] [.cptr (.fn 161 [] [])]), (3, .fn 164 [] [.cptr (.fn 161 [] [])])])]) (.insC und153 und3 (lk 3 rfl rfl) cI (lk 0 rfl rfl) rfl rfl rfl (by decide) rfl rfl) rfl rfl) trivial ?_
  refine S.sil 9 rfl rfl (fun _ hF => .makeFunc rfl (mapE1 (lk 7 rfl rfl)) rfl rfl) ?_
  refine S.effN rfl rfl (.nf (H2 := [.dead, .dead, .map (encC [(1, .fn 163 [] [.cptr (.fn 161 [] [])]), (2, .fn 163 [] [.cptr (.fn 161 [] [])]), (3, .fn 164 [] [.cptr (.fn 161 [] [])]), (4, .fn 165 [] [.cptr (.fn 161 [] [])])])]) (.insC und153 und3 (lk 4 rfl rfl) cI (lk 0 rfl rfl) rfl rfl rfl (by decide) rfl rfl) rfl rfl) trivial ?_
  refine S.sil 10 rfl rfl (fun _ hF => .makeFunc rfl (mapE1 (lk 7 rfl rfl)) rfl rfl) ?_
  refine S.effN rfl rfl (.nf (H2 := [.dead, .dead, .map (encC [(1, .fn 163 [] [.cptr (.fn 161 [] [])]), (2, .fn 163 [] [.cptr (.fn 161 [] [])]), (3, .fn 164 [] [.cptr (.fn 161 [] [])]), (4, .fn 165 [] [.cptr (.fn 161 [] [])]), (5, .fn 166 [] [.cptr (.fn 162 [] [])])])]) (.insC und153 und3 (lk 5 rfl rfl) cI (lk 0 rfl rfl) rfl rfl rfl (by decide) rfl rfl) rfl rfl) trivial ?_
  refine S.sil 11 rfl rfl (fun _ hF => .makeFunc rfl (mapE1 (lk 8 rfl rfl)) rfl rfl) ?_
  refine S.effN rfl rfl (.nf (H2 := [.dead, .dead, .map (encC [(1, .fn 163 [] [.cptr (.fn 161 [] [])]), (2, .fn 163 [] [.cptr (.fn 161 [] [])]), (3, .fn 164 [] [.cptr (.fn 161 [] [])]), (4, .fn 165 [] [.cptr (.fn 161 [] [])]), (5, .fn 166 [] [.cptr (.fn 162 [] [])]), (6, .fn 167 [] [.cptr (.fn 162 [] [])])])]) (.insC und153 und3 (lk 6 rfl rfl) cI (lk 0 rfl rfl) rfl rfl rfl (by decide) rfl rfl) rfl rfl) trivial ?_
  refine S.sil 12 rfl rfl (fun _ hF => .move (lk 6 rfl rfl)) ?_
  refine S.sil 0 rfl rfl (fun _ hF => .assign (lk 0 rfl rfl)) ?_
  refine S.nil ?_
  refine thenQ_n ?_
  refine AWp.prune (.eq (lk 0 rfl rfl) rfl .nil) ?_
  refine AWp.ret ?_
  obtain rfl := h.ret
  exact endF1 rfl (Wk.selS [2] (by decide) rfl (SelE.spec (v := .map 0) (lk 0 rfl rfl) rfl (.refl _) rfl rfl .nil) (.cons rfl rfl (ASub.refl _) .nil)) (.tmp (lk 0 rfl rfl) rfl) rfl rfl
theorem C_plan_rules_1 {a1 : TPlan} {r : Bool} (h : plan_rules_1 a1 = some r) : PureC Pg 161 [E_TPlan a1] (V.bool r) := by
  refine PureC.ofF (CallSpec.of_bodyF 6 0 fn161 rfl rfl rfl (Nat.le_of_ble_eq_true rfl) ?_) (ltL_c (ty_TPlan.lt _ _) ltL_nil) (TyOk.bool.lt _ _)
  replace h := Ok.of h
  unfold plan_rules_1 at h
  refine AWp.seq ?_
  refine W.reg [0, 1] rfl ?_
  refine S.eff 1 rfl rfl (.nf (v2 := .ptr 0 [] 0) (H2 := [.cells (E_TPlan a1)]) (.box (lk 0 rfl rfl) rfl) rfl rfl) trivial ?_
  refine S.sil 2 rfl rfl (fun _ hF => .assign cB) ?_
  refine S.nil ?_
  refine thenQ_n ?_
  refine AWp.wk (Wk.freeze 0 rfl rfl (.same (lk 0 rfl rfl) (.cons (lk 1 rfl rfl) rfl (.ptr .nil (by first | rfl | omega)) .nil)) (.refl _)) ?_
  refine AWp.seq ?_
  refine W.reg [0, 1, 2, 3] rfl ?_
  refine S.sil 3 rfl rfl (fun _ hF => .fieldAddrC lay51 rfl rfl (lk 1 rfl rfl) rfl (flL_c (show flen _ = 1 from rfl) (flL_c (show flen _ = 1 from rfl) flL_nil))) ?_
  refine S.sil 4 rfl rfl (fun _ hF => .loadC sz9 ag9 (lk 0 rfl rfl) rfl rfl) ?_
  refine S.sil 5 rfl rfl (fun _ hF => .eqlS (lk 0 rfl rfl) cS) ?_
  obtain ⟨v2, ev2, h⟩ := h.nam
  refine S.sil 2 rfl rfl (fun _ hF => .nv (.assign (lk 0 rfl rfl)) (congrArg V.bool ev2.symm)) ?_
  refine S.nil ?_
  refine thenQ_n ?_
  refine AWp.ret ?_
  obtain rfl := h.ret
  exact endF1 rfl (Wk.selS [] .nil rfl (SelE.leaf (lk 0 rfl rfl) rfl (.refl _) (fun m => (TyOk.bool.lt _ _)) .nil) .nil) (.tmp (lk 0 rfl rfl) rfl) rfl rfl
theorem C_plan_rules_3_rules_1 {a1 : TPlan} {r : Bool} (h : plan_rules_3_rules_1 a1 = some r) : PureC Pg 163 [E_TPlan a1, .cptr (.fn 161 [] [])] (V.bool r) := by
  refine PureC.ofF (CallSpec.of_bodyF 25 0 fn163 rfl rfl rfl (Nat.le_of_ble_eq_true rfl) ?_) (ltL_c (ty_TPlan.lt _ _) (ltL_c (lt_cptr (lt_fn ltL_nil ltL_nil)) ltL_nil)) (TyOk.bool.lt _ _)
  replace h := Ok.of h
  unfold plan_rules_3_rules_1 at h
  refine AWp.seq ?_
  refine W.reg [0, 1] rfl ?_
  refine S.eff 2 rfl rfl (.nf (v2 := .ptr 0 [] 0) (H2 := [.cells (E_TPlan a1)]) (.box (lk 0 rfl rfl) rfl) rfl rfl) trivial ?_
  refine S.sil 3 rfl rfl (fun _ hF => .assign cB) ?_
  refine S.nil ?_
  refine thenQ_n ?_
  refine AWp.wk (Wk.freeze 0 rfl rfl (.same (lk 0 rfl rfl) (.cons (lk 1 rfl rfl) rfl (.ptr .nil (by first | rfl | omega)) (.same (lk 3 rfl rfl) .nil))) (.refl _)) ?_
  refine AWp.seq ?_
  refine W.reg [0, 1, 2, 3, 4, 5, 6, 7, 8, 9, 10, 11, 12, 13, 14, 15, 16, 17, 18, 19, 20, 21] rfl ?_
  refine S.sil 4 rfl rfl (fun _ hF => .loadC sz119 ag119 (lk 2 rfl rfl) rfl rfl) ?_
  refine S.sil 5 rfl rfl (fun _ hF => .loadC sz51 ag51 (lk 2 rfl rfl) (ty_TPlan.fl a1) rfl) ?_
  obtain ⟨r2, m2, h⟩ := h.bnd
  refine S.sil 6 rfl rfl (fun _ hF => .callQ ent161 (lk 1 rfl rfl) (.c (lk 0 rfl rfl) (V.sub.refl _) .nil) (C_plan_rules_1 m2)) ?_
  refine S.sil 7 rfl rfl (fun _ hF => .move (lk 0 rfl rfl)) ?_
  refine S.gsil 8 3 7 true rfl rfl rfl (lk 0 rfl rfl) (fun hB _ hF => .fieldAddrC lay51 rfl rfl (lk 5 rfl rfl) rfl (flL_c (show flen _ = 1 from rfl) (flL_c (show flen _ = 1 from rfl) (flL_c (show flen _ = 1 from rfl) flL_nil)))) ?_
  refine S.gsil 9 3 7 true rfl rfl rfl (lk 1 rfl rfl) (fun hB _ hF => .loadC sz3 ag3 (ifT hB (lk 0 rfl rfl)) rfl rfl) ?_
  refine S.gsil 10 3 7 true rfl rfl rfl (lk 2 rfl rfl) (fun hB _ hF => .geq (ifT hB (lk 0 rfl rfl)) cI) ?_
  refine S.sil 11 rfl rfl (fun _ hF => .pickAnd (lk 3 rfl rfl) (fun h => ifT h (lk 0 rfl rfl)) cB) ?_
  refine S.sil 12 rfl rfl (fun _ hF => .move (lk 0 rfl rfl)) ?_
  refine S.gsil 13 8 12 true rfl rfl rfl (lk 0 rfl rfl) (fun hB _ hF => .fieldAddrC lay51 rfl rfl (lk 10 rfl rfl) rfl (flL_c (show flen _ = 1 from rfl) (flL_c (show flen _ = 1 from rfl) (flL_c (show flen _ = 1 from rfl) (flL_c (show flen _ = 1 from rfl) flL_nil))))) ?_
  refine S.gsil 14 8 12 true rfl rfl rfl (lk 1 rfl rfl) (fun hB _ hF => .loadC sz3 ag3 (ifT hB (lk 0 rfl rfl)) rfl rfl) ?_
  refine S.gsil 15 8 12 true rfl rfl rfl (lk 2 rfl rfl) (fun hB _ hF => .geq (ifT hB (lk 0 rfl rfl)) cI) ?_
  refine S.sil 16 rfl rfl (fun _ hF => .pickAnd (lk 3 rfl rfl) (fun h => ifT h (lk 0 rfl rfl)) cB) ?_
  refine S.sil 17 rfl rfl (fun _ hF => .move (lk 0 rfl rfl)) ?_
  refine S.gsil 18 13 17 true rfl rfl rfl (lk 0 rfl rfl) (fun hB _ hF => .fieldAddrC lay51 rfl rfl (lk 15 rfl rfl) rfl (flL_c (show flen _ = 1 from rfl) (flL_c (show flen _ = 1 from rfl) (flL_c (show flen _ = 1 from rfl) flL_nil)))) ?_
  refine S.gsil 19 13 17 true rfl rfl rfl (lk 1 rfl rfl) (fun hB _ hF => .loadC sz3 ag3 (ifT hB (lk 0 rfl rfl)) rfl rfl) ?_
  refine S.gsil 20 13 17 true rfl rfl rfl (lk 2 rfl rfl) (fun hB _ hF => .fieldAddrC lay51 rfl rfl (lk 17 rfl rfl) rfl (flL_c (show flen _ = 1 from rfl) (flL_c (show flen _ = 1 from rfl) (flL_c (show flen _ = 1 from rfl) (flL_c (show flen _ = 1 from rfl) flL_nil))))) ?_
  refine S.gsil 21 13 17 true rfl rfl rfl (lk 3 rfl rfl) (fun hB _ hF => .loadC sz3 ag3 (ifT hB (lk 0 rfl rfl)) rfl rfl) ?_
  refine S.gsil 22 13 17 true rfl rfl rfl (lk 4 rfl rfl) (fun hB _ hF => .add (ifT hB (lk 2 rfl rfl)) (ifT hB (lk 0 rfl rfl))) ?_
  refine S.gsil 23 13 17 true rfl rfl rfl (lk 5 rfl rfl) (fun hB _ hF => .gtr (ifT hB (lk 0 rfl rfl)) cI) ?_
  obtain ⟨v3, ev3, h⟩ := h.nam
  refine S.sil 24 rfl rfl (fun _ hF => .nv (.pickAnd (lk 6 rfl rfl) (fun h => ifT h (lk 0 rfl rfl)) cB) (congrArg V.bool ev3.symm)) ?_
  refine S.sil 3 rfl rfl (fun _ hF => .assign (lk 0 rfl rfl)) ?_
  refine S.nil ?_
  refine thenQ_n ?_
  refine AWp.prune (.eq (lk 0 rfl rfl) rfl .nil) ?_
  refine AWp.ret ?_
  obtain rfl := h.ret
  exact endF1 rfl (Wk.selS [] .nil rfl (SelE.leaf (lk 0 rfl rfl) rfl (.refl _) (fun m => (TyOk.bool.lt _ _)) .nil) .nil) (.tmp (lk 0 rfl rfl) rfl) rfl rfl
theorem C_plan_rules_4_rules_1 {a1 : TPlan} {r : Bool} (h : plan_rules_4_rules_1 a1 = some r) : PureC Pg 164 [E_TPlan a1, .cptr (.fn 161 [] [])] (V.bool r) := by
  refine PureC.ofF (CallSpec.of_bodyF 17 0 fn164 rfl rfl rfl (Nat.le_of_ble_eq_true rfl) ?_) (ltL_c (ty_TPlan.lt _ _) (ltL_c (lt_cptr (lt_fn ltL_nil ltL_nil)) ltL_nil)) (TyOk.bool.lt _ _)
  replace h := Ok.of h
  unfold plan_rules_4_rules_1 at h
  refine AWp.seq ?_
  refine W.reg [0, 1] rfl ?_
  refine S.eff 2 rfl rfl (.nf (v2 := .ptr 0 [] 0) (H2 := [.cells (E_TPlan a1)]) (.box (lk 0 rfl rfl) rfl) rfl rfl) trivial ?_
  refine S.sil 3 rfl rfl (fun _ hF => .assign cB) ?_
  refine S.nil ?_
  refine thenQ_n ?_
  refine AWp.wk (Wk.freeze 0 rfl rfl (.same (lk 0 rfl rfl) (.cons (lk 1 rfl rfl) rfl (.ptr .nil (by first | rfl | omega)) (.same (lk 3 rfl rfl) .nil))) (.refl _)) ?_
  refine AWp.seq ?_
  refine W.reg [0, 1, 2, 3, 4, 5, 6, 7, 8, 9, 10, 11, 12, 13] rfl ?_
  refine S.sil 4 rfl rfl (fun _ hF => .loadC sz119 ag119 (lk 2 rfl rfl) rfl rfl) ?_
  refine S.sil 5 rfl rfl (fun _ hF => .loadC sz51 ag51 (lk 2 rfl rfl) (ty_TPlan.fl a1) rfl) ?_
  obtain ⟨r2, m2, h⟩ := h.bnd
  refine S.sil 6 rfl rfl (fun _ hF => .callQ ent161 (lk 1 rfl rfl) (.c (lk 0 rfl rfl) (V.sub.refl _) .nil) (C_plan_rules_1 m2)) ?_
  refine S.sil 7 rfl rfl (fun _ hF => .move (lk 0 rfl rfl)) ?_
  refine S.gsil 8 3 7 true rfl rfl rfl (lk 0 rfl rfl) (fun hB _ hF => .fieldAddrC lay51 rfl rfl (lk 5 rfl rfl) rfl (flL_c (show flen _ = 1 from rfl) (flL_c (show flen _ = 1 from rfl) (flL_c (show flen _ = 1 from rfl) flL_nil)))) ?_
  refine S.gsil 9 3 7 true rfl rfl rfl (lk 1 rfl rfl) (fun hB _ hF => .loadC sz3 ag3 (ifT hB (lk 0 rfl rfl)) rfl rfl) ?_
  refine S.gsil 10 3 7 true rfl rfl rfl (lk 2 rfl rfl) (fun hB _ hF => .eql (ifT hB (lk 0 rfl rfl)) cI) ?_
  refine S.sil 11 rfl rfl (fun _ hF => .pickAnd (lk 3 rfl rfl) (fun h => ifT h (lk 0 rfl rfl)) cB) ?_
  refine S.sil 12 rfl rfl (fun _ hF => .move (lk 0 rfl rfl)) ?_
  refine S.gsil 13 8 12 true rfl rfl rfl (lk 0 rfl rfl) (fun hB _ hF => .fieldAddrC lay51 rfl rfl (lk 10 rfl rfl) rfl (flL_c (show flen _ = 1 from rfl) (flL_c (show flen _ = 1 from rfl) (flL_c (show flen _ = 1 from rfl) (flL_c (show flen _ = 1 from rfl) flL_nil))))) ?_
  refine S.gsil 14 8 12 true rfl rfl rfl (lk 1 rfl rfl) (fun hB _ hF => .loadC sz3 ag3 (ifT hB (lk 0 rfl rfl)) rfl rfl) ?_
  refine S.gsil 15 8 12 true rfl rfl rfl (lk 2 rfl rfl) (fun hB _ hF => .eql (ifT hB (lk 0 rfl rfl)) cI) ?_
  refine S.sil 16 rfl rfl (fun _ hF => .pickAnd (lk 3 rfl rfl) (fun h => ifT h (lk 0 rfl rfl)) cB) ?_
  obtain ⟨v3, ev3, h⟩ := h.nam
  refine S.sil 3 rfl rfl (fun _ hF => .nv (.assign (lk 0 rfl rfl)) (congrArg V.bool ev3.symm)) ?_
  refine S.nil ?_
  refine thenQ_n ?_
  refine AWp.prune (.eq (lk 0 rfl rfl) rfl .nil) ?_
  refine AWp.ret ?_
  obtain rfl := h.ret
  exact endF1 rfl (Wk.selS [] .nil rfl (SelE.leaf (lk 0 rfl rfl) rfl (.refl _) (fun m => (TyOk.bool.lt _ _)) .nil) .nil) (.tmp (lk 0 rfl rfl) rfl) rfl rfl
theorem C_plan_rules_5_rules_1 {a1 : TPlan} {r : Bool} (h : plan_rules_5_rules_1 a1 = some r) : PureC Pg 165 [E_TPlan a1, .cptr (.fn 161 [] [])] (V.bool r) := by
  refine PureC.ofF (CallSpec.of_bodyF 14 0 fn165 rfl rfl rfl (Nat.le_of_ble_eq_true rfl) ?_) (ltL_c (ty_TPlan.lt _ _) (ltL_c (lt_cptr (lt_fn ltL_nil ltL_nil)) ltL_nil)) (TyOk.bool.lt _ _)
  replace h := Ok.of h
  unfold plan_rules_5_rules_1 at h
  refine AWp.seq ?_
  refine W.reg [0, 1] rfl ?_
  refine S.eff 2 rfl rfl (.nf (v2 := .ptr 0 [] 0) (H2 := [.cells (E_TPlan a1)]) (.box (lk 0 rfl rfl) rfl) rfl rfl) trivial ?_
  refine S.sil 3 rfl rfl (fun _ hF => .assign cB) ?_
  refine S.nil ?_
  refine thenQ_n ?_
  refine AWp.wk (Wk.freeze 0 rfl rfl (.same (lk 0 rfl rfl) (.cons (lk 1 rfl rfl) rfl (.ptr .nil (by first | rfl | omega)) (.same (lk 3 rfl rfl) .nil))) (.refl _)) ?_
  refine AWp.seq ?_
  refine W.reg [0, 1, 2, 3, 4, 5, 6, 7, 8, 9, 10] rfl ?_
  refine S.sil 4 rfl rfl (fun _ hF => .loadC sz119 ag119 (lk 2 rfl rfl) rfl rfl) ?_
  refine S.sil 5 rfl rfl (fun _ hF => .loadC sz51 ag51 (lk 2 rfl rfl) (ty_TPlan.fl a1) rfl) ?_
  obtain ⟨r2, m2, h⟩ := h.bnd
  refine S.sil 6 rfl rfl (fun _ hF => .callQ ent161 (lk 1 rfl rfl) (.c (lk 0 rfl rfl) (V.sub.refl _) .nil) (C_plan_rules_1 m2)) ?_
  refine S.sil 7 rfl rfl (fun _ hF => .move (lk 0 rfl rfl)) ?_
  refine S.gsil 8 3 7 true rfl rfl rfl (lk 0 rfl rfl) (fun hB _ hF => .fieldAddrC lay51 rfl rfl (lk 5 rfl rfl) rfl (flL_c (show flen _ = 1 from rfl) (flL_c (show flen _ = 1 from rfl) (flL_c (show flen _ = 1 from rfl) flL_nil)))) ?_
  refine S.gsil 9 3 7 true rfl rfl rfl (lk 1 rfl rfl) (fun hB _ hF => .loadC sz3 ag3 (ifT hB (lk 0 rfl rfl)) rfl rfl) ?_
  refine S.gsil 10 3 7 true rfl rfl rfl (lk 2 rfl rfl) (fun hB _ hF => .fieldAddrC lay51 rfl rfl (lk 7 rfl rfl) rfl (flL_c (show flen _ = 1 from rfl) (flL_c (show flen _ = 1 from rfl) (flL_c (show flen _ = 1 from rfl) (flL_c (show flen _ = 1 from rfl) flL_nil))))) ?_
  refine S.gsil 11 3 7 true rfl rfl rfl (lk 3 rfl rfl) (fun hB _ hF => .loadC sz3 ag3 (ifT hB (lk 0 rfl rfl)) rfl rfl) ?_
  refine S.gsil 12 3 7 true rfl rfl rfl (lk 4 rfl rfl) (fun hB _ hF => .leq (ifT hB (lk 2 rfl rfl)) (ifT hB (lk 0 rfl rfl))) ?_
  refine S.sil 13 rfl rfl (fun _ hF => .pickAnd (lk 5 rfl rfl) (fun h => ifT h (lk 0 rfl rfl)) cB) ?_
  obtain ⟨v3, ev3, h⟩ := h.nam
  refine S.sil 3 rfl rfl (fun _ hF => .nv (.assign (lk 0 rfl rfl)) (congrArg V.bool ev3.symm)) ?_
  refine S.nil ?_
  refine thenQ_n ?_
  refine AWp.prune (.eq (lk 0 rfl rfl) rfl .nil) ?_
  refine AWp.ret ?_
  obtain rfl := h.ret
  exact endF1 rfl (Wk.selS [] .nil rfl (SelE.leaf (lk 0 rfl rfl) rfl (.refl _) (fun m => (TyOk.bool.lt _ _)) .nil) .nil) (.tmp (lk 0 rfl rfl) rfl) rfl rfl
theorem C_plan_rules_2 {a1 : TPlan} {r : Bool} (h : plan_rules_2 a1 = some r) : PureC Pg 162 [E_TPlan a1] (V.bool r) := by
  refine PureC.ofF (CallSpec.of_bodyF 13 0 fn162 rfl rfl rfl (Nat.le_of_ble_eq_true rfl) ?_) (ltL_c (ty_TPlan.lt _ _) ltL_nil) (TyOk.bool.lt _ _)
  replace h := Ok.of h
  unfold plan_rules_2 at h
  refine AWp.seq ?_
  refine W.reg [0, 1] rfl ?_
  refine S.eff 1 rfl rfl (.nf (v2 := .ptr 0 [] 0) (H2 := [.cells (E_TPlan a1)]) (.box (lk 0 rfl rfl) rfl) rfl rfl) trivial ?_
  refine S.sil 2 rfl rfl (fun _ hF => .assign cB) ?_
  refine S.nil ?_
  refine thenQ_n ?_
  refine AWp.wk (Wk.freeze 0 rfl rfl (.same (lk 0 rfl rfl) (.cons (lk 1 rfl rfl) rfl (.ptr .nil (by first | rfl | omega)) .nil)) (.refl _)) ?_
  refine AWp.seq ?_
  refine W.reg [0, 1, 2, 3, 4, 5, 6, 7, 8, 9, 10] rfl ?_
  refine S.sil 3 rfl rfl (fun _ hF => .fieldAddrC lay51 rfl rfl (lk 1 rfl rfl) rfl (flL_c (show flen _ = 1 from rfl) (flL_c (show flen _ = 1 from rfl) flL_nil))) ?_
  refine S.sil 4 rfl rfl (fun _ hF => .loadC sz9 ag9 (lk 0 rfl rfl) rfl rfl) ?_
  obtain ⟨r2, m2, h⟩ := h.bnd
  refine S.sil 5 rfl rfl (fun _ hF => .callQ ent72 cF (.c (lk 0 rfl rfl) (V.sub.refl _) .nil) (C_field_Name m2)) ?_
  refine S.sil 6 rfl rfl (fun _ hF => .move (lk 0 rfl rfl)) ?_
  refine S.gsil 7 3 6 true rfl rfl rfl (lk 0 rfl rfl) (fun hB _ hF => .fieldAddrC lay51 rfl rfl (lk 5 rfl rfl) rfl (flL_c (show flen _ = 1 from rfl) (flL_c (show flen _ = 1 from rfl) flL_nil))) ?_
  refine S.gsil 8 3 6 true rfl rfl rfl (lk 1 rfl rfl) (fun hB _ hF => .loadC sz9 ag9 (ifT hB (lk 0 rfl rfl)) rfl rfl) ?_
  refine S.gsil 9 3 6 true rfl rfl rfl (lk 2 rfl rfl) (fun hB _ hF => .fieldAddrC lay51 rfl rfl (lk 7 rfl rfl) rfl (flL_c (show flen _ = 1 from rfl) flL_nil)) ?_
  refine S.gsil 10 3 6 true rfl rfl rfl (lk 3 rfl rfl) (fun hB _ hF => .loadC sz9 ag9 (ifT hB (lk 0 rfl rfl)) rfl rfl) ?_
  refine S.gsil 11 3 6 true rfl rfl rfl (lk 4 rfl rfl) (fun hB _ hF => .neqS (ifT hB (lk 2 rfl rfl)) (ifT hB (lk 0 rfl rfl))) ?_
  refine S.sil 12 rfl rfl (fun _ hF => .pickAnd (lk 5 rfl rfl) (fun h => ifT h (lk 0 rfl rfl)) cB) ?_
  obtain ⟨v3, ev3, h⟩ := h.nam
  refine S.sil 2 rfl rfl (fun _ hF => .nv (.assign (lk 0 rfl rfl)) (congrArg V.bool ev3.symm)) ?_
  refine S.nil ?_
  refine thenQ_n ?_
  refine AWp.prune (.eq (lk 0 rfl rfl) rfl .nil) ?_
  refine AWp.ret ?_
  obtain rfl := h.ret
  exact endF1 rfl (Wk.selS [] .nil rfl (SelE.leaf (lk 0 rfl rfl) rfl (.refl _) (fun m => (TyOk.bool.lt _ _)) .nil) .nil) (.tmp (lk 0 rfl rfl) rfl) rfl rfl
theorem C_plan_rules_6_rules_2 {a1 : TPlan} {r : Bool} (h : plan_rules_6_rules_2 a1 = some r) : PureC Pg 166 [E_TPlan a1, .cptr (.fn 162 [] [])] (V.bool r) := by
  refine PureC.ofF (CallSpec.of_bodyF 17 0 fn166 rfl rfl rfl (Nat.le_of_ble_eq_true rfl) ?_) (ltL_c (ty_TPlan.lt _ _) (ltL_c (lt_cptr (lt_fn ltL_nil ltL_nil)) ltL_nil)) (TyOk.bool.lt _ _)
  replace h := Ok.of h
  unfold plan_rules_6_rules_2 at h
  refine AWp.seq ?_
  refine W.reg [0, 1] rfl ?_
  refine S.eff 2 rfl rfl (.nf (v2 := .ptr 0 [] 0) (H2 := [.cells (E_TPlan a1)]) (.box (lk 0 rfl rfl) rfl) rfl rfl) trivial ?_
  refine S.sil 3 rfl rfl (fun _ hF => .assign cB) ?_
  refine S.nil ?_
  refine thenQ_n ?_
  refine AWp.wk (Wk.freeze 0 rfl rfl (.same (lk 0 rfl rfl) (.cons (lk 1 rfl rfl) rfl (.ptr .nil (by first | rfl | omega)) (.same (lk 3 rfl rfl) .nil))) (.refl _)) ?_
  refine AWp.seq ?_
  refine W.reg [0, 1, 2, 3, 4, 5, 6, 7, 8, 9, 10, 11, 12, 13] rfl ?_
  refine S.sil 4 rfl rfl (fun _ hF => .loadC sz119 ag119 (lk 2 rfl rfl) rfl rfl) ?_
  refine S.sil 5 rfl rfl (fun _ hF => .loadC sz51 ag51 (lk 2 rfl rfl) (ty_TPlan.fl a1) rfl) ?_
  obtain ⟨r2, m2, h⟩ := h.bnd
  refine S.sil 6 rfl rfl (fun _ hF => .callQ ent162 (lk 1 rfl rfl) (.c (lk 0 rfl rfl) (V.sub.refl _) .nil) (C_plan_rules_2 m2)) ?_
  refine S.sil 7 rfl rfl (fun _ hF => .move (lk 0 rfl rfl)) ?_
  refine S.gsil 8 3 7 true rfl rfl rfl (lk 0 rfl rfl) (fun hB _ hF => .fieldAddrC lay51 rfl rfl (lk 5 rfl rfl) rfl (flL_c (show flen _ = 1 from rfl) (flL_c (show flen _ = 1 from rfl) (flL_c (show flen _ = 1 from rfl) flL_nil)))) ?_
  refine S.gsil 9 3 7 true rfl rfl rfl (lk 1 rfl rfl) (fun hB _ hF => .loadC sz3 ag3 (ifT hB (lk 0 rfl rfl)) rfl rfl) ?_
  refine S.gsil 10 3 7 true rfl rfl rfl (lk 2 rfl rfl) (fun hB _ hF => .geq (ifT hB (lk 0 rfl rfl)) cI) ?_
  refine S.sil 11 rfl rfl (fun _ hF => .pickAnd (lk 3 rfl rfl) (fun h => ifT h (lk 0 rfl rfl)) cB) ?_
  refine S.sil 12 rfl rfl (fun _ hF => .move (lk 0 rfl rfl)) ?_
  refine S.gsil 13 8 12 true rfl rfl rfl (lk 0 rfl rfl) (fun hB _ hF => .fieldAddrC lay51 rfl rfl (lk 10 rfl rfl) rfl (flL_c (show flen _ = 1 from rfl) (flL_c (show flen _ = 1 from rfl) (flL_c (show flen _ = 1 from rfl) (flL_c (show flen _ = 1 from rfl) flL_nil))))) ?_
  refine S.gsil 14 8 12 true rfl rfl rfl (lk 1 rfl rfl) (fun hB _ hF => .loadC sz3 ag3 (ifT hB (lk 0 rfl rfl)) rfl rfl) ?_
  refine S.gsil 15 8 12 true rfl rfl rfl (lk 2 rfl rfl) (fun hB _ hF => .eql (ifT hB (lk 0 rfl rfl)) cI) ?_
  refine S.sil 16 rfl rfl (fun _ hF => .pickAnd (lk 3 rfl rfl) (fun h => ifT h (lk 0 rfl rfl)) cB) ?_
  obtain ⟨v3, ev3, h⟩ := h.nam
  refine S.sil 3 rfl rfl (fun _ hF => .nv (.assign (lk 0 rfl rfl)) (congrArg V.bool ev3.symm)) ?_
  refine S.nil ?_
  refine thenQ_n ?_
  refine AWp.prune (.eq (lk 0 rfl rfl) rfl .nil) ?_
  refine AWp.ret ?_
  obtain rfl := h.ret
  exact endF1 rfl (Wk.selS [] .nil rfl (SelE.leaf (lk 0 rfl rfl) rfl (.refl _) (fun m => (TyOk.bool.lt _ _)) .nil) .nil) (.tmp (lk 0 rfl rfl) rfl) rfl rfl
theorem C_plan_rules_7_rules_2 {a1 : TPlan} {r : Bool} (h : plan_rules_7_rules_2 a1 = some r) : PureC Pg 167 [E_TPlan a1, .cptr (.fn 162 [] [])] (V.bool r) := by
  refine PureC.ofF (CallSpec.of_bodyF 17 0 fn167 rfl rfl rfl (Nat.le_of_ble_eq_true rfl) ?_) (ltL_c (ty_TPlan.lt _ _) (ltL_c (lt_cptr (lt_fn ltL_nil ltL_nil)) ltL_nil)) (TyOk.bool.lt _ _)
  replace h := Ok.of h
  unfold plan_rules_7_rules_2 at h
  refine AWp.seq ?_
  refine W.reg [0, 1] rfl ?_
  refine S.eff 2 rfl rfl (.nf (v2 := .ptr 0 [] 0) (H2 := [.cells (E_TPlan a1)]) (.box (lk 0 rfl rfl) rfl) rfl rfl) trivial ?_
  refine S.sil 3 rfl rfl (fun _ hF => .assign cB) ?_
  refine S.nil ?_
  refine thenQ_n ?_
  refine AWp.wk (Wk.freeze 0 rfl rfl (.same (lk 0 rfl rfl) (.cons (lk 1 rfl rfl) rfl (.ptr .nil (by first | rfl | omega)) (.same (lk 3 rfl rfl) .nil))) (.refl _)) ?_
  refine AWp.seq ?_
  refine W.reg [0, 1, 2, 3, 4, 5, 6, 7, 8, 9, 10, 11, 12, 13] rfl ?_
  refine S.sil 4 rfl rfl (fun _ hF => .loadC sz119 ag119 (lk 2 rfl rfl) rfl rfl) ?_
  refine S.sil 5 rfl rfl (fun _ hF => .loadC sz51 ag51 (lk 2 rfl rfl) (ty_TPlan.fl a1) rfl) ?_
  obtain ⟨r2, m2, h⟩ := h.bnd
  refine S.sil 6 rfl rfl (fun _ hF => .callQ ent162 (lk 1 rfl rfl) (.c (lk 0 rfl rfl) (V.sub.refl _) .nil) (C_plan_rules_2 m2)) ?_
  refine S.sil 7 rfl rfl (fun _ hF => .move (lk 0 rfl rfl)) ?_
  refine S.gsil 8 3 7 true rfl rfl rfl (lk 0 rfl rfl) (fun hB _ hF => .fieldAddrC lay51 rfl rfl (lk 5 rfl rfl) rfl (flL_c (show flen _ = 1 from rfl) (flL_c (show flen _ = 1 from rfl) (flL_c (show flen _ = 1 from rfl) flL_nil)))) ?_
  refine S.gsil 9 3 7 true rfl rfl rfl (lk 1 rfl rfl) (fun hB _ hF => .loadC sz3 ag3 (ifT hB (lk 0 rfl rfl)) rfl rfl) ?_
  refine S.gsil 10 3 7 true rfl rfl rfl (lk 2 rfl rfl) (fun hB _ hF => .eql (ifT hB (lk 0 rfl rfl)) cI) ?_
  refine S.sil 11 rfl rfl (fun _ hF => .pickAnd (lk 3 rfl rfl) (fun h => ifT h (lk 0 rfl rfl)) cB) ?_
  refine S.sil 12 rfl rfl (fun _ hF => .move (lk 0 rfl rfl)) ?_
  refine S.gsil 13 8 12 true rfl rfl rfl (lk 0 rfl rfl) (fun hB _ hF => .fieldAddrC lay51 rfl rfl (lk 10 rfl rfl) rfl (flL_c (show flen _ = 1 from rfl) (flL_c (show flen _ = 1 from rfl) (flL_c (show flen _ = 1 from rfl) (flL_c (show flen _ = 1 from rfl) flL_nil))))) ?_
  refine S.gsil 14 8 12 true rfl rfl rfl (lk 1 rfl rfl) (fun hB _ hF => .loadC sz3 ag3 (ifT hB (lk 0 rfl rfl)) rfl rfl) ?_
  refine S.gsil 15 8 12 true rfl rfl rfl (lk 2 rfl rfl) (fun hB _ hF => .eql (ifT hB (lk 0 rfl rfl)) cI) ?_
  refine S.sil 16 rfl rfl (fun _ hF => .pickAnd (lk 3 rfl rfl) (fun h => ifT h (lk 0 rfl rfl)) cB) ?_
  obtain ⟨v3, ev3, h⟩ := h.nam
  refine S.sil 3 rfl rfl (fun _ hF => .nv (.assign (lk 0 rfl rfl)) (congrArg V.bool ev3.symm)) ?_
  refine S.nil ?_
  refine thenQ_n ?_
  refine AWp.prune (.eq (lk 0 rfl rfl) rfl .nil) ?_
  refine AWp.ret ?_
  obtain rfl := h.ret
  exact endF1 rfl (Wk.selS [] .nil rfl (SelE.leaf (lk 0 rfl rfl) rfl (.refl _) (fun m => (TyOk.bool.lt _ _)) .nil) .nil) (.tmp (lk 0 rfl rfl) rfl) rfl rfl
theorem C_plan_Right {a1 : TPlan} {r : Bool} (h : plan_Right a1 = some r) : PureC Pg 89 [E_TPlan a1] (V.bool r) := by
  refine PureC.ofF (CallSpec.of_bodyF 33 0 fn89 rfl rfl rfl (Nat.le_of_ble_eq_true rfl) ?_) (ltL_c (ty_TPlan.lt _ _) ltL_nil) (TyOk.bool.lt _ _)
  replace h := Ok.of h
  unfold plan_Right at h
  refine AWp.seq ?_
  refine W.reg [0, 1] rfl ?_
  refine S.eff 1 rfl rfl (.nf (v2 := .ptr 0 [] 0) (H2 := [.cells (E_TPlan a1)]) (.box (lk 0 rfl rfl) rfl) rfl rfl) trivial ?_
  refine S.sil 2 rfl rfl (fun _ hF => .assign cB) ?_
  refine S.nil ?_
  refine thenQ_n ?_
  refine AWp.wk (Wk.freeze 0 rfl rfl (.same (lk 0 rfl rfl) (.cons (lk 1 rfl rfl) rfl (.ptr .nil (by first | rfl | omega)) .nil)) (.refl _)) ?_
  refine AWp.seq ?_
  refine W.regD [0, 1, 2, 3, 4, 5, 6, 7, 8] mixed ?_
  obtain ⟨u2, m2, h⟩ := h.bnd
  refine S.new 6 rfl rfl (.callN ent135 cF [] (C_plan_rules m2) .nil .nil ltL_nil .nil rfl (mapc rfl rfl) rfl) trivial ?_
  refine S.sil 7 rfl rfl (fun _ hF => .fieldAddrC lay51 rfl rfl (lk 2 rfl rfl) rfl flL_nil) ?_
  refine S.sil 8 rfl rfl (fun _ hF => .loadC sz3 ag3 (lk 0 rfl rfl) rfl rfl) ?_
  obtain ⟨u3, m3, h⟩ := h.bnd
  refine Ok.spl h (fun c1 h => ?_) (fun c1 h => ?_)
  · skip
    refine S.qui 9 rfl rfl (fun _ => .lookC (es := [(1, .fn 163 [] [.cptr (.fn 161 [] [])]), (2, .fn 163 [] [.cptr (.fn 161 [] [])]), (3, .fn 164 [] [.cptr (.fn 161 [] [])]), (4, .fn 165 [] [.cptr (.fn 161 [] [])]), (5, .fn 166 [] [.cptr (.fn 162 [] [])]), (6, .fn 167 [] [.cptr (.fn 162 [] [])])]) und153 und3 zv119 (lk 2 rfl rfl) (lk 0 rfl rfl) rfl (i64M_get m3) rfl (by decide) (of_decide_eq_true c1) (List.Mem.head _) rfl) ?_
    refine S.sil 5 rfl rfl (fun _ hF => .move (lk 0 rfl rfl)) ?_
    refine S.sil 10 rfl rfl (fun _ hF => .extract (lk 0 rfl rfl) rfl) ?_
    refine S.sil 11 rfl rfl (fun _ hF => .extract (lk 1 rfl rfl) rfl) ?_
    refine S.sil 3 rfl rfl (fun _ hF => .assign (lk 1 rfl rfl)) ?_
    refine S.sil 4 rfl rfl (fun _ hF => .assign (lk 1 rfl rfl)) ?_
    refine S.nilD (by kernel_rfl) ?_
    refine thenQ_n ?_
    refine AWp.seq ?_
    refine W.reg [0, 1, 2, 3, 4, 5, 6, 7, 8, 9, 10, 11, 12, 13, 14, 15, 16, 17, 18, 19, 20, 21] rfl ?_
    refine S.sil 12 rfl rfl (fun _ hF => .move (lk 0 rfl rfl)) ?_
    refine S.sil 13 rfl rfl (fun _ hF => .move (lk 0 rfl rfl)) ?_
    refine S.ysil 14 1 13 true rfl rfl rfl (lk 0 rfl rfl) (fun _ hF => .fieldAddrC lay51 rfl rfl (lk 12 rfl rfl) rfl (flL_c (show flen _ = 1 from rfl) flL_nil)) ?_
    refine S.ysil 15 1 13 true rfl rfl rfl (lk 1 rfl rfl) (fun _ hF => .loadC sz9 ag9 (lk 0 rfl rfl) rfl rfl) ?_
    obtain ⟨r4, m4, h⟩ := h.bnd
    refine S.ysil 16 1 13 true rfl rfl rfl (lk 2 rfl rfl) (fun _ hF => .callQ ent72 cF (.c (lk 0 rfl rfl) (V.sub.refl _) .nil) (C_field_Name m4)) ?_
    refine S.sil 17 rfl rfl (fun _ hF => .pickT (lk 3 rfl rfl) (lk 0 rfl rfl)) ?_
    refine S.sil 18 rfl rfl (fun _ hF => .move (lk 0 rfl rfl)) ?_
    refine S.gsil 19 6 18 true rfl rfl rfl (lk 0 rfl rfl) (fun hB _ hF => .fieldAddrC lay51 rfl rfl (lk 17 rfl rfl) rfl (flL_c (show flen _ = 1 from rfl) (flL_c (show flen _ = 1 from rfl) (flL_c (show flen _ = 1 from rfl) flL_nil)))) ?_
    refine S.gsil 20 6 18 true rfl rfl rfl (lk 1 rfl rfl) (fun hB _ hF => .loadC sz3 ag3 (ifT hB (lk 0 rfl rfl)) rfl rfl) ?_
    obtain ⟨r5, m5, h⟩ := h.bnd
    refine S.gsil 21 6 18 true rfl rfl rfl (lk 2 rfl rfl) (fun hB _ hF => .callQ ent64 cF (.c (ifT hB (lk 0 rfl rfl)) (V.sub.refl _) .nil) (C_num_Is (gd_get m5 hB))) ?_
    refine S.sil 22 rfl rfl (fun _ hF => .pickAnd (lk 3 rfl rfl) (fun h => ifT h (lk 0 rfl rfl)) cB) ?_
    refine S.sil 23 rfl rfl (fun _ hF => .move (lk 0 rfl rfl)) ?_
    refine S.gsil 24 11 23 true rfl rfl rfl (lk 0 rfl rfl) (fun hB _ hF => .fieldAddrC lay51 rfl rfl (lk 22 rfl rfl) rfl (flL_c (show flen _ = 1 from rfl) (flL_c (show flen _ = 1 from rfl) (flL_c (show flen _ = 1 from rfl) (flL_c (show flen _ = 1 from rfl) flL_nil))))) ?_
    refine S.gsil 25 11 23 true rfl rfl rfl (lk 1 rfl rfl) (fun hB _ hF => .loadC sz3 ag3 (ifT hB (lk 0 rfl rfl)) rfl rfl) ?_
    obtain ⟨r6, m6, h⟩ := h.bnd
    refine S.gsil 26 11 23 true rfl rfl rfl (lk 2 rfl rfl) (fun hB _ hF => .callQ ent64 cF (.c (ifT hB (lk 0 rfl rfl)) (V.sub.refl _) .nil) (C_num_Is (gd_get m6 hB))) ?_
    refine S.sil 27 rfl rfl (fun _ hF => .pickAnd (lk 3 rfl rfl) (fun h => ifT h (lk 0 rfl rfl)) cB) ?_
    refine S.sil 28 rfl rfl (fun _ hF => .move (lk 0 rfl rfl)) ?_
    refine S.gsil 29 16 28 true rfl rfl rfl (lk 0 rfl rfl) (fun hB _ hF => .move (lk 18 rfl rfl)) ?_
    refine S.gsil 30 16 28 true rfl rfl rfl (lk 1 rfl rfl) (fun hB _ hF => .loadC sz51 ag51 (lk 28 rfl rfl) (ty_TPlan.fl a1) rfl) ?_
    obtain ⟨r7, m7, h⟩ := h.bnd
    refine S.gsil 31 16 28 true rfl rfl rfl (lk 2 rfl rfl) (fun hB _ hF => .callQ ent163 (ifT hB (lk 1 rfl rfl)) (.c (ifT hB (lk 0 rfl rfl)) (V.sub.refl _) (.cons (.refl _) .nil)) (C_plan_rules_3_rules_1 (gd_get m7 hB))) ?_
    refine S.sil 32 rfl rfl (fun _ hF => .pickAnd (lk 3 rfl rfl) (fun h => ifT h (lk 0 rfl rfl)) cB) ?_
    obtain ⟨v8, ev8, h⟩ := h.nam
    refine S.sil 2 rfl rfl (fun _ hF => .nv (.assign (lk 0 rfl rfl)) (congrArg V.bool ev8.symm)) ?_
    refine S.nil ?_
    refine thenQ_n ?_
    refine AWp.prune (.eq (lk 0 rfl rfl) rfl .nil) ?_
    refine AWp.ret ?_
    obtain rfl := h.ret
    exact endF1 rfl (Wk.selS [] .nil rfl (SelE.leaf (lk 0 rfl rfl) rfl (.refl _) (fun m => (TyOk.bool.lt _ _)) .nil) .nil) (.tmp (lk 0 rfl rfl) rfl) rfl rfl
  · skip
    refine Ok.spl h (fun c2 h => ?_) (fun c2 h => ?_)
    · skip
      refine S.qui 9 rfl rfl (fun _ => .lookC (es := [(1, .fn 163 [] [.cptr (.fn 161 [] [])]), (2, .fn 163 [] [.cptr (.fn 161 [] [])]), (3, .fn 164 [] [.cptr (.fn 161 [] [])]), (4, .fn 165 [] [.cptr (.fn 161 [] [])]), (5, .fn 166 [] [.cptr (.fn 162 [] [])]), (6, .fn 167 [] [.cptr (.fn 162 [] [])])]) und153 und3 zv119 (lk 2 rfl rfl) (lk 0 rfl rfl) rfl (i64M_get m3) rfl (by decide) (of_decide_eq_true c2) (List.Mem.tail _ (List.Mem.head _)) rfl) ?_
      refine S.sil 5 rfl rfl (fun _ hF => .move (lk 0 rfl rfl)) ?_
      refine S.sil 10 rfl rfl (fun _ hF => .extract (lk 0 rfl rfl) rfl) ?_
      refine S.sil 11 rfl rfl (fun _ hF => .extract (lk 1 rfl rfl) rfl) ?_
      refine S.sil 3 rfl rfl (fun _ hF => .assign (lk 1 rfl rfl)) ?_
      refine S.sil 4 rfl rfl (fun _ hF => .assign (lk 1 rfl rfl)) ?_
      refine S.nilD (by kernel_rfl) ?_
      refine thenQ_n ?_
      refine AWp.seq ?_
      refine W.reg [0, 1, 2, 3, 4, 5, 6, 7, 8, 9, 10, 11, 12, 13, 14, 15, 16, 17, 18, 19, 20, 21] rfl ?_
      refine S.sil 12 rfl rfl (fun _ hF => .move (lk 0 rfl rfl)) ?_
      refine S.sil 13 rfl rfl (fun _ hF => .move (lk 0 rfl rfl)) ?_
      refine S.ysil 14 1 13 true rfl rfl rfl (lk 0 rfl rfl) (fun _ hF => .fieldAddrC lay51 rfl rfl (lk 12 rfl rfl) rfl (flL_c (show flen _ = 1 from rfl) flL_nil)) ?_
      refine S.ysil 15 1 13 true rfl rfl rfl (lk 1 rfl rfl) (fun _ hF => .loadC sz9 ag9 (lk 0 rfl rfl) rfl rfl) ?_
      obtain ⟨r9, m9, h⟩ := h.bnd
      refine S.ysil 16 1 13 true rfl rfl rfl (lk 2 rfl rfl) (fun _ hF => .callQ ent72 cF (.c (lk 0 rfl rfl) (V.sub.refl _) .nil) (C_field_Name m9)) ?_
      refine S.sil 17 rfl rfl (fun _ hF => .pickT (lk 3 rfl rfl) (lk 0 rfl rfl)) ?_
      refine S.sil 18 rfl rfl (fun _ hF => .move (lk 0 rfl rfl)) ?_
      refine S.gsil 19 6 18 true rfl rfl rfl (lk 0 rfl rfl) (fun hB _ hF => .fieldAddrC lay51 rfl rfl (lk 17 rfl rfl) rfl (flL_c (show flen _ = 1 from rfl) (flL_c (show flen _ = 1 from rfl) (flL_c (show flen _ = 1 from rfl) flL_nil)))) ?_
      refine S.gsil 20 6 18 true rfl rfl rfl (lk 1 rfl rfl) (fun hB _ hF => .loadC sz3 ag3 (ifT hB (lk 0 rfl rfl)) rfl rfl) ?_
      obtain ⟨r10, m10, h⟩ := h.bnd
      refine S.gsil 21 6 18 true rfl rfl rfl (lk 2 rfl rfl) (fun hB _ hF => .callQ ent64 cF (.c (ifT hB (lk 0 rfl rfl)) (V.sub.refl _) .nil) (C_num_Is (gd_get m10 hB))) ?_
      refine S.sil 22 rfl rfl (fun _ hF => .pickAnd (lk 3 rfl rfl) (fun h => ifT h (lk 0 rfl rfl)) cB) ?_
      refine S.sil 23 rfl rfl (fun _ hF => .move (lk 0 rfl rfl)) ?_
      refine S.gsil 24 11 23 true rfl rfl rfl (lk 0 rfl rfl) (fun hB _ hF => .fieldAddrC lay51 rfl rfl (lk 22 rfl rfl) rfl (flL_c (show flen _ = 1 from rfl) (flL_c (show flen _ = 1 from rfl) (flL_c (show flen _ = 1 from rfl) (flL_c (show flen _ = 1 from rfl) flL_nil))))) ?_
      refine S.gsil 25 11 23 true rfl rfl rfl (lk 1 rfl rfl) (fun hB _ hF => .loadC sz3 ag3 (ifT hB (lk 0 rfl rfl)) rfl rfl) ?_
      obtain ⟨r11, m11, h⟩ := h.bnd
      refine S.gsil 26 11 23 true rfl rfl rfl (lk 2 rfl rfl) (fun hB _ hF => .callQ ent64 cF (.c (ifT hB (lk 0 rfl rfl)) (V.sub.refl _) .nil) (C_num_Is (gd_get m11 hB))) ?_
      refine S.sil 27 rfl rfl (fun _ hF => .pickAnd (lk 3 rfl rfl) (fun h => ifT h (lk 0 rfl rfl)) cB) ?_
      refine S.sil 28 rfl rfl (fun _ hF => .move (lk 0 rfl rfl)) ?_
      refine S.gsil 29 16 28 true rfl rfl rfl (lk 0 rfl rfl) (fun hB _ hF => .move (lk 18 rfl rfl)) ?_
      refine S.gsil 30 16 28 true rfl rfl rfl (lk 1 rfl rfl) (fun hB _ hF => .loadC sz51 ag51 (lk 28 rfl rfl) (ty_TPlan.fl a1) rfl) ?_
      obtain ⟨r12, m12, h⟩ := h.bnd
      refine S.gsil 31 16 28 true rfl rfl rfl (lk 2 rfl rfl) (fun hB _ hF => .callQ ent163 (ifT hB (lk 1 rfl rfl)) (.c (ifT hB (lk 0 rfl rfl)) (V.sub.refl _) (.cons (.refl _) .nil)) (C_plan_rules_3_rules_1 (gd_get m12 hB))) ?_
      refine S.sil 32 rfl rfl (fun _ hF => .pickAnd (lk 3 rfl rfl) (fun h => ifT h (lk 0 rfl rfl)) cB) ?_
      obtain ⟨v13, ev13, h⟩ := h.nam
      refine S.sil 2 rfl rfl (fun _ hF => .nv (.assign (lk 0 rfl rfl)) (congrArg V.bool ev13.symm)) ?_
      refine S.nil ?_
      refine thenQ_n ?_
      refine AWp.prune (.eq (lk 0 rfl rfl) rfl .nil) ?_
      refine AWp.ret ?_
      obtain rfl := h.ret
      exact endF1 rfl (Wk.selS [] .nil rfl (SelE.leaf (lk 0 rfl rfl) rfl (.refl _) (fun m => (TyOk.bool.lt _ _)) .nil) .nil) (.tmp (lk 0 rfl rfl) rfl) rfl rfl
    · skip
      refine Ok.spl h (fun c3 h => ?_) (fun c3 h => ?_)
      · skip
        refine S.qui 9 rfl rfl (fun _ => .lookC (es := [(1, .fn 163 [] [.cptr (.fn 161 [] [])]), (2, .fn 163 [] [.cptr (.fn 161 [] [])]), (3, .fn 164 [] [.cptr (.fn 161 [] [])]), (4, .fn 165 [] [.cptr (.fn 161 [] [])]), (5, .fn 166 [] [.cptr (.fn 162 [] [])]), (6, .fn 167 [] [.cptr (.fn 162 [] [])])]) und153 und3 zv119 (lk 2 rfl rfl) (lk 0 rfl rfl) rfl (i64M_get m3) rfl (by decide) (of_decide_eq_true c3) (List.Mem.tail _ (List.Mem.tail _ (List.Mem.head _))) rfl) ?_
        refine S.sil 5 rfl rfl (fun _ hF => .move (lk 0 rfl rfl)) ?_
        refine S.sil 10 rfl rfl (fun _ hF => .extract (lk 0 rfl rfl) rfl) ?_
        refine S.sil 11 rfl rfl (fun _ hF => .extract (lk 1 rfl rfl) rfl) ?_
        refine S.sil 3 rfl rfl (fun _ hF => .assign (lk 1 rfl rfl)) ?_
        refine S.sil 4 rfl rfl (fun _ hF => .assign (lk 1 rfl rfl)) ?_
        refine S.nilD (by kernel_rfl) ?_
        refine thenQ_n ?_
        refine AWp.seq ?_
        refine W.reg [0, 1, 2, 3, 4, 5, 6, 7, 8, 9, 10, 11, 12, 13, 14, 15, 16, 17, 18, 19, 20, 21] rfl ?_
        refine S.sil 12 rfl rfl (fun _ hF => .move (lk 0 rfl rfl)) ?_
        refine S.sil 13 rfl rfl (fun _ hF => .move (lk 0 rfl rfl)) ?_
        refine S.ysil 14 1 13 true rfl rfl rfl (lk 0 rfl rfl) (fun _ hF => .fieldAddrC lay51 rfl rfl (lk 12 rfl rfl) rfl (flL_c (show flen _ = 1 from rfl) flL_nil)) ?_
        refine S.ysil 15 1 13 true rfl rfl rfl (lk 1 rfl rfl) (fun _ hF => .loadC sz9 ag9 (lk 0 rfl rfl) rfl rfl) ?_
        obtain ⟨r14, m14, h⟩ := h.bnd
        refine S.ysil 16 1 13 true rfl rfl rfl (lk 2 rfl rfl) (fun _ hF => .callQ ent72 cF (.c (lk 0 rfl rfl) (V.sub.refl _) .nil) (C_field_Name m14)) ?_
        refine S.sil 17 rfl rfl (fun _ hF => .pickT (lk 3 rfl rfl) (lk 0 rfl rfl)) ?_
        refine S.sil 18 rfl rfl (fun _ hF => .move (lk 0 rfl rfl)) ?_
        refine S.gsil 19 6 18 true rfl rfl rfl (lk 0 rfl rfl) (fun hB _ hF => .fieldAddrC lay51 rfl rfl (lk 17 rfl rfl) rfl (flL_c (show flen _ = 1 from rfl) (flL_c (show flen _ = 1 from rfl) (flL_c (show flen _ = 1 from rfl) flL_nil)))) ?_
        refine S.gsil 20 6 18 true rfl rfl rfl (lk 1 rfl rfl) (fun hB _ hF => .loadC sz3 ag3 (ifT hB (lk 0 rfl rfl)) rfl rfl) ?_
        obtain ⟨r15, m15, h⟩ := h.bnd
        refine S.gsil 21 6 18 true rfl rfl rfl (lk 2 rfl rfl) (fun hB _ hF => .callQ ent64 cF (.c (ifT hB (lk 0 rfl rfl)) (V.sub.refl _) .nil) (C_num_Is (gd_get m15 hB))) ?_
        refine S.sil 22 rfl rfl (fun _ hF => .pickAnd (lk 3 rfl rfl) (fun h => ifT h (lk 0 rfl rfl)) cB) ?_
        refine S.sil 23 rfl rfl (fun _ hF => .move (lk 0 rfl rfl)) ?_
        refine S.gsil 24 11 23 true rfl rfl rfl (lk 0 rfl rfl) (fun hB _ hF => .fieldAddrC lay51 rfl rfl (lk 22 rfl rfl) rfl (flL_c (show flen _ = 1 from rfl) (flL_c (show flen _ = 1 from rfl) (flL_c (show flen _ = 1 from rfl) (flL_c (show flen _ = 1 from rfl) flL_nil))))) ?_
        refine S.gsil 25 11 23 true rfl rfl rfl (lk 1 rfl rfl) (fun hB _ hF => .loadC sz3 ag3 (ifT hB (lk 0 rfl rfl)) rfl rfl) ?_
        obtain ⟨r16, m16, h⟩ := h.bnd
        refine S.gsil 26 11 23 true rfl rfl rfl (lk 2 rfl rfl) (fun hB _ hF => .callQ ent64 cF (.c (ifT hB (lk 0 rfl rfl)) (V.sub.refl _) .nil) (C_num_Is (gd_get m16 hB))) ?_
        refine S.sil 27 rfl rfl (fun _ hF => .pickAnd (lk 3 rfl rfl) (fun h => ifT h (lk 0 rfl rfl)) cB) ?_
        refine S.sil 28 rfl rfl (fun _ hF => .move (lk 0 rfl rfl)) ?_
        refine S.gsil 29 16 28 true rfl rfl rfl (lk 0 rfl rfl) (fun hB _ hF => .move (lk 18 rfl rfl)) ?_
        refine S.gsil 30 16 28 true rfl rfl rfl (lk 1 rfl rfl) (fun hB _ hF => .loadC sz51 ag51 (lk 28 rfl rfl) (ty_TPlan.fl a1) rfl) ?_
        obtain ⟨r17, m17, h⟩ := h.bnd
        refine S.gsil 31 16 28 true rfl rfl rfl (lk 2 rfl rfl) (fun hB _ hF => .callQ ent164 (ifT hB (lk 1 rfl rfl)) (.c (ifT hB (lk 0 rfl rfl)) (V.sub.refl _) (.cons (.refl _) .nil)) (C_plan_rules_4_rules_1 (gd_get m17 hB))) ?_
        refine S.sil 32 rfl rfl (fun _ hF => .pickAnd (lk 3 rfl rfl) (fun h => ifT h (lk 0 rfl rfl)) cB) ?_
        obtain ⟨v18, ev18, h⟩ := h.nam
        refine S.sil 2 rfl rfl (fun _ hF => .nv (.assign (lk 0 rfl rfl)) (congrArg V.bool ev18.symm)) ?_
        refine S.nil ?_
        refine thenQ_n ?_
        refine AWp.prune (.eq (lk 0 rfl rfl) rfl .nil) ?_
        refine AWp.ret ?_
        obtain rfl := h.ret
        exact endF1 rfl (Wk.selS [] .nil rfl (SelE.leaf (lk 0 rfl rfl) rfl (.refl _) (fun m => (TyOk.bool.lt _ _)) .nil) .nil) (.tmp (lk 0 rfl rfl) rfl) rfl rfl
      · skip
        refine Ok.spl h (fun c4 h => ?_) (fun c4 h => ?_)
        · skip
          refine S.qui 9 rfl rfl (fun _ => .lookC (es := [(1, .fn 163 [] [.cptr (.fn 161 [] [])]), (2, .fn 163 [] [.cptr (.fn 161 [] [])]), (3, .fn 164 [] [.cptr (.fn 161 [] [])]), (4, .fn 165 [] [.cptr (.fn 161 [] [])]), (5, .fn 166 [] [.cptr (.fn 162 [] [])]), (6, .fn 167 [] [.cptr (.fn 162 [] [])])]) und153 und3 zv119 (lk 2 rfl rfl) (lk 0 rfl rfl) rfl (i64M_get m3) rfl (by decide) (of_decide_eq_true c4) (List.Mem.tail _ (List.Mem.tail _ (List.Mem.tail _ (List.Mem.head _)))) rfl) ?_
          refine S.sil 5 rfl rfl (fun _ hF => .move (lk 0 rfl rfl)) ?_
          refine S.sil 10 rfl rfl (fun _ hF => .extract (lk 0 rfl rfl) rfl) ?_
          refine S.sil 11 rfl rfl (fun _ hF => .extract (lk 1 rfl rfl) rfl) ?_
          refine S.sil 3 rfl rfl (fun _ hF => .assign (lk 1 rfl rfl)) ?_
          refine S.sil 4 rfl rfl (fun _ hF => .assign (lk 1 rfl rfl)) ?_
          refine S.nilD (by kernel_rfl) ?_
          refine thenQ_n ?_
          refine AWp.seq ?_
          refine W.reg [0, 1, 2, 3, 4, 5, 6, 7, 8, 9, 10, 11, 12, 13, 14, 15, 16, 17, 18, 19, 20, 21] rfl ?_
          refine S.sil 12 rfl rfl (fun _ hF => .move (lk 0 rfl rfl)) ?_
          refine S.sil 13 rfl rfl (fun _ hF => .move (lk 0 rfl rfl)) ?_
          refine S.ysil 14 1 13 true rfl rfl rfl (lk 0 rfl rfl) (fun _ hF => .fieldAddrC lay51 rfl rfl (lk 12 rfl rfl) rfl (flL_c (show flen _ = 1 from rfl) flL_nil)) ?_
          refine S.ysil 15 1 13 true rfl rfl rfl (lk 1 rfl rfl) (fun _ hF => .loadC sz9 ag9 (lk 0 rfl rfl) rfl rfl) ?_
          obtain ⟨r19, m19, h⟩ := h.bnd
          refine S.ysil 16 1 13 true rfl rfl rfl (lk 2 rfl rfl) (fun _ hF => .callQ ent72 cF (.c (lk 0 rfl rfl) (V.sub.refl _) .nil) (C_field_Name m19)) ?_
          refine S.sil 17 rfl rfl (fun _ hF => .pickT (lk 3 rfl rfl) (lk 0 rfl rfl)) ?_
          refine S.sil 18 rfl rfl (fun _ hF => .move (lk 0 rfl rfl)) ?_
          refine S.gsil 19 6 18 true rfl rfl rfl (lk 0 rfl rfl) (fun hB _ hF => .fieldAddrC lay51 rfl rfl (lk 17 rfl rfl) rfl (flL_c (show flen _ = 1 from rfl) (flL_c (show flen _ = 1 from rfl) (flL_c (show flen _ = 1 from rfl) flL_nil)))) ?_
          refine S.gsil 20 6 18 true rfl rfl rfl (lk 1 rfl rfl) (fun hB _ hF => .loadC sz3 ag3 (ifT hB (lk 0 rfl rfl)) rfl rfl) ?_
          obtain ⟨r20, m20, h⟩ := h.bnd
          refine S.gsil 21 6 18 true rfl rfl rfl (lk 2 rfl rfl) (fun hB _ hF => .callQ ent64 cF (.c (ifT hB (lk 0 rfl rfl)) (V.sub.refl _) .nil) (C_num_Is (gd_get m20 hB))) ?_
          refine S.sil 22 rfl rfl (fun _ hF => .pickAnd (lk 3 rfl rfl) (fun h => ifT h (lk 0 rfl rfl)) cB) ?_
          refine S.sil 23 rfl rfl (fun _ hF => .move (lk 0 rfl rfl)) ?_
          refine S.gsil 24 11 23 true rfl rfl rfl (lk 0 rfl rfl) (fun hB _ hF => .fieldAddrC lay51 rfl rfl (lk 22 rfl rfl) rfl (flL_c (show flen _ = 1 from rfl) (flL_c (show flen _ = 1 from rfl) (flL_c (show flen _ = 1 from rfl) (flL_c (show flen _ = 1 from rfl) flL_nil))))) ?_
          refine S.gsil 25 11 23 true rfl rfl rfl (lk 1 rfl rfl) (fun hB _ hF => .loadC sz3 ag3 (ifT hB (lk 0 rfl rfl)) rfl rfl) ?_
          obtain ⟨r21, m21, h⟩ := h.bnd
          refine S.gsil 26 11 23 true rfl rfl rfl (lk 2 rfl rfl) (fun hB _ hF => .callQ ent64 cF (.c (ifT hB (lk 0 rfl rfl)) (V.sub.refl _) .nil) (C_num_Is (gd_get m21 hB))) ?_
          refine S.sil 27 rfl rfl (fun _ hF => .pickAnd (lk 3 rfl rfl) (fun h => ifT h (lk 0 rfl rfl)) cB) ?_
          refine S.sil 28 rfl rfl (fun _ hF => .move (lk 0 rfl rfl)) ?_
          refine S.gsil 29 16 28 true rfl rfl rfl (lk 0 rfl rfl) (fun hB _ hF => .move (lk 18 rfl rfl)) ?_
          refine S.gsil 30 16 28 true rfl rfl rfl (lk 1 rfl rfl) (fun hB _ hF => .loadC sz51 ag51 (lk 28 rfl rfl) (ty_TPlan.fl a1) rfl) ?_
          obtain ⟨r22, m22, h⟩ := h.bnd
          refine S.gsil 31 16 28 true rfl rfl rfl (lk 2 rfl rfl) (fun hB _ hF => .callQ ent165 (ifT hB (lk 1 rfl rfl)) (.c (ifT hB (lk 0 rfl rfl)) (V.sub.refl _) (.cons (.refl _) .nil)) (C_plan_rules_5_rules_1 (gd_get m22 hB))) ?_
          refine S.sil 32 rfl rfl (fun _ hF => .pickAnd (lk 3 rfl rfl) (fun h => ifT h (lk 0 rfl rfl)) cB) ?_
          obtain ⟨v23, ev23, h⟩ := h.nam
          refine S.sil 2 rfl rfl (fun _ hF => .nv (.assign (lk 0 rfl rfl)) (congrArg V.bool ev23.symm)) ?_
          refine S.nil ?_
          refine thenQ_n ?_
          refine AWp.prune (.eq (lk 0 rfl rfl) rfl .nil) ?_
          refine AWp.ret ?_
          obtain rfl := h.ret
          exact endF1 rfl (Wk.selS [] .nil rfl (SelE.leaf (lk 0 rfl rfl) rfl (.refl _) (fun m => (TyOk.bool.lt _ _)) .nil) .nil) (.tmp (lk 0 rfl rfl) rfl) rfl rfl
        · skip
          refine Ok.spl h (fun c5 h => ?_) (fun c5 h => ?_)
          · skip
            refine S.qui 9 rfl rfl (fun _ => .lookC (es := [(1, .fn 163 [] [.cptr (.fn 161 [] [])]), (2, .fn 163 [] [.cptr (.fn 161 [] [])]), (3, .fn 164 [] [.cptr (.fn 161 [] [])]), (4, .fn 165 [] [.cptr (.fn 161 [] [])]), (5, .fn 166 [] [.cptr (.fn 162 [] [])]), (6, .fn 167 [] [.cptr (.fn 162 [] [])])]) und153 und3 zv119 (lk 2 rfl rfl) (lk 0 rfl rfl) rfl (i64M_get m3) rfl (by decide) (of_decide_eq_true c5) (List.Mem.tail _ (List.Mem.tail _ (List.Mem.tail _ (List.Mem.tail _ (List.Mem.head _))))) rfl) ?_
            refine S.sil 5 rfl rfl (fun _ hF => .move (lk 0 rfl rfl)) ?_
            refine S.sil 10 rfl rfl (fun _ hF => .extract (lk 0 rfl rfl) rfl) ?_
            refine S.sil 11 rfl rfl (fun _ hF => .extract (lk 1 rfl rfl) rfl) ?_
            refine S.sil 3 rfl rfl (fun _ hF => .assign (lk 1 rfl rfl)) ?_
            refine S.sil 4 rfl rfl (fun _ hF => .assign (lk 1 rfl rfl)) ?_
            refine S.nilD (by kernel_rfl) ?_
            refine thenQ_n ?_
            refine AWp.seq ?_
            refine W.reg [0, 1, 2, 3, 4, 5, 6, 7, 8, 9, 10, 11, 12, 13, 14, 15, 16, 17, 18, 19, 20, 21] rfl ?_
            refine S.sil 12 rfl rfl (fun _ hF => .move (lk 0 rfl rfl)) ?_
            refine S.sil 13 rfl rfl (fun _ hF => .move (lk 0 rfl rfl)) ?_
            refine S.ysil 14 1 13 true rfl rfl rfl (lk 0 rfl rfl) (fun _ hF => .fieldAddrC lay51 rfl rfl (lk 12 rfl rfl) rfl (flL_c (show flen _ = 1 from rfl) flL_nil)) ?_
            refine S.ysil 15 1 13 true rfl rfl rfl (lk 1 rfl rfl) (fun _ hF => .loadC sz9 ag9 (lk 0 rfl rfl) rfl rfl) ?_
            obtain ⟨r24, m24, h⟩ := h.bnd
            refine S.ysil 16 1 13 true rfl rfl rfl (lk 2 rfl rfl) (fun _ hF => .callQ ent72 cF (.c (lk 0 rfl rfl) (V.sub.refl _) .nil) (C_field_Name m24)) ?_
            refine S.sil 17 rfl rfl (fun _ hF => .pickT (lk 3 rfl rfl) (lk 0 rfl rfl)) ?_
            refine S.sil 18 rfl rfl (fun _ hF => .move (lk 0 rfl rfl)) ?_
            refine S.gsil 19 6 18 true rfl rfl rfl (lk 0 rfl rfl) (fun hB _ hF => .fieldAddrC lay51 rfl rfl (lk 17 rfl rfl) rfl (flL_c (show flen _ = 1 from rfl) (flL_c (show flen _ = 1 from rfl) (flL_c (show flen _ = 1 from rfl) flL_nil)))) ?_
            refine S.gsil 20 6 18 true rfl rfl rfl (lk 1 rfl rfl) (fun hB _ hF => .loadC sz3 ag3 (ifT hB (lk 0 rfl rfl)) rfl rfl) ?_
            obtain ⟨r25, m25, h⟩ := h.bnd
            refine S.gsil 21 6 18 true rfl rfl rfl (lk 2 rfl rfl) (fun hB _ hF => .callQ ent64 cF (.c (ifT hB (lk 0 rfl rfl)) (V.sub.refl _) .nil) (C_num_Is (gd_get m25 hB))) ?_
            refine S.sil 22 rfl rfl (fun _ hF => .pickAnd (lk 3 rfl rfl) (fun h => ifT h (lk 0 rfl rfl)) cB) ?_
            refine S.sil 23 rfl rfl (fun _ hF => .move (lk 0 rfl rfl)) ?_
            refine S.gsil 24 11 23 true rfl rfl rfl (lk 0 rfl rfl) (fun hB _ hF => .fieldAddrC lay51 rfl rfl (lk 22 rfl rfl) rfl (flL_c (show flen _ = 1 from rfl) (flL_c (show flen _ = 1 from rfl) (flL_c (show flen _ = 1 from rfl) (flL_c (show flen _ = 1 from rfl) flL_nil))))) ?_
            refine S.gsil 25 11 23 true rfl rfl rfl (lk 1 rfl rfl) (fun hB _ hF => .loadC sz3 ag3 (ifT hB (lk 0 rfl rfl)) rfl rfl) ?_
            obtain ⟨r26, m26, h⟩ := h.bnd
            refine S.gsil 26 11 23 true rfl rfl rfl (lk 2 rfl rfl) (fun hB _ hF => .callQ ent64 cF (.c (ifT hB (lk 0 rfl rfl)) (V.sub.refl _) .nil) (C_num_Is (gd_get m26 hB))) ?_
            refine S.sil 27 rfl rfl (fun _ hF => .pickAnd (lk 3 rfl rfl) (fun h => ifT h (lk 0 rfl rfl)) cB) ?_
            refine S.sil 28 rfl rfl (fun _ hF => .move (lk 0 rfl rfl)) ?_
            refine S.gsil 29 16 28 true rfl rfl rfl (lk 0 rfl rfl) (fun hB _ hF => .move (lk 18 rfl rfl)) ?_
            refine S.gsil 30 16 28 true rfl rfl rfl (lk 1 rfl rfl) (fun hB _ hF => .loadC sz51 ag51 (lk 28 rfl rfl) (ty_TPlan.fl a1) rfl) ?_
            obtain ⟨r27, m27, h⟩ := h.bnd
            refine S.gsil 31 16 28 true rfl rfl rfl (lk 2 rfl rfl) (fun hB _ hF => .callQ ent166 (ifT hB (lk 1 rfl rfl)) (.c (ifT hB (lk 0 rfl rfl)) (V.sub.refl _) (.cons (.refl _) .nil)) (C_plan_rules_6_rules_2 (gd_get m27 hB))) ?_
            refine S.sil 32 rfl rfl (fun _ hF => .pickAnd (lk 3 rfl rfl) (fun h => ifT h (lk 0 rfl rfl)) cB) ?_
            obtain ⟨v28, ev28, h⟩ := h.nam
            refine S.sil 2 rfl rfl (fun _ hF => .nv (.assign (lk 0 rfl rfl)) (congrArg V.bool ev28.symm)) ?_
            refine S.nil ?_
            refine thenQ_n ?_
            refine AWp.prune (.eq (lk 0 rfl rfl) rfl .nil) ?_
            refine AWp.ret ?_
            obtain rfl := h.ret
            exact endF1 rfl (Wk.selS [] .nil rfl (SelE.leaf (lk 0 rfl rfl) rfl (.refl _) (fun m => (TyOk.bool.lt _ _)) .nil) .nil) (.tmp (lk 0 rfl rfl) rfl) rfl rfl
          · skip
            refine Ok.spl h (fun c6 h => ?_) (fun c6 h => ?_)
            · skip
              refine S.qui 9 rfl rfl (fun _ => .lookC (es := [(1, .fn 163 [] [.cptr (.fn 161 [] [])]), (2, .fn 163 [] [.cptr (.fn 161 [] [])]), (3, .fn 164 [] [.cptr (.fn 161 [] [])]), (4, .fn 165 [] [.cptr (.fn 161 [] [])]), (5, .fn 166 [] [.cptr (.fn 162 [] [])]), (6, .fn 167 [] [.cptr (.fn 162 [] [])])]) und153 und3 zv119 (lk 2 rfl rfl) (lk 0 rfl rfl) rfl (i64M_get m3) rfl (by decide) (of_decide_eq_true c6) (List.Mem.tail _ (List.Mem.tail _ (List.Mem.tail _ (List.Mem.tail _ (List.Mem.tail _ (List.Mem.head _)))))) rfl) ?_
              refine S.sil 5 rfl rfl (fun _ hF => .move (lk 0 rfl rfl)) ?_
              refine S.sil 10 rfl rfl (fun _ hF => .extract (lk 0 rfl rfl) rfl) ?_
              refine S.sil 11 rfl rfl (fun _ hF => .extract (lk 1 rfl rfl) rfl) ?_
              refine S.sil 3 rfl rfl (fun _ hF => .assign (lk 1 rfl rfl)) ?_
              refine S.sil 4 rfl rfl (fun _ hF => .assign (lk 1 rfl rfl)) ?_
              refine S.nilD (by kernel_rfl) ?_
              refine thenQ_n ?_
              refine AWp.seq ?_
              refine W.reg [0, 1, 2, 3, 4, 5, 6, 7, 8, 9, 10, 11, 12, 13, 14, 15, 16, 17, 18, 19, 20, 21] rfl ?_
              refine S.sil 12 rfl rfl (fun _ hF => .move (lk 0 rfl rfl)) ?_
              refine S.sil 13 rfl rfl (fun _ hF => .move (lk 0 rfl rfl)) ?_
              refine S.ysil 14 1 13 true rfl rfl rfl (lk 0 rfl rfl) (fun _ hF => .fieldAddrC lay51 rfl rfl (lk 12 rfl rfl) rfl (flL_c (show flen _ = 1 from rfl) flL_nil)) ?_
              refine S.ysil 15 1 13 true rfl rfl rfl (lk 1 rfl rfl) (fun _ hF => .loadC sz9 ag9 (lk 0 rfl rfl) rfl rfl) ?_
              obtain ⟨r29, m29, h⟩ := h.bnd
              refine S.ysil 16 1 13 true rfl rfl rfl (lk 2 rfl rfl) (fun _ hF => .callQ ent72 cF (.c (lk 0 rfl rfl) (V.sub.refl _) .nil) (C_field_Name m29)) ?_
              refine S.sil 17 rfl rfl (fun _ hF => .pickT (lk 3 rfl rfl) (lk 0 rfl rfl)) ?_
              refine S.sil 18 rfl rfl (fun _ hF => .move (lk 0 rfl rfl)) ?_
              refine S.gsil 19 6 18 true rfl rfl rfl (lk 0 rfl rfl) (fun hB _ hF => .fieldAddrC lay51 rfl rfl (lk 17 rfl rfl) rfl (flL_c (show flen _ = 1 from rfl) (flL_c (show flen _ = 1 from rfl) (flL_c (show flen _ = 1 from rfl) flL_nil)))) ?_
              refine S.gsil 20 6 18 true rfl rfl rfl (lk 1 rfl rfl) (fun hB _ hF => .loadC sz3 ag3 (ifT hB (lk 0 rfl rfl)) rfl rfl) ?_
              obtain ⟨r30, m30, h⟩ := h.bnd
              refine S.gsil 21 6 18 true rfl rfl rfl (lk 2 rfl rfl) (fun hB _ hF => .callQ ent64 cF (.c (ifT hB (lk 0 rfl rfl)) (V.sub.refl _) .nil) (C_num_Is (gd_get m30 hB))) ?_
              refine S.sil 22 rfl rfl (fun _ hF => .pickAnd (lk 3 rfl rfl) (fun h => ifT h (lk 0 rfl rfl)) cB) ?_
              refine S.sil 23 rfl rfl (fun _ hF => .move (lk 0 rfl rfl)) ?_
              refine S.gsil 24 11 23 true rfl rfl rfl (lk 0 rfl rfl) (fun hB _ hF => .fieldAddrC lay51 rfl rfl (lk 22 rfl rfl) rfl (flL_c (show flen _ = 1 from rfl) (flL_c (show flen _ = 1 from rfl) (flL_c (show flen _ = 1 from rfl) (flL_c (show flen _ = 1 from rfl) flL_nil))))) ?_
              refine S.gsil 25 11 23 true rfl rfl rfl (lk 1 rfl rfl) (fun hB _ hF => .loadC sz3 ag3 (ifT hB (lk 0 rfl rfl)) rfl rfl) ?_
              obtain ⟨r31, m31, h⟩ := h.bnd
              refine S.gsil 26 11 23 true rfl rfl rfl (lk 2 rfl rfl) (fun hB _ hF => .callQ ent64 cF (.c (ifT hB (lk 0 rfl rfl)) (V.sub.refl _) .nil) (C_num_Is (gd_get m31 hB))) ?_
              refine S.sil 27 rfl rfl (fun _ hF => .pickAnd (lk 3 rfl rfl) (fun h => ifT h (lk 0 rfl rfl)) cB) ?_
              refine S.sil 28 rfl rfl (fun _ hF => .move (lk 0 rfl rfl)) ?_
              refine S.gsil 29 16 28 true rfl rfl rfl (lk 0 rfl rfl) (fun hB _ hF => .move (lk 18 rfl rfl)) ?_
              refine S.gsil 30 16 28 true rfl rfl rfl (lk 1 rfl rfl) (fun hB _ hF => .loadC sz51 ag51 (lk 28 rfl rfl) (ty_TPlan.fl a1) rfl) ?_
              obtain ⟨r32, m32, h⟩ := h.bnd
              refine S.gsil 31 16 28 true rfl rfl rfl (lk 2 rfl rfl) (fun hB _ hF => .callQ ent167 (ifT hB (lk 1 rfl rfl)) (.c (ifT hB (lk 0 rfl rfl)) (V.sub.refl _) (.cons (.refl _) .nil)) (C_plan_rules_7_rules_2 (gd_get m32 hB))) ?_
              refine S.sil 32 rfl rfl (fun _ hF => .pickAnd (lk 3 rfl rfl) (fun h => ifT h (lk 0 rfl rfl)) cB) ?_
              obtain ⟨v33, ev33, h⟩ := h.nam
              refine S.sil 2 rfl rfl (fun _ hF => .nv (.assign (lk 0 rfl rfl)) (congrArg V.bool ev33.symm)) ?_
              refine S.nil ?_
              refine thenQ_n ?_
              refine AWp.prune (.eq (lk 0 rfl rfl) rfl .nil) ?_
              refine AWp.ret ?_
              obtain rfl := h.ret
              exact endF1 rfl (Wk.selS [] .nil rfl (SelE.leaf (lk 0 rfl rfl) rfl (.refl _) (fun m => (TyOk.bool.lt _ _)) .nil) .nil) (.tmp (lk 0 rfl rfl) rfl) rfl rfl
            · skip
              refine S.qui 9 rfl rfl (fun _ => .lookC0 (es := [(1, .fn 163 [] [.cptr (.fn 161 [] [])]), (2, .fn 163 [] [.cptr (.fn 161 [] [])]), (3, .fn 164 [] [.cptr (.fn 161 [] [])]), (4, .fn 165 [] [.cptr (.fn 161 [] [])]), (5, .fn 166 [] [.cptr (.fn 162 [] [])]), (6, .fn 167 [] [.cptr (.fn 162 [] [])])]) und153 und3 zv119 (lk 2 rfl rfl) (lk 0 rfl rfl) rfl (i64M_get m3) rfl (by decide) (by simp [of_decide_eq_false c1, of_decide_eq_false c2, of_decide_eq_false c3, of_decide_eq_false c4, of_decide_eq_false c5, of_decide_eq_false c6]) rfl) ?_
              refine S.sil 5 rfl rfl (fun _ hF => .move (lk 0 rfl rfl)) ?_
              refine S.sil 10 rfl rfl (fun _ hF => .extract (lk 0 rfl rfl) rfl) ?_
              refine S.sil 11 rfl rfl (fun _ hF => .extract (lk 1 rfl rfl) rfl) ?_
              refine S.sil 3 rfl rfl (fun _ hF => .assign (lk 1 rfl rfl)) ?_
              refine S.sil 4 rfl rfl (fun _ hF => .assign (lk 1 rfl rfl)) ?_
              refine S.nilD (by kernel_rfl) ?_
              refine thenQ_n ?_
              refine AWp.seq ?_
              refine W.reg [0, 1, 2, 3, 4, 5, 6, 7, 8, 9, 10, 11, 12, 13, 14, 15, 16, 17, 18, 19, 20, 21] rfl ?_
              refine S.sil 12 rfl rfl (fun _ hF => .move (lk 0 rfl rfl)) ?_
              refine S.sil 13 rfl rfl (fun _ hF => .move (lk 0 rfl rfl)) ?_
              refine S.gno 14 1 13 true rfl rfl rfl (lk 0 rfl rfl) rfl ?_
              refine S.gno 15 1 13 true rfl rfl rfl (lk 1 rfl rfl) rfl ?_
              refine S.gno 16 1 13 true rfl rfl rfl (lk 2 rfl rfl) rfl ?_
              refine S.sil 17 rfl rfl (fun _ hF => .pickF (lk 3 rfl rfl) cB) ?_
              refine S.sil 18 rfl rfl (fun _ hF => .move (lk 0 rfl rfl)) ?_
              refine S.gno 19 6 18 true rfl rfl rfl (lk 0 rfl rfl) rfl ?_
              refine S.gno 20 6 18 true rfl rfl rfl (lk 1 rfl rfl) rfl ?_
              refine S.gno 21 6 18 true rfl rfl rfl (lk 2 rfl rfl) rfl ?_
              refine S.sil 22 rfl rfl (fun _ hF => .pickF (lk 3 rfl rfl) cB) ?_
              refine S.sil 23 rfl rfl (fun _ hF => .move (lk 0 rfl rfl)) ?_
              refine S.gno 24 11 23 true rfl rfl rfl (lk 0 rfl rfl) rfl ?_
              refine S.gno 25 11 23 true rfl rfl rfl (lk 1 rfl rfl) rfl ?_
              refine S.gno 26 11 23 true rfl rfl rfl (lk 2 rfl rfl) rfl ?_
              refine S.sil 27 rfl rfl (fun _ hF => .pickF (lk 3 rfl rfl) cB) ?_
              refine S.sil 28 rfl rfl (fun _ hF => .move (lk 0 rfl rfl)) ?_
              refine S.gno 29 16 28 true rfl rfl rfl (lk 0 rfl rfl) rfl ?_
              refine S.gno 30 16 28 true rfl rfl rfl (lk 1 rfl rfl) rfl ?_
              refine S.gno 31 16 28 true rfl rfl rfl (lk 2 rfl rfl) rfl ?_
              refine S.sil 32 rfl rfl (fun _ hF => .pickF (lk 3 rfl rfl) cB) ?_
              refine S.sil 2 rfl rfl (fun _ hF => .assign (lk 0 rfl rfl)) ?_
              refine S.nil ?_
              refine thenQ_n ?_
              refine AWp.prune (.eq (lk 0 rfl rfl) rfl .nil) ?_
              refine AWp.ret ?_
              obtain rfl := h.ret
              exact endF1 rfl (Wk.selS [] .nil rfl (SelE.leaf (lk 0 rfl rfl) rfl (.refl _) (fun m => (TyOk.bool.lt _ _)) .nil) .nil) (.tmp (lk 0 rfl rfl) rfl) rfl rfl
end Go.Av
