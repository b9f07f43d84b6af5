/- Each function tells what its mirror tells. -/
import Derived.Test.YtdkmcidgcflaaaaGreatDoorAvReplicaNobodyM1
import Derived.Test.YtdkmcidgcflaaaaGreatDoorProg
import Derived.KernelRfl
set_option linter.unusedSimpArgs false
set_option linter.unusedVariables false
set_option linter.unusedSectionVars false
namespace Go.Av
set_option maxHeartbeats 4000000
set_option maxRecDepth 40000
set_option synthInstance.maxSize 4000
set_option synthInstance.maxHeartbeats 400000
section
open Go.Proofs
@[irreducible] noncomputable def Pg : Program := Tryz.prog
theorem Pg_eq : Pg = Tryz.prog := by unfold Pg; rfl
theorem mixed : Pg.follows .mixedOrders = true := by kernel_rfl
theorem fn4 : Pg.funcs[4]? = some Tryz.f4 := by rw [Pg_eq]; exact Tryz.func4
theorem fn6 : Pg.funcs[6]? = some Tryz.f6 := by rw [Pg_eq]; exact Tryz.func6
theorem fn7 : Pg.funcs[7]? = some Tryz.f7 := by rw [Pg_eq]; exact Tryz.func7
theorem fn8 : Pg.funcs[8]? = some Tryz.f8 := by rw [Pg_eq]; exact Tryz.func8
theorem fn9 : Pg.funcs[9]? = some Tryz.f9 := by rw [Pg_eq]; exact Tryz.func9
theorem fn11 : Pg.funcs[11]? = some Tryz.f11 := by rw [Pg_eq]; exact Tryz.func11
theorem fn12 : Pg.funcs[12]? = some Tryz.f12 := by rw [Pg_eq]; exact Tryz.func12
theorem fn14 : Pg.funcs[14]? = some Tryz.f14 := by rw [Pg_eq]; exact Tryz.func14
theorem fn15 : Pg.funcs[15]? = some Tryz.f15 := by rw [Pg_eq]; exact Tryz.func15
theorem fn16 : Pg.funcs[16]? = some Tryz.f16 := by rw [Pg_eq]; exact Tryz.func16
theorem fn17 : Pg.funcs[17]? = some Tryz.f17 := by rw [Pg_eq]; exact Tryz.func17
theorem fn18 : Pg.funcs[18]? = some Tryz.f18 := by rw [Pg_eq]; exact Tryz.func18
theorem fn27 : Pg.funcs[27]? = some Tryz.f27 := by rw [Pg_eq]; exact Tryz.func27
theorem fn28 : Pg.funcs[28]? = some Tryz.f28 := by rw [Pg_eq]; exact Tryz.func28
theorem fn29 : Pg.funcs[29]? = some Tryz.f29 := by rw [Pg_eq]; exact Tryz.func29
theorem fn30 : Pg.funcs[30]? = some Tryz.f30 := by rw [Pg_eq]; exact Tryz.func30
theorem fn31 : Pg.funcs[31]? = some Tryz.f31 := by rw [Pg_eq]; exact Tryz.func31
theorem fn32 : Pg.funcs[32]? = some Tryz.f32 := by rw [Pg_eq]; exact Tryz.func32
theorem fn33 : Pg.funcs[33]? = some Tryz.f33 := by rw [Pg_eq]; exact Tryz.func33
theorem fn34 : Pg.funcs[34]? = some Tryz.f34 := by rw [Pg_eq]; exact Tryz.func34
theorem fn38 : Pg.funcs[38]? = some Tryz.f38 := by rw [Pg_eq]; exact Tryz.func38
theorem fn39 : Pg.funcs[39]? = some Tryz.f39 := by rw [Pg_eq]; exact Tryz.func39
theorem fn40 : Pg.funcs[40]? = some Tryz.f40 := by rw [Pg_eq]; exact Tryz.func40
theorem fn42 : Pg.funcs[42]? = some Tryz.f42 := by rw [Pg_eq]; exact Tryz.func42
theorem fn43 : Pg.funcs[43]? = some Tryz.f43 := by rw [Pg_eq]; exact Tryz.func43
theorem fn44 : Pg.funcs[44]? = some Tryz.f44 := by rw [Pg_eq]; exact Tryz.func44
theorem fn45 : Pg.funcs[45]? = some Tryz.f45 := by rw [Pg_eq]; exact Tryz.func45
theorem fn46 : Pg.funcs[46]? = some Tryz.f46 := by rw [Pg_eq]; exact Tryz.func46
theorem fn47 : Pg.funcs[47]? = some Tryz.f47 := by rw [Pg_eq]; exact Tryz.func47
theorem fn48 : Pg.funcs[48]? = some Tryz.f48 := by rw [Pg_eq]; exact Tryz.func48
theorem fn49 : Pg.funcs[49]? = some Tryz.f49 := by rw [Pg_eq]; exact Tryz.func49
theorem fn50 : Pg.funcs[50]? = some Tryz.f50 := by rw [Pg_eq]; exact Tryz.func50
theorem fn51 : Pg.funcs[51]? = some Tryz.f51 := by rw [Pg_eq]; exact Tryz.func51
theorem fn52 : Pg.funcs[52]? = some Tryz.f52 := by rw [Pg_eq]; exact Tryz.func52
theorem fn53 : Pg.funcs[53]? = some Tryz.f53 := by rw [Pg_eq]; exact Tryz.func53
theorem fn54 : Pg.funcs[54]? = some Tryz.f54 := by rw [Pg_eq]; exact Tryz.func54
theorem fn55 : Pg.funcs[55]? = some Tryz.f55 := by rw [Pg_eq]; exact Tryz.func55
theorem fn56 : Pg.funcs[56]? = some Tryz.f56 := by rw [Pg_eq]; exact Tryz.func56
theorem fn57 : Pg.funcs[57]? = some Tryz.f57 := by rw [Pg_eq]; exact Tryz.func57
theorem fn61 : Pg.funcs[61]? = some Tryz.f61 := by rw [Pg_eq]; exact Tryz.func61
theorem fn71 : Pg.funcs[71]? = some Tryz.f71 := by rw [Pg_eq]; exact Tryz.func71
theorem fn72 : Pg.funcs[72]? = some Tryz.f72 := by rw [Pg_eq]; exact Tryz.func72
theorem fn73 : Pg.funcs[73]? = some Tryz.f73 := by rw [Pg_eq]; exact Tryz.func73
theorem fn74 : Pg.funcs[74]? = some Tryz.f74 := by rw [Pg_eq]; exact Tryz.func74
theorem fn75 : Pg.funcs[75]? = some Tryz.f75 := by rw [Pg_eq]; exact Tryz.func75
theorem fn76 : Pg.funcs[76]? = some Tryz.f76 := by rw [Pg_eq]; exact Tryz.func76
theorem fn77 : Pg.funcs[77]? = some Tryz.f77 := by rw [Pg_eq]; exact Tryz.func77
theorem fn78 : Pg.funcs[78]? = some Tryz.f78 := by rw [Pg_eq]; exact Tryz.func78
theorem fn79 : Pg.funcs[79]? = some Tryz.f79 := by rw [Pg_eq]; exact Tryz.func79
theorem fn80 : Pg.funcs[80]? = some Tryz.f80 := by rw [Pg_eq]; exact Tryz.func80
theorem fn81 : Pg.funcs[81]? = some Tryz.f81 := by rw [Pg_eq]; exact Tryz.func81
theorem fn82 : Pg.funcs[82]? = some Tryz.f82 := by rw [Pg_eq]; exact Tryz.func82
theorem fn83 : Pg.funcs[83]? = some Tryz.f83 := by rw [Pg_eq]; exact Tryz.func83
theorem fn84 : Pg.funcs[84]? = some Tryz.f84 := by rw [Pg_eq]; exact Tryz.func84
theorem fn85 : Pg.funcs[85]? = some Tryz.f85 := by rw [Pg_eq]; exact Tryz.func85
theorem fn86 : Pg.funcs[86]? = some Tryz.f86 := by rw [Pg_eq]; exact Tryz.func86
theorem fn93 : Pg.funcs[93]? = some Tryz.f93 := by rw [Pg_eq]; exact Tryz.func93
theorem fn99 : Pg.funcs[99]? = some Tryz.f99 := by rw [Pg_eq]; exact Tryz.func99
theorem fn101 : Pg.funcs[101]? = some Tryz.f101 := by rw [Pg_eq]; exact Tryz.func101
theorem fn112 : Pg.funcs[112]? = some Tryz.f112 := by rw [Pg_eq]; exact Tryz.func112
theorem fn122 : Pg.funcs[122]? = some Tryz.f122 := by rw [Pg_eq]; exact Tryz.func122
theorem fn123 : Pg.funcs[123]? = some Tryz.f123 := by rw [Pg_eq]; exact Tryz.func123
theorem fn124 : Pg.funcs[124]? = some Tryz.f124 := by rw [Pg_eq]; exact Tryz.func124
theorem fn125 : Pg.funcs[125]? = some Tryz.f125 := by rw [Pg_eq]; exact Tryz.func125
theorem fn126 : Pg.funcs[126]? = some Tryz.f126 := by rw [Pg_eq]; exact Tryz.func126
theorem fn127 : Pg.funcs[127]? = some Tryz.f127 := by rw [Pg_eq]; exact Tryz.func127
theorem fn133 : Pg.funcs[133]? = some Tryz.f133 := by rw [Pg_eq]; exact Tryz.func133
theorem fn134 : Pg.funcs[134]? = some Tryz.f134 := by rw [Pg_eq]; exact Tryz.func134
theorem fn135 : Pg.funcs[135]? = some Tryz.f135 := by rw [Pg_eq]; exact Tryz.func135
theorem fn136 : Pg.funcs[136]? = some Tryz.f136 := by rw [Pg_eq]; exact Tryz.func136
theorem fn137 : Pg.funcs[137]? = some Tryz.f137 := by rw [Pg_eq]; exact Tryz.func137
theorem fn138 : Pg.funcs[138]? = some Tryz.f138 := by rw [Pg_eq]; exact Tryz.func138
theorem fn139 : Pg.funcs[139]? = some Tryz.f139 := by rw [Pg_eq]; exact Tryz.func139
theorem fn140 : Pg.funcs[140]? = some Tryz.f140 := by rw [Pg_eq]; exact Tryz.func140
theorem fn141 : Pg.funcs[141]? = some Tryz.f141 := by rw [Pg_eq]; exact Tryz.func141
theorem fn142 : Pg.funcs[142]? = some Tryz.f142 := by rw [Pg_eq]; exact Tryz.func142
theorem fn143 : Pg.funcs[143]? = some Tryz.f143 := by rw [Pg_eq]; exact Tryz.func143
theorem fn144 : Pg.funcs[144]? = some Tryz.f144 := by rw [Pg_eq]; exact Tryz.func144
theorem fn145 : Pg.funcs[145]? = some Tryz.f145 := by rw [Pg_eq]; exact Tryz.func145
theorem fn146 : Pg.funcs[146]? = some Tryz.f146 := by rw [Pg_eq]; exact Tryz.func146
theorem fn147 : Pg.funcs[147]? = some Tryz.f147 := by rw [Pg_eq]; exact Tryz.func147
theorem fn148 : Pg.funcs[148]? = some Tryz.f148 := by rw [Pg_eq]; exact Tryz.func148
theorem fn149 : Pg.funcs[149]? = some Tryz.f149 := by rw [Pg_eq]; exact Tryz.func149
theorem fn150 : Pg.funcs[150]? = some Tryz.f150 := by rw [Pg_eq]; exact Tryz.func150
theorem fn151 : Pg.funcs[151]? = some Tryz.f151 := by rw [Pg_eq]; exact Tryz.func151
theorem fn152 : Pg.funcs[152]? = some Tryz.f152 := by rw [Pg_eq]; exact Tryz.func152
theorem fn153 : Pg.funcs[153]? = some Tryz.f153 := by rw [Pg_eq]; exact Tryz.func153
theorem fn159 : Pg.funcs[159]? = some Tryz.f159 := by rw [Pg_eq]; exact Tryz.func159
theorem fn160 : Pg.funcs[160]? = some Tryz.f160 := by rw [Pg_eq]; exact Tryz.func160
theorem fn161 : Pg.funcs[161]? = some Tryz.f161 := by rw [Pg_eq]; exact Tryz.func161
theorem fn167 : Pg.funcs[167]? = some Tryz.f167 := by rw [Pg_eq]; exact Tryz.func167
theorem fn180 : Pg.funcs[180]? = some Tryz.f180 := by rw [Pg_eq]; exact Tryz.func180
theorem fn181 : Pg.funcs[181]? = some Tryz.f181 := by rw [Pg_eq]; exact Tryz.func181
theorem fn185 : Pg.funcs[185]? = some Tryz.f185 := by rw [Pg_eq]; exact Tryz.func185
theorem fn187 : Pg.funcs[187]? = some Tryz.f187 := by rw [Pg_eq]; exact Tryz.func187
theorem fn188 : Pg.funcs[188]? = some Tryz.f188 := by rw [Pg_eq]; exact Tryz.func188
theorem fn189 : Pg.funcs[189]? = some Tryz.f189 := by rw [Pg_eq]; exact Tryz.func189
theorem fn190 : Pg.funcs[190]? = some Tryz.f190 := by rw [Pg_eq]; exact Tryz.func190
theorem fn195 : Pg.funcs[195]? = some Tryz.f195 := by rw [Pg_eq]; exact Tryz.func195
theorem fn196 : Pg.funcs[196]? = some Tryz.f196 := by rw [Pg_eq]; exact Tryz.func196
theorem fn197 : Pg.funcs[197]? = some Tryz.f197 := by rw [Pg_eq]; exact Tryz.func197
theorem fn198 : Pg.funcs[198]? = some Tryz.f198 := by rw [Pg_eq]; exact Tryz.func198
theorem fn199 : Pg.funcs[199]? = some Tryz.f199 := by rw [Pg_eq]; exact Tryz.func199
theorem fn200 : Pg.funcs[200]? = some Tryz.f200 := by rw [Pg_eq]; exact Tryz.func200
theorem fn201 : Pg.funcs[201]? = some Tryz.f201 := by rw [Pg_eq]; exact Tryz.func201
theorem fn202 : Pg.funcs[202]? = some Tryz.f202 := by rw [Pg_eq]; exact Tryz.func202
theorem fn203 : Pg.funcs[203]? = some Tryz.f203 := by rw [Pg_eq]; exact Tryz.func203
theorem fn204 : Pg.funcs[204]? = some Tryz.f204 := by rw [Pg_eq]; exact Tryz.func204
theorem fn205 : Pg.funcs[205]? = some Tryz.f205 := by rw [Pg_eq]; exact Tryz.func205
theorem fn206 : Pg.funcs[206]? = some Tryz.f206 := by rw [Pg_eq]; exact Tryz.func206
theorem fn207 : Pg.funcs[207]? = some Tryz.f207 := by rw [Pg_eq]; exact Tryz.func207
theorem fn208 : Pg.funcs[208]? = some Tryz.f208 := by rw [Pg_eq]; exact Tryz.func208
theorem fn209 : Pg.funcs[209]? = some Tryz.f209 := by rw [Pg_eq]; exact Tryz.func209
theorem fn210 : Pg.funcs[210]? = some Tryz.f210 := by rw [Pg_eq]; exact Tryz.func210
theorem fn211 : Pg.funcs[211]? = some Tryz.f211 := by rw [Pg_eq]; exact Tryz.func211
theorem fn212 : Pg.funcs[212]? = some Tryz.f212 := by rw [Pg_eq]; exact Tryz.func212
theorem fn213 : Pg.funcs[213]? = some Tryz.f213 := by rw [Pg_eq]; exact Tryz.func213
theorem fn214 : Pg.funcs[214]? = some Tryz.f214 := by rw [Pg_eq]; exact Tryz.func214
theorem fn215 : Pg.funcs[215]? = some Tryz.f215 := by rw [Pg_eq]; exact Tryz.func215
theorem fn216 : Pg.funcs[216]? = some Tryz.f216 := by rw [Pg_eq]; exact Tryz.func216
theorem fn217 : Pg.funcs[217]? = some Tryz.f217 := by rw [Pg_eq]; exact Tryz.func217
theorem fn222 : Pg.funcs[222]? = some Tryz.f222 := by rw [Pg_eq]; exact Tryz.func222
theorem fn223 : Pg.funcs[223]? = some Tryz.f223 := by rw [Pg_eq]; exact Tryz.func223
theorem fn224 : Pg.funcs[224]? = some Tryz.f224 := by rw [Pg_eq]; exact Tryz.func224
theorem fn225 : Pg.funcs[225]? = some Tryz.f225 := by rw [Pg_eq]; exact Tryz.func225
theorem fn228 : Pg.funcs[228]? = some Tryz.f228 := by rw [Pg_eq]; exact Tryz.func228
theorem fn229 : Pg.funcs[229]? = some Tryz.f229 := by rw [Pg_eq]; exact Tryz.func229
theorem fn230 : Pg.funcs[230]? = some Tryz.f230 := by rw [Pg_eq]; exact Tryz.func230
theorem fn231 : Pg.funcs[231]? = some Tryz.f231 := by rw [Pg_eq]; exact Tryz.func231
theorem fn236 : Pg.funcs[236]? = some Tryz.f236 := by rw [Pg_eq]; exact Tryz.func236
theorem fn238 : Pg.funcs[238]? = some Tryz.f238 := by rw [Pg_eq]; exact Tryz.func238
theorem fn240 : Pg.funcs[240]? = some Tryz.f240 := by rw [Pg_eq]; exact Tryz.func240
theorem fn244 : Pg.funcs[244]? = some Tryz.f244 := by rw [Pg_eq]; exact Tryz.func244
theorem fn245 : Pg.funcs[245]? = some Tryz.f245 := by rw [Pg_eq]; exact Tryz.func245
theorem fn251 : Pg.funcs[251]? = some Tryz.f251 := by rw [Pg_eq]; exact Tryz.func251
theorem fn252 : Pg.funcs[252]? = some Tryz.f252 := by rw [Pg_eq]; exact Tryz.func252
theorem fn253 : Pg.funcs[253]? = some Tryz.f253 := by rw [Pg_eq]; exact Tryz.func253
theorem fn254 : Pg.funcs[254]? = some Tryz.f254 := by rw [Pg_eq]; exact Tryz.func254
theorem fn255 : Pg.funcs[255]? = some Tryz.f255 := by rw [Pg_eq]; exact Tryz.func255
theorem fn258 : Pg.funcs[258]? = some Tryz.f258 := by rw [Pg_eq]; exact Tryz.func258
theorem fn259 : Pg.funcs[259]? = some Tryz.f259 := by rw [Pg_eq]; exact Tryz.func259
theorem fn260 : Pg.funcs[260]? = some Tryz.f260 := by rw [Pg_eq]; exact Tryz.func260
theorem fn261 : Pg.funcs[261]? = some Tryz.f261 := by rw [Pg_eq]; exact Tryz.func261
theorem fn262 : Pg.funcs[262]? = some Tryz.f262 := by rw [Pg_eq]; exact Tryz.func262
theorem fn263 : Pg.funcs[263]? = some Tryz.f263 := by rw [Pg_eq]; exact Tryz.func263
theorem fn264 : Pg.funcs[264]? = some Tryz.f264 := by rw [Pg_eq]; exact Tryz.func264
theorem fn265 : Pg.funcs[265]? = some Tryz.f265 := by rw [Pg_eq]; exact Tryz.func265
theorem fn266 : Pg.funcs[266]? = some Tryz.f266 := by rw [Pg_eq]; exact Tryz.func266
theorem fn267 : Pg.funcs[267]? = some Tryz.f267 := by rw [Pg_eq]; exact Tryz.func267
theorem fn268 : Pg.funcs[268]? = some Tryz.f268 := by rw [Pg_eq]; exact Tryz.func268
theorem fn269 : Pg.funcs[269]? = some Tryz.f269 := by rw [Pg_eq]; exact Tryz.func269
theorem fn270 : Pg.funcs[270]? = some Tryz.f270 := by rw [Pg_eq]; exact Tryz.func270
theorem fn271 : Pg.funcs[271]? = some Tryz.f271 := by rw [Pg_eq]; exact Tryz.func271
theorem fn272 : Pg.funcs[272]? = some Tryz.f272 := by rw [Pg_eq]; exact Tryz.func272
theorem fn277 : Pg.funcs[277]? = some Tryz.f277 := by rw [Pg_eq]; exact Tryz.func277
theorem fn278 : Pg.funcs[278]? = some Tryz.f278 := by rw [Pg_eq]; exact Tryz.func278
theorem fn279 : Pg.funcs[279]? = some Tryz.f279 := by rw [Pg_eq]; exact Tryz.func279
theorem fn280 : Pg.funcs[280]? = some Tryz.f280 := by rw [Pg_eq]; exact Tryz.func280
theorem fn281 : Pg.funcs[281]? = some Tryz.f281 := by rw [Pg_eq]; exact Tryz.func281
theorem fn282 : Pg.funcs[282]? = some Tryz.f282 := by rw [Pg_eq]; exact Tryz.func282
theorem fn283 : Pg.funcs[283]? = some Tryz.f283 := by rw [Pg_eq]; exact Tryz.func283
theorem fn284 : Pg.funcs[284]? = some Tryz.f284 := by rw [Pg_eq]; exact Tryz.func284
theorem fn285 : Pg.funcs[285]? = some Tryz.f285 := by rw [Pg_eq]; exact Tryz.func285
theorem fn286 : Pg.funcs[286]? = some Tryz.f286 := by rw [Pg_eq]; exact Tryz.func286
theorem fn292 : Pg.funcs[292]? = some Tryz.f292 := by rw [Pg_eq]; exact Tryz.func292
theorem fn293 : Pg.funcs[293]? = some Tryz.f293 := by rw [Pg_eq]; exact Tryz.func293
theorem fn294 : Pg.funcs[294]? = some Tryz.f294 := by rw [Pg_eq]; exact Tryz.func294
theorem fn295 : Pg.funcs[295]? = some Tryz.f295 := by rw [Pg_eq]; exact Tryz.func295
theorem fn296 : Pg.funcs[296]? = some Tryz.f296 := by rw [Pg_eq]; exact Tryz.func296
theorem fn317 : Pg.funcs[317]? = some Tryz.f317 := by rw [Pg_eq]; exact Tryz.func317
theorem sz3 : szOf Pg 3 = some 1 := by kernel_rfl
theorem ag3 : aggOf Pg 3 = some false := by kernel_rfl
theorem und3 : Pg.underlying 3 = some (.int .i64) := by kernel_rfl
theorem zv3 : ZeroV Pg 3 (.int .i64 0) := ⟨((Pg.info? 3).bind (·.zero)).getD .nilFunc, (by kernel_rfl), (by kernel_rfl), (by kernel_rfl)⟩
theorem sz5 : szOf Pg 5 = some 1 := by kernel_rfl
theorem ag5 : aggOf Pg 5 = some false := by kernel_rfl
theorem und5 : Pg.underlying 5 = some (.int .u8) := by kernel_rfl
theorem zv5 : ZeroV Pg 5 (.int .u8 0) := ⟨((Pg.info? 5).bind (·.zero)).getD .nilFunc, (by kernel_rfl), (by kernel_rfl), (by kernel_rfl)⟩
theorem sz9 : szOf Pg 9 = some 1 := by kernel_rfl
theorem ag9 : aggOf Pg 9 = some false := by kernel_rfl
theorem und9 : Pg.underlying 9 = some .string := by kernel_rfl
theorem noi9 : NoI Pg 9 := .inr und9
theorem zv9 : ZeroV Pg 9 (.str ⟨#[]⟩) := ⟨((Pg.info? 9).bind (·.zero)).getD .nilFunc, (by kernel_rfl), (by kernel_rfl), (by kernel_rfl)⟩
theorem sz22 : szOf Pg 22 = some 1 := by kernel_rfl
theorem ag22 : aggOf Pg 22 = some false := by kernel_rfl
theorem sli22 : sliOf Pg 22 = some (48, 587, true, 4720) := by kernel_rfl
theorem und22 : Pg.underlying 22 = some (.slice 48) := by kernel_rfl
theorem noi22 : NoI Pg 22 := .inl ⟨_, und22⟩
theorem zv22 : ZeroV Pg 22 (.nils) := ⟨((Pg.info? 22).bind (·.zero)).getD .nilFunc, (by kernel_rfl), (by kernel_rfl), (by kernel_rfl)⟩
theorem zv25 : ZeroV Pg 25 (.nilp) := ⟨((Pg.info? 25).bind (·.zero)).getD .nilFunc, (by kernel_rfl), (by kernel_rfl), (by kernel_rfl)⟩
theorem sz26 : szOf Pg 26 = some 1 := by kernel_rfl
theorem ag26 : aggOf Pg 26 = some false := by kernel_rfl
theorem und26 : Pg.underlying 26 = some (.int .i64) := by kernel_rfl
theorem zv26 : ZeroV Pg 26 (.int .i64 0) := ⟨((Pg.info? 26).bind (·.zero)).getD .nilFunc, (by kernel_rfl), (by kernel_rfl), (by kernel_rfl)⟩
theorem sz29 : szOf Pg 29 = some 1 := by kernel_rfl
theorem ag29 : aggOf Pg 29 = some false := by kernel_rfl
theorem zv29 : ZeroV Pg 29 (.nilp) := ⟨((Pg.info? 29).bind (·.zero)).getD .nilFunc, (by kernel_rfl), (by kernel_rfl), (by kernel_rfl)⟩
theorem sz38 : szOf Pg 38 = some 16 := by kernel_rfl
theorem ag38 : aggOf Pg 38 = some true := by kernel_rfl
theorem arr38 : arrOf Pg 38 = some (16, 1, false) := by kernel_rfl
theorem zv38 : ZeroV Pg 38 (.arr 1 (List.replicate 16 (.int .i64 0))) := ⟨((Pg.info? 38).bind (·.zero)).getD .nilFunc, (by kernel_rfl), (by kernel_rfl), (by kernel_rfl)⟩
theorem sz39 : szOf Pg 39 = some 256 := by kernel_rfl
theorem ag39 : aggOf Pg 39 = some true := by kernel_rfl
theorem arr39 : arrOf Pg 39 = some (16, 16, true) := by kernel_rfl
theorem zv39 : ZeroV Pg 39 (.arr 16 (List.replicate 16 (.arr 1 (List.replicate 16 (.int .i64 0))))) := ⟨((Pg.info? 39).bind (·.zero)).getD .nilFunc, (by kernel_rfl), (by kernel_rfl), (by kernel_rfl)⟩
theorem sz41 : szOf Pg 41 = some 288 := by kernel_rfl
theorem ag41 : aggOf Pg 41 = some true := by kernel_rfl
theorem lay41 : layOf Pg 41 = some [(0, 16, true), (16, 16, true), (32, 256, true)] := by kernel_rfl
theorem zv41 : ZeroV Pg 41 (.st [.arr 1 (List.replicate 16 (.int .i64 0)), .arr 1 (List.replicate 16 (.int .i64 0)), .arr 16 (List.replicate 16 (.arr 1 (List.replicate 16 (.int .i64 0))))]) := ⟨((Pg.info? 41).bind (·.zero)).getD .nilFunc, (by kernel_rfl), (by kernel_rfl), (by kernel_rfl)⟩
theorem sz43 : szOf Pg 43 = some 579 := by kernel_rfl
theorem ag43 : aggOf Pg 43 = some true := by kernel_rfl
theorem lay43 : layOf Pg 43 = some [(0, 1, false), (1, 1, false), (2, 1, false), (3, 288, true), (291, 288, true)] := by kernel_rfl
theorem zv43 : ZeroV Pg 43 (.st [.int .i64 0, .int .i64 0, .int .i64 0, .st [.arr 1 (List.replicate 16 (.int .i64 0)), .arr 1 (List.replicate 16 (.int .i64 0)), .arr 16 (List.replicate 16 (.arr 1 (List.replicate 16 (.int .i64 0))))], .st [.arr 1 (List.replicate 16 (.int .i64 0)), .arr 1 (List.replicate 16 (.int .i64 0)), .arr 16 (List.replicate 16 (.arr 1 (List.replicate 16 (.int .i64 0))))]]) := ⟨((Pg.info? 43).bind (·.zero)).getD .nilFunc, (by kernel_rfl), (by kernel_rfl), (by kernel_rfl)⟩
theorem sz45 : szOf Pg 45 = some 4 := by kernel_rfl
theorem ag45 : aggOf Pg 45 = some true := by kernel_rfl
theorem lay45 : layOf Pg 45 = some [(0, 1, false), (1, 1, false), (2, 1, false), (3, 1, false)] := by kernel_rfl
theorem zv45 : ZeroV Pg 45 (.st [.int .i64 0, .int .i64 0, .int .i64 0, .int .i64 0]) := ⟨((Pg.info? 45).bind (·.zero)).getD .nilFunc, (by kernel_rfl), (by kernel_rfl), (by kernel_rfl)⟩
theorem sz46 : szOf Pg 46 = some 1 := by kernel_rfl
theorem ag46 : aggOf Pg 46 = some false := by kernel_rfl
theorem sli46 : sliOf Pg 46 = some (186, 5, true, 40) := by kernel_rfl
theorem und46 : Pg.underlying 46 = some (.slice 186) := by kernel_rfl
theorem noi46 : NoI Pg 46 := .inl ⟨_, und46⟩
theorem zv46 : ZeroV Pg 46 (.nils) := ⟨((Pg.info? 46).bind (·.zero)).getD .nilFunc, (by kernel_rfl), (by kernel_rfl), (by kernel_rfl)⟩
theorem sz48 : szOf Pg 48 = some 587 := by kernel_rfl
theorem ag48 : aggOf Pg 48 = some true := by kernel_rfl
theorem lay48 : layOf Pg 48 = some [(0, 1, false), (1, 1, false), (2, 1, false), (3, 579, true), (582, 4, true), (586, 1, false)] := by kernel_rfl
theorem zv48 : ZeroV Pg 48 (.st [.str ⟨#[]⟩, .int .i64 0, .int .i64 0, .st [.int .i64 0, .int .i64 0, .int .i64 0, .st [.arr 1 (List.replicate 16 (.int .i64 0)), .arr 1 (List.replicate 16 (.int .i64 0)), .arr 16 (List.replicate 16 (.arr 1 (List.replicate 16 (.int .i64 0))))], .st [.arr 1 (List.replicate 16 (.int .i64 0)), .arr 1 (List.replicate 16 (.int .i64 0)), .arr 16 (List.replicate 16 (.arr 1 (List.replicate 16 (.int .i64 0))))]], .st [.int .i64 0, .int .i64 0, .int .i64 0, .int .i64 0], .nils]) := ⟨((Pg.info? 48).bind (·.zero)).getD .nilFunc, (by kernel_rfl), (by kernel_rfl), (by kernel_rfl)⟩
theorem sz51 : szOf Pg 51 = some 5 := by kernel_rfl
theorem ag51 : aggOf Pg 51 = some true := by kernel_rfl
theorem lay51 : layOf Pg 51 = some [(0, 1, false), (1, 1, false), (2, 1, false), (3, 1, false), (4, 1, false)] := by kernel_rfl
theorem zv51 : ZeroV Pg 51 (.st [.int .i64 0, .str ⟨#[]⟩, .str ⟨#[]⟩, .int .i64 0, .int .i64 0]) := ⟨((Pg.info? 51).bind (·.zero)).getD .nilFunc, (by kernel_rfl), (by kernel_rfl), (by kernel_rfl)⟩
theorem sz53 : szOf Pg 53 = some 12 := by kernel_rfl
theorem ag53 : aggOf Pg 53 = some true := by kernel_rfl
theorem lay53 : layOf Pg 53 = some [(0, 1, false), (1, 1, false), (2, 1, false), (3, 1, false), (4, 1, false), (5, 1, false), (6, 1, false), (7, 5, true)] := by kernel_rfl
theorem zv53 : ZeroV Pg 53 (.st [.int .i64 0, .int .i64 0, .int .i64 0, .int .i64 0, .int .i64 0, .bool false, .nils, .st [.int .i64 0, .str ⟨#[]⟩, .str ⟨#[]⟩, .int .i64 0, .int .i64 0]]) := ⟨((Pg.info? 53).bind (·.zero)).getD .nilFunc, (by kernel_rfl), (by kernel_rfl), (by kernel_rfl)⟩
theorem sz55 : szOf Pg 55 = some 22 := by kernel_rfl
theorem ag55 : aggOf Pg 55 = some true := by kernel_rfl
theorem lay55 : layOf Pg 55 = some [(0, 1, false), (1, 1, false), (2, 1, false), (3, 1, false), (4, 1, false), (5, 5, true), (10, 12, true)] := by kernel_rfl
theorem zv55 : ZeroV Pg 55 (.st [.int .i64 0, .int .i64 0, .int .i64 0, .int .i64 0, .str ⟨#[]⟩, .st [.int .i64 0, .str ⟨#[]⟩, .str ⟨#[]⟩, .int .i64 0, .int .i64 0], .st [.int .i64 0, .int .i64 0, .int .i64 0, .int .i64 0, .int .i64 0, .bool false, .nils, .st [.int .i64 0, .str ⟨#[]⟩, .str ⟨#[]⟩, .int .i64 0, .int .i64 0]]]) := ⟨((Pg.info? 55).bind (·.zero)).getD .nilFunc, (by kernel_rfl), (by kernel_rfl), (by kernel_rfl)⟩
theorem sli56 : sliOf Pg 56 = some (55, 22, true, 232) := by kernel_rfl
theorem zv56 : ZeroV Pg 56 (.nils) := ⟨((Pg.info? 56).bind (·.zero)).getD .nilFunc, (by kernel_rfl), (by kernel_rfl), (by kernel_rfl)⟩
theorem sli58 : sliOf Pg 58 = some (53, 12, true, 128) := by kernel_rfl
theorem und58 : Pg.underlying 58 = some (.slice 53) := by kernel_rfl
theorem noi58 : NoI Pg 58 := .inl ⟨_, und58⟩
theorem zv58 : ZeroV Pg 58 (.nils) := ⟨((Pg.info? 58).bind (·.zero)).getD .nilFunc, (by kernel_rfl), (by kernel_rfl), (by kernel_rfl)⟩
theorem sz62 : szOf Pg 62 = some 14 := by kernel_rfl
theorem ag62 : aggOf Pg 62 = some true := by kernel_rfl
theorem lay62 : layOf Pg 62 = some [(0, 1, false), (1, 1, false), (2, 1, false), (3, 1, false), (4, 5, true), (9, 1, false), (10, 1, false), (11, 1, false), (12, 1, false), (13, 1, false)] := by kernel_rfl
theorem zv62 : ZeroV Pg 62 (.st [.int .i64 0, .int .i64 0, .int .i64 0, .int .i64 0, .st [.int .i64 0, .str ⟨#[]⟩, .str ⟨#[]⟩, .int .i64 0, .int .i64 0], .int .i64 0, .int .i64 0, .int .i64 0, .nils, .nils]) := ⟨((Pg.info? 62).bind (·.zero)).getD .nilFunc, (by kernel_rfl), (by kernel_rfl), (by kernel_rfl)⟩
theorem sz64 : szOf Pg 64 = some 25 := by kernel_rfl
theorem ag64 : aggOf Pg 64 = some true := by kernel_rfl
theorem lay64 : layOf Pg 64 = some [(0, 1, false), (1, 1, false), (2, 1, false), (3, 1, false), (4, 1, false), (5, 5, true), (10, 1, false), (11, 14, true)] := by kernel_rfl
theorem zv64 : ZeroV Pg 64 (.st [.int .i64 0, .int .i64 0, .int .i64 0, .int .i64 0, .int .i64 0, .st [.int .i64 0, .str ⟨#[]⟩, .str ⟨#[]⟩, .int .i64 0, .int .i64 0], .nils, .st [.int .i64 0, .int .i64 0, .int .i64 0, .int .i64 0, .st [.int .i64 0, .str ⟨#[]⟩, .str ⟨#[]⟩, .int .i64 0, .int .i64 0], .int .i64 0, .int .i64 0, .int .i64 0, .nils, .nils]]) := ⟨((Pg.info? 64).bind (·.zero)).getD .nilFunc, (by kernel_rfl), (by kernel_rfl), (by kernel_rfl)⟩
theorem sz67 : szOf Pg 67 = some 1 := by kernel_rfl
theorem ag67 : aggOf Pg 67 = some false := by kernel_rfl
theorem sli67 : sliOf Pg 67 = some (3, 1, false, 8) := by kernel_rfl
theorem und67 : Pg.underlying 67 = some (.slice 3) := by kernel_rfl
theorem noi67 : NoI Pg 67 := .inl ⟨_, und67⟩
theorem zv67 : ZeroV Pg 67 (.nils) := ⟨((Pg.info? 67).bind (·.zero)).getD .nilFunc, (by kernel_rfl), (by kernel_rfl), (by kernel_rfl)⟩
theorem sz88 : szOf Pg 88 = some 1 := by kernel_rfl
theorem ag88 : aggOf Pg 88 = some false := by kernel_rfl
theorem zv88 : ZeroV Pg 88 (.nilp) := ⟨((Pg.info? 88).bind (·.zero)).getD .nilFunc, (by kernel_rfl), (by kernel_rfl), (by kernel_rfl)⟩
theorem zv92 : ZeroV Pg 92 (.st [.st [.int .i64 0, .int .i64 0, .int .i64 0, .int .i64 0, .int .i64 0, .st [.int .i64 0, .str ⟨#[]⟩, .str ⟨#[]⟩, .int .i64 0, .int .i64 0], .nils, .st [.int .i64 0, .int .i64 0, .int .i64 0, .int .i64 0, .st [.int .i64 0, .str ⟨#[]⟩, .str ⟨#[]⟩, .int .i64 0, .int .i64 0], .int .i64 0, .int .i64 0, .int .i64 0, .nils, .nils]], .nilp, .int .i64 0]) := ⟨((Pg.info? 92).bind (·.zero)).getD .nilFunc, (by kernel_rfl), (by kernel_rfl), (by kernel_rfl)⟩
theorem sz93 : szOf Pg 93 = some 1 := by kernel_rfl
theorem ag93 : aggOf Pg 93 = some false := by kernel_rfl
theorem sli93 : sliOf Pg 93 = some (5, 1, false, 1) := by kernel_rfl
theorem und93 : Pg.underlying 93 = some (.slice 5) := by kernel_rfl
theorem noi93 : NoI Pg 93 := .inl ⟨_, und93⟩
theorem zv93 : ZeroV Pg 93 (.nils) := ⟨((Pg.info? 93).bind (·.zero)).getD .nilFunc, (by kernel_rfl), (by kernel_rfl), (by kernel_rfl)⟩
theorem zv100 : ZeroV Pg 100 (.st [.int .i64 0, .nils, .int .i64 0]) := ⟨((Pg.info? 100).bind (·.zero)).getD .nilFunc, (by kernel_rfl), (by kernel_rfl), (by kernel_rfl)⟩
theorem zv101 : ZeroV Pg 101 (.nilfn) := ⟨((Pg.info? 101).bind (·.zero)).getD .nilFunc, (by kernel_rfl), (by kernel_rfl), (by kernel_rfl)⟩
theorem sz139 : szOf Pg 139 = some 1 := by kernel_rfl
theorem ag139 : aggOf Pg 139 = some false := by kernel_rfl
theorem sli139 : sliOf Pg 139 = some (93, 1, false, 24) := by kernel_rfl
theorem und139 : Pg.underlying 139 = some (.slice 93) := by kernel_rfl
theorem noi139 : NoI Pg 139 := .inl ⟨_, und139⟩
theorem zv139 : ZeroV Pg 139 (.nils) := ⟨((Pg.info? 139).bind (·.zero)).getD .nilFunc, (by kernel_rfl), (by kernel_rfl), (by kernel_rfl)⟩
theorem zv145 : ZeroV Pg 145 (.st [.nilp, .nils]) := ⟨((Pg.info? 145).bind (·.zero)).getD .nilFunc, (by kernel_rfl), (by kernel_rfl), (by kernel_rfl)⟩
theorem sz180 : szOf Pg 180 = some 2 := by kernel_rfl
theorem ag180 : aggOf Pg 180 = some true := by kernel_rfl
theorem lay180 : layOf Pg 180 = some [(0, 1, false), (1, 1, false)] := by kernel_rfl
theorem zv180 : ZeroV Pg 180 (.st [.int .i64 0, .nils]) := ⟨((Pg.info? 180).bind (·.zero)).getD .nilFunc, (by kernel_rfl), (by kernel_rfl), (by kernel_rfl)⟩
theorem sz186 : szOf Pg 186 = some 5 := by kernel_rfl
theorem ag186 : aggOf Pg 186 = some true := by kernel_rfl
theorem lay186 : layOf Pg 186 = some [(0, 1, false), (1, 1, false), (2, 1, false), (3, 1, false), (4, 1, false)] := by kernel_rfl
theorem zv186 : ZeroV Pg 186 (.st [.int .i64 0, .int .i64 0, .int .i64 0, .int .i64 0, .int .i64 0]) := ⟨((Pg.info? 186).bind (·.zero)).getD .nilFunc, (by kernel_rfl), (by kernel_rfl), (by kernel_rfl)⟩
theorem sz212 : szOf Pg 212 = some 1 := by kernel_rfl
theorem ag212 : aggOf Pg 212 = some false := by kernel_rfl
theorem zv212 : ZeroV Pg 212 (.int .u32 0) := ⟨((Pg.info? 212).bind (·.zero)).getD .nilFunc, (by kernel_rfl), (by kernel_rfl), (by kernel_rfl)⟩
theorem sz227 : szOf Pg 227 = some 1 := by kernel_rfl
theorem ag227 : aggOf Pg 227 = some false := by kernel_rfl
theorem zv227 : ZeroV Pg 227 (.nilfn) := ⟨((Pg.info? 227).bind (·.zero)).getD .nilFunc, (by kernel_rfl), (by kernel_rfl), (by kernel_rfl)⟩
theorem sz243 : szOf Pg 243 = some 1 := by kernel_rfl
theorem ag243 : aggOf Pg 243 = some false := by kernel_rfl
theorem zv243 : ZeroV Pg 243 (.nilfn) := ⟨((Pg.info? 243).bind (·.zero)).getD .nilFunc, (by kernel_rfl), (by kernel_rfl), (by kernel_rfl)⟩
theorem sli260 : sliOf Pg 260 = some (9, 1, false, 16) := by kernel_rfl
theorem zv260 : ZeroV Pg 260 (.nils) := ⟨((Pg.info? 260).bind (·.zero)).getD .nilFunc, (by kernel_rfl), (by kernel_rfl), (by kernel_rfl)⟩
theorem zv266 : ZeroV Pg 266 (.st [.nils]) := ⟨((Pg.info? 266).bind (·.zero)).getD .nilFunc, (by kernel_rfl), (by kernel_rfl), (by kernel_rfl)⟩
theorem arr272 : arrOf Pg 272 = some (16, 1, false) := by kernel_rfl
theorem zv272 : ZeroV Pg 272 (.arr 1 (List.replicate 16 (.int .u32 0))) := ⟨((Pg.info? 272).bind (·.zero)).getD .nilFunc, (by kernel_rfl), (by kernel_rfl), (by kernel_rfl)⟩
theorem sz278 : szOf Pg 278 = some 1 := by kernel_rfl
theorem ag278 : aggOf Pg 278 = some false := by kernel_rfl
theorem sli278 : sliOf Pg 278 = some (280, 1, false, 8) := by kernel_rfl
theorem und278 : Pg.underlying 278 = some (.slice 280) := by kernel_rfl
theorem noi278 : NoI Pg 278 := .inl ⟨_, und278⟩
theorem zv278 : ZeroV Pg 278 (.nils) := ⟨((Pg.info? 278).bind (·.zero)).getD .nilFunc, (by kernel_rfl), (by kernel_rfl), (by kernel_rfl)⟩
theorem sz280 : szOf Pg 280 = some 1 := by kernel_rfl
theorem ag280 : aggOf Pg 280 = some false := by kernel_rfl
theorem zv280 : ZeroV Pg 280 (.nilp) := ⟨((Pg.info? 280).bind (·.zero)).getD .nilFunc, (by kernel_rfl), (by kernel_rfl), (by kernel_rfl)⟩
theorem und293 : Pg.underlying 293 = some (.map 3 101) := by kernel_rfl
theorem zv293 : ZeroV Pg 293 (.nilmap) := ⟨((Pg.info? 293).bind (·.zero)).getD .nilFunc, (by kernel_rfl), (by kernel_rfl), (by kernel_rfl)⟩
theorem und296 : Pg.underlying 296 = some (.map 3 243) := by kernel_rfl
theorem zv296 : ZeroV Pg 296 (.nilmap) := ⟨((Pg.info? 296).bind (·.zero)).getD .nilFunc, (by kernel_rfl), (by kernel_rfl), (by kernel_rfl)⟩
theorem sli317 : sliOf Pg 317 = some (278, 1, false, 24) := by kernel_rfl
theorem zv317 : ZeroV Pg 317 (.nils) := ⟨((Pg.info? 317).bind (·.zero)).getD .nilFunc, (by kernel_rfl), (by kernel_rfl), (by kernel_rfl)⟩
theorem sz323 : szOf Pg 323 = some 2 := by kernel_rfl
theorem arr323 : arrOf Pg 323 = some (2, 1, false) := by kernel_rfl
theorem zv323 : ZeroV Pg 323 (.arr 1 (List.replicate 2 (.int .i64 0))) := ⟨((Pg.info? 323).bind (·.zero)).getD .nilFunc, (by kernel_rfl), (by kernel_rfl), (by kernel_rfl)⟩
theorem arr324 : arrOf Pg 324 = some (2, 2, true) := by kernel_rfl
theorem zv324 : ZeroV Pg 324 (.arr 2 (List.replicate 2 (.arr 1 (List.replicate 2 (.int .i64 0))))) := ⟨((Pg.info? 324).bind (·.zero)).getD .nilFunc, (by kernel_rfl), (by kernel_rfl), (by kernel_rfl)⟩
theorem eqt43 : EqT Pg 43 (.st [(0, .int .i64), (1, .int .i64), (2, .int .i64), (3, .st [(0, .arr 16 1 (.int .i64)), (16, .arr 16 1 (.int .i64)), (32, .arr 16 16 (.arr 16 1 (.int .i64)))] 288), (291, .st [(0, .arr 16 1 (.int .i64)), (16, .arr 16 1 (.int .i64)), (32, .arr 16 16 (.arr 16 1 (.int .i64)))] 288)] 579) := ⟨by kernel_rfl, by kernel_rfl⟩
theorem eqt45 : EqT Pg 45 (.st [(0, .int .i64), (1, .int .i64), (2, .int .i64), (3, .int .i64)] 4) := ⟨by kernel_rfl, by kernel_rfl⟩
theorem eqt51 : EqT Pg 51 (.st [(0, .int .i64), (1, .str), (2, .str), (3, .int .i64), (4, .int .i64)] 5) := ⟨by kernel_rfl, by kernel_rfl⟩
theorem eqt186 : EqT Pg 186 (.st [(0, .int .i64), (1, .int .i64), (2, .int .i64), (3, .int .i64), (4, .int .i64)] 5) := ⟨by kernel_rfl, by kernel_rfl⟩
theorem ent6 : enters Pg 6 = true := by kernel_rfl
theorem ent7 : enters Pg 7 = true := by kernel_rfl
theorem ent8 : enters Pg 8 = true := by kernel_rfl
theorem ent9 : enters Pg 9 = true := by kernel_rfl
theorem ent11 : enters Pg 11 = true := by kernel_rfl
theorem ent12 : enters Pg 12 = true := by kernel_rfl
theorem ent14 : enters Pg 14 = true := by kernel_rfl
theorem ent15 : enters Pg 15 = true := by kernel_rfl
theorem ent16 : enters Pg 16 = true := by kernel_rfl
theorem ent17 : enters Pg 17 = true := by kernel_rfl
theorem ent18 : enters Pg 18 = true := by kernel_rfl
theorem ent27 : enters Pg 27 = true := by kernel_rfl
theorem ent28 : enters Pg 28 = true := by kernel_rfl
theorem ent29 : enters Pg 29 = true := by kernel_rfl
theorem ent30 : enters Pg 30 = true := by kernel_rfl
theorem ent31 : enters Pg 31 = true := by kernel_rfl
theorem ent32 : enters Pg 32 = true := by kernel_rfl
theorem ent33 : enters Pg 33 = true := by kernel_rfl
theorem ent34 : enters Pg 34 = true := by kernel_rfl
theorem ent38 : enters Pg 38 = true := by kernel_rfl
theorem ent39 : enters Pg 39 = true := by kernel_rfl
theorem ent40 : enters Pg 40 = true := by kernel_rfl
theorem ent42 : enters Pg 42 = true := by kernel_rfl
theorem ent43 : enters Pg 43 = true := by kernel_rfl
theorem ent44 : enters Pg 44 = true := by kernel_rfl
theorem ent45 : enters Pg 45 = true := by kernel_rfl
theorem ent46 : enters Pg 46 = true := by kernel_rfl
theorem ent47 : enters Pg 47 = true := by kernel_rfl
theorem ent48 : enters Pg 48 = true := by kernel_rfl
theorem ent49 : enters Pg 49 = true := by kernel_rfl
theorem ent50 : enters Pg 50 = true := by kernel_rfl
theorem ent51 : enters Pg 51 = true := by kernel_rfl
theorem ent52 : enters Pg 52 = true := by kernel_rfl
theorem ent53 : enters Pg 53 = true := by kernel_rfl
theorem ent54 : enters Pg 54 = true := by kernel_rfl
theorem ent55 : enters Pg 55 = true := by kernel_rfl
theorem ent56 : enters Pg 56 = true := by kernel_rfl
theorem ent57 : enters Pg 57 = true := by kernel_rfl
theorem ent61 : enters Pg 61 = true := by kernel_rfl
theorem ent71 : enters Pg 71 = true := by kernel_rfl
theorem ent72 : enters Pg 72 = true := by kernel_rfl
theorem ent73 : enters Pg 73 = true := by kernel_rfl
theorem ent74 : enters Pg 74 = true := by kernel_rfl
theorem ent75 : enters Pg 75 = true := by kernel_rfl
theorem ent76 : enters Pg 76 = true := by kernel_rfl
theorem ent77 : enters Pg 77 = true := by kernel_rfl
theorem ent78 : enters Pg 78 = true := by kernel_rfl
theorem ent79 : enters Pg 79 = true := by kernel_rfl
theorem ent80 : enters Pg 80 = true := by kernel_rfl
theorem ent81 : enters Pg 81 = true := by kernel_rfl
theorem ent82 : enters Pg 82 = true := by kernel_rfl
theorem ent83 : enters Pg 83 = true := by kernel_rfl
theorem ent84 : enters Pg 84 = true := by kernel_rfl
theorem ent85 : enters Pg 85 = true := by kernel_rfl
theorem ent86 : enters Pg 86 = true := by kernel_rfl
theorem ent93 : enters Pg 93 = true := by kernel_rfl
theorem ent99 : enters Pg 99 = true := by kernel_rfl
theorem ent101 : enters Pg 101 = true := by kernel_rfl
theorem ent112 : enters Pg 112 = true := by kernel_rfl
theorem ent122 : enters Pg 122 = true := by kernel_rfl
theorem ent123 : enters Pg 123 = true := by kernel_rfl
theorem ent124 : enters Pg 124 = true := by kernel_rfl
theorem ent125 : enters Pg 125 = true := by kernel_rfl
theorem ent126 : enters Pg 126 = true := by kernel_rfl
theorem ent127 : enters Pg 127 = true := by kernel_rfl
theorem ent133 : enters Pg 133 = true := by kernel_rfl
theorem ent134 : enters Pg 134 = true := by kernel_rfl
theorem ent135 : enters Pg 135 = true := by kernel_rfl
theorem ent136 : enters Pg 136 = true := by kernel_rfl
theorem ent137 : enters Pg 137 = true := by kernel_rfl
theorem ent138 : enters Pg 138 = true := by kernel_rfl
theorem ent139 : enters Pg 139 = true := by kernel_rfl
theorem ent140 : enters Pg 140 = true := by kernel_rfl
theorem ent141 : enters Pg 141 = true := by kernel_rfl
theorem ent142 : enters Pg 142 = true := by kernel_rfl
theorem ent143 : enters Pg 143 = true := by kernel_rfl
theorem ent144 : enters Pg 144 = true := by kernel_rfl
theorem ent145 : enters Pg 145 = true := by kernel_rfl
theorem ent146 : enters Pg 146 = true := by kernel_rfl
theorem ent147 : enters Pg 147 = true := by kernel_rfl
theorem ent148 : enters Pg 148 = true := by kernel_rfl
theorem ent149 : enters Pg 149 = true := by kernel_rfl
theorem ent150 : enters Pg 150 = true := by kernel_rfl
theorem ent151 : enters Pg 151 = true := by kernel_rfl
theorem ent152 : enters Pg 152 = true := by kernel_rfl
theorem ent153 : enters Pg 153 = true := by kernel_rfl
theorem ent159 : enters Pg 159 = true := by kernel_rfl
theorem ent160 : enters Pg 160 = true := by kernel_rfl
theorem ent161 : enters Pg 161 = true := by kernel_rfl
theorem ent167 : enters Pg 167 = true := by kernel_rfl
theorem ent180 : enters Pg 180 = true := by kernel_rfl
theorem ent181 : enters Pg 181 = true := by kernel_rfl
theorem ent185 : enters Pg 185 = true := by kernel_rfl
theorem ent187 : enters Pg 187 = true := by kernel_rfl
theorem ent188 : enters Pg 188 = true := by kernel_rfl
theorem ent189 : enters Pg 189 = true := by kernel_rfl
theorem ent190 : enters Pg 190 = true := by kernel_rfl
theorem ent195 : enters Pg 195 = true := by kernel_rfl
theorem ent196 : enters Pg 196 = true := by kernel_rfl
theorem ent197 : enters Pg 197 = true := by kernel_rfl
theorem ent198 : enters Pg 198 = true := by kernel_rfl
theorem ent199 : enters Pg 199 = true := by kernel_rfl
theorem ent200 : enters Pg 200 = true := by kernel_rfl
theorem ent201 : enters Pg 201 = true := by kernel_rfl
theorem ent202 : enters Pg 202 = true := by kernel_rfl
theorem ent203 : enters Pg 203 = true := by kernel_rfl
theorem ent204 : enters Pg 204 = true := by kernel_rfl
theorem ent205 : enters Pg 205 = true := by kernel_rfl
theorem ent206 : enters Pg 206 = true := by kernel_rfl
theorem ent207 : enters Pg 207 = true := by kernel_rfl
theorem ent208 : enters Pg 208 = true := by kernel_rfl
theorem ent209 : enters Pg 209 = true := by kernel_rfl
theorem ent210 : enters Pg 210 = true := by kernel_rfl
theorem ent211 : enters Pg 211 = true := by kernel_rfl
theorem ent212 : enters Pg 212 = true := by kernel_rfl
theorem ent213 : enters Pg 213 = true := by kernel_rfl
theorem ent214 : enters Pg 214 = true := by kernel_rfl
theorem ent215 : enters Pg 215 = true := by kernel_rfl
theorem ent216 : enters Pg 216 = true := by kernel_rfl
theorem ent217 : enters Pg 217 = true := by kernel_rfl
theorem ent222 : enters Pg 222 = true := by kernel_rfl
theorem ent223 : enters Pg 223 = true := by kernel_rfl
theorem ent224 : enters Pg 224 = true := by kernel_rfl
theorem ent225 : enters Pg 225 = true := by kernel_rfl
theorem ent228 : enters Pg 228 = true := by kernel_rfl
theorem ent229 : enters Pg 229 = true := by kernel_rfl
theorem ent230 : enters Pg 230 = true := by kernel_rfl
theorem ent231 : enters Pg 231 = true := by kernel_rfl
theorem ent236 : enters Pg 236 = true := by kernel_rfl
theorem ent238 : enters Pg 238 = true := by kernel_rfl
theorem ent240 : enters Pg 240 = true := by kernel_rfl
theorem ent244 : enters Pg 244 = true := by kernel_rfl
theorem ent245 : enters Pg 245 = true := by kernel_rfl
theorem ent251 : enters Pg 251 = true := by kernel_rfl
theorem ent252 : enters Pg 252 = true := by kernel_rfl
theorem ent253 : enters Pg 253 = true := by kernel_rfl
theorem ent254 : enters Pg 254 = true := by kernel_rfl
theorem ent255 : enters Pg 255 = true := by kernel_rfl
theorem ent258 : enters Pg 258 = true := by kernel_rfl
theorem ent259 : enters Pg 259 = true := by kernel_rfl
theorem ent260 : enters Pg 260 = true := by kernel_rfl
theorem ent261 : enters Pg 261 = true := by kernel_rfl
theorem ent262 : enters Pg 262 = true := by kernel_rfl
theorem ent263 : enters Pg 263 = true := by kernel_rfl
theorem ent264 : enters Pg 264 = true := by kernel_rfl
theorem ent265 : enters Pg 265 = true := by kernel_rfl
theorem ent266 : enters Pg 266 = true := by kernel_rfl
theorem ent267 : enters Pg 267 = true := by kernel_rfl
theorem ent268 : enters Pg 268 = true := by kernel_rfl
theorem ent269 : enters Pg 269 = true := by kernel_rfl
theorem ent270 : enters Pg 270 = true := by kernel_rfl
theorem ent271 : enters Pg 271 = true := by kernel_rfl
theorem ent272 : enters Pg 272 = true := by kernel_rfl
theorem ent277 : enters Pg 277 = true := by kernel_rfl
theorem ent278 : enters Pg 278 = true := by kernel_rfl
theorem ent279 : enters Pg 279 = true := by kernel_rfl
theorem ent280 : enters Pg 280 = true := by kernel_rfl
theorem ent281 : enters Pg 281 = true := by kernel_rfl
theorem ent282 : enters Pg 282 = true := by kernel_rfl
theorem ent283 : enters Pg 283 = true := by kernel_rfl
theorem ent284 : enters Pg 284 = true := by kernel_rfl
theorem ent285 : enters Pg 285 = true := by kernel_rfl
theorem ent286 : enters Pg 286 = true := by kernel_rfl
theorem ent292 : enters Pg 292 = true := by kernel_rfl
theorem ent293 : enters Pg 293 = true := by kernel_rfl
theorem ent294 : enters Pg 294 = true := by kernel_rfl
theorem ent295 : enters Pg 295 = true := by kernel_rfl
theorem ent296 : enters Pg 296 = true := by kernel_rfl
theorem ent317 : enters Pg 317 = true := by kernel_rfl
instance : AgT Pg 3 false := ⟨ag3⟩
instance : AgT Pg 5 false := ⟨ag5⟩
instance : AgT Pg 9 false := ⟨ag9⟩
instance : AgT Pg 22 false := ⟨ag22⟩
instance : AgT Pg 29 false := ⟨ag29⟩
instance : AgT Pg 38 true := ⟨ag38⟩
instance : AgT Pg 39 true := ⟨ag39⟩
instance : AgT Pg 41 true := ⟨ag41⟩
instance : AgT Pg 43 true := ⟨ag43⟩
instance : AgT Pg 45 true := ⟨ag45⟩
instance : AgT Pg 46 false := ⟨ag46⟩
instance : AgT Pg 48 true := ⟨ag48⟩
instance : AgT Pg 51 true := ⟨ag51⟩
instance : AgT Pg 53 true := ⟨ag53⟩
instance : AgT Pg 55 true := ⟨ag55⟩
instance : AgT Pg 62 true := ⟨ag62⟩
instance : AgT Pg 64 true := ⟨ag64⟩
instance : AgT Pg 67 false := ⟨ag67⟩
instance : AgT Pg 88 false := ⟨ag88⟩
instance : AgT Pg 93 false := ⟨ag93⟩
instance : AgT Pg 139 false := ⟨ag139⟩
instance : AgT Pg 180 true := ⟨ag180⟩
instance : AgT Pg 186 true := ⟨ag186⟩
instance : AgT Pg 212 false := ⟨ag212⟩
instance : AgT Pg 227 false := ⟨ag227⟩
instance : AgT Pg 243 false := ⟨ag243⟩
instance : AgT Pg 278 false := ⟨ag278⟩
instance : AgT Pg 280 false := ⟨ag280⟩
instance : EnT Pg 6 := ⟨ent6⟩
instance : EnT Pg 7 := ⟨ent7⟩
instance : EnT Pg 8 := ⟨ent8⟩
instance : EnT Pg 9 := ⟨ent9⟩
instance : EnT Pg 11 := ⟨ent11⟩
instance : EnT Pg 12 := ⟨ent12⟩
instance : EnT Pg 14 := ⟨ent14⟩
instance : EnT Pg 15 := ⟨ent15⟩
instance : EnT Pg 16 := ⟨ent16⟩
instance : EnT Pg 17 := ⟨ent17⟩
instance : EnT Pg 18 := ⟨ent18⟩
instance : EnT Pg 27 := ⟨ent27⟩
instance : EnT Pg 28 := ⟨ent28⟩
instance : EnT Pg 29 := ⟨ent29⟩
instance : EnT Pg 30 := ⟨ent30⟩
instance : EnT Pg 31 := ⟨ent31⟩
instance : EnT Pg 32 := ⟨ent32⟩
instance : EnT Pg 33 := ⟨ent33⟩
instance : EnT Pg 34 := ⟨ent34⟩
instance : EnT Pg 38 := ⟨ent38⟩
instance : EnT Pg 39 := ⟨ent39⟩
instance : EnT Pg 40 := ⟨ent40⟩
instance : EnT Pg 42 := ⟨ent42⟩
instance : EnT Pg 43 := ⟨ent43⟩
instance : EnT Pg 44 := ⟨ent44⟩
instance : EnT Pg 45 := ⟨ent45⟩
instance : EnT Pg 46 := ⟨ent46⟩
instance : EnT Pg 47 := ⟨ent47⟩
instance : EnT Pg 48 := ⟨ent48⟩
instance : EnT Pg 49 := ⟨ent49⟩
instance : EnT Pg 50 := ⟨ent50⟩
instance : EnT Pg 51 := ⟨ent51⟩
instance : EnT Pg 52 := ⟨ent52⟩
instance : EnT Pg 53 := ⟨ent53⟩
instance : EnT Pg 54 := ⟨ent54⟩
instance : EnT Pg 55 := ⟨ent55⟩
instance : EnT Pg 56 := ⟨ent56⟩
instance : EnT Pg 57 := ⟨ent57⟩
instance : EnT Pg 61 := ⟨ent61⟩
instance : EnT Pg 71 := ⟨ent71⟩
instance : EnT Pg 72 := ⟨ent72⟩
instance : EnT Pg 73 := ⟨ent73⟩
instance : EnT Pg 74 := ⟨ent74⟩
instance : EnT Pg 75 := ⟨ent75⟩
instance : EnT Pg 76 := ⟨ent76⟩
instance : EnT Pg 77 := ⟨ent77⟩
instance : EnT Pg 78 := ⟨ent78⟩
instance : EnT Pg 79 := ⟨ent79⟩
instance : EnT Pg 80 := ⟨ent80⟩
instance : EnT Pg 81 := ⟨ent81⟩
instance : EnT Pg 82 := ⟨ent82⟩
instance : EnT Pg 83 := ⟨ent83⟩
instance : EnT Pg 84 := ⟨ent84⟩
instance : EnT Pg 85 := ⟨ent85⟩
instance : EnT Pg 86 := ⟨ent86⟩
instance : EnT Pg 93 := ⟨ent93⟩
instance : EnT Pg 99 := ⟨ent99⟩
instance : EnT Pg 101 := ⟨ent101⟩
instance : EnT Pg 112 := ⟨ent112⟩
instance : EnT Pg 122 := ⟨ent122⟩
instance : EnT Pg 123 := ⟨ent123⟩
instance : EnT Pg 125 := ⟨ent125⟩
instance : EnT Pg 126 := ⟨ent126⟩
instance : EnT Pg 127 := ⟨ent127⟩
instance : EnT Pg 133 := ⟨ent133⟩
instance : EnT Pg 134 := ⟨ent134⟩
instance : EnT Pg 135 := ⟨ent135⟩
instance : EnT Pg 136 := ⟨ent136⟩
instance : EnT Pg 137 := ⟨ent137⟩
instance : EnT Pg 138 := ⟨ent138⟩
instance : EnT Pg 139 := ⟨ent139⟩
instance : EnT Pg 140 := ⟨ent140⟩
instance : EnT Pg 141 := ⟨ent141⟩
instance : EnT Pg 142 := ⟨ent142⟩
instance : EnT Pg 143 := ⟨ent143⟩
instance : EnT Pg 144 := ⟨ent144⟩
instance : EnT Pg 145 := ⟨ent145⟩
instance : EnT Pg 146 := ⟨ent146⟩
instance : EnT Pg 147 := ⟨ent147⟩
instance : EnT Pg 148 := ⟨ent148⟩
instance : EnT Pg 149 := ⟨ent149⟩
instance : EnT Pg 150 := ⟨ent150⟩
instance : EnT Pg 151 := ⟨ent151⟩
instance : EnT Pg 152 := ⟨ent152⟩
instance : EnT Pg 153 := ⟨ent153⟩
instance : EnT Pg 159 := ⟨ent159⟩
instance : EnT Pg 160 := ⟨ent160⟩
instance : EnT Pg 161 := ⟨ent161⟩
instance : EnT Pg 167 := ⟨ent167⟩
instance : EnT Pg 180 := ⟨ent180⟩
instance : EnT Pg 181 := ⟨ent181⟩
instance : EnT Pg 185 := ⟨ent185⟩
instance : EnT Pg 187 := ⟨ent187⟩
instance : EnT Pg 188 := ⟨ent188⟩
instance : EnT Pg 189 := ⟨ent189⟩
instance : EnT Pg 190 := ⟨ent190⟩
instance : EnT Pg 195 := ⟨ent195⟩
instance : EnT Pg 196 := ⟨ent196⟩
instance : EnT Pg 197 := ⟨ent197⟩
instance : EnT Pg 198 := ⟨ent198⟩
instance : EnT Pg 199 := ⟨ent199⟩
instance : EnT Pg 200 := ⟨ent200⟩
instance : EnT Pg 201 := ⟨ent201⟩
instance : EnT Pg 202 := ⟨ent202⟩
instance : EnT Pg 203 := ⟨ent203⟩
instance : EnT Pg 204 := ⟨ent204⟩
instance : EnT Pg 205 := ⟨ent205⟩
instance : EnT Pg 206 := ⟨ent206⟩
instance : EnT Pg 207 := ⟨ent207⟩
instance : EnT Pg 208 := ⟨ent208⟩
instance : EnT Pg 209 := ⟨ent209⟩
instance : EnT Pg 210 := ⟨ent210⟩
instance : EnT Pg 211 := ⟨ent211⟩
instance : EnT Pg 212 := ⟨ent212⟩
instance : EnT Pg 213 := ⟨ent213⟩
instance : EnT Pg 214 := ⟨ent214⟩
instance : EnT Pg 215 := ⟨ent215⟩
instance : EnT Pg 216 := ⟨ent216⟩
instance : EnT Pg 217 := ⟨ent217⟩
instance : EnT Pg 222 := ⟨ent222⟩
instance : EnT Pg 223 := ⟨ent223⟩
instance : EnT Pg 224 := ⟨ent224⟩
instance : EnT Pg 225 := ⟨ent225⟩
instance : EnT Pg 228 := ⟨ent228⟩
instance : EnT Pg 230 := ⟨ent230⟩
instance : EnT Pg 231 := ⟨ent231⟩
instance : EnT Pg 236 := ⟨ent236⟩
instance : EnT Pg 238 := ⟨ent238⟩
instance : EnT Pg 240 := ⟨ent240⟩
instance : EnT Pg 251 := ⟨ent251⟩
instance : EnT Pg 252 := ⟨ent252⟩
instance : EnT Pg 253 := ⟨ent253⟩
instance : EnT Pg 254 := ⟨ent254⟩
instance : EnT Pg 255 := ⟨ent255⟩
instance : EnT Pg 258 := ⟨ent258⟩
instance : EnT Pg 259 := ⟨ent259⟩
instance : EnT Pg 260 := ⟨ent260⟩
instance : EnT Pg 261 := ⟨ent261⟩
instance : EnT Pg 262 := ⟨ent262⟩
instance : EnT Pg 263 := ⟨ent263⟩
instance : EnT Pg 264 := ⟨ent264⟩
instance : EnT Pg 265 := ⟨ent265⟩
instance : EnT Pg 266 := ⟨ent266⟩
instance : EnT Pg 267 := ⟨ent267⟩
instance : EnT Pg 268 := ⟨ent268⟩
instance : EnT Pg 269 := ⟨ent269⟩
instance : EnT Pg 271 := ⟨ent271⟩
instance : EnT Pg 272 := ⟨ent272⟩
instance : EnT Pg 277 := ⟨ent277⟩
instance : EnT Pg 278 := ⟨ent278⟩
instance : EnT Pg 279 := ⟨ent279⟩
instance : EnT Pg 280 := ⟨ent280⟩
instance : EnT Pg 281 := ⟨ent281⟩
instance : EnT Pg 282 := ⟨ent282⟩
instance : EnT Pg 283 := ⟨ent283⟩
instance : EnT Pg 284 := ⟨ent284⟩
instance : EnT Pg 285 := ⟨ent285⟩
instance : EnT Pg 286 := ⟨ent286⟩
instance : EnT Pg 292 := ⟨ent292⟩
instance : EnT Pg 293 := ⟨ent293⟩
instance : EnT Pg 294 := ⟨ent294⟩
instance : EnT Pg 295 := ⟨ent295⟩
instance : EnT Pg 296 := ⟨ent296⟩
instance : EnT Pg 317 := ⟨ent317⟩
instance : LayT Pg 41 [(0, 16, true), (16, 16, true), (32, 256, true)] := ⟨lay41⟩
instance : LayT Pg 43 [(0, 1, false), (1, 1, false), (2, 1, false), (3, 288, true), (291, 288, true)] := ⟨lay43⟩
instance : LayT Pg 45 [(0, 1, false), (1, 1, false), (2, 1, false), (3, 1, false)] := ⟨lay45⟩
instance : LayT Pg 48 [(0, 1, false), (1, 1, false), (2, 1, false), (3, 579, true), (582, 4, true), (586, 1, false)] := ⟨lay48⟩
instance : LayT Pg 51 [(0, 1, false), (1, 1, false), (2, 1, false), (3, 1, false), (4, 1, false)] := ⟨lay51⟩
instance : LayT Pg 53 [(0, 1, false), (1, 1, false), (2, 1, false), (3, 1, false), (4, 1, false), (5, 1, false), (6, 1, false), (7, 5, true)] := ⟨lay53⟩
instance : LayT Pg 55 [(0, 1, false), (1, 1, false), (2, 1, false), (3, 1, false), (4, 1, false), (5, 5, true), (10, 12, true)] := ⟨lay55⟩
instance : LayT Pg 62 [(0, 1, false), (1, 1, false), (2, 1, false), (3, 1, false), (4, 5, true), (9, 1, false), (10, 1, false), (11, 1, false), (12, 1, false), (13, 1, false)] := ⟨lay62⟩
instance : LayT Pg 64 [(0, 1, false), (1, 1, false), (2, 1, false), (3, 1, false), (4, 1, false), (5, 5, true), (10, 1, false), (11, 14, true)] := ⟨lay64⟩
instance : LayT Pg 180 [(0, 1, false), (1, 1, false)] := ⟨lay180⟩
instance : LayT Pg 186 [(0, 1, false), (1, 1, false), (2, 1, false), (3, 1, false), (4, 1, false)] := ⟨lay186⟩
instance : SzT Pg 3 1 := ⟨sz3⟩
instance : SzT Pg 5 1 := ⟨sz5⟩
instance : SzT Pg 9 1 := ⟨sz9⟩
instance : SzT Pg 22 1 := ⟨sz22⟩
instance : SzT Pg 29 1 := ⟨sz29⟩
instance : SzT Pg 38 16 := ⟨sz38⟩
instance : SzT Pg 39 256 := ⟨sz39⟩
instance : SzT Pg 41 288 := ⟨sz41⟩
instance : SzT Pg 43 579 := ⟨sz43⟩
instance : SzT Pg 45 4 := ⟨sz45⟩
instance : SzT Pg 46 1 := ⟨sz46⟩
instance : SzT Pg 48 587 := ⟨sz48⟩
instance : SzT Pg 51 5 := ⟨sz51⟩
instance : SzT Pg 53 12 := ⟨sz53⟩
instance : SzT Pg 55 22 := ⟨sz55⟩
instance : SzT Pg 62 14 := ⟨sz62⟩
instance : SzT Pg 64 25 := ⟨sz64⟩
instance : SzT Pg 67 1 := ⟨sz67⟩
instance : SzT Pg 88 1 := ⟨sz88⟩
instance : SzT Pg 93 1 := ⟨sz93⟩
instance : SzT Pg 139 1 := ⟨sz139⟩
instance : SzT Pg 180 2 := ⟨sz180⟩
instance : SzT Pg 186 5 := ⟨sz186⟩
instance : SzT Pg 212 1 := ⟨sz212⟩
instance : SzT Pg 227 1 := ⟨sz227⟩
instance : SzT Pg 243 1 := ⟨sz243⟩
instance : SzT Pg 278 1 := ⟨sz278⟩
instance : SzT Pg 280 1 := ⟨sz280⟩
instance : SzT Pg 323 2 := ⟨sz323⟩
def tb : List (Nat × TI) := [(3, ⟨1, false, [], none, some (.int .i64 0), some .i64, 0⟩), (5, ⟨1, false, [], none, some (.int .u8 0), some .u8, 0⟩), (9, ⟨1, false, [], none, some (.str (default : ByteArray)), none, 2⟩), (22, ⟨1, false, [], some (48, 587, true, 4720), some .nils, none, 0⟩), (25, ⟨1, false, [], none, some (.nilp), none, 3⟩), (26, ⟨1, false, [], none, some (.int .i64 0), some .i64, 0⟩), (29, ⟨1, false, [], none, some (.nilp), none, 3⟩), (38, ⟨16, true, [], none, some (E_A16_i64 (default : Vector Int 16)), none, 0⟩), (39, ⟨256, true, [], none, some (E_A16_A16_i64 (default : Vector (Vector Int 16) 16)), none, 0⟩), (41, ⟨288, true, [(0, 16, true), (16, 16, true), (32, 256, true)], none, some (.st [E_A16_i64 (default : Vector Int 16), E_A16_i64 (default : Vector Int 16), E_A16_A16_i64 (default : Vector (Vector Int 16) 16)]), none, 0⟩), (43, ⟨579, true, [(0, 1, false), (1, 1, false), (2, 1, false), (3, 288, true), (291, 288, true)], none, some (.st [.int .i64 0, .int .i64 0, .int .i64 0, E_TRights (default : TRights), E_TRights (default : TRights)]), none, 0⟩), (45, ⟨4, true, [(0, 1, false), (1, 1, false), (2, 1, false), (3, 1, false)], none, some (.st [.int .i64 0, .int .i64 0, .int .i64 0, .int .i64 0]), none, 0⟩), (46, ⟨1, false, [], some (186, 5, true, 40), some .nils, none, 0⟩), (48, ⟨587, true, [(0, 1, false), (1, 1, false), (2, 1, false), (3, 579, true), (582, 4, true), (586, 1, false)], none, some (.st [.str (default : ByteArray), .int .i64 0, .int .i64 0, E_TCounter (default : TCounter), E_TLock (default : TLock), .sl 5 .no []]), none, 0⟩), (51, ⟨5, true, [(0, 1, false), (1, 1, false), (2, 1, false), (3, 1, false), (4, 1, false)], none, some (.st [.int .i64 0, .str (default : ByteArray), .str (default : ByteArray), .int .i64 0, .int .i64 0]), none, 0⟩), (53, ⟨12, true, [(0, 1, false), (1, 1, false), (2, 1, false), (3, 1, false), (4, 1, false), (5, 1, false), (6, 1, false), (7, 5, true)], none, some (.st [.int .i64 0, .int .i64 0, .int .i64 0, .int .i64 0, .int .i64 0, .bool false, .sl 587 .no [], E_TPlan (default : TPlan)]), none, 0⟩), (55, ⟨22, true, [(0, 1, false), (1, 1, false), (2, 1, false), (3, 1, false), (4, 1, false), (5, 5, true), (10, 12, true)], none, some (.st [.int .i64 0, .int .i64 0, .int .i64 0, .int .i64 0, .str (default : ByteArray), E_TPlan (default : TPlan), .st [.int .i64 0, .int .i64 0, .int .i64 0, .int .i64 0, .int .i64 0, .bool false, .sl 587 .no [], E_TPlan (default : TPlan)]]), none, 0⟩), (56, ⟨1, false, [], some (55, 22, true, 232), some .nils, none, 0⟩), (58, ⟨1, false, [], some (53, 12, true, 128), some .nils, none, 0⟩), (62, ⟨14, true, [(0, 1, false), (1, 1, false), (2, 1, false), (3, 1, false), (4, 5, true), (9, 1, false), (10, 1, false), (11, 1, false), (12, 1, false), (13, 1, false)], none, some (.st [.int .i64 0, .int .i64 0, .int .i64 0, .int .i64 0, E_TPlan (default : TPlan), .int .i64 0, .int .i64 0, .int .i64 0, .sl 587 .no [], .sl 587 .no []]), none, 0⟩), (64, ⟨25, true, [(0, 1, false), (1, 1, false), (2, 1, false), (3, 1, false), (4, 1, false), (5, 5, true), (10, 1, false), (11, 14, true)], none, some (.st [.int .i64 0, .int .i64 0, .int .i64 0, .int .i64 0, .int .i64 0, E_TPlan (default : TPlan), .sl 587 .no [], .st [.int .i64 0, .int .i64 0, .int .i64 0, .int .i64 0, E_TPlan (default : TPlan), .int .i64 0, .int .i64 0, .int .i64 0, .sl 587 .no [], .sl 587 .no []]]), none, 0⟩), (67, ⟨1, false, [], some (3, 1, false, 8), some .nils, none, 0⟩), (88, ⟨1, false, [], none, some (.nilp), none, 3⟩), (92, ⟨27, true, [(0, 25, true), (25, 1, false), (26, 1, false)], none, some (.st [.st [.int .i64 0, .int .i64 0, .int .i64 0, .int .i64 0, .int .i64 0, E_TPlan (default : TPlan), .sl 587 .no [], .st [.int .i64 0, .int .i64 0, .int .i64 0, .int .i64 0, E_TPlan (default : TPlan), .int .i64 0, .int .i64 0, .int .i64 0, .sl 587 .no [], .sl 587 .no []]], .nilp, .int .i64 0]), none, 0⟩), (93, ⟨1, false, [], some (5, 1, false, 1), some .nils, none, 0⟩), (100, ⟨3, true, [(0, 1, false), (1, 1, false), (2, 1, false)], none, some (.st [.int .i64 0, .sl 1 .no [], .int .i64 0]), none, 0⟩), (101, ⟨1, false, [], none, some (.nilfn), none, 0⟩), (139, ⟨1, false, [], some (93, 1, false, 24), some .nils, none, 0⟩), (145, ⟨2, true, [(0, 1, false), (1, 1, false)], none, some (.st [.nilp, .sl 1 .no []]), none, 0⟩), (180, ⟨2, true, [(0, 1, false), (1, 1, false)], none, some (.st [.int .i64 0, .sl 5 .no []]), none, 0⟩), (186, ⟨5, true, [(0, 1, false), (1, 1, false), (2, 1, false), (3, 1, false), (4, 1, false)], none, some (.st [.int .i64 0, .int .i64 0, .int .i64 0, .int .i64 0, .int .i64 0]), none, 0⟩), (212, ⟨1, false, [], none, some (.int .u32 0), some .u32, 0⟩), (227, ⟨1, false, [], none, some (.nilfn), none, 0⟩), (243, ⟨1, false, [], none, some (.nilfn), none, 0⟩), (260, ⟨1, false, [], some (9, 1, false, 16), some .nils, none, 0⟩), (266, ⟨1, true, [(0, 1, false)], none, some (.st [.sl 1 .no []]), none, 0⟩), (272, ⟨16, true, [], none, some (E_A16_u32 (default : Vector Int 16)), none, 0⟩), (278, ⟨1, false, [], some (280, 1, false, 8), some .nils, none, 0⟩), (280, ⟨1, false, [], none, some (.nilp), none, 3⟩), (293, ⟨1, false, [], none, some (.nilmap), none, 0⟩), (296, ⟨1, false, [], none, some (.nilmap), none, 0⟩), (317, ⟨1, false, [], some (278, 1, false, 24), some .nils, none, 0⟩), (323, ⟨2, true, [], none, some (E_A2_i64 (default : Vector Int 2)), none, 0⟩), (324, ⟨4, true, [], none, some (E_A2_A2_i64 (default : Vector (Vector Int 2) 2)), none, 0⟩)]
theorem tbOk : TabOk Pg tb := (.c (.of (by kernel_rfl) ⟨(fun _ h => by cases h; exact ⟨_, zv3, (.refl _)⟩), (fun _ h => by cases h), (fun _ h => by cases h)⟩) (.c (.of (by kernel_rfl) ⟨(fun _ h => by cases h; exact ⟨_, zv5, (.refl _)⟩), (fun _ h => by cases h), (fun _ h => by cases h)⟩) (.c (.of (by kernel_rfl) ⟨(fun _ h => by cases h; exact ⟨_, zv9, (.eq (by kernel_rfl))⟩), (fun _ h => by cases h), (fun _ h => by cases h)⟩) (.c (.of (by kernel_rfl) ⟨(fun _ h => by cases h; exact ⟨_, zv22, .refl _⟩), (fun _ h => by cases h), (fun _ h => by cases h; exact ⟨_, zv48, by kernel_rfl⟩)⟩) (.c (.of (by kernel_rfl) ⟨(fun _ h => by cases h; exact ⟨_, zv25, (.refl _)⟩), (fun _ h => by cases h), (fun _ h => by cases h)⟩) (.c (.of (by kernel_rfl) ⟨(fun _ h => by cases h; exact ⟨_, zv26, (.refl _)⟩), (fun _ h => by cases h), (fun _ h => by cases h)⟩) (.c (.of (by kernel_rfl) ⟨(fun _ h => by cases h; exact ⟨_, zv29, (.refl _)⟩), (fun _ h => by cases h), (fun _ h => by cases h)⟩) (.c (.of (by kernel_rfl) ⟨(fun _ h => by cases h; exact ⟨_, zv38, (.eq (by kernel_rfl))⟩), (fun _ h => by cases h), (fun _ h => by cases h)⟩) (.c (.of (by kernel_rfl) ⟨(fun _ h => by cases h; exact ⟨_, zv39, (.eq (by kernel_rfl))⟩), (fun _ h => by cases h), (fun _ h => by cases h)⟩) (.c (.of (by kernel_rfl) ⟨(fun _ h => by cases h; exact ⟨_, zv41, .st (.cons (.eq (by kernel_rfl)) (.cons (.eq (by kernel_rfl)) (.cons (.eq (by kernel_rfl)) .nil)))⟩), (fun _ h => by cases h; exact ⟨_, zv41, (.cons (.eq (by kernel_rfl)) (.cons (.eq (by kernel_rfl)) (.cons (.eq (by kernel_rfl)) .nil))), by kernel_rfl, rfl⟩), (fun _ h => by cases h)⟩) (.c (.of (by kernel_rfl) ⟨(fun _ h => by cases h; exact ⟨_, zv43, .st (.cons (.refl _) (.cons (.refl _) (.cons (.refl _) (.cons (.eq (by kernel_rfl)) (.cons (.eq (by kernel_rfl)) .nil)))))⟩), (fun _ h => by cases h; exact ⟨_, zv43, (.cons (.refl _) (.cons (.refl _) (.cons (.refl _) (.cons (.eq (by kernel_rfl)) (.cons (.eq (by kernel_rfl)) .nil))))), by kernel_rfl, rfl⟩), (fun _ h => by cases h)⟩) (.c (.of (by kernel_rfl) ⟨(fun _ h => by cases h; exact ⟨_, zv45, .st (.cons (.refl _) (.cons (.refl _) (.cons (.refl _) (.cons (.refl _) .nil))))⟩), (fun _ h => by cases h; exact ⟨_, zv45, (.cons (.refl _) (.cons (.refl _) (.cons (.refl _) (.cons (.refl _) .nil)))), by kernel_rfl, rfl⟩), (fun _ h => by cases h)⟩) (.c (.of (by kernel_rfl) ⟨(fun _ h => by cases h; exact ⟨_, zv46, .refl _⟩), (fun _ h => by cases h), (fun _ h => by cases h; exact ⟨_, zv186, by kernel_rfl⟩)⟩) (.c (.of (by kernel_rfl) ⟨(fun _ h => by cases h; exact ⟨_, zv48, .st (.cons (.eq (by kernel_rfl)) (.cons (.refl _) (.cons (.refl _) (.cons (.eq (by kernel_rfl)) (.cons (.eq (by kernel_rfl)) (.cons (.nils_no _) .nil))))))⟩), (fun _ h => by cases h; exact ⟨_, zv48, (.cons (.eq (by kernel_rfl)) (.cons (.refl _) (.cons (.refl _) (.cons (.eq (by kernel_rfl)) (.cons (.eq (by kernel_rfl)) (.cons (.nils_no _) .nil)))))), by kernel_rfl, rfl⟩), (fun _ h => by cases h)⟩) (.c (.of (by kernel_rfl) ⟨(fun _ h => by cases h; exact ⟨_, zv51, .st (.cons (.refl _) (.cons (.eq (by kernel_rfl)) (.cons (.eq (by kernel_rfl)) (.cons (.refl _) (.cons (.refl _) .nil)))))⟩), (fun _ h => by cases h; exact ⟨_, zv51, (.cons (.refl _) (.cons (.eq (by kernel_rfl)) (.cons (.eq (by kernel_rfl)) (.cons (.refl _) (.cons (.refl _) .nil))))), by kernel_rfl, rfl⟩), (fun _ h => by cases h)⟩) (.c (.of (by kernel_rfl) ⟨(fun _ h => by cases h; exact ⟨_, zv53, .st (.cons (.refl _) (.cons (.refl _) (.cons (.refl _) (.cons (.refl _) (.cons (.refl _) (.cons (.refl _) (.cons (.nils_no _) (.cons (.eq (by kernel_rfl)) .nil))))))))⟩), (fun _ h => by cases h; exact ⟨_, zv53, (.cons (.refl _) (.cons (.refl _) (.cons (.refl _) (.cons (.refl _) (.cons (.refl _) (.cons (.refl _) (.cons (.nils_no _) (.cons (.eq (by kernel_rfl)) .nil)))))))), by kernel_rfl, rfl⟩), (fun _ h => by cases h)⟩) (.c (.of (by kernel_rfl) ⟨(fun _ h => by cases h; exact ⟨_, zv55, .st (.cons (.refl _) (.cons (.refl _) (.cons (.refl _) (.cons (.refl _) (.cons (.eq (by kernel_rfl)) (.cons (.eq (by kernel_rfl)) (.cons (.st (.cons (.refl _) (.cons (.refl _) (.cons (.refl _) (.cons (.refl _) (.cons (.refl _) (.cons (.refl _) (.cons (.nils_no _) (.cons (.eq (by kernel_rfl)) .nil))))))))) .nil)))))))⟩), (fun _ h => by cases h; exact ⟨_, zv55, (.cons (.refl _) (.cons (.refl _) (.cons (.refl _) (.cons (.refl _) (.cons (.eq (by kernel_rfl)) (.cons (.eq (by kernel_rfl)) (.cons (.st (.cons (.refl _) (.cons (.refl _) (.cons (.refl _) (.cons (.refl _) (.cons (.refl _) (.cons (.refl _) (.cons (.nils_no _) (.cons (.eq (by kernel_rfl)) .nil))))))))) .nil))))))), by kernel_rfl, rfl⟩), (fun _ h => by cases h)⟩) (.c (.of (by kernel_rfl) ⟨(fun _ h => by cases h; exact ⟨_, zv56, .refl _⟩), (fun _ h => by cases h), (fun _ h => by cases h; exact ⟨_, zv55, by kernel_rfl⟩)⟩) (.c (.of (by kernel_rfl) ⟨(fun _ h => by cases h; exact ⟨_, zv58, .refl _⟩), (fun _ h => by cases h), (fun _ h => by cases h; exact ⟨_, zv53, by kernel_rfl⟩)⟩) (.c (.of (by kernel_rfl) ⟨(fun _ h => by cases h; exact ⟨_, zv62, .st (.cons (.refl _) (.cons (.refl _) (.cons (.refl _) (.cons (.refl _) (.cons (.eq (by kernel_rfl)) (.cons (.refl _) (.cons (.refl _) (.cons (.refl _) (.cons (.nils_no _) (.cons (.nils_no _) .nil))))))))))⟩), (fun _ h => by cases h; exact ⟨_, zv62, (.cons (.refl _) (.cons (.refl _) (.cons (.refl _) (.cons (.refl _) (.cons (.eq (by kernel_rfl)) (.cons (.refl _) (.cons (.refl _) (.cons (.refl _) (.cons (.nils_no _) (.cons (.nils_no _) .nil)))))))))), by kernel_rfl, rfl⟩), (fun _ h => by cases h)⟩) (.c (.of (by kernel_rfl) ⟨(fun _ h => by cases h; exact ⟨_, zv64, .st (.cons (.refl _) (.cons (.refl _) (.cons (.refl _) (.cons (.refl _) (.cons (.refl _) (.cons (.eq (by kernel_rfl)) (.cons (.nils_no _) (.cons (.st (.cons (.refl _) (.cons (.refl _) (.cons (.refl _) (.cons (.refl _) (.cons (.eq (by kernel_rfl)) (.cons (.refl _) (.cons (.refl _) (.cons (.refl _) (.cons (.nils_no _) (.cons (.nils_no _) .nil))))))))))) .nil))))))))⟩), (fun _ h => by cases h; exact ⟨_, zv64, (.cons (.refl _) (.cons (.refl _) (.cons (.refl _) (.cons (.refl _) (.cons (.refl _) (.cons (.eq (by kernel_rfl)) (.cons (.nils_no _) (.cons (.st (.cons (.refl _) (.cons (.refl _) (.cons (.refl _) (.cons (.refl _) (.cons (.eq (by kernel_rfl)) (.cons (.refl _) (.cons (.refl _) (.cons (.refl _) (.cons (.nils_no _) (.cons (.nils_no _) .nil))))))))))) .nil)))))))), by kernel_rfl, rfl⟩), (fun _ h => by cases h)⟩) (.c (.of (by kernel_rfl) ⟨(fun _ h => by cases h; exact ⟨_, zv67, .refl _⟩), (fun _ h => by cases h), (fun _ h => by cases h; exact ⟨_, zv3, by kernel_rfl⟩)⟩) (.c (.of (by kernel_rfl) ⟨(fun _ h => by cases h; exact ⟨_, zv88, (.refl _)⟩), (fun _ h => by cases h), (fun _ h => by cases h)⟩) (.c (.of (by kernel_rfl) ⟨(fun _ h => by cases h; exact ⟨_, zv92, .st (.cons (.st (.cons (.refl _) (.cons (.refl _) (.cons (.refl _) (.cons (.refl _) (.cons (.refl _) (.cons (.eq (by kernel_rfl)) (.cons (.nils_no _) (.cons (.st (.cons (.refl _) (.cons (.refl _) (.cons (.refl _) (.cons (.refl _) (.cons (.eq (by kernel_rfl)) (.cons (.refl _) (.cons (.refl _) (.cons (.refl _) (.cons (.nils_no _) (.cons (.nils_no _) .nil))))))))))) .nil))))))))) (.cons (.refl _) (.cons (.refl _) .nil)))⟩), (fun _ h => by cases h; exact ⟨_, zv92, (.cons (.st (.cons (.refl _) (.cons (.refl _) (.cons (.refl _) (.cons (.refl _) (.cons (.refl _) (.cons (.eq (by kernel_rfl)) (.cons (.nils_no _) (.cons (.st (.cons (.refl _) (.cons (.refl _) (.cons (.refl _) (.cons (.refl _) (.cons (.eq (by kernel_rfl)) (.cons (.refl _) (.cons (.refl _) (.cons (.refl _) (.cons (.nils_no _) (.cons (.nils_no _) .nil))))))))))) .nil))))))))) (.cons (.refl _) (.cons (.refl _) .nil))), by kernel_rfl, rfl⟩), (fun _ h => by cases h)⟩) (.c (.of (by kernel_rfl) ⟨(fun _ h => by cases h; exact ⟨_, zv93, .refl _⟩), (fun _ h => by cases h), (fun _ h => by cases h; exact ⟨_, zv5, by kernel_rfl⟩)⟩) (.c (.of (by kernel_rfl) ⟨(fun _ h => by cases h; exact ⟨_, zv100, .st (.cons (.refl _) (.cons (.nils_no _) (.cons (.refl _) .nil)))⟩), (fun _ h => by cases h; exact ⟨_, zv100, (.cons (.refl _) (.cons (.nils_no _) (.cons (.refl _) .nil))), by kernel_rfl, rfl⟩), (fun _ h => by cases h)⟩) (.c (.of (by kernel_rfl) ⟨(fun _ h => by cases h; exact ⟨_, zv101, (.refl _)⟩), (fun _ h => by cases h), (fun _ h => by cases h)⟩) (.c (.of (by kernel_rfl) ⟨(fun _ h => by cases h; exact ⟨_, zv139, .refl _⟩), (fun _ h => by cases h), (fun _ h => by cases h; exact ⟨_, zv93, by kernel_rfl⟩)⟩) (.c (.of (by kernel_rfl) ⟨(fun _ h => by cases h; exact ⟨_, zv145, .st (.cons (.refl _) (.cons (.nils_no _) .nil))⟩), (fun _ h => by cases h; exact ⟨_, zv145, (.cons (.refl _) (.cons (.nils_no _) .nil)), by kernel_rfl, rfl⟩), (fun _ h => by cases h)⟩) (.c (.of (by kernel_rfl) ⟨(fun _ h => by cases h; exact ⟨_, zv180, .st (.cons (.refl _) (.cons (.nils_no _) .nil))⟩), (fun _ h => by cases h; exact ⟨_, zv180, (.cons (.refl _) (.cons (.nils_no _) .nil)), by kernel_rfl, rfl⟩), (fun _ h => by cases h)⟩) (.c (.of (by kernel_rfl) ⟨(fun _ h => by cases h; exact ⟨_, zv186, .st (.cons (.refl _) (.cons (.refl _) (.cons (.refl _) (.cons (.refl _) (.cons (.refl _) .nil)))))⟩), (fun _ h => by cases h; exact ⟨_, zv186, (.cons (.refl _) (.cons (.refl _) (.cons (.refl _) (.cons (.refl _) (.cons (.refl _) .nil))))), by kernel_rfl, rfl⟩), (fun _ h => by cases h)⟩) (.c (.of (by kernel_rfl) ⟨(fun _ h => by cases h; exact ⟨_, zv212, (.refl _)⟩), (fun _ h => by cases h), (fun _ h => by cases h)⟩) (.c (.of (by kernel_rfl) ⟨(fun _ h => by cases h; exact ⟨_, zv227, (.refl _)⟩), (fun _ h => by cases h), (fun _ h => by cases h)⟩) (.c (.of (by kernel_rfl) ⟨(fun _ h => by cases h; exact ⟨_, zv243, (.refl _)⟩), (fun _ h => by cases h), (fun _ h => by cases h)⟩) (.c (.of (by kernel_rfl) ⟨(fun _ h => by cases h; exact ⟨_, zv260, .refl _⟩), (fun _ h => by cases h), (fun _ h => by cases h; exact ⟨_, zv9, by kernel_rfl⟩)⟩) (.c (.of (by kernel_rfl) ⟨(fun _ h => by cases h; exact ⟨_, zv266, .st (.cons (.nils_no _) .nil)⟩), (fun _ h => by cases h; exact ⟨_, zv266, (.cons (.nils_no _) .nil), by kernel_rfl, rfl⟩), (fun _ h => by cases h)⟩) (.c (.of (by kernel_rfl) ⟨(fun _ h => by cases h; exact ⟨_, zv272, (.eq (by kernel_rfl))⟩), (fun _ h => by cases h), (fun _ h => by cases h)⟩) (.c (.of (by kernel_rfl) ⟨(fun _ h => by cases h; exact ⟨_, zv278, .refl _⟩), (fun _ h => by cases h), (fun _ h => by cases h; exact ⟨_, zv280, by kernel_rfl⟩)⟩) (.c (.of (by kernel_rfl) ⟨(fun _ h => by cases h; exact ⟨_, zv280, (.refl _)⟩), (fun _ h => by cases h), (fun _ h => by cases h)⟩) (.c (.of (by kernel_rfl) ⟨(fun _ h => by cases h; exact ⟨_, zv293, (.refl _)⟩), (fun _ h => by cases h), (fun _ h => by cases h)⟩) (.c (.of (by kernel_rfl) ⟨(fun _ h => by cases h; exact ⟨_, zv296, (.refl _)⟩), (fun _ h => by cases h), (fun _ h => by cases h)⟩) (.c (.of (by kernel_rfl) ⟨(fun _ h => by cases h; exact ⟨_, zv317, .refl _⟩), (fun _ h => by cases h), (fun _ h => by cases h; exact ⟨_, zv278, by kernel_rfl⟩)⟩) (.c (.of (by kernel_rfl) ⟨(fun _ h => by cases h; exact ⟨_, zv323, (.eq (by kernel_rfl))⟩), (fun _ h => by cases h), (fun _ h => by cases h)⟩) (.c (.of (by kernel_rfl) ⟨(fun _ h => by cases h; exact ⟨_, zv324, (.eq (by kernel_rfl))⟩), (fun _ h => by cases h), (fun _ h => by cases h)⟩) .n))))))))))))))))))))))))))))))))))))))))))))
instance {a : List (Nat × Nat)} {b : List (Nat × List Nat)} {c : Bool} : TabT Pg ⟨tb, a, b, c⟩ := ⟨tbOk⟩
abbrev c0 : Cf := ⟨tb, [], [], false⟩
instance : MixT Pg := ⟨mixed⟩
instance : FlV (.st [.int .i64 0, .int .i64 0, .int .i64 0, .int .i64 0, .int .i64 0, .bool false, .sl 587 .no [], E_TPlan (default : TPlan)]) 12 := ⟨by kernel_rfl⟩
instance : FlV (.st [.int .i64 0, .int .i64 0, .int .i64 0, .int .i64 0, .int .i64 0, .bool false, .nils, E_TPlan (default : TPlan)]) 12 := ⟨by kernel_rfl⟩
instance : FlV (.st [.int .i64 0, .int .i64 0, .int .i64 0, .int .i64 0, .str (default : ByteArray), E_TPlan (default : TPlan), .st [.int .i64 0, .int .i64 0, .int .i64 0, .int .i64 0, .int .i64 0, .bool false, .sl 587 .no [], E_TPlan (default : TPlan)]]) 22 := ⟨by kernel_rfl⟩
instance : FlV (.st [.int .i64 0, .int .i64 0, .int .i64 0, .int .i64 0, .str (default : ByteArray), E_TPlan (default : TPlan), .st [.int .i64 0, .int .i64 0, .int .i64 0, .int .i64 0, .int .i64 0, .bool false, .nils, E_TPlan (default : TPlan)]]) 22 := ⟨by kernel_rfl⟩
instance : FlV (.st [.int .i64 0, .int .i64 0, .int .i64 0, .int .i64 0, E_TPlan (default : TPlan), .int .i64 0, .int .i64 0, .int .i64 0, .sl 587 .no [], .sl 587 .no []]) 14 := ⟨by kernel_rfl⟩
instance : FlV (.st [.int .i64 0, .int .i64 0, .int .i64 0, .int .i64 0, E_TPlan (default : TPlan), .int .i64 0, .int .i64 0, .int .i64 0, .nils, .nils]) 14 := ⟨by kernel_rfl⟩
instance : FlV (.st [.int .i64 0, .int .i64 0, .int .i64 0, .int .i64 0, .int .i64 0, E_TPlan (default : TPlan), .sl 587 .no [], .st [.int .i64 0, .int .i64 0, .int .i64 0, .int .i64 0, E_TPlan (default : TPlan), .int .i64 0, .int .i64 0, .int .i64 0, .sl 587 .no [], .sl 587 .no []]]) 25 := ⟨by kernel_rfl⟩
instance : FlV (.st [.int .i64 0, .int .i64 0, .int .i64 0, .int .i64 0, .int .i64 0, E_TPlan (default : TPlan), .nils, .st [.int .i64 0, .int .i64 0, .int .i64 0, .int .i64 0, E_TPlan (default : TPlan), .int .i64 0, .int .i64 0, .int .i64 0, .nils, .nils]]) 25 := ⟨by kernel_rfl⟩
theorem cG {env : List (Nat × V)} : ev env (.global 0) = .cptr (E_A16_u32 nibV) := rfl
abbrev z48 : V := .st [V.str (default : ByteArray), (V.int .i64) 0, (V.int .i64) 0, E_TCounter (default : TCounter), E_TLock (default : TLock), .nils]
abbrev z62 : V := .st [(V.int .i64) 0, (V.int .i64) 0, (V.int .i64) 0, (V.int .i64) 0, E_TPlan (default : TPlan), (V.int .i64) 0, (V.int .i64) 0, (V.int .i64) 0, .nils, .nils]
abbrev z64 : V := .st [(V.int .i64) 0, (V.int .i64) 0, (V.int .i64) 0, (V.int .i64) 0, (V.int .i64) 0, E_TPlan (default : TPlan), .nils, z62]
theorem C_ul07_Few {a1 : List TField} : Cn Pg 57 (ul07_Few a1) [.sl 587 .no (List.map E_TField a1)] V.bool := by
  refine fs ⟨tb, [], [(3, [0])], false⟩ fn57 Z Z Z Z fun _ h => eo 0 Z (.lenT sli22 (lz Z) (vsub Z (.refl _))) (elR0 1 [6, 5, 2] [2] Z h (fun s3 => [(7, I s3)]) (fun x4 => []) (wk0 Z) (fun q2 _ s3 h h2 => ?_) fun x4 h => ?_)
  · refine eb Z h2 (fun h2 => ?_) fun h2 => ?_
    · refine h2.b fun j5 m5 h2 => eo 0 Z (.ixS sli22 (lz Z) (lz Z) m5) (eg 0 Z Z (fun hc hB => .lenT sli46 (lg hc Z) (vsub Z (.refl _))) (eb Z h2.z.z (fun h2 => ?_) fun h2 => ?_))
      · have h := Ok.inrq h h2.ret
        exact ef Z Z h rl Z Z
      · exact ex Z h2.ret (wkI [] Z Z ss al (by decide) Z)
    · exact ex Z h2.ret (wk0 Z)
  · exact ef Z Z h rl Z Z
theorem C_ul13_Few {a1 : List TField} {a2 : TPlan} : Cn Pg 18 (ul13_Few a1 a2) [.sl 587 .no (List.map E_TField a1), E_TPlan a2] V.bool := by
  exact fs ⟨tb, [], [(0, [0])], false⟩ fn18 Z Z Z Z fun _ h => eo 0 Z (.lenT sli22 (lz Z) (vsub Z (.refl _))) (ecG Z h Z C_ul07_Few ss fun r3 h => ef Z Z h.z.z rl Z Z)
theorem C_ul14_Few {a1 : TMessage} : Cn Pg 27 (ul14_Few a1) [E_TMessage a1] V.bool := by
  exact fs ⟨tb, [], [(0, [0])], false⟩ fn27 Z Z Z Z fun _ h => ec Z h C_ul13_Few ss fun r2 h => ef Z Z h rl Z Z
theorem C_ul18_few {a1 : List TField} {a2 : List Yl18D} : Cn Pg 6 (ul18_few a1 a2) [.sl 587 .no (List.map E_TField a1), .sl 22 .no (List.map E_Yl18D a2)] V.bool := by
  refine fs ⟨tb, [], [(3, [0])], false⟩ fn6 Z Z Z Z fun _ h => eo 0 Z (.lenT sli56 (lz Z) (vsub Z (.refl _))) (elR0 1 [8, 7, 4, 0, 1] [4, 0, 1] Z h (fun s4 => [(9, I s4)]) (fun x5 => []) (wk0 Z) (fun q3 _ s4 h h3 => ?_) fun x5 h => ?_)
  · refine eb Z h3 (fun h3 => ?_) fun h3 => ?_
    · refine h3.b fun j6 m6 h3 => eo 0 Z (.ixS sli56 (lz Z) (lz Z) m6) (ecG Z h3.z Z C_ul13_Few (.cons (vsub Z (.nils_no _)) ss) fun r8 h3 => ecG Z h3 Z C_ul14_Few ss fun r9 h3 => eb Z h3 (fun h3 => ?_) fun h3 => ?_)
      · have h := Ok.inrq h h3.ret
        exact ef Z Z h rl Z Z
      · exact ex Z h3.ret (wkI [] Z Z ss al (by decide) Z)
    · exact ex Z h3.ret (wk0 Z)
  · exact eo 0 Z (.lenT sli56 (lz Z) (vsub Z (.refl _))) (ecG Z h Z C_ul13_Few ss fun r10 h => ef Z Z h.z rl Z Z)
theorem C_num_Is {a1 : Int} : Cn Pg 140 (num_Is a1) [(V.int .i64) a1] V.bool := by
  exact fs c0 fn140 Z Z Z Z fun _ h => ef Z Z h.z rl Z Z
theorem C_num_checked {a1 : Int} {a2 : List Int} : Cn Pg 261 (num_checked a1 a2) [(V.int .i64) a1, .sl 1 .exact (List.map (V.int .i64) a2)] (fun r => .tup [(V.int .i64) r.1, (V.int .i64) r.2]) := by
  refine fs c0 fn261 Z Z Z Z fun _ h => h.b fun l3 m3 h => eo 0 Z (.appX sli67 noi67 zv3 Z (by decide) (lz Z) (V.sub.refl _) (lz Z) Rd.sl m3 Z) (eo 0 Z (.lenT sli67 (lz Z) (vsub Z (.forget _ _ _))) (elR 1 [11, 12, 5, 4, 0] [5, 4, 0] Z h (fun s5 => [(13, I s5)]) (fun s5 => [.tail]) (fun x6 => []) (fun x6 => []) (wkI [0] Z Z ss al (by decide) Z) (fun q4 _ s5 h h4 => ?_) fun x6 h => ?_))
  · refine eb Z h4 (fun h4 => ?_) fun h4 => ?_
    · refine h4.b fun j7 m7 h4 => eo 0 Z (.ixS sli67 (lz Z) (lz Z) m7) (ec Z h4 C_num_Is ss fun r8 h4 => eb Z h4 (fun h4 => ?_) fun h4 => ?_)
      · have h := Ok.inrq h h4.ret
        exact ef Z Z h rl Z Z
      · exact ex Z h4.ret (wkI [0] Z Z ss al (by decide) Z)
    · exact ex Z h4.ret (wkI [] Z Z ss al (by decide) Z)
  · exact ef Z Z h rl Z Z
theorem C_num_Sub {a1 : Int} {a2 : Int} : Cn Pg 195 (num_Sub a1 a2) [(V.int .i64) a1, (V.int .i64) a2] (fun r => .tup [(V.int .i64) r.1, (V.int .i64) r.2]) := by
  exact fs c0 fn195 Z Z Z Z fun _ h => ec Z h C_num_checked ss fun r3 h => ef Z Z h rl Z Z
theorem C_counter_New {a1 : Int} {a2 : Int} {a3 : Int} : Cn Pg 133 (counter_New a1 a2 a3) [(V.int .i64) a1, (V.int .i64) a2, (V.int .i64) a3] (fun r => .tup [E_TCounter r.1, (V.int .i64) r.2]) := by
  refine fs c0 fn133 Z Z Z Z fun _ h => ec Z h.z C_num_Sub ss fun r5 h => ec Z h C_num_Sub ss fun r6 h => ec Z h C_num_Sub ss fun r7 h => eb Z h.z (fun h => ?_) fun h => ?_
  · exact ef Z Z h.z rl Z Z
  · refine h.b fun k10 m10 h => eo 1 Z (.ixP arr38 (lz Z) cI m10) (h.n fun v11 ev11 h => est 1 Z (.sP (lz Z) (lz Z) Z (.refl _) Z (.f Z (.f Z (.vc k10 .nil))) (by first | rfl | omega) (.st Z (.st Z (.vc r5.1 k10 .nil) Z) Z) Z) (congrArg E_TCounter ev11.symm) (h.b fun k12 m12 h => eo 1 Z (.ixP arr38 (lz Z) cI m12) (h.n fun v13 ev13 h => ?_))); exact est 1 Z (.sP (lz Z) (lz Z) Z (.refl _) Z (.f Z (.f Z (.vc k12 .nil))) (by first | rfl | omega) (.st Z (.st Z (.vc r6.1 k12 .nil) Z) Z) Z) (congrArg E_TCounter ev13.symm) (ef Z Z h rl Z Z)
theorem C_field_Name {a1 : ByteArray} : Cn Pg 134 (field_Name a1) [V.str a1] V.bool := by
  refine fs c0 fn134 Z Z Z Z fun _ h => elR0 1 [5, 2, 0] [2, 0] Z h (fun s3 => [(6, I s3)]) (fun x4 => []) (wk0 Z) (fun q2 _ s3 h h2 => ?_) fun x4 h => ?_
  · refine eb Z h2 (fun h2 => ?_) fun h2 => ?_
    · refine h2.b fun n5 m5 h2 => eo 0 Z (.ixStr und9 (lz Z) (lz Z) m5) (h2.b fun n6 m6 h2 => eg 0 Z Z (fun hc hB => .ixStr und9 (lg hc Z) (lg hc Z) (gd_get m6 hB)) (eb Z h2 (fun h2 => ?_) fun h2 => ?_))
      · have h := Ok.inrq h h2.ret
        exact ef Z Z h rl Z Z
      · exact ex Z h2.ret (wk0 Z)
    · exact ex Z h2.ret (wk0 Z)
  · exact ef Z Z h.z rl Z Z
theorem C_clone_153 {a1 : List THold} {r : List THold} (h : app 40 [] a1 = some r) : PureC Pg 153 [E_S_THold a1] (E_S_THold r) := by
  refine .c 8 fn153 Z Z Z ?_
  have hr := (app_get h).2
  refine Wq o1 Z (Sa Z cNs (Nn (AWp.splitNil (t := 0) (lw 1 Z) (fun hn => ?_) ?_)))
  · obtain rfl : a1 = [] := List.map_eq_nil_iff.1 hn
    obtain rfl : r = [] := by simpa using hr
    refine .seq (Wq o2 Z (Sa Z l0 (Ss Z (.eqlNil sli46 l0 cNs) ?_))); refine Nn (AWp.condT l0 (Wq o1 Z (Sa Z cNs ?_))); exact Nn (AWp.ret (thenQ_r (e3 0 Z Z (.nils_no 5) Z)))
  · refine .seq (Wq o2 Z (Sa Z l0 (Ss Z (.eqlNn sli46 l0 cNs) ?_))); refine Nn (AWp.condF l0 (AWp.skip (thenQ_n ?_))); refine Wq o4 Z (Ss Z (.buildSliceW sli46 zv186 Z Z (by decide) .nil) (Sm 3 Z Z (S.new 7 Z Z (.appX (f := E_THold) (xs := []) sli46 noi46 zv186 Z (by decide) (lq 1 Z) (V.sub.refl _) l0 Rd.sl h Z) trivial ?_))); exact Sa Z l0 (Nn (AWp.ret (e3 0 Z Z (.forget _ _ _) Z)))
theorem C_field_done {a1 : TField} {a2 : Int} : Cn Pg 135 (field_done a1 a2) [E_TField a1, (V.int .i64) a2] (fun r => .tup [E_TField r.1, (V.int .i64) r.2]) := by
  refine fs c0 fn135 Z Z Z Z fun _ h => eb Z h (fun h => ?_) fun h => ?_
  · exact ef Z Z h.z rl Z Z
  · exact ec Z h ⟨fun _ h => C_clone_153 h⟩ ss fun r4 h => ef Z Z h.z rl Z Z
theorem C_field_Counter {a1 : ByteArray} {a2 : Int} {a3 : Int} {a4 : Int} : Cn Pg 71 (field_Counter a1 a2 a3 a4) [V.str a1, (V.int .i64) a2, (V.int .i64) a3, (V.int .i64) a4] (fun r => .tup [E_TField r.1, (V.int .i64) r.2]) := by
  refine fs ⟨tb, [], [(1, [1])], false⟩ fn71 Z Z Z Z fun _ h => ec Z h C_counter_New ss fun r5 h => ec Z h C_field_Name ss fun r6 h => eb Z h (fun h => ?_) fun h => ?_
  · exact ec Z h.z C_field_done ss fun r8 h => ef Z Z h rl Z Z
  · exact ec Z h.z C_field_done ss fun r10 h => ef Z Z h rl Z Z
theorem C_ul18_one  : Cn Pg 28 (ul18_one) [] E_S_TField := by
  exact fs ⟨tb, [], [(1, [0])], false⟩ fn28 Z Z Z Z fun _ h => ec Z h C_field_Counter ss fun r1 h => ef Z Z h (.cons (.forget _ _ _) rl) Z Z
theorem C_disk_New {a1 : Int} : Co2 Pg 9 (disk_New a1) [(V.int .i64) a1] [] (fun _ => .nilp) (fun _ => .ptr 0 [] 0) (fun _ => []) (fun r => [.cells (E_YdkD r)]) := by
  refine fo c0 fn9 Z Z Z Z Z fun _ h => eb Z h (fun h => ?_) fun h => ?_
  · exact efo [] Z Z h Z rl Z Z al (by decide) Z
  · exact efo [0] Z Z h.z Z rl Z Z al (by decide) Z
theorem C_wire_is {a1 : Int} : Cn Pg 77 (wire_is a1) [(V.int .i64) a1] V.bool := by
  exact fs c0 fn77 Z Z Z Z fun _ h => ef Z Z h.z rl Z Z
theorem C_wire_Meet {a1 : Int} {a2 : Int} : Cn Pg 31 (wire_Meet a1 a2) [(V.int .i64) a1, (V.int .i64) a2] (V.int .i64) := by
  refine fs c0 fn31 Z Z Z Z fun _ h => ec Z h C_wire_is ss fun r3 h => ecG Z h Z C_wire_is ss fun r4 h => eb Z h (fun h => ?_) fun h => ?_
  · exact ef Z Z h rl Z Z
  · exact ef Z Z h rl Z Z
theorem C_disk_own {a1 : List Int} : Cn Pg 150 (disk_own a1) [.sl 1 .no (List.map (V.int .u8) a1)] E_S_u8 := by
  refine fs c0 fn150 Z Z Z Z fun _ h => eo 0 Z (.lenT sli93 (lz Z) (vsub Z (.refl _))) (h.b fun u2 m2 h => eo 0 Z (.makeO (d := 0) sli93 zv5 (.refl _) Z (lz Z) (lz Z) m2 Z Z) (eo 0 Z (.copyW sli93 (lz Z) (lz Z) Rd.sl (by simp) (by simp) Z Z) (eo 0 Z (.lenT sli93 (lz Z) (vsub Z (.refl _))) ?_))); exact eo 0 Z (.lenT sli93 (lz Z) (vsub Z (.refl _))) (eo 0 Z (.sliceOwnX (l2 := a1.length) sli93 (lz Z) (lz Z) (lz Z) Z (by simp)) (ef Z Z h rl Z Z))
theorem C_disk_Disk_Bytes {b1 : YdkD} : Co Pg 78 (disk_Disk_Bytes b1) [.ptr 0 [] 0] [.cells (E_YdkD b1)] (fun r => E_S_u8 r.1) (fun r => [.cells (E_YdkD r.2)]) := by
  exact fo c0 fn78 Z Z Z Z Z fun _ h => ec Z h C_disk_own ss fun r2 h => efo [0] Z Z h Z rl Z Z al (by decide) Z
theorem C_frame_number {a1 : List Int} : Cn Pg 151 (frame_number a1) [.sl 1 .no (List.map (V.int .u8) a1)] (V.int .u32) := by
  refine fs c0 fn151 Z Z Z Z fun _ h => ed [] Z (h.b fun j2 m2 h => edo 0 Z (.ixS sli93 (lz Z) cI m2) (h.b fun j3 m3 h => edo 0 Z (.ixS sli93 (lz Z) cI m3) (edo 0 Z (.shl (lz Z) cI (by decide)) ?_))); refine h.b fun j4 m4 h => edo 0 Z (.ixS sli93 (lz Z) cI m4) (edo 0 Z (.shl (lz Z) cI (by decide)) (h.b fun j5 m5 h => edo 0 Z (.ixS sli93 (lz Z) cI m5) (edo 0 Z (.shl (lz Z) cI (by decide)) ?_))); exact ee Z (by kernel_rfl) (ef Z Z h.z rl Z Z)
theorem C_frame_Sum {a1 : List Int} : Cn Pg 152 (frame_Sum a1) [.sl 1 .no (List.map (V.int .u8) a1)] (V.int .u32) := by
  refine fs c0 fn152 Z Z Z Z fun _ h => eo 0 Z (.lenT sli93 (lz Z) (vsub Z (.refl _))) (el0 1 [7, 6, 2] [2] Z h (fun s3 => [(8, I s3.1), (3, (V.int .u32) s3.2)]) (fun x4 => [(3, (V.int .u32) x4)]) (wk0 Z) (fun q2 _ s3 h2 => ?_) fun x4 h => ?_)
  · refine eb Z h2 (fun h2 => ?_) fun h2 => ?_
    · refine h2.b fun j5 m5 h2 => eo 0 Z (.ixS sli93 (lz Z) (lz Z) m5) (h2.z.b fun k7 m7 h2 => eo 0 Z (.ixC arr272 cG (lz Z) m7) (eo 0 Z (.shr (lz Z) cI (by decide)) (h2.z.b fun k9 m9 h2 => ?_))); exact eo 0 Z (.ixC arr272 cG (lz Z) m9) (eo 0 Z (.shr (lz Z) cI (by decide)) (ex Z h2.z.ret (wk0 Z)))
    · exact ex Z h2.ret (wk0 Z)
  · exact ef Z Z h rl Z Z
theorem C_clone_84 {a1 : List Int} {r : List Int} (h : app 1 [] a1 = some r) : PureC Pg 84 [E_S_u8 a1] (E_S_u8 r) := by
  refine .c 8 fn84 Z Z Z ?_
  have hr := (app_get h).2
  refine Wq o1 Z (Sa Z cNs (Nn (AWp.splitNil (t := 0) (lw 1 Z) (fun hn => ?_) ?_)))
  · obtain rfl : a1 = [] := List.map_eq_nil_iff.1 hn
    obtain rfl : r = [] := by simpa using hr
    refine .seq (Wq o2 Z (Sa Z l0 (Ss Z (.eqlNil sli93 l0 cNs) ?_))); refine Nn (AWp.condT l0 (Wq o1 Z (Sa Z cNs ?_))); exact Nn (AWp.ret (thenQ_r (e3 0 Z Z (.nils_no 1) Z)))
  · refine .seq (Wq o2 Z (Sa Z l0 (Ss Z (.eqlNn sli93 l0 cNs) ?_))); refine Nn (AWp.condF l0 (AWp.skip (thenQ_n ?_))); refine Wq o4 Z (Ss Z (.buildSliceW sli93 zv5 Z Z (by decide) .nil) (Sm 3 Z Z (S.new 7 Z Z (.appX (f := (V.int .u8)) (xs := []) sli93 noi93 zv5 Z (by decide) (lq 1 Z) (V.sub.refl _) l0 Rd.sl h Z) trivial ?_))); exact Sa Z l0 (Nn (AWp.ret (e3 0 Z Z (.forget _ _ _) Z)))
theorem C_frame_Take {a1 : List Int} : Cn Pg 80 (frame_Take a1) [.sl 1 .no (List.map (V.int .u8) a1)] (fun r => .tup [E_S_u8 r.1, (V.int .i64) r.2.1, (V.int .i64) r.2.2]) := by
  refine fs c0 fn80 Z Z Z Z fun _ h => eo 0 Z (.lenT sli93 (lz Z) (vsub Z (.refl _))) (eb Z h (fun h => ?_) fun h => ?_)
  · exact ef Z Z h (.cons (.nils_no _) rl) Z Z
  · refine ec Z h C_frame_number ss fun r2 h => eb Z h.z (fun h => ?_) fun h => ?_
    · exact ef Z Z h (.cons (.nils_no _) rl) Z Z
    · refine eo 0 Z (.lenT sli93 (lz Z) (vsub Z (.refl _))) (eb Z h.z (fun h => ?_) fun h => ?_)
      · exact ef Z Z h (.cons (.nils_no _) rl) Z Z
      · refine h.b fun l5 m5 h => eo 0 Z (.slice_ssn sli93 (lz Z) cI (lz Z) m5) (ed [] Z (edc Z h C_frame_Sum ss fun r6 h => h.b fun l7 m7 h => edo 0 Z (.slice_snn sli93 (lz Z) cI m7) (edc Z h C_frame_number ss fun r8 h => ?_))); refine ee Z (by kernel_rfl) (eb Z h (fun h => ?_) fun h => ?_)
        · exact ef Z Z h (.cons (.nils_no _) rl) Z Z
        · exact ec Z h ⟨fun _ h => C_clone_84 h⟩ ss fun r9 h => ef Z Z h.z rl Z Z
theorem C_frame_Scan_own {a1 : List Int} {r : (List (List Int)) × Int} (h : frame_Scan_own a1 = some r) : CallSpec Pg 79 [.sl 1 .no (List.map (V.int .u8) a1)] [] fun o H' => o = .ret (.tup [.slo 1 0 [] 0 0 r.1.length 1, (V.int .i64) r.2]) ∧ H' = [.buf 1 (List.map E_S_u8 r.1)] := by
  refine CallSpec.of_bodyF 28 0 fn79 Z Z Z (Nat.le_of_ble_eq_true Z) ?_; replace h := Ok.of h; unfold frame_Scan_own at h; refine Wq o2 Z (Sa Z cNs (Sa Z cI (Nn ?_))); refine AWp.scope (Wq o1 Z (Sa Z cNs (Nw o1 Z ?_))); refine Sa Z cI (Nn (AWp.seq (AWp.label ?_))); refine thenQ_n (AWp.seq (AWp.wk (Wk.nilbuf 1 (lw 1 Z)) (AWp.cutX (fun x4 => ⟨[(4, .slo 1 0 [] 0 0 x4.1.length 1), (5, I x4.2), (3, I 0), (2, .nils)], [.buf 1 (List.map E_S_u8 x4.1)]⟩) nc_then h (fun q2 hq2 => ?_) (fun x4 h => ?_))))
  · refine AWp.block (AWp.loopT (fun s3 => ⟨[(4, .slo 1 0 [] 0 0 s3.1.length 1), (5, I s3.2), (3, I 0), (2, .nils), (0, .sl 1 .no (List.map (V.int .u8) a1))], [.buf 1 (List.map E_S_u8 s3.1)]⟩) hq2 (Wk.selS [0] (by decide) Z (SelE.spec l0 Z (.slo (by first | rfl | simp)) Z Z (sl [1, 3, 4, 5] Z)) (.cons (lt_buf ty_S_u8) Z (ASub.refl _) .nil)) (fun _ s3 h2 => ?_)); rw [frame_Scan_own_L1] at h2; refine AWp.block (Wq o11 Z (Sm 4 Z Z (Sm 2 Z Z ?_))); refine h2.b fun l5 m5 h2 => Ss Z (.slice_snn sli93 (lq 1 Z) l0 m5) (h2.b fun r6 m6 h2 => Ss Z (.cq (cr l0 .nil) (C_frame_Take.p _ m6) Z) (Sa Z l0 (Ss Z (.extract l0 Z) ?_))); refine Ss Z (.extract (lq 1 Z) Z) (Ss Z (.extract (lq 2 Z) Z) (Sm 2 Z Z (Sm 2 Z Z ?_))); refine Sm 2 Z Z (Nn (AWp.seq (Wq o2 Z ?_))); refine Sa Z l0 (Ss Z (.neq l0 cI) (Nn (AWp.condM l0 h2 (fun c1 h2 => ?_) (fun c1 h2 => ?_))))
    · refine AWp.exit (thenQ_x (blockQ_o Z (thenQ_x ?_))); exact blockQ_x (thenQ_n ⟨_, h2.ret, (Wk.selS [0] (by decide) Z (SelE.spec (lw 13 Z) Z (.slo (by first | rfl | simp)) Z Z (sl [14, 15, 16] Z)) (hb Z .nil))⟩)
    · refine AWp.skip (thenQ_n (Wq o5 Z (Sm 13 Z Z ?_))); refine Sm 5 Z Z (Ss Z (.buildSliceW sli139 zv93 Z Z (by decide) (.cons l0 Z (.refl _) Z .nil)) (h2.b fun l7 m7 h2 => Sv (.slo 1 1 [] 0 0 l7.length 1) [.dead, .buf 1 (List.map E_S_u8 l7)] Z (.appOwnT sli139 noi139 zv93 Z (by decide) (lq 2 Z) Z (by first | rfl | simp) l0 Rd.sl m7 Z) Z Z trivial (Sa Z l0 ?_))); refine Nn (W.reg o4 Z (Sm 19 Z Z (Sm 9 Z Z ?_))); refine Ss Z (.add (lq 1 Z) l0) (h2.n fun v8 ev8 h2 => Ss Z (.nv (.assign l0) (congrArg I ev8.symm)) (S.nil (blockQ_n ?_))); exact thenQ_n ⟨_, h2.ret, (Wk.selS [1] (by decide) Z (SelE.spec (lw 4 Z) Z (.slo (by first | rfl | simp)) Z Z (sl [0, 24, 25, 26] Z)) (hb Z .nil))⟩
  · refine thenQ_n (Wq o4 Z (Sa Z l0 (Sm 2 Z Z ?_))); refine Sm 1 Z Z (Sm 1 Z Z (Nn (AWp.ret ?_))); refine noG_r ?_; obtain rfl := h.ret; exact endFN Z (Wk.selS [0] (by decide) Z (SelE.spec (v := .slo 1 0 [] 0 0 x4.1.length 1) (lw 1 Z) Z (.slo (by first | rfl | simp)) Z Z (sl [0] Z)) (hb Z .nil)) (.cons (.tmp l0 Z) (.cons (.tmp (lw 1 Z) Z) .nil)) Z Z Z
theorem C_disk_Disk_Cut {a2 : Int} {b1 : YdkD} : Co Pg 81 (disk_Disk_Cut a2 b1) [.ptr 0 [] 0, (V.int .i64) a2] [.cells (E_YdkD b1)] (fun r => (V.int .i64) r.1) (fun r => [.cells (E_YdkD r.2)]) := by
  refine fo c0 fn81 Z Z Z Z Z fun _ h => eg 0 Z Z (fun hc hB => .lenT sli93 (lg hc Z) (vsub Z (.refl _))) (eb Z h (fun h => ?_) fun h => ?_)
  · exact efo [0] Z Z h Z rl Z Z al (by decide) Z
  · exact ed [] Z (h.b fun l3 m3 h => edo 0 Z (.slice_nss sli93 (lz Z) (lz Z) (lz Z) m3) (ee Z (by kernel_rfl) (efo [0] Z Z h.z.z Z rl Z Z al (by decide) Z)))
theorem C_disk_Disk_Sync {b1 : YdkD} : Co Pg 82 (disk_Disk_Sync b1) [.ptr 0 [] 0] [.cells (E_YdkD b1)] (fun _ => .tup []) (fun r => [.cells (E_YdkD r)]) := by
  exact fo c0 fn82 Z Z Z Z Z fun _ h => eo 0 Z (.lenT sli93 (lz Z) (vsub Z (.refl _))) (efo [0] Z Z h.z Z rl Z Z al (by decide) Z)
theorem C_wlog_Open {b1 : YdkD} : Co2 Pg 32 (wlog_Open b1) [.ptr 0 [] 0] [.cells (E_YdkD b1)] (fun _ => .tup [.nilp, (V.int .i64) 6]) (fun r => .tup [.ptr 1 [] 0, (V.int .i64) r.1]) (fun r => [.cells (E_YdkD r)]) (fun r => [.cells (E_YdkD r.2.1), .cells (.st [.ptr 0 [] 0, .slo 1 2 [] 0 0 r.2.2.all.length 1]), .buf 1 (List.map E_S_u8 r.2.2.all)]) := by
  refine fo c0 fn32 Z Z Z Z Z fun _ h => ech [0] Z h C_disk_Disk_Bytes ss Z al (by decide) fun r2 h => ?_; refine ech [] Z h ⟨fun _ h => C_frame_Scan_own h⟩ ss Z al (by decide) fun r3 h => ?_; refine h.b fun l4 m4 h => eo 0 Z (.slice_snn sli93 (lz Z) (lz Z) m4) (ec Z h C_frame_Take ss fun r5 h => eb Z h (fun h => ?_) fun h => ?_)
  · exact efo [0] Z Z h Z rl Z Z al (by decide) Z
  · refine ech [0] Z h C_disk_Disk_Cut ss Z al (by decide) fun r6 h => ?_; refine ech [0] Z h C_disk_Disk_Sync ss Z al (by decide) fun r7 h => ?_; exact efo [0, 2, 1] Z Z h Z rl Z Z al (by decide) Z
theorem C_wlog_Log_Len_g {b1 : YwgL} {b2 : YdkD} : Co Pg 83 (wlog_Log_Len_g b1 b2) [.ptr 0 [] 0] [.cells (.st [.ptr 1 [] 0, .slo 1 2 [] 0 0 b1.all.length 1]), .cells (E_YdkD b2), .buf 1 (List.map E_S_u8 b1.all)] (fun r => (V.int .i64) r.1) (fun r => [.cells (.st [.ptr 1 [] 0, .slo 1 2 [] 0 0 r.2.1.all.length 1]), .cells (E_YdkD r.2.2), .buf 1 (List.map E_S_u8 r.2.1.all)]) := by
  exact fo c0 fn83 Z Z Z Z Z fun _ h => efo [0, 1, 2] Z Z h.z Z rl Z Z al (by decide) Z
theorem C_wlog_Log_Last_g {b1 : YwgL} {b2 : YdkD} : Co Pg 33 (wlog_Log_Last_g b1 b2) [.ptr 0 [] 0] [.cells (.st [.ptr 1 [] 0, .slo 1 2 [] 0 0 b1.all.length 1]), .cells (E_YdkD b2), .buf 1 (List.map E_S_u8 b1.all)] (fun r => .tup [E_S_u8 r.1, V.bool r.2.1]) (fun r => [.cells (.st [.ptr 1 [] 0, .slo 1 2 [] 0 0 r.2.2.1.all.length 1]), .cells (E_YdkD r.2.2.2), .buf 1 (List.map E_S_u8 r.2.2.1.all)]) := by
  refine fo c0 fn33 Z Z Z Z Z fun _ h => ech [0, 1, 2] Z h C_wlog_Log_Len_g ss Z al (by decide) fun r3 h => ?_; refine eb Z h (fun h => ?_) fun h => ?_
  · exact efo [0, 1, 2] Z Z h Z (.cons (.nils_no _) rl) Z Z al (by decide) Z
  · exact h.b fun j4 m4 h => eo 1 Z (.ixO sli139 (lz Z) (lz Z) (by first | rfl | simp) m4) (eo 0 Z (.loadB sz93 ag93 (lz Z) Z (.ls (by first | exact lsm m4 | (have := six_lt m4; simp at this ⊢; omega)) .nil) (by first | omega | rfl) Z Z) (ec Z h ⟨fun _ h => C_clone_84 h⟩ ss fun r5 h => efo [0, 1, 2] Z Z h Z rl Z Z al (by decide) Z))
theorem C_barrier_New {a1 : Int} : Cn Pg 85 (barrier_New a1) [(V.int .i64) a1] (fun r => .tup [E_YbrB r.1, (V.int .i64) r.2]) := by
  refine fs c0 fn85 Z Z Z Z fun _ h => eb Z h (fun h => ?_) fun h => ?_
  · exact ef Z Z h.z rl Z Z
  · exact ef Z Z h.z rl Z Z
theorem C_vec_Right {a1 : Vector Int 16} : Cn Pg 293 (vec_Right a1) [E_A16_i64 a1] V.bool := by
  refine fs ⟨tb, [], [(0, [0])], false⟩ fn293 Z Z Z Z fun _ h => elR 1 [5, 2] [2] Z h (fun s3 => [(6, I s3)]) (fun s3 => []) (fun x4 => []) (fun x4 => []) (wkI [] Z Z ss al (by decide) Z) (fun q2 _ s3 h h2 => ?_) fun x4 h => ?_
  · refine eb Z h2 (fun h2 => ?_) fun h2 => ?_
    · refine h2.b fun k5 m5 h2 => eo 0 Z (.ixV arr38 (lz Z) (lz Z) m5 Z) (ecG Z h2 Z C_num_Is ss fun r6 h2 => eb Z h2 (fun h2 => ?_) fun h2 => ?_)
      · have h := Ok.inrq h h2.ret
        exact ef Z Z h rl Z Z
      · exact ex Z h2.ret (wkI [] Z Z ss al (by decide) Z)
    · exact ex Z h2.ret (wkI [] Z Z ss al (by decide) Z)
  · exact ef Z Z h rl Z Z
theorem C_rights_Right {a1 : TRights} : Cn Pg 253 (rights_Right a1) [E_TRights a1] V.bool := by
  refine fs ⟨tb, [], [(0, [0]), (5, [0])], false⟩ fn253 Z Z Z Z fun _ h => ec Z h C_vec_Right ss fun r2 h => ecG Z h Z C_vec_Right ss fun r3 h => eb Z h (fun h => ?_) fun h => ?_
  · exact ef Z Z h rl Z Z
  · refine elR 1 [16, 2] [2] Z h (fun s5 => [(17, I s5)]) (fun s5 => []) (fun x6 => []) (fun x6 => []) (wkI [] Z Z ss al (by decide) Z) (fun q4 _ s5 h h4 => ?_) fun x6 h => ?_
    · refine eb Z h4 (fun h4 => ?_) fun h4 => ?_
      · refine h4.b fun k7 m7 h4 => eo 0 Z (.ixV arr39 (lz Z) (lz Z) m7 Z) (ec Z h4.z C_vec_Right ss fun r9 h4 => h4.b fun k10 m10 h4 => eg 0 Z Z (fun hc hB => .ixC arr38 (lg hc Z) (lg hc Z) (gd_get m10 hB)) (eb Z h4 (fun h4 => ?_) fun h4 => ?_))
        · have h := Ok.inrq h h4.ret
          exact ef Z Z h rl Z Z
        · exact ex Z h4.ret (wkI [] Z Z ss al (by decide) Z)
      · exact ex Z h4.ret (wkI [] Z Z ss al (by decide) Z)
    · exact ef Z Z h rl Z Z
theorem C_num_Add {a1 : Int} {a2 : Int} {r : Int × Int} (h : num_Add a1 a2 = some r) : PureC Pg 231 [(V.int .i64) a1, (V.int .i64) a2] (.tup [(V.int .i64) r.1, (V.int .i64) r.2]) := by
  refine .c 15 fn231 Z Z Z ?_; replace h := Ok.of h; unfold num_Add at h; refine Wq o2 Z (Sa Z cI (Sa Z cI (Nw o11 Z ?_))); refine Sm 2 Z Z (Sm 4 Z Z (Ss Z (.add (lq 1 Z) l0) (Sm 5 Z Z ?_))); refine Sm 7 Z Z (Ss Z (.buildSliceW sli67 zv3 Z Z (by decide) (.cons (lq 1 Z) Z (.refl _) Z (.cons l0 Z (.refl _) Z .nil))) (h.b fun r3 m3 h => Ss Z (.cq (cr (lq 3 Z) (cr l0 .nil)) (C_num_checked.p _ m3) Z) (Ss Z (.extract l0 Z) ?_))); refine Ss Z (.extract (lq 1 Z) Z) (Sm 1 Z Z (Sm 1 Z Z (Nn ?_))); refine Pr [0, 1] Z (AWp.ret ?_); obtain rfl := h.ret; exact eN [1, 0] Z Z Z Z Z
theorem C_num_Must {a1 : Int} {a2 : Int} {r : Int} (h : num_Must a1 a2 = some r) : PureC Pg 230 [(V.int .i64) a1, (V.int .i64) a2] ((V.int .i64) r) := by
  refine .c 10 fn230 Z Z Z ?_; replace h := Ok.of h; unfold num_Must at h; refine Wq o1 Z (Sa Z cI (Nn (AWp.seq ?_))); refine Wq o2 Z (Sm 2 Z Z (Ss Z (.neq l0 cI) (Nn ?_))); refine AWp.condM l0 h (fun c1 h => ?_) (fun c1 h => ?_)
  · exact h.no.elim
  · refine AWp.skip (thenQ_n (Wq o2 Z (Sm 3 Z Z ?_))); refine Sa Z l0 (Nn (AWp.ret ?_)); obtain rfl := h.ret; exact e2 0 Z Z
theorem C_num_Sum_1 {a1 : List Int} {r : Int} (h : num_Sum_1 a1 = some r) : PureC Pg 229 [.cptr (.sl 1 .no (List.map (V.int .i64) a1))] ((V.int .i64) r) := by
  refine .c 19 fn229 Z Z Z ?_; replace h := Ok.of h; unfold num_Sum_1 at h; refine Wq o1 Z (Sa Z cI (Nw o1 Z (Sa Z cI ?_))); refine Nn (AWp.seq (Wq o3 Z (Ss Z (.ldC (lq 2 Z) Z) ?_))); refine Ss Z (.lenT sli67 l0 (vsub Z (.refl _))) (Sa Z cI (Nn (AWp.cutX (fun x4 => ⟨[(2, I x4), (1, I 0)], []⟩) nc_then h (fun q2 hq2 => ?_) (fun x4 h => ?_))))
  · refine AWp.block (AWp.loopT (fun s3 => ⟨[(7, I s3.1), (6, I (a1.length : Int)), (5, .sl 1 .no (List.map I a1)), (2, I s3.2), (1, I 0)], []⟩) hq2 (Wk.selS [] (by decide) Z (sl [0, 1, 2, 3, 4] Z) .nil) (fun _ s3 h2 => ?_)); rw [num_Sum_1_L1] at h2; refine Wq o1 Z (Ss Z (.lss l0 (lq 1 Z)) (Nn (AWp.seq ?_))); refine AWp.condM l0 h2 (fun c1 h2 => ?_) (fun c1 h2 => ?_)
    · refine AWp.skip (thenQ_n (AWp.seq (AWp.block ?_))); refine Wq o3 Z (h2.b fun j5 m5 h2 => Ss Z (.ixS sli67 (lq 3 Z) (lq 1 Z) m5) (Ss Z (.ldC l0 Z) (Sa Z l0 ?_))); refine Nn (W.reg o7 Z (Sm 7 Z Z (Sm 1 Z Z ?_))); refine h2.b fun r6 m6 h2 => Ss Z (.cq (cr (lq 1 Z) (cr l0 .nil)) (C_num_Add m6) Z) (Ss Z (.extract l0 Z) (Ss Z (.extract (lq 1 Z) Z) (h2.b fun r7 m7 h2 => ?_))); refine Ss Z (.cq (cr (lq 1 Z) (cr l0 .nil)) (C_num_Must m7) Z) (Sa Z l0 (S.nil (blockQ_n ?_))); refine thenQ_n (W.reg o2 Z (Ss Z (.add (lq 11 Z) cI) (Sa Z l0 ?_))); exact Nn ⟨_, h2.ret, (Wk.selS [] (by decide) Z (sl [0, 14, 15, 2, 17] Z) .nil)⟩
    · refine AWp.exit (thenQ_x (thenQ_x (blockQ_x ?_))); exact thenQ_n ⟨_, h2.ret, (Wk.selS [] (by decide) Z (sl [4, 5] Z) .nil)⟩
  · refine thenQ_n (Wq o2 Z (Sa Z l0 (Sa Z l0 ?_))); refine Nn (AWp.ret ?_); obtain rfl := h.ret; exact e2 0 Z Z
theorem ifc20 : (match Pg.underlying 20 with | some (.interface _) => true | _ => false) = true := by kernel_rfl
theorem fun78 : (match Pg.underlying 78 with | some (.func ..) => true | _ => false) = true := by kernel_rfl
theorem C_num_Must_P {a1 : Int} {a2 : Int} (h : a2 ≠ 0) : PanC Pg 230 [(V.int .i64) a1, (V.int .i64) a2] (.ifc 26 ((V.int .i64) a2)) := by
  refine PanC.ofF (CallSpec.of_bodyF 10 0 fn230 Z Z Z (Nat.le_of_ble_eq_true Z) ?_) (ltL_c ((TyOk.int .i64).lt _ _) (ltL_c ((TyOk.int .i64).lt _ _) ltL_nil)) (lt_ifc ((TyOk.int .i64).lt _ _)); refine Wq o1 Z (Sa Z cI (Nn (AWp.seq ?_))); refine Wq o2 Z (Sm 2 Z Z (Ss Z (.neq l0 cI) (Nn ?_))); refine AWp.cond l0 (fun _ => ?_) (fun e => by simp [h] at e); refine AWp.regionP [0, 1] 2 [] Z Z Z (Sm 4 Z Z (Ss Z (.mkIface und26 Z l0 Z) (S.nil ?_))); exact ⟨_, _, .panic l0, thenQ_p ⟨Z, Z⟩⟩

theorem C_num_Sum_P {a1 : List Int} {r : Int} (h : num_Sum_P a1 = some r) : PanC Pg 229 [.cptr (.sl 1 .no (List.map (V.int .i64) a1))] (.ifc 26 ((V.int .i64) r)) := by
  refine PanC.ofF (CallSpec.of_bodyF 19 0 fn229 Z Z Z (Nat.le_of_ble_eq_true Z) ?_) (ltL_c (lt_cptr (lt_sl Z ((TyOk.int .i64).ltm _ _))) ltL_nil) (lt_ifc ((TyOk.int .i64).lt _ _)); refine Wq o1 Z (Sa Z cI (Nw o1 Z (Sa Z cI ?_))); refine Nn (AWp.seq (Wq o3 Z (Ss Z (.loadC sz67 ag67 (lq 2 Z) Z Z) ?_))); refine Ss Z (.lenT sli67 l0 (vsub Z (.refl _))) (Sa Z cI (Nn (AWp.block ?_))); refine AWp.loopT (fun s3 => ⟨[(7, I s3.1), (6, I (a1.length : Int)), (5, .sl 1 .no (List.map I a1)), (2, I s3.2), (1, I 0)], []⟩) h (Wk.selS [] (by decide) Z (sl [0, 1, 2, 3, 4] Z) .nil) (fun _ s3 h2 => ?_); rw [num_Sum_P_L1] at h2; refine Wq o1 Z (Ss Z (.lss l0 (lq 1 Z)) (Nn (AWp.seq ?_))); refine AWp.condM l0 h2 (fun c1 h2 => ?_) (fun c1 h2 => h2.no.elim); refine AWp.skip (thenQ_n (AWp.seq (AWp.block ?_))); refine Wq o3 Z (h2.b fun j5 m5 h2 => Ss Z (.ixS sli67 (lq 3 Z) (lq 1 Z) m5) (Ss Z (.loadC sz3 ag3 l0 Z Z) (Sa Z l0 ?_))); refine Nn (h2.b fun r6 m6 h2 => ?_)
  by_cases hz : r6.2 = 0
  · replace h2 := (h2.t (by simp [hz])).ret; refine W.reg o7 Z (Sm 7 Z Z (Sm 1 Z Z (Ss Z (.callQ ent231 cF (cr (lq 1 Z) (cr l0 .nil)) (C_num_Add m6)) ?_))); refine Ss Z (.extract l0 Z) (Ss Z (.extract (lq 1 Z) Z) (Ss Z (.callQ ent230 cF (cr (lq 1 Z) (cr l0 .nil)) (C_num_Must (r := r6.1) (by simp [num_Must, hz]))) (Sa Z l0 ?_))); refine S.nil (blockQ_n (thenQ_n (W.reg o2 Z ?_))); exact Ss Z (.add (lq 11 Z) cI) (Sa Z l0 (Nn ⟨_, h2, (Wk.selS [] (by decide) Z (sl [0, 14, 15, 2, 17] Z) .nil)⟩))
  · replace h2 := (h2.f (by simp [hz])).ret
    simp only [loopK] at h2
    subst h2
    refine AWp.regionP [0, 1, 2, 3, 4] 5 [6] Z Z Z (Sm 7 Z Z (Sm 1 Z Z (Ss Z (.callQ ent231 cF (cr (lq 1 Z) (cr l0 .nil)) (C_num_Add m6)) ?_))); refine Ss Z (.extract l0 Z) (Ss Z (.extract (lq 1 Z) Z) (S.nil ⟨_, _, .call ent230 cF (cr (lw 1 Z) (cr l0 .nil)) (C_num_Must_P hz), ?_⟩))
    repeat (first | refine thenQ_p ?_ | refine blockQ_p ?_)
    exact ⟨Z, Z⟩

/-- The deferred function, when there is a panic. -/
theorem catch_pan {g : Gh} {w : World} {xs : List Value} {e a b : Int} {older : List PanicEntry} (hx : RVs g [.ptr 1 [] 0, .ptr 0 [] 0] xs) (hr : HR g [.cells (.int .i64 a), .cells (.int .i64 b)] w) {vx : Value} (hv : RV g (.ifc 26 (.int .i64 e)) vx) :
    CallsD Pg 270 xs.toArray (.panicking ({ v := vx, recovered := false } :: older)) w fun e' u' w' => e' = .returned (.tuple #[]) ∧ u' = .panicking ({ v := vx, recovered := true } :: older) ∧
      ∃ g', HR g' [.cells (.int .i64 0), .cells (.int .i64 e)] w' ∧ Ev g [.cells (.int .i64 a), .cells (.int .i64 b)] w g' [.cells (.int .i64 0), .cells (.int .i64 e)] w' := by
  refine callsD_of_wpS fn270 Z fun c₀ cs hu => ?_
  have h0 : RAct g 15 (argEnv 0 [.ptr 1 [] 0, .ptr 0 [] 0]) { tmps := xs.toArray ++ Array.replicate (15 - xs.toArray.size) Go.undef, defers := [] } := RAct.start hx (Nat.le_of_ble_eq_true rfl)
  have hsz : (Tryz.f270.ntmps : Nat) = 15 := rfl
  rw [hsz]
  apply wpS_seq
  apply wpS_region
  refine wpS_recover Z Z Z (by rw [h0.size]; exact Nat.le_of_ble_eq_true Z) (v := vx) (cs' := { c₀ with mode := .panicking ({ v := vx, recovered := true } :: older) } :: cs) (.inl (by simp [recoverD, hu])) ?_
  have h1 := (h0.put (dst := some 4) rfl hv).put (dst := some 2) rfl hv
  simp only [Exit.thenS]
  refine wpS_of_wp (wp_mono ((?_ : AWp Pg 15 2 _ (fun ex s => ex = .normal ∧ s.H = [.cells (.int .i64 0), .cells (.int .i64 e)]) ⟨(2, .ifc 26 (.int .i64 e)) :: (4, .ifc 26 (.int .i64 e)) :: argEnv 0 [.ptr 1 [] 0, .ptr 0 [] 0], [.cells (.int .i64 a), .cells (.int .i64 b)]⟩) ⟨g, [.cells (.int .i64 a), .cells (.int .i64 b)], w⟩ g _ w Z (by simpa using hr.len) h1 hr (.refl _ _ _)) ?_)
  · refine Wq o2 Z (Sa Z l0 (Ss Z (.neqIN ifc20 l0 cNi) (Nn ?_))); refine AWp.condT l0 (Wq o1 Z (Sa Z cB (Nn ?_))); refine .seq (Wq o7 Z (Sm 3 Z Z (Ss Z (.assertSame und26 l0) ?_))); refine Sa Z l0 (Ss Z (.extract l0 Z) (Ss Z (.extract (lq 1 Z) Z) (Sn [.cells (.int .i64 a), .cells (.int .i64 e)] Z Z (.storeP sz26 (lq 10 Z) (lq 1 Z) Z (.refl _) Z .nil Z .nil Z Z Z) Z trivial ?_))); refine Sa Z l0 (Nw o2 Z (Sa Z l0 (Ss Z (.not l0) ?_))); refine Nn (AWp.condF l0 (AWp.skip (thenQ_n ?_))); exact W.reg o1 Z (Sn [.cells (.int .i64 0), .cells (.int .i64 e)] Z Z (.storeP sz3 (lq 14 Z) cI Z (.refl _) Z .nil Z .nil Z Z Z) Z trivial (S.nil ⟨Z, Z⟩))
  · rintro ex a' w' ⟨g', s', ae, ⟨rfl, hs⟩, hx', r1, r2, r3⟩
    cases ex <;> simp only [ExRel] at hx' <;> try exact hx'.elim
    rw [hs] at r2 r3; exact ⟨r1.defers, _, Z, .tuple #[], by simp [results, Tryz.results270, go_sem], Z, Z, g', r2, r3⟩

/-- The deferred function, when there is none. -/
theorem catch_idle {g : Gh} {w : World} {xs : List Value} {a b : Int} (hx : RVs g [.ptr 1 [] 0, .ptr 0 [] 0] xs) (hr : HR g [.cells (.int .i64 a), .cells (.int .i64 b)] w) :
    CallsD Pg 270 xs.toArray .returning w fun e' u' w' => e' = .returned (.tuple #[]) ∧ u' = .returning ∧
      ∃ g', HR g' [.cells (.int .i64 a), .cells (.int .i64 b)] w' ∧ Ev g [.cells (.int .i64 a), .cells (.int .i64 b)] w g' [.cells (.int .i64 a), .cells (.int .i64 b)] w' := by
  refine callsD_of_wpS fn270 Z fun c₀ cs hu => ?_
  have h0 : RAct g 15 (argEnv 0 [.ptr 1 [] 0, .ptr 0 [] 0]) { tmps := xs.toArray ++ Array.replicate (15 - xs.toArray.size) Go.undef, defers := [] } := RAct.start hx (Nat.le_of_ble_eq_true rfl)
  have hsz : (Tryz.f270.ntmps : Nat) = 15 := rfl
  rw [hsz]
  apply wpS_seq
  apply wpS_region
  have hv : RV g .nili .nilIface := ⟨rfl, by simp [RC, Value.cells]⟩
  refine wpS_recover Z Z Z (by rw [h0.size]; exact Nat.le_of_ble_eq_true Z) (v := .nilIface) (cs' := c₀ :: cs) (.inr ⟨by simp [recoverD, hu], Z, Z⟩) ?_
  have h1 := (h0.put (dst := some 4) rfl hv).put (dst := some 2) rfl hv
  simp only [Exit.thenS]
  refine wpS_of_wp (wp_mono ((?_ : AWp Pg 15 2 _ (fun ex s => ex = .normal ∧ s.H = [.cells (.int .i64 a), .cells (.int .i64 b)]) ⟨(2, .nili) :: (4, .nili) :: argEnv 0 [.ptr 1 [] 0, .ptr 0 [] 0], [.cells (.int .i64 a), .cells (.int .i64 b)]⟩) ⟨g, [.cells (.int .i64 a), .cells (.int .i64 b)], w⟩ g _ w Z (by simpa using hr.len) h1 hr (.refl _ _ _)) ?_)
  · refine Wq o2 Z (Sa Z l0 (Ss Z (.neqNN ifc20 l0 cNi) (Nn ?_))); exact AWp.condF l0 (AWp.skip ⟨Z, Z⟩)
  · rintro ex a' w' ⟨g', s', ae, ⟨rfl, hs⟩, hx', r1, r2, r3⟩
    cases ex <;> simp only [ExRel] at hx' <;> try exact hx'.elim
    rw [hs] at r2 r3
    have hc : c₀ = { c₀ with mode := .returning } := by rw [← hu]
    exact ⟨r1.defers, .returning, by rw [← hc], .tuple #[], by simp [results, Tryz.results270, go_sem], Z, Z, g', r2, r3⟩


theorem ResTry {x y : Int} {env : List (Nat × V)} (h2 : look env 2 = .ptr 0 [] 0) (h3 : look env 3 = .ptr 1 [] 0) : ResOK Pg Tryz.f228 9 ⟨env, [.cells (.int .i64 x), .cells (.int .i64 y)]⟩ (.tup [.int .i64 x, .int .i64 y]) :=
  .many (rs := [.cell 2 3, .cell 3 26]) rfl (.cons (.cell sz3 ag3 h2 rfl (by simp [V.at]) rfl rfl rfl) (.cons (.cell sz26 ag26 h3 rfl (by simp [V.at]) rfl rfl rfl) .nil)) (by simp)

theorem Try_start {ff : FuncId} {cap : List V} {g : Gh} {w : World} {xs : List Value} (hx : RVs g [.fn ff [] cap] xs) (hr : HR g [] w) (hk : okL cap = true) {Q : Exit → Act → World → Prop}
    (k : ∀ g' a' w' b', RVl g' [.ptr 1 [] 0, .ptr 0 [] 0] b'.toList →
      RActD g' 9 [{ target := .fn (.func 270) b', args := #[] }] ((6, .fn 270 [] [.ptr 1 [] 0, .ptr 0 [] 0]) :: (5, .bool false) :: (4, .fn ff [] cap) :: (3, .ptr 1 [] 0) :: (2, .ptr 0 [] 0) :: argEnv 0 [.fn ff [] cap]) a' →
      HR g' [.cells (.int .i64 0), .cells (.int .i64 0)] w' → Ev g [] w g' [.cells (.int .i64 0), .cells (.int .i64 0)] w' →
      (tail3 (Tryz.f228.body.getD .skip)).wp Pg Q a' w') :
    ∃ c, Tryz.f228.body = some c ∧ c.wp Pg Q { tmps := xs.toArray ++ Array.replicate (9 - xs.toArray.size) Go.undef, defers := [] } w := by
  refine ⟨_, Z, ?_⟩
  have h0 : RAct g 9 (argEnv 0 [.fn ff [] cap]) _ := RAct.start hx (Nat.le_of_ble_eq_true rfl)
  refine AWp.toD (s := ⟨argEnv 0 [.fn ff [] cap], []⟩) (s' := ⟨(3, .ptr 1 [] 0) :: (2, .ptr 0 [] 0) :: argEnv 0 [.fn ff [] cap], [.cells (.int .i64 0), .cells (.int .i64 0)]⟩) (B := ⟨g, [], w⟩) (m := 0) ?_ Z (by simpa using hr.len) h0 hr (.refl _ _ _) fun g1 a1 w1 p1 p2 p3 => ?_
  · refine W.reg o2 Z (S.new 2 Z Z (.alloc zv3) trivial (S.new 3 Z Z (.alloc zv26) trivial (S.nil ?_))); exact ⟨Z, Z⟩
  refine AWp.toD (s := ⟨(3, .ptr 1 [] 0) :: (2, .ptr 0 [] 0) :: argEnv 0 [.fn ff [] cap], [.cells (.int .i64 0), .cells (.int .i64 0)]⟩) (s' := ⟨(5, .bool false) :: (4, .fn ff [] cap) :: (3, .ptr 1 [] 0) :: (2, .ptr 0 [] 0) :: argEnv 0 [.fn ff [] cap], [.cells (.int .i64 0), .cells (.int .i64 0)]⟩) (B := ⟨g, [], w⟩) (m := 0) ?_ Z (by simpa using hr.len) p1 p2 p3 fun g2 a2 w2 q1 q2 q3 => ?_
  · refine Wq o2 Z (Sm 2 Z Z (Ss Z (.eqlFN fun78 l0 cNf) (Nn ?_))); exact AWp.condF l0 (AWp.skip ⟨Z, Z⟩)
  refine wp_seq (wp_region ?_)
  show wpOps Pg _ _ ([0] ++ [1]) a2 w2
  refine runD_of (D := []) (s := ⟨(5, .bool false) :: (4, .fn ff [] cap) :: (3, .ptr 1 [] 0) :: (2, .ptr 0 [] 0) :: argEnv 0 [.fn ff [] cap], [.cells (.int .i64 0), .cells (.int .i64 0)]⟩) (s' := ⟨(6, .fn 270 [] [.ptr 1 [] 0, .ptr 0 [] 0]) :: (5, .bool false) :: (4, .fn ff [] cap) :: (3, .ptr 1 [] 0) :: (2, .ptr 0 [] 0) :: argEnv 0 [.fn ff [] cap], [.cells (.int .i64 0), .cells (.int .i64 0)]⟩) ?_ ⟨q1.env, q1.size, q1.defers⟩ q2 fun g3 a3 w3 u1 u2 u3 => ?_
  · refine Ss Z (.makeFunc (a := []) (b := [.ptr 1 [] 0, .ptr 0 [] 0]) Z Z Z Z) (S.nil ?_)
    rfl
  refine defer_op (x := .tmp 6) (f := 270) (cap := [.ptr 1 [] 0, .ptr 0 [] 0]) Z Z u1 fun b' v1 v2 => ?_
  simp only [wpOps, Exit.then]
  exact k g3 _ w3 b' v1 v2 u2 (q3.trans u3)

theorem C_Try_ret {ff : FuncId} {cap : List V} {r : Int} (hE : enters Pg ff = true) (hc : V.ltL 0 cap = true) (hk : okL cap = true) (hf : PureC Pg ff cap (.int .i64 r)) : PureC Pg 228 [.fn ff [] cap] (.tup [.int .i64 r, .int .i64 0]) := by
  refine PureC.of ?_ (ltL_c (lt_fn ltL_nil hc) ltL_nil) (lt_tup (ltL_c ((TyOk.int .i64).lt _ _) (ltL_c ((TyOk.int .i64).lt _ _) ltL_nil)))
  intro g w xs hx hr
  refine Exists.elim (Try_start (Q := bodyPostD Pg Tryz.f228 fun e w' => ∃ g' H' o, o = .ret (.tup [.int .i64 r, .int .i64 0]) ∧ OutRel g' e o ∧ HR g' H' w' ∧ Ev g [] w g' H' w') hx hr hk fun g1 a1 w1 b' v1 u1 u2 u3 => ?_) fun c hb => calls_of_wp_defers fn228 hb.1 hb.2
  · refine wp_seq (wp_region ?_)
    show wpOps Pg _ _ ([0, 1, 2, 3] ++ []) a1 w1
    refine runD_of (s := ⟨(6, .fn 270 [] [.ptr 1 [] 0, .ptr 0 [] 0]) :: (5, .bool false) :: (4, .fn ff [] cap) :: (3, .ptr 1 [] 0) :: (2, .ptr 0 [] 0) :: argEnv 0 [.fn ff [] cap], [.cells (.int .i64 0), .cells (.int .i64 0)]⟩) (s' := ⟨(8, .int .i64 r) :: (7, .fn ff [] cap) :: (6, .fn 270 [] [.ptr 1 [] 0, .ptr 0 [] 0]) :: (5, .bool false) :: (4, .fn ff [] cap) :: (3, .ptr 1 [] 0) :: (2, .ptr 0 [] 0) :: argEnv 0 [.fn ff [] cap], [.cells (.int .i64 r), .cells (.int .i64 0)]⟩) ?_ u1 u2 fun g2 a2 w2 p1 p2 p3 => ?_
    · refine Sm 5 Z Z (Ss Z (.callQ hE l0 (by simpa using SubL.refl _) hf) (Sn [.cells (.int .i64 r), .cells (.int .i64 0)] Z Z (.storeP sz3 (lq 6 Z) l0 Z (.refl _) Z .nil Z .nil Z Z Z) Z trivial (Sn [.cells (.int .i64 r), .cells (.int .i64 0)] Z Z (.storeP sz26 (lq 5 Z) cI Z (.refl _) Z .nil Z .nil Z Z Z) Z trivial ?_))); refine S.nil ?_
      rfl
    simp only [wpOps, Exit.then]
    refine wp_ret ?_
    simp only [bodyPostD]
    rw [p1.defers]; refine leaves_cons (by simp) (invoke_fn ent270 b' w2) ((catch_idle (xs := b'.toList) (v1.rvs.mono p3.le) p2).mono ?_)
    rintro e' u' w3 ⟨rfl, rfl, g3, q1, q2⟩
    obtain ⟨x, h1, h2⟩ := (ResTry (x := r) (y := 0) (env := (8, .int .i64 r) :: (7, .fn ff [] cap) :: (6, .fn 270 [] [.ptr 1 [] 0, .ptr 0 [] 0]) :: (5, .bool false) :: (4, .fn ff [] cap) :: (3, .ptr 1 [] 0) :: (2, .ptr 0 [] 0) :: argEnv 0 [.fn ff [] cap]) rfl rfl).drop (p1.mono q2.le) q1; exact ⟨x, h1, g3, _, _, Z, h2, q1, (u3.trans p3).trans q2⟩

theorem C_Try_pan {ff : FuncId} {cap : List V} {r : Int} (hE : enters Pg ff = true) (hc : V.ltL 0 cap = true) (hk : okL cap = true) (hf : PanC Pg ff cap (.ifc 26 (.int .i64 r))) : PureC Pg 228 [.fn ff [] cap] (.tup [.int .i64 0, .int .i64 r]) := by
  refine PureC.of ?_ (ltL_c (lt_fn ltL_nil hc) ltL_nil) (lt_tup (ltL_c ((TyOk.int .i64).lt _ _) (ltL_c ((TyOk.int .i64).lt _ _) ltL_nil)))
  intro g w xs hx hr
  refine Exists.elim (Try_start (Q := bodyPostD Pg Tryz.f228 fun e w' => ∃ g' H' o, o = .ret (.tup [.int .i64 0, .int .i64 r]) ∧ OutRel g' e o ∧ HR g' H' w' ∧ Ev g [] w g' H' w') hx hr hk fun g1 a1 w1 b' v1 u1 u2 u3 => ?_) fun c hb => calls_of_wp_defers fn228 hb.1 hb.2
  · refine wp_seq (wp_region ?_)
    show wpOps Pg _ _ ([0] ++ [1, 2, 3]) a1 w1
    refine runD_of (s := ⟨(6, .fn 270 [] [.ptr 1 [] 0, .ptr 0 [] 0]) :: (5, .bool false) :: (4, .fn ff [] cap) :: (3, .ptr 1 [] 0) :: (2, .ptr 0 [] 0) :: argEnv 0 [.fn ff [] cap], [.cells (.int .i64 0), .cells (.int .i64 0)]⟩) (s' := ⟨(7, .fn ff [] cap) :: (6, .fn 270 [] [.ptr 1 [] 0, .ptr 0 [] 0]) :: (5, .bool false) :: (4, .fn ff [] cap) :: (3, .ptr 1 [] 0) :: (2, .ptr 0 [] 0) :: argEnv 0 [.fn ff [] cap], [.cells (.int .i64 0), .cells (.int .i64 0)]⟩) ?_ u1 u2 fun g2 a2 w2 p1 p2 p3 => ?_
    · refine Sm 5 Z Z (S.nil ?_)
      rfl
    refine pan_op (o := ⟨some 8, .call ⟨.value (.tmp 7), #[], #[]⟩, 3, "num.go:58", #[⟨0, .data⟩], none⟩) (s := ⟨(7, .fn ff [] cap) :: (6, .fn 270 [] [.ptr 1 [] 0, .ptr 0 [] 0]) :: (5, .bool false) :: (4, .fn ff [] cap) :: (3, .ptr 1 [] 0) :: (2, .ptr 0 [] 0) :: argEnv 0 [.fn ff [] cap], [.cells (.int .i64 0), .cells (.int .i64 0)]⟩) Z Z (v := .ifc 26 (.int .i64 r)) (.call (first := []) (cap := cap) hE Z (by simpa using SubL.refl _) hf) p1 p2 fun g3 x w3 r1 r2 r3 r4 => ?_
    simp only [Exit.then, bodyPostD]
    rw [p1.defers]; refine leaves_cons (by simp) (invoke_fn ent270 b' w3) ((catch_pan (xs := b'.toList) ((v1.rvs.mono p3.le).mono r4.le) r3 r1).mono ?_)
    rintro e' u' w4 ⟨rfl, rfl, g4, q1, q2⟩
    obtain ⟨y, h1, h2⟩ := (ResTry (x := 0) (y := r) (env := (7, .fn ff [] cap) :: (6, .fn 270 [] [.ptr 1 [] 0, .ptr 0 [] 0]) :: (5, .bool false) :: (4, .fn ff [] cap) :: (3, .ptr 1 [] 0) :: (2, .ptr 0 [] 0) :: argEnv 0 [.fn ff [] cap]) rfl rfl).drop (r2.mono q2.le) q1; exact ⟨y, h1, g4, _, _, Z, h2, q1, ((u3.trans p3).trans r4).trans q2⟩
theorem C_Try_sum {a1 : List Int} {r : Int × Int} (h : tryM (num_Sum_1 a1) (num_Sum_P a1) = some r) : PureC Pg 228 [.fn 229 [] [.cptr (.sl 1 .no (List.map (V.int .i64) a1))]] (.tup [(V.int .i64) r.1, (V.int .i64) r.2]) := by
  unfold tryM at h
  split at h
  · cases h
    exact C_Try_ret ent229 (ltL_c (lt_cptr (lt_sl Z ((TyOk.int .i64).ltm _ _))) ltL_nil) Z (C_num_Sum_1 (by assumption))
  · split at h
    · cases h
      exact C_Try_pan ent229 (ltL_c (lt_cptr (lt_sl Z ((TyOk.int .i64).ltm _ _))) ltL_nil) Z (C_num_Sum_P (by assumption))
    · cases h
theorem C_num_Sum {a1 : List Int} : Cn Pg 167 (num_Sum a1) [.sl 1 .no (List.map (V.int .i64) a1)] (fun r => .tup [(V.int .i64) r.1, (V.int .i64) r.2]) := by
  exact fs ⟨tb, [], [(0, [0])], false⟩ fn167 Z Z Z Z fun _ h => ec Z h ⟨fun _ h => C_Try_sum h⟩ ss fun r2 h => ef Z Z h rl Z Z
theorem C_vec_Sum {a1 : Vector Int 16} : Cn Pg 294 (vec_Sum a1) [E_A16_i64 a1] (fun r => .tup [(V.int .i64) r.1, (V.int .i64) r.2]) := by
  exact fs ⟨tb, [], [(0, [0])], false⟩ fn294 Z Z Z Z fun _ h => eo 0 Z (.sliceArr arr38 (lz Z) (by simp)) (ec Z h C_num_Sum (.cons (vsub Z (.forget _ _ _)) ss) fun r2 h => ef Z Z h rl Z Z)
theorem C_counter_given {a1 : TRights} {a2 : TRights} {a3 : Int} : Cn Pg 254 (counter_given a1 a2 a3) [E_TRights a1, E_TRights a2, (V.int .i64) a3] V.bool := by
  exact fs ⟨tb, [], [(0, [0, 1])], false⟩ fn254 Z Z Z Z fun _ h => ec Z h C_vec_Sum ss fun r4 h => ec Z h C_vec_Sum ss fun r5 h => ec Z h ⟨fun _ h => C_num_Add h⟩ ss fun r6 h => ef Z Z h.z rl Z Z
theorem C_counter_Right {a1 : TCounter} : Cn Pg 188 (counter_Right a1) [E_TCounter a1] V.bool := by
  refine fs ⟨tb, [], [(0, [0])], false⟩ fn188 Z Z Z Z fun _ h => ec Z h C_num_Is ss fun r2 h => ecG Z h Z C_num_Is ss fun r3 h => ecG Z h Z C_num_Is ss fun r4 h => eb Z h.z (fun h => ?_) fun h => ?_
  · exact ef Z Z h rl Z Z
  · exact ec Z h C_rights_Right ss fun r6 h => ecG Z h Z C_rights_Right ss fun r7 h => ecG Z h Z C_counter_given ss fun r8 h => ecG Z h Z C_counter_given ss fun r9 h => ef Z Z h.z rl Z Z
theorem C_hold_count {a1 : Int} : Cn Pg 272 (hold_count a1) [(V.int .i64) a1] V.bool := by
  exact fs c0 fn272 Z Z Z Z fun _ h => ecG Z h Z C_num_Is ss fun r2 h => ef Z Z h.z rl Z Z
theorem C_hold_Right {a1 : THold} : Cn Pg 236 (hold_Right a1) [E_THold a1] V.bool := by
  exact fs ⟨tb, [], [(0, [0])], false⟩ fn236 Z Z Z Z fun _ h => ecG Z h.z Z C_num_Is ss fun r3 h => ecG Z h Z C_hold_count ss fun r4 h => ecG Z h Z C_hold_count ss fun r5 h => ef Z Z h.z rl Z Z
theorem C_hold_compare {a1 : THold} {a2 : THold} {r : Int} (h : hold_compare a1 a2 = some r) : PureC Pg 238 [E_THold a1, E_THold a2] ((V.int .i64) r) := by
  refine .c 32 fn238 Z Z Z ?_; replace h := Ok.of h; unfold hold_compare at h; refine Wq o3 Z (Sv (.ptr 0 [] 0) [.cells (E_THold a1)] Z (.box l0 Z) Z Z trivial (Sv (.ptr 1 [] 0) [.cells (E_THold a1), .cells (E_THold a2)] Z (.box (lq 2 Z) Z) Z Z trivial (Sa Z cI ?_))); refine Nn (AWp.wk (Wk.freeze 0 Z Z (.cons (lw 2 Z) Z (.ptr .nil Z) (.l [0, 1] Z)) (.refl _)) (AWp.wk (Wk.freeze 1 Z Z (.cons (lw 2 Z) Z (.ptr .nil Z) (.l [0, 1] Z)) (.refl _)) (AWp.seq ?_))); refine Wq o12 Z (Ss Z (.faC Z Z (lq 1 Z) Z) (Ss Z (.ldC l0 Z) (Ss Z (.faC Z Z (lq 2 Z) Z) ?_))); refine Ss Z (.ldC l0 Z) (Ss Z (.buildArrL (w := E_A2_i64 (#v[a1.Replica, a2.Replica] : Vector Int 2)) arr323 zv323 (.cons (lq 2 Z) Z Z Z (.cons l0 Z Z Z .nil)) Z Z) (Ss Z (.faC Z Z (lq 6 Z) Z) (Ss Z (.ldC l0 Z) ?_))); refine Ss Z (.faC Z Z (lq 7 Z) Z) (Ss Z (.ldC l0 Z) (Ss Z (.buildArrL (w := E_A2_i64 (#v[a1.Number, a2.Number] : Vector Int 2)) arr323 zv323 (.cons (lq 2 Z) Z Z Z (.cons l0 Z Z Z .nil)) Z Z) (Ss Z (.buildArrL (w := E_A2_A2_i64 (#v[(#v[a1.Replica, a2.Replica] : Vector Int 2), (#v[a1.Number, a2.Number] : Vector Int 2)] : Vector (Vector Int 2) 2)) arr324 zv324 (.cons (lq 5 Z) Z Z (ty_A2_i64.fl (#v[a1.Replica, a2.Replica] : Vector Int 2)) (.cons l0 Z Z (ty_A2_i64.fl (#v[a1.Number, a2.Number] : Vector Int 2)) .nil)) Z Z) ?_))); refine Sa Z cI (Nn (Pr [0, 1, 14] Z (AWp.cutL (fun x5 => ⟨[(4, I 0)], []⟩) nc_then h (fun q3 hq3 h => ?_) (fun x5 h => ?_))))
  · refine AWp.block (AWp.loopT (fun s4 => ⟨[(18, I s4), (17, E_A2_A2_i64 (#v[(#v[a1.Replica, a2.Replica] : Vector Int 2), (#v[a1.Number, a2.Number] : Vector Int 2)] : Vector (Vector Int 2) 2)), (4, I 0)], []⟩) hq3 (Wk.selS [] (by decide) Z (sl [0, 1, 2] Z) .nil) (fun _ s4 h3 => ?_)); rw [hold_compare_L1] at h3; refine Wq o1 Z (Ss Z (.lss l0 cI) (Nn (AWp.seq ?_))); refine AWp.condM l0 h3 (fun c1 h3 => ?_) (fun c1 h3 => ?_)
    · refine AWp.skip (thenQ_n (AWp.seq (AWp.block ?_))); refine Wq o3 Z (h3.b fun k6 m6 h3 => Ss Z (.ixV arr324 (lq 2 Z) (lq 1 Z) m6 Z) (Sv (.ptr 0 [] 0) [.cells (E_A2_i64 (default : Vector Int 2))] Z (.alloc zv323) Z Z trivial (h3.n fun v7 ev7 h3 => ?_))); refine Sn [.cells (E_A2_i64 v7)] Z Z (.sw l0 (lq 1 Z) Z Z (congrArg (fun z => ([AObj.cells (E_A2_i64 z)] : List AObj)) ev7.symm)) Z trivial (Nn (AWp.wk (Wk.freeze 0 Z Z (.cons l0 Z (.ptr .nil Z) (.l [1, 2, 3, 4, 5] Z)) (.refl _)) (Wq o5 Z ?_))); refine h3.b fun k8 m8 h3 => Ss Z (.ixC arr323 l0 cI m8) (Ss Z (.ldC l0 Z) (h3.b fun k9 m9 h3 => Ss Z (.ixC arr323 (lq 2 Z) cI m9) (Ss Z (.ldC l0 Z) ?_))); refine Ss Z (.neq (lq 2 Z) l0) (Nn (AWp.condM l0 h3 (fun c2 h3 => ?_) (fun c2 h3 => ?_)))
      · refine .seq (Wq o5 Z (h3.b fun k10 m10 h3 => Ss Z (.ixC arr323 (lq 5 Z) cI m10) (Ss Z (.ldC l0 Z) ?_))); refine h3.b fun k11 m11 h3 => Ss Z (.ixC arr323 (lq 7 Z) cI m11) (Ss Z (.ldC l0 Z) (Ss Z (.lss (lq 2 Z) l0) (Nn ?_))); refine AWp.condM l0 h3 (fun c3 h3 => ?_) (fun c3 h3 => ?_)
        · refine Wq o1 Z (Sa Z cI (Nn (AWp.ret ?_))); refine thenQ_r (blockQ_r (thenQ_r (thenQ_r ?_))); refine blockQ_r (thenQ_r (thenQ_r ?_))
          have h := Ok.inrq h h3.ret
          obtain rfl := h.ret; exact e2 0 Z Z
        · refine AWp.skip (thenQ_n (Wq o1 Z (Sa Z cI ?_))); refine Nn (AWp.ret (blockQ_r (thenQ_r ?_))); refine thenQ_r (blockQ_r (thenQ_r (thenQ_r ?_)))
          have h := Ok.inrq h h3.ret
          obtain rfl := h.ret; exact e2 0 Z Z
      · refine AWp.skip (blockQ_n (thenQ_n (W.reg o2 Z ?_))); exact Ss Z (.add (lq 8 Z) cI) (Sa Z l0 (Nn ⟨_, h3.ret, (Wk.selS [] (by decide) Z (sl [0, 11, 12] Z) .nil)⟩))
    · refine AWp.exit (thenQ_x (thenQ_x (blockQ_x ?_))); exact thenQ_n ⟨_, h3.ret, (Wk.selS [] (by decide) Z (sl [3] Z) .nil)⟩
  · refine thenQ_n (Wq o1 Z (Sa Z cI (Nn ?_))); refine AWp.ret ?_; obtain rfl := h.ret; exact e2 0 Z Z
theorem C_hold_Rights {a1 : List THold} : Cn Pg 189 (hold_Rights a1) [.sl 5 .no (List.map E_THold a1)] V.bool := by
  refine fs ⟨tb, [], [(3, [0])], false⟩ fn189 Z Z Z Z fun _ h => eo 0 Z (.lenT sli46 (lz Z) (vsub Z (.refl _))) (elR0 1 [6, 5, 2, 0] [2, 0] Z h (fun s3 => [(7, I s3)]) (fun x4 => []) (wk0 Z) (fun q2 _ s3 h h2 => ?_) fun x4 h => ?_)
  · refine eb Z h2 (fun h2 => ?_) fun h2 => ?_
    · refine h2.b fun j5 m5 h2 => eo 0 Z (.ixS sli46 (lz Z) (lz Z) m5) (ed [] Z (edc Z h2.z C_hold_Right ss fun r7 h2 => h2.b fun j8 m8 h2 => edg 0 Z Z (fun hc hB => .ixS sli46 (lg hc Z) (lg hc Z) (gd_get m8 hB)) (edcG Z h2 Z ⟨fun _ h => C_hold_compare h⟩ ss fun r9 h2 => ?_))); refine ee Z (by kernel_rfl) (eb Z h2 (fun h2 => ?_) fun h2 => ?_)
      · have h := Ok.inrq h h2.ret
        exact ef Z Z h rl Z Z
      · exact ex Z h2.ret (wkI [] Z Z ss al (by decide) Z)
    · exact ex Z h2.ret (wk0 Z)
  · exact eo 0 Z (.lenT sli46 (lz Z) (vsub Z (.refl _))) (ef Z Z h.z rl Z Z)
theorem C_lock_Right_1 {a1 : Int} : Cn Pg 255 (lock_Right_1 a1) [(V.int .i64) a1] V.bool := by
  exact fs c0 fn255 Z Z Z Z fun _ h => ecG Z h Z C_num_Is ss fun r2 h => ef Z Z h.z rl Z Z
theorem C_lock_is {a1 : Int} : Cn Pg 240 (lock_is a1) [(V.int .i64) a1] V.bool := by
  exact fs c0 fn240 Z Z Z Z fun _ h => ef Z Z h.z rl Z Z
theorem C_lock_Right {a1 : TLock} : Cn Pg 190 (lock_Right a1) [E_TLock a1] V.bool := by
  exact fs ⟨tb, [], [(0, [0])], false⟩ fn190 Z Z Z Z fun _ h => ec Z h C_lock_Right_1 ss fun r2 h => ecG Z h Z C_lock_Right_1 ss fun r3 h => ecG Z h Z C_lock_is ss fun r4 h => ecG Z h Z C_num_Is ss fun r5 h => ef Z Z h.z rl Z Z
theorem C_field_Right {a1 : TField} : Cn Pg 127 (field_Right a1) [E_TField a1] V.bool := by
  refine fs ⟨tb, [], [(0, [0])], false⟩ fn127 Z Z Z Z fun _ h => ec Z h C_field_Name ss fun r2 h => ecG Z h Z C_num_Is ss fun r3 h => eb Z h (fun h => ?_) fun h => ?_
  · exact ef Z Z h rl Z Z
  · refine eb Z h (fun h => ?_) fun h => ?_
    · exact ec Z h C_counter_Right ss fun r4 h => ecG Z h Z C_hold_Rights ss fun r5 h => eg 0 Z Z (fun hc hB => .eqlT eqt45 eqk_TLock shk_TLock (lg hc Z) (lg hc Z) Z Z) (ef Z Z h.z rl Z Z)
    · refine eb Z h (fun h => ?_) fun h => ?_
      · exact ec Z h C_lock_Right ss fun r7 h => eg 0 Z Z (fun hc hB => .lenT sli46 (lg hc Z) (vsub Z (.refl _))) (eg 0 Z Z (fun hc hB => .eqlT eqt43 eqk_TCounter shk_TCounter (lg hc Z) (lg hc Z) Z Z) (ef Z Z h.z rl Z Z))
      · exact ef Z Z h rl Z Z
theorem C_plan_Fields {a1 : List TField} : Cn Pg 61 (plan_Fields a1) [.sl 587 .no (List.map E_TField a1)] V.bool := by
  refine fs ⟨tb, [], [(3, [0])], false⟩ fn61 Z Z Z Z fun _ h => eo 0 Z (.lenT sli22 (lz Z) (vsub Z (.refl _))) (elR0 1 [6, 5, 2, 0] [2, 0] Z h (fun s3 => [(7, I s3)]) (fun x4 => []) (wk0 Z) (fun q2 _ s3 h h2 => ?_) fun x4 h => ?_)
  · refine eb Z h2 (fun h2 => ?_) fun h2 => ?_
    · refine h2.b fun j5 m5 h2 => eo 0 Z (.ixS sli22 (lz Z) (lz Z) m5) (ed [] Z (edc Z h2.z C_field_Right ss fun r7 h2 => h2.b fun j8 m8 h2 => edg 0 Z Z (fun hc hB => .ixS sli22 (lg hc Z) (lg hc Z) (gd_get m8 hB)) (ee Z (by kernel_rfl) ?_))); refine eb Z h2.z (fun h2 => ?_) fun h2 => ?_
      · have h := Ok.inrq h h2.ret
        exact ef Z Z h rl Z Z
      · exact ex Z h2.ret (wkI [] Z Z ss al (by decide) Z)
    · exact ex Z h2.ret (wk0 Z)
  · exact eo 0 Z (.lenT sli22 (lz Z) (vsub Z (.refl _))) (ef Z Z h.z rl Z Z)
theorem C_state_own {a1 : List TField} : Cn Pg 86 (state_own a1) [.sl 587 .no (List.map E_TField a1)] E_S_TField := by
  refine fs c0 fn86 Z Z Z Z fun _ h => eo 0 Z (.lenT sli22 (lz Z) (vsub Z (.refl _))) (el 1 [7, 6, 2] [2] Z h (fun s3 => [(3, .sl 587 (.tok 0) (List.map E_TField s3.2)), (8, I s3.1)]) (fun s3 => [.tail]) (fun x4 => [(3, .sl 587 (.tok 0) (List.map E_TField x4))]) (fun x4 => [.tail]) (wkV (wkI [0] Z Z (.cons (vsub Z (.nils_tok _ _)) ss) al (by decide) Z)) (fun q2 _ s3 h2 => ?_) fun x4 h => ?_)
  · refine eb Z h2 (fun h2 => ?_) fun h2 => ?_
    · exact h2.b fun j5 m5 h2 => eo 0 Z (.ixS sli22 (lz Z) (lz Z) m5) (ec Z h2.z ⟨fun _ h => C_clone_153 h⟩ ss fun r7 h2 => h2.z.b fun l9 m9 h2 => eo 0 Z (.appT sli22 noi22 zv48 Z (by decide) (lz Z) Z (lz Z) Rd.sl m9 Z) (ex Z h2.ret (wkI [2] Z Z ss al (by decide) Z)))
    · exact ex Z h2.ret (wkI [0] Z Z ss al (by decide) Z)
  · exact ef Z Z h (.cons (.forget _ _ _) rl) Z Z
theorem C_state_New {a1 : Int} {a2 : Int} {a3 : List TField} : Cn Pg 34 (state_New a1 a2 a3) [(V.int .i64) a1, (V.int .i64) a2, .sl 587 .no (List.map E_TField a3)] (fun r => .tup [E_YseS r.1, (V.int .i64) r.2]) := by
  refine fs ⟨tb, [], [(1, [1])], false⟩ fn34 Z Z Z Z fun _ h => ec Z h C_barrier_New ss fun r4 h => ecG Z h Z C_plan_Fields ss fun r5 h => eb Z h.z (fun h => ?_) fun h => ?_
  · exact ef Z Z h.z rl Z Z
  · refine ec Z h C_state_own ss fun r8 h => eb Z h.z (fun h => ?_) fun h => ?_
    · exact ef Z Z h.z rl Z Z
    · exact ef Z Z h rl Z Z
theorem C_replica_Open_d {a2 : Int} {a3 : Int} {a4 : Int} {a5 : List TField} {b1 : Int} : Co2 Pg 8 (replica_Open_d a2 a3 a4 a5 b1) [(V.int .i64) a2, (V.int .i64) a3, (V.int .i64) a4, .sl 587 .no (List.map E_TField a5), .ptr 0 [] 0] [.cells (E_YdkD (dnew b1))] (fun r => .tup [.nilp, (V.int .i64) r.1]) (fun _ => .tup [.ptr 1 [] 0, (V.int .i64) 0]) (fun r => [.cells (E_YdkD r.2)]) (fun r => [.cells (E_YdkD r.1), .cells (.st [E_YseS r.2.1.s, .ptr 2 [] 0, (V.int .i64) r.2.1.version]), .cells (.st [.ptr 0 [] 0, .slo 1 3 [] 0 0 r.2.2.all.length 1]), .buf 1 (List.map E_S_u8 r.2.2.all)]) := by
  refine fo c0 fn8 Z Z Z Z Z fun _ h => ec Z h C_wire_Meet ss fun r6 h => eb Z h (fun h => ?_) fun h => ?_
  · exact efo [0] Z Z h Z rl Z Z al (by decide) Z
  · refine ech [0] Z h.u ((cor C_wlog_Open (r := (0, (dnew b1), (⟨[]⟩ : YwgL))) (by kernel_rfl)).u Z) ss Z al (by decide) fun _ h => ?_; refine ebF Z Z (ech [1, 0, 2] Z h.u (C_wlog_Log_Last_g.u (r := (([] : List Int), (false), (⟨[]⟩ : YwgL), (dnew b1))) (by kernel_rfl)) ss Z al (by decide) fun _ h => ?_); refine ebT Z Z (ec Z h C_state_New ss fun r7 h => eb Z h (fun h => ?_) fun h => ?_)
    · exact efo [0] Z Z h Z rl Z Z al (by decide) Z
    · exact efo [0, 3, 1, 2] Z Z h Z rl Z Z al (by decide) Z
theorem C_replica_Replica_change_Replica_Add_1_nil {a1 : ByteArray} {a2 : Int} : Co Pg 72 (replica_Replica_change_Replica_Add_1_nil a1 a2) [.nilp, V.str a1, .fn 73 [] [.cptr ((V.int .i64) a2)]] [] (fun _ => (V.int .i64) 10) (fun _ => []) := by
  exact fo c0 fn72 Z Z Z Z Z fun _ h => efo [] Z Z h Z rl Z Z al (by decide) Z
theorem C_replica_Replica_Add_nil {a1 : ByteArray} {a2 : Int} : Co Pg 29 (replica_Replica_Add_nil a1 a2) [.nilp, V.str a1, (V.int .i64) a2] [] (fun _ => (V.int .i64) 10) (fun _ => []) := by
  refine fo ⟨tb, [], [(0, [0])], false⟩ fn29 Z Z Z Z Z fun _ h => ech [] Z h C_replica_Replica_change_Replica_Add_1_nil ss Z al (by decide) fun r3 h => ?_; exact efo [] Z Z h Z rl Z Z al (by decide) Z
theorem C_replica_Replica_Change_nil {a1 : TPlan} {a2 : Int} : Co Pg 30 (replica_Replica_Change_nil a1 a2) [.nilp, E_TPlan a1, (V.int .i64) a2] [] (fun _ => (V.int .i64) 1) (fun _ => []) := by
  exact fo ⟨tb, [], [(0, [0])], false⟩ fn30 Z Z Z Z Z fun _ h => efo [] Z Z h Z rl Z Z al (by decide) Z
theorem C_replica_Replica_Read_nil {a1 : ByteArray} : Co Pg 11 (replica_Replica_Read_nil a1) [.nilp, V.str a1] [] (fun _ => .tup [(V.int .i64) 0, (V.int .i64) 10]) (fun _ => []) := by
  exact fo c0 fn11 Z Z Z Z Z fun _ h => efo [] Z Z h Z rl Z Z al (by decide) Z
theorem C_plan_Find_1 {a1 : TField} {a2 : ByteArray} : Cn Pg 40 (plan_Find_1 a1 a2) [E_TField a1, .cptr (V.str a2)] V.bool := by
  exact fs ⟨tb, [], [(0, [0])], false⟩ fn40 Z Z Z Z fun _ h => ef Z Z h rl Z Z
theorem C_slices_IndexFunc_Field_Find_1 {a1 : List TField} {a2 : ByteArray} : Cn Pg 39 (slices_IndexFunc_Field_Find_1 a1 a2) [.sl 587 .no (List.map E_TField a1), .fn 40 [] [.cptr (V.str a2)]] (V.int .i64) := by
  refine fs c0 fn39 Z Z Z Z fun _ h => eo 0 Z (.lenT sli22 (lz Z) (vsub Z (.refl _))) (elR0 1 [7, 4, 0, 1] [4] Z h (fun s4 => [(8, I s4)]) (fun x5 => []) (wk0 Z) (fun q3 _ s4 h h3 => ?_) fun x5 h => ?_)
  · refine eb Z h3 (fun h3 => ?_) fun h3 => ?_
    · refine h3.b fun j6 m6 h3 => eo 0 Z (.ixS sli22 (lz Z) (lz Z) m6) (ec Z h3.z C_plan_Find_1 ss fun r8 h3 => eb Z h3 (fun h3 => ?_) fun h3 => ?_)
      · have h := Ok.inrq h h3.ret
        exact ef Z Z h rl Z Z
      · exact ex Z h3.ret (wk0 Z)
    · exact ex Z h3.ret (wk0 Z)
  · exact ef Z Z h rl Z Z
theorem C_plan_Find {a1 : List TField} {a2 : ByteArray} : Cn Pg 12 (plan_Find a1 a2) [.sl 587 .no (List.map E_TField a1), V.str a2] (fun r => .tup [(V.int .i64) r.1, V.bool r.2]) := by
  exact fs ⟨tb, [], [(0, [0])], false⟩ fn12 Z Z Z Z fun _ h => ec Z h C_slices_IndexFunc_Field_Find_1 ss fun r3 h => ef Z Z h rl Z Z
theorem C_plan_Touched {a1 : TPlan} {a2 : ByteArray} : Cn Pg 112 (plan_Touched a1 a2) [E_TPlan a1, V.str a2] V.bool := by
  exact fs ⟨tb, [], [(0, [0])], false⟩ fn112 Z Z Z Z fun _ h => ef Z Z h.z rl Z Z
theorem C_state_Find {a1 : YseS} {a2 : ByteArray} : Cn Pg 136 (state_Find a1 a2) [E_YseS a1, V.str a2] (fun r => .tup [E_TField r.1, (V.int .i64) r.2]) := by
  refine fs ⟨tb, [], [(0, [0])], false⟩ fn136 Z Z Z Z fun _ h => ec Z h C_plan_Find ss fun r3 h => eb Z h (fun h => ?_) fun h => ?_
  · exact ef Z Z h.z rl Z Z
  · refine ecG Z h Z C_plan_Touched ss fun r5 h => eb Z h.z (fun h => ?_) fun h => ?_
    · exact ef Z Z h.z rl Z Z
    · exact h.b fun l8 m8 h => eo 0 Z (.slice_ssn sli22 (lz Z) (lz Z) (lz Z) m8) (ec Z h C_state_own ss fun r9 h => h.b fun j10 m10 h => eo 0 Z (.ixS sli22 (lz Z) cI m10) (ef Z Z h.z rl Z Z))
theorem C_rights_is {a1 : Int} : Cn Pg 271 (rights_is a1) [(V.int .i64) a1] V.bool := by
  exact fs c0 fn271 Z Z Z Z fun _ h => ef Z Z h.z rl Z Z
theorem C_rights_less {a1 : Vector Int 16} : Cn Pg 317 (rights_less a1) [E_A16_i64 a1] E_S_i64 := by
  refine fs ⟨tb, [], [(0, [0])], false⟩ fn317 Z Z Z Z fun _ h => el 1 [6, 2] [2] Z h (fun s3 => [(3, .sl 1 (.tok 0) (List.map I s3.2)), (7, I s3.1)]) (fun s3 => [.tail]) (fun x4 => [(3, .sl 1 (.tok 0) (List.map I x4))]) (fun x4 => [.tail]) (wkV (wkI [1] Z Z (.cons (vsub Z (.nils_tok _ _)) ss) al (by decide) Z)) (fun q2 _ s3 h2 => ?_) fun x4 h => ?_
  · refine eb Z h2 (fun h2 => ?_) fun h2 => ?_
    · exact h2.b fun k5 m5 h2 => eo 0 Z (.ixV arr38 (lz Z) (lz Z) m5 Z) (h2.b fun l6 m6 h2 => eo 0 Z (.appT sli67 noi67 zv3 Z (by decide) (lz Z) Z (lz Z) Rd.sl m6 Z) (ex Z h2.ret (wkI [1] Z Z ss al (by decide) Z)))
    · exact ex Z h2.ret (wkI [0] Z Z ss al (by decide) Z)
  · exact ef Z Z h (.cons (.forget _ _ _) rl) Z Z
theorem C_rights_Free {a1 : TRights} {a2 : Int} : Cn Pg 292 (rights_Free a1 a2) [E_TRights a1, (V.int .i64) a2] (fun r => .tup [(V.int .i64) r.1, (V.int .i64) r.2]) := by
  refine fs ⟨tb, [], [(0, [0]), (6, [1])], false⟩ fn292 Z Z Z Z fun _ h => ec Z h C_rights_is ss fun r3 h => eb Z h (fun h => ?_) fun h => ?_
  · exact ef Z Z h rl Z Z
  · refine h.b fun k4 m4 h => eo 0 Z (.ixC arr38 (lz Z) (lz Z) m4) (el 1 [18, 2, 5, 4, 1] [2, 5, 4, 1] Z h (fun s6 => [(6, .sl 1 (.tok 0) (List.map I s6.2)), (19, I s6.1)]) (fun s6 => [.tail]) (fun x7 => [(6, .sl 1 (.tok 0) (List.map I x7))]) (fun x7 => [.tail]) (wkV (wkI [1] Z Z (.cons (vsub Z (.tok _ _ _)) ss) al (by decide) Z)) (fun q5 _ s6 h5 => ?_) fun x7 h => ?_)
    · refine eb Z h5 (fun h5 => ?_) fun h5 => ?_
      · exact h5.b fun k8 m8 h5 => eo 0 Z (.ixV arr39 (lz Z) (lz Z) m8 Z) (h5.z.b fun k10 m10 h5 => eo 0 Z (.ixC arr38 (lz Z) (lz Z) m10) (h5.b fun l11 m11 h5 => eo 0 Z (.appT sli67 noi67 zv3 Z (by decide) (lz Z) Z (lz Z) Rd.sl m11 Z) (ex Z h5.ret (wkI [2] Z Z ss al (by decide) Z))))
      · exact ex Z h5.ret (wkI [0] Z Z ss al (by decide) Z)
    · refine h.b fun k12 m12 h => eo 0 Z (.ixC arr38 (lz Z) (lz Z) m12) (h.b fun l13 m13 h => eo 0 Z (.appT sli67 noi67 zv3 Z (by decide) (lz Z) Z (lz Z) Rd.sl m13 Z) (h.b fun k14 m14 h => eo 0 Z (.ixC arr39 (lz Z) (lz Z) m14) (ec Z h.z C_rights_less ss fun r16 h => ?_))); exact h.b fun l17 m17 h => eo 0 Z (.appT sli67 noi67 zv3 Z (by decide) (lz Z) Z (lz Z) Rd.sl m17 Z) (ec Z h C_num_Sum (.cons (vsub Z (.forget _ _ _)) ss) fun r18 h => ef Z Z h rl Z Z)
theorem C_rights_enough {a1 : TRights} {a2 : Int} {a3 : Int} : Cn Pg 262 (rights_enough a1 a2 a3) [E_TRights a1, (V.int .i64) a2, (V.int .i64) a3] (V.int .i64) := by
  refine fs ⟨tb, [], [(0, [0])], false⟩ fn262 Z Z Z Z fun _ h => eb Z h (fun h => ?_) fun h => ?_
  · exact ef Z Z h rl Z Z
  · refine ec Z h C_rights_Free ss fun r4 h => eb Z h (fun h => ?_) fun h => ?_
    · exact ef Z Z h rl Z Z
    · refine eb Z h (fun h => ?_) fun h => ?_
      · exact ef Z Z h rl Z Z
      · exact ef Z Z h rl Z Z
theorem C_vec_Grow {a1 : Vector Int 16} {a2 : Int} {a3 : Int} : Cn Pg 263 (vec_Grow a1 a2 a3) [E_A16_i64 a1, (V.int .i64) a2, (V.int .i64) a3] (fun r => .tup [E_A16_i64 r.1, (V.int .i64) r.2]) := by
  refine fs c0 fn263 Z Z Z Z fun _ h => eb Z h (fun h => ?_) fun h => ?_
  · exact eo 0 Z (.buildArrL (w := E_A16_i64 (default : Vector Int 16)) arr38 zv38 .nil Z Z) (ef Z Z h.z rl Z Z)
  · refine h.b fun k5 m5 h => eo 1 Z (.ixP arr38 (lz Z) (lz Z) m5) (eo 0 Z (.ldP (lz Z) Z (.vc k5 .nil) (by first | rfl | omega) Z) (ec Z h ⟨fun _ h => C_num_Add h⟩ ss fun r6 h => eb Z h (fun h => ?_) fun h => ?_))
    · exact eo 0 Z (.buildArrL (w := E_A16_i64 (default : Vector Int 16)) arr38 zv38 .nil Z Z) (ef Z Z h.z rl Z Z)
    · exact h.b fun k8 m8 h => eo 1 Z (.ixP arr38 (lz Z) (lz Z) m8) (h.n fun v9 ev9 h => est 0 Z (.sP (lz Z) (lz Z) Z (.refl _) Z (.vc k8 .nil) (by first | rfl | omega) (.vc r6.1 k8 .nil) Z) (congrArg E_A16_i64 ev9.symm) (ef Z Z h rl Z Z))
theorem C_rights_Use {a1 : TRights} {a2 : Int} {a3 : Int} : Cn Pg 198 (rights_Use a1 a2 a3) [E_TRights a1, (V.int .i64) a2, (V.int .i64) a3] (fun r => .tup [E_TRights r.1, (V.int .i64) r.2]) := by
  refine fs c0 fn198 Z Z Z Z fun _ h => ec Z h C_rights_enough ss fun r4 h => eb Z h (fun h => ?_) fun h => ?_
  · refine ec Z h C_vec_Grow ss fun r5 h => eb Z h (fun h => ?_) fun h => ?_
    · exact ef Z Z h.z rl Z Z
    · exact ef Z Z h.z rl Z Z
  · refine eb Z h (fun h => ?_) fun h => ?_
    · exact ef Z Z h.z rl Z Z
    · exact ef Z Z h.z rl Z Z
theorem C_counter_Inc_1 {a2 : Int} {a3 : Int} {b1 : TCounter} : Co Pg 197 (counter_Inc_1 a2 a3 b1) [.ptr 0 [] 0, .cptr ((V.int .i64) a2), .cptr ((V.int .i64) a3)] [.cells (E_TCounter b1)] (fun r => .tup [E_TRights r.1, (V.int .i64) r.2.1]) (fun r => [.cells (E_TCounter r.2.2)]) := by
  exact fo c0 fn197 Z Z Z Z Z fun _ h => ec Z h C_rights_Use ss fun r4 h => efo [0] Z Z h Z rl Z Z al (by decide) Z
theorem C_rights_Give {a1 : TRights} {a2 : Int} {a3 : Int} : Cn Pg 200 (rights_Give a1 a2 a3) [E_TRights a1, (V.int .i64) a2, (V.int .i64) a3] (fun r => .tup [E_TRights r.1, (V.int .i64) r.2]) := by
  refine fs ⟨tb, [], [(1, [2])], false⟩ fn200 Z Z Z Z fun _ h => ec Z h C_vec_Grow ss fun r4 h => eb Z h (fun h => ?_) fun h => ?_
  · exact ef Z Z h.z rl Z Z
  · exact ef Z Z h.z rl Z Z
theorem C_counter_Inc_2 {a2 : Int} {a3 : Int} {b1 : TCounter} : Co Pg 199 (counter_Inc_2 a2 a3 b1) [.ptr 0 [] 0, .cptr ((V.int .i64) a2), .cptr ((V.int .i64) a3)] [.cells (E_TCounter b1)] (fun r => .tup [E_TRights r.1, (V.int .i64) r.2.1]) (fun r => [.cells (E_TCounter r.2.2)]) := by
  exact fo c0 fn199 Z Z Z Z Z fun _ h => ec Z h C_rights_Give ss fun r4 h => efo [0] Z Z h Z rl Z Z al (by decide) Z
theorem C_counter_Inc_3 {a2 : TRights} {a3 : TRights} {b1 : TCounter} : Co Pg 201 (counter_Inc_3 a2 a3 b1) [E_TRights a2, E_TRights a3, .ptr 0 [] 0] [.cells (E_TCounter b1)] (fun _ => .tup []) (fun r => [.cells (E_TCounter r)]) := by
  exact fo ⟨tb, [], [(0, [1, 2])], false⟩ fn201 Z Z Z Z Z fun _ h => ed [] Z (ee Z (by kernel_rfl) (efo [0] Z Z h.z.z Z rl Z Z al (by decide) Z))
theorem C_counter_both_Inc_1_Inc_2_Inc_3 {a2 : TCounter} {a3 : Int} {a4 : Int} {a5 : Int} {a6 : Int} {b1 : TCounter} : Co Pg 196 (counter_both_Inc_1_Inc_2_Inc_3 a2 a3 a4 a5 a6 b1) [E_TCounter a2, .fn 197 [] [.ptr 0 [] 0, .cptr ((V.int .i64) a3), .cptr ((V.int .i64) a4)], .fn 199 [] [.ptr 0 [] 0, .cptr ((V.int .i64) a5), .cptr ((V.int .i64) a6)], .fn 201 [] [.ptr 0 [] 0]] [.cells (E_TCounter b1)] (fun r => (V.int .i64) r.1) (fun r => [.cells (E_TCounter r.2)]) := by
  refine fo ⟨tb, [], [(0, [1]), (1, [2]), (4, [3])], false⟩ fn196 Z Z Z Z Z fun _ h => ech [0] Z h C_counter_Inc_1 ss Z al (by decide) fun r7 h => ?_; refine eb Z h (fun h => ?_) fun h => ?_
  · exact efo [0] Z Z h Z rl Z Z al (by decide) Z
  · refine ech [0] Z h C_counter_Inc_2 ss Z al (by decide) fun r8 h => ?_; refine eb Z h (fun h => ?_) fun h => ?_
    · refine ech [0] Z h C_counter_Inc_3 ss Z al (by decide) fun r9 h => ?_; exact efo [0] Z Z h Z rl Z Z al (by decide) Z
    · exact efo [0] Z Z h Z rl Z Z al (by decide) Z
theorem C_counter_done {a1 : TCounter} {a2 : Int} : Cn Pg 202 (counter_done a1 a2) [E_TCounter a1, (V.int .i64) a2] (fun r => .tup [E_TCounter r.1, (V.int .i64) r.2]) := by
  refine fs ⟨tb, [], [(0, [0])], false⟩ fn202 Z Z Z Z fun _ h => eb Z h (fun h => ?_) fun h => ?_
  · exact ef Z Z h.z rl Z Z
  · exact ef Z Z h rl Z Z
theorem C_counter_Inc {a1 : TCounter} {a2 : Int} {a3 : Int} : Cn Pg 138 (counter_Inc a1 a2 a3) [E_TCounter a1, (V.int .i64) a2, (V.int .i64) a3] (fun r => .tup [E_TCounter r.1, (V.int .i64) r.2]) := by
  refine fs ⟨tb, [], [(0, [1, 2])], false⟩ fn138 Z Z Z Z fun _ h => ech [0] Z h C_counter_both_Inc_1_Inc_2_Inc_3 ss Z al (by decide) fun r4 h => ?_; exact ec Z h C_counter_done ss fun r5 h => ef Z Z h rl Z Z
theorem C_field_changed {a1 : TField} {a2 : TCounter} {a3 : Int} : Cn Pg 139 (field_changed a1 a2 a3) [E_TField a1, E_TCounter a2, (V.int .i64) a3] (fun r => .tup [E_TField r.1, (V.int .i64) r.2]) := by
  exact fs ⟨tb, [], [(0, [1])], false⟩ fn139 Z Z Z Z fun _ h => ec Z h.z C_field_done ss fun r5 h => ef Z Z h rl Z Z
theorem C_counter_Room {a1 : TCounter} {a2 : Int} : Cn Pg 251 (counter_Room a1 a2) [E_TCounter a1, (V.int .i64) a2] (fun r => .tup [(V.int .i64) r.1, (V.int .i64) r.2]) := by
  exact fs ⟨tb, [], [(0, [0])], false⟩ fn251 Z Z Z Z fun _ h => ec Z h C_rights_Free ss fun r3 h => ec Z h C_rights_Free ss fun r4 h => ef Z Z h rl Z Z
theorem C_hold_Sum {a1 : List THold} {a2 : Int} : Cn Pg 252 (hold_Sum a1 a2) [.sl 5 .no (List.map E_THold a1), (V.int .i64) a2] (V.int .i64) := by
  refine fs ⟨tb, [], [(4, [0])], false⟩ fn252 Z Z Z Z fun _ h => eo 0 Z (.lenT sli46 (lz Z) (vsub Z (.refl _))) (el0 1 [9, 8, 4, 1] [4] Z h (fun s4 => [(10, I s4.1), (5, I s4.2)]) (fun x5 => [(5, I x5)]) (wk0 Z) (fun q3 _ s4 h3 => ?_) fun x5 h => ?_)
  · refine eb Z h3 (fun h3 => ?_) fun h3 => ?_
    · refine h3.b fun j6 m6 h3 => eo 0 Z (.ixS sli46 (lz Z) (lz Z) m6) (eb Z h3.z (fun h3 => ?_) fun h3 => ?_)
      · exact ex Z h3.z.ret (wkI [] Z Z ss al (by decide) Z)
      · exact ex Z h3.ret (wkI [] Z Z ss al (by decide) Z)
    · exact ex Z h3.ret (wk0 Z)
  · exact ef Z Z h rl Z Z
theorem C_field_Loose {a1 : TField} {a2 : Int} : Cn Pg 187 (field_Loose a1 a2) [E_TField a1, (V.int .i64) a2] (fun r => .tup [(V.int .i64) r.1, (V.int .i64) r.2]) := by
  refine fs ⟨tb, [], [(0, [0])], false⟩ fn187 Z Z Z Z fun _ h => eb Z h (fun h => ?_) fun h => ?_
  · exact ef Z Z h rl Z Z
  · exact ec Z h C_counter_Room ss fun r3 h => ec Z h C_hold_Sum ss fun r4 h => ef Z Z h rl Z Z
theorem C_field_lacks {a1 : TField} {a2 : Int} {a3 : Int} : Cn Pg 141 (field_lacks a1 a2 a3) [E_TField a1, (V.int .i64) a2, (V.int .i64) a3] (V.int .i64) := by
  refine fs ⟨tb, [], [(0, [0])], false⟩ fn141 Z Z Z Z fun _ h => ec Z h C_field_Loose ss fun r4 h => eb Z h (fun h => ?_) fun h => ?_
  · exact ef Z Z h rl Z Z
  · refine eb Z h (fun h => ?_) fun h => ?_
    · exact ef Z Z h rl Z Z
    · exact ef Z Z h rl Z Z
theorem C_counter_Dec_1 {a2 : Int} {a3 : Int} {b1 : TCounter} : Co Pg 203 (counter_Dec_1 a2 a3 b1) [.ptr 0 [] 0, .cptr ((V.int .i64) a2), .cptr ((V.int .i64) a3)] [.cells (E_TCounter b1)] (fun r => .tup [E_TRights r.1, (V.int .i64) r.2.1]) (fun r => [.cells (E_TCounter r.2.2)]) := by
  exact fo c0 fn203 Z Z Z Z Z fun _ h => ec Z h C_rights_Use ss fun r4 h => efo [0] Z Z h Z rl Z Z al (by decide) Z
theorem C_counter_Dec_2 {a2 : Int} {a3 : Int} {b1 : TCounter} : Co Pg 204 (counter_Dec_2 a2 a3 b1) [.ptr 0 [] 0, .cptr ((V.int .i64) a2), .cptr ((V.int .i64) a3)] [.cells (E_TCounter b1)] (fun r => .tup [E_TRights r.1, (V.int .i64) r.2.1]) (fun r => [.cells (E_TCounter r.2.2)]) := by
  exact fo c0 fn204 Z Z Z Z Z fun _ h => ec Z h C_rights_Give ss fun r4 h => efo [0] Z Z h Z rl Z Z al (by decide) Z
theorem C_counter_Dec_3 {a2 : TRights} {a3 : TRights} {b1 : TCounter} : Co Pg 205 (counter_Dec_3 a2 a3 b1) [E_TRights a2, E_TRights a3, .ptr 0 [] 0] [.cells (E_TCounter b1)] (fun _ => .tup []) (fun r => [.cells (E_TCounter r)]) := by
  exact fo ⟨tb, [], [(0, [1, 2])], false⟩ fn205 Z Z Z Z Z fun _ h => ed [] Z (ee Z (by kernel_rfl) (efo [0] Z Z h.z.z Z rl Z Z al (by decide) Z))
theorem C_counter_both_Dec_1_Dec_2_Dec_3 {a2 : TCounter} {a3 : Int} {a4 : Int} {a5 : Int} {a6 : Int} {b1 : TCounter} : Co Pg 196 (counter_both_Dec_1_Dec_2_Dec_3 a2 a3 a4 a5 a6 b1) [E_TCounter a2, .fn 203 [] [.ptr 0 [] 0, .cptr ((V.int .i64) a3), .cptr ((V.int .i64) a4)], .fn 204 [] [.ptr 0 [] 0, .cptr ((V.int .i64) a5), .cptr ((V.int .i64) a6)], .fn 205 [] [.ptr 0 [] 0]] [.cells (E_TCounter b1)] (fun r => (V.int .i64) r.1) (fun r => [.cells (E_TCounter r.2)]) := by
  refine fo ⟨tb, [], [(0, [1]), (1, [2]), (4, [3])], false⟩ fn196 Z Z Z Z Z fun _ h => ech [0] Z h C_counter_Dec_1 ss Z al (by decide) fun r7 h => ?_; refine eb Z h (fun h => ?_) fun h => ?_
  · exact efo [0] Z Z h Z rl Z Z al (by decide) Z
  · refine ech [0] Z h C_counter_Dec_2 ss Z al (by decide) fun r8 h => ?_; refine eb Z h (fun h => ?_) fun h => ?_
    · refine ech [0] Z h C_counter_Dec_3 ss Z al (by decide) fun r9 h => ?_; exact efo [0] Z Z h Z rl Z Z al (by decide) Z
    · exact efo [0] Z Z h Z rl Z Z al (by decide) Z
theorem C_counter_Dec {a1 : TCounter} {a2 : Int} {a3 : Int} : Cn Pg 142 (counter_Dec a1 a2 a3) [E_TCounter a1, (V.int .i64) a2, (V.int .i64) a3] (fun r => .tup [E_TCounter r.1, (V.int .i64) r.2]) := by
  refine fs ⟨tb, [], [(0, [1, 2])], false⟩ fn142 Z Z Z Z fun _ h => ech [0] Z h C_counter_both_Dec_1_Dec_2_Dec_3 ss Z al (by decide) fun r4 h => ?_; exact ec Z h C_counter_done ss fun r5 h => ef Z Z h rl Z Z
theorem C_field_Add {a1 : TField} {a2 : Int} {a3 : Int} : Cn Pg 74 (field_Add a1 a2 a3) [E_TField a1, (V.int .i64) a2, (V.int .i64) a3] (fun r => .tup [E_TField r.1, (V.int .i64) r.2]) := by
  refine fs ⟨tb, [], [(0, [0]), (4, [2]), (11, [2])], false⟩ fn74 Z Z Z Z fun _ h => eb Z h (fun h => ?_) fun h => ?_
  · refine eb Z h (fun h => ?_) fun h => ?_
    · exact ef Z Z h.z rl Z Z
    · exact ec Z h C_counter_Inc ss fun r5 h => ec Z h C_field_changed ss fun r6 h => ef Z Z h rl Z Z
  · refine ecG Z h Z C_num_Is ss fun r7 h => eb Z h (fun h => ?_) fun h => ?_
    · exact ef Z Z h.z rl Z Z
    · refine ec Z h C_field_lacks ss fun r9 h => eb Z h (fun h => ?_) fun h => ?_
      · exact ef Z Z h.z rl Z Z
      · exact ec Z h C_counter_Dec ss fun r11 h => ec Z h C_field_changed ss fun r12 h => ef Z Z h rl Z Z
theorem C_replica_Replica_Add_1 {a1 : TField} {a2 : Int} {a3 : Int} : Cn Pg 73 (replica_Replica_Add_1 a1 a2 a3) [E_TField a1, (V.int .i64) a2, .cptr ((V.int .i64) a3)] (fun r => .tup [E_TField r.1, (V.int .i64) r.2]) := by
  exact fs ⟨tb, [], [(0, [0])], false⟩ fn73 Z Z Z Z fun _ h => ec Z h C_field_Add ss fun r4 h => ef Z Z h rl Z Z
theorem C_state_own_own {a1 : List TField} {r : (List TField)} (h : state_own_own a1 = some r) : CallSpec Pg 86 [.sl 587 .no (List.map E_TField a1)] [] fun o H' => o = .ret (.slo 587 0 [] 0 0 r.length 1) ∧ H' = [.buf 587 (List.map E_TField r)] := by
  refine CallSpec.of_bodyF 22 0 fn86 Z Z Z (Nat.le_of_ble_eq_true Z) ?_; replace h := Ok.of h; unfold state_own_own at h; refine Wq o1 Z (Sa Z cNs (Nw o1 Z (Sa Z cNs ?_))); refine Nn (AWp.seq (Wq o3 Z (Sm 2 Z Z ?_))); refine Ss Z (.lenT sli22 l0 (vsub Z (.refl _))) (Sa Z cI (Nn (AWp.wk (Wk.nilbuf 587 (lw 3 Z)) ?_))); refine AWp.cutX (fun x4 => ⟨[(3, .slo 587 0 [] 0 0 x4.length 1), (2, .nils)], [.buf 587 (List.map E_TField x4)]⟩) nc_then h (fun q2 hq2 => ?_) (fun x4 h => ?_)
  · refine AWp.block (AWp.loopT (fun s3 => ⟨[(3, .slo 587 0 [] 0 0 s3.1.length 1), (8, I s3.2), (7, I (a1.length : Int)), (6, .sl 587 .no (List.map E_TField a1)), (2, .nils)], [.buf 587 (List.map E_TField s3.1)]⟩) hq2 (Wk.selS [0] (by decide) Z (SelE.spec l0 Z (.slo (by first | rfl | simp)) Z Z (sl [1, 2, 3, 5] Z)) (.cons (lt_buf ty_TField) Z (ASub.refl _) .nil)) (fun _ s3 h2 => ?_)); rw [state_own_own_L1] at h2; refine Wq o1 Z (Ss Z (.lss (lq 1 Z) (lq 2 Z)) (Nn (AWp.seq ?_))); refine AWp.condM l0 h2 (fun c1 h2 => ?_) (fun c1 h2 => ?_)
    · refine AWp.skip (thenQ_n (AWp.seq (AWp.block ?_))); refine Wq o4 Z (h2.b fun j5 m5 h2 => Ss Z (.ixS sli22 (lq 4 Z) (lq 2 Z) m5) (h2.n fun v6 ev6 h2 => Ss Z (.nv (.ldC l0 Z) (congrArg E_TField ev6.symm)) (Sv (.ptr 1 [] 0) [.buf 587 (List.map E_TField s3.1), .cells (z48)] Z (.alloc zv48) Z Z trivial ?_))); refine Sn [.buf 587 (List.map E_TField s3.1), .cells (E_TField v6)] Z Z (.sw l0 (lq 1 Z) Z Z Z) Z trivial (Nw o5 Z (Ss Z (.fieldAddr lay48 Z Z l0) (Su Z (.ldP l0 Z (.f Z .nil) Z Z) ?_))); refine h2.b fun r7 m7 h2 => Ss Z (.cq (cr l0 .nil) (C_clone_153 m7) Z) (Ss Z (.fieldAddr lay48 Z Z (lq 3 Z)) (h2.n fun v8 ev8 h2 => Sn [.buf 587 (List.map E_TField s3.1), .cells (E_TField v8)] Z Z (.sP l0 (lq 1 Z) Z (.refl _) Z (.f Z .nil) Z (.st Z .nil Z) (congrArg (fun z => ([.buf 587 (List.map E_TField s3.1), AObj.cells (E_TField z)] : List AObj)) ev8.symm)) Z trivial (Nn ?_))); refine W.reg o5 Z (Sm 8 Z Z (Su Z (.ldP (lq 5 Z) Z .nil Z Z) (Ss Z (.buildSliceW sli22 zv48 Z Z (by decide) (.cons l0 Z (.refl _) (ty_TField.fl v8) .nil)) ?_))); refine h2.b fun l9 m9 h2 => Sv (.slo 587 2 [] 0 0 l9.length 1) [.dead, .cells (E_TField v8), .buf 587 (List.map E_TField l9)] Z (.appOwnT sli22 noi22 zv48 Z (by decide) (lq 2 Z) Z (by first | rfl | simp) l0 Rd.sl m9 Z) Z Z trivial (Sa Z l0 (S.nil (blockQ_n ?_))); refine thenQ_n (W.reg o2 Z (Ss Z (.add (lq 14 Z) cI) (Sa Z l0 ?_))); exact Nn ⟨_, h2.ret, (Wk.selS [2] (by decide) Z (SelE.spec (lw 2 Z) Z (.slo (by first | rfl | simp)) Z Z (sl [0, 17, 18, 19] Z)) (hb Z .nil))⟩
    · refine AWp.exit (thenQ_x (thenQ_x (blockQ_x ?_))); exact thenQ_n ⟨_, h2.ret, (Wk.selS [0] (by decide) Z (SelE.spec (lw 1 Z) Z (.slo (by first | rfl | simp)) Z Z (sl [5] Z)) (hb Z .nil))⟩
  · refine thenQ_n (Wq o2 Z (Sa Z l0 (Sa Z l0 ?_))); refine Nn (AWp.ret ?_); obtain rfl := h.ret; exact endF1 Z (Wk.selS [0] (by decide) Z (SelE.spec (v := .slo 587 0 [] 0 0 x4.length 1) l0 Z (.slo (by first | rfl | simp)) Z Z .nil) (hb Z .nil)) (.tmp l0 Z) Z Z
theorem C_state_Copy_own {a1 : YseS} {r : YseS} (h : state_Copy_own a1 = some r) : CallSpec Pg 50 [E_YseS a1] [] fun o H' => o = .ret (.st [(V.int .i64) r.Self, (V.int .i64) r.N, (V.int .i64) r.Clock, (V.int .i64) r.Decided, (V.int .i64) r.Frozen, E_TPlan r.Plan, .slo 587 0 [] 0 0 r.Fields.length 1, E_YbrB r.Barrier]) ∧ H' = [.buf 587 (List.map E_TField r.Fields)] := by
  refine CallSpec.of_bodyF 20 0 fn50 Z Z Z (Nat.le_of_ble_eq_true Z) ?_; replace h := Ok.of h; unfold state_Copy_own at h; refine Wq o2 Z (Sv (.ptr 0 [] 0) [.cells (E_YseS a1)] Z (.box l0 Z) Z Z trivial (Sv (.ptr 1 [] 0) [.cells (E_YseS a1), .cells (z64)] Z (.alloc zv64) Z Z trivial (Nn ?_))); refine .seq (W.regD [0, 1, 3, 4, 5, 7, 8, 9, 2, 6, 10, 11, 12, 13, 14, 15, 16, 17, 18] mixed (Ss Z (.fieldAddr lay64 Z Z (lq 1 Z)) (Su Z (.ldP l0 Z (.f Z .nil) Z Z) ?_))); refine Ss Z (.fieldAddr lay64 Z Z (lq 3 Z)) (Ss Z (.fieldAddr lay62 Z Z l0) (Su Z (.ldP l0 Z (.f Z (.f Z .nil)) Z Z) (Ss Z (.fieldAddr lay64 Z Z (lq 6 Z)) ?_))); refine Ss Z (.fieldAddr lay62 Z Z l0) (Su Z (.ldP l0 Z (.f Z (.f Z .nil)) Z Z) (h.b fun r2 m2 h => S.new 5 Z Z (.nv (v2 := .slo 587 2 [] 0 0 r2.length 1) (.callN ent86 cF [] (C_state_own_own m2) .nil .nil (ltL_c (ty_S_TField.lt _ _) ltL_nil) (.c (lq 6 Z) (vsubr (V.sub.refl _) (ty_S_TField.lt _ 0)) .nil) Z (mapc (ren_buf ty_TField _) Z) Z) Z) trivial (h.b fun r3 m3 h => ?_))); refine S.new 9 Z Z (.nv (v2 := .slo 587 3 [] 0 0 r3.length 1) (.callN ent86 cF [] (C_state_own_own m3) .nil .nil (ltL_c (ty_S_TField.lt _ _) ltL_nil) (.c (lq 4 Z) (vsubr (V.sub.refl _) (ty_S_TField.lt _ 0)) .nil) Z (mapc (ren_buf ty_TField _) Z) Z) Z) trivial (h.b fun r4 m4 h => S.new 13 Z Z (.nv (v2 := .slo 587 4 [] 0 0 r4.length 1) (.callN ent86 cF [] (C_state_own_own m4) .nil .nil (ltL_c (ty_S_TField.lt _ _) ltL_nil) (.c (lq 2 Z) (vsubr (V.sub.refl _) (ty_S_TField.lt _ 0)) .nil) Z (mapc (ren_buf ty_TField _) Z) Z) Z) trivial (Ss Z (.fieldAddr lay64 Z Z (lq 12 Z)) (Sn [.cells (.st [I a1.Self, I a1.N, I a1.Clock, I a1.Decided, I a1.Frozen, E_TPlan a1.Plan, .slo 587 2 [] 0 0 r2.length 1, E_YbrB a1.Barrier]), .cells (z64), .buf 587 (List.map E_TField r2), .buf 587 (List.map E_TField r3), .buf 587 (List.map E_TField r4)] Z Z (.sP l0 (lq 3 Z) Z (.refl _) Z (.f Z .nil) Z (.st Z .nil Z) Z) Z trivial ?_))); refine Ss Z (.fieldAddr lay64 Z Z (lq 13 Z)) (Ss Z (.fieldAddr lay62 Z Z l0) (Sn [.cells (.st [I a1.Self, I a1.N, I a1.Clock, I a1.Decided, I a1.Frozen, E_TPlan a1.Plan, .slo 587 2 [] 0 0 r2.length 1, .st [I a1.Barrier.N, I a1.Barrier.State, I a1.Barrier.Number, I a1.Barrier.Epoch, E_TPlan a1.Barrier.Plan, I a1.Barrier.Due, I a1.Barrier.Acked, I a1.Barrier.Told, .slo 587 3 [] 0 0 r3.length 1, E_S_TField a1.Barrier.Made]]), .cells (z64), .buf 587 (List.map E_TField r2), .buf 587 (List.map E_TField r3), .buf 587 (List.map E_TField r4)] Z Z (.sP l0 (lq 4 Z) Z (.refl _) Z (.f Z (.f Z .nil)) Z (.st Z (.st Z .nil Z) Z) Z) Z trivial (Ss Z (.fieldAddr lay64 Z Z (lq 15 Z)) ?_))); refine Ss Z (.fieldAddr lay62 Z Z l0) (Sn [.cells (.st [I a1.Self, I a1.N, I a1.Clock, I a1.Decided, I a1.Frozen, E_TPlan a1.Plan, .slo 587 2 [] 0 0 r2.length 1, .st [I a1.Barrier.N, I a1.Barrier.State, I a1.Barrier.Number, I a1.Barrier.Epoch, E_TPlan a1.Barrier.Plan, I a1.Barrier.Due, I a1.Barrier.Acked, I a1.Barrier.Told, .slo 587 3 [] 0 0 r3.length 1, .slo 587 4 [] 0 0 r4.length 1]]), .cells (z64), .buf 587 (List.map E_TField r2), .buf 587 (List.map E_TField r3), .buf 587 (List.map E_TField r4)] Z Z (.sP l0 (lq 5 Z) Z (.refl _) Z (.f Z (.f Z .nil)) Z (.st Z (.st Z .nil Z) Z) Z) Z trivial (S.nilD (by kernel_rfl) (thenQ_n ?_))); refine Pr [16, 17] Z (Wq o2 Z (Su Z (.ldP (lq 1 Z) Z .nil Z Z) (Sn [.cells (.st [I a1.Self, I a1.N, I a1.Clock, I a1.Decided, I a1.Frozen, E_TPlan a1.Plan, .slo 587 2 [] 0 0 r2.length 1, .st [I a1.Barrier.N, I a1.Barrier.State, I a1.Barrier.Number, I a1.Barrier.Epoch, E_TPlan a1.Barrier.Plan, I a1.Barrier.Due, I a1.Barrier.Acked, I a1.Barrier.Told, .slo 587 3 [] 0 0 r3.length 1, .slo 587 4 [] 0 0 r4.length 1]]), .cells (.st [I a1.Self, I a1.N, I a1.Clock, I a1.Decided, I a1.Frozen, E_TPlan a1.Plan, .slo 587 2 [] 0 0 r2.length 1, .st [I a1.Barrier.N, I a1.Barrier.State, I a1.Barrier.Number, I a1.Barrier.Epoch, E_TPlan a1.Barrier.Plan, I a1.Barrier.Due, I a1.Barrier.Acked, I a1.Barrier.Told, .slo 587 3 [] 0 0 r3.length 1, .slo 587 4 [] 0 0 r4.length 1]]), .buf 587 (List.map E_TField r2), .buf 587 (List.map E_TField r3), .buf 587 (List.map E_TField r4)] Z Z (.sw (lq 1 Z) l0 Z Z Z) Z trivial ?_))); refine Nn (AWp.ret (endF_wk (Wk.freeze 1 Z Z (.cons (lw 1 Z) Z (.ptr .nil Z) .nil) (.refl _)) (endF_wk (Wk.freeze 3 Z Z (.cons l0 Z (.cptr (.st (.cons (.refl _) (.cons (.refl _) (.cons (.refl _) (.cons (.refl _) (.cons (.refl _) (.cons (.refl _) (.cons (.refl _) (.cons (.st (.cons (.refl _) (.cons (.refl _) (.cons (.refl _) (.cons (.refl _) (.cons (.refl _) (.cons (.refl _) (.cons (.refl _) (.cons (.refl _) (.cons (.slo (by first | rfl | simp)) (.cons (.refl _) .nil))))))))))) .nil)))))))))) .nil) (.cons (AFz.cells (.st (.cons (.refl _) (.cons (.refl _) (.cons (.refl _) (.cons (.refl _) (.cons (.refl _) (.cons (.refl _) (.cons (.refl _) (.cons (.st (.cons (.refl _) (.cons (.refl _) (.cons (.refl _) (.cons (.refl _) (.cons (.refl _) (.cons (.refl _) (.cons (.refl _) (.cons (.refl _) (.cons (.slo (by first | rfl | simp)) (.cons (.refl _) .nil))))))))))) .nil)))))))))) (.cons (.refl _) (.cons (.refl _) (.cons Z (.cons (.refl _) .nil)))))) ?_))); refine endF_wk (Wk.freeze 4 Z Z (.cons l0 Z (.cptr (.st (.cons (.refl _) (.cons (.refl _) (.cons (.refl _) (.cons (.refl _) (.cons (.refl _) (.cons (.refl _) (.cons (.refl _) (.cons (.st (.cons (.refl _) (.cons (.refl _) (.cons (.refl _) (.cons (.refl _) (.cons (.refl _) (.cons (.refl _) (.cons (.refl _) (.cons (.refl _) (.cons (.refl _) (.cons (.slo (by first | rfl | simp)) .nil))))))))))) .nil)))))))))) .nil) (.cons (AFz.cells (.st (.cons (.refl _) (.cons (.refl _) (.cons (.refl _) (.cons (.refl _) (.cons (.refl _) (.cons (.refl _) (.cons (.refl _) (.cons (.st (.cons (.refl _) (.cons (.refl _) (.cons (.refl _) (.cons (.refl _) (.cons (.refl _) (.cons (.refl _) (.cons (.refl _) (.cons (.refl _) (.cons (.refl _) (.cons (.slo (by first | rfl | simp)) .nil))))))))))) .nil)))))))))) (.cons (.refl _) (.cons (.refl _) (.cons (.refl _) (.cons Z .nil)))))) ?_; obtain rfl := h.ret; exact endF1 Z (Wk.selS [2] (by decide) Z (SelE.spec l0 Z (.cptr (.st (.cons (.refl _) (.cons (.refl _) (.cons (.refl _) (.cons (.refl _) (.cons (.refl _) (.cons (.refl _) (.cons (.slo (by first | rfl | simp)) (.cons (.refl _) .nil)))))))))) (ren_cptr (ren_st (renL_c ((TyOk.int .i64).cl _ _) (renL_c ((TyOk.int .i64).cl _ _) (renL_c ((TyOk.int .i64).cl _ _) (renL_c ((TyOk.int .i64).cl _ _) (renL_c ((TyOk.int .i64).cl _ _) (renL_c (ty_TPlan.cl _ _) (renL_so (f := fun k => [2].getD k 0) (o := 0) (renL_c (ren_st (renL_c ((TyOk.int .i64).cl _ _) (renL_c ((TyOk.int .i64).cl _ _) (renL_c ((TyOk.int .i64).cl _ _) (renL_c ((TyOk.int .i64).cl _ _) (renL_c (ty_TPlan.cl _ _) (renL_c ((TyOk.int .i64).cl _ _) (renL_c ((TyOk.int .i64).cl _ _) (renL_c ((TyOk.int .i64).cl _ _) (renL_c (ren_slno ty_TField _) (renL_c (ren_slno ty_TField _) Z))))))))))) renL_n)))))))))) (lt_cptr (lt_st (ltL_c ((TyOk.int .i64).lt _ _) (ltL_c ((TyOk.int .i64).lt _ _) (ltL_c ((TyOk.int .i64).lt _ _) (ltL_c ((TyOk.int .i64).lt _ _) (ltL_c ((TyOk.int .i64).lt _ _) (ltL_c (ty_TPlan.lt _ _) (ltL_c Z (ltL_c (lt_st (ltL_c ((TyOk.int .i64).lt _ _) (ltL_c ((TyOk.int .i64).lt _ _) (ltL_c ((TyOk.int .i64).lt _ _) (ltL_c ((TyOk.int .i64).lt _ _) (ltL_c (ty_TPlan.lt _ _) (ltL_c ((TyOk.int .i64).lt _ _) (ltL_c ((TyOk.int .i64).lt _ _) (ltL_c ((TyOk.int .i64).lt _ _) (ltL_c (lt_sl Z (ty_TField.ltm _ _)) (ltL_c (lt_sl Z (ty_TField.ltm _ _)) ltL_nil))))))))))) ltL_nil)))))))))) .nil) (hb Z .nil)) (.cellC sz64 ag64 l0 (fl_st (flL_c (show flen _ = 1 from Z) (flL_c (show flen _ = 1 from Z) (flL_c (show flen _ = 1 from Z) (flL_c (show flen _ = 1 from Z) (flL_c (show flen _ = 1 from Z) (flL_c (ty_TPlan.fl a1.Plan) (flL_c (show flen _ = 1 from Z) (flL_c (fl_st (flL_c (show flen _ = 1 from Z) (flL_c (show flen _ = 1 from Z) (flL_c (show flen _ = 1 from Z) (flL_c (show flen _ = 1 from Z) (flL_c (ty_TPlan.fl a1.Barrier.Plan) (flL_c (show flen _ = 1 from Z) (flL_c (show flen _ = 1 from Z) (flL_c (show flen _ = 1 from Z) (flL_c (show flen _ = 1 from Z) (flL_c (show flen _ = 1 from Z) flL_nil))))))))))) flL_nil))))))))) Z) Z Z
theorem C_slices_IndexFunc_Field_Find_1_b {a2 : ByteArray} {b1 : List TField} : Co Pg 39 (slices_IndexFunc_Field_Find_1_b a2 b1) [.slo 587 0 [] 0 0 b1.length 1, .fn 40 [] [.cptr (V.str a2)]] [.buf 587 (List.map E_TField b1)] (fun r => (V.int .i64) r) (fun _ => [.buf 587 (List.map E_TField b1)]) := by
  refine fo c0 fn39 Z Z Z Z Z fun _ h => elR0 1 [0, 7, 4, 1] [4] Z h (fun s4 => [(8, I s4)]) (fun x5 => []) (wk0 Z) (fun q3 _ s4 h h3 => ?_) fun x5 h => ?_
  · refine eb Z h3 (fun h3 => ?_) fun h3 => ?_
    · refine h3.b fun j6 m6 h3 => eo 1 Z (.ixO sli22 (lz Z) (lz Z) (by first | rfl | simp) m6) (h3.n fun v7 ev7 h3 => eo 0 Z (.nv (.loadB sz48 ag48 (lz Z) Z (.ls (by first | exact lsm m6 | (have := six_lt m6; simp at this ⊢; omega)) .nil) (by first | omega | rfl) (ty_TField.fl (b1.getD j6 default)) Z) (congrArg E_TField ev7.symm)) (ec Z h3 C_plan_Find_1 ss fun r8 h3 => eb Z h3 (fun h3 => ?_) fun h3 => ?_))
      · have h := Ok.inrq h h3.ret
        exact efo [0] Z Z h Z rl Z Z al (by decide) Z
      · exact ex Z h3.ret (wk0 Z)
    · exact ex Z h3.ret (wk0 Z)
  · exact efo [0] Z Z h Z rl Z Z al (by decide) Z
theorem C_plan_Find_b {a2 : ByteArray} {b1 : List TField} : Co Pg 12 (plan_Find_b a2 b1) [.slo 587 0 [] 0 0 b1.length 1, V.str a2] [.buf 587 (List.map E_TField b1)] (fun r => .tup [(V.int .i64) r.1, V.bool r.2]) (fun _ => [.buf 587 (List.map E_TField b1)]) := by
  refine fo ⟨tb, [], [(0, [1])], false⟩ fn12 Z Z Z Z Z fun _ h => ech [0] Z h C_slices_IndexFunc_Field_Find_1_b ss Z al (by decide) fun r3 h => ?_; exact efo [0] Z Z h Z rl Z Z al (by decide) Z
theorem C_state_With {a1 : YseS} {a2 : TField} {r : YseS} (h : state_With a1 a2 = some r) : PureC Pg 137 [E_YseS a1, E_TField a2] (E_YseS r) := by
  refine .c 28 fn137 Z Z Z ?_; replace h := Ok.of h; unfold state_With at h; refine Wq o3 Z (Sv (.ptr 0 [] 0) [.cells (E_YseS a1)] Z (.box l0 Z) Z Z trivial (Sv (.ptr 1 [] 0) [.cells (E_YseS a1), .cells (E_TField a2)] Z (.box (lq 2 Z) Z) Z Z trivial (Sv (.ptr 2 [] 0) [.cells (E_YseS a1), .cells (E_TField a2), .cells (z64)] Z (.alloc zv64) Z Z trivial ?_))); refine Nn (AWp.wk (Wk.freeze 1 Z Z (.cons (lw 1 Z) Z (.ptr .nil Z) (.l [0, 2] Z)) (.refl _)) (Wq o3 Z (Su Z (.ldP (lq 2 Z) Z .nil Z Z) ?_))); refine h.b fun r3 m3 h => Sv (.st [I r3.Self, I r3.N, I r3.Clock, I r3.Decided, I r3.Frozen, E_TPlan r3.Plan, .slo 587 3 [] 0 0 r3.Fields.length 1, E_YbrB r3.Barrier]) [.cells (E_YseS a1), .dead, .cells (z64), .buf 587 (List.map E_TField r3.Fields)] Z (.callN ent50 cF [] (C_state_Copy_own m3) .nil .nil (ltL_c (ty_YseS.lt _ _) ltL_nil) (.c l0 (vsubr (V.sub.refl _) (ty_YseS.lt _ 0)) .nil) (ren_st (renL_c ((TyOk.int .i64).cl _ _) (renL_c ((TyOk.int .i64).cl _ _) (renL_c ((TyOk.int .i64).cl _ _) (renL_c ((TyOk.int .i64).cl _ _) (renL_c ((TyOk.int .i64).cl _ _) (renL_c (ty_TPlan.cl _ _) (renL_c Z (renL_c (ty_YbrB.cl _ _) Z))))))))) (mapc (ren_buf ty_TField _) Z) Z) Z Z trivial (Sn [.cells (.st [I r3.Self, I r3.N, I r3.Clock, I r3.Decided, I r3.Frozen, E_TPlan r3.Plan, .slo 587 3 [] 0 0 r3.Fields.length 1, E_YbrB r3.Barrier]), .dead, .cells (z64), .buf 587 (List.map E_TField r3.Fields)] Z Z (.sw (lq 4 Z) l0 Z Z Z) Z trivial (Nn (AWp.seq ?_))); refine Wq o10 Z (Ss Z (.fieldAddr lay64 Z Z (lq 4 Z)) (Su Z (.ldP l0 Z (.f Z .nil) Z Z) (Ss Z (.faC Z Z (lq 4 Z) Z) ?_))); refine Ss Z (.ldC l0 Z) (h.b fun r4 m4 h => Sv (.tup [I r4.1, V.bool r4.2]) [.cells (.st [I r3.Self, I r3.N, I r3.Clock, I r3.Decided, I r3.Frozen, E_TPlan r3.Plan, .slo 587 3 [] 0 0 r3.Fields.length 1, E_YbrB r3.Barrier]), .dead, .cells (z64), .buf 587 (List.map E_TField r3.Fields)] Z (.callH ent12 cF [3] (C_plan_Find_b.p _ m4) (by decide) (hb Z .nil) (ltL_c Z (ltL_c (TyOk.str.lt _ _) ltL_nil)) (.c (lq 2 Z) (subren (congrArg (fun n => V.slo 587 3 [] 0 0 n 1) (by first | rfl | simp))) (.c l0 (vsubr (V.sub.refl _) (TyOk.str.lt _ _)) .nil)) (ren_tup (renL_c ((TyOk.int .i64).cl _ _) (renL_c (TyOk.bool.cl _ _) Z))) (mapc (ren_buf ty_TField _) Z) Z) Z Z trivial (Sa Z l0 (Ss Z (.extract l0 Z) ?_))); refine Ss Z (.extract (lq 1 Z) Z) (Sm 1 Z Z (Sm 1 Z Z (Nn ?_))); refine Pr [0, 1, 12, 13, 14] Z (Wq o1 Z (Sa Z l0 (Nn ?_))); refine AWp.condM l0 h (fun c1 h => ?_) (fun c1 h => ?_)
  · refine W.regF (fun H => H[0]? = some (.cells (.st [I r3.Self, I r3.N, I r3.Clock, I r3.Decided, I r3.Frozen, E_TPlan r3.Plan, .slo 587 3 [] 0 0 r3.Fields.length 1, E_YbrB r3.Barrier]))) Z [0, 1, 2, 3, 4, 5, 6, 7, 8, 9] mixed (Ss Z (.fieldAddr lay64 Z Z (lq 5 Z)) (Sf Z (fun hF => .ldP (b := false) l0 hF (.f Z .nil) Z Z) (Sm 4 Z Z ?_))); refine Ss Z (.ldC (lq 6 Z) Z) (Ss Z (.buildSliceW sli22 zv48 Z Z (by decide) (.cons l0 Z (.refl _) (ty_TField.fl a2) .nil)) (h.b fun r5 m5 h => Ss Z (.cq (.c l0 (vsub Z (.forget _ _ _)) .nil) (C_state_own.p _ m5) Z) (h.b fun j6 m6 h => ?_))); refine Ss Z (.ixS sli22 l0 cI m6) (h.n fun v7 ev7 h => Ss Z (.nv (.ldC l0 Z) (congrArg E_TField ev7.symm)) (h.b fun j8 m8 h => Ss Z (.ixO sli22 (lq 6 Z) (lq 5 Z) (by first | rfl | simp) m8) (h.n fun v9 ev9 h => ?_))); refine Sn [.cells (.st [I r3.Self, I r3.N, I r3.Clock, I r3.Decided, I r3.Frozen, E_TPlan r3.Plan, .slo 587 3 [] 0 0 r3.Fields.length 1, E_YbrB r3.Barrier]), .dead, .cells (z64), .buf 587 (List.map E_TField v9)] Z Z (.storeB sz48 l0 (lq 1 Z) Z (.refl _) Z (.ls (by first | exact lsm m8 | (have := six_lt m8; simp at this ⊢; omega)) .nil) (by first | omega | rfl) (.ls v7 (by first | exact lsm m8 | (have := six_lt m8; simp at this ⊢; omega)) .nil) (ty_TField.fl v7) (ty_TField.fl (r3.Fields.getD j8 default)) (congrArg (fun z => ([.cells (.st [I r3.Self, I r3.N, I r3.Clock, I r3.Decided, I r3.Frozen, E_TPlan r3.Plan, .slo 587 3 [] 0 0 r3.Fields.length 1, E_YbrB r3.Barrier]), .dead, .cells (z64), AObj.buf 587 (List.map E_TField z)] : List AObj)) ev9.symm)) Z Z (S.nilD (by kernel_rfl) (thenQ_n (Pr [13, 14] Z ?_))); refine Wq o2 Z (Su Z (.ldP (lq 1 Z) Z .nil Z Z) (Sn [.cells (.st [I r3.Self, I r3.N, I r3.Clock, I r3.Decided, I r3.Frozen, E_TPlan r3.Plan, .slo 587 3 [] 0 0 r3.Fields.length 1, E_YbrB r3.Barrier]), .dead, .cells (.st [I r3.Self, I r3.N, I r3.Clock, I r3.Decided, I r3.Frozen, E_TPlan r3.Plan, .slo 587 3 [] 0 0 r3.Fields.length 1, E_YbrB r3.Barrier]), .buf 587 (List.map E_TField v9)] Z Z (.sw (lq 1 Z) l0 Z Z Z) Z trivial (Nn ?_))); refine AWp.ret (endF_wk (Wk.freeze 2 Z Z (.cons (lw 1 Z) Z (.ptr .nil Z) .nil) (.refl _)) (endF_wk (Wk.freeze 3 Z Z (.cons l0 Z (.cptr (.st (.cons (.refl _) (.cons (.refl _) (.cons (.refl _) (.cons (.refl _) (.cons (.refl _) (.cons (.refl _) (.cons (.slo (by first | rfl | simp [ev9, ev7])) (.cons (.refl _) .nil)))))))))) .nil) (.cons (AFz.cells (.st (.cons (.refl _) (.cons (.refl _) (.cons (.refl _) (.cons (.refl _) (.cons (.refl _) (.cons (.refl _) (.cons (.slo (by first | rfl | simp [ev9, ev7])) (.cons (.refl _) .nil)))))))))) (.cons (.refl _) (.cons (.refl _) (.cons Z .nil))))) ?_)); obtain rfl := h.ret; exact endF1 Z (Wk.z [0] Z) (.cellC sz64 ag64 l0 (ty_YseS.fl _) Z) Z Z
  · refine AWp.skip (thenQ_n (Wq o2 Z (Su Z (.ldP (lq 5 Z) Z .nil Z Z) ?_))); refine Sn [.cells (.st [I r3.Self, I r3.N, I r3.Clock, I r3.Decided, I r3.Frozen, E_TPlan r3.Plan, .slo 587 3 [] 0 0 r3.Fields.length 1, E_YbrB r3.Barrier]), .dead, .cells (.st [I r3.Self, I r3.N, I r3.Clock, I r3.Decided, I r3.Frozen, E_TPlan r3.Plan, .slo 587 3 [] 0 0 r3.Fields.length 1, E_YbrB r3.Barrier]), .buf 587 (List.map E_TField r3.Fields)] Z Z (.sw (lq 5 Z) l0 Z Z Z) Z trivial (Nn (AWp.ret (endF_wk (Wk.freeze 2 Z Z (.cons (lw 5 Z) Z (.ptr .nil Z) .nil) (.refl _)) ?_))); refine endF_wk (Wk.freeze 3 Z Z (.cons l0 Z (.cptr (.st (.cons (.refl _) (.cons (.refl _) (.cons (.refl _) (.cons (.refl _) (.cons (.refl _) (.cons (.refl _) (.cons (.slo (by first | rfl | simp)) (.cons (.refl _) .nil)))))))))) .nil) (.cons (AFz.cells (.st (.cons (.refl _) (.cons (.refl _) (.cons (.refl _) (.cons (.refl _) (.cons (.refl _) (.cons (.refl _) (.cons (.slo (by first | rfl | simp)) (.cons (.refl _) .nil)))))))))) (.cons (.refl _) (.cons (.refl _) (.cons Z .nil))))) ?_; obtain rfl := h.ret; exact endF1 Z (Wk.z [0] Z) (.cellC sz64 ag64 l0 (ty_YseS.fl _) Z) Z Z
theorem C_slices_Equal_Hold {a1 : List THold} {a2 : List THold} : Cn Pg 126 (slices_Equal_Hold a1 a2) [.sl 5 .no (List.map E_THold a1), .sl 5 .no (List.map E_THold a2)] V.bool := by
  refine fs c0 fn126 Z Z Z Z fun _ h => eo 0 Z (.lenT sli46 (lz Z) (vsub Z (.refl _))) (eo 0 Z (.lenT sli46 (lz Z) (vsub Z (.refl _))) (eb Z h (fun h => ?_) fun h => ?_))
  · exact ef Z Z h rl Z Z
  · refine eo 0 Z (.lenT sli46 (lz Z) (vsub Z (.refl _))) (elR0 1 [12, 4, 0, 1] [4] Z h (fun s4 => [(13, I s4)]) (fun x5 => []) (wk0 Z) (fun q3 _ s4 h h3 => ?_) fun x5 h => ?_)
    · refine eb Z h3 (fun h3 => ?_) fun h3 => ?_
      · refine ed [] Z (h3.b fun j6 m6 h3 => edo 0 Z (.ixS sli46 (lz Z) (lz Z) m6) (h3.z.b fun j8 m8 h3 => edo 0 Z (.ixS sli46 (lz Z) (lz Z) m8) (edo 0 Z (.neqT eqt186 eqk_THold shk_THold (lz Z) (lz Z) Z Z) ?_))); refine ee Z (by kernel_rfl) (eb Z h3.z (fun h3 => ?_) fun h3 => ?_)
        · have h := Ok.inrq h h3.ret
          exact ef Z Z h rl Z Z
        · exact ex Z h3.ret (wk0 Z)
      · exact ex Z h3.ret (wk0 Z)
    · exact ef Z Z h rl Z Z
theorem C_field_Same {a1 : TField} {a2 : TField} : Cn Pg 56 (field_Same a1 a2) [E_TField a1, E_TField a2] V.bool := by
  exact fs ⟨tb, [], [(0, [0, 1])], false⟩ fn56 Z Z Z Z fun _ h => eg 0 Z Z (fun hc hB => .eqlT eqt43 eqk_TCounter shk_TCounter (lg hc Z) (lg hc Z) Z Z) (eg 0 Z Z (fun hc hB => .eqlT eqt45 eqk_TLock shk_TLock (lg hc Z) (lg hc Z) Z Z) (ecG Z h.z.z Z C_slices_Equal_Hold ss fun r5 h => ef Z Z h rl Z Z))
theorem C_slices_EqualFunc_Field_field_Same {a1 : List TField} {a2 : List TField} : Cn Pg 55 (slices_EqualFunc_Field_field_Same a1 a2) [.sl 587 .no (List.map E_TField a1), .sl 587 .no (List.map E_TField a2), .fn 56 [] []] V.bool := by
  refine fs ⟨tb, [], [(5, [0]), (6, [1])], false⟩ fn55 Z Z Z Z fun _ h => eo 0 Z (.lenT sli22 (lz Z) (vsub Z (.refl _))) (eo 0 Z (.lenT sli22 (lz Z) (vsub Z (.refl _))) (eb Z h (fun h => ?_) fun h => ?_))
  · exact ef Z Z h rl Z Z
  · refine eo 0 Z (.lenT sli22 (lz Z) (vsub Z (.refl _))) (elR0 1 [16, 15, 6, 1, 2] [6] Z h (fun s4 => [(17, I s4)]) (fun x5 => []) (wk0 Z) (fun q3 _ s4 h h3 => ?_) fun x5 h => ?_)
    · refine eb Z h3 (fun h3 => ?_) fun h3 => ?_
      · refine h3.b fun j6 m6 h3 => eo 0 Z (.ixS sli22 (lz Z) (lz Z) m6) (h3.z.b fun j8 m8 h3 => eo 0 Z (.ixS sli22 (lz Z) (lz Z) m8) (ec Z h3.z C_field_Same ss fun r10 h3 => eb Z h3 (fun h3 => ?_) fun h3 => ?_))
        · have h := Ok.inrq h h3.ret
          exact ef Z Z h rl Z Z
        · exact ex Z h3.ret (wkI [] Z Z ss al (by decide) Z)
      · exact ex Z h3.ret (wk0 Z)
    · exact ef Z Z h rl Z Z
theorem C_state_Same_1 {a1 : List TField} {a2 : List TField} : Cn Pg 54 (state_Same_1 a1 a2) [.sl 587 .no (List.map E_TField a1), .sl 587 .no (List.map E_TField a2)] V.bool := by
  exact fs c0 fn54 Z Z Z Z fun _ h => ec Z h C_slices_EqualFunc_Field_field_Same ss fun r3 h => ef Z Z h rl Z Z
theorem C_state_Same {a1 : YseS} {a2 : YseS} {r : Bool} (h : state_Same a1 a2 = some r) : PureC Pg 16 [E_YseS a1, E_YseS a2] (V.bool r) := by
  refine .c 131 fn16 Z Z Z ?_; replace h := Ok.of h; unfold state_Same at h; refine Wq o3 Z (Sv (.ptr 0 [] 0) [.cells (E_YseS a1)] Z (.box l0 Z) Z Z trivial (Sv (.ptr 1 [] 0) [.cells (E_YseS a1), .cells (E_YseS a2)] Z (.box (lq 2 Z) Z) Z Z trivial (Sa Z cB ?_))); refine Nn (AWp.wk (Wk.freeze 0 Z Z (.cons (lw 2 Z) Z (.ptr .nil Z) (.l [0, 1] Z)) (.refl _)) (AWp.wk (Wk.freeze 1 Z Z (.cons (lw 2 Z) Z (.ptr .nil Z) (.l [0, 1] Z)) (.refl _)) (Wq o1 Z ?_))); refine Sa Z cF (Nn (AWp.seq (W.regE 4 5 [0, 1, 2, 3, 4, 5, 6, 7] [0, 1, 2, 3, 5, 4, 6, 7] (fun _ => True) trivial mixed Z (by kernel_rfl) ?_ ?_)))
  · refine Ss Z (.faC Z Z (lq 2 Z) Z) (Ss Z (.ldC l0 Z) (Ss Z (.faC Z Z (lq 3 Z) Z) (Ss Z (.ldC l0 Z) ?_))); refine S.new 6 Z Z (.nv (v2 := .ptr 2 [] 0) (.alloc zv62) Z) trivial (S.new 7 Z Z (.nv (v2 := .ptr 3 [] 0) (.alloc zv62) Z) trivial (Sn [.dead, .dead, .cells (E_YbrB a1.Barrier), .cells (z62)] Z Z (.sw (lq 1 Z) (lq 4 Z) Z Z Z) Z trivial (Sn [.dead, .dead, .cells (E_YbrB a1.Barrier), .cells (E_YbrB a2.Barrier)] Z Z (.sw l0 (lq 2 Z) Z Z Z) Z trivial ?_))); refine S.nilD (by kernel_rfl) (thenQ_n (AWp.wk (Wk.freeze 2 Z Z (.cons (lw 1 Z) Z (.ptr .nil Z) (.l [0, 6, 7, 8, 9] Z)) (.refl _)) (AWp.wk (Wk.freeze 3 Z Z (.cons (lw 1 Z) Z (.ptr .nil Z) (.l [0, 2, 3, 4, 5] Z)) (.refl _)) ?_))); refine .seq (Wq [0, 1, 2, 3, 4, 5, 6, 7, 8, 9, 10, 11, 12, 13, 14, 15, 16, 17, 18, 19, 20, 21, 22, 23, 24, 25, 26, 27, 28, 29, 30, 31, 32, 33, 34, 35, 36, 37, 38, 39, 40, 41, 42, 43, 44, 45, 46, 47, 48] Z (Ss Z (.faC Z Z (lq 4 Z) Z) (Ss Z (.ldC l0 Z) ?_))); refine Ss Z (.faC Z Z (lq 5 Z) Z) (Ss Z (.ldC l0 Z) (Ss Z (.neq (lq 2 Z) l0) (Sa Z l0 ?_))); refine Sg Z l0 (.faC Z Z (lq 10 Z) Z) (Sj Z (lq 1 Z) (fun hB => .ldC (i0 hB) Z) (Sg Z (lq 2 Z) (.faC Z Z (lq 11 Z) Z) (Sj Z (lq 3 Z) (fun hB => .ldC (i0 hB) Z) ?_))); refine Sj Z (lq 4 Z) (fun hB => .neq (ifT hB (lq 2 Z)) (i0 hB)) (Ss Z (.pickOr (lq 5 Z) cB i0) (Sa Z l0 (Sg Z l0 (.faC Z Z (lq 17 Z) Z) ?_))); refine Sj Z (lq 1 Z) (fun hB => .ldC (i0 hB) Z) (Sg Z (lq 2 Z) (.faC Z Z (lq 18 Z) Z) (Sj Z (lq 3 Z) (fun hB => .ldC (i0 hB) Z) (Sj Z (lq 4 Z) (fun hB => .neq (ifT hB (lq 2 Z)) (i0 hB)) ?_))); refine h.n fun v3 ev3 h => Ss Z (.nv (.pickOr (lq 5 Z) cB i0) (congrArg V.bool ev3.symm)) (Sa Z l0 (Sg Z l0 (.faC Z Z (lq 24 Z) Z) (Sj Z (lq 1 Z) (fun hB => .ldC (i0 hB) Z) ?_))); refine Sg Z (lq 2 Z) (.faC Z Z (lq 25 Z) Z) (Sj Z (lq 3 Z) (fun hB => .ldC (i0 hB) Z) (Sj Z (lq 4 Z) (fun hB => .neq (ifT hB (lq 2 Z)) (i0 hB)) (Ss Z (.pickOr (lq 5 Z) cB i0) ?_))); refine Sa Z l0 (Sg Z l0 (.faC Z Z (lq 31 Z) Z) (Sj Z (lq 1 Z) (fun hB => .ldC (i0 hB) Z) (Sg Z (lq 2 Z) (.faC Z Z (lq 32 Z) Z) ?_))); refine Sj Z (lq 3 Z) (fun hB => .ldC (i0 hB) Z) (Sj Z (lq 4 Z) (fun hB => .neq (ifT hB (lq 2 Z)) (i0 hB)) (h.n fun v4 ev4 h => Ss Z (.nv (.pickOr (lq 5 Z) cB i0) (congrArg V.bool ev4.symm)) (Sa Z l0 ?_))); refine Sg Z l0 (.faC Z Z (lq 38 Z) Z) (Sj Z (lq 1 Z) (fun hB => .ldC (i0 hB) Z) (Sg Z (lq 2 Z) (.faC Z Z (lq 39 Z) Z) (Sj Z (lq 3 Z) (fun hB => .ldC (i0 hB) Z) ?_))); refine Sj Z (lq 4 Z) (fun hB => .neqT eqt51 eqk_TPlan shk_TPlan (ifT hB (lq 2 Z)) (i0 hB) Z Z) (Ss Z (.pickOr (lq 5 Z) cB i0) (Sa Z l0 (Sg Z l0 (.move (lq 43 Z)) ?_))); refine Sg Z (lq 1 Z) (.faC Z Z (lq 46 Z) Z) (Sj Z (lq 2 Z) (fun hB => .ldC (i0 hB) Z) (Sg Z (lq 3 Z) (.faC Z Z (lq 47 Z) Z) (Sj Z (lq 4 Z) (fun hB => .ldC (i0 hB) Z) ?_))); refine h.b fun r5 m5 h => Sj Z (lq 5 Z) (fun hB => .callQ ent54 (ifT hB (lq 4 Z)) (cr (ifT hB (lq 2 Z)) (cr (i0 hB) .nil)) (C_state_Same_1.p _ (gd_get m5 hB))) (Sj Z (lq 6 Z) (fun hB => .not (i0 hB)) (Ss Z (.pickOr (lq 7 Z) cB i0) (Nn ?_))); refine Pr [0, 49, 50, 51, 54] Z (AWp.condM l0 h (fun c1 h => ?_) (fun c1 h => ?_))
    · refine Wq o1 Z (Sa Z cB (Nn (AWp.ret ?_))); refine thenQ_r ?_; obtain rfl := h.ret; exact e2 0 Z Z
    · refine AWp.skip (thenQ_n (Wq [0, 1, 2, 3, 4, 5, 6, 7, 8, 9, 10, 11, 12, 13, 14, 15, 16, 17, 18, 19, 20, 21, 22, 23, 24, 25, 26, 27, 28, 29, 30, 31, 32, 33, 34, 35, 36, 37, 38, 39, 40, 41, 42, 43, 44, 45, 46, 47, 48, 49, 50, 51, 52, 53, 54, 55, 56, 57, 58, 59, 60, 61, 62, 63, 64, 65, 66, 67, 68, 69, 70] Z (Ss Z (.faC Z Z (lq 2 Z) Z) ?_))); refine Ss Z (.ldC l0 Z) (Ss Z (.faC Z Z (lq 3 Z) Z) (Ss Z (.ldC l0 Z) (Ss Z (.eql (lq 2 Z) l0) ?_))); refine Sa Z l0 (Sg Z l0 (.faC Z Z (lq 8 Z) Z) (Sj Z (lq 1 Z) (fun hB => .ldC (i0 hB) Z) (Sg Z (lq 2 Z) (.faC Z Z (lq 9 Z) Z) ?_))); refine Sj Z (lq 3 Z) (fun hB => .ldC (i0 hB) Z) (Sj Z (lq 4 Z) (fun hB => .eql (ifT hB (lq 2 Z)) (i0 hB)) (h.n fun v6 ev6 h => Ss Z (.nv (.pickAnd (lq 5 Z) i0 cB) (congrArg V.bool ev6.symm)) (Sa Z l0 ?_))); refine Sg Z l0 (.faC Z Z (lq 15 Z) Z) (Sj Z (lq 1 Z) (fun hB => .ldC (i0 hB) Z) (Sg Z (lq 2 Z) (.faC Z Z (lq 16 Z) Z) (Sj Z (lq 3 Z) (fun hB => .ldC (i0 hB) Z) ?_))); refine Sj Z (lq 4 Z) (fun hB => .eql (ifT hB (lq 2 Z)) (i0 hB)) (Ss Z (.pickAnd (lq 5 Z) i0 cB) (Sa Z l0 (Sg Z l0 (.faC Z Z (lq 22 Z) Z) ?_))); refine Sj Z (lq 1 Z) (fun hB => .ldC (i0 hB) Z) (Sg Z (lq 2 Z) (.faC Z Z (lq 23 Z) Z) (Sj Z (lq 3 Z) (fun hB => .ldC (i0 hB) Z) (Sj Z (lq 4 Z) (fun hB => .eql (ifT hB (lq 2 Z)) (i0 hB)) ?_))); refine h.n fun v7 ev7 h => Ss Z (.nv (.pickAnd (lq 5 Z) i0 cB) (congrArg V.bool ev7.symm)) (Sa Z l0 (Sg Z l0 (.faC Z Z (lq 29 Z) Z) (Sj Z (lq 1 Z) (fun hB => .ldC (i0 hB) Z) ?_))); refine Sg Z (lq 2 Z) (.faC Z Z (lq 30 Z) Z) (Sj Z (lq 3 Z) (fun hB => .ldC (i0 hB) Z) (Sj Z (lq 4 Z) (fun hB => .eqlT eqt51 eqk_TPlan shk_TPlan (ifT hB (lq 2 Z)) (i0 hB) Z Z) (Ss Z (.pickAnd (lq 5 Z) i0 cB) ?_))); refine Sa Z l0 (Sg Z l0 (.faC Z Z (lq 36 Z) Z) (Sj Z (lq 1 Z) (fun hB => .ldC (i0 hB) Z) (Sg Z (lq 2 Z) (.faC Z Z (lq 37 Z) Z) ?_))); refine Sj Z (lq 3 Z) (fun hB => .ldC (i0 hB) Z) (Sj Z (lq 4 Z) (fun hB => .eql (ifT hB (lq 2 Z)) (i0 hB)) (h.n fun v8 ev8 h => Ss Z (.nv (.pickAnd (lq 5 Z) i0 cB) (congrArg V.bool ev8.symm)) (Sa Z l0 ?_))); refine Sg Z l0 (.faC Z Z (lq 43 Z) Z) (Sj Z (lq 1 Z) (fun hB => .ldC (i0 hB) Z) (Sg Z (lq 2 Z) (.faC Z Z (lq 44 Z) Z) (Sj Z (lq 3 Z) (fun hB => .ldC (i0 hB) Z) ?_))); refine Sj Z (lq 4 Z) (fun hB => .eql (ifT hB (lq 2 Z)) (i0 hB)) (Ss Z (.pickAnd (lq 5 Z) i0 cB) (Sa Z l0 (Sg Z l0 (.faC Z Z (lq 50 Z) Z) ?_))); refine Sj Z (lq 1 Z) (fun hB => .ldC (i0 hB) Z) (Sg Z (lq 2 Z) (.faC Z Z (lq 51 Z) Z) (Sj Z (lq 3 Z) (fun hB => .ldC (i0 hB) Z) (Sj Z (lq 4 Z) (fun hB => .eql (ifT hB (lq 2 Z)) (i0 hB)) ?_))); refine h.n fun v9 ev9 h => Ss Z (.nv (.pickAnd (lq 5 Z) i0 cB) (congrArg V.bool ev9.symm)) (Sa Z l0 (Sg Z l0 (.move (lq 58 Z)) (Sg Z (lq 1 Z) (.faC Z Z (lq 58 Z) Z) ?_))); refine Sj Z (lq 2 Z) (fun hB => .ldC (i0 hB) Z) (Sg Z (lq 3 Z) (.faC Z Z (lq 59 Z) Z) (Sj Z (lq 4 Z) (fun hB => .ldC (i0 hB) Z) (h.b fun r10 m10 h => ?_))); refine Sj Z (lq 5 Z) (fun hB => .callQ ent54 (ifT hB (lq 4 Z)) (cr (ifT hB (lq 2 Z)) (cr (i0 hB) .nil)) (C_state_Same_1.p _ (gd_get m10 hB))) (Ss Z (.pickAnd (lq 6 Z) i0 cB) (Sa Z l0 (Sg Z l0 (.move (lq 66 Z)) ?_))); refine Sg Z (lq 1 Z) (.faC Z Z (lq 66 Z) Z) (Sj Z (lq 2 Z) (fun hB => .ldC (i0 hB) Z) (Sg Z (lq 3 Z) (.faC Z Z (lq 67 Z) Z) (Sj Z (lq 4 Z) (fun hB => .ldC (i0 hB) Z) ?_))); refine h.b fun r11 m11 h => Sj Z (lq 5 Z) (fun hB => .callQ ent54 (ifT hB (lq 4 Z)) (cr (ifT hB (lq 2 Z)) (cr (i0 hB) .nil)) (C_state_Same_1.p _ (gd_get m11 hB))) (Ss Z (.pickAnd (lq 6 Z) i0 cB) (Sa Z l0 (Nn ?_))); refine Pr [0] Z (AWp.ret ?_); obtain rfl := h.ret; exact e2 0 Z Z
  · refine Ss Z (.faC Z Z (lq 2 Z) Z) (Ss Z (.ldC l0 Z) (Ss Z (.faC Z Z (lq 3 Z) Z) (Ss Z (.ldC l0 Z) ?_))); refine S.new 7 Z Z (.nv (v2 := .ptr 2 [] 0) (.alloc zv62) Z) trivial (S.new 6 Z Z (.nv (v2 := .ptr 3 [] 0) (.alloc zv62) Z) trivial (Sn [.dead, .dead, .cells (z62), .cells (E_YbrB a1.Barrier)] Z Z (.sw l0 (lq 4 Z) Z Z Z) Z trivial (Sn [.dead, .dead, .cells (E_YbrB a2.Barrier), .cells (E_YbrB a1.Barrier)] Z Z (.sw (lq 1 Z) (lq 2 Z) Z Z Z) Z trivial ?_))); refine S.nilD (by kernel_rfl) (thenQ_n (AWp.wk (Wk.freeze 2 Z Z (.cons (lw 1 Z) Z (.ptr .nil Z) (.l [0, 6, 7, 8, 9] Z)) (.refl _)) (AWp.wk (Wk.freeze 3 Z Z (.cons (lw 1 Z) Z (.ptr .nil Z) (.l [0, 2, 3, 4, 5] Z)) (.refl _)) ?_))); refine .seq (Wq [0, 1, 2, 3, 4, 5, 6, 7, 8, 9, 10, 11, 12, 13, 14, 15, 16, 17, 18, 19, 20, 21, 22, 23, 24, 25, 26, 27, 28, 29, 30, 31, 32, 33, 34, 35, 36, 37, 38, 39, 40, 41, 42, 43, 44, 45, 46, 47, 48] Z (Ss Z (.faC Z Z (lq 4 Z) Z) (Ss Z (.ldC l0 Z) ?_))); refine Ss Z (.faC Z Z (lq 5 Z) Z) (Ss Z (.ldC l0 Z) (Ss Z (.neq (lq 2 Z) l0) (Sa Z l0 ?_))); refine Sg Z l0 (.faC Z Z (lq 10 Z) Z) (Sj Z (lq 1 Z) (fun hB => .ldC (i0 hB) Z) (Sg Z (lq 2 Z) (.faC Z Z (lq 11 Z) Z) (Sj Z (lq 3 Z) (fun hB => .ldC (i0 hB) Z) ?_))); refine Sj Z (lq 4 Z) (fun hB => .neq (ifT hB (lq 2 Z)) (i0 hB)) (Ss Z (.pickOr (lq 5 Z) cB i0) (Sa Z l0 (Sg Z l0 (.faC Z Z (lq 17 Z) Z) ?_))); refine Sj Z (lq 1 Z) (fun hB => .ldC (i0 hB) Z) (Sg Z (lq 2 Z) (.faC Z Z (lq 18 Z) Z) (Sj Z (lq 3 Z) (fun hB => .ldC (i0 hB) Z) (Sj Z (lq 4 Z) (fun hB => .neq (ifT hB (lq 2 Z)) (i0 hB)) ?_))); refine h.n fun v3 ev3 h => Ss Z (.nv (.pickOr (lq 5 Z) cB i0) (congrArg V.bool ev3.symm)) (Sa Z l0 (Sg Z l0 (.faC Z Z (lq 24 Z) Z) (Sj Z (lq 1 Z) (fun hB => .ldC (i0 hB) Z) ?_))); refine Sg Z (lq 2 Z) (.faC Z Z (lq 25 Z) Z) (Sj Z (lq 3 Z) (fun hB => .ldC (i0 hB) Z) (Sj Z (lq 4 Z) (fun hB => .neq (ifT hB (lq 2 Z)) (i0 hB)) (Ss Z (.pickOr (lq 5 Z) cB i0) ?_))); refine Sa Z l0 (Sg Z l0 (.faC Z Z (lq 31 Z) Z) (Sj Z (lq 1 Z) (fun hB => .ldC (i0 hB) Z) (Sg Z (lq 2 Z) (.faC Z Z (lq 32 Z) Z) ?_))); refine Sj Z (lq 3 Z) (fun hB => .ldC (i0 hB) Z) (Sj Z (lq 4 Z) (fun hB => .neq (ifT hB (lq 2 Z)) (i0 hB)) (h.n fun v4 ev4 h => Ss Z (.nv (.pickOr (lq 5 Z) cB i0) (congrArg V.bool ev4.symm)) (Sa Z l0 ?_))); refine Sg Z l0 (.faC Z Z (lq 38 Z) Z) (Sj Z (lq 1 Z) (fun hB => .ldC (i0 hB) Z) (Sg Z (lq 2 Z) (.faC Z Z (lq 39 Z) Z) (Sj Z (lq 3 Z) (fun hB => .ldC (i0 hB) Z) ?_))); refine Sj Z (lq 4 Z) (fun hB => .neqT eqt51 eqk_TPlan shk_TPlan (ifT hB (lq 2 Z)) (i0 hB) Z Z) (Ss Z (.pickOr (lq 5 Z) cB i0) (Sa Z l0 (Sg Z l0 (.move (lq 43 Z)) ?_))); refine Sg Z (lq 1 Z) (.faC Z Z (lq 46 Z) Z) (Sj Z (lq 2 Z) (fun hB => .ldC (i0 hB) Z) (Sg Z (lq 3 Z) (.faC Z Z (lq 47 Z) Z) (Sj Z (lq 4 Z) (fun hB => .ldC (i0 hB) Z) ?_))); refine h.b fun r5 m5 h => Sj Z (lq 5 Z) (fun hB => .callQ ent54 (ifT hB (lq 4 Z)) (cr (ifT hB (lq 2 Z)) (cr (i0 hB) .nil)) (C_state_Same_1.p _ (gd_get m5 hB))) (Sj Z (lq 6 Z) (fun hB => .not (i0 hB)) (Ss Z (.pickOr (lq 7 Z) cB i0) (Nn ?_))); refine Pr [0, 49, 50, 51, 54] Z (AWp.condM l0 h (fun c1 h => ?_) (fun c1 h => ?_))
    · refine Wq o1 Z (Sa Z cB (Nn (AWp.ret ?_))); refine thenQ_r ?_; obtain rfl := h.ret; exact e2 0 Z Z
    · refine AWp.skip (thenQ_n (Wq [0, 1, 2, 3, 4, 5, 6, 7, 8, 9, 10, 11, 12, 13, 14, 15, 16, 17, 18, 19, 20, 21, 22, 23, 24, 25, 26, 27, 28, 29, 30, 31, 32, 33, 34, 35, 36, 37, 38, 39, 40, 41, 42, 43, 44, 45, 46, 47, 48, 49, 50, 51, 52, 53, 54, 55, 56, 57, 58, 59, 60, 61, 62, 63, 64, 65, 66, 67, 68, 69, 70] Z (Ss Z (.faC Z Z (lq 1 Z) Z) ?_))); refine Ss Z (.ldC l0 Z) (Ss Z (.faC Z Z (lq 4 Z) Z) (Ss Z (.ldC l0 Z) (Ss Z (.eql (lq 2 Z) l0) ?_))); refine Sa Z l0 (Sg Z l0 (.faC Z Z (lq 7 Z) Z) (Sj Z (lq 1 Z) (fun hB => .ldC (i0 hB) Z) (Sg Z (lq 2 Z) (.faC Z Z (lq 10 Z) Z) ?_))); refine Sj Z (lq 3 Z) (fun hB => .ldC (i0 hB) Z) (Sj Z (lq 4 Z) (fun hB => .eql (ifT hB (lq 2 Z)) (i0 hB)) (h.n fun v6 ev6 h => Ss Z (.nv (.pickAnd (lq 5 Z) i0 cB) (congrArg V.bool ev6.symm)) (Sa Z l0 ?_))); refine Sg Z l0 (.faC Z Z (lq 14 Z) Z) (Sj Z (lq 1 Z) (fun hB => .ldC (i0 hB) Z) (Sg Z (lq 2 Z) (.faC Z Z (lq 17 Z) Z) (Sj Z (lq 3 Z) (fun hB => .ldC (i0 hB) Z) ?_))); refine Sj Z (lq 4 Z) (fun hB => .eql (ifT hB (lq 2 Z)) (i0 hB)) (Ss Z (.pickAnd (lq 5 Z) i0 cB) (Sa Z l0 (Sg Z l0 (.faC Z Z (lq 21 Z) Z) ?_))); refine Sj Z (lq 1 Z) (fun hB => .ldC (i0 hB) Z) (Sg Z (lq 2 Z) (.faC Z Z (lq 24 Z) Z) (Sj Z (lq 3 Z) (fun hB => .ldC (i0 hB) Z) (Sj Z (lq 4 Z) (fun hB => .eql (ifT hB (lq 2 Z)) (i0 hB)) ?_))); refine h.n fun v7 ev7 h => Ss Z (.nv (.pickAnd (lq 5 Z) i0 cB) (congrArg V.bool ev7.symm)) (Sa Z l0 (Sg Z l0 (.faC Z Z (lq 28 Z) Z) (Sj Z (lq 1 Z) (fun hB => .ldC (i0 hB) Z) ?_))); refine Sg Z (lq 2 Z) (.faC Z Z (lq 31 Z) Z) (Sj Z (lq 3 Z) (fun hB => .ldC (i0 hB) Z) (Sj Z (lq 4 Z) (fun hB => .eqlT eqt51 eqk_TPlan shk_TPlan (ifT hB (lq 2 Z)) (i0 hB) Z Z) (Ss Z (.pickAnd (lq 5 Z) i0 cB) ?_))); refine Sa Z l0 (Sg Z l0 (.faC Z Z (lq 35 Z) Z) (Sj Z (lq 1 Z) (fun hB => .ldC (i0 hB) Z) (Sg Z (lq 2 Z) (.faC Z Z (lq 38 Z) Z) ?_))); refine Sj Z (lq 3 Z) (fun hB => .ldC (i0 hB) Z) (Sj Z (lq 4 Z) (fun hB => .eql (ifT hB (lq 2 Z)) (i0 hB)) (h.n fun v8 ev8 h => Ss Z (.nv (.pickAnd (lq 5 Z) i0 cB) (congrArg V.bool ev8.symm)) (Sa Z l0 ?_))); refine Sg Z l0 (.faC Z Z (lq 42 Z) Z) (Sj Z (lq 1 Z) (fun hB => .ldC (i0 hB) Z) (Sg Z (lq 2 Z) (.faC Z Z (lq 45 Z) Z) (Sj Z (lq 3 Z) (fun hB => .ldC (i0 hB) Z) ?_))); refine Sj Z (lq 4 Z) (fun hB => .eql (ifT hB (lq 2 Z)) (i0 hB)) (Ss Z (.pickAnd (lq 5 Z) i0 cB) (Sa Z l0 (Sg Z l0 (.faC Z Z (lq 49 Z) Z) ?_))); refine Sj Z (lq 1 Z) (fun hB => .ldC (i0 hB) Z) (Sg Z (lq 2 Z) (.faC Z Z (lq 52 Z) Z) (Sj Z (lq 3 Z) (fun hB => .ldC (i0 hB) Z) (Sj Z (lq 4 Z) (fun hB => .eql (ifT hB (lq 2 Z)) (i0 hB)) ?_))); refine h.n fun v9 ev9 h => Ss Z (.nv (.pickAnd (lq 5 Z) i0 cB) (congrArg V.bool ev9.symm)) (Sa Z l0 (Sg Z l0 (.move (lq 58 Z)) (Sg Z (lq 1 Z) (.faC Z Z (lq 57 Z) Z) ?_))); refine Sj Z (lq 2 Z) (fun hB => .ldC (i0 hB) Z) (Sg Z (lq 3 Z) (.faC Z Z (lq 60 Z) Z) (Sj Z (lq 4 Z) (fun hB => .ldC (i0 hB) Z) (h.b fun r10 m10 h => ?_))); refine Sj Z (lq 5 Z) (fun hB => .callQ ent54 (ifT hB (lq 4 Z)) (cr (ifT hB (lq 2 Z)) (cr (i0 hB) .nil)) (C_state_Same_1.p _ (gd_get m10 hB))) (Ss Z (.pickAnd (lq 6 Z) i0 cB) (Sa Z l0 (Sg Z l0 (.move (lq 66 Z)) ?_))); refine Sg Z (lq 1 Z) (.faC Z Z (lq 65 Z) Z) (Sj Z (lq 2 Z) (fun hB => .ldC (i0 hB) Z) (Sg Z (lq 3 Z) (.faC Z Z (lq 68 Z) Z) (Sj Z (lq 4 Z) (fun hB => .ldC (i0 hB) Z) ?_))); refine h.b fun r11 m11 h => Sj Z (lq 5 Z) (fun hB => .callQ ent54 (ifT hB (lq 4 Z)) (cr (ifT hB (lq 2 Z)) (cr (i0 hB) .nil)) (C_state_Same_1.p _ (gd_get m11 hB))) (Ss Z (.pickAnd (lq 6 Z) i0 cB) (Sa Z l0 (Nn ?_))); refine Pr [0] Z (AWp.ret ?_); obtain rfl := h.ret; exact e2 0 Z Z
theorem C_state_counts_1 {a1 : Int} : Cn Pg 225 (state_counts_1 a1) [(V.int .i64) a1] V.bool := by
  exact fs c0 fn225 Z Z Z Z fun _ h => ecG Z h Z C_num_Is ss fun r2 h => ef Z Z h.z rl Z Z
theorem C_slices_IndexFunc_int_counts_1 {a1 : List Int} : Cn Pg 269 (slices_IndexFunc_int_counts_1 a1) [.sl 1 .no (List.map (V.int .i64) a1), .fn 225 [] []] (V.int .i64) := by
  refine fs c0 fn269 Z Z Z Z fun _ h => eo 0 Z (.lenT sli67 (lz Z) (vsub Z (.refl _))) (elR0 1 [7, 4, 0, 1] [4] Z h (fun s3 => [(8, I s3)]) (fun x4 => []) (wk0 Z) (fun q2 _ s3 h h2 => ?_) fun x4 h => ?_)
  · refine eb Z h2 (fun h2 => ?_) fun h2 => ?_
    · refine h2.b fun j5 m5 h2 => eo 0 Z (.ixS sli67 (lz Z) (lz Z) m5) (ec Z h2 C_state_counts_1 ss fun r6 h2 => eb Z h2 (fun h2 => ?_) fun h2 => ?_)
      · have h := Ok.inrq h h2.ret
        exact ef Z Z h rl Z Z
      · exact ex Z h2.ret (wk0 Z)
    · exact ex Z h2.ret (wk0 Z)
  · exact ef Z Z h rl Z Z
theorem C_slices_ContainsFunc_int_counts_1 {a1 : List Int} : Cn Pg 224 (slices_ContainsFunc_int_counts_1 a1) [.sl 1 .no (List.map (V.int .i64) a1), .fn 225 [] []] V.bool := by
  exact fs c0 fn224 Z Z Z Z fun _ h => ec Z h C_slices_IndexFunc_int_counts_1 ss fun r2 h => ef Z Z h rl Z Z
theorem C_state_counts {a1 : List Int} : Cn Pg 159 (state_counts a1) [.sl 1 .no (List.map (V.int .i64) a1)] V.bool := by
  exact fs c0 fn159 Z Z Z Z fun _ h => ec Z h C_slices_ContainsFunc_int_counts_1 ss fun r2 h => ef Z Z h rl Z Z
theorem C_plan_rules  {r : Unit} (h : plan_rules = some r) : CallSpec Pg 245 [] [] fun o H' => o = .ret (.map 0) ∧ H' = [.map (encC [(1, .fn 282 [] [.cptr (.fn 280 [] [])]), (2, .fn 282 [] [.cptr (.fn 280 [] [])]), (3, .fn 283 [] [.cptr (.fn 280 [] [])]), (4, .fn 284 [] [.cptr (.fn 280 [] [])]), (5, .fn 285 [] [.cptr (.fn 281 [] [])]), (6, .fn 286 [] [.cptr (.fn 281 [] [])])])] := by
  refine CallSpec.of_bodyF 13 0 fn245 Z Z Z (Nat.le_of_ble_eq_true Z) ?_; replace h := Ok.of h; unfold plan_rules at h; refine Wq o1 Z (Sa Z cNm (Nw o2 Z (Sv (.ptr 0 [] 0) [.cells (.nilfn)] Z (.alloc zv243) Z Z trivial ?_))); refine Sn [.cells (.fn 280 [] [])] Z Z (.sw l0 cF Z Z Z) Z trivial (Nn (AWp.wk (Wk.freeze 0 Z Z (.cons l0 Z (.ptr .nil Z) (.l [1] Z)) (.refl _)) (Wq o2 Z ?_))); refine Sv (.ptr 1 [] 0) [.dead, .cells (.nilfn)] Z (.alloc zv243) Z Z trivial (Sn [.dead, .cells (.fn 281 [] [])] Z Z (.sw l0 cF Z Z Z) Z trivial (Nn (AWp.wk (Wk.freeze 1 Z Z (.cons l0 Z (.ptr .nil Z) (.l [1, 2] Z)) (.refl _)) ?_))); refine Wq o2 Z (Ss Z (.makeFunc Z (mapE1 (lq 1 Z)) Z Z) (Sa Z l0 (Nw o15 Z ?_))); refine Sv (.map 2) [.dead, .dead, .map (encC [])] Z (.makeMap) Z Z trivial (Sm 1 Z Z (Sn [.dead, .dead, .map (encC [(1, .fn 282 [] [.cptr (.fn 280 [] [])])])] Z Z (.insC und296 und3 (lq 1 Z) cI l0 Z Z Z (by decide) Z Z) Z trivial (Sm 2 Z Z ?_))); refine Sn [.dead, .dead, .map (encC [(1, .fn 282 [] [.cptr (.fn 280 [] [])]), (2, .fn 282 [] [.cptr (.fn 280 [] [])])])] Z Z (.insC und296 und3 (lq 2 Z) cI l0 Z Z Z (by decide) Z Z) Z trivial (Ss Z (.makeFunc Z (mapE1 (lq 6 Z)) Z Z) (Sn [.dead, .dead, .map (encC [(1, .fn 282 [] [.cptr (.fn 280 [] [])]), (2, .fn 282 [] [.cptr (.fn 280 [] [])]), (3, .fn 283 [] [.cptr (.fn 280 [] [])])])] Z Z (.insC und296 und3 (lq 3 Z) cI l0 Z Z Z (by decide) Z Z) Z trivial (Ss Z (.makeFunc Z (mapE1 (lq 7 Z)) Z Z) ?_))); refine Sn [.dead, .dead, .map (encC [(1, .fn 282 [] [.cptr (.fn 280 [] [])]), (2, .fn 282 [] [.cptr (.fn 280 [] [])]), (3, .fn 283 [] [.cptr (.fn 280 [] [])]), (4, .fn 284 [] [.cptr (.fn 280 [] [])])])] Z Z (.insC und296 und3 (lq 4 Z) cI l0 Z Z Z (by decide) Z Z) Z trivial (Ss Z (.makeFunc Z (mapE1 (lq 7 Z)) Z Z) (Sn [.dead, .dead, .map (encC [(1, .fn 282 [] [.cptr (.fn 280 [] [])]), (2, .fn 282 [] [.cptr (.fn 280 [] [])]), (3, .fn 283 [] [.cptr (.fn 280 [] [])]), (4, .fn 284 [] [.cptr (.fn 280 [] [])]), (5, .fn 285 [] [.cptr (.fn 281 [] [])])])] Z Z (.insC und296 und3 (lq 5 Z) cI l0 Z Z Z (by decide) Z Z) Z trivial (Ss Z (.makeFunc Z (mapE1 (lq 8 Z)) Z Z) ?_))); refine Sn [.dead, .dead, .map (encC [(1, .fn 282 [] [.cptr (.fn 280 [] [])]), (2, .fn 282 [] [.cptr (.fn 280 [] [])]), (3, .fn 283 [] [.cptr (.fn 280 [] [])]), (4, .fn 284 [] [.cptr (.fn 280 [] [])]), (5, .fn 285 [] [.cptr (.fn 281 [] [])]), (6, .fn 286 [] [.cptr (.fn 281 [] [])])])] Z Z (.insC und296 und3 (lq 6 Z) cI l0 Z Z Z (by decide) Z Z) Z trivial (Sm 6 Z Z (Sa Z l0 (Nn ?_))); refine Pr [0] Z (AWp.ret ?_); obtain rfl := h.ret; exact endF1 Z (Wk.selS [2] (by decide) Z (SelE.spec (v := .map 0) l0 Z (.refl _) Z Z .nil) (.cons Z Z (ASub.refl _) .nil)) (.tmp l0 Z) Z Z
theorem C_plan_rules_1 {a1 : TPlan} : Cn Pg 280 (plan_rules_1 a1) [E_TPlan a1] V.bool := by
  exact fs ⟨tb, [], [(0, [0])], false⟩ fn280 Z Z Z Z fun _ h => ef Z Z h.z rl Z Z
theorem C_plan_rules_3_rules_1 {a1 : TPlan} : Cn Pg 282 (plan_rules_3_rules_1 a1) [E_TPlan a1, .cptr (.fn 280 [] [])] V.bool := by
  exact fs ⟨tb, [], [(0, [0])], false⟩ fn282 Z Z Z Z fun _ h => ec Z h C_plan_rules_1 ss fun r2 h => ef Z Z h.z rl Z Z
theorem C_plan_rules_4_rules_1 {a1 : TPlan} : Cn Pg 283 (plan_rules_4_rules_1 a1) [E_TPlan a1, .cptr (.fn 280 [] [])] V.bool := by
  exact fs ⟨tb, [], [(0, [0])], false⟩ fn283 Z Z Z Z fun _ h => ec Z h C_plan_rules_1 ss fun r2 h => ef Z Z h.z rl Z Z
theorem C_plan_rules_5_rules_1 {a1 : TPlan} : Cn Pg 284 (plan_rules_5_rules_1 a1) [E_TPlan a1, .cptr (.fn 280 [] [])] V.bool := by
  exact fs ⟨tb, [], [(0, [0])], false⟩ fn284 Z Z Z Z fun _ h => ec Z h C_plan_rules_1 ss fun r2 h => ef Z Z h.z rl Z Z
theorem C_plan_rules_2 {a1 : TPlan} : Cn Pg 281 (plan_rules_2 a1) [E_TPlan a1] V.bool := by
  exact fs ⟨tb, [], [(0, [0])], false⟩ fn281 Z Z Z Z fun _ h => ec Z h C_field_Name ss fun r2 h => ef Z Z h.z rl Z Z
theorem C_plan_rules_6_rules_2 {a1 : TPlan} : Cn Pg 285 (plan_rules_6_rules_2 a1) [E_TPlan a1, .cptr (.fn 281 [] [])] V.bool := by
  exact fs ⟨tb, [], [(0, [0])], false⟩ fn285 Z Z Z Z fun _ h => ec Z h C_plan_rules_2 ss fun r2 h => ef Z Z h.z rl Z Z
theorem C_plan_rules_7_rules_2 {a1 : TPlan} : Cn Pg 286 (plan_rules_7_rules_2 a1) [E_TPlan a1, .cptr (.fn 281 [] [])] V.bool := by
  exact fs ⟨tb, [], [(0, [0])], false⟩ fn286 Z Z Z Z fun _ h => ec Z h C_plan_rules_2 ss fun r2 h => ef Z Z h.z rl Z Z
theorem C_plan_Right {a1 : TPlan} {r : Bool} (h : plan_Right a1 = some r) : PureC Pg 181 [E_TPlan a1] (V.bool r) := by
  refine .c 33 fn181 Z Z Z ?_; replace h := Ok.of h; unfold plan_Right at h; refine Wq o2 Z (Sv (.ptr 0 [] 0) [.cells (E_TPlan a1)] Z (.box l0 Z) Z Z trivial (Sa Z cB (Nn ?_))); refine AWp.wk (Wk.freeze 0 Z Z (.cons (lw 1 Z) Z (.ptr .nil Z) (.l [0] Z)) (.refl _)) (AWp.seq (W.regD o9 mixed (h.b fun u2 m2 h => ?_))); refine S.new 6 Z Z (.nv (v2 := .map 1) (.callN ent245 cF [] (C_plan_rules m2) .nil .nil ltL_nil .nil Z (mapc Z Z) Z) Z) trivial (Ss Z (.faC Z Z (lq 1 Z) Z) (Ss Z (.ldC l0 Z) (h.b fun u3 m3 h => ?_))); refine Ok.spl h (fun c1 h => ?_) (fun c1 h => ?_)
  · refine Su Z (.lookC (es := [(1, .fn 282 [] [.cptr (.fn 280 [] [])]), (2, .fn 282 [] [.cptr (.fn 280 [] [])]), (3, .fn 283 [] [.cptr (.fn 280 [] [])]), (4, .fn 284 [] [.cptr (.fn 280 [] [])]), (5, .fn 285 [] [.cptr (.fn 281 [] [])]), (6, .fn 286 [] [.cptr (.fn 281 [] [])])]) und296 und3 zv243 (lq 2 Z) l0 Z (i64M_get m3) Z (by decide) (of_decide_eq_true c1) (List.Mem.head _) Z) (Sa Z l0 (Ss Z (.extract l0 Z) (Ss Z (.extract (lq 1 Z) Z) ?_))); refine Sm 1 Z Z (Sm 1 Z Z (S.nilD (by kernel_rfl) (thenQ_n ?_))); refine Wq o22 Z (Sa Z l0 (Sa Z l0 (Sy Z l0 (.faC Z Z (lq 11 Z) Z) ?_))); refine Sy Z (lq 1 Z) (.ldC l0 Z) (h.b fun r4 m4 h => Sy Z (lq 2 Z) (.cq (cr l0 .nil) (C_field_Name.p _ m4) Z) (Ss Z (.pickT (lq 3 Z) l0) (Sa Z l0 ?_))); refine Sg Z l0 (.faC Z Z (lq 16 Z) Z) (Sj Z (lq 1 Z) (fun hB => .ldC (i0 hB) Z) (h.b fun r5 m5 h => Sj Z (lq 2 Z) (fun hB => .cq (cr (i0 hB) .nil) (C_num_Is.p _ (gd_get m5 hB)) Z) (Ss Z (.pickAnd (lq 3 Z) i0 cB) ?_))); refine Sa Z l0 (Sg Z l0 (.faC Z Z (lq 21 Z) Z) (Sj Z (lq 1 Z) (fun hB => .ldC (i0 hB) Z) (h.b fun r6 m6 h => ?_))); refine Sj Z (lq 2 Z) (fun hB => .cq (cr (i0 hB) .nil) (C_num_Is.p _ (gd_get m6 hB)) Z) (Ss Z (.pickAnd (lq 3 Z) i0 cB) (Sa Z l0 (Sg Z l0 (.move (lq 18 Z)) ?_))); refine Sg Z (lq 1 Z) (.ldC (lq 27 Z) Z) (h.b fun r7 m7 h => Sj Z (lq 2 Z) (fun hB => .callQ ent282 (ifT hB (lq 1 Z)) (cr (i0 hB) (.cons (.refl _) .nil)) (C_plan_rules_3_rules_1.p _ (gd_get m7 hB))) (Ss Z (.pickAnd (lq 3 Z) i0 cB) (h.n fun v8 ev8 h => ?_))); refine Ss Z (.nv (.assign l0) (congrArg V.bool ev8.symm)) (Nn (Pr [0] Z (AWp.ret ?_))); obtain rfl := h.ret; exact e2 0 Z Z
  · refine Ok.spl h (fun c2 h => ?_) (fun c2 h => ?_)
    · refine Su Z (.lookC (es := [(1, .fn 282 [] [.cptr (.fn 280 [] [])]), (2, .fn 282 [] [.cptr (.fn 280 [] [])]), (3, .fn 283 [] [.cptr (.fn 280 [] [])]), (4, .fn 284 [] [.cptr (.fn 280 [] [])]), (5, .fn 285 [] [.cptr (.fn 281 [] [])]), (6, .fn 286 [] [.cptr (.fn 281 [] [])])]) und296 und3 zv243 (lq 2 Z) l0 Z (i64M_get m3) Z (by decide) (of_decide_eq_true c2) (List.Mem.tail _ (List.Mem.head _)) Z) (Sa Z l0 (Ss Z (.extract l0 Z) (Ss Z (.extract (lq 1 Z) Z) ?_))); refine Sm 1 Z Z (Sm 1 Z Z (S.nilD (by kernel_rfl) (thenQ_n ?_))); refine Wq o22 Z (Sa Z l0 (Sa Z l0 (Sy Z l0 (.faC Z Z (lq 11 Z) Z) ?_))); refine Sy Z (lq 1 Z) (.ldC l0 Z) (h.b fun r9 m9 h => Sy Z (lq 2 Z) (.cq (cr l0 .nil) (C_field_Name.p _ m9) Z) (Ss Z (.pickT (lq 3 Z) l0) (Sa Z l0 ?_))); refine Sg Z l0 (.faC Z Z (lq 16 Z) Z) (Sj Z (lq 1 Z) (fun hB => .ldC (i0 hB) Z) (h.b fun r10 m10 h => Sj Z (lq 2 Z) (fun hB => .cq (cr (i0 hB) .nil) (C_num_Is.p _ (gd_get m10 hB)) Z) (Ss Z (.pickAnd (lq 3 Z) i0 cB) ?_))); refine Sa Z l0 (Sg Z l0 (.faC Z Z (lq 21 Z) Z) (Sj Z (lq 1 Z) (fun hB => .ldC (i0 hB) Z) (h.b fun r11 m11 h => ?_))); refine Sj Z (lq 2 Z) (fun hB => .cq (cr (i0 hB) .nil) (C_num_Is.p _ (gd_get m11 hB)) Z) (Ss Z (.pickAnd (lq 3 Z) i0 cB) (Sa Z l0 (Sg Z l0 (.move (lq 18 Z)) ?_))); refine Sg Z (lq 1 Z) (.ldC (lq 27 Z) Z) (h.b fun r12 m12 h => Sj Z (lq 2 Z) (fun hB => .callQ ent282 (ifT hB (lq 1 Z)) (cr (i0 hB) (.cons (.refl _) .nil)) (C_plan_rules_3_rules_1.p _ (gd_get m12 hB))) (Ss Z (.pickAnd (lq 3 Z) i0 cB) (h.n fun v13 ev13 h => ?_))); refine Ss Z (.nv (.assign l0) (congrArg V.bool ev13.symm)) (Nn (Pr [0] Z (AWp.ret ?_))); obtain rfl := h.ret; exact e2 0 Z Z
    · refine Ok.spl h (fun c3 h => ?_) (fun c3 h => ?_)
      · refine Su Z (.lookC (es := [(1, .fn 282 [] [.cptr (.fn 280 [] [])]), (2, .fn 282 [] [.cptr (.fn 280 [] [])]), (3, .fn 283 [] [.cptr (.fn 280 [] [])]), (4, .fn 284 [] [.cptr (.fn 280 [] [])]), (5, .fn 285 [] [.cptr (.fn 281 [] [])]), (6, .fn 286 [] [.cptr (.fn 281 [] [])])]) und296 und3 zv243 (lq 2 Z) l0 Z (i64M_get m3) Z (by decide) (of_decide_eq_true c3) (List.Mem.tail _ (List.Mem.tail _ (List.Mem.head _))) Z) (Sa Z l0 (Ss Z (.extract l0 Z) (Ss Z (.extract (lq 1 Z) Z) ?_))); refine Sm 1 Z Z (Sm 1 Z Z (S.nilD (by kernel_rfl) (thenQ_n ?_))); refine Wq o22 Z (Sa Z l0 (Sa Z l0 (Sy Z l0 (.faC Z Z (lq 11 Z) Z) ?_))); refine Sy Z (lq 1 Z) (.ldC l0 Z) (h.b fun r14 m14 h => Sy Z (lq 2 Z) (.cq (cr l0 .nil) (C_field_Name.p _ m14) Z) (Ss Z (.pickT (lq 3 Z) l0) (Sa Z l0 ?_))); refine Sg Z l0 (.faC Z Z (lq 16 Z) Z) (Sj Z (lq 1 Z) (fun hB => .ldC (i0 hB) Z) (h.b fun r15 m15 h => Sj Z (lq 2 Z) (fun hB => .cq (cr (i0 hB) .nil) (C_num_Is.p _ (gd_get m15 hB)) Z) (Ss Z (.pickAnd (lq 3 Z) i0 cB) ?_))); refine Sa Z l0 (Sg Z l0 (.faC Z Z (lq 21 Z) Z) (Sj Z (lq 1 Z) (fun hB => .ldC (i0 hB) Z) (h.b fun r16 m16 h => ?_))); refine Sj Z (lq 2 Z) (fun hB => .cq (cr (i0 hB) .nil) (C_num_Is.p _ (gd_get m16 hB)) Z) (Ss Z (.pickAnd (lq 3 Z) i0 cB) (Sa Z l0 (Sg Z l0 (.move (lq 18 Z)) ?_))); refine Sg Z (lq 1 Z) (.ldC (lq 27 Z) Z) (h.b fun r17 m17 h => Sj Z (lq 2 Z) (fun hB => .callQ ent283 (ifT hB (lq 1 Z)) (cr (i0 hB) (.cons (.refl _) .nil)) (C_plan_rules_4_rules_1.p _ (gd_get m17 hB))) (Ss Z (.pickAnd (lq 3 Z) i0 cB) (h.n fun v18 ev18 h => ?_))); refine Ss Z (.nv (.assign l0) (congrArg V.bool ev18.symm)) (Nn (Pr [0] Z (AWp.ret ?_))); obtain rfl := h.ret; exact e2 0 Z Z
      · refine Ok.spl h (fun c4 h => ?_) (fun c4 h => ?_)
        · refine Su Z (.lookC (es := [(1, .fn 282 [] [.cptr (.fn 280 [] [])]), (2, .fn 282 [] [.cptr (.fn 280 [] [])]), (3, .fn 283 [] [.cptr (.fn 280 [] [])]), (4, .fn 284 [] [.cptr (.fn 280 [] [])]), (5, .fn 285 [] [.cptr (.fn 281 [] [])]), (6, .fn 286 [] [.cptr (.fn 281 [] [])])]) und296 und3 zv243 (lq 2 Z) l0 Z (i64M_get m3) Z (by decide) (of_decide_eq_true c4) (List.Mem.tail _ (List.Mem.tail _ (List.Mem.tail _ (List.Mem.head _)))) Z) (Sa Z l0 (Ss Z (.extract l0 Z) (Ss Z (.extract (lq 1 Z) Z) ?_))); refine Sm 1 Z Z (Sm 1 Z Z (S.nilD (by kernel_rfl) (thenQ_n ?_))); refine Wq o22 Z (Sa Z l0 (Sa Z l0 (Sy Z l0 (.faC Z Z (lq 11 Z) Z) ?_))); refine Sy Z (lq 1 Z) (.ldC l0 Z) (h.b fun r19 m19 h => Sy Z (lq 2 Z) (.cq (cr l0 .nil) (C_field_Name.p _ m19) Z) (Ss Z (.pickT (lq 3 Z) l0) (Sa Z l0 ?_))); refine Sg Z l0 (.faC Z Z (lq 16 Z) Z) (Sj Z (lq 1 Z) (fun hB => .ldC (i0 hB) Z) (h.b fun r20 m20 h => Sj Z (lq 2 Z) (fun hB => .cq (cr (i0 hB) .nil) (C_num_Is.p _ (gd_get m20 hB)) Z) (Ss Z (.pickAnd (lq 3 Z) i0 cB) ?_))); refine Sa Z l0 (Sg Z l0 (.faC Z Z (lq 21 Z) Z) (Sj Z (lq 1 Z) (fun hB => .ldC (i0 hB) Z) (h.b fun r21 m21 h => ?_))); refine Sj Z (lq 2 Z) (fun hB => .cq (cr (i0 hB) .nil) (C_num_Is.p _ (gd_get m21 hB)) Z) (Ss Z (.pickAnd (lq 3 Z) i0 cB) (Sa Z l0 (Sg Z l0 (.move (lq 18 Z)) ?_))); refine Sg Z (lq 1 Z) (.ldC (lq 27 Z) Z) (h.b fun r22 m22 h => Sj Z (lq 2 Z) (fun hB => .callQ ent284 (ifT hB (lq 1 Z)) (cr (i0 hB) (.cons (.refl _) .nil)) (C_plan_rules_5_rules_1.p _ (gd_get m22 hB))) (Ss Z (.pickAnd (lq 3 Z) i0 cB) (h.n fun v23 ev23 h => ?_))); refine Ss Z (.nv (.assign l0) (congrArg V.bool ev23.symm)) (Nn (Pr [0] Z (AWp.ret ?_))); obtain rfl := h.ret; exact e2 0 Z Z
        · refine Ok.spl h (fun c5 h => ?_) (fun c5 h => ?_)
          · refine Su Z (.lookC (es := [(1, .fn 282 [] [.cptr (.fn 280 [] [])]), (2, .fn 282 [] [.cptr (.fn 280 [] [])]), (3, .fn 283 [] [.cptr (.fn 280 [] [])]), (4, .fn 284 [] [.cptr (.fn 280 [] [])]), (5, .fn 285 [] [.cptr (.fn 281 [] [])]), (6, .fn 286 [] [.cptr (.fn 281 [] [])])]) und296 und3 zv243 (lq 2 Z) l0 Z (i64M_get m3) Z (by decide) (of_decide_eq_true c5) (List.Mem.tail _ (List.Mem.tail _ (List.Mem.tail _ (List.Mem.tail _ (List.Mem.head _))))) Z) (Sa Z l0 (Ss Z (.extract l0 Z) (Ss Z (.extract (lq 1 Z) Z) ?_))); refine Sm 1 Z Z (Sm 1 Z Z (S.nilD (by kernel_rfl) (thenQ_n ?_))); refine Wq o22 Z (Sa Z l0 (Sa Z l0 (Sy Z l0 (.faC Z Z (lq 11 Z) Z) ?_))); refine Sy Z (lq 1 Z) (.ldC l0 Z) (h.b fun r24 m24 h => Sy Z (lq 2 Z) (.cq (cr l0 .nil) (C_field_Name.p _ m24) Z) (Ss Z (.pickT (lq 3 Z) l0) (Sa Z l0 ?_))); refine Sg Z l0 (.faC Z Z (lq 16 Z) Z) (Sj Z (lq 1 Z) (fun hB => .ldC (i0 hB) Z) (h.b fun r25 m25 h => Sj Z (lq 2 Z) (fun hB => .cq (cr (i0 hB) .nil) (C_num_Is.p _ (gd_get m25 hB)) Z) (Ss Z (.pickAnd (lq 3 Z) i0 cB) ?_))); refine Sa Z l0 (Sg Z l0 (.faC Z Z (lq 21 Z) Z) (Sj Z (lq 1 Z) (fun hB => .ldC (i0 hB) Z) (h.b fun r26 m26 h => ?_))); refine Sj Z (lq 2 Z) (fun hB => .cq (cr (i0 hB) .nil) (C_num_Is.p _ (gd_get m26 hB)) Z) (Ss Z (.pickAnd (lq 3 Z) i0 cB) (Sa Z l0 (Sg Z l0 (.move (lq 18 Z)) ?_))); refine Sg Z (lq 1 Z) (.ldC (lq 27 Z) Z) (h.b fun r27 m27 h => Sj Z (lq 2 Z) (fun hB => .callQ ent285 (ifT hB (lq 1 Z)) (cr (i0 hB) (.cons (.refl _) .nil)) (C_plan_rules_6_rules_2.p _ (gd_get m27 hB))) (Ss Z (.pickAnd (lq 3 Z) i0 cB) (h.n fun v28 ev28 h => ?_))); refine Ss Z (.nv (.assign l0) (congrArg V.bool ev28.symm)) (Nn (Pr [0] Z (AWp.ret ?_))); obtain rfl := h.ret; exact e2 0 Z Z
          · refine Ok.spl h (fun c6 h => ?_) (fun c6 h => ?_)
            · refine Su Z (.lookC (es := [(1, .fn 282 [] [.cptr (.fn 280 [] [])]), (2, .fn 282 [] [.cptr (.fn 280 [] [])]), (3, .fn 283 [] [.cptr (.fn 280 [] [])]), (4, .fn 284 [] [.cptr (.fn 280 [] [])]), (5, .fn 285 [] [.cptr (.fn 281 [] [])]), (6, .fn 286 [] [.cptr (.fn 281 [] [])])]) und296 und3 zv243 (lq 2 Z) l0 Z (i64M_get m3) Z (by decide) (of_decide_eq_true c6) (List.Mem.tail _ (List.Mem.tail _ (List.Mem.tail _ (List.Mem.tail _ (List.Mem.tail _ (List.Mem.head _)))))) Z) (Sa Z l0 (Ss Z (.extract l0 Z) (Ss Z (.extract (lq 1 Z) Z) ?_))); refine Sm 1 Z Z (Sm 1 Z Z (S.nilD (by kernel_rfl) (thenQ_n ?_))); refine Wq o22 Z (Sa Z l0 (Sa Z l0 (Sy Z l0 (.faC Z Z (lq 11 Z) Z) ?_))); refine Sy Z (lq 1 Z) (.ldC l0 Z) (h.b fun r29 m29 h => Sy Z (lq 2 Z) (.cq (cr l0 .nil) (C_field_Name.p _ m29) Z) (Ss Z (.pickT (lq 3 Z) l0) (Sa Z l0 ?_))); refine Sg Z l0 (.faC Z Z (lq 16 Z) Z) (Sj Z (lq 1 Z) (fun hB => .ldC (i0 hB) Z) (h.b fun r30 m30 h => Sj Z (lq 2 Z) (fun hB => .cq (cr (i0 hB) .nil) (C_num_Is.p _ (gd_get m30 hB)) Z) (Ss Z (.pickAnd (lq 3 Z) i0 cB) ?_))); refine Sa Z l0 (Sg Z l0 (.faC Z Z (lq 21 Z) Z) (Sj Z (lq 1 Z) (fun hB => .ldC (i0 hB) Z) (h.b fun r31 m31 h => ?_))); refine Sj Z (lq 2 Z) (fun hB => .cq (cr (i0 hB) .nil) (C_num_Is.p _ (gd_get m31 hB)) Z) (Ss Z (.pickAnd (lq 3 Z) i0 cB) (Sa Z l0 (Sg Z l0 (.move (lq 18 Z)) ?_))); refine Sg Z (lq 1 Z) (.ldC (lq 27 Z) Z) (h.b fun r32 m32 h => Sj Z (lq 2 Z) (fun hB => .callQ ent286 (ifT hB (lq 1 Z)) (cr (i0 hB) (.cons (.refl _) .nil)) (C_plan_rules_7_rules_2.p _ (gd_get m32 hB))) (Ss Z (.pickAnd (lq 3 Z) i0 cB) (h.n fun v33 ev33 h => ?_))); refine Ss Z (.nv (.assign l0) (congrArg V.bool ev33.symm)) (Nn (Pr [0] Z (AWp.ret ?_))); obtain rfl := h.ret; exact e2 0 Z Z
            · refine Su Z (.lookC0 (es := [(1, .fn 282 [] [.cptr (.fn 280 [] [])]), (2, .fn 282 [] [.cptr (.fn 280 [] [])]), (3, .fn 283 [] [.cptr (.fn 280 [] [])]), (4, .fn 284 [] [.cptr (.fn 280 [] [])]), (5, .fn 285 [] [.cptr (.fn 281 [] [])]), (6, .fn 286 [] [.cptr (.fn 281 [] [])])]) und296 und3 zv243 (lq 2 Z) l0 Z (i64M_get m3) Z (by decide) (by simp [of_decide_eq_false c1, of_decide_eq_false c2, of_decide_eq_false c3, of_decide_eq_false c4, of_decide_eq_false c5, of_decide_eq_false c6]) Z) (Sa Z l0 (Ss Z (.extract l0 Z) (Ss Z (.extract (lq 1 Z) Z) ?_))); refine Sm 1 Z Z (Sm 1 Z Z (S.nilD (by kernel_rfl) (thenQ_n ?_))); refine Wq o22 Z (Sa Z l0 (Sa Z l0 (S.gno 14 1 13 true Z Z Z l0 Z ?_))); refine S.gno 15 1 13 true Z Z Z (lq 1 Z) Z (S.gno 16 1 13 true Z Z Z (lq 2 Z) Z (Ss Z (.pickF (lq 3 Z) cB) (Sa Z l0 ?_))); refine S.gno 19 6 18 true Z Z Z l0 Z (S.gno 20 6 18 true Z Z Z (lq 1 Z) Z (S.gno 21 6 18 true Z Z Z (lq 2 Z) Z (Ss Z (.pickF (lq 3 Z) cB) ?_))); refine Sa Z l0 (S.gno 24 11 23 true Z Z Z l0 Z (S.gno 25 11 23 true Z Z Z (lq 1 Z) Z (S.gno 26 11 23 true Z Z Z (lq 2 Z) Z ?_))); refine Ss Z (.pickF (lq 3 Z) cB) (Sa Z l0 (S.gno 29 16 28 true Z Z Z l0 Z (S.gno 30 16 28 true Z Z Z (lq 1 Z) Z ?_))); refine S.gno 31 16 28 true Z Z Z (lq 2 Z) Z (Ss Z (.pickF (lq 3 Z) cB) (Sa Z l0 (Nn ?_))); refine Pr [0] Z (AWp.ret ?_); obtain rfl := h.ret; exact e2 0 Z Z
end
end Go.Av
