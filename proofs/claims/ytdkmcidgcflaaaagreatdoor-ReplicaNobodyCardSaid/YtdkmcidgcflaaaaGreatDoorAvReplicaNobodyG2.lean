/- Each function tells what its mirror tells. -/
import Derived.Test.YtdkmcidgcflaaaaGreatDoorAvReplicaNobodyG1
import Derived.Test.YtdkmcidgcflaaaaGreatDoorProg
import Derived.KernelRfl
set_option linter.unusedSimpArgs false
set_option linter.unusedVariables false
set_option linter.unusedSectionVars false
namespace Go.Av
set_option maxHeartbeats 4000000
set_option maxRecDepth 40000
set_option synthInstance.maxSize 4000
set_option synthInstance.maxHeartbeats 400000
section
open Go.Proofs
theorem C_state_maybe {a1 : TPlan} {a2 : Bool} : Cn Pg 160 (state_maybe a1 a2) [E_TPlan a1, V.bool a2] V.bool := by
  refine fs ⟨tb, [], [(0, [0])], false⟩ fn160 Z Z Z Z fun _ h => eb Z h (fun h => ?_) fun h => ?_
  · exact eo 0 Z (.eqlT eqt51 eqk_TPlan shk_TPlan (lz Z) (lz Z) Z Z) (ef Z Z h.z rl Z Z)
  · exact ec Z h ⟨fun _ h => C_plan_Right h⟩ ss fun r4 h => ef Z Z h rl Z Z
theorem C_state_led {a1 : YbrB} {a2 : Int} : Cn Pg 161 (state_led a1 a2) [E_YbrB a1, (V.int .i64) a2] V.bool := by
  exact fs ⟨tb, [], [(0, [0])], false⟩ fn161 Z Z Z Z fun _ h => ecG Z h.z Z C_state_counts (.cons (vsub Z (.forget _ _ _)) ss) fun r4 h => ecG Z h Z C_state_maybe ss fun r5 h => ecG Z h Z C_plan_Fields ss fun r6 h => ecG Z h Z C_plan_Fields ss fun r7 h => ef Z Z h.z rl Z Z
theorem C_state_Right {a1 : YseS} : Cn Pg 93 (state_Right a1) [E_YseS a1] V.bool := by
  refine fs ⟨tb, [], [(0, [0]), (5, [1])], false⟩ fn93 Z Z Z Z fun _ h => ecG Z h.z.z Z C_state_counts (.cons (vsub Z (.forget _ _ _)) ss) fun r4 h => ecG Z h Z C_state_maybe ss fun r5 h => ecG Z h Z C_plan_Fields ss fun r6 h => eb Z h (fun h => ?_) fun h => ?_
  · exact ef Z Z h rl Z Z
  · refine eb Z h (fun h => ?_) fun h => ?_
    · exact ec Z h C_state_led ss fun r7 h => ef Z Z h rl Z Z
    · exact eo 0 Z (.lenT sli22 (lz Z) (vsub Z (.refl _))) (eo 0 Z (.lenT sli22 (lz Z) (vsub Z (.refl _))) (eg 0 Z Z (fun hc hB => .eqlT eqt51 eqk_TPlan shk_TPlan (lg hc Z) (lg hc Z) Z Z) (ef Z Z h.z.z.z.z.z rl Z Z)))
theorem C_cloneO_84 {a1 : List Int} {r : List Int} (h : app 1 [] a1 = some r) : CallSpec Pg 84 [E_S_u8 a1] [] fun o H' => o = .ret (.slo 1 0 [] 0 0 r.length 1) ∧ H' = [.buf 1 (List.map (V.int .u8) r)] := by
  refine CallSpec.of_bodyF 8 0 fn84 Z Z Z (Nat.le_of_ble_eq_true Z) ?_
  have hr := (app_get h).2
  refine Wq o1 Z (Sa Z cNs (Nn (AWp.splitNil (t := 0) (lw 1 Z) (fun hn => ?_) ?_)))
  · obtain rfl : a1 = [] := List.map_eq_nil_iff.1 hn
    obtain rfl : r = [] := by simpa using hr
    refine .seq (Wq o2 Z (Sa Z l0 (Ss Z (.eqlNil sli93 l0 cNs) ?_))); refine Nn (AWp.condT l0 (Wq o1 Z (Sa Z cNs ?_))); refine Nn (AWp.ret (thenQ_r (endF_wk (Wk.nilbuf 1 l0) ?_))); exact endF1 Z (Wk.selS [0] (by decide) Z (SelE.spec l0 Z (.refl _) Z Z .nil) (.cons Z Z (ASub.refl _) .nil)) (.tmp l0 Z) Z Z
  · refine .seq (Wq o2 Z (Sa Z l0 (Ss Z (.eqlNn sli93 l0 cNs) ?_))); refine Nn (AWp.condF l0 (AWp.skip (thenQ_n ?_))); refine Wq o4 Z (Ss Z (.buildSliceW sli93 zv5 Z Z (by decide) .nil) (Sm 3 Z Z (S.new 7 Z Z (.appNewT sli93 noi93 zv5 Z (by decide) (lq 1 Z) (V.sub.refl _) l0 Rd.sl h Z) trivial ?_))); exact Sa Z l0 (Nn (AWp.ret (endF1 Z (Wk.selS [0] (by decide) Z (SelE.spec l0 Z (.refl _) Z Z .nil) (.cons (lt_buf (TyOk.int .u8)) Z ⟨Z, RSubL.leafr (TyOk.int .u8) _ Z⟩ .nil)) (.tmp l0 Z) Z Z)))
theorem C_octets_Number {a1 : List Int} {a2 : Int} : Cn Pg 258 (octets_Number a1 a2) [.sl 1 .no (List.map (V.int .u8) a1), (V.int .i64) a2] E_S_u8 := by
  refine fs c0 fn258 Z Z Z Z fun _ h => ec Z h C_num_Is ss fun r3 h => eb Z h (fun h => ?_) fun h => ?_
  · refine eb Z h (fun h => ?_) fun h => ?_
    · refine h.z.b fun l5 m5 h => eo 0 Z (.callN ent84 cF [] (C_cloneO_84 m5) .nil .nil (ltL_c (ty_S_u8.lt _ _) ltL_nil) (.c (lz Z) (vsubr (V.sub.refl _) (ty_S_u8.lt _ 0)) .nil) Z (mapc (ren_buf (TyOk.int .u8) _) Z) Z) (el 1 [4] [4] Z h (fun s7 => [(6, .slo 1 0 [] 0 0 s7.1.length 1), (5, I s7.2)]) (fun s7 => [.buf 1 (List.map (V.int .u8) s7.1)]) (fun x8 => [(6, .slo 1 0 [] 0 0 x8.1.length 1), (5, I x8.2)]) (fun x8 => [.buf 1 (List.map (V.int .u8) x8.1)]) (wkI [0] Z Z (.cons (vsub Z (.slo (by first | rfl | simp))) ss) al (by decide) Z) (fun q6 _ s7 h6 => ?_) fun x8 h => ?_)
      · refine eb Z h6 (fun h6 => ?_) fun h6 => ?_
        · exact h6.b fun l9 m9 h6 => eo 0 Z (.appOwnT sli93 noi93 zv5 Z (by decide) (lz Z) Z (by first | rfl | simp) (lz Z) Rd.sl m9 Z) (eo 0 Z (.shr (lz Z) cI (by decide)) (ex Z h6.ret (wkI [1] Z Z (.cons (vsub Z (.slo (by first | rfl | simp))) ss) al (by decide) Z)))
        · exact ex Z h6.ret (wkI [0] Z Z (.cons (vsub Z (.slo (by first | rfl | simp))) ss) al (by decide) Z)
      · exact h.b fun l10 m10 h => eo 0 Z (.appOwnT sli93 noi93 zv5 Z (by decide) (lz Z) Z (by first | rfl | simp) (lz Z) Rd.sl m10 Z) (ef Z Z h rl Z Z)
    · refine h.b fun l11 m11 h => eo 0 Z (.callN ent84 cF [] (C_cloneO_84 m11) .nil .nil (ltL_c (ty_S_u8.lt _ _) ltL_nil) (.c (lz Z) (vsubr (V.sub.refl _) (ty_S_u8.lt _ 0)) .nil) Z (mapc (ren_buf (TyOk.int .u8) _) Z) Z) (el 1 [4] [4] Z h (fun s13 => [(6, .slo 1 0 [] 0 0 s13.1.length 1), (5, I s13.2)]) (fun s13 => [.buf 1 (List.map (V.int .u8) s13.1)]) (fun x14 => [(6, .slo 1 0 [] 0 0 x14.1.length 1), (5, I x14.2)]) (fun x14 => [.buf 1 (List.map (V.int .u8) x14.1)]) (wkI [0] Z Z (.cons (vsub Z (.slo (by first | rfl | simp))) ss) al (by decide) Z) (fun q12 _ s13 h12 => ?_) fun x14 h => ?_)
      · refine eb Z h12 (fun h12 => ?_) fun h12 => ?_
        · exact h12.b fun l15 m15 h12 => eo 0 Z (.appOwnT sli93 noi93 zv5 Z (by decide) (lz Z) Z (by first | rfl | simp) (lz Z) Rd.sl m15 Z) (eo 0 Z (.shr (lz Z) cI (by decide)) (ex Z h12.ret (wkI [1] Z Z (.cons (vsub Z (.slo (by first | rfl | simp))) ss) al (by decide) Z)))
        · exact ex Z h12.ret (wkI [0] Z Z (.cons (vsub Z (.slo (by first | rfl | simp))) ss) al (by decide) Z)
      · exact h.b fun l16 m16 h => eo 0 Z (.appOwnT sli93 noi93 zv5 Z (by decide) (lz Z) Z (by first | rfl | simp) (lz Z) Rd.sl m16 Z) (ef Z Z h rl Z Z)
  · refine eb Z h (fun h => ?_) fun h => ?_
    · refine h.z.b fun l18 m18 h => eo 0 Z (.callN ent84 cF [] (C_cloneO_84 m18) .nil .nil (ltL_c (ty_S_u8.lt _ _) ltL_nil) (.c (lz Z) (vsubr (V.sub.refl _) (ty_S_u8.lt _ 0)) .nil) Z (mapc (ren_buf (TyOk.int .u8) _) Z) Z) (el 1 [4] [4] Z h (fun s20 => [(6, .slo 1 0 [] 0 0 s20.1.length 1), (5, I s20.2)]) (fun s20 => [.buf 1 (List.map (V.int .u8) s20.1)]) (fun x21 => [(6, .slo 1 0 [] 0 0 x21.1.length 1), (5, I x21.2)]) (fun x21 => [.buf 1 (List.map (V.int .u8) x21.1)]) (wkI [0] Z Z (.cons (vsub Z (.slo (by first | rfl | simp))) ss) al (by decide) Z) (fun q19 _ s20 h19 => ?_) fun x21 h => ?_)
      · refine eb Z h19 (fun h19 => ?_) fun h19 => ?_
        · exact h19.b fun l22 m22 h19 => eo 0 Z (.appOwnT sli93 noi93 zv5 Z (by decide) (lz Z) Z (by first | rfl | simp) (lz Z) Rd.sl m22 Z) (eo 0 Z (.shr (lz Z) cI (by decide)) (ex Z h19.ret (wkI [1] Z Z (.cons (vsub Z (.slo (by first | rfl | simp))) ss) al (by decide) Z)))
        · exact ex Z h19.ret (wkI [0] Z Z (.cons (vsub Z (.slo (by first | rfl | simp))) ss) al (by decide) Z)
      · exact h.b fun l23 m23 h => eo 0 Z (.appOwnT sli93 noi93 zv5 Z (by decide) (lz Z) Z (by first | rfl | simp) (lz Z) Rd.sl m23 Z) (ef Z Z h rl Z Z)
    · refine h.b fun l24 m24 h => eo 0 Z (.callN ent84 cF [] (C_cloneO_84 m24) .nil .nil (ltL_c (ty_S_u8.lt _ _) ltL_nil) (.c (lz Z) (vsubr (V.sub.refl _) (ty_S_u8.lt _ 0)) .nil) Z (mapc (ren_buf (TyOk.int .u8) _) Z) Z) (el 1 [4] [4] Z h (fun s26 => [(6, .slo 1 0 [] 0 0 s26.1.length 1), (5, I s26.2)]) (fun s26 => [.buf 1 (List.map (V.int .u8) s26.1)]) (fun x27 => [(6, .slo 1 0 [] 0 0 x27.1.length 1), (5, I x27.2)]) (fun x27 => [.buf 1 (List.map (V.int .u8) x27.1)]) (wkI [0] Z Z (.cons (vsub Z (.slo (by first | rfl | simp))) ss) al (by decide) Z) (fun q25 _ s26 h25 => ?_) fun x27 h => ?_)
      · refine eb Z h25 (fun h25 => ?_) fun h25 => ?_
        · exact h25.b fun l28 m28 h25 => eo 0 Z (.appOwnT sli93 noi93 zv5 Z (by decide) (lz Z) Z (by first | rfl | simp) (lz Z) Rd.sl m28 Z) (eo 0 Z (.shr (lz Z) cI (by decide)) (ex Z h25.ret (wkI [1] Z Z (.cons (vsub Z (.slo (by first | rfl | simp))) ss) al (by decide) Z)))
        · exact ex Z h25.ret (wkI [0] Z Z (.cons (vsub Z (.slo (by first | rfl | simp))) ss) al (by decide) Z)
      · exact h.b fun l29 m29 h => eo 0 Z (.appOwnT sli93 noi93 zv5 Z (by decide) (lz Z) Z (by first | rfl | simp) (lz Z) Rd.sl m29 Z) (ef Z Z h rl Z Z)
theorem C_state_writer_numbers {a2 : List Int} {b1 : Tstate_writer} : Co Pg 212 (state_writer_numbers a2 b1) [.ptr 0 [] 0, .sl 1 .no (List.map (V.int .i64) a2)] [.cells (E_Tstate_writer b1)] (fun _ => .tup []) (fun r => [.cells (E_Tstate_writer r)]) := by
  refine fo c0 fn212 Z Z Z Z Z fun _ h => eo 0 Z (.lenT sli67 (lz Z) (vsub Z (.refl _))) (el 1 [7, 6] [] Z h (fun s4 => [(0, .ptr 0 [] 0), (8, I s4.2)]) (fun s4 => [.cells (E_Tstate_writer s4.1)]) (fun x5 => []) (fun x5 => [.cells (E_Tstate_writer x5)]) (wkI [0] Z Z ss al (by decide) Z) (fun q3 _ s4 h3 => ?_) fun x5 h => ?_)
  · refine eb Z h3 (fun h3 => ?_) fun h3 => ?_
    · exact h3.b fun j6 m6 h3 => eo 0 Z (.ixS sli67 (lz Z) (lz Z) m6) (ec Z h3 C_octets_Number ss fun r7 h3 => ex Z h3.z.ret (wkI [0] Z Z ss al (by decide) Z))
    · exact ex Z h3.ret (wkI [0] Z Z ss al (by decide) Z)
  · exact efo [0] Z Z h Z rl Z Z al (by decide) Z
theorem C_octets_Number_own {a1 : List Int} {a2 : Int} : Co Pg 258 (octets_Number_own a1 a2) [.sl 1 .no (List.map (V.int .u8) a1), (V.int .i64) a2] [] (fun r => .slo 1 0 [] 0 0 r.length 1) (fun r => [.buf 1 (List.map (V.int .u8) r)]) := by
  refine fo c0 fn258 Z Z Z Z Z fun _ h => ec Z h C_num_Is ss fun r3 h => eb Z h (fun h => ?_) fun h => ?_
  · refine eb Z h (fun h => ?_) fun h => ?_
    · refine h.z.b fun l5 m5 h => eo 0 Z (.callN ent84 cF [] (C_cloneO_84 m5) .nil .nil (ltL_c (ty_S_u8.lt _ _) ltL_nil) (.c (lz Z) (vsubr (V.sub.refl _) (ty_S_u8.lt _ 0)) .nil) Z (mapc (ren_buf (TyOk.int .u8) _) Z) Z) (el 1 [4] [4] Z h (fun s7 => [(6, .slo 1 0 [] 0 0 s7.1.length 1), (5, I s7.2)]) (fun s7 => [.buf 1 (List.map (V.int .u8) s7.1)]) (fun x8 => [(6, .slo 1 0 [] 0 0 x8.1.length 1), (5, I x8.2)]) (fun x8 => [.buf 1 (List.map (V.int .u8) x8.1)]) (wkI [0] Z Z (.cons (vsub Z (.slo (by first | rfl | simp))) ss) al (by decide) Z) (fun q6 _ s7 h6 => ?_) fun x8 h => ?_)
      · refine eb Z h6 (fun h6 => ?_) fun h6 => ?_
        · exact h6.b fun l9 m9 h6 => eo 0 Z (.appOwnT sli93 noi93 zv5 Z (by decide) (lz Z) Z (by first | rfl | simp) (lz Z) Rd.sl m9 Z) (eo 0 Z (.shr (lz Z) cI (by decide)) (ex Z h6.ret (wkI [1] Z Z (.cons (vsub Z (.slo (by first | rfl | simp))) ss) al (by decide) Z)))
        · exact ex Z h6.ret (wkI [0] Z Z (.cons (vsub Z (.slo (by first | rfl | simp))) ss) al (by decide) Z)
      · exact h.b fun l10 m10 h => eo 0 Z (.appOwnT sli93 noi93 zv5 Z (by decide) (lz Z) Z (by first | rfl | simp) (lz Z) Rd.sl m10 Z) (efo [1] Z Z h Z rl Z Z al (by decide) Z)
    · refine h.b fun l11 m11 h => eo 0 Z (.callN ent84 cF [] (C_cloneO_84 m11) .nil .nil (ltL_c (ty_S_u8.lt _ _) ltL_nil) (.c (lz Z) (vsubr (V.sub.refl _) (ty_S_u8.lt _ 0)) .nil) Z (mapc (ren_buf (TyOk.int .u8) _) Z) Z) (el 1 [4] [4] Z h (fun s13 => [(6, .slo 1 0 [] 0 0 s13.1.length 1), (5, I s13.2)]) (fun s13 => [.buf 1 (List.map (V.int .u8) s13.1)]) (fun x14 => [(6, .slo 1 0 [] 0 0 x14.1.length 1), (5, I x14.2)]) (fun x14 => [.buf 1 (List.map (V.int .u8) x14.1)]) (wkI [0] Z Z (.cons (vsub Z (.slo (by first | rfl | simp))) ss) al (by decide) Z) (fun q12 _ s13 h12 => ?_) fun x14 h => ?_)
      · refine eb Z h12 (fun h12 => ?_) fun h12 => ?_
        · exact h12.b fun l15 m15 h12 => eo 0 Z (.appOwnT sli93 noi93 zv5 Z (by decide) (lz Z) Z (by first | rfl | simp) (lz Z) Rd.sl m15 Z) (eo 0 Z (.shr (lz Z) cI (by decide)) (ex Z h12.ret (wkI [1] Z Z (.cons (vsub Z (.slo (by first | rfl | simp))) ss) al (by decide) Z)))
        · exact ex Z h12.ret (wkI [0] Z Z (.cons (vsub Z (.slo (by first | rfl | simp))) ss) al (by decide) Z)
      · exact h.b fun l16 m16 h => eo 0 Z (.appOwnT sli93 noi93 zv5 Z (by decide) (lz Z) Z (by first | rfl | simp) (lz Z) Rd.sl m16 Z) (efo [1] Z Z h Z rl Z Z al (by decide) Z)
  · refine eb Z h (fun h => ?_) fun h => ?_
    · refine h.z.b fun l18 m18 h => eo 0 Z (.callN ent84 cF [] (C_cloneO_84 m18) .nil .nil (ltL_c (ty_S_u8.lt _ _) ltL_nil) (.c (lz Z) (vsubr (V.sub.refl _) (ty_S_u8.lt _ 0)) .nil) Z (mapc (ren_buf (TyOk.int .u8) _) Z) Z) (el 1 [4] [4] Z h (fun s20 => [(6, .slo 1 0 [] 0 0 s20.1.length 1), (5, I s20.2)]) (fun s20 => [.buf 1 (List.map (V.int .u8) s20.1)]) (fun x21 => [(6, .slo 1 0 [] 0 0 x21.1.length 1), (5, I x21.2)]) (fun x21 => [.buf 1 (List.map (V.int .u8) x21.1)]) (wkI [0] Z Z (.cons (vsub Z (.slo (by first | rfl | simp))) ss) al (by decide) Z) (fun q19 _ s20 h19 => ?_) fun x21 h => ?_)
      · refine eb Z h19 (fun h19 => ?_) fun h19 => ?_
        · exact h19.b fun l22 m22 h19 => eo 0 Z (.appOwnT sli93 noi93 zv5 Z (by decide) (lz Z) Z (by first | rfl | simp) (lz Z) Rd.sl m22 Z) (eo 0 Z (.shr (lz Z) cI (by decide)) (ex Z h19.ret (wkI [1] Z Z (.cons (vsub Z (.slo (by first | rfl | simp))) ss) al (by decide) Z)))
        · exact ex Z h19.ret (wkI [0] Z Z (.cons (vsub Z (.slo (by first | rfl | simp))) ss) al (by decide) Z)
      · exact h.b fun l23 m23 h => eo 0 Z (.appOwnT sli93 noi93 zv5 Z (by decide) (lz Z) Z (by first | rfl | simp) (lz Z) Rd.sl m23 Z) (efo [1] Z Z h Z rl Z Z al (by decide) Z)
    · refine h.b fun l24 m24 h => eo 0 Z (.callN ent84 cF [] (C_cloneO_84 m24) .nil .nil (ltL_c (ty_S_u8.lt _ _) ltL_nil) (.c (lz Z) (vsubr (V.sub.refl _) (ty_S_u8.lt _ 0)) .nil) Z (mapc (ren_buf (TyOk.int .u8) _) Z) Z) (el 1 [4] [4] Z h (fun s26 => [(6, .slo 1 0 [] 0 0 s26.1.length 1), (5, I s26.2)]) (fun s26 => [.buf 1 (List.map (V.int .u8) s26.1)]) (fun x27 => [(6, .slo 1 0 [] 0 0 x27.1.length 1), (5, I x27.2)]) (fun x27 => [.buf 1 (List.map (V.int .u8) x27.1)]) (wkI [0] Z Z (.cons (vsub Z (.slo (by first | rfl | simp))) ss) al (by decide) Z) (fun q25 _ s26 h25 => ?_) fun x27 h => ?_)
      · refine eb Z h25 (fun h25 => ?_) fun h25 => ?_
        · exact h25.b fun l28 m28 h25 => eo 0 Z (.appOwnT sli93 noi93 zv5 Z (by decide) (lz Z) Z (by first | rfl | simp) (lz Z) Rd.sl m28 Z) (eo 0 Z (.shr (lz Z) cI (by decide)) (ex Z h25.ret (wkI [1] Z Z (.cons (vsub Z (.slo (by first | rfl | simp))) ss) al (by decide) Z)))
        · exact ex Z h25.ret (wkI [0] Z Z (.cons (vsub Z (.slo (by first | rfl | simp))) ss) al (by decide) Z)
      · exact h.b fun l29 m29 h => eo 0 Z (.appOwnT sli93 noi93 zv5 Z (by decide) (lz Z) Z (by first | rfl | simp) (lz Z) Rd.sl m29 Z) (efo [1] Z Z h Z rl Z Z al (by decide) Z)
theorem C_octets_Text {a1 : List Int} {a2 : ByteArray} : Cn Pg 260 (octets_Text a1 a2) [.sl 1 .no (List.map (V.int .u8) a1), V.str a2] E_S_u8 := by
  refine fs c0 fn260 Z Z Z Z fun _ h => ech [] Z h C_octets_Number_own ss Z al (by decide) fun r3 h => ?_; exact h.b fun l4 m4 h => eo 0 Z (.appOwnT sli93 noi9 zv5 Z (by decide) (lz Z) Z (by first | rfl | simp) (lz Z) Rd.str m4 Z) (ef Z Z h rl Z Z)
theorem C_state_writer_plan {a2 : TPlan} {b1 : Tstate_writer} : Co Pg 213 (state_writer_plan a2 b1) [.ptr 0 [] 0, E_TPlan a2] [.cells (E_Tstate_writer b1)] (fun _ => .tup []) (fun r => [.cells (E_Tstate_writer r)]) := by
  refine fo ⟨tb, [], [(0, [1])], false⟩ fn213 Z Z Z Z Z fun _ h => ech [0] Z h C_state_writer_numbers (.cons (V.sub.refl _) (.cons (vsub Z (.forget _ _ _)) ss)) Z al (by decide) fun r3 h => ?_; exact ed [] Z (edc Z h C_octets_Text ss fun r4 h => edc Z h C_octets_Text ss fun r5 h => ee Z (by kernel_rfl) (efo [0] Z Z h.z Z rl Z Z al (by decide) Z))
theorem C_wire_says  {r : Unit} (h : wire_says = some r) : CallSpec Pg 244 [] [] fun o H' => o = .ret (.map 0) ∧ H' = [.map (encC [(1, .fn 277 [] []), (2, .fn 278 [] []), (3, .fn 279 [] [])])] := by
  refine CallSpec.of_bodyF 3 0 fn244 Z Z Z (Nat.le_of_ble_eq_true Z) ?_; replace h := Ok.of h; unfold wire_says at h; refine Wq o1 Z (Sa Z cNm (Nw o6 Z (Sv (.map 0) [.map (encC [])] Z (.makeMap) Z Z trivial ?_))); refine Sn [.map (encC [(1, .fn 277 [] [])])] Z Z (.insC und293 und3 l0 cI cF Z Z Z (by decide) Z Z) Z trivial (Sn [.map (encC [(1, .fn 277 [] []), (2, .fn 278 [] [])])] Z Z (.insC und293 und3 l0 cI cF Z Z Z (by decide) Z Z) Z trivial (Sn [.map (encC [(1, .fn 277 [] []), (2, .fn 278 [] []), (3, .fn 279 [] [])])] Z Z (.insC und293 und3 l0 cI cF Z Z Z (by decide) Z Z) Z trivial (Sa Z l0 ?_))); refine Sa Z l0 (Nn (AWp.ret ?_)); obtain rfl := h.ret; exact endF1 Z (Wk.selS [0] (by decide) Z (SelE.spec (v := .map 0) l0 Z (.refl _) Z Z .nil) (.cons Z Z (ASub.refl _) .nil)) (.tmp l0 Z) Z Z
theorem C_wire_says_1 {a1 : TField} : Cn Pg 277 (wire_says_1 a1) [E_TField a1] V.bool := by
  exact fs ⟨tb, [], [(0, [0])], false⟩ fn277 Z Z Z Z fun _ h => eg 0 Z Z (fun hc hB => .lenT sli46 (lg hc Z) (vsub Z (.refl _))) (ef Z Z h.z rl Z Z)
theorem C_wire_says_2 {a1 : TField} : Cn Pg 278 (wire_says_2 a1) [E_TField a1] V.bool := by
  exact fs ⟨tb, [], [(0, [0])], false⟩ fn278 Z Z Z Z fun _ h => ef Z Z h rl Z Z
theorem C_wire_says_3 {a1 : TField} : Cn Pg 279 (wire_says_3 a1) [E_TField a1] V.bool := by
  exact fs ⟨tb, [], [(0, [0])], false⟩ fn279 Z Z Z Z fun _ h => ef Z Z h rl Z Z
theorem C_wire_Says {a1 : Int} {a2 : TField} {r : Bool} (h : wire_Says a1 a2 = some r) : PureC Pg 180 [(V.int .i64) a1, E_TField a2] (V.bool r) := by
  refine .c 18 fn180 Z Z Z ?_; replace h := Ok.of h; unfold wire_Says at h; refine Wq o2 Z (Sv (.ptr 0 [] 0) [.cells (E_TField a2)] Z (.box (lq 1 Z) Z) Z Z trivial (Sa Z cB (Nn ?_))); refine AWp.wk (Wk.freeze 0 Z Z (.cons (lw 1 Z) Z (.ptr .nil Z) (.l [0, 2] Z)) (.refl _)) (AWp.seq (W.regD o14 mixed (Ss Z (.ldC l0 Z) ?_))); refine h.b fun r3 m3 h => Ss Z (.cq (cr l0 .nil) (C_field_Right.p _ m3) Z) (Sa Z l0 (Sg Z l0 (.move (lq 5 Z)) (h.b fun r4 m4 h => ?_))); refine Sj Z (lq 1 Z) (fun hB => .cq (cr (i0 hB) .nil) (C_wire_is.p _ (gd_get m4 hB)) Z) (Ss Z (.pickAnd (lq 2 Z) i0 cB) (Sa Z l0 (Ok.spl h (fun c1 h => ?_) (fun c1 h => ?_))))
  · refine h.b fun u5 m5 h => S.yeff 12 6 11 true Z Z Z (l0.trans (congrArg V.bool c1)) (.callN ent244 cF [] (C_wire_says m5) .nil .nil ltL_nil .nil Z (mapc Z Z) Z) trivial (S.ysil 13 6 11 true Z Z Z ((lq 1 Z).trans (congrArg V.bool c1)) (fun _ hF => .move (lq 10 Z)) (h.b fun u6 m6 h => Ok.spl h (fun c2 h => ?_) (fun c2 h => ?_)))
    · refine S.yqui 14 6 11 true Z Z Z ((lq 2 Z).trans (congrArg V.bool c1)) (fun _ => .lookV (es := [(1, .fn 277 [] []), (2, .fn 278 [] []), (3, .fn 279 [] [])]) und293 und3 zv101 (lq 1 Z) l0 Z (i64M_get m6) Z (by decide) (of_decide_eq_true c2) (List.Mem.head _) Z) (S.ysil 15 6 11 true Z Z Z ((lq 3 Z).trans (congrArg V.bool c1)) (fun _ hF => .ldC (lq 10 Z) Z) (h.b fun r7 m7 h => S.ysil 16 6 11 true Z Z Z ((lq 4 Z).trans (congrArg V.bool c1)) (fun _ hF => .callQ ent277 (lq 1 Z) (cr l0 .nil) (C_wire_says_1.p _ m7)) (Ss Z (.pickT ((lq 5 Z).trans (congrArg V.bool c1)) l0) ?_))); refine Sa Z l0 (S.nilD (by kernel_rfl) (thenQ_n (Pr [0] Z ?_))); refine AWp.ret ?_; obtain rfl := h.ret; exact e2 0 Z Z
    · refine Ok.spl h (fun c3 h => ?_) (fun c3 h => ?_)
      · refine S.yqui 14 6 11 true Z Z Z ((lq 2 Z).trans (congrArg V.bool c1)) (fun _ => .lookV (es := [(1, .fn 277 [] []), (2, .fn 278 [] []), (3, .fn 279 [] [])]) und293 und3 zv101 (lq 1 Z) l0 Z (i64M_get m6) Z (by decide) (of_decide_eq_true c3) (List.Mem.tail _ (List.Mem.head _)) Z) (S.ysil 15 6 11 true Z Z Z ((lq 3 Z).trans (congrArg V.bool c1)) (fun _ hF => .ldC (lq 10 Z) Z) (h.b fun r8 m8 h => S.ysil 16 6 11 true Z Z Z ((lq 4 Z).trans (congrArg V.bool c1)) (fun _ hF => .callQ ent278 (lq 1 Z) (cr l0 .nil) (C_wire_says_2.p _ m8)) (Ss Z (.pickT ((lq 5 Z).trans (congrArg V.bool c1)) l0) ?_))); refine Sa Z l0 (S.nilD (by kernel_rfl) (thenQ_n (Pr [0] Z ?_))); refine AWp.ret ?_; obtain rfl := h.ret; exact e2 0 Z Z
      · refine Ok.spl h (fun c4 h => ?_) (fun c4 h => ?_)
        · refine S.yqui 14 6 11 true Z Z Z ((lq 2 Z).trans (congrArg V.bool c1)) (fun _ => .lookV (es := [(1, .fn 277 [] []), (2, .fn 278 [] []), (3, .fn 279 [] [])]) und293 und3 zv101 (lq 1 Z) l0 Z (i64M_get m6) Z (by decide) (of_decide_eq_true c4) (List.Mem.tail _ (List.Mem.tail _ (List.Mem.head _))) Z) (S.ysil 15 6 11 true Z Z Z ((lq 3 Z).trans (congrArg V.bool c1)) (fun _ hF => .ldC (lq 10 Z) Z) (h.b fun r9 m9 h => S.ysil 16 6 11 true Z Z Z ((lq 4 Z).trans (congrArg V.bool c1)) (fun _ hF => .callQ ent279 (lq 1 Z) (cr l0 .nil) (C_wire_says_3.p _ m9)) (Ss Z (.pickT ((lq 5 Z).trans (congrArg V.bool c1)) l0) ?_))); refine Sa Z l0 (S.nilD (by kernel_rfl) (thenQ_n (Pr [0] Z ?_))); refine AWp.ret ?_; obtain rfl := h.ret; exact e2 0 Z Z
        · exact h.no.elim
  · refine S.gno 12 6 11 true Z Z Z (l0.trans (congrArg V.bool c1)) Z (S.gno 13 6 11 true Z Z Z ((lq 1 Z).trans (congrArg V.bool c1)) Z (S.gno 14 6 11 true Z Z Z ((lq 2 Z).trans (congrArg V.bool c1)) Z (S.gno 15 6 11 true Z Z Z ((lq 3 Z).trans (congrArg V.bool c1)) Z ?_))); refine S.gno 16 6 11 true Z Z Z ((lq 4 Z).trans (congrArg V.bool c1)) Z (Ss Z (.pickF ((lq 5 Z).trans (congrArg V.bool c1)) cB) (Sa Z l0 (S.nilD (by kernel_rfl) ?_))); refine thenQ_n (Pr [0] Z (AWp.ret ?_)); obtain rfl := h.ret; exact e2 0 Z Z
theorem C_wire_numbers {a1 : List Int} {a2 : List Int} : Cn Pg 295 (wire_numbers a1 a2) [.sl 1 .no (List.map (V.int .u8) a1), .sl 1 .no (List.map (V.int .i64) a2)] E_S_u8 := by
  refine fs c0 fn295 Z Z Z Z fun _ h => eo 0 Z (.lenT sli67 (lz Z) (vsub Z (.refl _))) (el0 1 [8, 7, 4] [4] Z h (fun s4 => [(9, I s4.1), (0, .sl 1 .no (List.map (V.int .u8) s4.2))]) (fun x5 => [(0, .sl 1 .no (List.map (V.int .u8) x5))]) (wk0 Z) (fun q3 _ s4 h3 => ?_) fun x5 h => ?_)
  · refine eb Z h3 (fun h3 => ?_) fun h3 => ?_
    · exact h3.b fun j6 m6 h3 => eo 0 Z (.ixS sli67 (lz Z) (lz Z) m6) (ec Z h3 C_octets_Number ss fun r7 h3 => ex Z h3.ret (wk0 Z))
    · exact ex Z h3.ret (wk0 Z)
  · exact ef Z Z h rl Z Z
theorem C_wire_vectors {a1 : TRights} : Cn Pg 223 (wire_vectors a1) [.cptr (E_TRights a1)] E_S_P_A16_i64 := by
  refine fs c0 fn223 Z Z Z Z fun _ h => ed [] Z (ee Z (by kernel_rfl) (el 1 [2, 0] [2] Z h (fun s3 => [(3, .sl 1 (.tok 0) (List.map E_P_A16_i64 s3.2)), (12, I s3.1)]) (fun s3 => [.tail]) (fun x4 => [(3, .sl 1 (.tok 0) (List.map E_P_A16_i64 x4))]) (fun x4 => [.tail]) (wkV (wkI [0] Z Z (.cons (vsub Z (.tok _ _ _)) ss) al (by decide) Z)) (fun q2 _ s3 h2 => ?_) fun x4 h => ?_))
  · refine eb Z h2 (fun h2 => ?_) fun h2 => ?_
    · exact h2.b fun k5 m5 h2 => eo 0 Z (.ixC arr39 (lz Z) (lz Z) m5) (h2.b fun l6 m6 h2 => eo 0 Z (.appT sli278 noi278 zv280 Z (by decide) (lz Z) Z (lz Z) Rd.sl m6 Z) (ex Z h2.ret (wkI [1] Z Z ss al (by decide) Z)))
    · exact ex Z h2.ret (wkI [0] Z Z ss al (by decide) Z)
  · exact ef Z Z h (.cons (.forget _ _ _) rl) Z Z
theorem C_slices_Grow_Vec_own {a1 : Int} {r : (List (Vector Int 16))} (h : slices_Grow_Vec_own a1 = some r) : CallSpec Pg 268 [.nils, (V.int .i64) a1] [] fun o H' => o = .ret (.slo 1 0 [] 0 0 r.length 1) ∧ H' = [.buf 1 (List.map E_P_A16_i64 r)] := by
  refine CallSpec.of_bodyF 27 0 fn268 Z Z Z (Nat.le_of_ble_eq_true Z) ?_; replace h := Ok.of h; unfold slices_Grow_Vec_own at h; refine Wq o1 Z (Sa Z cNs (Nn (AWp.seq ?_))); refine Wq o2 Z (Sm 2 Z Z (Ss Z (.lss l0 cI) (Nn ?_))); refine AWp.condM l0 h (fun c1 h => ?_) (fun c1 h => ?_)
  · exact h.no.elim
  · refine AWp.skip (thenQ_n (AWp.seq (Wq o8 Z ?_))); refine Sm 4 Z Z (Sm 4 Z Z (Ss Z (.capNil sli278 l0) (Sm 6 Z Z ?_))); refine Ss Z (.lenN sli278 l0) (Ss Z (.sub (lq 2 Z) l0) (Ss Z (.sub (lq 5 Z) l0) (h.n fun v2 ev2 h => ?_))); refine Ss Z (.nv (.assign l0) (congrArg I ev2.symm)) (Nn (Pr [0, 10, 11] Z (Wq o2 Z ?_))); refine Sa Z l0 (Ss Z (.gtr l0 cI) (Nn (AWp.condM l0 h (fun c2 h => ?_) (fun c2 h => ?_))))
    · refine W.reg o10 Z (Sm 4 Z Z (Sm 5 Z Z (Ss Z (.capNil sli278 l0) ?_))); refine Ss Z (.sliceNil0 sli278 (lq 2 Z) l0) (Sm 6 Z Z (h.b fun u3 m3 h => Sv (.slo 1 0 [] 0 0 v2.toNat 1) [.buf 1 (List.map E_P_A16_i64 ([] : List (Vector Int 16)))] Z (.appMake sli278 und3 zv280 Z (by decide) (lq 1 Z) l0 (mkM_get m3).1 (mkM_get m3).2 Z) Z Z trivial (Sm 10 Z Z ?_))); refine Ss Z (.lenN sli278 l0) (Ss Z (.sliceOwn0 sli278 (lq 2 Z) l0) (Sa Z l0 (Nn ?_))); refine Pr [0, 13] Z (Wq o2 Z (Sa Z l0 (Sa Z l0 ?_))); refine Nn (AWp.ret ?_); obtain rfl := h.ret; exact endF1 Z (Wk.selS [0] (by decide) Z (SelE.spec (v := .slo 1 0 [] 0 0 ([] : List (Vector Int 16)).length 1) l0 Z (.slo (by first | rfl | simp)) Z Z .nil) (.cons Z Z (ASub.refl _) .nil)) (.tmp l0 Z) Z Z
    · refine AWp.skip (thenQ_n (Wq o2 Z (Sm 4 Z Z ?_))); refine Sa Z l0 (Nn (AWp.ret (endF_wk (Wk.nilbuf 1 l0) ?_))); obtain rfl := h.ret; exact endF1 Z (Wk.selS [0] (by decide) Z (SelE.spec (v := .slo 1 0 [] 0 0 ([] : List (Vector Int 16)).length 1) l0 Z (.slo (by first | rfl | simp)) Z Z .nil) (.cons Z Z (ASub.refl _) .nil)) (.tmp l0 Z) Z Z
theorem C_slices_Concat_Vec {a1 : List (List (Vector Int 16))} : Cn Pg 222 (slices_Concat_Vec a1) [.sl 1 .no (List.map E_S_P_A16_i64 a1)] E_S_P_A16_i64 := by
  refine fs c0 fn222 Z Z Z Z fun _ h => eo 0 Z (.lenT sli317 (lz Z) (vsub Z (.refl _))) (el0 1 [10, 9, 2, 0] [2, 0] Z h (fun s3 => [(11, I s3.1), (3, I s3.2)]) (fun x4 => [(3, I x4)]) (wk0 Z) (fun q2 _ s3 h2 => ?_) fun x4 h => ?_)
  · refine eb Z h2 (fun h2 => ?_) fun h2 => ?_
    · refine h2.b fun j5 m5 h2 => eo 0 Z (.ixS sli317 (lz Z) (lz Z) m5) (eo 0 Z (.lenT sli278 (lz Z) (vsub Z (.refl _))) (eb Z h2.z (fun h2 => ?_) fun h2 => ?_))
      · exact h2.no.elim
      · exact ex Z h2.ret (wk0 Z)
    · exact ex Z h2.ret (wk0 Z)
  · refine ech [] Z h ⟨fun _ h => C_slices_Grow_Vec_own h⟩ ss Z al (by decide) fun r7 h => ?_; refine eo 0 Z (.lenT sli317 (lz Z) (vsub Z (.refl _))) (el 1 [26, 25, 2] [2] Z h (fun s9 => [(6, .slo 1 0 [] 0 0 s9.2.length 1), (27, I s9.1)]) (fun s9 => [.buf 1 (List.map E_P_A16_i64 s9.2)]) (fun x10 => [(6, .slo 1 0 [] 0 0 x10.length 1)]) (fun x10 => [.buf 1 (List.map E_P_A16_i64 x10)]) (wkI [0] Z Z (.cons (vsub Z (.slo (by first | rfl | simp))) ss) al (by decide) Z) (fun q8 _ s9 h8 => ?_) fun x10 h => ?_)
    · refine eb Z h8 (fun h8 => ?_) fun h8 => ?_
      · exact h8.b fun j11 m11 h8 => eo 0 Z (.ixS sli317 (lz Z) (lz Z) m11) (h8.b fun l12 m12 h8 => eo 0 Z (.appOwnT sli278 noi278 zv280 Z (by decide) (lz Z) Z (by first | rfl | simp) (lz Z) Rd.sl m12 Z) (ex Z h8.ret (wkI [1] Z Z (.cons (vsub Z (.slo (by first | rfl | simp))) ss) al (by decide) Z)))
      · exact ex Z h8.ret (wkI [0] Z Z (.cons (vsub Z (.slo (by first | rfl | simp))) ss) al (by decide) Z)
    · exact ef Z Z h rl Z Z
theorem C_wire_Encode {a1 : Int} {a2 : TField} : Cn Pg 259 (wire_Encode a1 a2) [(V.int .i64) a1, E_TField a2] (fun r => .tup [E_S_u8 r.1, (V.int .i64) r.2]) := by
  refine fs ⟨tb, [], [(0, [0]), (21, [0])], false⟩ fn259 Z Z Z Z fun _ h => ec Z h C_field_Right ss fun r3 h => eb Z h (fun h => ?_) fun h => ?_
  · exact ef Z Z h (.cons (.nils_no _) rl) Z Z
  · refine ec Z h ⟨fun _ h => C_wire_Says h⟩ ss fun r4 h => eb Z h (fun h => ?_) fun h => ?_
    · exact ef Z Z h (.cons (.nils_no _) rl) Z Z
    · refine ed [] Z (edc Z h C_wire_numbers (.cons (vsub Z (.nils_no _)) (.cons (vsub Z (.forget _ _ _)) ss)) fun r5 h => edc Z h C_octets_Text ss fun r6 h => ee Z (by kernel_rfl) (eb Z h (fun h => ?_) fun h => ?_))
      · refine ec Z h C_wire_numbers (.cons (V.sub.refl _) (.cons (vsub Z (.forget _ _ _)) ss)) fun r7 h => eb Z h (fun h => ?_) fun h => ?_
        · exact ec Z h C_wire_numbers (.cons (V.sub.refl _) (.cons (vsub Z (.forget _ _ _)) ss)) fun r8 h => ef Z Z h rl Z Z
        · refine ec Z h C_wire_numbers (.cons (V.sub.refl _) (.cons (vsub Z (.forget _ _ _)) ss)) fun r9 h => ec Z h C_wire_vectors ss fun r10 h => ec Z h C_wire_vectors ss fun r11 h => ec Z h C_slices_Concat_Vec (.cons (vsub Z (.forget _ _ _)) ss) fun r12 h => eo 0 Z (.lenT sli278 (lz Z) (vsub Z (.refl _))) (el 1 [73, 72, 3, 5, 4, 0] [3, 5, 4, 0] Z h (fun s14 => [(74, I s14.1), (6, .sl 1 .no (List.map (V.int .u8) s14.2))]) (fun s14 => []) (fun x15 => [(6, .sl 1 .no (List.map (V.int .u8) x15))]) (fun x15 => []) (wkI [] Z Z ss al (by decide) Z) (fun q13 _ s14 h13 => ?_) fun x15 h => ?_)
          · refine eb Z h13 (fun h13 => ?_) fun h13 => ?_
            · exact h13.b fun j16 m16 h13 => eo 0 Z (.ixS sli278 (lz Z) (lz Z) m16) (eo 0 Z (.sliceArr arr38 (lz Z) (by simp)) (ec Z h13 C_wire_numbers (.cons (V.sub.refl _) (.cons (vsub Z (.forget _ _ _)) ss)) fun r17 h13 => ex Z h13.ret (wkI [] Z Z ss al (by decide) Z)))
            · exact ex Z h13.ret (wkI [] Z Z ss al (by decide) Z)
          · refine eb Z h (fun h => ?_) fun h => ?_
            · exact ef Z Z h rl Z Z
            · refine eo 0 Z (.lenT sli46 (lz Z) (vsub Z (.refl _))) (ec Z h C_wire_numbers (.cons (V.sub.refl _) (.cons (vsub Z (.forget _ _ _)) ss)) fun r18 h => eo 0 Z (.lenT sli46 (lz Z) (vsub Z (.refl _))) (el0 1 [95, 94, 5, 4] [5, 4] Z h (fun s20 => [(96, I s20.1), (6, .sl 1 .no (List.map (V.int .u8) s20.2))]) (fun x21 => [(6, .sl 1 .no (List.map (V.int .u8) x21))]) (wk0 Z) (fun q19 _ s20 h19 => ?_) fun x21 h => ?_))
              · refine eb Z h19 (fun h19 => ?_) fun h19 => ?_
                · exact h19.b fun j22 m22 h19 => eo 0 Z (.ixS sli46 (lz Z) (lz Z) m22) (ec Z h19.z C_wire_numbers (.cons (V.sub.refl _) (.cons (vsub Z (.forget _ _ _)) ss)) fun r24 h19 => ex Z h19.ret (wkI [] Z Z ss al (by decide) Z))
                · exact ex Z h19.ret (wk0 Z)
              · exact ef Z Z h rl Z Z
      · refine eb Z h (fun h => ?_) fun h => ?_
        · exact ec Z h C_wire_numbers (.cons (V.sub.refl _) (.cons (vsub Z (.forget _ _ _)) ss)) fun r25 h => ef Z Z h rl Z Z
        · refine ec Z h C_wire_numbers (.cons (V.sub.refl _) (.cons (vsub Z (.forget _ _ _)) ss)) fun r26 h => ec Z h C_wire_vectors ss fun r27 h => ec Z h C_wire_vectors ss fun r28 h => ec Z h C_slices_Concat_Vec (.cons (vsub Z (.forget _ _ _)) ss) fun r29 h => eo 0 Z (.lenT sli278 (lz Z) (vsub Z (.refl _))) (el 1 [73, 72, 3, 5, 4, 0] [3, 5, 4, 0] Z h (fun s31 => [(74, I s31.1), (6, .sl 1 .no (List.map (V.int .u8) s31.2))]) (fun s31 => []) (fun x32 => [(6, .sl 1 .no (List.map (V.int .u8) x32))]) (fun x32 => []) (wkI [] Z Z ss al (by decide) Z) (fun q30 _ s31 h30 => ?_) fun x32 h => ?_)
          · refine eb Z h30 (fun h30 => ?_) fun h30 => ?_
            · exact h30.b fun j33 m33 h30 => eo 0 Z (.ixS sli278 (lz Z) (lz Z) m33) (eo 0 Z (.sliceArr arr38 (lz Z) (by simp)) (ec Z h30 C_wire_numbers (.cons (V.sub.refl _) (.cons (vsub Z (.forget _ _ _)) ss)) fun r34 h30 => ex Z h30.ret (wkI [] Z Z ss al (by decide) Z)))
            · exact ex Z h30.ret (wkI [] Z Z ss al (by decide) Z)
          · refine eb Z h (fun h => ?_) fun h => ?_
            · exact ef Z Z h rl Z Z
            · refine eo 0 Z (.lenT sli46 (lz Z) (vsub Z (.refl _))) (ec Z h C_wire_numbers (.cons (V.sub.refl _) (.cons (vsub Z (.forget _ _ _)) ss)) fun r35 h => eo 0 Z (.lenT sli46 (lz Z) (vsub Z (.refl _))) (el0 1 [95, 94, 5, 4] [5, 4] Z h (fun s37 => [(96, I s37.1), (6, .sl 1 .no (List.map (V.int .u8) s37.2))]) (fun x38 => [(6, .sl 1 .no (List.map (V.int .u8) x38))]) (wk0 Z) (fun q36 _ s37 h36 => ?_) fun x38 h => ?_))
              · refine eb Z h36 (fun h36 => ?_) fun h36 => ?_
                · exact h36.b fun j39 m39 h36 => eo 0 Z (.ixS sli46 (lz Z) (lz Z) m39) (ec Z h36.z C_wire_numbers (.cons (V.sub.refl _) (.cons (vsub Z (.forget _ _ _)) ss)) fun r41 h36 => ex Z h36.ret (wkI [] Z Z ss al (by decide) Z))
                · exact ex Z h36.ret (wk0 Z)
              · exact ef Z Z h rl Z Z
theorem C_state_writer_fields {a2 : List TField} {b1 : Tstate_writer} : Co Pg 214 (state_writer_fields a2 b1) [.ptr 0 [] 0, .sl 587 .no (List.map E_TField a2)] [.cells (E_Tstate_writer b1)] (fun _ => .tup []) (fun r => [.cells (E_Tstate_writer r)]) := by
  refine fo ⟨tb, [], [(3, [1])], false⟩ fn214 Z Z Z Z Z fun _ h => eo 0 Z (.lenT sli22 (lz Z) (vsub Z (.refl _))) ?_; refine ech [0] Z h C_state_writer_numbers (.cons (V.sub.refl _) (.cons (vsub Z (.forget _ _ _)) ss)) Z al (by decide) fun r3 h => ?_; refine eo 0 Z (.lenT sli22 (lz Z) (vsub Z (.refl _))) (el 1 [14, 13] [] Z h (fun s5 => [(0, .ptr 0 [] 0), (15, I s5.2)]) (fun s5 => [.cells (E_Tstate_writer s5.1)]) (fun x6 => []) (fun x6 => [.cells (E_Tstate_writer x6)]) (wkI [0] Z Z ss al (by decide) Z) (fun q4 _ s5 h4 => ?_) fun x6 h => ?_)
  · refine eb Z h4 (fun h4 => ?_) fun h4 => ?_
    · refine h4.b fun j7 m7 h4 => eo 0 Z (.ixS sli22 (lz Z) (lz Z) m7) (ec Z h4.z C_wire_Encode ss fun r9 h4 => ed [] Z (edo 0 Z (.convS und93 und5 und9 (lz Z)) (edc Z h4 C_octets_Text ss fun r10 h4 => ?_))); exact ee Z (by kernel_rfl) (ex Z h4.z.ret (wkI [0] Z Z ss al (by decide) Z))
    · exact ex Z h4.ret (wkI [0] Z Z ss al (by decide) Z)
  · exact efo [0] Z Z h Z rl Z Z al (by decide) Z
theorem C_state_Encode {a1 : YseS} : Cn Pg 147 (state_Encode a1) [E_YseS a1] (fun r => .tup [E_S_u8 r.1, (V.int .i64) r.2]) := by
  refine fs ⟨tb, [], [(0, [0]), (8, [2])], false⟩ fn147 Z Z Z Z fun _ h => ec Z h C_state_Right ss fun r2 h => eb Z h (fun h => ?_) fun h => ?_
  · exact ef Z Z h (.cons (.nils_no _) rl) Z Z
  · refine ech [1] Z h.z C_state_writer_numbers (.cons (V.sub.refl _) (.cons (vsub Z (.forget _ _ _)) ss)) Z al (by decide) fun r4 h => ?_; refine ech [1] Z h C_state_writer_plan ss Z al (by decide) fun r5 h => ?_; refine ech [1] Z h C_state_writer_fields ss Z al (by decide) fun r6 h => ?_; refine eb Z h (fun h => ?_) fun h => ?_
    · refine ech [1] Z h C_state_writer_numbers (.cons (V.sub.refl _) (.cons (vsub Z (.forget _ _ _)) ss)) Z al (by decide) fun r7 h => ?_; refine ech [1] Z h C_state_writer_plan ss Z al (by decide) fun r8 h => ?_; refine ech [1] Z h C_state_writer_fields ss Z al (by decide) fun r9 h => ?_; refine ech [1] Z h C_state_writer_fields ss Z al (by decide) fun r10 h => ?_; exact ef Z Z h rl Z Z
    · exact ef Z Z h rl Z Z
theorem C_frame_four {a1 : Int} : Cn Pg 266 (frame_four a1) [(V.int .u32) a1] E_S_u8 := by
  exact fs c0 fn266 Z Z Z Z fun _ h => eo 0 Z (.shr (lz Z) cI (by decide)) (eo 0 Z (.shr (lz Z) cI (by decide)) (eo 0 Z (.shr (lz Z) cI (by decide)) (ef Z Z h (.cons (.forget _ _ _) rl) Z Z)))
theorem C_slices_Grow_byte_own {a1 : Int} {r : (List Int)} (h : slices_Grow_byte_own a1 = some r) : CallSpec Pg 296 [.nils, (V.int .i64) a1] [] fun o H' => o = .ret (.slo 1 0 [] 0 0 r.length 1) ∧ H' = [.buf 1 (List.map (V.int .u8) r)] := by
  refine CallSpec.of_bodyF 27 0 fn296 Z Z Z (Nat.le_of_ble_eq_true Z) ?_; replace h := Ok.of h; unfold slices_Grow_byte_own at h; refine Wq o1 Z (Sa Z cNs (Nn (AWp.seq ?_))); refine Wq o2 Z (Sm 2 Z Z (Ss Z (.lss l0 cI) (Nn ?_))); refine AWp.condM l0 h (fun c1 h => ?_) (fun c1 h => ?_)
  · exact h.no.elim
  · refine AWp.skip (thenQ_n (AWp.seq (Wq o8 Z ?_))); refine Sm 4 Z Z (Sm 4 Z Z (Ss Z (.capNil sli93 l0) (Sm 6 Z Z ?_))); refine Ss Z (.lenN sli93 l0) (Ss Z (.sub (lq 2 Z) l0) (Ss Z (.sub (lq 5 Z) l0) (h.n fun v2 ev2 h => ?_))); refine Ss Z (.nv (.assign l0) (congrArg I ev2.symm)) (Nn (Pr [0, 10, 11] Z (Wq o2 Z ?_))); refine Sa Z l0 (Ss Z (.gtr l0 cI) (Nn (AWp.condM l0 h (fun c2 h => ?_) (fun c2 h => ?_))))
    · refine W.reg o10 Z (Sm 4 Z Z (Sm 5 Z Z (Ss Z (.capNil sli93 l0) ?_))); refine Ss Z (.sliceNil0 sli93 (lq 2 Z) l0) (Sm 6 Z Z (h.b fun u3 m3 h => Sv (.slo 1 0 [] 0 0 v2.toNat 1) [.buf 1 (List.map (V.int .u8) ([] : List Int))] Z (.appMake sli93 und3 zv5 Z (by decide) (lq 1 Z) l0 (mkM_get m3).1 (mkM_get m3).2 Z) Z Z trivial (Sm 10 Z Z ?_))); refine Ss Z (.lenN sli93 l0) (Ss Z (.sliceOwn0 sli93 (lq 2 Z) l0) (Sa Z l0 (Nn ?_))); refine Pr [0, 13] Z (Wq o2 Z (Sa Z l0 (Sa Z l0 ?_))); refine Nn (AWp.ret ?_); obtain rfl := h.ret; exact endF1 Z (Wk.selS [0] (by decide) Z (SelE.spec (v := .slo 1 0 [] 0 0 ([] : List Int).length 1) l0 Z (.slo (by first | rfl | simp)) Z Z .nil) (.cons Z Z (ASub.refl _) .nil)) (.tmp l0 Z) Z Z
    · refine AWp.skip (thenQ_n (Wq o2 Z (Sm 4 Z Z ?_))); refine Sa Z l0 (Nn (AWp.ret (endF_wk (Wk.nilbuf 1 l0) ?_))); obtain rfl := h.ret; exact endF1 Z (Wk.selS [0] (by decide) Z (SelE.spec (v := .slo 1 0 [] 0 0 ([] : List Int).length 1) l0 Z (.slo (by first | rfl | simp)) Z Z .nil) (.cons Z Z (ASub.refl _) .nil)) (.tmp l0 Z) Z Z
theorem C_slices_Concat_byte {a1 : List (List Int)} : Cn Pg 265 (slices_Concat_byte a1) [.sl 1 .no (List.map E_S_u8 a1)] E_S_u8 := by
  refine fs c0 fn265 Z Z Z Z fun _ h => eo 0 Z (.lenT sli139 (lz Z) (vsub Z (.refl _))) (el0 1 [10, 9, 2, 0] [2, 0] Z h (fun s3 => [(11, I s3.1), (3, I s3.2)]) (fun x4 => [(3, I x4)]) (wk0 Z) (fun q2 _ s3 h2 => ?_) fun x4 h => ?_)
  · refine eb Z h2 (fun h2 => ?_) fun h2 => ?_
    · refine h2.b fun j5 m5 h2 => eo 0 Z (.ixS sli139 (lz Z) (lz Z) m5) (eo 0 Z (.lenT sli93 (lz Z) (vsub Z (.refl _))) (eb Z h2.z (fun h2 => ?_) fun h2 => ?_))
      · exact h2.no.elim
      · exact ex Z h2.ret (wk0 Z)
    · exact ex Z h2.ret (wk0 Z)
  · refine ech [] Z h ⟨fun _ h => C_slices_Grow_byte_own h⟩ ss Z al (by decide) fun r7 h => ?_; refine eo 0 Z (.lenT sli139 (lz Z) (vsub Z (.refl _))) (el 1 [26, 25, 2] [2] Z h (fun s9 => [(6, .slo 1 0 [] 0 0 s9.2.length 1), (27, I s9.1)]) (fun s9 => [.buf 1 (List.map (V.int .u8) s9.2)]) (fun x10 => [(6, .slo 1 0 [] 0 0 x10.length 1)]) (fun x10 => [.buf 1 (List.map (V.int .u8) x10)]) (wkI [0] Z Z (.cons (vsub Z (.slo (by first | rfl | simp))) ss) al (by decide) Z) (fun q8 _ s9 h8 => ?_) fun x10 h => ?_)
    · refine eb Z h8 (fun h8 => ?_) fun h8 => ?_
      · exact h8.b fun j11 m11 h8 => eo 0 Z (.ixS sli139 (lz Z) (lz Z) m11) (h8.b fun l12 m12 h8 => eo 0 Z (.appOwnT sli93 noi93 zv5 Z (by decide) (lz Z) Z (by first | rfl | simp) (lz Z) Rd.sl m12 Z) (ex Z h8.ret (wkI [1] Z Z (.cons (vsub Z (.slo (by first | rfl | simp))) ss) al (by decide) Z)))
      · exact ex Z h8.ret (wkI [0] Z Z (.cons (vsub Z (.slo (by first | rfl | simp))) ss) al (by decide) Z)
    · exact ef Z Z h rl Z Z
theorem C_frame_Put {a1 : List Int} : Cn Pg 215 (frame_Put a1) [.sl 1 .no (List.map (V.int .u8) a1)] (fun r => .tup [E_S_u8 r.1, (V.int .i64) r.2]) := by
  refine fs c0 fn215 Z Z Z Z fun _ h => eo 0 Z (.lenT sli93 (lz Z) (vsub Z (.refl _))) (eb Z h (fun h => ?_) fun h => ?_)
  · exact ef Z Z h (.cons (.nils_no _) rl) Z Z
  · exact eo 0 Z (.lenT sli93 (lz Z) (vsub Z (.refl _))) (ec Z h C_frame_four ss fun r2 h => ec Z h C_frame_Sum ss fun r3 h => ec Z h C_frame_four ss fun r4 h => ec Z h C_slices_Concat_byte (.cons (vsub Z (.forget _ _ _)) ss) fun r5 h => ef Z Z h rl Z Z)
theorem C_disk_Disk_Room {b1 : YdkD} : Co Pg 267 (disk_Disk_Room b1) [.ptr 0 [] 0] [.cells (E_YdkD b1)] (fun r => (V.int .i64) r.1) (fun r => [.cells (E_YdkD r.2)]) := by
  exact fo c0 fn267 Z Z Z Z Z fun _ h => ed [] Z (edo 0 Z (.lenT sli93 (lz Z) (vsub Z (.refl _))) (ee Z (by kernel_rfl) (efo [0] Z Z h.z Z rl Z Z al (by decide) Z)))
theorem C_disk_Disk_Append {a2 : List Int} {b1 : YdkD} : Co Pg 216 (disk_Disk_Append a2 b1) [.ptr 0 [] 0, .sl 1 .no (List.map (V.int .u8) a2)] [.cells (E_YdkD b1)] (fun r => (V.int .i64) r.1) (fun r => [.cells (E_YdkD r.2)]) := by
  refine fo c0 fn216 Z Z Z Z Z fun _ h => eo 0 Z (.lenT sli93 (lz Z) (vsub Z (.refl _))) ?_; refine ech [0] Z h C_disk_Disk_Room ss Z al (by decide) fun r3 h => ?_; refine eb Z h.z (fun h => ?_) fun h => ?_
  · exact efo [0] Z Z h Z rl Z Z al (by decide) Z
  · refine ed [] Z (edo 0 Z (.lenT sli93 (lz Z) (vsub Z (.refl _))) (edo 0 Z (.lenT sli93 (lz Z) (vsub Z (.refl _))) (h.b fun l5 m5 h => ?_))); exact edo 0 Z (.slice_nss sli93 (lz Z) (lz Z) (lz Z) m5) (h.b fun l6 m6 h => edn 0 Z (.appX sli93 noi93 zv5 Z (by decide) (lz Z) (V.sub.refl _) (lz Z) Rd.sl m6 Z) (ee Z (by kernel_rfl) (efo [0] Z Z h.z Z rl Z Z al (by decide) Z)))
theorem C_wlog_Log_Append_g {a3 : List Int} {b1 : YwgL} {b2 : YdkD} : Co Pg 148 (wlog_Log_Append_g a3 b1 b2) [.ptr 0 [] 0, .sl 1 .no (List.map (V.int .u8) a3)] [.cells (.st [.ptr 1 [] 0, .slo 1 2 [] 0 0 b1.all.length 1]), .cells (E_YdkD b2), .buf 1 (List.map E_S_u8 b1.all)] (fun r => (V.int .i64) r.1) (fun r => [.cells (.st [.ptr 1 [] 0, .slo 1 3 [] 0 0 r.2.1.all.length 1]), .cells (E_YdkD r.2.2), .dead, .buf 1 (List.map E_S_u8 r.2.1.all)]) := by
  refine fo c0 fn148 Z Z Z Z Z fun _ h => ec Z h C_frame_Put ss fun r4 h => eb Z h (fun h => ?_) fun h => ?_
  · refine ech [1] Z h C_disk_Disk_Append ss Z al (by decide) fun r5 h => ?_; refine eb Z h (fun h => ?_) fun h => ?_
    · refine ech [1] Z h C_disk_Disk_Sync ss Z al (by decide) fun r6 h => ?_; exact ed [] Z (edc Z h ⟨fun _ h => C_clone_84 h⟩ ss fun r7 h => h.b fun l8 m8 h => ede 0 Z (.appOwnT sli139 noi139 zv93 Z (by decide) (lz Z) Z (by first | rfl | simp) (lz Z) Rd.sl m8 Z) (ee Z (by kernel_rfl) (efo [0, 1, 2, 3] Z Z h Z rl Z Z al (by decide) Z)))
    · exact mvo 2 [4] [0, 1, 3] Z Z (efo [0, 1, 2, 3] Z Z h Z rl Z Z al (by decide) Z)
  · refine eb Z h (fun h => ?_) fun h => ?_
    · refine ech [1] Z h C_disk_Disk_Sync ss Z al (by decide) fun r9 h => ?_; exact ed [] Z (edc Z h ⟨fun _ h => C_clone_84 h⟩ ss fun r10 h => h.b fun l11 m11 h => ede 0 Z (.appOwnT sli139 noi139 zv93 Z (by decide) (lz Z) Z (by first | rfl | simp) (lz Z) Rd.sl m11 Z) (ee Z (by kernel_rfl) (efo [0, 1, 2, 3] Z Z h Z rl Z Z al (by decide) Z)))
    · exact mvo 2 [4] [0, 1, 3] Z Z (efo [0, 1, 2, 3] Z Z h Z rl Z Z al (by decide) Z)
theorem C_disk_Disk_Swap {a2 : List Int} {b1 : YdkD} : Co Pg 217 (disk_Disk_Swap a2 b1) [.ptr 0 [] 0, .sl 1 .no (List.map (V.int .u8) a2)] [.cells (E_YdkD b1)] (fun r => (V.int .i64) r.1) (fun r => [.cells (E_YdkD r.2)]) := by
  refine fo c0 fn217 Z Z Z Z Z fun _ h => eo 0 Z (.lenT sli93 (lz Z) (vsub Z (.refl _))) (eb Z h.z (fun h => ?_) fun h => ?_)
  · exact efo [0] Z Z h Z rl Z Z al (by decide) Z
  · exact ec Z h C_disk_own ss fun r4 h => eo 0 Z (.lenT sli93 (lz Z) (vsub Z (.refl _))) (efo [0] Z Z h.z.z Z rl Z Z al (by decide) Z)
theorem C_wlog_Log_Compact_g {b1 : YwgL} {b2 : YdkD} : Co Pg 149 (wlog_Log_Compact_g b1 b2) [.ptr 0 [] 0] [.cells (.st [.ptr 1 [] 0, .slo 1 2 [] 0 0 b1.all.length 1]), .cells (E_YdkD b2), .buf 1 (List.map E_S_u8 b1.all)] (fun r => (V.int .i64) r.1) (fun r => [.cells (.st [.ptr 1 [] 0, .slo 1 3 [] 0 0 r.2.1.all.length 1]), .cells (E_YdkD r.2.2), .dead, .buf 1 (List.map E_S_u8 r.2.1.all)]) := by
  refine fo ⟨tb, [(10, 2)], [], false⟩ fn149 Z Z Z Z Z fun _ h => ech [0, 1, 2] Z h C_wlog_Log_Last_g ss Z al (by decide) fun r3 h => ?_; refine eb Z h (fun h => ?_) fun h => ?_
  · exact mvo 2 [2] [0, 1, 3] Z Z (efo [0, 1, 2, 3] Z Z h Z rl Z Z al (by decide) Z)
  · refine ec Z h C_frame_Put ss fun r4 h => eb Z h (fun h => ?_) fun h => ?_
    · refine ech [1] Z h C_disk_Disk_Swap ss Z al (by decide) fun r5 h => ?_; refine eb Z h (fun h => ?_) fun h => ?_
      · exact h.n fun v6 ev6 h => eo 0 Z (.buildOwn (vs := List.map E_S_u8 [r3.1]) sli139 zv93 Z Z (by decide) (.cons (lz Z) Z (.refl _) Z .nil) (congrArg (fun z => ([.cells (.st [.ptr 1 [] 0, .slo 1 2 [] 0 0 r3.2.2.1.all.length 1]), .cells (E_YdkD r5.2), .buf 1 (List.map E_S_u8 r3.2.2.1.all), AObj.buf 1 (List.map E_S_u8 z)] : List AObj)) ev6.symm)) (efo [0, 1, 2, 3] Z Z h Z rl Z Z (.cons (ac (.st (.cons (.refl _) (.cons (.slo (by first | rfl | simp [ev6])) .nil)))) (.cons (.refl _) (.cons dd al))) (by decide) Z)
      · exact mvo 2 [2] [0, 1, 3] Z Z (efo [0, 1, 2, 3] Z Z h Z rl Z Z al (by decide) Z)
    · refine eb Z h (fun h => ?_) fun h => ?_
      · exact h.n fun v7 ev7 h => eo 0 Z (.buildOwn (vs := List.map E_S_u8 [r3.1]) sli139 zv93 Z Z (by decide) (.cons (lz Z) Z (.refl _) Z .nil) (congrArg (fun z => ([.cells (.st [.ptr 1 [] 0, .slo 1 2 [] 0 0 r3.2.2.1.all.length 1]), .cells (E_YdkD r3.2.2.2), .buf 1 (List.map E_S_u8 r3.2.2.1.all), AObj.buf 1 (List.map E_S_u8 z)] : List AObj)) ev7.symm)) (efo [0, 1, 2, 3] Z Z h Z rl Z Z (.cons (ac (.st (.cons (.refl _) (.cons (.slo (by first | rfl | simp [ev7])) .nil)))) (.cons (.refl _) (.cons dd al))) (by decide) Z)
      · exact mvo 2 [2] [0, 1, 3] Z Z (efo [0, 1, 2, 3] Z Z h Z rl Z Z al (by decide) Z)
theorem C_replica_Replica_keep_g {a4 : YseS} {b1 : YraR} {b2 : YwgL} {b3 : YdkD} : Co Pg 76 (replica_Replica_keep_g a4 b1 b2 b3) [.ptr 0 [] 0, E_YseS a4] [.cells (.st [E_YseS b1.s, .ptr 1 [] 0, (V.int .i64) b1.version]), .cells (.st [.ptr 2 [] 0, .slo 1 3 [] 0 0 b2.all.length 1]), .cells (E_YdkD b3), .buf 1 (List.map E_S_u8 b2.all)] (fun r => (V.int .i64) r.1) (fun r => [.cells (.st [E_YseS r.2.1.s, .ptr 1 [] 0, (V.int .i64) r.2.1.version]), .cells (.st [.ptr 2 [] 0, .slo 1 4 [] 0 0 r.2.2.1.all.length 1]), .cells (E_YdkD r.2.2.2), .dead, .buf 1 (List.map E_S_u8 r.2.2.1.all)]) := by
  refine fo ⟨tb, [], [(0, [4])], false⟩ fn76 Z Z Z Z Z fun _ h => ed [] Z (edc Z h ⟨fun _ h => C_state_Same h⟩ ss fun r5 h => ee Z (by kernel_rfl) (eb Z h (fun h => ?_) fun h => ?_))
  · exact mvo 3 [4] [0, 1, 2, 5, 4] Z Z (efo [0, 1, 2, 3, 5] Z Z h Z rl Z Z al (by decide) Z)
  · refine ec Z h C_state_Encode ss fun r6 h => eb Z h (fun h => ?_) fun h => ?_
    · exact mvo 3 [4] [0, 1, 2, 5, 4] Z Z (efo [0, 1, 2, 3, 5] Z Z h Z rl Z Z al (by decide) Z)
    · refine ech [1, 2, 3] Z h C_wlog_Log_Append_g ss Z al (by decide) fun r7 h => ?_; refine ep Z h (fun h => ?_) fun h => ?_
      · refine ech [1, 2, 5] Z h C_wlog_Log_Compact_g ss Z al (by decide) fun r8 h => ?_; refine eb Z h (fun h => ?_) fun h => ?_
        · refine ech [1, 2, 6] Z h C_wlog_Log_Append_g ss Z al (by decide) fun r9 h => ?_; refine eb Z h (fun h => ?_) fun h => ?_
          · exact efo [0, 1, 2, 3, 7] Z Z h Z rl Z Z al (by decide) Z
          · exact efo [0, 1, 2, 3, 7] Z Z h Z rl Z Z al (by decide) Z
        · refine eb Z h (fun h => ?_) fun h => ?_
          · exact efo [0, 1, 2, 3, 6] Z Z h Z rl Z Z al (by decide) Z
          · exact efo [0, 1, 2, 3, 6] Z Z h Z rl Z Z al (by decide) Z
      · refine eb Z h (fun h => ?_) fun h => ?_
        · exact efo [0, 1, 2, 3, 5] Z Z h Z rl Z Z al (by decide) Z
        · exact efo [0, 1, 2, 3, 5] Z Z h Z rl Z Z al (by decide) Z
theorem C_replica_Replica_change_Replica_Add_1_g {a4 : ByteArray} {a5 : Int} {b1 : YraR} {b2 : YwgL} {b3 : YdkD} : Co Pg 72 (replica_Replica_change_Replica_Add_1_g a4 a5 b1 b2 b3) [.ptr 0 [] 0, V.str a4, .fn 73 [] [.cptr ((V.int .i64) a5)]] [.cells (.st [E_YseS b1.s, .ptr 1 [] 0, (V.int .i64) b1.version]), .cells (.st [.ptr 2 [] 0, .slo 1 3 [] 0 0 b2.all.length 1]), .cells (E_YdkD b3), .buf 1 (List.map E_S_u8 b2.all)] (fun r => (V.int .i64) r.1) (fun r => [.cells (.st [E_YseS r.2.1.s, .ptr 1 [] 0, (V.int .i64) r.2.1.version]), .cells (.st [.ptr 2 [] 0, .slo 1 4 [] 0 0 r.2.2.1.all.length 1]), .cells (E_YdkD r.2.2.2), .dead, .buf 1 (List.map E_S_u8 r.2.2.1.all)]) := by
  refine fo c0 fn72 Z Z Z Z Z fun _ h => ec Z h C_state_Find ss fun r6 h => eb Z h (fun h => ?_) fun h => ?_
  · refine ed [0] Z (edc Z h C_replica_Replica_Add_1 ss fun r7 h => ee Z (by kernel_rfl) (eb Z h (fun h => ?_) fun h => ?_))
    · exact mvo 3 [6] [0, 1, 2, 5, 4] Z Z (efo [0, 1, 2, 3, 5] Z Z h Z rl Z Z al (by decide) Z)
    · refine ed [4] Z (edc Z h ⟨fun _ h => C_state_With h⟩ ss fun r8 h => echeF [0, 1, 2, 3] Z h C_replica_Replica_keep_g ss Z al (by decide) Z fun r9 h => ?_); exact ee Z (by kernel_rfl) (efo [0, 1, 2, 3, 5] Z Z h Z rl Z Z al (by decide) Z)
  · refine eb Z h (fun h => ?_) fun h => ?_
    · exact mvo 3 [6] [0, 1, 2, 5, 4] Z Z (efo [0, 1, 2, 3, 5] Z Z h Z rl Z Z al (by decide) Z)
    · refine ed [4] Z (edc Z h ⟨fun _ h => C_state_With h⟩ ss fun r10 h => echeF [0, 1, 2, 3] Z h C_replica_Replica_keep_g ss Z al (by decide) Z fun r11 h => ?_); exact ee Z (by kernel_rfl) (efo [0, 1, 2, 3, 5] Z Z h Z rl Z Z al (by decide) Z)
theorem C_replica_Replica_Add_g {a4 : ByteArray} {a5 : Int} {b1 : YraR} {b2 : YwgL} {b3 : YdkD} : Co Pg 29 (replica_Replica_Add_g a4 a5 b1 b2 b3) [.ptr 0 [] 0, V.str a4, (V.int .i64) a5] [.cells (.st [E_YseS b1.s, .ptr 1 [] 0, (V.int .i64) b1.version]), .cells (.st [.ptr 2 [] 0, .slo 1 3 [] 0 0 b2.all.length 1]), .cells (E_YdkD b3), .buf 1 (List.map E_S_u8 b2.all)] (fun r => (V.int .i64) r.1) (fun r => [.cells (.st [E_YseS r.2.1.s, .ptr 1 [] 0, (V.int .i64) r.2.1.version]), .cells (.st [.ptr 2 [] 0, .slo 1 4 [] 0 0 r.2.2.1.all.length 1]), .cells (E_YdkD r.2.2.2), .dead, .buf 1 (List.map E_S_u8 r.2.2.1.all)]) := by
  refine fo ⟨tb, [], [(0, [4])], false⟩ fn29 Z Z Z Z Z fun _ h => ech [0, 1, 2, 3] Z h C_replica_Replica_change_Replica_Add_1_g ss Z al (by decide) fun r6 h => ?_; exact efo [0, 1, 2, 3, 5] Z Z h Z rl Z Z al (by decide) Z
theorem C_barrier_Barrier_all {a1 : YbrB} : Cn Pg 185 (barrier_Barrier_all a1) [E_YbrB a1] (V.int .i64) := by
  exact fs ⟨tb, [], [(0, [0])], false⟩ fn185 Z Z Z Z fun _ h => h.b fun u2 m2 h => eo 0 Z (.shl cI (lz Z) (sh0_get m2)) (ef Z Z h.z rl Z Z)
theorem C_barrier_Pending {a1 : YbrB} : Cn Pg 143 (barrier_Pending a1) [E_YbrB a1] V.bool := by
  exact fs ⟨tb, [], [(0, [0])], false⟩ fn143 Z Z Z Z fun _ h => ed [] Z (edcG Z h Z C_barrier_Barrier_all ss fun r2 h => ee Z (by kernel_rfl) (ef Z Z h.z rl Z Z))
theorem C_plan_names {a1 : TPlan} : Cn Pg 206 (plan_names a1) [E_TPlan a1] E_S_s := by
  refine fs ⟨tb, [], [(0, [0])], false⟩ fn206 Z Z Z Z fun _ h => eb Z h (fun h => ?_) fun h => ?_
  · exact ef Z Z h (.cons (.forget _ _ _) rl) Z Z
  · exact ef Z Z h (.cons (.forget _ _ _) rl) Z Z
theorem C_plan_Fits_1 {a2 : TField} {b1 : Int} : Co Pg 208 (plan_Fits_1 a2 b1) [E_TField a2, .ptr 0 [] 0] [.cells ((V.int .i64) b1)] (fun r => V.bool r.1) (fun r => [.cells ((V.int .i64) r.2)]) := by
  exact fo ⟨tb, [], [(0, [1])], false⟩ fn208 Z Z Z Z Z fun _ h => efo [0] Z Z h Z rl Z Z al (by decide) Z
theorem C_slices_IndexFunc_Field_Fits_1 {a2 : List TField} {b1 : Int} : Co Pg 39 (slices_IndexFunc_Field_Fits_1 a2 b1) [.sl 587 .no (List.map E_TField a2), .fn 208 [] [.ptr 0 [] 0]] [.cells ((V.int .i64) b1)] (fun r => (V.int .i64) r.1) (fun r => [.cells ((V.int .i64) r.2)]) := by
  refine fo c0 fn39 Z Z Z Z Z fun _ h => eo 0 Z (.lenT sli22 (lz Z) (vsub Z (.refl _))) (elR 1 [7, 4, 0] [4] Z h (fun s4 => [(1, .fn 208 [] [.ptr 0 [] 0]), (8, I s4.2)]) (fun s4 => [.cells (I s4.1)]) (fun x5 => []) (fun x5 => [.cells (I x5)]) (wkI [0] Z Z ss al (by decide) Z) (fun q3 _ s4 h h3 => ?_) fun x5 h => ?_)
  · refine eb Z h3 (fun h3 => ?_) fun h3 => ?_
    · refine h3.b fun j6 m6 h3 => eo 0 Z (.ixS sli22 (lz Z) (lz Z) m6) ?_; refine ech [0] Z h3.z C_plan_Fits_1 ss Z al (by decide) fun r8 h3 => ?_; refine eb Z h3 (fun h3 => ?_) fun h3 => ?_
      · have h := Ok.inrq h h3.ret
        exact efo [0] Z Z h Z rl Z Z al (by decide) Z
      · exact ex Z h3.ret (wkI [0] Z Z ss al (by decide) Z)
    · exact ex Z h3.ret (wkI [0] Z Z ss al (by decide) Z)
  · exact efo [0] Z Z h Z rl Z Z al (by decide) Z
theorem C_slices_ContainsFunc_Field_Fits_1 {a2 : List TField} {b1 : Int} : Co Pg 207 (slices_ContainsFunc_Field_Fits_1 a2 b1) [.sl 587 .no (List.map E_TField a2), .fn 208 [] [.ptr 0 [] 0]] [.cells ((V.int .i64) b1)] (fun r => V.bool r.1) (fun r => [.cells ((V.int .i64) r.2)]) := by
  refine fo c0 fn207 Z Z Z Z Z fun _ h => ech [0] Z h C_slices_IndexFunc_Field_Fits_1 ss Z al (by decide) fun r3 h => ?_; exact efo [0] Z Z h Z rl Z Z al (by decide) Z
theorem C_plan_Fits_2 {a1 : THold} : Cn Pg 209 (plan_Fits_2 a1) [E_THold a1] V.bool := by
  exact fs ⟨tb, [], [(0, [0])], false⟩ fn209 Z Z Z Z fun _ h => ef Z Z h rl Z Z
theorem C_slices_IndexFunc_Hold_Fits_2 {a1 : List THold} : Cn Pg 264 (slices_IndexFunc_Hold_Fits_2 a1) [.sl 5 .no (List.map E_THold a1), .fn 209 [] []] (V.int .i64) := by
  refine fs c0 fn264 Z Z Z Z fun _ h => eo 0 Z (.lenT sli46 (lz Z) (vsub Z (.refl _))) (elR0 1 [7, 4, 0, 1] [4] Z h (fun s3 => [(8, I s3)]) (fun x4 => []) (wk0 Z) (fun q2 _ s3 h h2 => ?_) fun x4 h => ?_)
  · refine eb Z h2 (fun h2 => ?_) fun h2 => ?_
    · refine h2.b fun j5 m5 h2 => eo 0 Z (.ixS sli46 (lz Z) (lz Z) m5) (ec Z h2.z C_plan_Fits_2 ss fun r7 h2 => eb Z h2 (fun h2 => ?_) fun h2 => ?_)
      · have h := Ok.inrq h h2.ret
        exact ef Z Z h rl Z Z
      · exact ex Z h2.ret (wk0 Z)
    · exact ex Z h2.ret (wk0 Z)
  · exact ef Z Z h rl Z Z
theorem C_slices_ContainsFunc_Hold_Fits_2 {a1 : List THold} : Cn Pg 211 (slices_ContainsFunc_Hold_Fits_2 a1) [.sl 5 .no (List.map E_THold a1), .fn 209 [] []] V.bool := by
  exact fs c0 fn211 Z Z Z Z fun _ h => ec Z h C_slices_IndexFunc_Hold_Fits_2 ss fun r2 h => ef Z Z h rl Z Z
theorem C_plan_Fits_3_Fits_2 {a1 : TField} : Cn Pg 210 (plan_Fits_3_Fits_2 a1) [E_TField a1, .cptr (.fn 209 [] [])] V.bool := by
  exact fs ⟨tb, [], [(0, [0])], false⟩ fn210 Z Z Z Z fun _ h => ec Z h C_slices_ContainsFunc_Hold_Fits_2 ss fun r2 h => ef Z Z h rl Z Z
theorem C_slices_IndexFunc_Field_Fits_3_Fits_2 {a1 : List TField} : Cn Pg 39 (slices_IndexFunc_Field_Fits_3_Fits_2 a1) [.sl 587 .no (List.map E_TField a1), .fn 210 [] [.cptr (.fn 209 [] [])]] (V.int .i64) := by
  refine fs c0 fn39 Z Z Z Z fun _ h => eo 0 Z (.lenT sli22 (lz Z) (vsub Z (.refl _))) (elR0 1 [7, 4, 0, 1] [4] Z h (fun s3 => [(8, I s3)]) (fun x4 => []) (wk0 Z) (fun q2 _ s3 h h2 => ?_) fun x4 h => ?_)
  · refine eb Z h2 (fun h2 => ?_) fun h2 => ?_
    · refine h2.b fun j5 m5 h2 => eo 0 Z (.ixS sli22 (lz Z) (lz Z) m5) (ec Z h2.z C_plan_Fits_3_Fits_2 ss fun r7 h2 => eb Z h2 (fun h2 => ?_) fun h2 => ?_)
      · have h := Ok.inrq h h2.ret
        exact ef Z Z h rl Z Z
      · exact ex Z h2.ret (wk0 Z)
    · exact ex Z h2.ret (wk0 Z)
  · exact ef Z Z h rl Z Z
theorem C_slices_ContainsFunc_Field_Fits_3_Fits_2 {a1 : List TField} : Cn Pg 207 (slices_ContainsFunc_Field_Fits_3_Fits_2 a1) [.sl 587 .no (List.map E_TField a1), .fn 210 [] [.cptr (.fn 209 [] [])]] V.bool := by
  exact fs c0 fn207 Z Z Z Z fun _ h => ec Z h C_slices_IndexFunc_Field_Fits_3_Fits_2 ss fun r2 h => ef Z Z h rl Z Z
theorem C_plan_Fits {a1 : List TField} {a2 : TPlan} : Cn Pg 144 (plan_Fits a1 a2) [.sl 587 .no (List.map E_TField a1), E_TPlan a2] (V.int .i64) := by
  refine fs ⟨tb, [], [(0, [0]), (25, [2])], false⟩ fn144 Z Z Z Z fun _ h => ec Z h C_plan_Fields ss fun r3 h => eb Z h (fun h => ?_) fun h => ?_
  · exact ef Z Z h rl Z Z
  · refine ec Z h ⟨fun _ h => C_plan_Right h⟩ ss fun r4 h => eb Z h (fun h => ?_) fun h => ?_
    · exact ef Z Z h rl Z Z
    · refine ec Z h C_plan_names ss fun r5 h => eo 0 Z (.lenT sli260 (lz Z) (vsub Z (.refl _))) (elR 1 [24, 23, 3, 4, 0] [3, 4, 0] Z h (fun s7 => [(5, .sl 587 (.tok 0) (List.map E_TField s7.2)), (25, I s7.1)]) (fun s7 => [.tail]) (fun x8 => [(5, .sl 587 (.tok 0) (List.map E_TField x8))]) (fun x8 => [.tail]) (wkV (wkI [1] Z Z (.cons (vsub Z (.nils_tok _ _)) ss) al (by decide) Z)) (fun q6 _ s7 h h6 => ?_) fun x8 h => ?_)
      · refine eb Z h6 (fun h6 => ?_) fun h6 => ?_
        · refine h6.b fun j9 m9 h6 => eo 0 Z (.ixS sli260 (lz Z) (lz Z) m9) (ec Z h6 C_plan_Find ss fun r10 h6 => eb Z h6 (fun h6 => ?_) fun h6 => ?_)
          · have h := Ok.inrq h h6.ret
            exact ef Z Z h rl Z Z
          · exact h6.b fun j11 m11 h6 => eo 0 Z (.ixS sli22 (lz Z) (lz Z) m11) (h6.z.b fun l13 m13 h6 => eo 0 Z (.appT sli22 noi22 zv48 Z (by decide) (lz Z) Z (lz Z) Rd.sl m13 Z) (ex Z h6.ret (wkI [1] Z Z ss al (by decide) Z)))
        · exact ex Z h6.ret (wkI [0] Z Z ss al (by decide) Z)
      · refine ec Z h C_plan_Find ss fun r14 h => eb Z h (fun h => ?_) fun h => ?_
        · refine eb Z h (fun h => ?_) fun h => ?_
          · exact ef Z Z h rl Z Z
          · refine eo 0 Z (.lenT sli22 (lz Z) (vsub Z (.refl _))) (eb Z h.z (fun h => ?_) fun h => ?_)
            · exact ef Z Z h rl Z Z
            · refine eb Z h (fun h => ?_) fun h => ?_
              · refine ech [1] Z h C_slices_ContainsFunc_Field_Fits_1 (.cons (vsub Z (.forget _ _ _)) ss) Z al (by decide) fun r16 h => ?_; refine eb Z h (fun h => ?_) fun h => ?_
                · exact ef Z Z h rl Z Z
                · refine ec Z h C_slices_ContainsFunc_Field_Fits_3_Fits_2 (.cons (vsub Z (.forget _ _ _)) ss) fun r17 h => eb Z h (fun h => ?_) fun h => ?_
                  · exact ef Z Z h rl Z Z
                  · exact ef Z Z h rl Z Z
              · refine ech [1] Z h C_slices_ContainsFunc_Field_Fits_1 (.cons (vsub Z (.forget _ _ _)) ss) Z al (by decide) fun r18 h => ?_; refine eb Z h (fun h => ?_) fun h => ?_
                · exact ef Z Z h rl Z Z
                · refine ec Z h C_slices_ContainsFunc_Field_Fits_3_Fits_2 (.cons (vsub Z (.forget _ _ _)) ss) fun r19 h => eb Z h (fun h => ?_) fun h => ?_
                  · exact ef Z Z h rl Z Z
                  · exact ef Z Z h rl Z Z
        · refine eb Z h (fun h => ?_) fun h => ?_
          · refine ech [1] Z h C_slices_ContainsFunc_Field_Fits_1 (.cons (vsub Z (.forget _ _ _)) ss) Z al (by decide) fun r20 h => ?_; refine eb Z h (fun h => ?_) fun h => ?_
            · exact ef Z Z h rl Z Z
            · refine ec Z h C_slices_ContainsFunc_Field_Fits_3_Fits_2 (.cons (vsub Z (.forget _ _ _)) ss) fun r21 h => eb Z h (fun h => ?_) fun h => ?_
              · exact ef Z Z h rl Z Z
              · exact ef Z Z h rl Z Z
          · refine ech [1] Z h C_slices_ContainsFunc_Field_Fits_1 (.cons (vsub Z (.forget _ _ _)) ss) Z al (by decide) fun r22 h => ?_; refine eb Z h (fun h => ?_) fun h => ?_
            · exact ef Z Z h rl Z Z
            · refine ec Z h C_slices_ContainsFunc_Field_Fits_3_Fits_2 (.cons (vsub Z (.forget _ _ _)) ss) fun r23 h => eb Z h (fun h => ?_) fun h => ?_
              · exact ef Z Z h rl Z Z
              · exact ef Z Z h rl Z Z
theorem C_cloneO_124 {a1 : List TField} {r : List TField} (h : app 4720 [] a1 = some r) : CallSpec Pg 124 [E_S_TField a1] [] fun o H' => o = .ret (.slo 587 0 [] 0 0 r.length 1) ∧ H' = [.buf 587 (List.map E_TField r)] := by
  refine CallSpec.of_bodyF 8 0 fn124 Z Z Z (Nat.le_of_ble_eq_true Z) ?_
  have hr := (app_get h).2
  refine Wq o1 Z (Sa Z cNs (Nn (AWp.splitNil (t := 0) (lw 1 Z) (fun hn => ?_) ?_)))
  · obtain rfl : a1 = [] := List.map_eq_nil_iff.1 hn
    obtain rfl : r = [] := by simpa using hr
    refine .seq (Wq o2 Z (Sa Z l0 (Ss Z (.eqlNil sli22 l0 cNs) ?_))); refine Nn (AWp.condT l0 (Wq o1 Z (Sa Z cNs ?_))); refine Nn (AWp.ret (thenQ_r (endF_wk (Wk.nilbuf 587 l0) ?_))); exact endF1 Z (Wk.selS [0] (by decide) Z (SelE.spec l0 Z (.refl _) Z Z .nil) (.cons Z Z (ASub.refl _) .nil)) (.tmp l0 Z) Z Z
  · refine .seq (Wq o2 Z (Sa Z l0 (Ss Z (.eqlNn sli22 l0 cNs) ?_))); refine Nn (AWp.condF l0 (AWp.skip (thenQ_n ?_))); refine Wq o4 Z (Ss Z (.buildSliceW sli22 zv48 Z Z (by decide) .nil) (Sm 3 Z Z (S.new 7 Z Z (.appNewT sli22 noi22 zv48 Z (by decide) (lq 1 Z) (V.sub.refl _) l0 Rd.sl h Z) trivial ?_))); exact Sa Z l0 (Nn (AWp.ret (endF1 Z (Wk.selS [0] (by decide) Z (SelE.spec l0 Z (.refl _) Z Z .nil) (.cons (lt_buf ty_TField) Z ⟨Z, RSubL.leafr ty_TField _ Z⟩ .nil)) (.tmp l0 Z) Z Z)))
theorem C_barrier_Start_1 {a1 : TField} {a2 : TPlan} : Cn Pg 145 (barrier_Start_1 a1 a2) [E_TField a1, .cptr (E_TPlan a2)] V.bool := by
  exact fs ⟨tb, [], [(0, [0])], false⟩ fn145 Z Z Z Z fun _ h => ec Z h C_plan_Touched ss fun r3 h => ef Z Z h rl Z Z
theorem C_slices_IndexFunc_Field_Start_1 {a2 : TPlan} {b1 : List TField} : Co Pg 39 (slices_IndexFunc_Field_Start_1 a2 b1) [.slo 587 0 [] 0 0 b1.length 1, .fn 145 [] [.cptr (E_TPlan a2)]] [.buf 587 (List.map E_TField b1)] (fun r => (V.int .i64) r) (fun _ => [.buf 587 (List.map E_TField b1)]) := by
  refine fo c0 fn39 Z Z Z Z Z fun _ h => elR0 1 [0, 7, 4, 1] [4] Z h (fun s4 => [(8, I s4)]) (fun x5 => []) (wk0 Z) (fun q3 _ s4 h h3 => ?_) fun x5 h => ?_
  · refine eb Z h3 (fun h3 => ?_) fun h3 => ?_
    · refine h3.b fun j6 m6 h3 => eo 1 Z (.ixO sli22 (lz Z) (lz Z) (by first | rfl | simp) m6) (h3.n fun v7 ev7 h3 => eo 0 Z (.nv (.loadB sz48 ag48 (lz Z) Z (.ls (by first | exact lsm m6 | (have := six_lt m6; simp at this ⊢; omega)) .nil) (by first | omega | rfl) (ty_TField.fl (b1.getD j6 default)) Z) (congrArg E_TField ev7.symm)) (ec Z h3 C_barrier_Start_1 ss fun r8 h3 => eb Z h3 (fun h3 => ?_) fun h3 => ?_))
      · have h := Ok.inrq h h3.ret
        exact efo [0] Z Z h Z rl Z Z al (by decide) Z
      · exact ex Z h3.ret (wk0 Z)
    · exact ex Z h3.ret (wk0 Z)
  · exact efo [0] Z Z h Z rl Z Z al (by decide) Z
theorem C_slices_DeleteFunc_Field_Start_1 {a2 : TPlan} {b1 : List TField} : Co Pg 123 (slices_DeleteFunc_Field_Start_1 a2 b1) [.slo 587 0 [] 0 0 b1.length 1, .fn 145 [] [.cptr (E_TPlan a2)]] [.buf 587 (List.map E_TField b1)] (fun r => .slo 587 0 [] 0 0 r.1 1) (fun r => [.buf 587 (List.map E_TField r.2)]) := by
  refine fo ⟨tb, [], [(7, [1])], false⟩ fn123 Z Z Z Z Z fun _ h => ech [0] Z h C_slices_IndexFunc_Field_Start_1 ss Z al (by decide) fun r3 h => ?_; refine eb Z h (fun h => ?_) fun h => ?_
  · exact efo [0] Z Z h Z rl Z Z al (by decide) Z
  · refine el 1 [4, 1] [4] Z h (fun s5 => [(0, .slo 587 0 [] 0 0 s5.1.length 1), (6, I s5.2.1), (5, I s5.2.2)]) (fun s5 => [.buf 587 (List.map E_TField s5.1)]) (fun x6 => [(0, .slo 587 0 [] 0 0 x6.1.length 1), (5, I x6.2)]) (fun x6 => [.buf 587 (List.map E_TField x6.1)]) (wkI [0] Z Z (.cons (vsub Z (.slo (by first | rfl | simp))) ss) al (by decide) Z) (fun q4 _ s5 h4 => ?_) fun x6 h => ?_
    · refine eb Z h4 (fun h4 => ?_) fun h4 => ?_
      · refine h4.b fun j7 m7 h4 => eo 1 Z (.ixO sli22 (lz Z) (lz Z) (by first | rfl | simp) m7) (h4.n fun v8 ev8 h4 => eo 0 Z (.nv (.loadB sz48 ag48 (lz Z) Z (.ls (by first | exact lsm m7 | (have := six_lt m7; simp at this ⊢; omega)) .nil) (by first | omega | rfl) (ty_TField.fl (s5.1.getD j7 default)) Z) (congrArg E_TField ev8.symm)) (ec Z h4 C_barrier_Start_1 ss fun r9 h4 => eb Z h4 (fun h4 => ?_) fun h4 => ?_))
        · exact h4.b fun j10 m10 h4 => eo 1 Z (.ixO sli22 (lz Z) (lz Z) (by first | rfl | simp) m10) (h4.n fun v11 ev11 h4 => esb 0 Z (.storeB sz48 (lz Z) (lz Z) Z (.refl _) Z (.ls (by first | exact lsm m10 | (have := six_lt m10; simp at this ⊢; omega)) .nil) (by first | omega | rfl) (.ls v8 (by first | exact lsm m10 | (have := six_lt m10; simp at this ⊢; omega)) .nil) (ty_TField.fl v8) (ty_TField.fl (s5.1.getD j10 default)) Z) (congrArg (List.map E_TField) ev11.symm) (ex Z h4.ret (wkI [0] Z Z (.cons (vsub Z (.slo (by first | rfl | simp [ev11, ev8]))) ss) al (by decide) Z)))
        · exact ex Z h4.ret (wkI [0] Z Z (.cons (vsub Z (.slo (by first | rfl | simp))) ss) al (by decide) Z)
      · exact ex Z h4.ret (wkI [0] Z Z (.cons (vsub Z (.slo (by first | rfl | simp))) ss) al (by decide) Z)
    · exact h.b fun j12 m12 h => eo 0 Z (.sliceOwnS sli22 (lz Z) (lz Z) (by first | rfl | simp) m12) (h.n fun v13 ev13 h => es Z (.clearO (d := (⟨(default : ByteArray), 0, 0, (default : TCounter), (default : TLock), ([] : List THold)⟩ : TField)) sli22 zv48 (.st (.cons (.refl _) (.cons (.refl _) (.cons (.refl _) (.cons (.refl _) (.cons (.refl _) (.cons (.nils_no _) .nil))))))) (ty_TField.fl (⟨(default : ByteArray), 0, 0, (default : TCounter), (default : TLock), ([] : List THold)⟩ : TField)) (lz Z) (by first | rfl | simp) m12 Z ev13.symm Z) (h.b fun j14 m14 h => eo 0 Z (.sliceOwnT sli22 (lz Z) (lz Z) (by first | rfl | simp [(clr_len ev13 m12)]) m14) (efo [0] Z Z h Z rl Z Z al (by decide) Z)))
theorem C_barrier_own {a1 : List TField} : Cn Pg 146 (barrier_own a1) [.sl 587 .no (List.map E_TField a1)] E_S_TField := by
  refine fs c0 fn146 Z Z Z Z fun _ h => eo 0 Z (.lenT sli22 (lz Z) (vsub Z (.refl _))) (el 1 [7, 6, 2] [2] Z h (fun s3 => [(3, .sl 587 (.tok 0) (List.map E_TField s3.2)), (8, I s3.1)]) (fun s3 => [.tail]) (fun x4 => [(3, .sl 587 (.tok 0) (List.map E_TField x4))]) (fun x4 => [.tail]) (wkV (wkI [0] Z Z (.cons (vsub Z (.nils_tok _ _)) ss) al (by decide) Z)) (fun q2 _ s3 h2 => ?_) fun x4 h => ?_)
  · refine eb Z h2 (fun h2 => ?_) fun h2 => ?_
    · exact h2.b fun j5 m5 h2 => eo 0 Z (.ixS sli22 (lz Z) (lz Z) m5) (ec Z h2.z ⟨fun _ h => C_clone_153 h⟩ ss fun r7 h2 => h2.z.b fun l9 m9 h2 => eo 0 Z (.appT sli22 noi22 zv48 Z (by decide) (lz Z) Z (lz Z) Rd.sl m9 Z) (ex Z h2.ret (wkI [2] Z Z ss al (by decide) Z)))
    · exact ex Z h2.ret (wkI [0] Z Z ss al (by decide) Z)
  · exact ef Z Z h (.cons (.forget _ _ _) rl) Z Z
theorem C_barrier_Start {a1 : YbrB} {a2 : List TField} {a3 : TPlan} {a4 : Int} {r : YbrB × Int} (h : barrier_Start a1 a2 a3 a4 = some r) : PureC Pg 75 [E_YbrB a1, .sl 587 .no (List.map E_TField a2), E_TPlan a3, (V.int .i64) a4] (.tup [E_YbrB r.1, (V.int .i64) r.2]) := by
  refine .c 55 fn75 Z Z Z ?_; replace h := Ok.of h; unfold barrier_Start at h; refine Wq o4 Z (Sv (.ptr 0 [] 0) [.cells (E_YbrB a1)] Z (.box l0 Z) Z Z trivial (Sv (.ptr 1 [] 0) [.cells (E_YbrB a1), .cells (E_TPlan a3)] Z (.box (lq 3 Z) Z) Z Z trivial (Sv (.ptr 2 [] 0) [.cells (E_YbrB a1), .cells (E_TPlan a3), .cells (z62)] Z (.alloc zv62) Z Z trivial ?_))); refine Sa Z cI (Nn (AWp.wk (Wk.freeze 0 Z Z (.cons (lw 3 Z) Z (.ptr .nil Z) (.l [0, 1, 2, 5, 7] Z)) (.refl _)) (AWp.wk (Wk.freeze 1 Z Z (.cons (lw 3 Z) Z (.ptr .nil Z) (.l [0, 1, 2, 4, 5] Z)) (.refl _)) ?_))); refine .seq (Wq o2 Z (Ss Z (.ldC (lq 1 Z) Z) (h.b fun r5 m5 h => ?_))); refine Ss Z (.cq (cr l0 .nil) (C_barrier_Pending.p _ m5) Z) (Nn (AWp.condM l0 h (fun c1 h => ?_) (fun c1 h => ?_)))
  · refine Wq o3 Z (h.n fun v6 ev6 h => Ss Z (.nv (.vs (v := z62) (v2 := E_YbrB (⟨0, 0, 0, 0, (default : TPlan), 0, 0, 0, ([] : List TField), ([] : List TField)⟩ : YbrB)) (.buildStW lay62 zv62 Z .nil) Z (.st (.cons (.refl _) (.cons (.refl _) (.cons (.refl _) (.cons (.refl _) (.cons (.refl _) (.cons (.refl _) (.cons (.refl _) (.cons (.refl _) (.cons (.nils_no _) (.cons (.nils_no _) .nil)))))))))))) (congrArg E_YbrB ev6.symm)) (Sn [.dead, .dead, .cells (E_YbrB v6)] Z Z (.sw (lq 6 Z) l0 Z Z Z) Z trivial (Sa Z cI ?_))); refine Nn (AWp.ret (thenQ_r (endF_wk (Wk.freeze 2 Z Z (.cons (lw 7 Z) Z (.ptr .nil Z) (.l [0, 0] Z)) (.refl _)) ?_))); obtain rfl := h.ret; exact endFN Z (Wk.z [0, 1] Z) (.cons (.cellC sz62 ag62 l0 (ty_YbrB.fl _) Z) (.cons (.tmp (lw 1 Z) Z) .nil)) Z Z Z
  · refine AWp.skip (thenQ_n (AWp.seq (Wq o4 Z ?_))); refine Sm 6 Z Z (Ss Z (.ldC (lq 3 Z) Z) (h.b fun r7 m7 h => Ss Z (.cq (cr (lq 1 Z) (cr l0 .nil)) (C_plan_Fits.p _ m7) Z) (Sa Z l0 ?_))); refine Nw o2 Z (Sa Z l0 (Ss Z (.neq l0 cI) (Nn ?_))); refine AWp.condM l0 h (fun c2 h => ?_) (fun c2 h => ?_)
    · refine Wq o4 Z (h.n fun v8 ev8 h => Ss Z (.nv (.vs (v := z62) (v2 := E_YbrB (⟨0, 0, 0, 0, (default : TPlan), 0, 0, 0, ([] : List TField), ([] : List TField)⟩ : YbrB)) (.buildStW lay62 zv62 Z .nil) Z (.st (.cons (.refl _) (.cons (.refl _) (.cons (.refl _) (.cons (.refl _) (.cons (.refl _) (.cons (.refl _) (.cons (.refl _) (.cons (.refl _) (.cons (.nils_no _) (.cons (.nils_no _) .nil)))))))))))) (congrArg E_YbrB ev8.symm)) (Sm 3 Z Z (Sn [.dead, .dead, .cells (E_YbrB v8)] Z Z (.sw (lq 13 Z) (lq 1 Z) Z Z Z) Z trivial ?_))); refine Sa Z l0 (Nn (Pr [0, 11, 12, 14, 15, 16] Z (AWp.ret ?_))); refine thenQ_r (endF_wk (Wk.freeze 2 Z Z (.cons (lw 3 Z) Z (.ptr .nil Z) (.l [0] Z)) (.refl _)) ?_); obtain rfl := h.ret; exact endFN Z (Wk.z [0, 1] Z) (.cons (.cellC sz62 ag62 l0 (ty_YbrB.fl _) Z) (.cons (.tmp (lw 1 Z) Z) .nil)) Z Z Z
    · refine AWp.skip (thenQ_n (Wq o1 Z (Sa Z cI ?_))); refine Nn (AWp.seq (Wq o3 Z (Sm 13 Z Z ?_))); refine Ss Z (.lenT sli22 l0 (vsub Z (.refl _))) (Sa Z cI (Nn (AWp.cutX (fun x11 => ⟨[(8, .ptr 0 [] 0), (11, I x11), (6, .cptr (E_TPlan a3)), (4, .cptr (E_YbrB a1)), (9, I 0), (1, .sl 587 .no (List.map E_TField a2)), (3, I a4)], [.cells (E_YbrB (⟨0, 0, 0, 0, (default : TPlan), 0, 0, 0, ([] : List TField), ([] : List TField)⟩ : YbrB))]⟩) nc_then h (fun q9 hq9 => ?_) (fun x11 h => ?_))))
      · refine AWp.block (AWp.loopT (fun s10 => ⟨[(8, .ptr 0 [] 0), (27, I s10.1), (26, I (a2.length : Int)), (25, .sl 587 .no (List.map E_TField a2)), (11, I s10.2), (6, .cptr (E_TPlan a3)), (4, .cptr (E_YbrB a1)), (9, I 0), (1, .sl 587 .no (List.map E_TField a2)), (3, I a4)], [.cells (E_YbrB (⟨0, 0, 0, 0, (default : TPlan), 0, 0, 0, ([] : List TField), ([] : List TField)⟩ : YbrB))]⟩) hq9 (Wk.selS [2] (by decide) Z (SelE.spec (lw 15 Z) Z (.refl _) Z Z (sl [0, 1, 2, 3, 12, 13, 14, 16, 17] Z)) (hc Z (.st (.cons (.refl _) (.cons (.refl _) (.cons (.refl _) (.cons (.refl _) (.cons (.refl _) (.cons (.refl _) (.cons (.refl _) (.cons (.refl _) (.cons (.nils_no _) (.cons (.nils_no _) .nil))))))))))) .nil)) (fun _ s10 h9 => ?_)); rw [barrier_Start_L1] at h9; refine Wq o1 Z (Ss Z (.lss (lq 1 Z) (lq 2 Z)) (Nn (AWp.seq ?_))); refine AWp.condM l0 h9 (fun c3 h9 => ?_) (fun c3 h9 => ?_)
        · refine AWp.skip (thenQ_n (AWp.seq (AWp.block ?_))); refine Wq o4 Z (h9.b fun j12 m12 h9 => Ss Z (.ixS sli22 (lq 4 Z) (lq 2 Z) m12) (h9.n fun v13 ev13 h9 => Ss Z (.nv (.ldC l0 Z) (congrArg E_TField ev13.symm)) (Sv (.ptr 1 [] 0) [.cells (E_YbrB (⟨0, 0, 0, 0, (default : TPlan), 0, 0, 0, ([] : List TField), ([] : List TField)⟩ : YbrB)), .cells (z48)] Z (.alloc zv48) Z Z trivial ?_))); refine Sn [.cells (E_YbrB (⟨0, 0, 0, 0, (default : TPlan), 0, 0, 0, ([] : List TField), ([] : List TField)⟩ : YbrB)), .cells (E_TField v13)] Z Z (.sw l0 (lq 1 Z) Z Z Z) Z trivial (Nn (AWp.wk (Wk.freeze 1 Z Z (.cons l0 Z (.ptr .nil Z) (.l [1, 2, 3, 4, 5, 6, 7, 8, 9, 10, 11, 12, 13] Z)) (.refl _)) (W.reg o6 Z ?_))); refine Sm 8 Z Z (Ss Z (.faC Z Z (lq 1 Z) Z) (Ss Z (.ldC l0 Z) (Ss Z (.add l0 cI) ?_))); refine Ss Z (.bmax (lq 3 Z) l0) (h9.n fun v14 ev14 h9 => Ss Z (.nv (.assign l0) (congrArg I ev14.symm)) (S.nil (blockQ_n ?_))); refine thenQ_n (W.reg o2 Z (Ss Z (.add (lq 11 Z) cI) (Sa Z l0 ?_))); exact Nn ⟨_, h9.ret, (Wk.selS [0] (by decide) Z (SelE.spec (lw 12 Z) Z (.refl _) Z Z (sl [0, 14, 15, 2, 17, 18, 19, 20, 21] Z)) (hc Z (.refl _) .nil))⟩
        · refine AWp.exit (thenQ_x (thenQ_x (blockQ_x ?_))); exact thenQ_n ⟨_, h9.ret, (Wk.selS [0] (by decide) Z (SelE.spec (lw 1 Z) Z (.refl _) Z Z (sl [5, 6, 7, 8, 9, 10] Z)) (hc Z (.refl _) .nil))⟩
      · refine thenQ_n (AWp.seq (Wq o2 Z (Sm 1 Z Z ?_))); refine Ss Z (.gtr l0 cI) (Nn (AWp.condM l0 h (fun c4 h => ?_) (fun c4 h => ?_)))
        · refine Wq o3 Z (h.n fun v15 ev15 h => Ss Z (.nv (.vs (v := z62) (v2 := E_YbrB (⟨0, 0, 0, 0, (default : TPlan), 0, 0, 0, ([] : List TField), ([] : List TField)⟩ : YbrB)) (.buildStW lay62 zv62 Z .nil) Z (.st (.cons (.refl _) (.cons (.refl _) (.cons (.refl _) (.cons (.refl _) (.cons (.refl _) (.cons (.refl _) (.cons (.refl _) (.cons (.refl _) (.cons (.nils_no _) (.cons (.nils_no _) .nil)))))))))))) (congrArg E_YbrB ev15.symm)) (Sn [.cells (E_YbrB v15)] Z Z (.sw (lq 3 Z) l0 Z Z Z) Z trivial (Sa Z cI ?_))); refine Nn (AWp.ret (thenQ_r (endF_wk (Wk.freeze 0 Z Z (.cons (lw 4 Z) Z (.ptr .nil Z) (.l [0, 0] Z)) (.refl _)) ?_))); obtain rfl := h.ret; exact endFN Z (Wk.z [0, 1] Z) (.cons (.cellC sz62 ag62 l0 (ty_YbrB.fl _) Z) (.cons (.tmp (lw 1 Z) Z) .nil)) Z Z Z
        · refine AWp.skip (thenQ_n (Wq o5 Z (Sm 7 Z Z ?_))); refine h.b fun l16 m16 h => Sv (.slo 587 1 [] 0 0 l16.length 1) [.cells (E_YbrB (⟨0, 0, 0, 0, (default : TPlan), 0, 0, 0, ([] : List TField), ([] : List TField)⟩ : YbrB)), .buf 587 (List.map E_TField l16)] Z (.callN ent124 cF [] (C_cloneO_124 m16) .nil .nil (ltL_c (ty_S_TField.lt _ _) ltL_nil) (.c l0 (vsubr (V.sub.refl _) (ty_S_TField.lt _ 0)) .nil) Z (mapc (ren_buf ty_TField _) Z) Z) Z Z trivial (Ss Z (.makeFunc Z (mapE1 (lq 6 Z)) Z Z) (h.b fun r17 m17 h => Sv (.slo 587 1 [] 0 0 r17.1 1) [.cells (E_YbrB (⟨0, 0, 0, 0, (default : TPlan), 0, 0, 0, ([] : List TField), ([] : List TField)⟩ : YbrB)), .buf 587 (List.map E_TField r17.2)] Z (.callH ent123 cF [1] (C_slices_DeleteFunc_Field_Start_1.p _ m17) (by decide) (hb Z .nil) (ltL_c Z (ltL_c (lt_fn ltL_nil (ltL_c (lt_cptr (ty_TPlan.lt _ _)) ltL_nil)) ltL_nil)) (.c (lq 1 Z) (subren (congrArg (fun n => V.slo 587 1 [] 0 0 n 1) (by first | rfl | simp))) (.c l0 (vsubr (V.sub.refl _) (lt_fn ltL_nil (ltL_c (lt_cptr (ty_TPlan.lt _ _)) ltL_nil))) .nil)) Z (mapc (ren_buf ty_TField _) Z) Z) Z Z trivial (Sa Z l0 ?_))); refine Nn (AWp.seq (W.regD o13 mixed (Ss Z (.faC Z Z (lq 10 Z) Z) ?_))); refine Ss Z (.ldC l0 Z) (Ss Z (.faC Z Z (lq 12 Z) Z) (Ss Z (.ldC l0 Z) (Ss Z (.add l0 cI) ?_))); refine Sm 13 Z Z (Ss Z (.ldC (lq 15 Z) Z) (Sm 20 Z Z (Sm 8 Z Z ?_))); refine h.b fun u18 m18 h => h.b fun r19 m19 h => Sv (.sl 587 .no (List.map E_TField r19)) [.cells (E_YbrB (⟨0, 0, 0, 0, (default : TPlan), 0, 0, 0, ([] : List TField), ([] : List TField)⟩ : YbrB)), .dead] Z (.fz 1 52 Z Z l0 Z (.sloQ (prek_get m18)) (.cq (cr l0 .nil) (C_barrier_own.p _ m19) Z)) Z Z trivial (h.n fun v20 ev20 h => Ss Z (.nv (.vs (v := .st [I a1.N, I 1, I (wr .i64 (a1.Number + 1)), I x11, E_TPlan a3, I a4, I 1, I 1, .sl 587 .no (List.map E_TField r19), .nils]) (v2 := E_YbrB (⟨a1.N, 1, (wr .i64 (a1.Number + 1)), x11, a3, a4, 1, 1, r19, ([] : List TField)⟩ : YbrB)) (.buildStW lay62 zv62 Z (.cons (lq 8 Z) Z Z Z Z (.cons cI Z Z Z Z (.cons (lq 5 Z) Z Z Z Z (.cons (lq 4 Z) Z Z Z Z (.cons (lq 3 Z) Z Z (ty_TPlan.fl a3) Z (.cons (lq 2 Z) Z Z Z Z (.cons cI Z Z Z Z (.cons cI Z Z Z Z (.cons l0 Z Z Z Z .nil)))))))))) Z (.st (.cons (.refl _) (.cons (.refl _) (.cons (.refl _) (.cons (.refl _) (.cons (.refl _) (.cons (.refl _) (.cons (.refl _) (.cons (.refl _) (.cons (.refl _) (.cons (.nils_no _) .nil)))))))))))) (congrArg E_YbrB ev20.symm)) (Sn [.cells (E_YbrB v20), .dead] Z Z (.sw (lq 18 Z) l0 Z Z Z) Z trivial (Sa Z cI ?_))); refine S.nilD (by kernel_rfl) (thenQ_n (Pr [0, 19] Z (AWp.ret ?_))); refine endF_wk (Wk.freeze 0 Z Z (.cons (lw 1 Z) Z (.ptr .nil Z) (.l [0] Z)) (.refl _)) ?_; obtain rfl := h.ret; exact endFN Z (Wk.z [0, 1] Z) (.cons (.cellC sz62 ag62 l0 (ty_YbrB.fl _) Z) (.cons (.tmp (lw 1 Z) Z) .nil)) Z Z Z
theorem C_state_Copy {a1 : YseS} {r : YseS} (h : state_Copy a1 = some r) : PureC Pg 50 [E_YseS a1] (E_YseS r) := by
  refine .c 20 fn50 Z Z Z ?_; replace h := Ok.of h; unfold state_Copy at h; refine Wq o2 Z (Sv (.ptr 0 [] 0) [.cells (E_YseS a1)] Z (.box l0 Z) Z Z trivial (Sv (.ptr 1 [] 0) [.cells (E_YseS a1), .cells (z64)] Z (.alloc zv64) Z Z trivial (Nn ?_))); refine .seq (W.regD [0, 1, 3, 4, 5, 7, 8, 9, 2, 6, 10, 11, 12, 13, 14, 15, 16, 17, 18] mixed (Ss Z (.fieldAddr lay64 Z Z (lq 1 Z)) (Su Z (.ldP l0 Z (.f Z .nil) Z Z) ?_))); refine Ss Z (.fieldAddr lay64 Z Z (lq 3 Z)) (Ss Z (.fieldAddr lay62 Z Z l0) (Su Z (.ldP l0 Z (.f Z (.f Z .nil)) Z Z) (Ss Z (.fieldAddr lay64 Z Z (lq 6 Z)) ?_))); refine Ss Z (.fieldAddr lay62 Z Z l0) (Su Z (.ldP l0 Z (.f Z (.f Z .nil)) Z Z) (h.b fun r2 m2 h => Ss Z (.cq (cr (lq 6 Z) .nil) (C_state_own.p _ m2) Z) (h.b fun r3 m3 h => ?_))); refine Ss Z (.cq (cr (lq 4 Z) .nil) (C_state_own.p _ m3) Z) (h.b fun r4 m4 h => Ss Z (.cq (cr (lq 2 Z) .nil) (C_state_own.p _ m4) Z) (Ss Z (.fieldAddr lay64 Z Z (lq 12 Z)) (h.n fun v5 ev5 h => ?_))); refine Sn [.cells (E_YseS v5), .cells (z64)] Z Z (.sP l0 (lq 3 Z) Z (.refl _) Z (.f Z .nil) Z (.st Z .nil Z) (congrArg (fun z => ([AObj.cells (E_YseS z), .cells (z64)] : List AObj)) ev5.symm)) Z trivial (Ss Z (.fieldAddr lay64 Z Z (lq 13 Z)) (Ss Z (.fieldAddr lay62 Z Z l0) (h.n fun v6 ev6 h => ?_))); refine Sn [.cells (E_YseS v6), .cells (z64)] Z Z (.sP l0 (lq 4 Z) Z (.refl _) Z (.f Z (.f Z .nil)) Z (.st Z (.st Z .nil Z) Z) (congrArg (fun z => ([AObj.cells (E_YseS z), .cells (z64)] : List AObj)) ev6.symm)) Z trivial (Ss Z (.fieldAddr lay64 Z Z (lq 15 Z)) (Ss Z (.fieldAddr lay62 Z Z l0) (h.n fun v7 ev7 h => ?_))); refine Sn [.cells (E_YseS v7), .cells (z64)] Z Z (.sP l0 (lq 5 Z) Z (.refl _) Z (.f Z (.f Z .nil)) Z (.st Z (.st Z .nil Z) Z) (congrArg (fun z => ([AObj.cells (E_YseS z), .cells (z64)] : List AObj)) ev7.symm)) Z trivial (S.nilD (by kernel_rfl) (thenQ_n (Pr [16, 17] Z ?_))); refine Wq o2 Z (Su Z (.ldP (lq 1 Z) Z .nil Z Z) (Sn [.cells (E_YseS v7), .cells (E_YseS v7)] Z Z (.sw (lq 1 Z) l0 Z Z Z) Z trivial (Nn ?_))); refine AWp.ret (endF_wk (Wk.freeze 1 Z Z (.cons (lw 1 Z) Z (.ptr .nil Z) .nil) (.refl _)) ?_); obtain rfl := h.ret; exact endF1 Z (Wk.z [0] Z) (.cellC sz64 ag64 l0 (ty_YseS.fl _) Z) Z Z
theorem C_replica_Replica_Change_g {a4 : TPlan} {a5 : Int} {b1 : YraR} {b2 : YwgL} {b3 : YdkD} : Co Pg 30 (replica_Replica_Change_g a4 a5 b1 b2 b3) [.ptr 0 [] 0, E_TPlan a4, (V.int .i64) a5] [.cells (.st [E_YseS b1.s, .ptr 1 [] 0, (V.int .i64) b1.version]), .cells (.st [.ptr 2 [] 0, .slo 1 3 [] 0 0 b2.all.length 1]), .cells (E_YdkD b3), .buf 1 (List.map E_S_u8 b2.all)] (fun r => (V.int .i64) r.1) (fun r => [.cells (.st [E_YseS r.2.1.s, .ptr 1 [] 0, (V.int .i64) r.2.1.version]), .cells (.st [.ptr 2 [] 0, .slo 1 4 [] 0 0 r.2.2.1.all.length 1]), .cells (E_YdkD r.2.2.2), .dead, .buf 1 (List.map E_S_u8 r.2.2.1.all)]) := by
  refine fo ⟨tb, [], [(0, [4]), (3, [5])], false⟩ fn30 Z Z Z Z Z fun _ h => eb Z h.z (fun h => ?_) fun h => ?_
  · exact mvo 3 [6] [0, 1, 2, 5, 4] Z Z (efo [0, 1, 2, 3, 5] Z Z h Z rl Z Z al (by decide) Z)
  · refine ed [0] Z (edc Z h ⟨fun _ h => C_barrier_Start h⟩ ss fun r7 h => ee Z (by kernel_rfl) (eb Z h (fun h => ?_) fun h => ?_))
    · exact mvo 3 [6] [0, 1, 2, 6, 4, 5] Z Z (efo [0, 1, 2, 3, 6] Z Z h Z rl Z Z al (by decide) Z)
    · refine ec Z h ⟨fun _ h => C_state_Copy h⟩ ss fun r8 h => ed [] Z (ee Z (by kernel_rfl) (ech [0, 1, 2, 3] Z h.z.z.z C_replica_Replica_keep_g ss Z al (by decide) fun r12 h => ?_)); exact efo [0, 1, 2, 3, 7] Z Z h Z rl Z Z al (by decide) Z
theorem C_counter_Value {a1 : TCounter} : Cn Pg 99 (counter_Value a1) [E_TCounter a1] (fun r => .tup [(V.int .i64) r.1, (V.int .i64) r.2]) := by
  refine fs ⟨tb, [], [(0, [0])], false⟩ fn99 Z Z Z Z fun _ h => ed [] Z (edo 0 Z (.sliceArr arr38 (lz Z) (by simp)) (h.b fun l2 m2 h => edn 0 Z (.appX sli67 noi67 zv3 Z (by decide) (lz Z) (V.sub.refl _) (lz Z) Rd.sl m2 Z) (ee Z (by kernel_rfl) ?_))); refine el 1 [16, 3, 2] [3, 2] Z h (fun s4 => [(4, .sl 1 (.tok 0) (List.map I s4.2)), (17, I s4.1)]) (fun s4 => [.tail]) (fun x5 => [(4, .sl 1 (.tok 0) (List.map I x5))]) (fun x5 => [.tail]) (wkI [1] Z Z ss al (by decide) Z) (fun q3 _ s4 h3 => ?_) fun x5 h => ?_
  · refine eb Z h3 (fun h3 => ?_) fun h3 => ?_
    · exact h3.b fun k6 m6 h3 => eo 0 Z (.ixV arr38 (lz Z) (lz Z) m6 Z) (h3.b fun l7 m7 h3 => eo 0 Z (.appT sli67 noi67 zv3 Z (by decide) (lz Z) Z (lz Z) Rd.sl m7 Z) (ex Z h3.ret (wkI [1] Z Z ss al (by decide) Z)))
    · exact ex Z h3.ret (wkI [0] Z Z ss al (by decide) Z)
  · exact ec Z h C_num_Sum (.cons (vsub Z (.forget _ _ _)) ss) fun r8 h => ef Z Z h rl Z Z
theorem C_field_View {a1 : TField} : Cn Pg 38 (field_View a1) [E_TField a1] (fun r => .tup [(V.int .i64) r.1, (V.int .i64) r.2]) := by
  refine fs ⟨tb, [], [(0, [0])], false⟩ fn38 Z Z Z Z fun _ h => eb Z h (fun h => ?_) fun h => ?_
  · exact ec Z h C_counter_Value ss fun r2 h => ef Z Z h rl Z Z
  · refine eb Z h (fun h => ?_) fun h => ?_
    · exact ef Z Z h rl Z Z
    · exact ef Z Z h rl Z Z
theorem C_replica_Replica_Read_g {a4 : ByteArray} {b1 : YraR} {b2 : YwgL} {b3 : YdkD} : Co Pg 11 (replica_Replica_Read_g a4 b1 b2 b3) [.ptr 0 [] 0, V.str a4] [.cells (.st [E_YseS b1.s, .ptr 1 [] 0, (V.int .i64) b1.version]), .cells (.st [.ptr 2 [] 0, .slo 1 3 [] 0 0 b2.all.length 1]), .cells (E_YdkD b3), .buf 1 (List.map E_S_u8 b2.all)] (fun r => .tup [(V.int .i64) r.1, (V.int .i64) r.2.1]) (fun r => [.cells (.st [E_YseS r.2.2.1.s, .ptr 1 [] 0, (V.int .i64) r.2.2.1.version]), .cells (.st [.ptr 2 [] 0, .slo 1 3 [] 0 0 r.2.2.2.1.all.length 1]), .cells (E_YdkD r.2.2.2.2), .buf 1 (List.map E_S_u8 r.2.2.2.1.all)]) := by
  refine fo c0 fn11 Z Z Z Z Z fun _ h => ec Z h C_plan_Find ss fun r5 h => eb Z h (fun h => ?_) fun h => ?_
  · exact efo [0, 1, 2, 3] Z Z h Z rl Z Z al (by decide) Z
  · exact h.b fun j6 m6 h => eo 0 Z (.ixS sli22 (lz Z) (lz Z) m6) (ec Z h.z C_field_View ss fun r8 h => efo [0, 1, 2, 3] Z Z h Z rl Z Z al (by decide) Z)
theorem C_wire_Down {a1 : Int} {a2 : TField} : Cn Pg 122 (wire_Down a1 a2) [(V.int .i64) a1, E_TField a2] (fun r => .tup [E_TField r.1, E_Twire_Residue r.2.1, (V.int .i64) r.2.2]) := by
  refine fs c0 fn122 Z Z Z Z fun _ h => ec Z h C_field_Right ss fun r3 h => eb Z h (fun h => ?_) fun h => ?_
  · exact ef Z Z h.z.z rl Z Z
  · refine ec Z h C_wire_is ss fun r6 h => eb Z h (fun h => ?_) fun h => ?_
    · exact ef Z Z h.z.z rl Z Z
    · refine ec Z h ⟨fun _ h => C_clone_153 h⟩ ss fun r9 h => eb Z h.z (fun h => ?_) fun h => ?_
      · refine eb Z h.z (fun h => ?_) fun h => ?_
        · exact ed [0, 3] Z (ee Z (by kernel_rfl) (ef Z Z h.z.z rl Z Z))
        · exact ed [0, 3] Z (ee Z (by kernel_rfl) (ef Z Z h.z rl Z Z))
      · refine eb Z h (fun h => ?_) fun h => ?_
        · exact ed [0, 3] Z (ee Z (by kernel_rfl) (ef Z Z h.z.z rl Z Z))
        · exact ed [0, 3] Z (ee Z (by kernel_rfl) (ef Z Z h.z rl Z Z))
theorem C_message_Said {a1 : Int} {a2 : List TField} : Cn Pg 51 (message_Said a1 a2) [(V.int .i64) a1, .sl 587 .no (List.map E_TField a2)] E_S_TField := by
  refine fs ⟨tb, [], [(4, [1]), (5, [2, 3])], false⟩ fn51 Z Z Z Z fun _ h => eo 0 Z (.lenT sli22 (lz Z) (vsub Z (.refl _))) (el 1 [12, 11, 4, 0] [4] Z h (fun s4 => [(5, .sl 587 (.tok 0) (List.map E_TField s4.2)), (13, I s4.1)]) (fun s4 => [.tail]) (fun x5 => [(5, .sl 587 (.tok 0) (List.map E_TField x5))]) (fun x5 => [.tail]) (wkV (wkI [0] Z Z (.cons (vsub Z (.nils_tok _ _)) ss) al (by decide) Z)) (fun q3 _ s4 h3 => ?_) fun x5 h => ?_)
  · refine eb Z h3 (fun h3 => ?_) fun h3 => ?_
    · refine h3.b fun j6 m6 h3 => eo 0 Z (.ixS sli22 (lz Z) (lz Z) m6) (ec Z h3.z C_wire_Down ss fun r8 h3 => eb Z h3 (fun h3 => ?_) fun h3 => ?_)
      · exact h3.b fun l9 m9 h3 => eo 0 Z (.appT sli22 noi22 zv48 Z (by decide) (lz Z) Z (lz Z) Rd.sl m9 Z) (ex Z h3.ret (wkI [4] Z Z ss al (by decide) Z))
      · exact ex Z h3.ret (wkI [0] Z Z ss al (by decide) Z)
    · exact ex Z h3.ret (wkI [0] Z Z ss al (by decide) Z)
  · exact ef Z Z h (.cons (.forget _ _ _) rl) Z Z
theorem C_replica_Replica_Say_1 {a1 : Int} {a2 : Int} : Cn Pg 52 (replica_Replica_Say_1 a1 a2) [(V.int .i64) a1, .cptr ((V.int .i64) a2)] V.bool := by
  exact fs c0 fn52 Z Z Z Z fun _ h => h.b fun u3 m3 h => eo 0 Z (.shr (lz Z) (lz Z) (sh0_get m3)) (ef Z Z h.z rl Z Z)
theorem C_replica_about_1 {a1 : TField} {a2 : TPlan} : Cn Pg 125 (replica_about_1 a1 a2) [E_TField a1, .cptr (E_TPlan a2)] V.bool := by
  exact fs ⟨tb, [], [(0, [0])], false⟩ fn125 Z Z Z Z fun _ h => ec Z h C_plan_Touched ss fun r3 h => ef Z Z h rl Z Z
theorem C_slices_IndexFunc_Field_about_1 {a2 : TPlan} {b1 : List TField} : Co Pg 39 (slices_IndexFunc_Field_about_1 a2 b1) [.slo 587 0 [] 0 0 b1.length 1, .fn 125 [] [.cptr (E_TPlan a2)]] [.buf 587 (List.map E_TField b1)] (fun r => (V.int .i64) r) (fun _ => [.buf 587 (List.map E_TField b1)]) := by
  refine fo c0 fn39 Z Z Z Z Z fun _ h => elR0 1 [0, 7, 4, 1] [4] Z h (fun s4 => [(8, I s4)]) (fun x5 => []) (wk0 Z) (fun q3 _ s4 h h3 => ?_) fun x5 h => ?_
  · refine eb Z h3 (fun h3 => ?_) fun h3 => ?_
    · refine h3.b fun j6 m6 h3 => eo 1 Z (.ixO sli22 (lz Z) (lz Z) (by first | rfl | simp) m6) (h3.n fun v7 ev7 h3 => eo 0 Z (.nv (.loadB sz48 ag48 (lz Z) Z (.ls (by first | exact lsm m6 | (have := six_lt m6; simp at this ⊢; omega)) .nil) (by first | omega | rfl) (ty_TField.fl (b1.getD j6 default)) Z) (congrArg E_TField ev7.symm)) (ec Z h3 C_replica_about_1 ss fun r8 h3 => eb Z h3 (fun h3 => ?_) fun h3 => ?_))
      · have h := Ok.inrq h h3.ret
        exact efo [0] Z Z h Z rl Z Z al (by decide) Z
      · exact ex Z h3.ret (wk0 Z)
    · exact ex Z h3.ret (wk0 Z)
  · exact efo [0] Z Z h Z rl Z Z al (by decide) Z
theorem C_slices_DeleteFunc_Field_about_1 {a2 : TPlan} {b1 : List TField} : Co Pg 123 (slices_DeleteFunc_Field_about_1 a2 b1) [.slo 587 0 [] 0 0 b1.length 1, .fn 125 [] [.cptr (E_TPlan a2)]] [.buf 587 (List.map E_TField b1)] (fun r => .slo 587 0 [] 0 0 r.1 1) (fun r => [.buf 587 (List.map E_TField r.2)]) := by
  refine fo ⟨tb, [], [(7, [1])], false⟩ fn123 Z Z Z Z Z fun _ h => ech [0] Z h C_slices_IndexFunc_Field_about_1 ss Z al (by decide) fun r3 h => ?_; refine eb Z h (fun h => ?_) fun h => ?_
  · exact efo [0] Z Z h Z rl Z Z al (by decide) Z
  · refine el 1 [4, 1] [4] Z h (fun s5 => [(0, .slo 587 0 [] 0 0 s5.1.length 1), (6, I s5.2.1), (5, I s5.2.2)]) (fun s5 => [.buf 587 (List.map E_TField s5.1)]) (fun x6 => [(0, .slo 587 0 [] 0 0 x6.1.length 1), (5, I x6.2)]) (fun x6 => [.buf 587 (List.map E_TField x6.1)]) (wkI [0] Z Z (.cons (vsub Z (.slo (by first | rfl | simp))) ss) al (by decide) Z) (fun q4 _ s5 h4 => ?_) fun x6 h => ?_
    · refine eb Z h4 (fun h4 => ?_) fun h4 => ?_
      · refine h4.b fun j7 m7 h4 => eo 1 Z (.ixO sli22 (lz Z) (lz Z) (by first | rfl | simp) m7) (h4.n fun v8 ev8 h4 => eo 0 Z (.nv (.loadB sz48 ag48 (lz Z) Z (.ls (by first | exact lsm m7 | (have := six_lt m7; simp at this ⊢; omega)) .nil) (by first | omega | rfl) (ty_TField.fl (s5.1.getD j7 default)) Z) (congrArg E_TField ev8.symm)) (ec Z h4 C_replica_about_1 ss fun r9 h4 => eb Z h4 (fun h4 => ?_) fun h4 => ?_))
        · exact h4.b fun j10 m10 h4 => eo 1 Z (.ixO sli22 (lz Z) (lz Z) (by first | rfl | simp) m10) (h4.n fun v11 ev11 h4 => esb 0 Z (.storeB sz48 (lz Z) (lz Z) Z (.refl _) Z (.ls (by first | exact lsm m10 | (have := six_lt m10; simp at this ⊢; omega)) .nil) (by first | omega | rfl) (.ls v8 (by first | exact lsm m10 | (have := six_lt m10; simp at this ⊢; omega)) .nil) (ty_TField.fl v8) (ty_TField.fl (s5.1.getD j10 default)) Z) (congrArg (List.map E_TField) ev11.symm) (ex Z h4.ret (wkI [0] Z Z (.cons (vsub Z (.slo (by first | rfl | simp [ev11, ev8]))) ss) al (by decide) Z)))
        · exact ex Z h4.ret (wkI [0] Z Z (.cons (vsub Z (.slo (by first | rfl | simp))) ss) al (by decide) Z)
      · exact ex Z h4.ret (wkI [0] Z Z (.cons (vsub Z (.slo (by first | rfl | simp))) ss) al (by decide) Z)
    · exact h.b fun j12 m12 h => eo 0 Z (.sliceOwnS sli22 (lz Z) (lz Z) (by first | rfl | simp) m12) (h.n fun v13 ev13 h => es Z (.clearO (d := (⟨(default : ByteArray), 0, 0, (default : TCounter), (default : TLock), ([] : List THold)⟩ : TField)) sli22 zv48 (.st (.cons (.refl _) (.cons (.refl _) (.cons (.refl _) (.cons (.refl _) (.cons (.refl _) (.cons (.nils_no _) .nil))))))) (ty_TField.fl (⟨(default : ByteArray), 0, 0, (default : TCounter), (default : TLock), ([] : List THold)⟩ : TField)) (lz Z) (by first | rfl | simp) m12 Z ev13.symm Z) (h.b fun j14 m14 h => eo 0 Z (.sliceOwnT sli22 (lz Z) (lz Z) (by first | rfl | simp [(clr_len ev13 m12)]) m14) (efo [0] Z Z h Z rl Z Z al (by decide) Z)))
theorem C_slices_DeleteFunc_Field_about_1_sh {a2 : TPlan} {b1 : List TField} : Co Pg 123 (slices_DeleteFunc_Field_about_1_sh a2 b1) [.slo 587 0 [] 0 0 b1.length 1, .fn 125 [] [.cptr (E_TPlan a2)]] [.buf 587 (List.map E_TField b1)] (fun r => .slo 587 0 [] 0 0 r.length 1) (fun r => [.buf 587 (List.map E_TField r)]) := Co.shrink C_slices_DeleteFunc_Field_about_1
theorem C_replica_about {a1 : List TField} {a2 : TPlan} : Cn Pg 53 (replica_about a1 a2) [.sl 587 .no (List.map E_TField a1), E_TPlan a2] E_S_TField := by
  refine fs ⟨tb, [], [(0, [0])], false⟩ fn53 Z Z Z Z fun _ h => h.b fun l3 m3 h => eo 0 Z (.callN ent124 cF [] (C_cloneO_124 m3) .nil .nil (ltL_c (ty_S_TField.lt _ _) ltL_nil) (.c (lz Z) (vsubr (V.sub.refl _) (ty_S_TField.lt _ 0)) .nil) Z (mapc (ren_buf ty_TField _) Z) Z) ?_; refine ech [1] Z h C_slices_DeleteFunc_Field_about_1_sh ss Z al (by decide) fun r4 h => ?_; exact ef Z Z h rl Z Z
theorem C_replica_Replica_Say_g {a4 : Int} {a5 : Int} {b1 : YraR} {b2 : YwgL} {b3 : YdkD} : Co Pg 15 (replica_Replica_Say_g a4 a5 b1 b2 b3) [.ptr 0 [] 0, (V.int .i64) a4, (V.int .i64) a5] [.cells (.st [E_YseS b1.s, .ptr 1 [] 0, (V.int .i64) b1.version]), .cells (.st [.ptr 2 [] 0, .slo 1 3 [] 0 0 b2.all.length 1]), .cells (E_YdkD b3), .buf 1 (List.map E_S_u8 b2.all)] (fun r => E_S_TMessage r.1) (fun r => [.cells (.st [E_YseS r.2.1.s, .ptr 1 [] 0, (V.int .i64) r.2.1.version]), .cells (.st [.ptr 2 [] 0, .slo 1 3 [] 0 0 r.2.2.1.all.length 1]), .cells (E_YdkD r.2.2.2), .buf 1 (List.map E_S_u8 r.2.2.1.all)]) := by
  refine fo ⟨tb, [], [(0, [4]), (3, [5]), (6, [6])], false⟩ fn15 Z Z Z Z Z fun _ h => ed [] Z (edcG Z h.z Z C_wire_Meet ss fun r7 h => ee Z (by kernel_rfl) (eb Z h (fun h => ?_) fun h => ?_))
  · exact efo [0, 1, 2, 3] Z Z h Z (.cons (.nils_no _) rl) Z Z al (by decide) Z
  · refine ec Z h ⟨fun _ h => C_state_Copy h⟩ ss fun r8 h => ec Z h C_wire_Meet ss fun r9 h => ed [] Z (edc Z h C_message_Said ss fun r10 h => ee Z (by kernel_rfl) (ecG Z h.z Z C_replica_Replica_Say_1 ss fun r12 h => eb Z h.z (fun h => ?_) fun h => ?_))
    · exact h.z.b fun l15 m15 h => eo 0 Z (.appX sli58 noi58 zv53 Z (by decide) (lz Z) (V.sub.refl _) (lz Z) Rd.sl m15 Z) (efo [0, 1, 2, 3] Z Z h Z (.cons (.forget _ _ _) rl) Z Z al (by decide) Z)
    · refine ecG Z h Z C_replica_Replica_Say_1 ss fun r16 h => eb Z h.z (fun h => ?_) fun h => ?_
      · exact h.z.b fun l19 m19 h => eo 0 Z (.appX sli58 noi58 zv53 Z (by decide) (lz Z) (V.sub.refl _) (lz Z) Rd.sl m19 Z) (efo [0, 1, 2, 3] Z Z h Z (.cons (.forget _ _ _) rl) Z Z al (by decide) Z)
      · refine eb Z h.z (fun h => ?_) fun h => ?_
        · exact ed [] Z (edc Z h C_replica_about ss fun r21 h => h.z.b fun l23 m23 h => edn 0 Z (.appX sli58 noi58 zv53 Z (by decide) (lz Z) (V.sub.refl _) (lz Z) Rd.sl m23 Z) (ee Z (by kernel_rfl) (efo [0, 1, 2, 3] Z Z h Z (.cons (.forget _ _ _) rl) Z Z al (by decide) Z)))
        · exact efo [0, 1, 2, 3] Z Z h Z (.cons (.forget _ _ _) rl) Z Z al (by decide) Z
theorem C_ul18_awake  : Cn Pg 7 (ul18_awake) [] V.bool := by
  refine fs c0 fn7 Z Z Z Z fun _ h => ec Z h C_ul18_one ss fun r1 h => ech [] Z h.u ((cor C_disk_New (r := (dnew 25600)) (by kernel_rfl)).u Z) ss Z al (by decide) fun _ h => ?_; refine ech2 [0] Z h C_replica_Open_d ss Z al (by decide) (fun r2 h => ?_) fun r3 h => ?_
  · refine ech [] Z h C_replica_Replica_Add_nil ss Z al (by decide) fun r4 h => ?_; refine ech [] Z h.z C_replica_Replica_Change_nil ss Z al (by decide) fun r6 h => ?_; refine ech [] Z h C_replica_Replica_Read_nil ss Z al (by decide) fun r7 h => ?_; refine ep Z h.z (fun h => ?_) fun h => ?_
    · refine ech [] Z h C_replica_Replica_Add_nil ss Z al (by decide) fun r9 h => ?_; exact epF Z Z (ef Z Z h rl Z Z)
    · exact ef Z Z h rl Z Z
  · refine ech [1, 2, 0, 3] Z h C_replica_Replica_Add_g ss Z al (by decide) fun r10 h => ?_; refine ech [1, 2, 0, 4] Z h.z C_replica_Replica_Change_g ss Z al (by decide) fun r12 h => ?_; refine ech [1, 2, 0, 5] Z h C_replica_Replica_Read_g ss Z al (by decide) fun r13 h => ?_; refine ep Z h.z (fun h => ?_) fun h => ?_
    · refine ech [1, 2, 0, 5] Z h C_replica_Replica_Add_g ss Z al (by decide) fun r15 h => ?_; refine ep Z h (fun h => ?_) fun h => ?_
      · refine ech [1, 2, 0, 6] Z h C_replica_Replica_Say_g ss Z al (by decide) fun r16 h => ?_; exact eo 0 Z (.lenT sli58 (lz Z) (vsub Z (.refl _))) (ef Z Z h.z rl Z Z)
      · exact ef Z Z h rl Z Z
    · exact ef Z Z h rl Z Z
theorem C_replica_Replica_there_nil {a1 : Int} : Co Pg 101 (replica_Replica_there_nil a1) [.nilp, (V.int .i64) a1] [] (fun _ => V.bool false) (fun _ => []) := by
  exact fo c0 fn101 Z Z Z Z Z fun _ h => efo [] Z Z h Z rl Z Z al (by decide) Z
theorem C_replica_Replica_Hand_nil {a1 : ByteArray} {a2 : Int} {a3 : Int} {a4 : Int} : Co Pg 42 (replica_Replica_Hand_nil a1 a2 a3 a4) [.nilp, V.str a1, (V.int .i64) a2, (V.int .i64) a3, (V.int .i64) a4] [] (fun _ => (V.int .i64) 1) (fun _ => []) := by
  refine fo ⟨tb, [], [(0, [0, 1, 2])], false⟩ fn42 Z Z Z Z Z fun _ h => ech [] Z h C_replica_Replica_there_nil ss Z al (by decide) fun r5 h => ?_; exact ebT Z Z (efo [] Z Z h Z rl Z Z al (by decide) Z)
theorem C_replica_Replica_change_Replica_Reserve_1_nil {a2 : ByteArray} {a3 : Int} {a4 : Int} {b1 : Int} : Co Pg 72 (replica_Replica_change_Replica_Reserve_1_nil a2 a3 a4 b1) [.nilp, V.str a2, .fn 104 [] [.cptr ((V.int .i64) a3), .cptr ((V.int .i64) a4), .ptr 0 [] 0]] [.cells ((V.int .i64) b1)] (fun _ => (V.int .i64) 10) (fun r => [.cells ((V.int .i64) r)]) := by
  exact fo c0 fn72 Z Z Z Z Z fun _ h => efo [0] Z Z h Z rl Z Z al (by decide) Z
theorem C_replica_Replica_Reserve_nil {a1 : ByteArray} {a2 : Int} {a3 : Int} : Co Pg 43 (replica_Replica_Reserve_nil a1 a2 a3) [.nilp, V.str a1, (V.int .i64) a2, (V.int .i64) a3] [] (fun _ => .tup [(V.int .i64) 0, (V.int .i64) 10]) (fun _ => []) := by
  refine fo ⟨tb, [], [(0, [0, 1])], false⟩ fn43 Z Z Z Z Z fun _ h => ed [] Z (ee Z (by kernel_rfl) (ech [2] Z h C_replica_Replica_change_Replica_Reserve_1_nil ss Z al (by decide) fun r4 h => ?_)); exact ebT Z Z (efo [] Z Z h Z rl Z Z al (by decide) Z)
theorem C_replica_Replica_change_Replica_End_1_nil {a1 : ByteArray} {a2 : Int} {a3 : Int} : Co Pg 72 (replica_Replica_change_Replica_End_1_nil a1 a2 a3) [.nilp, V.str a1, .fn 106 [] [.cptr ((V.int .i64) a2), .cptr ((V.int .i64) a3)]] [] (fun _ => (V.int .i64) 10) (fun _ => []) := by
  exact fo c0 fn72 Z Z Z Z Z fun _ h => efo [] Z Z h Z rl Z Z al (by decide) Z
theorem C_replica_Replica_End_nil {a1 : ByteArray} {a2 : Int} {a3 : Int} : Co Pg 44 (replica_Replica_End_nil a1 a2 a3) [.nilp, V.str a1, (V.int .i64) a2, (V.int .i64) a3] [] (fun _ => (V.int .i64) 10) (fun _ => []) := by
  refine fo ⟨tb, [], [(0, [0, 1])], false⟩ fn44 Z Z Z Z Z fun _ h => ech [] Z h C_replica_Replica_change_Replica_End_1_nil ss Z al (by decide) fun r4 h => ?_; exact efo [] Z Z h Z rl Z Z al (by decide) Z
theorem C_replica_Replica_change_Replica_Write_1_nil {a1 : ByteArray} {a2 : Int} : Co Pg 72 (replica_Replica_change_Replica_Write_1_nil a1 a2) [.nilp, V.str a1, .fn 108 [] [.cptr ((V.int .i64) a2)]] [] (fun _ => (V.int .i64) 10) (fun _ => []) := by
  exact fo c0 fn72 Z Z Z Z Z fun _ h => efo [] Z Z h Z rl Z Z al (by decide) Z
theorem C_replica_Replica_Write_nil {a1 : ByteArray} {a2 : Int} : Co Pg 45 (replica_Replica_Write_nil a1 a2) [.nilp, V.str a1, (V.int .i64) a2] [] (fun _ => (V.int .i64) 10) (fun _ => []) := by
  refine fo ⟨tb, [], [(0, [0])], false⟩ fn45 Z Z Z Z Z fun _ h => ech [] Z h C_replica_Replica_change_Replica_Write_1_nil ss Z al (by decide) fun r3 h => ?_; exact efo [] Z Z h Z rl Z Z al (by decide) Z
theorem C_replica_Replica_Pass_nil {a1 : ByteArray} {a2 : Int} : Co Pg 46 (replica_Replica_Pass_nil a1 a2) [.nilp, V.str a1, (V.int .i64) a2] [] (fun _ => (V.int .i64) 1) (fun _ => []) := by
  refine fo ⟨tb, [], [(0, [0])], false⟩ fn46 Z Z Z Z Z fun _ h => ech [] Z h C_replica_Replica_there_nil ss Z al (by decide) fun r3 h => ?_; exact ebT Z Z (efo [] Z Z h Z rl Z Z al (by decide) Z)
theorem C_replica_Replica_Tick_nil  : Co Pg 47 (replica_Replica_Tick_nil) [.nilp] [] (fun _ => (V.int .i64) 10) (fun _ => []) := by
  exact fo c0 fn47 Z Z Z Z Z fun _ h => efo [] Z Z h Z rl Z Z al (by decide) Z
theorem C_replica_Replica_Abort_nil  : Co Pg 48 (replica_Replica_Abort_nil) [.nilp] [] (fun _ => (V.int .i64) 1) (fun _ => []) := by
  exact fo c0 fn48 Z Z Z Z Z fun _ h => efo [] Z Z h Z rl Z Z al (by decide) Z
theorem C_replica_Replica_Message_nil {a1 : TMessage} : Co Pg 49 (replica_Replica_Message_nil a1) [.nilp, E_TMessage a1] [] (fun _ => (V.int .i64) 1) (fun _ => []) := by
  exact fo ⟨tb, [], [(0, [0])], false⟩ fn49 Z Z Z Z Z fun _ h => ed [] Z (ee Z (by kernel_rfl) (efo [] Z Z h Z rl Z Z al (by decide) Z))
theorem C_ul18_does_nil {a1 : Yl18D} : Co Pg 14 (ul18_does_nil a1) [.nilp, E_Yl18D a1] [] (fun r => (V.int .i64) r) (fun _ => []) := by
  refine fo ⟨tb, [], [(0, [0])], false⟩ fn14 Z Z Z Z Z fun _ h => eb Z h (fun h => ?_) fun h => ?_
  · refine ech [] Z h C_replica_Replica_Add_nil ss Z al (by decide) fun r2 h => ?_; exact efo [] Z Z h Z rl Z Z al (by decide) Z
  · refine eb Z h (fun h => ?_) fun h => ?_
    · refine ech [] Z h C_replica_Replica_Hand_nil ss Z al (by decide) fun r3 h => ?_; exact efo [] Z Z h Z rl Z Z al (by decide) Z
    · refine eb Z h (fun h => ?_) fun h => ?_
      · refine ech [] Z h C_replica_Replica_Reserve_nil ss Z al (by decide) fun r4 h => ?_; exact efo [] Z Z h Z rl Z Z al (by decide) Z
      · refine eb Z h (fun h => ?_) fun h => ?_
        · refine ech [] Z h C_replica_Replica_End_nil ss Z al (by decide) fun r5 h => ?_; exact efo [] Z Z h Z rl Z Z al (by decide) Z
        · refine eb Z h (fun h => ?_) fun h => ?_
          · refine ech [] Z h C_replica_Replica_Write_nil ss Z al (by decide) fun r6 h => ?_; exact efo [] Z Z h Z rl Z Z al (by decide) Z
          · refine eb Z h (fun h => ?_) fun h => ?_
            · refine ech [] Z h C_replica_Replica_Pass_nil ss Z al (by decide) fun r7 h => ?_; exact efo [] Z Z h Z rl Z Z al (by decide) Z
            · refine eb Z h (fun h => ?_) fun h => ?_
              · refine ech [] Z h C_replica_Replica_Tick_nil ss Z al (by decide) fun r8 h => ?_; exact efo [] Z Z h Z rl Z Z al (by decide) Z
              · refine eb Z h (fun h => ?_) fun h => ?_
                · refine ech [] Z h C_replica_Replica_Change_nil ss Z al (by decide) fun r9 h => ?_; exact efo [] Z Z h Z rl Z Z al (by decide) Z
                · refine eb Z h (fun h => ?_) fun h => ?_
                  · refine ech [] Z h C_replica_Replica_Abort_nil ss Z al (by decide) fun r10 h => ?_; exact efo [] Z Z h Z rl Z Z al (by decide) Z
                  · refine ech [] Z h C_replica_Replica_Message_nil ss Z al (by decide) fun r11 h => ?_; exact efo [] Z Z h Z rl Z Z al (by decide) Z
theorem C_replica_Replica_Say_nil {a1 : Int} {a2 : Int} : Co Pg 15 (replica_Replica_Say_nil a1 a2) [.nilp, (V.int .i64) a1, (V.int .i64) a2] [] (fun r => E_S_TMessage r) (fun _ => []) := by
  exact fo ⟨tb, [], [(0, [0])], false⟩ fn15 Z Z Z Z Z fun _ h => ed [] Z (ee Z (by kernel_rfl) (efo [] Z Z h Z (.cons (.nils_no _) rl) Z Z al (by decide) Z))
theorem C_replica_Replica_State_nil  : Co Pg 17 (replica_Replica_State_nil) [.nilp] [] (fun r => E_YseS r) (fun _ => []) := by
  exact fo c0 fn17 Z Z Z Z Z fun _ h => efo [] Z Z h.z Z rl Z Z al (by decide) Z
theorem C_ul18_ReplicaNobody {a1 : Yl18D} : Cn Pg 4 (ul18_ReplicaNobody a1) [E_Yl18D a1] V.bool := by
  refine fs ⟨tb, [], [(0, [0])], false⟩ fn4 Z Z Z Z fun _ h => ec Z h C_ul18_few (.cons (vsub Z (.nils_no _)) (.cons (vsub Z (.forget _ _ _)) ss)) fun r2 h => eb Z h (fun h => ?_) fun h => ?_
  · exact ec Z h C_ul18_awake ss fun r3 h => ef Z Z h rl Z Z
  · refine ech [] Z h C_replica_Replica_Read_nil ss Z al (by decide) fun r4 h => ?_; refine ech [] Z h C_ul18_does_nil ss Z al (by decide) fun r5 h => ?_; refine ep Z h (fun h => ?_) fun h => ?_
    · refine ech [] Z h C_replica_Replica_Say_nil ss Z al (by decide) fun r6 h => ?_; refine eo 0 Z (.lenT sli58 (lz Z) (vsub Z (.refl _))) (ep Z h (fun h => ?_) fun h => ?_)
      · refine ech [] Z h C_replica_Replica_State_nil ss Z al (by decide) fun r7 h => ?_; exact ec Z h.z ⟨fun _ h => C_state_Same h⟩ ss fun r9 h => ecG Z h Z C_ul18_awake ss fun r10 h => ef Z Z h rl Z Z
      · exact ef Z Z h rl Z Z
    · exact ef Z Z h rl Z Z
end
end Go.Av
