/- Calls of functions that are handed objects: proved over just these, used over all. -/
import Derived.Test.YtdbiobndihpccabAvCore19
namespace Go.Av
set_option linter.unusedSimpArgs false
set_option linter.unusedVariables false
set_option linter.unusedSectionVars false

/-- Objects put in their places, new ones behind. -/
def setL : List AObj → List Nat → List AObj → List AObj
  | H, [], obs => H ++ obs
  | H, _ :: _, [] => H
  | H, i :: is, ob :: obs => setL (H.set i ob) is obs

theorem setL_len : ∀ {ids : List Nat} {L H : List AObj}, ids.length ≤ L.length → (setL H ids L).length = H.length + (L.length - ids.length)
  | [], L, H, _ => by simp [setL]
  | _ :: _, [], _, h => by simp at h
  | i :: is, ob :: obs, H, h => by
    simp only [setL]
    rw [setL_len (by simpa using h)]
    simp

theorem setL_get : ∀ {ids : List Nat} {L H : List AObj} {o : Nat} {ob : AObj}, ids.Nodup → (∀ i ∈ ids, i < H.length) → ids.length ≤ L.length → (setL H ids L)[o]? = some ob →
    (∃ k, L[k]? = some ob ∧ ((k < ids.length ∧ ids[k]? = some o) ∨ (ids.length ≤ k ∧ o = H.length + (k - ids.length)))) ∨ (o ∉ ids ∧ o < H.length ∧ H[o]? = some ob)
  | [], L, H, o, ob, _, _, _, h => by
    simp only [setL] at h
    rcases Nat.lt_or_ge o H.length with hl | hl
    · rw [List.getElem?_append_left hl] at h
      exact .inr ⟨by simp, hl, h⟩
    · rw [List.getElem?_append_right hl] at h
      exact .inl ⟨o - H.length, h, .inr ⟨by simp, by simp; omega⟩⟩
  | _ :: _, [], _, _, _, _, _, h, _ => by simp at h
  | i :: is, x :: obs, H, o, ob, hnd, hlt, hle, h => by
    simp only [setL] at h
    have hnd' := List.nodup_cons.1 hnd
    rcases setL_get (ids := is) (L := obs) (H := H.set i x) hnd'.2 (fun j hj => by simpa using hlt j (by simp [hj])) (by simpa using hle) h with ⟨k, h1, h2⟩ | ⟨h1, h2, h3⟩
    · refine .inl ⟨k + 1, by simpa using h1, ?_⟩
      rcases h2 with ⟨h2, h3⟩ | ⟨h2, h3⟩
      · exact .inl ⟨by simpa using h2, by simpa using h3⟩
      · exact .inr ⟨by simpa using h2, by simp at h3 ⊢; omega⟩
    · by_cases e : o = i
      · subst e
        rw [List.getElem?_set_self (hlt o (by simp))] at h3
        exact .inl ⟨0, by simpa using h3, .inl ⟨by simp, by simp⟩⟩
      · rw [List.getElem?_set_ne (Ne.symm e)] at h3
        exact .inr ⟨by simp [e, h1], by simpa using h2, h3⟩

/-! What is told, told by other numbers. -/

structure Gh.rend (f : Nat → Nat) (g g' : Gh) : Prop where
  imm : ∀ b i x, g.I b i = some x → g'.I b i = some x
  pre : ∀ (o : Nat) p, g.ρ[o]? = some p → g'.ρ[f o]? = some p

theorem Tk.ok.rend {f : Nat → Nat} {g g' : Gh} (h : g.rend f g') {e : Nat} {tk : Tk} {a : Option Addr} {len cap : Nat} (k : tk.ok g e a len cap) : (tk.ren f).ok g' e a len cap := by
  cases tk with
  | no => trivial
  | nn => exact k
  | exact => exact k
  | tok o =>
    rcases k with k | ⟨p, ad, h1, h2⟩
    · exact .inl k
    · exact .inr ⟨p, ad, h.pre _ _ h1, h2⟩

mutual
theorem RC.rend {f : Nat → Nat} {g g' : Gh} (h : g.rend f g') : ∀ {v : V} {cs : List Value}, RC g v cs → RC g' (v.ren f) cs
  | .bool _, _, k => by simpa only [V.ren, RC] using k
  | .int _ _, _, k => by simpa only [V.ren, RC] using k
  | .str _, _, k => by simpa only [V.ren, RC] using k
  | .nilp, _, k => by simpa only [V.ren, RC] using k
  | .ptr _ _ _, _, k => by
    simp only [V.ren, RC] at k ⊢
    obtain ⟨p, h1, h2⟩ := k
    exact ⟨p, h.pre _ _ h1, h2⟩
  | .cptr _, _, k => by
    simp only [V.ren, RC] at k ⊢
    obtain ⟨a, c, h1, h2, h3, h4⟩ := k
    exact ⟨a, c, h1, h2, RC.rend h h3, fun i x hx => h.imm _ _ _ (h4 i x hx)⟩
  | .nils, _, k => by simpa only [V.ren, RC] using k
  | .sl _ _ _, _, k => by
    simp only [V.ren, RC] at k ⊢
    obtain ⟨a, cap, h1, h2, h3, c, h4, h5, h6⟩ := k
    rw [V.renL_length]
    exact ⟨a, cap, h1, h2, h3.rend h, c, RCu.rend h h4, h5, fun ad e => ⟨fun hn => (h6 ad e).1 (fun e => hn (by subst e; rfl)), fun i x hx => h.imm _ _ _ ((h6 ad e).2 i x hx)⟩⟩
  | .slo _ _ _ _ _ _ _, _, k => by
    simp only [V.ren, RC] at k ⊢
    obtain ⟨p, h1, h2⟩ := k
    exact ⟨p, h.pre _ _ h1, h2⟩
  | .fn _ _ _, _, k => by
    simp only [V.ren, RC] at k ⊢
    obtain ⟨a, b, h1, h2, h3⟩ := k
    exact ⟨a, b, h1, RVl.rend h h2, RVl.rend h h3⟩
  | .nilfn, _, k => by simpa only [V.ren, RC] using k
  | .ifc _ v, _, k => by
    simp only [V.ren, RC] at k ⊢
    obtain ⟨x, h1, h2, h3⟩ := k
    exact ⟨x, h1, by rw [V.ren_isAgg]; exact h2, RC.rend h h3⟩
  | .nili, _, k => by simpa only [V.ren, RC] using k
  | .st _, _, k => by
    simp only [V.ren, RC] at k ⊢
    exact RCs.rend h k
  | .arr _ _, _, k => by
    simp only [V.ren, RC] at k ⊢
    exact RCu.rend h k
  | .tup _, _, k => by simp only [RC] at k
  | .map _, _, k => by
    simp only [V.ren, RC] at k ⊢
    obtain ⟨p, h1, h2⟩ := k
    exact ⟨p, h.pre _ _ h1, h2⟩
  | .nilmap, _, k => by simpa only [V.ren, RC] using k
  | .undef, _, k => by simp only [RC] at k
theorem RCs.rend {f : Nat → Nat} {g g' : Gh} (h : g.rend f g') : ∀ {vs : List V} {cs : List Value}, RCs g vs cs → RCs g' (V.renL f vs) cs
  | [], _, k => by simpa only [V.renL, RCs] using k
  | _ :: _, _, k => by
    simp only [V.renL, RCs] at k ⊢
    obtain ⟨a, b, h1, h2, h3⟩ := k
    exact ⟨a, b, h1, RC.rend h h2, RCs.rend h h3⟩
theorem RCu.rend {f : Nat → Nat} {g g' : Gh} (h : g.rend f g') : ∀ {e : Nat} {vs : List V} {cs : List Value}, RCu g e vs cs → RCu g' e (V.renL f vs) cs
  | _, [], _, k => by simpa only [V.renL, RCu] using k
  | _, _ :: _, _, k => by
    simp only [V.renL, RCu] at k ⊢
    obtain ⟨a, b, h1, h0, h2, h3⟩ := k
    exact ⟨a, b, h1, h0, RC.rend h h2, RCu.rend h h3⟩
theorem RVl.rend {f : Nat → Nat} {g g' : Gh} (h : g.rend f g') : ∀ {vs : List V} {cs : List Value}, RVl g vs cs → RVl g' (V.renL f vs) cs
  | [], _, k => by simpa only [V.renL, RVl] using k
  | _ :: _, _, k => by
    simp only [V.renL, RVl] at k ⊢
    obtain ⟨x, r, h1, h0, h2, h3⟩ := k
    exact ⟨x, r, h1, by rw [V.ren_isAgg]; exact h0, RC.rend h h2, RVl.rend h h3⟩
end

theorem RV.rend {f : Nat → Nat} {g g' : Gh} (h : g.rend f g') {v : V} {x : Value} (k : RV g v x) : RV g' (v.ren f) x := by
  cases v with
  | undef => trivial
  | tup vs => obtain ⟨xs, e, k⟩ := k; simp only [V.ren]; exact ⟨xs, e, k.rend h⟩
  | _ => exact RV.of ((V.ren_isAgg f _).trans k.1) (k.2.rend h)

theorem REs.rend {f : Nat → Nat} {g g' : Gh} (h : g.rend f g') : ∀ {es : List (V × V)} {l : List MapEntry}, REs g es l → REs g' (esRen f es) l
  | [], _, k => k
  | _ :: _, _, k => by
    obtain ⟨e, es, h1, h2, h3, h4⟩ := k
    exact ⟨e, es, h1, h2.rend h, h3.rend h, h4.rend h⟩

theorem ORel.rend {f : Nat → Nat} {g g' : Gh} (h : g.rend f g') (hI : g'.I = g.I) {w : World} {p : Place} {ob : AObj} (k : ORel g w p ob) : ORel g' w p (ob.ren f) := by
  cases ob with
  | cells v =>
    obtain ⟨cs, ty, h1, ⟨j, h2, h3⟩, h4⟩ := k
    refine ⟨cs, ty, h1, ⟨j, ?_, ?_⟩, hI ▸ h4⟩
    · rw [flen_ren]; exact h2
    · rw [flen_ren]; exact h3.rend h
  | buf e vs =>
    rcases k with ⟨x, rfl⟩ | ⟨h0, cs, ty, h1, ⟨c, j, h2, h3⟩, h4, h5⟩
    · exact .inl ⟨x, rfl⟩
    · exact .inr ⟨h0, cs, ty, h1, ⟨c, j, h2, h3.rend h⟩, h4, hI ▸ h5⟩
  | tail =>
    rcases k with x | ⟨cs, ty, q1, q2, q3⟩
    · exact .inl x
    · exact .inr ⟨cs, ty, q1, q2, hI ▸ q3⟩
  | map es => obtain ⟨en, cl, q1, q2, q3⟩ := k; exact ⟨en, cl, q1, q2.rend h, q3⟩
  | dead => trivial

def Out.ren (f : Nat → Nat) : Out → Out
  | .ret v => .ret (v.ren f)
  | .pan v => .pan (v.ren f)

theorem OutRel.rend {f : Nat → Nat} {g g' : Gh} (h : g.rend f g') {e : Ending} {o : Out} (k : OutRel g e o) : OutRel g' e (o.ren f) := by
  cases e <;> cases o <;> simp only [OutRel, Out.ren] at k ⊢
  · exact k.rend h
  · obtain ⟨x, h1, h2⟩ := k
    exact ⟨x, h1, h2.rend h⟩

theorem RVs.turned {f : Nat → Nat} {m : Nat} {g g' : Gh} (h : g.turned f m g') : ∀ {vs : List V} {xs : List Value}, V.ltL m vs = true → RVs g (V.renL f vs) xs → RVs g' vs xs
  | [], _, _, k => k
  | v :: vs, _, hl, k => by
    simp only [V.ltL, Bool.and_eq_true] at hl
    obtain ⟨x, r, h1, h2, h3⟩ := k
    exact ⟨x, r, h1, h2.turned h hl.1, RVs.turned h hl.2 h3⟩

/-- Where a callee's object is found at its caller's. -/
def back (ids : List Nat) (n : Nat) (k : Nat) : Nat := if k < ids.length then ids.getD k 0 else n + (k - ids.length)

theorem CallSpec.at {P : Program} {f : FuncId} {args : List V} {H : List AObj} {R : Out → List AObj → Prop} (h : CallSpec P f args H R) {H₂ : List AObj} {ids : List Nat} (hnd : ids.Nodup)
    (hH : SelHS (fun k => ids.getD k 0) ids.length H₂ ids H) (ha : V.ltL ids.length args = true) :
    CallSpec P f (V.renL (fun k => ids.getD k 0) args) H₂ fun o H' => ∃ o0 H0, R o0 H0 ∧ o = o0.ren (back ids H₂.length) ∧ H' = setL H₂ ids (H0.map (AObj.ren (back ids H₂.length))) := by
  intro g w xs hx hr
  obtain ⟨hlen, hget⟩ := hH.get
  obtain ⟨tr, hr1, hρ'⟩ := sel_hr hr hnd hH
  have hids : ∀ i ∈ ids, i < H₂.length := by
    intro i hi
    obtain ⟨k, hk, e⟩ := List.getElem_of_mem hi
    have hk2 : k < H.length := by omega
    obtain ⟨i', ob0, e1, _, e3, _⟩ := hget k H[k] (List.getElem?_eq_getElem hk2)
    rw [List.getElem?_eq_getElem hk, e] at e1
    cases e1
    exact (List.getElem?_eq_some_iff.1 e3).1
  refine (h _ w xs (hx.turned tr ha) hr1).mono ?_
  rintro e w' ⟨g', H0, o0, hR, ho, hr', hev⟩
  have hρl : (ids.map fun i => g.ρ.getD i ⟨0, 0, 0, true⟩).length = ids.length := by simp
  have hgl : ids.length ≤ g'.ρ.length := by
    rcases Nat.lt_or_ge g'.ρ.length ids.length with hlt | hge
    · exfalso
      have hk : g'.ρ.length < (ids.map fun i => g.ρ.getD i ⟨0, 0, 0, true⟩).length := by omega
      have := hev.le.pre g'.ρ.length _ (List.getElem?_eq_getElem hk)
      simp at this
    · exact hge
  have hH0 : ids.length ≤ H0.length := by rw [← hr'.len]; exact hgl
  -- the callee's places at the caller's
  have hpre : ∀ (o : Nat) p, g'.ρ[o]? = some p → (g.ρ ++ g'.ρ.drop ids.length)[back ids H₂.length o]? = some p := by
    intro o p hp
    unfold back
    split
    · rename_i ho
      have hi : ids.getD o 0 < g.ρ.length := by
        rw [hr.len]
        refine hids _ ?_
        rw [List.getD_eq_getElem?_getD, List.getElem?_eq_getElem ho]
        exact List.getElem_mem ho
      rw [List.getElem?_append_left hi]
      have h1 : (ids.map fun i => g.ρ.getD i ⟨0, 0, 0, true⟩)[o]? = some (g.ρ.getD (ids.getD o 0) ⟨0, 0, 0, true⟩) := by
        rw [List.getElem?_map, List.getElem?_eq_getElem ho, List.getD_eq_getElem?_getD (l := ids), List.getElem?_eq_getElem ho]; rfl
      have h2 := hev.le.pre o _ h1
      rw [hp] at h2
      cases h2
      rw [List.getD_eq_getElem?_getD (l := g.ρ), List.getElem?_eq_getElem hi]; rfl
    · rename_i ho
      rw [List.getElem?_append_right (by rw [hr.len]; omega), List.getElem?_drop, hr.len]
      rw [show ids.length + (H₂.length + (o - ids.length) - H₂.length) = o from by omega]
      exact hp
  let g2 : Gh := { I := g'.I, ρ := g.ρ ++ g'.ρ.drop ids.length }
  have rd : g'.rend (back ids H₂.length) g2 := ⟨fun _ _ _ h => h, hpre⟩
  have le2 : g.le g2 := ⟨fun b i x hx => hev.le.imm b i x hx, fun o p hp => by
    show (g.ρ ++ g'.ρ.drop ids.length)[o]? = some p
    rw [List.getElem?_append_left (List.getElem?_eq_some_iff.1 hp).1]; exact hp⟩
  have lv1 : ∀ b, Lv { g with ρ := ids.map fun i => g.ρ.getD i ⟨0, 0, 0, true⟩ } H b → ∃ (o : Nat) (p : Place) (ob : AObj), o ∈ ids ∧ g.ρ[o]? = some p ∧ H₂[o]? = some ob ∧ p.own ob = true ∧ p.block = b := by
    rintro b ⟨k, q, ob, hq, hob, l1, e⟩
    obtain ⟨i, ob0, e1, e3, e4, e5⟩ := hρ' k q ob hq hob
    exact ⟨i, q, ob0, List.mem_of_getElem? e1, e5, e3, e4.own (by rw [own_ren]; exact l1), e⟩
  -- where an object behind the call comes from
  have key : ∀ (o : Nat) (p : Place) (ob : AObj), g2.ρ[o]? = some p → (setL H₂ ids (H0.map (AObj.ren (back ids H₂.length))))[o]? = some ob →
      (∃ (k : Nat) (ob0 : AObj), o = back ids H₂.length k ∧ g'.ρ[k]? = some p ∧ H0[k]? = some ob0 ∧ ob = ob0.ren (back ids H₂.length)) ∨ (o ∉ ids ∧ g.ρ[o]? = some p ∧ H₂[o]? = some ob) := by
    intro o p ob hp hob
    rcases setL_get hnd hids (by simpa using hH0) hob with ⟨k, h1, h2⟩ | ⟨h1, h2, h3⟩
    · left
      rw [List.getElem?_map, Option.map_eq_some_iff] at h1
      obtain ⟨ob0, h1, rfl⟩ := h1
      have hb : o = back ids H₂.length k := by
        unfold back
        rcases h2 with ⟨h2, h3⟩ | ⟨h2, h3⟩
        · rw [if_pos h2, List.getD_eq_getElem?_getD, h3]; rfl
        · rw [if_neg (by omega)]; exact h3
      have hk : k < g'.ρ.length := by rw [hr'.len]; exact (List.getElem?_eq_some_iff.1 h1).1
      refine ⟨k, ob0, hb, ?_, h1, rfl⟩
      have := hpre k _ (List.getElem?_eq_getElem hk)
      rw [← hb] at this
      have hp' : (g.ρ ++ g'.ρ.drop ids.length)[o]? = some p := hp
      rw [this] at hp'
      rw [List.getElem?_eq_getElem hk]
      exact hp'
    · right
      refine ⟨h1, ?_, h3⟩
      have hp' : (g.ρ ++ g'.ρ.drop ids.length)[o]? = some p := hp
      rwa [List.getElem?_append_left (by rw [hr.len]; exact h2)] at hp'
  -- an object that was not handed over
  have apart : ∀ (o : Nat) (p : Place) (ob : AObj), o ∉ ids → g.ρ[o]? = some p → H₂[o]? = some ob → p.own ob = true → p.block < w.heap.size ∧ ¬ Lv { g with ρ := ids.map fun i => g.ρ.getD i ⟨0, 0, 0, true⟩ } H p.block := by
    intro o p ob h1 h2 h3 h4
    refine ⟨(hr.obj o p ob h2 h3).inb h4, fun hl => ?_⟩
    obtain ⟨o', p', ob', k1, k2, k3, k4, k5⟩ := lv1 _ hl
    have := hr.inj o' o p' p ob' ob k2 h2 k3 h3 k4 h4 k5
    exact h1 (this ▸ k1)
  have live0 : ∀ (k : Nat) (p : Place) (ob : AObj), g'.ρ[k]? = some p → H0[k]? = some ob → p.own ob = true → Lv { g with ρ := ids.map fun i => g.ρ.getD i ⟨0, 0, 0, true⟩ } H p.block ∨ w.heap.size ≤ p.block :=
    fun k p ob h1 h2 h3 => hev.live p.block ⟨k, p, ob, h1, h2, h3, rfl⟩
  refine ⟨g2, _, _, ⟨o0, H0, hR, rfl, rfl⟩, ho.rend rd, ⟨hr'.agree, ?_, ?_, ?_⟩, ⟨le2, hev.os, hev.tape, hev.output, hev.size, hev.drawn, ?_, ?_, ?_⟩⟩
  · rw [setL_len (by simpa using hH0)]
    simp [g2, hr.len, hr'.len]
  · intro o p ob hp hob
    rcases key o p ob hp hob with ⟨k, ob0, _, h1, h2, rfl⟩ | ⟨h1, h2, h3⟩
    · exact (hr'.obj k p ob0 h1 h2).rend rd rfl
    · cases hown : p.own ob with
      | false => exact (hr.obj o p ob h2 h3).free hown
      | true =>
        obtain ⟨q1, q2⟩ := apart o p ob h1 h2 h3 hown
        exact (hr.obj o p ob h2 h3).keep le2 (hev.keep _ q1 q2) (fun i => hev.imm _ i q1 q2)
  · intro o o' p p' ob ob' hp hp' hob hob' l1 l2 eb
    rcases key o p ob hp hob with ⟨k, ob0, rfl, h1, h2, rfl⟩ | ⟨h1, h2, h3⟩ <;> rcases key o' p' ob' hp' hob' with ⟨k', ob0', rfl, h1', h2', rfl⟩ | ⟨h1', h2', h3'⟩
    · rw [own_ren] at l1 l2
      rw [hr'.inj k k' p p' ob0 ob0' h1 h1' h2 h2' l1 l2 eb]
    · rw [own_ren] at l1
      obtain ⟨q1, q2⟩ := apart o' p' ob' h1' h2' h3' l2
      rcases live0 k p ob0 h1 h2 l1 with x | x
      · exact absurd (eb ▸ x) q2
      · omega
    · rw [own_ren] at l2
      obtain ⟨q1, q2⟩ := apart o p ob h1 h2 h3 l1
      rcases live0 k' p' ob0' h1' h2' l2 with x | x
      · exact absurd (eb ▸ x) q2
      · omega
    · exact hr.inj o o' p p' ob ob' h2 h2' h3 h3' l1 l2 eb
  · intro b hb hn
    exact hev.keep b hb fun hl => by
      obtain ⟨o', p', ob', k1, k2, k3, k4, k5⟩ := lv1 _ hl
      exact hn ⟨o', p', ob', k2, k3, k4, k5⟩
  · intro b i hb hn
    exact hev.imm b i hb fun hl => by
      obtain ⟨o', p', ob', k1, k2, k3, k4, k5⟩ := lv1 _ hl
      exact hn ⟨o', p', ob', k2, k3, k4, k5⟩
  · rintro b ⟨o, p, ob, hp, hob, l1, rfl⟩
    rcases key o p ob hp hob with ⟨k, ob0, _, h1, h2, rfl⟩ | ⟨h1, h2, h3⟩
    · rw [own_ren] at l1
      rcases live0 k p ob0 h1 h2 l1 with x | x
      · obtain ⟨o', p', ob', k1, k2, k3, k4, k5⟩ := lv1 _ x
        exact .inl ⟨o', p', ob', k2, k3, k4, k5⟩
      · exact .inr x
    · exact .inl ⟨o, p, ob, h2, h3, l1, rfl⟩

/-- A call that is handed objects. -/
theorem OpS.callH {P : Program} {E : Operand → V} {H H3 : List AObj} {dst : Option Tmp} {ty : TypeId} {pos : String} {aft : Array Edge} {gd : Option (Nat × Bool)} {x : Operand} {args : Array Operand} {ats : Array TypeId} {f : FuncId} {first cap args' : List V} {Hc H0 H1 : List AObj} {v v2 : V}
    (hE : enters P f = true) (hx : E x = .fn f first cap) (ids : List Nat) (hs : CallSpec P f args' Hc fun o H' => o = .ret v ∧ H' = H0) (hnd : ids.Nodup) (hH : SelHS (fun k => ids.getD k 0) ids.length H ids Hc) (hl : V.ltL ids.length args' = true)
    (ha : SubL (first ++ args.toList.map E ++ cap) (V.renL (fun k => ids.getD k 0) args')) (hv : v.ren (back ids H.length) = v2) (hr : H0.map (AObj.ren (back ids H.length)) = H1) (h3 : setL H ids H1 = H3) :
    OpS P ⟨dst, .call ⟨.value x, args, ats⟩, ty, pos, aft, gd⟩ E H v2 H3 :=
  .call hE hx ((hs.at hnd hH hl).sub ha) fun o H'' ⟨o0, H0', ⟨q1, q2⟩, q3, q4⟩ => by subst q1 q2 q3 q4 hv hr h3; exact ⟨rfl, rfl⟩

theorem mapc {f : AObj → AObj} {a b : AObj} {l l' : List AObj} (h : f a = b) (t : l.map f = l') : (a :: l).map f = b :: l' := by simp [h, t]

end Go.Av
