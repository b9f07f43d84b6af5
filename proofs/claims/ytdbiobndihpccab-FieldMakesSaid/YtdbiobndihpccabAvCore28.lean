/- A call of slices.SortFunc. -/
import Derived.Test.YtdbiobndihpccabAvCore27
import Derived.Shelf.SlSortCmp.NoneTotal
namespace Go.Av
set_option linter.unusedSimpArgs false
set_option linter.unusedVariables false
set_option linter.unusedSectionVars false
open Go.Sort Go.Proofs

theorem OpS.sortFunc {P : Program} {E : Operand → V} {dst : Option Tmp} {ty : TypeId} {pos : String} {aft : Array Edge} {gd : Option (Nat × Bool)} {ρ : Shelf.Ren} {α : Type} [Inhabited α] {f : α → V} {k : Nat} {F t : Nat} {cf : α → α → Int} {c : FuncId} {caps : List V} {a0 a1 a2 : Operand} {ats : Array TypeId}
    {H H2 : List AObj} {o q len : Nat} {xs zs : List α} (L : SlLaysF0.n6 P ρ) (hF : ρ.f 6 = F) (ht : ρ.t 24 = t) (aE : aggOf P t = some true) (zE : szOf P t = some k) (T : TyOk f k true) (hO : SWO (ltOf cf)) (hE' : enters P F = true) (hE : enters P c = true) (hcl : V.ltL 0 caps = true) (hcmp : ∀ x y, PureC P c ([f x, f y] ++ caps) (.int .i64 (cf x y)))
    (h0 : E a0 = .fn F [] []) (h1 : E a1 = .slo k o [] 0 0 len q) (h2 : E a2 = .fn c [] caps) (ho : H[o]? = some (.buf k (xs.map f))) (hlen : len = xs.length) (hm : sortM cf xs = some zs) (hH : H.set o (.buf k (zs.map f)) = H2) :
    OpS P ⟨dst, .call ⟨.value a0, #[a1, a2], ats⟩, ty, pos, aft, gd⟩ E H (.tup []) H2 := by
  subst hF ht hH
  refine .call (R := fun out H' => out = .ret (.tup []) ∧ H' = H.set o (.buf k (zs.map f))) hE' h0 ?_ fun _ _ h => h
  have := sort_spec (q := q) L (fun p cap fv w => AnyF.slices_SortFunc_none L p cap fv w) (fun w => run_isAgg' aE w) (fun w => run_sizeOf' zE w) T cf hO hE hcl hcmp ho hlen hm
  simpa [h1, h2] using this

theorem sortF_perm {α : Type} [Inhabited α] {cf : α → α → Int} (hO : SWO (ltOf cf)) (xs : List α) : (sortF cf xs).Perm xs := by
  unfold sortF
  split
  · exact .refl _
  · rename_i hn
    have hswo := swo_via hO (fun i : Nat => xs.getD (min i (xs.length - 1)) default)
    obtain ⟨⟨hrs, _, hperm⟩, _⟩ := pdq_sorts _ hswo (Array.range xs.length) 0 xs.length (Lib.bitLen xs.length) true true (Nat.zero_le _) (by simp) (Or.inl rfl)
    generalize Sort.pdq (ltOf fun i j : Nat => cf (xs.getD (min i (xs.length - 1)) default) (xs.getD (min j (xs.length - 1)) default)) (Array.range xs.length) 0 xs.length (Lib.bitLen xs.length) true true = r at hrs hperm
    have h1 : (r.extract 0 xs.length).toList = r.toList := by
      have : xs.length = r.size := by simpa using hrs.symm
      rw [this]; simp
    have h2 : ((Array.range xs.length).extract 0 xs.length).toList = List.range xs.length := by simp
    rw [h1, h2] at hperm
    refine (hperm.map _).trans ?_
    apply List.Perm.of_eq
    apply List.ext_getElem?
    intro i
    by_cases hi : i < xs.length
    · simp [hi, List.getD, Nat.min_eq_left (show i ≤ xs.length - 1 by omega)]
    · simp [hi]

theorem sortF_sorted {α : Type} [Inhabited α] {cf : α → α → Int} (hO : SWO (ltOf cf)) (xs : List α) : (sortF cf xs).Pairwise fun a b => ltOf cf b a = false := by
  unfold sortF
  split
  · rename_i h
    rw [List.eq_nil_of_length_eq_zero h]; exact .nil
  · rename_i hn
    have hswo := swo_via hO (fun i : Nat => xs.getD (min i (xs.length - 1)) default)
    obtain ⟨⟨hrs, _, hperm⟩, hs⟩ := pdq_sorts _ hswo (Array.range xs.length) 0 xs.length (Lib.bitLen xs.length) true true (Nat.zero_le _) (by simp) (Or.inl rfl)
    generalize Sort.pdq (ltOf fun i j : Nat => cf (xs.getD (min i (xs.length - 1)) default) (xs.getD (min j (xs.length - 1)) default)) (Array.range xs.length) 0 xs.length (Lib.bitLen xs.length) true true = r at hrs hs
    have hrn : r.size = xs.length := by simpa using hrs
    rw [List.pairwise_map]
    rw [List.pairwise_iff_getElem]
    intro i j hi hj hij
    have hi' : i < r.size := by simpa using hi
    have hj' : j < r.size := by simpa using hj
    have := hs i j (Nat.zero_le _) hij (by omega)
    rw [getElem!_pos r j hj', getElem!_pos r i hi'] at this
    simpa [ltOf] using this
theorem sort_len {α : Type} [Inhabited α] {cf : α → α → Int} (hO : SWO (ltOf cf)) {xs zs : List α} (h : sortM cf xs = some zs) : zs.length = xs.length := by
  unfold sortM at h
  split at h
  · cases h; exact (sortF_perm hO xs).length_eq
  · cases h
theorem sortF_length {α : Type} [Inhabited α] {cf : α → α → Int} (hO : SWO (ltOf cf)) (xs : List α) : (sortF cf xs).length = xs.length := (sortF_perm hO xs).length_eq
end Go.Av
