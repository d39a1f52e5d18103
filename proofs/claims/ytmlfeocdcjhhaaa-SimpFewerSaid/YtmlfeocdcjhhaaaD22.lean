import Derived.Test.YtmlfeocdcjhhaaaPE23
import Derived.Test.YtmlfeocdcjhhaaaU2b
namespace Go.Proofs.Ytmlfeocdcjhhaaa
set_option maxRecDepth 100000
open Go.RowKit
set_option linter.unusedVariables false
set_option linter.unusedSimpArgs false

/-! What SimpFewer wants of the plain meanings. -/
theorem uses_len13 (l : List Cop) : (usesS l).length ≤ l.length :=
  Nat.le_trans (len_subset (uses_rises l) (fun x hx => uses_mem.1 hx)) (loadsK_len l)
theorem loads_mem {x : Int} {l : List Cop} : x ∈ loadsK l ↔ ∃ o ∈ l, o.how = 4 ∧ o.k = x := by
  unfold loadsK
  rw [List.mem_flatMap]
  constructor
  · rintro ⟨o, ho, hx⟩
    unfold loadK at hx
    by_cases h : o.how = 4
    · rw [if_pos h, List.mem_singleton] at hx; exact ⟨o, ho, h, hx.symm⟩
    · rw [if_neg h] at hx; cases hx
  · rintro ⟨o, ho, h, rfl⟩
    exact ⟨o, ho, by unfold loadK; rw [if_pos h]; exact List.mem_singleton.2 rfl⟩
theorem uses_simple {l : List Cop} (h : 0 ≤ depthI l) {x : Int} (hx : x ∈ usesS (simpleC l)) : x ∈ usesS l := by
  obtain ⟨-, -, -, -, -, h5⟩ := simple_facts h
  rw [uses_mem, loads_mem] at hx ⊢
  obtain ⟨o, ho, h4, hk⟩ := hx
  rcases h5 o ho with h6 | ⟨n, rfl⟩
  · exact ⟨o, h6, h4, hk⟩
  · have : (1 : Int) = 4 := h4
    omega
theorem opsC_fit {l : List Cop} (h : fitC l = true) : opsC l = (simpleC l, 0) := by unfold opsC; rw [if_pos h]
theorem opsC_not {l : List Cop} (h : fitC l = false) : opsC l = ([], 130) := by unfold opsC; rw [if_neg (by rw [h]; decide)]
theorem opsC_again {l : List Cop} (h : fitC l = true) : opsC (simpleC l) = (simpleC l, 0) := by
  rw [opsC_fit (fit_simple h), (simple_facts (fit_poly h).1).2.2.2.2.1]
theorem fit_depth {l : List Cop} (h : fitC l = true) : 0 ≤ depthI l := (fit_poly h).1
theorem any_snoc {us : List Int} {k : Nat} (hk : k < us.length) (x : Int) : (us.take (k + 1)).any (· == x) = ((us.take k).any (· == x) || us[k] == x) := by
  rw [List.take_succ_eq_append_getElem hk, List.any_append]; simp
theorem any_here {us : List Int} {x : Int} (h : x ∈ us) : (us.take us.length).any (· == x) = true := by
  rw [List.take_length]
  exact List.any_eq_true.2 ⟨x, h, by simp⟩
end Go.Proofs.Ytmlfeocdcjhhaaa
