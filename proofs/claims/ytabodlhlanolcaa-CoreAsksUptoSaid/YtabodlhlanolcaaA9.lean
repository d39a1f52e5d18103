import Derived.Test.YtabodlhlanolcaaA8
namespace Go.Proofs.Ytabodlhlanolcaa
set_option maxRecDepth 100000
open Go.RowKit
set_option linter.unusedVariables false
set_option linter.unusedSimpArgs false
attribute [local go_sem ↓] Go.wp_at_zero Go.wp_at_succ

def evalK (D : List Int) : List Mono → Int → Int → Int × Int
  | [], sum, _ => (sum, 0)
  | m :: r, sum, size => match valO m D with
    | none => (0, 22)
    | some n => if 4611686018427387904 - size < n then (0, 22) else evalK D r (if m.n < 0 then sum - n else sum + n) (size + n)
def dimsB (D : List Int) : Bool := decide (D.length ≤ 6) && D.all fun d => decide (0 ≤ d) && decide (d ≤ 2147483648)
def evalS (p : List Mono) (D : List Int) : Int × Int := if polyB p then (if dimsB D then evalK D p 0 0 else (0, 23)) else (0, 20)
theorem evalK_none {D : List Int} {p : List Mono} {k : Nat} (hk : k < p.length) (sum size : Int) (h : valO p[k] D = none) : evalK D (p.drop k) sum size = (0, 22) := by rw [List.drop_eq_getElem_cons hk, evalK, h]
theorem evalK_big {D : List Int} {p : List Mono} {k : Nat} (hk : k < p.length) (sum size : Int) {n : Int} (h : valO p[k] D = some n) (hb : 4611686018427387904 - size < n) : evalK D (p.drop k) sum size = (0, 22) := by
  rw [List.drop_eq_getElem_cons hk, evalK, h]
  exact if_pos hb
theorem evalK_step {D : List Int} {p : List Mono} {k : Nat} (hk : k < p.length) (sum size : Int) {n : Int} (h : valO p[k] D = some n) (hb : ¬ 4611686018427387904 - size < n) : evalK D (p.drop k) sum size = evalK D (p.drop (k + 1)) (if p[k].n < 0 then sum - n else sum + n) (size + n) := by
  rw [List.drop_eq_getElem_cons hk, evalK, h]
  exact if_neg hb
theorem dims_facts {D : List Int} (h : dimsB D = true) : D.length ≤ 6 ∧ ∀ x ∈ D, 0 ≤ x ∧ x ≤ 2147483648 := by
  unfold dimsB at h
  simp only [Bool.and_eq_true, decide_eq_true_eq, List.all_eq_true] at h
  exact h
theorem dims_bad {D : List Int} {k : Nat} (hk : k < D.length) (h : 6 ≤ k ∨ D[k] < 0 ∨ 2147483648 < D[k]) : dimsB D = false := by
  cases hb : dimsB D with
  | false => rfl
  | true =>
    obtain ⟨h1, h2⟩ := dims_facts hb
    have := h2 _ (List.getElem_mem hk)
    omega
theorem dims_good {D : List Int} (hl : D.length ≤ 6) (h : ∀ k, (hk : k < D.length) → 0 ≤ D[k] ∧ D[k] ≤ 2147483648) : dimsB D = true := by
  unfold dimsB
  rw [decide_eq_true hl, List.all_eq_true.2 fun x hx => by
    obtain ⟨k, hk, rfl⟩ := List.getElem_of_mem hx
    have := h k hk
    simp [this.1, this.2]]
  rfl
theorem dimAt_bd {D : List Int} (h : ∀ x ∈ D, 0 ≤ x ∧ x ≤ 2147483648) (k : Nat) : 0 ≤ dimAt D k ∧ dimAt D k ≤ 2147483648 := by
  unfold dimAt
  rw [List.getD_eq_getElem?_getD]
  cases hc : D[k]? with
  | none => simp
  | some y => exact h y (List.mem_of_getElem? hc)
theorem prodK_bd {m : Mono} {D : List Int} (hm : m.wf) (h0 : 1 ≤ max m.n (-m.n) ∧ max m.n (-m.n) ≤ 4611686018427387904) (hz : ∀ k, k < 6 → zeroAt m D k = false) (hd : ∀ k, 0 ≤ dimAt D k) : ∀ (k : Nat) {v : Int}, k ≤ 6 → prodK m D k = some v → 1 ≤ v ∧ v ≤ 4611686018427387904
  | 0, v, _, h => by cases h; exact h0
  | k + 1, v, hk, h => by
    rw [prodK] at h
    cases hp : prodK m D k with
    | none => rw [hp] at h; cases h
    | some u =>
      rw [hp] at h
      obtain ⟨b1, b2⟩ := prodK_bd hm h0 hz hd k (by omega) hp
      by_cases he : 0 < m.ex k
      · have hz := hz k (by omega)
        unfold zeroAt at hz
        rw [decide_eq_true he, Bool.true_and] at hz
        have : dimAt D k ≠ 0 := by simpa using hz
        have := hd k
        exact mulO_bd (by omega) _ b1 b2 h
      · have he0 := (ex_at hm k).1
        have : (m.ex k).toNat = 0 := by omega
        rw [this] at h
        cases h
        exact ⟨b1, b2⟩
theorem valO_bd {m : Mono} {D : List Int} (hm : m.wf) (hs : smallB m = true) (hd : ∀ k, 0 ≤ dimAt D k) {n : Int} (h : valO m D = some n) : 0 ≤ n ∧ n ≤ 4611686018427387904 := by
  unfold smallB at hs
  simp only [Bool.and_eq_true, decide_eq_true_eq, bne_iff_ne] at hs
  obtain ⟨⟨⟨hs1, hs2⟩, hs3⟩, -⟩ := hs
  unfold valO at h
  split at h
  · cases h; omega
  · rename_i hz
    have hz : ∀ k, k < 6 → zeroAt m D k = false := fun k hk => by
      cases hc : zeroAt m D k with
      | false => rfl
      | true => exact absurd (List.any_eq_true.2 ⟨k, List.mem_range.2 hk, hc⟩) hz
    have := prodK_bd hm (by omega) hz hd 6 (Nat.le_refl _) h
    omega
theorem poly_small {p : List Mono} (h : polyB p = true) {k : Nat} (hk : k < p.length) : smallB p[k] = true := by
  unfold polyB at h
  simp only [Bool.and_eq_true, List.all_eq_true, List.mem_range] at h
  have := h.2 k hk
  unfold fineAt at this
  rw [getD_at hk] at this
  simp only [Bool.and_eq_true] at this
  exact this.1
/-- the first k sides, the others 0 -/
def padK (D : List Int) (k : Nat) : List Int := (List.range 6).map fun j => if j < k then dimAt D j else 0
theorem padK_len (D : List Int) (k : Nat) : (padK D k).length = 6 := by simp [padK]
theorem padK_at (D : List Int) (k : Nat) {j : Nat} (hj : j < 6) : dimAt (padK D k) j = if j < k then dimAt D j else 0 := by
  have : (padK D k)[j]? = some (if j < k then dimAt D j else 0) := by unfold padK; simp [hj]
  unfold dimAt at this ⊢
  rw [List.getD_eq_getElem?_getD, this]
  rfl
theorem padK_set (D : List Int) {k : Nat} (hk : k < 6) : (padK D k).set k (dimAt D k) = padK D (k + 1) := by
  refine List.ext_getElem (by simp [padK]) fun j h1 h2 => ?_
  simp only [padK, List.getElem_set, List.getElem_map, List.getElem_range]
  by_cases e : k = j
  · subst e; simp
  · rw [if_neg e]
    by_cases h : j < k
    · rw [if_pos h, if_pos (by omega)]
    · rw [if_neg h, if_neg (by omega)]
theorem prodK_pad (m : Mono) (D D' : List Int) (h : ∀ j, j < 6 → dimAt D' j = dimAt D j) : ∀ k, k ≤ 6 → prodK m D' k = prodK m D k
  | 0, _ => rfl
  | k + 1, hk => by rw [prodK, prodK, prodK_pad m D D' h k (by omega), h k (by omega)]
theorem valO_pad (m : Mono) {D D' : List Int} (h : ∀ j, j < 6 → dimAt D' j = dimAt D j) : valO m D' = valO m D := by
  unfold valO
  rw [prodK_pad m D D' h 6 (Nat.le_refl _)]
  have : (List.range 6).any (zeroAt m D') = (List.range 6).any (zeroAt m D) := by
    rw [Bool.eq_iff_iff, List.any_eq_true, List.any_eq_true]
    constructor
    · rintro ⟨k, hk, hz⟩
      exact ⟨k, hk, by unfold zeroAt at hz ⊢; rwa [h k (List.mem_range.1 hk)] at hz⟩
    · rintro ⟨k, hk, hz⟩
      exact ⟨k, hk, by unfold zeroAt at hz ⊢; rwa [h k (List.mem_range.1 hk)]⟩
  rw [this]
theorem pad_all {D : List Int} (hl : D.length ≤ 6) : ∀ j, j < 6 → dimAt (padK D D.length) j = dimAt D j := fun j hj => by
  rw [padK_at D _ hj]
  split
  · rfl
  · exact (dimAt_out (by omega)).symm
theorem SixB.set {W : World} {z : Nat} {D : List Int} (h : SixB W z D) {k : Nat} (x : Int) : SixB (W.setCell ⟨z, k, none⟩ (.int .i64 x)) z (D.set k x) := by
  refine ⟨?_, by simpa using h.2⟩
  rw [heap_setCell_same W z k _ _ _ h.1]
  simp [List.map_set]
theorem SixB.frozen {W : World} {z : Nat} {D : List Int} (h : SixB W z D) (k : Nat) : W.frozen? ⟨z, k, none⟩ = false := frozen_of_row W z k _ _ h.1
theorem SixB.below {W W' : World} {z : Nat} {D : List Int} (h : SixB W z D) (hb : Below W.heap.size W W') : SixB W' z D := ⟨keepBlock h.1 hb, h.2⟩
end Go.Proofs.Ytabodlhlanolcaa
