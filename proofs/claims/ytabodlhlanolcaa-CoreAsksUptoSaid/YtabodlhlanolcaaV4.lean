import Derived.Test.YtabodlhlanolcaaV3
namespace Go.Proofs.Ytabodlhlanolcaa
set_option maxRecDepth 100000
open Go.RowKit
set_option linter.unusedVariables false
set_option linter.unusedSimpArgs false

theorem flipC {P : Program} {f : FuncId} {args : Array Value} {w : World} {E : Ending → Prop} (h : Calls P f args w fun e w' => E e ∧ w = w') : Calls P f args w fun e w' => E e ∧ w' = w :=
  h.mono fun _ _ ⟨x, y⟩ => ⟨x, y.symm⟩

theorem fdiv_neg_one (a : Int) : a.fdiv (-1) = -a := by
  have h := fdiv_eq (a := a) (b := -1) (by omega)
  have h2 := rest_eq (a := a) (b := -1) (by omega)
  have h3 := tmod_lt (a := a) (b := -1) (by omega)
  have h4 := Int.tmod_add_mul_tdiv a (-1)
  have h5 : a.tmod (-1) = 0 := by have : (-1 : Int).natAbs = 1 := rfl; omega
  have h6 : a.fmod (-1) = a.tmod (-1) := by rw [h2, if_neg (fun h => h.1 h5)]
  rw [if_neg (fun h => h h6)] at h
  omega

theorem tmod_sign {a b : Int} (h : a.tmod b ≠ 0) : (a.tmod b < 0) = (a < 0) := by
  by_cases ha : 0 ≤ a
  · have := Int.tmod_nonneg b ha
    simp; omega
  · have h1 := Int.tmod_nonneg b (a := -a) (by omega)
    rw [Int.neg_tmod] at h1
    simp; omega

theorem floor_eq {a b : Int} (hb : b ≠ 0) : a.fdiv b = if a.tmod b ≠ 0 ∧ (decide (a < 0) ≠ decide (b < 0)) then a.tdiv b - 1 else a.tdiv b := by
  have h := fdiv_eq (a := a) hb
  have h2 := rest_eq (a := a) hb
  by_cases h0 : a.tmod b = 0
  · have h6 : a.fmod b = a.tmod b := by rw [h2, if_neg (fun h => h.1 h0)]
    rw [if_neg (fun h => h h6)] at h
    rw [if_neg (fun h => h.1 h0)]
    exact h
  · have hs := tmod_sign h0
    simp only [hs] at h2
    by_cases hc : decide (a < 0) ≠ decide (b < 0)
    · rw [if_pos ⟨h0, hc⟩] at h2 ⊢
      rw [h, if_pos (by omega)]
    · rw [if_neg (fun h => hc h.2)] at h2 ⊢
      rw [h, if_neg (fun h => h h2)]

end Go.Proofs.Ytabodlhlanolcaa
