import Derived.Test.YtnfkmmiojgnonaaV9
namespace Go.Proofs.Ytnfkmmiojgnonaa
open Go.RowKit

theorem dy1 (a b : Int) : dyadF 1 a b = (wrap64 (a + b), 0) := by simp [dyadF, takes, refusesB, dyv]
theorem dy2 (a b : Int) : dyadF 2 a b = (wrap64 (a - b), 0) := by simp [dyadF, takes, refusesB, dyv]
theorem dy3 (a b : Int) : dyadF 3 a b = (wrap64 (a * b), 0) := by simp [dyadF, takes, refusesB, dyv]
theorem dy4 (a b : Int) (h : b ≠ 0) : dyadF 4 a b = (wrap64 (a.fdiv b), 0) := by simp [dyadF, takes, refusesB, dyv, h]
theorem dy40 (a : Int) : dyadF 4 a 0 = (0, 11) := by simp [dyadF, takes, refusesB]
theorem dy5 (a b : Int) : dyadF 5 a b = (if a = 0 then b else b.fmod a, 0) := by simp [dyadF, takes, refusesB, dyv]
theorem dy6 (a b : Int) : dyadF 6 a b = (min a b, 0) := by simp [dyadF, takes, refusesB, dyv]
theorem dy7 (a b : Int) : dyadF 7 a b = (max a b, 0) := by simp [dyadF, takes, refusesB, dyv]
theorem dy8 (a b : Int) : dyadF 8 a b = (truthI (a == b), 0) := by simp [dyadF, takes, refusesB, dyv]
theorem dy9 (a b : Int) : dyadF 9 a b = (truthI (a != b), 0) := by simp [dyadF, takes, refusesB, dyv]
theorem dy10 (a b : Int) : dyadF 10 a b = (truthI (decide (a < b)), 0) := by simp [dyadF, takes, refusesB, dyv]
theorem dy11 (a b : Int) : dyadF 11 a b = (truthI (decide (a ≤ b)), 0) := by simp [dyadF, takes, refusesB, dyv]
theorem dy12 (a b : Int) : dyadF 12 a b = (truthI (decide (b ≤ a)), 0) := by simp [dyadF, takes, refusesB, dyv]
theorem dy13 (a b : Int) : dyadF 13 a b = (truthI (decide (b < a)), 0) := by simp [dyadF, takes, refusesB, dyv]
theorem dy17 (a b : Int) (h : 0 ≤ b) : dyadF 17 a b = (wrap64 (a ^ b.toNat), 0) := by
  have : ¬ b < 0 := by omega
  simp [dyadF, takes, refusesB, dyv, this]
theorem dy17n (a b : Int) (h : b < 0) : dyadF 17 a b = (0, 11) := by simp [dyadF, takes, refusesB, h]

theorem fmod_side {a b : Int} (hb : b ≠ 0) : (0 < b → 0 ≤ a.fmod b ∧ a.fmod b < b) ∧ (b < 0 → a.fmod b ≤ 0 ∧ b < a.fmod b) := by
  refine ⟨fun h => ⟨Int.fmod_nonneg_of_pos a h, Int.fmod_lt_of_pos a h⟩, fun hn => ?_⟩
  have hr := rest_eq (a := a) hb
  have ht := tmod_lt (a := a) hb
  rw [hr]
  split
  · rename_i hc; have := hc.2; simp at this; omega
  · rename_i hc
    by_cases h : 0 < a.tmod b
    · exact absurd ⟨by omega, by simp; omega⟩ hc
    · omega
theorem div_back {a b : Int} (hb : b ≠ 0) (ha : In64 a) : wrap64 (wrap64 (wrap64 (a.fdiv b) * b) + a.fmod b) = a := by
  rw [wrap_add_l, ]
  have h := Int.fmod_add_mul_fdiv a b
  obtain ⟨k, hk⟩ := wrap_ex (a.fdiv b)
  rw [hk]
  refine (wrap_of_ex ⟨k * b, ?_⟩).trans (wrap_id ha)
  rw [Int.add_mul, Int.mul_right_comm k, Int.mul_comm (a.fdiv b)]
  omega
end Go.Proofs.Ytnfkmmiojgnonaa
