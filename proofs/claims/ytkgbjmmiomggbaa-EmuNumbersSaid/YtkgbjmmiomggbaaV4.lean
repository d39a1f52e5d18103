import Derived.Test.YtkgbjmmiomggbaaV3
namespace Go.Proofs.Ytkgbjmmiomggbaa
open Go.RowKit
set_option linter.unusedVariables false

theorem flipC {P : Program} {f : FuncId} {args : Array Value} {w : World} {E : Ending → Prop} (h : Calls P f args w fun e w' => E e ∧ w = w') : Calls P f args w fun e w' => E e ∧ w' = w :=
  h.mono fun _ _ ⟨x, y⟩ => ⟨x, y.symm⟩

theorem fdiv_neg_one (a : Int) : a.fdiv (-1) = -a := by
  have h := fdiv_eq (a := a) (b := -1) (by omega)
  have h2 := rest_eq (a := a) (b := -1) (by omega)
  have h3 := tmod_lt (a := a) (b := -1) (by omega)
  have h4 := Int.tmod_add_mul_tdiv a (-1)
  have h5 : a.tmod (-1) = 0 := by have : (-1 : Int).natAbs = 1 := rfl; omega
  have h6 : a.fmod (-1) = a.tmod (-1) := by rw [h2, if_neg (fun h => h.1 h5)]
  rw [if_neg (fun h => h h6)] at h
  omega

theorem tmod_sign {a b : Int} (h : a.tmod b ≠ 0) : (a.tmod b < 0) = (a < 0) := by
  by_cases ha : 0 ≤ a
  · have := Int.tmod_nonneg b ha
    simp; omega
  · have h1 := Int.tmod_nonneg b (a := -a) (by omega)
    rw [Int.neg_tmod] at h1
    simp; omega

theorem floor_eq {a b : Int} (hb : b ≠ 0) : a.fdiv b = if a.tmod b ≠ 0 ∧ (decide (a < 0) ≠ decide (b < 0)) then a.tdiv b - 1 else a.tdiv b := by
  have h := fdiv_eq (a := a) hb
  have h2 := rest_eq (a := a) hb
  by_cases h0 : a.tmod b = 0
  · have h6 : a.fmod b = a.tmod b := by rw [h2, if_neg (fun h => h.1 h0)]
    rw [if_neg (fun h => h h6)] at h
    rw [if_neg (fun h => h.1 h0)]
    exact h
  · have hs := tmod_sign h0
    simp only [hs] at h2
    by_cases hc : decide (a < 0) ≠ decide (b < 0)
    · rw [if_pos ⟨h0, hc⟩] at h2 ⊢
      rw [h, if_pos (by omega)]
    · rw [if_neg (fun h => hc h.2)] at h2 ⊢
      rw [h, if_neg (fun h => h h2)]

set_option maxHeartbeats 2000000 in
theorem floor_any (w : World) (a b : Int) (hb0 : ¬ b = 0) : Calls Try.prog 44 #[.int .i64 a, .int .i64 b] w fun e w' => e = .returned (.int .i64 (wrap64 (a.fdiv b))) ∧ Drew w w' := by
  by_cases h1 : b = -1
  · have Hf : Hid (-a = a.fdiv b) := by unfold Hid; rw [h1, fdiv_neg_one]
    have h1' : (b == -1) = true := by simpa using h1
    have H1 := Lib.hid h1; clear h1
    go_enter Try.func44, Try.ntmps44
    go_wp2
    go_ret
    exact ⟨ret_int (by rw [← Hf.out]), Drew.refl _⟩
  · have h1' : (b == -1) = false := by simpa using h1
    have hd := floor_eq (a := a) hb0
    by_cases h0 : a.tmod b = 0
    · have Hf : Hid (wrap64 (a.tdiv b) = wrap64 (a.fdiv b)) := by unfold Hid; rw [hd, if_neg (by simp [h0])]
      clear hd h1
      go_enter Try.func44, Try.ntmps44
      go_wp2
      all_goals
        go_ret
        exact ⟨ret_int Hf.out, Drew.refl _⟩
    · by_cases hs : decide (a < 0) = decide (b < 0)
      · have Hf : Hid (wrap64 (a.tdiv b) = wrap64 (a.fdiv b)) := by unfold Hid; rw [hd, if_neg (fun h => h.2 hs)]
        have hs2 : (!(decide (a < 0) == decide (b < 0))) = false := by simpa using hs
        have h0' : (a.tmod b != 0) = true := by simpa using h0
        clear hd h1 hs
        go_enter Try.func44, Try.ntmps44
        go_wp2
        all_goals
          go_ret
          exact ⟨ret_int Hf.out, Drew.refl _⟩
      · have Hf : Hid (wrap64 (wrap64 (a.tdiv b) - 1) = wrap64 (a.fdiv b)) := by unfold Hid; rw [hd, if_pos ⟨h0, hs⟩, wrap_sub_l]
        have hs2 : (!(decide (a < 0) == decide (b < 0))) = true := by simpa using hs
        have h0' : (a.tmod b != 0) = true := by simpa using h0
        clear hd h1 hs
        go_enter Try.func44, Try.ntmps44
        go_wp2
        all_goals
          go_ret
          exact ⟨ret_int Hf.out, Drew.refl _⟩

set_option maxHeartbeats 2000000 in
theorem residue_any (w : World) (a b : Int) (ha : In64 a) (hb : In64 b) : Calls Try.prog 45 #[.int .i64 a, .int .i64 b] w fun e w' => e = .returned (.int .i64 (if a = 0 then b else b.fmod a)) ∧ Drew w w' := by
  by_cases h0 : a = 0
  · subst h0
    clear ha hb
    go_enter Try.func45, Try.ntmps45
    go_wp2
    go_ret
    exact ⟨rfl, Drew.refl _⟩
  · have Hf : Hid (wrap64 (b - wrap64 (a * wrap64 (b.fdiv a))) = b.fmod a) := by
      unfold Hid
      rw [wrap_mul_r, wrap_sub_r]
      have := Int.fmod_add_mul_fdiv b a
      rw [show b - a * b.fdiv a = b.fmod a by omega]
      exact wrap_id (fmod_in h0 ha)
    rw [if_neg h0]
    have Hr := Lib.hid (fun W => floor_any W b a h0)
    clear ha hb
    go_enter Try.func45, Try.ntmps45
    go_wp2_with (go_at_call 44; refine (Hr.out _).mono ?_; rintro e w' ⟨rfl, n, rfl⟩)
    go_ret
    exact ⟨ret_int Hf.out, Drew.mk _ _⟩
end Go.Proofs.Ytkgbjmmiomggbaa
