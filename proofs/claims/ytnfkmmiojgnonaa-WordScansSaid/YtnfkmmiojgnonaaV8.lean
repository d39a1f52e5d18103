import Derived.Test.YtnfkmmiojgnonaaV7
namespace Go.Proofs.Ytnfkmmiojgnonaa
open Go.RowKit

theorem ex1 : dyadF 4 (-7) 2 = (-4, 0) := by decide +kernel
theorem ex2 : dyadF 5 (-3) 7 = (-2, 0) := by simp [dyadF, takes, refusesB, dyv]
theorem ex3 : dyadF 17 2 10 = (1024, 0) := by decide +kernel
theorem ex4 : dyadF 14 1 2 = (0, 11) := by decide +kernel
theorem ex5 : monadF 8 1 = (0, 10) := by decide +kernel
theorem ex6 : unitF 4 = (1, true) := by decide +kernel

set_option maxHeartbeats 400000 in
theorem shown_any (w : World) : Calls Try.prog 12 #[] w fun e w' => e = .returned (.bool true) ∧ ∃ n, w' = w.drewN n := by
  go_enter Try.func12, Try.ntmps12
  go_wp2_with fail
  refine (dyad_at _ _ _ _ _ _ (by unfold In64; omega) (by unfold In64; omega) ex1).mono ?_; rintro e w' ⟨rfl, n1, rfl⟩
  go_wp2_with fail
  refine (dyad_at _ _ _ _ _ _ (by unfold In64; omega) (by unfold In64; omega) ex2).mono ?_; rintro e w' ⟨rfl, n2, rfl⟩
  go_wp2_with fail
  refine (dyad_at _ _ _ _ _ _ (by unfold In64; omega) (by unfold In64; omega) ex3).mono ?_; rintro e w' ⟨rfl, n3, rfl⟩
  go_wp2_with fail
  refine (dyad_at _ _ _ _ _ _ (by unfold In64; omega) (by unfold In64; omega) ex4).mono ?_; rintro e w' ⟨rfl, n4, rfl⟩
  go_wp2_with fail
  refine (monad_at _ _ _ _ _ (by unfold In64; omega) ex5).mono ?_; rintro e w' ⟨rfl, n5, rfl⟩
  go_wp2_with fail
  refine (unit_at _ _ _ _ ex6).mono ?_; rintro e w' ⟨rfl, n6, rfl⟩
  go_wp2_with (first
    | (go_at_call 21; refine (scans_at _ 2 false rfl).mono ?_; rintro e w' ⟨rfl, n, rfl⟩)
    | (go_at_call 22; refine (total_at _ 2 true true rfl).mono ?_; rintro e w' ⟨rfl, n, rfl⟩)
    | (go_at_call 15; refine (takes_at _ 16 false true rfl).mono ?_; rintro e w' ⟨rfl, rfl⟩))
  go_ret
  exact ⟨rfl, _, rfl⟩
end Go.Proofs.Ytnfkmmiojgnonaa
