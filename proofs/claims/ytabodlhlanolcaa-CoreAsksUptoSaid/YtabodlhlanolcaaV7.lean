import Derived.Test.YtabodlhlanolcaaV6
namespace Go.Proofs.Ytabodlhlanolcaa
set_option maxRecDepth 100000
open Go.RowKit

def ub (p : Int × Bool) : Ending := .returned (.tuple #[.int .i64 p.1, .bool p.2])
theorem ret_ub {a : Int} {b : Bool} {p : Int × Bool} (h : p = (a, b)) : Ending.returned (.tuple #[.int .i64 a, .bool b]) = ub p := by subst h; rfl

theorem unit_no {f : Int} (h : takes f true = false) : unitF f = (0, false) := by
  have : ¬ (f = 6 ∨ f = 7 ∨ f = 3 ∨ f = 4 ∨ f = 8 ∨ f = 11 ∨ f = 12 ∨ f = 14 ∨ f = 17) := by
    rintro (rfl | rfl | rfl | rfl | rfl | rfl | rfl | rfl | rfl) <;> simp [takes] at h
  unfold unitF
  rw [if_neg (by omega), if_neg (by omega), if_neg (by omega), h]
theorem eqs_no {f : Int} (h : takes f true = false) : (f == 1) = false ∧ (f == 2) = false ∧ (f == 3) = false ∧ (f == 4) = false ∧ (f == 5) = false ∧ (f == 6) = false ∧ (f == 7) = false ∧ (f == 8) = false ∧ (f == 9) = false ∧ (f == 10) = false ∧ (f == 11) = false ∧ (f == 12) = false ∧ (f == 13) = false ∧ (f == 14) = false ∧ (f == 15) = false ∧ (f == 17) = false := by
  have : ¬ (f = 1 ∨ f = 2 ∨ f = 3 ∨ f = 4 ∨ f = 5 ∨ f = 6 ∨ f = 7 ∨ f = 8 ∨ f = 9 ∨ f = 10 ∨ f = 11 ∨ f = 12 ∨ f = 13 ∨ f = 14 ∨ f = 15 ∨ f = 17) := by
    rintro (rfl | rfl | rfl | rfl | rfl | rfl | rfl | rfl | rfl | rfl | rfl | rfl | rfl | rfl | rfl | rfl) <;> simp [takes] at h
  simp
  omega

theorem eqs_scan {f : Int} (h : scansB f = false) : (f == 1) = false ∧ (f == 3) = false ∧ (f == 6) = false ∧ (f == 7) = false ∧ (f == 14) = false ∧ (f == 15) = false := by
  simp [scansB] at h; simp; omega
theorem eqs_scan1 {f : Int} (h : scansB f = true) : f = 1 ∨ f = 3 ∨ f = 6 ∨ f = 7 ∨ f = 14 ∨ f = 15 := by
  simp [scansB] at h; omega

set_option maxHeartbeats 2000000 in
theorem total_any (w : World) (f : Int) (two : Bool) : Calls Try.prog 20 #[.int .u8 f, .bool two] w fun e w' => e = .returned (.bool (totalB f two)) ∧ Drew w w' := by
  by_cases hs : f = 4 ∨ f = 14 ∨ f = 15 ∨ f = 17 ∨ f = 16
  · rcases hs with rfl | rfl | rfl | rfl | rfl
    all_goals
      go_enter Try.func20, Try.ntmps20
      go_wp2
      go_ret
      exact ⟨rfl, Drew.refl _⟩
  · have Hf : Hid (takes f two = totalB f two) := by unfold Hid totalB; rw [if_neg hs]
    have h4 : (f == 4) = false := by simp; omega
    have h14 : (f == 14) = false := by simp; omega
    have h15 : (f == 15) = false := by simp; omega
    have h17 : (f == 17) = false := by simp; omega
    have h16 : (f == 16) = false := by simp; omega
    clear hs
    generalize totalB f two = r at Hf
    go_enter Try.func20, Try.ntmps20
    go_wp2_with (go_at_call 40; refine (takes_at _ _ _ r Hf.out).mono ?_; rintro e w' ⟨rfl, rfl⟩)
    go_ret
    exact ⟨rfl, Drew.refl _⟩

set_option maxHeartbeats 2000000 in
theorem rtotal_any (w : World) (f : Int) (two : Bool) : Calls Try.prog 39 #[.int .u8 f, .bool two] w fun e w' => e = .returned (.bool (totalB f two)) ∧ Drew w w' := by
  by_cases hs : f = 4 ∨ f = 14 ∨ f = 15 ∨ f = 17 ∨ f = 16
  · rcases hs with rfl | rfl | rfl | rfl | rfl
    all_goals
      go_enter Try.func39, Try.ntmps39
      go_wp2
      go_ret
      exact ⟨rfl, Drew.refl _⟩
  · have Hf : Hid (takes f two = totalB f two) := by unfold Hid totalB; rw [if_neg hs]
    have h4 : (f == 4) = false := by simp; omega
    have h14 : (f == 14) = false := by simp; omega
    have h15 : (f == 15) = false := by simp; omega
    have h17 : (f == 17) = false := by simp; omega
    have h16 : (f == 16) = false := by simp; omega
    clear hs
    generalize totalB f two = r at Hf
    go_enter Try.func39, Try.ntmps39
    go_wp2_with (go_at_call 48; refine (rtakes_at _ _ _ r Hf.out).mono ?_; rintro e w' ⟨rfl, rfl⟩)
    go_ret
    exact ⟨rfl, Drew.refl _⟩

/-- a call with known values -/
theorem total_at (W : World) (f : Int) (two b : Bool) (h : totalB f two = b) : Calls Try.prog 20 #[.int .u8 f, .bool two] W fun e w' => e = .returned (.bool b) ∧ ∃ n, w' = W.drewN n :=
  (total_any W f two).mono fun _ _ ⟨h1, h2⟩ => ⟨by rw [h1, h], h2⟩
end Go.Proofs.Ytabodlhlanolcaa
