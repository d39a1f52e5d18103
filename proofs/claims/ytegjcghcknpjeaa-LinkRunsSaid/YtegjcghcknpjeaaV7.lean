import Derived.Test.YtegjcghcknpjeaaV6
namespace Go.Proofs.Ytegjcghcknpjeaa
open Go.RowKit

def ub (p : Int × Bool) : Ending := .returned (.tuple #[.int .i64 p.1, .bool p.2])
theorem ret_ub {a : Int} {b : Bool} {p : Int × Bool} (h : p = (a, b)) : Ending.returned (.tuple #[.int .i64 a, .bool b]) = ub p := by subst h; rfl

theorem unit_no {f : Int} (h : takes f true = false) : unitF f = (0, false) := by
  have : ¬ (f = 6 ∨ f = 7 ∨ f = 3 ∨ f = 4 ∨ f = 8 ∨ f = 11 ∨ f = 12 ∨ f = 14 ∨ f = 17) := by
    rintro (rfl | rfl | rfl | rfl | rfl | rfl | rfl | rfl | rfl) <;> simp [takes] at h
  unfold unitF
  rw [if_neg (by omega), if_neg (by omega), if_neg (by omega), h]
theorem eqs_no {f : Int} (h : takes f true = false) : (f == 1) = false ∧ (f == 2) = false ∧ (f == 3) = false ∧ (f == 4) = false ∧ (f == 5) = false ∧ (f == 6) = false ∧ (f == 7) = false ∧ (f == 8) = false ∧ (f == 9) = false ∧ (f == 10) = false ∧ (f == 11) = false ∧ (f == 12) = false ∧ (f == 13) = false ∧ (f == 14) = false ∧ (f == 15) = false ∧ (f == 17) = false := by
  have : ¬ (f = 1 ∨ f = 2 ∨ f = 3 ∨ f = 4 ∨ f = 5 ∨ f = 6 ∨ f = 7 ∨ f = 8 ∨ f = 9 ∨ f = 10 ∨ f = 11 ∨ f = 12 ∨ f = 13 ∨ f = 14 ∨ f = 15 ∨ f = 17) := by
    rintro (rfl | rfl | rfl | rfl | rfl | rfl | rfl | rfl | rfl | rfl | rfl | rfl | rfl | rfl | rfl | rfl) <;> simp [takes] at h
  simp
  omega

theorem eqs_scan {f : Int} (h : scansB f = false) : (f == 1) = false ∧ (f == 3) = false ∧ (f == 6) = false ∧ (f == 7) = false ∧ (f == 14) = false ∧ (f == 15) = false := by
  simp [scansB] at h; simp; omega
theorem eqs_scan1 {f : Int} (h : scansB f = true) : f = 1 ∨ f = 3 ∨ f = 6 ∨ f = 7 ∨ f = 14 ∨ f = 15 := by
  simp [scansB] at h; omega

/-- a call with known values -/
theorem dyad_at (W : World) (f a b n e0 : Int) (ha : In64 a) (hb : In64 b) (h : dyadF f a b = (n, e0)) : Calls Try.prog 47 #[.int .u8 f, .int .i64 a, .int .i64 b] W fun e w' => e = .returned (.tuple #[.int .i64 n, .int .i64 e0]) ∧ ∃ n, w' = W.drewN n :=
  (dyad_any W f a b ha hb).mono fun _ _ ⟨h1, h2⟩ => ⟨by rw [h1, h]; rfl, h2⟩
theorem monad_at (W : World) (f a n e0 : Int) (ha : In64 a) (h : monadF f a = (n, e0)) : Calls Try.prog 48 #[.int .u8 f, .int .i64 a] W fun e w' => e = .returned (.tuple #[.int .i64 n, .int .i64 e0]) ∧ ∃ n, w' = W.drewN n :=
  (monad_any W f a ha).mono fun _ _ ⟨h1, h2⟩ => ⟨by rw [h1, h]; rfl, h2⟩
end Go.Proofs.Ytegjcghcknpjeaa
