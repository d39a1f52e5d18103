import Derived.Test.YtabodlhlanolcaaV4
namespace Go.Proofs.Ytabodlhlanolcaa
set_option maxRecDepth 100000
open Go.RowKit

theorem takesT {f : Int} (h : takes f true = true) : f = 1 ∨ f = 2 ∨ f = 3 ∨ f = 4 ∨ f = 5 ∨ f = 6 ∨ f = 7 ∨ f = 8 ∨ f = 9 ∨ f = 10 ∨ f = 11 ∨ f = 12 ∨ f = 13 ∨ f = 14 ∨ f = 15 ∨ f = 17 := by
  have h1 := takes_in h
  have hf16 : f ≠ 16 := by rintro rfl; simp [takes] at h
  omega
theorem takesF {f : Int} (h : takes f false = true) : f = 1 ∨ f = 2 ∨ f = 3 ∨ f = 4 ∨ f = 5 ∨ f = 6 ∨ f = 7 ∨ f = 16 := by
  have h1 := takes_in h
  unfold takes at h
  rw [if_neg (by omega)] at h
  split at h
  · omega
  · simp at h; omega

theorem wrap_bits {a b : Int} (ha : isBit a = true) (hb : isBit b = true) : wrap64 (a * b) = a * b := by
  unfold isBit at ha hb
  simp at ha hb
  rcases ha with rfl | rfl <;> rcases hb with rfl | rfl <;> exact wrap_id (by unfold In64; omega)

theorem rtakes_at (W : World) (f : Int) (two b : Bool) (h : takes f two = b) : Calls Try.prog 48 #[.int .u8 f, .bool two] W fun e w' => e = .returned (.bool b) ∧ W = w' := by
  rw [← h]; exact rtakes_any W f two

end Go.Proofs.Ytabodlhlanolcaa
