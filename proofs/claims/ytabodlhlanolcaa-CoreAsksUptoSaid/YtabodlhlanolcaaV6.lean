import Derived.Test.YtabodlhlanolcaaV5
namespace Go.Proofs.Ytabodlhlanolcaa
set_option maxRecDepth 100000
open Go.RowKit

theorem takes_at (W : World) (f : Int) (two b : Bool) (h : takes f two = b) : Calls Try.prog 40 #[.int .u8 f, .bool two] W fun e w' => e = .returned (.bool b) ∧ W = w' := by
  rw [← h]; exact takes_any W f two

theorem wrap_truths (x y : Bool) : wrap64 (truthI x - truthI y) = truthI x - truthI y := by
  cases x <;> cases y <;> exact wrap_id (by unfold In64 truthI; simp)

theorem xor_bit {a : Int} (ha : isBit a = true) : bits BinOp.xor IntKind.i64 a 1 = 1 - a := by
  unfold isBit at ha
  simp at ha
  rcases ha with rfl | rfl <;> decide

end Go.Proofs.Ytabodlhlanolcaa
