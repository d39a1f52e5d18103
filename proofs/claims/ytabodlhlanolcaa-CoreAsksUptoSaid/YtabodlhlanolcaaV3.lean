import Derived.Test.YtabodlhlanolcaaV2
namespace Go.Proofs.Ytabodlhlanolcaa
set_option maxRecDepth 100000
open Go.RowKit

theorem bits_and_bit {a b : Int} (ha : isBit a = true) (hb : isBit b = true) : bits BinOp.and IntKind.i64 a b = a * b := by
  unfold isBit at ha hb
  simp at ha hb
  rcases ha with rfl | rfl <;> rcases hb with rfl | rfl <;> decide
theorem bits_or_bit {a b : Int} (ha : isBit a = true) (hb : isBit b = true) : bits BinOp.or IntKind.i64 a b = max a b := by
  unfold isBit at ha hb
  simp at ha hb
  rcases ha with rfl | rfl <;> rcases hb with rfl | rfl <;> decide

end Go.Proofs.Ytabodlhlanolcaa
