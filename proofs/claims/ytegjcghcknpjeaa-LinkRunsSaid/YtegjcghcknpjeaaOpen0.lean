import Derived.Test.YtegjcghcknpjeaaP7
import Derived.Lib.SmallJoins
namespace Go.Proofs.Ytegjcghcknpjeaa
theorem pieceRep_one (x : Piece) : ∀ v ∈ Piece.enc x, v.oneCell' = true := by intro v hv; simp [Piece.enc] at hv; rcases hv with rfl | rfl | rfl | rfl | rfl | rfl | rfl <;> rfl
theorem RowP.sl {B : Nat} {w : World} {v : Value} {xs : List Piece} (h : RowP B w v xs) (hw : ∀ x ∈ xs, x.wf) : pieceRep.Sl w v xs := flat_own (enc := Piece.enc) (n := 7) (wf := Piece.wf) (fun _ => rfl) pieceRep_one h hw
theorem RowIns.sl {B : Nat} {w : World} {v : Value} {xs : List Ins} (h : RowIns B w v xs) (hw : ∀ x ∈ xs, x.wf) : insRep.Sl w v xs := flat_own (enc := Ins.enc) (n := 5) (wf := Ins.wf) (fun _ => rfl) insRep_one h hw
end Go.Proofs.Ytegjcghcknpjeaa
