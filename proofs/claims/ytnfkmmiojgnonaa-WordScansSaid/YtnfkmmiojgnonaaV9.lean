import Derived.Test.YtnfkmmiojgnonaaV8
import Derived.Lib.SmallJoins
import Derived.DataShut
namespace Go.Proofs.Ytnfkmmiojgnonaa
open Go.RowKit

theorem in64_wf {a : Int} (h : (Lit.int .i64 a).wf = true) : In64 a := by
  have h := (Lit.wf_int_iff .i64 a).1 h
  rw [show IntKind.i64.min = -9223372036854775808 from rfl, show IntKind.i64.max = 9223372036854775807 from rfl] at h
  unfold In64
  omega
theorem drewW {w W : World} {n : Nat} (hB : Below w.heap.size w W) : Below w.heap.size w (W.drewN n) := hB.trans (Below.drewN _ _)
theorem rscans_at (W : World) (f : Int) (b : Bool) (h : scansB f = b) : Calls Try.prog 23 #[.int .u8 f] W fun e w' => e = .returned (.bool b) ∧ ∃ n, w' = W.drewN n :=
  (rscans_any W f).mono fun _ _ ⟨h1, h2⟩ => ⟨by rw [h1, h], h2⟩
theorem rtotal_at (W : World) (f : Int) (two b : Bool) (h : totalB f two = b) : Calls Try.prog 24 #[.int .u8 f, .bool two] W fun e w' => e = .returned (.bool b) ∧ ∃ n, w' = W.drewN n :=
  (rtotal_any W f two).mono fun _ _ ⟨h1, h2⟩ => ⟨by rw [h1, h], h2⟩
end Go.Proofs.Ytnfkmmiojgnonaa
