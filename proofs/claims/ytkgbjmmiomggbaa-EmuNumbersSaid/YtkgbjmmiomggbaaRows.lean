/-
  No cell of these rows narrows 'for every input' (looked for: loops, veiled, ifaces, maps, wideKeys, modest, calm, conditions, laid).
  DERIVED. THE GIVEN ROWS OF THIS SEAT. 7 by the template 'for every input the law returns true; each argument reads behind the call as it read before'; 0 by the template 'total and deterministic' (their statements: YtkgbjmmiomggbaaTotals.lean).
  GIVEN WITH THE SEED: the statements are not yours to turn. If you find one false, say at which input.
  Laid BY PROGRAM, IN A SANDBOX (cutbox-rows.mjs): the forced cells as the released guide's own fill.sh prints them over the translation afcccf32cb0cdee9… (all of the seat's roots in one cut). By AI agents, Wed Nov 11 2026. No macro, syntax, notation, axiom, sorry.
-/
import Derived.Test.YtkgbjmmiomggbaaChecked
import GoSem.Claim
import GoSem.ClaimJoined
import GoSem.ClaimMapViews
import Derived.JoinedTies
import Derived.KernelRfl
namespace Go.Proofs.Ytkgbjmmiomggbaa
/- THE CELL 'sum', in the pinned program and in every row, IS THE sha256 OF THE DUMP (.gsa) THAT YtkgbjmmiomggbaaProg.lean LOADS. Nothing in Lean hashes anything: it is a label: what it is worth is what the hold of that sum in a sandbox is worth. -/
noncomputable def Try.pinned : Pinned := { name := "ytkgbjmmiomggbaa", sum := "afcccf32cb0cdee9ad83714d405db82fd9b38a6f0afda2b0a133fc9e3bdbaff2", checked := Try.checked }
namespace Rows
def none {H : Type} : Left H := { results := [], args := [] }

/-- 'windrowlaw17.EmuSteps': WHATEVER THE INPUT: true; the input reads as it did. -/
def emuStepsSpec : ChangeSpec := { name := "emuSteps", fn := fun _ => fun
  | [d1, d2] => { results := [.lit (.bool true)], args := [d1, d2] }
  | _ => none }
def emuStepsRow : OpenClaim := { program := "ytkgbjmmiomggbaa", sum := "afcccf32cb0cdee9ad83714d405db82fd9b38a6f0afda2b0a133fc9e3bdbaff2", func := "windrow/windrowlaw17.EmuSteps", spec := "emuSteps", unfollowed := true, recurses := true, apart := false }
def EmuStepsSaid : Prop := emuStepsRow.holds Try.pinned (OpenSpec.ofChange emuStepsSpec)

/-- ITS FALSE NEIGHBOUR: 'it returns false'. Refute it at one input. -/
def emuStepsWrong : ChangeSpec := { name := "emuSteps", fn := fun _ => fun
  | [d1, d2] => { results := [.lit (.bool false)], args := [d1, d2] }
  | _ => none }
def EmuStepsWrongFalsely : Prop := emuStepsRow.holds Try.pinned (OpenSpec.ofChange emuStepsWrong)

/-- 'windrowlaw17.EmuRuns': WHATEVER THE INPUT: true; the input reads as it did. -/
def emuRunsSpec : ChangeSpec := { name := "emuRuns", fn := fun _ => fun
  | [d1, d2, d3] => { results := [.lit (.bool true)], args := [d1, d2, d3] }
  | _ => none }
def emuRunsRow : OpenClaim := { program := "ytkgbjmmiomggbaa", sum := "afcccf32cb0cdee9ad83714d405db82fd9b38a6f0afda2b0a133fc9e3bdbaff2", func := "windrow/windrowlaw17.EmuRuns", spec := "emuRuns", unfollowed := true, recurses := true, apart := false }
def EmuRunsSaid : Prop := emuRunsRow.holds Try.pinned (OpenSpec.ofChange emuRunsSpec)

/-- ITS FALSE NEIGHBOUR: 'it returns false'. Refute it at one input. -/
def emuRunsWrong : ChangeSpec := { name := "emuRuns", fn := fun _ => fun
  | [d1, d2, d3] => { results := [.lit (.bool false)], args := [d1, d2, d3] }
  | _ => none }
def EmuRunsWrongFalsely : Prop := emuRunsRow.holds Try.pinned (OpenSpec.ofChange emuRunsWrong)

/-- 'windrowlaw17.EmuGoes': WHATEVER THE INPUT: true; the input reads as it did. -/
def emuGoesSpec : ChangeSpec := { name := "emuGoes", fn := fun _ => fun
  | [d1, d2, d3] => { results := [.lit (.bool true)], args := [d1, d2, d3] }
  | _ => none }
def emuGoesRow : OpenClaim := { program := "ytkgbjmmiomggbaa", sum := "afcccf32cb0cdee9ad83714d405db82fd9b38a6f0afda2b0a133fc9e3bdbaff2", func := "windrow/windrowlaw17.EmuGoes", spec := "emuGoes", unfollowed := true, recurses := true, apart := false }
def EmuGoesSaid : Prop := emuGoesRow.holds Try.pinned (OpenSpec.ofChange emuGoesSpec)

/-- ITS FALSE NEIGHBOUR: 'it returns false'. Refute it at one input. -/
def emuGoesWrong : ChangeSpec := { name := "emuGoes", fn := fun _ => fun
  | [d1, d2, d3] => { results := [.lit (.bool false)], args := [d1, d2, d3] }
  | _ => none }
def EmuGoesWrongFalsely : Prop := emuGoesRow.holds Try.pinned (OpenSpec.ofChange emuGoesWrong)

/-- 'windrowlaw17.EmuMore': WHATEVER THE INPUT: true; the input reads as it did. -/
def emuMoreSpec : ChangeSpec := { name := "emuMore", fn := fun _ => fun
  | [d1, d2, d3] => { results := [.lit (.bool true)], args := [d1, d2, d3] }
  | _ => none }
def emuMoreRow : OpenClaim := { program := "ytkgbjmmiomggbaa", sum := "afcccf32cb0cdee9ad83714d405db82fd9b38a6f0afda2b0a133fc9e3bdbaff2", func := "windrow/windrowlaw17.EmuMore", spec := "emuMore", unfollowed := true, recurses := true, apart := false }
def EmuMoreSaid : Prop := emuMoreRow.holds Try.pinned (OpenSpec.ofChange emuMoreSpec)

/-- ITS FALSE NEIGHBOUR: 'it returns false'. Refute it at one input. -/
def emuMoreWrong : ChangeSpec := { name := "emuMore", fn := fun _ => fun
  | [d1, d2, d3] => { results := [.lit (.bool false)], args := [d1, d2, d3] }
  | _ => none }
def EmuMoreWrongFalsely : Prop := emuMoreRow.holds Try.pinned (OpenSpec.ofChange emuMoreWrong)

/-- 'windrowlaw17.EmuNumbers': WHATEVER THE INPUT: true; the input reads as it did. -/
def emuNumbersSpec : ChangeSpec := { name := "emuNumbers", fn := fun _ => fun
  | [d1, d2] => { results := [.lit (.bool true)], args := [d1, d2] }
  | _ => none }
def emuNumbersRow : OpenClaim := { program := "ytkgbjmmiomggbaa", sum := "afcccf32cb0cdee9ad83714d405db82fd9b38a6f0afda2b0a133fc9e3bdbaff2", func := "windrow/windrowlaw17.EmuNumbers", spec := "emuNumbers", unfollowed := true, recurses := true, apart := false }
def EmuNumbersSaid : Prop := emuNumbersRow.holds Try.pinned (OpenSpec.ofChange emuNumbersSpec)

/-- ITS FALSE NEIGHBOUR: 'it returns false'. Refute it at one input. -/
def emuNumbersWrong : ChangeSpec := { name := "emuNumbers", fn := fun _ => fun
  | [d1, d2] => { results := [.lit (.bool false)], args := [d1, d2] }
  | _ => none }
def EmuNumbersWrongFalsely : Prop := emuNumbersRow.holds Try.pinned (OpenSpec.ofChange emuNumbersWrong)

/-- 'windrowlaw17.EmuEnds': WHATEVER THE INPUT: true; the input reads as it did. -/
def emuEndsSpec : ChangeSpec := { name := "emuEnds", fn := fun _ => fun
  | [d1, d2] => { results := [.lit (.bool true)], args := [d1, d2] }
  | _ => none }
def emuEndsRow : OpenClaim := { program := "ytkgbjmmiomggbaa", sum := "afcccf32cb0cdee9ad83714d405db82fd9b38a6f0afda2b0a133fc9e3bdbaff2", func := "windrow/windrowlaw17.EmuEnds", spec := "emuEnds", unfollowed := true, recurses := true, apart := false }
def EmuEndsSaid : Prop := emuEndsRow.holds Try.pinned (OpenSpec.ofChange emuEndsSpec)

/-- ITS FALSE NEIGHBOUR: 'it returns false'. Refute it at one input. -/
def emuEndsWrong : ChangeSpec := { name := "emuEnds", fn := fun _ => fun
  | [d1, d2] => { results := [.lit (.bool false)], args := [d1, d2] }
  | _ => none }
def EmuEndsWrongFalsely : Prop := emuEndsRow.holds Try.pinned (OpenSpec.ofChange emuEndsWrong)

/-- 'windrowlaw17.EmuKept': WHATEVER THE INPUT: true; the input reads as it did. -/
def emuKeptSpec : ChangeSpec := { name := "emuKept", fn := fun _ => fun
  | [d1, d2] => { results := [.lit (.bool true)], args := [d1, d2] }
  | _ => none }
def emuKeptRow : OpenClaim := { program := "ytkgbjmmiomggbaa", sum := "afcccf32cb0cdee9ad83714d405db82fd9b38a6f0afda2b0a133fc9e3bdbaff2", func := "windrow/windrowlaw17.EmuKept", spec := "emuKept", unfollowed := true, recurses := true, apart := false }
def EmuKeptSaid : Prop := emuKeptRow.holds Try.pinned (OpenSpec.ofChange emuKeptSpec)

/-- ITS FALSE NEIGHBOUR: 'it returns false'. Refute it at one input. -/
def emuKeptWrong : ChangeSpec := { name := "emuKept", fn := fun _ => fun
  | [d1, d2] => { results := [.lit (.bool false)], args := [d1, d2] }
  | _ => none }
def EmuKeptWrongFalsely : Prop := emuKeptRow.holds Try.pinned (OpenSpec.ofChange emuKeptWrong)

/- THE SECOND FORM. 'bulk': how many values and letters a reading holds, each counted each time it is reached (what is shared counts as often as it is met; a slice's spare places count too). A statement '..UptoSaid' is the law's where the arguments, and the package variables that the reading takes, are together of bulk at most 1048576: NARROWER than '..Said'. Prove '..Said' where nothing that the law and all that it calls make is longer than what came in: it says more and counts as full. Else prove '..UptoSaid'. A law counts once. -/
mutual
def uptoBulk {H : Type} : DataW H → Nat
  | .lit (.string bytes) => bytes.length + 1
  | .lit _ => 1
  | .nil => 1
  | .ptr d => uptoBulk d + 1
  | .slice elems spare => uptoBulkAll elems + uptoBulkAll spare + 1
  | .agg parts => uptoBulkAll parts + 1
  | .iface _ d => uptoBulk d + 1
  | .map entries => uptoBulkEntries entries + 1
  | .held _ => 1
def uptoBulkAll {H : Type} : List (DataW H) → Nat
  | [] => 0
  | d :: r => uptoBulk d + uptoBulkAll r
def uptoBulkEntries {H : Type} : List (Lit × DataW H) → Nat
  | [] => 0
  | x :: r => uptoBulkEntry x + uptoBulkEntries r
def uptoBulkEntry {H : Type} : Lit × DataW H → Nat
  | (.string bytes, d) => bytes.length + uptoBulk d + 1
  | (_, d) => uptoBulk d + 1
 end
def uptoSmall : (H : Type) → List (DataW H) → Bool := fun _ ds => decide (uptoBulkAll ds ≤ 1048576)
def OpenSpec.upto (s : _root_.Go.ChangeSpec) : _root_.Go.OpenSpec := { _root_.Go.OpenSpec.ofChange s with cond := some uptoSmall }

/-- 'windrowlaw17.EmuSteps', WHERE WHAT IT READS IS OF BULK AT MOST 1048576: true; the input reads as it did. -/
def emuStepsUptoRow : OpenClaim := { program := "ytkgbjmmiomggbaa", sum := "afcccf32cb0cdee9ad83714d405db82fd9b38a6f0afda2b0a133fc9e3bdbaff2", func := "windrow/windrowlaw17.EmuSteps", spec := "emuSteps", unfollowed := true, recurses := true, apart := false, narrowed := true }
def EmuStepsUptoSaid : Prop := emuStepsUptoRow.holds Try.pinned (OpenSpec.upto emuStepsSpec)

/-- 'windrowlaw17.EmuRuns', WHERE WHAT IT READS IS OF BULK AT MOST 1048576: true; the input reads as it did. -/
def emuRunsUptoRow : OpenClaim := { program := "ytkgbjmmiomggbaa", sum := "afcccf32cb0cdee9ad83714d405db82fd9b38a6f0afda2b0a133fc9e3bdbaff2", func := "windrow/windrowlaw17.EmuRuns", spec := "emuRuns", unfollowed := true, recurses := true, apart := false, narrowed := true }
def EmuRunsUptoSaid : Prop := emuRunsUptoRow.holds Try.pinned (OpenSpec.upto emuRunsSpec)

/-- 'windrowlaw17.EmuGoes', WHERE WHAT IT READS IS OF BULK AT MOST 1048576: true; the input reads as it did. -/
def emuGoesUptoRow : OpenClaim := { program := "ytkgbjmmiomggbaa", sum := "afcccf32cb0cdee9ad83714d405db82fd9b38a6f0afda2b0a133fc9e3bdbaff2", func := "windrow/windrowlaw17.EmuGoes", spec := "emuGoes", unfollowed := true, recurses := true, apart := false, narrowed := true }
def EmuGoesUptoSaid : Prop := emuGoesUptoRow.holds Try.pinned (OpenSpec.upto emuGoesSpec)

/-- 'windrowlaw17.EmuMore', WHERE WHAT IT READS IS OF BULK AT MOST 1048576: true; the input reads as it did. -/
def emuMoreUptoRow : OpenClaim := { program := "ytkgbjmmiomggbaa", sum := "afcccf32cb0cdee9ad83714d405db82fd9b38a6f0afda2b0a133fc9e3bdbaff2", func := "windrow/windrowlaw17.EmuMore", spec := "emuMore", unfollowed := true, recurses := true, apart := false, narrowed := true }
def EmuMoreUptoSaid : Prop := emuMoreUptoRow.holds Try.pinned (OpenSpec.upto emuMoreSpec)

/-- 'windrowlaw17.EmuNumbers', WHERE WHAT IT READS IS OF BULK AT MOST 1048576: true; the input reads as it did. -/
def emuNumbersUptoRow : OpenClaim := { program := "ytkgbjmmiomggbaa", sum := "afcccf32cb0cdee9ad83714d405db82fd9b38a6f0afda2b0a133fc9e3bdbaff2", func := "windrow/windrowlaw17.EmuNumbers", spec := "emuNumbers", unfollowed := true, recurses := true, apart := false, narrowed := true }
def EmuNumbersUptoSaid : Prop := emuNumbersUptoRow.holds Try.pinned (OpenSpec.upto emuNumbersSpec)

/-- 'windrowlaw17.EmuEnds', WHERE WHAT IT READS IS OF BULK AT MOST 1048576: true; the input reads as it did. -/
def emuEndsUptoRow : OpenClaim := { program := "ytkgbjmmiomggbaa", sum := "afcccf32cb0cdee9ad83714d405db82fd9b38a6f0afda2b0a133fc9e3bdbaff2", func := "windrow/windrowlaw17.EmuEnds", spec := "emuEnds", unfollowed := true, recurses := true, apart := false, narrowed := true }
def EmuEndsUptoSaid : Prop := emuEndsUptoRow.holds Try.pinned (OpenSpec.upto emuEndsSpec)

/-- 'windrowlaw17.EmuKept', WHERE WHAT IT READS IS OF BULK AT MOST 1048576: true; the input reads as it did. -/
def emuKeptUptoRow : OpenClaim := { program := "ytkgbjmmiomggbaa", sum := "afcccf32cb0cdee9ad83714d405db82fd9b38a6f0afda2b0a133fc9e3bdbaff2", func := "windrow/windrowlaw17.EmuKept", spec := "emuKept", unfollowed := true, recurses := true, apart := false, narrowed := true }
def EmuKeptUptoSaid : Prop := emuKeptUptoRow.holds Try.pinned (OpenSpec.upto emuKeptSpec)

end Rows
end Go.Proofs.Ytkgbjmmiomggbaa
