/-
  No cell of these rows narrows 'for every input' (looked for: loops, veiled, ifaces, maps, wideKeys, modest, calm, conditions, laid).
  DERIVED. THE GIVEN ROWS OF THIS SEAT. 7 by the template 'for every input the law returns true; each argument reads behind the call as it read before'; 0 by the template 'total and deterministic' (their statements: YtegjcghcknpjeaaTotals.lean).
  GIVEN WITH THE SEED: the statements are not yours to turn. If you find one false, say at which input.
  Laid BY PROGRAM, IN A SANDBOX (cutbox-rows.mjs): the forced cells as the released guide's own fill.sh prints them over the translation f0244df55491d8bb… (all of the seat's roots in one cut). By AI agents, Wed Nov 11 2026. No macro, syntax, notation, axiom, sorry.
-/
import Derived.Test.YtegjcghcknpjeaaChecked
import GoSem.Claim
import GoSem.ClaimJoined
import GoSem.ClaimMapViews
import Derived.JoinedTies
import Derived.KernelRfl
namespace Go.Proofs.Ytegjcghcknpjeaa
/- THE CELL 'sum', in the pinned program and in every row, IS THE sha256 OF THE DUMP (.gsa) THAT YtegjcghcknpjeaaProg.lean LOADS. Nothing in Lean hashes anything: it is a label: what it is worth is what the hold of that sum in a sandbox is worth. -/
noncomputable def Try.pinned : Pinned := { name := "ytegjcghcknpjeaa", sum := "f0244df55491d8bbdb539ce4d233f00b1b6778cf71fbd5c2f092a36b95b5d45f", checked := Try.checked }
namespace Rows
def none {H : Type} : Left H := { results := [], args := [] }

/-- 'windrowlaw18.LinkLinks': WHATEVER THE INPUT: true; the input reads as it did. -/
def linkLinksSpec : ChangeSpec := { name := "linkLinks", fn := fun _ => fun
  | [d] => { results := [.lit (.bool true)], args := [d] }
  | _ => none }
def linkLinksRow : OpenClaim := { program := "ytegjcghcknpjeaa", sum := "f0244df55491d8bbdb539ce4d233f00b1b6778cf71fbd5c2f092a36b95b5d45f", func := "windrow/windrowlaw18.LinkLinks", spec := "linkLinks", unfollowed := true, recurses := true, apart := false }
def LinkLinksSaid : Prop := linkLinksRow.holds Try.pinned (OpenSpec.ofChange linkLinksSpec)

/-- ITS FALSE NEIGHBOUR: 'it returns false'. Refute it at one input. -/
def linkLinksWrong : ChangeSpec := { name := "linkLinks", fn := fun _ => fun
  | [d] => { results := [.lit (.bool false)], args := [d] }
  | _ => none }
def LinkLinksWrongFalsely : Prop := linkLinksRow.holds Try.pinned (OpenSpec.ofChange linkLinksWrong)

/-- 'windrowlaw18.LinkBack': WHATEVER THE INPUT: true; the input reads as it did. -/
def linkBackSpec : ChangeSpec := { name := "linkBack", fn := fun _ => fun
  | [d] => { results := [.lit (.bool true)], args := [d] }
  | _ => none }
def linkBackRow : OpenClaim := { program := "ytegjcghcknpjeaa", sum := "f0244df55491d8bbdb539ce4d233f00b1b6778cf71fbd5c2f092a36b95b5d45f", func := "windrow/windrowlaw18.LinkBack", spec := "linkBack", unfollowed := true, recurses := true, apart := false }
def LinkBackSaid : Prop := linkBackRow.holds Try.pinned (OpenSpec.ofChange linkBackSpec)

/-- ITS FALSE NEIGHBOUR: 'it returns false'. Refute it at one input. -/
def linkBackWrong : ChangeSpec := { name := "linkBack", fn := fun _ => fun
  | [d] => { results := [.lit (.bool false)], args := [d] }
  | _ => none }
def LinkBackWrongFalsely : Prop := linkBackRow.holds Try.pinned (OpenSpec.ofChange linkBackWrong)

/-- 'windrowlaw18.LinkRight': WHATEVER THE INPUT: true; the input reads as it did. -/
def linkRightSpec : ChangeSpec := { name := "linkRight", fn := fun _ => fun
  | [d] => { results := [.lit (.bool true)], args := [d] }
  | _ => none }
def linkRightRow : OpenClaim := { program := "ytegjcghcknpjeaa", sum := "f0244df55491d8bbdb539ce4d233f00b1b6778cf71fbd5c2f092a36b95b5d45f", func := "windrow/windrowlaw18.LinkRight", spec := "linkRight", unfollowed := true, recurses := true, apart := false }
def LinkRightSaid : Prop := linkRightRow.holds Try.pinned (OpenSpec.ofChange linkRightSpec)

/-- ITS FALSE NEIGHBOUR: 'it returns false'. Refute it at one input. -/
def linkRightWrong : ChangeSpec := { name := "linkRight", fn := fun _ => fun
  | [d] => { results := [.lit (.bool false)], args := [d] }
  | _ => none }
def LinkRightWrongFalsely : Prop := linkRightRow.holds Try.pinned (OpenSpec.ofChange linkRightWrong)

/-- 'windrowlaw18.LinkUnlinks': WHATEVER THE INPUT: true; the input reads as it did. -/
def linkUnlinksSpec : ChangeSpec := { name := "linkUnlinks", fn := fun _ => fun
  | [d1, d2, d3] => { results := [.lit (.bool true)], args := [d1, d2, d3] }
  | _ => none }
def linkUnlinksRow : OpenClaim := { program := "ytegjcghcknpjeaa", sum := "f0244df55491d8bbdb539ce4d233f00b1b6778cf71fbd5c2f092a36b95b5d45f", func := "windrow/windrowlaw18.LinkUnlinks", spec := "linkUnlinks", unfollowed := true, recurses := true, apart := false }
def LinkUnlinksSaid : Prop := linkUnlinksRow.holds Try.pinned (OpenSpec.ofChange linkUnlinksSpec)

/-- ITS FALSE NEIGHBOUR: 'it returns false'. Refute it at one input. -/
def linkUnlinksWrong : ChangeSpec := { name := "linkUnlinks", fn := fun _ => fun
  | [d1, d2, d3] => { results := [.lit (.bool false)], args := [d1, d2, d3] }
  | _ => none }
def LinkUnlinksWrongFalsely : Prop := linkUnlinksRow.holds Try.pinned (OpenSpec.ofChange linkUnlinksWrong)

/-- 'windrowlaw18.LinkJoins': WHATEVER THE INPUT: true; the input reads as it did. -/
def linkJoinsSpec : ChangeSpec := { name := "linkJoins", fn := fun _ => fun
  | [d1, d2] => { results := [.lit (.bool true)], args := [d1, d2] }
  | _ => none }
def linkJoinsRow : OpenClaim := { program := "ytegjcghcknpjeaa", sum := "f0244df55491d8bbdb539ce4d233f00b1b6778cf71fbd5c2f092a36b95b5d45f", func := "windrow/windrowlaw18.LinkJoins", spec := "linkJoins", unfollowed := true, recurses := true, apart := false }
def LinkJoinsSaid : Prop := linkJoinsRow.holds Try.pinned (OpenSpec.ofChange linkJoinsSpec)

/-- ITS FALSE NEIGHBOUR: 'it returns false'. Refute it at one input. -/
def linkJoinsWrong : ChangeSpec := { name := "linkJoins", fn := fun _ => fun
  | [d1, d2] => { results := [.lit (.bool false)], args := [d1, d2] }
  | _ => none }
def LinkJoinsWrongFalsely : Prop := linkJoinsRow.holds Try.pinned (OpenSpec.ofChange linkJoinsWrong)

/-- 'windrowlaw18.LinkNew': WHATEVER THE INPUT: true; the input reads as it did. -/
def linkNewSpec : ChangeSpec := { name := "linkNew", fn := fun _ => fun
  | [d1, d2] => { results := [.lit (.bool true)], args := [d1, d2] }
  | _ => none }
def linkNewRow : OpenClaim := { program := "ytegjcghcknpjeaa", sum := "f0244df55491d8bbdb539ce4d233f00b1b6778cf71fbd5c2f092a36b95b5d45f", func := "windrow/windrowlaw18.LinkNew", spec := "linkNew", unfollowed := true, recurses := true, apart := false }
def LinkNewSaid : Prop := linkNewRow.holds Try.pinned (OpenSpec.ofChange linkNewSpec)

/-- ITS FALSE NEIGHBOUR: 'it returns false'. Refute it at one input. -/
def linkNewWrong : ChangeSpec := { name := "linkNew", fn := fun _ => fun
  | [d1, d2] => { results := [.lit (.bool false)], args := [d1, d2] }
  | _ => none }
def LinkNewWrongFalsely : Prop := linkNewRow.holds Try.pinned (OpenSpec.ofChange linkNewWrong)

/-- 'windrowlaw18.LinkRuns': WHATEVER THE INPUT: true; the input reads as it did. -/
def linkRunsSpec : ChangeSpec := { name := "linkRuns", fn := fun _ => fun
  | [d1, d2, d3] => { results := [.lit (.bool true)], args := [d1, d2, d3] }
  | _ => none }
def linkRunsRow : OpenClaim := { program := "ytegjcghcknpjeaa", sum := "f0244df55491d8bbdb539ce4d233f00b1b6778cf71fbd5c2f092a36b95b5d45f", func := "windrow/windrowlaw18.LinkRuns", spec := "linkRuns", unfollowed := true, recurses := true, apart := false }
def LinkRunsSaid : Prop := linkRunsRow.holds Try.pinned (OpenSpec.ofChange linkRunsSpec)

/-- ITS FALSE NEIGHBOUR: 'it returns false'. Refute it at one input. -/
def linkRunsWrong : ChangeSpec := { name := "linkRuns", fn := fun _ => fun
  | [d1, d2, d3] => { results := [.lit (.bool false)], args := [d1, d2, d3] }
  | _ => none }
def LinkRunsWrongFalsely : Prop := linkRunsRow.holds Try.pinned (OpenSpec.ofChange linkRunsWrong)

/- THE SECOND FORM. 'bulk': how many values and letters a reading holds, each counted each time it is reached (what is shared counts as often as it is met; a slice's spare places count too). A statement '..UptoSaid' is the law's where the arguments, and the package variables that the reading takes, are together of bulk at most 1048576: NARROWER than '..Said'. Prove '..Said' where nothing that the law and all that it calls make is longer than what came in: it says more and counts as full. Else prove '..UptoSaid'. A law counts once. -/
mutual
def uptoBulk {H : Type} : DataW H → Nat
  | .lit (.string bytes) => bytes.length + 1
  | .lit _ => 1
  | .nil => 1
  | .ptr d => uptoBulk d + 1
  | .slice elems spare => uptoBulkAll elems + uptoBulkAll spare + 1
  | .agg parts => uptoBulkAll parts + 1
  | .iface _ d => uptoBulk d + 1
  | .map entries => uptoBulkEntries entries + 1
  | .held _ => 1
def uptoBulkAll {H : Type} : List (DataW H) → Nat
  | [] => 0
  | d :: r => uptoBulk d + uptoBulkAll r
def uptoBulkEntries {H : Type} : List (Lit × DataW H) → Nat
  | [] => 0
  | x :: r => uptoBulkEntry x + uptoBulkEntries r
def uptoBulkEntry {H : Type} : Lit × DataW H → Nat
  | (.string bytes, d) => bytes.length + uptoBulk d + 1
  | (_, d) => uptoBulk d + 1
 end
def uptoSmall : (H : Type) → List (DataW H) → Bool := fun _ ds => decide (uptoBulkAll ds ≤ 1048576)
def OpenSpec.upto (s : _root_.Go.ChangeSpec) : _root_.Go.OpenSpec := { _root_.Go.OpenSpec.ofChange s with cond := some uptoSmall }

/-- 'windrowlaw18.LinkLinks', WHERE WHAT IT READS IS OF BULK AT MOST 1048576: true; the input reads as it did. -/
def linkLinksUptoRow : OpenClaim := { program := "ytegjcghcknpjeaa", sum := "f0244df55491d8bbdb539ce4d233f00b1b6778cf71fbd5c2f092a36b95b5d45f", func := "windrow/windrowlaw18.LinkLinks", spec := "linkLinks", unfollowed := true, recurses := true, apart := false, narrowed := true }
def LinkLinksUptoSaid : Prop := linkLinksUptoRow.holds Try.pinned (OpenSpec.upto linkLinksSpec)

/-- 'windrowlaw18.LinkBack', WHERE WHAT IT READS IS OF BULK AT MOST 1048576: true; the input reads as it did. -/
def linkBackUptoRow : OpenClaim := { program := "ytegjcghcknpjeaa", sum := "f0244df55491d8bbdb539ce4d233f00b1b6778cf71fbd5c2f092a36b95b5d45f", func := "windrow/windrowlaw18.LinkBack", spec := "linkBack", unfollowed := true, recurses := true, apart := false, narrowed := true }
def LinkBackUptoSaid : Prop := linkBackUptoRow.holds Try.pinned (OpenSpec.upto linkBackSpec)

/-- 'windrowlaw18.LinkRight', WHERE WHAT IT READS IS OF BULK AT MOST 1048576: true; the input reads as it did. -/
def linkRightUptoRow : OpenClaim := { program := "ytegjcghcknpjeaa", sum := "f0244df55491d8bbdb539ce4d233f00b1b6778cf71fbd5c2f092a36b95b5d45f", func := "windrow/windrowlaw18.LinkRight", spec := "linkRight", unfollowed := true, recurses := true, apart := false, narrowed := true }
def LinkRightUptoSaid : Prop := linkRightUptoRow.holds Try.pinned (OpenSpec.upto linkRightSpec)

/-- 'windrowlaw18.LinkUnlinks', WHERE WHAT IT READS IS OF BULK AT MOST 1048576: true; the input reads as it did. -/
def linkUnlinksUptoRow : OpenClaim := { program := "ytegjcghcknpjeaa", sum := "f0244df55491d8bbdb539ce4d233f00b1b6778cf71fbd5c2f092a36b95b5d45f", func := "windrow/windrowlaw18.LinkUnlinks", spec := "linkUnlinks", unfollowed := true, recurses := true, apart := false, narrowed := true }
def LinkUnlinksUptoSaid : Prop := linkUnlinksUptoRow.holds Try.pinned (OpenSpec.upto linkUnlinksSpec)

/-- 'windrowlaw18.LinkJoins', WHERE WHAT IT READS IS OF BULK AT MOST 1048576: true; the input reads as it did. -/
def linkJoinsUptoRow : OpenClaim := { program := "ytegjcghcknpjeaa", sum := "f0244df55491d8bbdb539ce4d233f00b1b6778cf71fbd5c2f092a36b95b5d45f", func := "windrow/windrowlaw18.LinkJoins", spec := "linkJoins", unfollowed := true, recurses := true, apart := false, narrowed := true }
def LinkJoinsUptoSaid : Prop := linkJoinsUptoRow.holds Try.pinned (OpenSpec.upto linkJoinsSpec)

/-- 'windrowlaw18.LinkNew', WHERE WHAT IT READS IS OF BULK AT MOST 1048576: true; the input reads as it did. -/
def linkNewUptoRow : OpenClaim := { program := "ytegjcghcknpjeaa", sum := "f0244df55491d8bbdb539ce4d233f00b1b6778cf71fbd5c2f092a36b95b5d45f", func := "windrow/windrowlaw18.LinkNew", spec := "linkNew", unfollowed := true, recurses := true, apart := false, narrowed := true }
def LinkNewUptoSaid : Prop := linkNewUptoRow.holds Try.pinned (OpenSpec.upto linkNewSpec)

/-- 'windrowlaw18.LinkRuns', WHERE WHAT IT READS IS OF BULK AT MOST 1048576: true; the input reads as it did. -/
def linkRunsUptoRow : OpenClaim := { program := "ytegjcghcknpjeaa", sum := "f0244df55491d8bbdb539ce4d233f00b1b6778cf71fbd5c2f092a36b95b5d45f", func := "windrow/windrowlaw18.LinkRuns", spec := "linkRuns", unfollowed := true, recurses := true, apart := false, narrowed := true }
def LinkRunsUptoSaid : Prop := linkRunsUptoRow.holds Try.pinned (OpenSpec.upto linkRunsSpec)

end Rows
end Go.Proofs.Ytegjcghcknpjeaa
