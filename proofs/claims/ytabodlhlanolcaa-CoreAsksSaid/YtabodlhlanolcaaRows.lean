/-
  No cell of these rows narrows 'for every input' (looked for: loops, veiled, ifaces, maps, wideKeys, modest, calm, conditions, laid).
  DERIVED. THE GIVEN ROWS OF THIS SEAT. 6 by the template 'for every input the law returns true; each argument reads behind the call as it read before'; 0 by the template 'total and deterministic' (their statements: YtabodlhlanolcaaTotals.lean).
  GIVEN WITH THE SEED: the statements are not yours to turn. If you find one false, say at which input.
  Laid BY PROGRAM, IN A SANDBOX (cutbox-rows.mjs): the forced cells as the released guide's own fill.sh prints them over the translation 6621e4b45f91f029… (all of the seat's roots in one cut). By AI agents, Wed Nov 11 2026. No macro, syntax, notation, axiom, sorry.
-/
import Derived.Test.YtabodlhlanolcaaChecked
import GoSem.Claim
import GoSem.ClaimJoined
import GoSem.ClaimMapViews
import Derived.JoinedTies
import Derived.KernelRfl
namespace Go.Proofs.Ytabodlhlanolcaa
/- THE CELL 'sum', in the pinned program and in every row, IS THE sha256 OF THE DUMP (.gsa) THAT YtabodlhlanolcaaProg.lean LOADS. Nothing in Lean hashes anything: it is a label: what it is worth is what the hold of that sum in a sandbox is worth. -/
noncomputable def Try.pinned : Pinned := { name := "ytabodlhlanolcaa", sum := "6621e4b45f91f02998bae90756a0167b98a541c7fffbfb3303eafeae125bd3f3", checked := Try.checked }
namespace Rows
def none {H : Type} : Left H := { results := [], args := [] }

/-- 'windrowlaw10.CoreRights': WHATEVER THE INPUT: true; the input reads as it did. -/
def coreRightsSpec : ChangeSpec := { name := "coreRights", fn := fun _ => fun
  | [d] => { results := [.lit (.bool true)], args := [d] }
  | _ => none }
def coreRightsRow : OpenClaim := { program := "ytabodlhlanolcaa", sum := "6621e4b45f91f02998bae90756a0167b98a541c7fffbfb3303eafeae125bd3f3", func := "windrow/windrowlaw10.CoreRights", spec := "coreRights", inPlace := ["internal/bytealg.Compare"], unfollowed := true, recurses := true, apart := false }
def CoreRightsSaid : Prop := coreRightsRow.holds Try.pinned (OpenSpec.ofChange coreRightsSpec)

/-- ITS FALSE NEIGHBOUR: 'it returns false'. Refute it at one input. -/
def coreRightsWrong : ChangeSpec := { name := "coreRights", fn := fun _ => fun
  | [d] => { results := [.lit (.bool false)], args := [d] }
  | _ => none }
def CoreRightsWrongFalsely : Prop := coreRightsRow.holds Try.pinned (OpenSpec.ofChange coreRightsWrong)

/-- 'windrowlaw10.CoreCells': WHATEVER THE INPUT: true; the input reads as it did. -/
def coreCellsSpec : ChangeSpec := { name := "coreCells", fn := fun _ => fun
  | [d1, d2] => { results := [.lit (.bool true)], args := [d1, d2] }
  | _ => none }
def coreCellsRow : OpenClaim := { program := "ytabodlhlanolcaa", sum := "6621e4b45f91f02998bae90756a0167b98a541c7fffbfb3303eafeae125bd3f3", func := "windrow/windrowlaw10.CoreCells", spec := "coreCells", inPlace := ["internal/bytealg.Compare"], unfollowed := true, recurses := true, apart := false }
def CoreCellsSaid : Prop := coreCellsRow.holds Try.pinned (OpenSpec.ofChange coreCellsSpec)

/-- ITS FALSE NEIGHBOUR: 'it returns false'. Refute it at one input. -/
def coreCellsWrong : ChangeSpec := { name := "coreCells", fn := fun _ => fun
  | [d1, d2] => { results := [.lit (.bool false)], args := [d1, d2] }
  | _ => none }
def CoreCellsWrongFalsely : Prop := coreCellsRow.holds Try.pinned (OpenSpec.ofChange coreCellsWrong)

/-- 'windrowlaw10.CoreCuts': WHATEVER THE INPUT: true; the input reads as it did. -/
def coreCutsSpec : ChangeSpec := { name := "coreCuts", fn := fun _ => fun
  | [d] => { results := [.lit (.bool true)], args := [d] }
  | _ => none }
def coreCutsRow : OpenClaim := { program := "ytabodlhlanolcaa", sum := "6621e4b45f91f02998bae90756a0167b98a541c7fffbfb3303eafeae125bd3f3", func := "windrow/windrowlaw10.CoreCuts", spec := "coreCuts", inPlace := ["internal/bytealg.Compare"], unfollowed := true, recurses := true, apart := false }
def CoreCutsSaid : Prop := coreCutsRow.holds Try.pinned (OpenSpec.ofChange coreCutsSpec)

/-- ITS FALSE NEIGHBOUR: 'it returns false'. Refute it at one input. -/
def coreCutsWrong : ChangeSpec := { name := "coreCuts", fn := fun _ => fun
  | [d] => { results := [.lit (.bool false)], args := [d] }
  | _ => none }
def CoreCutsWrongFalsely : Prop := coreCutsRow.holds Try.pinned (OpenSpec.ofChange coreCutsWrong)

/-- 'windrowlaw10.CoreGrows': WHATEVER THE INPUT: true; the input reads as it did. -/
def coreGrowsSpec : ChangeSpec := { name := "coreGrows", fn := fun _ => fun
  | [d1, d2, d3] => { results := [.lit (.bool true)], args := [d1, d2, d3] }
  | _ => none }
def coreGrowsRow : OpenClaim := { program := "ytabodlhlanolcaa", sum := "6621e4b45f91f02998bae90756a0167b98a541c7fffbfb3303eafeae125bd3f3", func := "windrow/windrowlaw10.CoreGrows", spec := "coreGrows", inPlace := ["internal/bytealg.Compare"], unfollowed := true, recurses := true, apart := false }
def CoreGrowsSaid : Prop := coreGrowsRow.holds Try.pinned (OpenSpec.ofChange coreGrowsSpec)

/-- ITS FALSE NEIGHBOUR: 'it returns false'. Refute it at one input. -/
def coreGrowsWrong : ChangeSpec := { name := "coreGrows", fn := fun _ => fun
  | [d1, d2, d3] => { results := [.lit (.bool false)], args := [d1, d2, d3] }
  | _ => none }
def CoreGrowsWrongFalsely : Prop := coreGrowsRow.holds Try.pinned (OpenSpec.ofChange coreGrowsWrong)

/-- 'windrowlaw10.CoreAsks': WHATEVER THE INPUT: true; the input reads as it did. -/
def coreAsksSpec : ChangeSpec := { name := "coreAsks", fn := fun _ => fun
  | [d] => { results := [.lit (.bool true)], args := [d] }
  | _ => none }
def coreAsksRow : OpenClaim := { program := "ytabodlhlanolcaa", sum := "6621e4b45f91f02998bae90756a0167b98a541c7fffbfb3303eafeae125bd3f3", func := "windrow/windrowlaw10.CoreAsks", spec := "coreAsks", inPlace := ["internal/bytealg.Compare"], unfollowed := true, recurses := true, apart := false }
def CoreAsksSaid : Prop := coreAsksRow.holds Try.pinned (OpenSpec.ofChange coreAsksSpec)

/-- ITS FALSE NEIGHBOUR: 'it returns false'. Refute it at one input. -/
def coreAsksWrong : ChangeSpec := { name := "coreAsks", fn := fun _ => fun
  | [d] => { results := [.lit (.bool false)], args := [d] }
  | _ => none }
def CoreAsksWrongFalsely : Prop := coreAsksRow.holds Try.pinned (OpenSpec.ofChange coreAsksWrong)

/-- 'windrowlaw10.CoreJoins': WHATEVER THE INPUT: true; the input reads as it did. -/
def coreJoinsSpec : ChangeSpec := { name := "coreJoins", fn := fun _ => fun
  | [d1, d2, d3] => { results := [.lit (.bool true)], args := [d1, d2, d3] }
  | _ => none }
def coreJoinsRow : OpenClaim := { program := "ytabodlhlanolcaa", sum := "6621e4b45f91f02998bae90756a0167b98a541c7fffbfb3303eafeae125bd3f3", func := "windrow/windrowlaw10.CoreJoins", spec := "coreJoins", inPlace := ["internal/bytealg.Compare"], unfollowed := true, recurses := true, apart := false }
def CoreJoinsSaid : Prop := coreJoinsRow.holds Try.pinned (OpenSpec.ofChange coreJoinsSpec)

/-- ITS FALSE NEIGHBOUR: 'it returns false'. Refute it at one input. -/
def coreJoinsWrong : ChangeSpec := { name := "coreJoins", fn := fun _ => fun
  | [d1, d2, d3] => { results := [.lit (.bool false)], args := [d1, d2, d3] }
  | _ => none }
def CoreJoinsWrongFalsely : Prop := coreJoinsRow.holds Try.pinned (OpenSpec.ofChange coreJoinsWrong)

/- THE SECOND FORM. 'bulk': how many values and letters a reading holds, each counted each time it is reached (what is shared counts as often as it is met; a slice's spare places count too). A statement '..UptoSaid' is the law's where the arguments, and the package variables that the reading takes, are together of bulk at most 1048576: NARROWER than '..Said'. Prove '..Said' where nothing that the law and all that it calls make is longer than what came in: it says more and counts as full. Else prove '..UptoSaid'. A law counts once. -/
mutual
def uptoBulk {H : Type} : DataW H → Nat
  | .lit (.string bytes) => bytes.length + 1
  | .lit _ => 1
  | .nil => 1
  | .ptr d => uptoBulk d + 1
  | .slice elems spare => uptoBulkAll elems + uptoBulkAll spare + 1
  | .agg parts => uptoBulkAll parts + 1
  | .iface _ d => uptoBulk d + 1
  | .map entries => uptoBulkEntries entries + 1
  | .held _ => 1
def uptoBulkAll {H : Type} : List (DataW H) → Nat
  | [] => 0
  | d :: r => uptoBulk d + uptoBulkAll r
def uptoBulkEntries {H : Type} : List (Lit × DataW H) → Nat
  | [] => 0
  | x :: r => uptoBulkEntry x + uptoBulkEntries r
def uptoBulkEntry {H : Type} : Lit × DataW H → Nat
  | (.string bytes, d) => bytes.length + uptoBulk d + 1
  | (_, d) => uptoBulk d + 1
 end
def uptoSmall : (H : Type) → List (DataW H) → Bool := fun _ ds => decide (uptoBulkAll ds ≤ 1048576)
def OpenSpec.upto (s : _root_.Go.ChangeSpec) : _root_.Go.OpenSpec := { _root_.Go.OpenSpec.ofChange s with cond := some uptoSmall }

/-- 'windrowlaw10.CoreRights', WHERE WHAT IT READS IS OF BULK AT MOST 1048576: true; the input reads as it did. -/
def coreRightsUptoRow : OpenClaim := { program := "ytabodlhlanolcaa", sum := "6621e4b45f91f02998bae90756a0167b98a541c7fffbfb3303eafeae125bd3f3", func := "windrow/windrowlaw10.CoreRights", spec := "coreRights", inPlace := ["internal/bytealg.Compare"], unfollowed := true, recurses := true, apart := false, narrowed := true }
def CoreRightsUptoSaid : Prop := coreRightsUptoRow.holds Try.pinned (OpenSpec.upto coreRightsSpec)

/-- 'windrowlaw10.CoreCells', WHERE WHAT IT READS IS OF BULK AT MOST 1048576: true; the input reads as it did. -/
def coreCellsUptoRow : OpenClaim := { program := "ytabodlhlanolcaa", sum := "6621e4b45f91f02998bae90756a0167b98a541c7fffbfb3303eafeae125bd3f3", func := "windrow/windrowlaw10.CoreCells", spec := "coreCells", inPlace := ["internal/bytealg.Compare"], unfollowed := true, recurses := true, apart := false, narrowed := true }
def CoreCellsUptoSaid : Prop := coreCellsUptoRow.holds Try.pinned (OpenSpec.upto coreCellsSpec)

/-- 'windrowlaw10.CoreCuts', WHERE WHAT IT READS IS OF BULK AT MOST 1048576: true; the input reads as it did. -/
def coreCutsUptoRow : OpenClaim := { program := "ytabodlhlanolcaa", sum := "6621e4b45f91f02998bae90756a0167b98a541c7fffbfb3303eafeae125bd3f3", func := "windrow/windrowlaw10.CoreCuts", spec := "coreCuts", inPlace := ["internal/bytealg.Compare"], unfollowed := true, recurses := true, apart := false, narrowed := true }
def CoreCutsUptoSaid : Prop := coreCutsUptoRow.holds Try.pinned (OpenSpec.upto coreCutsSpec)

/-- 'windrowlaw10.CoreGrows', WHERE WHAT IT READS IS OF BULK AT MOST 1048576: true; the input reads as it did. -/
def coreGrowsUptoRow : OpenClaim := { program := "ytabodlhlanolcaa", sum := "6621e4b45f91f02998bae90756a0167b98a541c7fffbfb3303eafeae125bd3f3", func := "windrow/windrowlaw10.CoreGrows", spec := "coreGrows", inPlace := ["internal/bytealg.Compare"], unfollowed := true, recurses := true, apart := false, narrowed := true }
def CoreGrowsUptoSaid : Prop := coreGrowsUptoRow.holds Try.pinned (OpenSpec.upto coreGrowsSpec)

/-- 'windrowlaw10.CoreAsks', WHERE WHAT IT READS IS OF BULK AT MOST 1048576: true; the input reads as it did. -/
def coreAsksUptoRow : OpenClaim := { program := "ytabodlhlanolcaa", sum := "6621e4b45f91f02998bae90756a0167b98a541c7fffbfb3303eafeae125bd3f3", func := "windrow/windrowlaw10.CoreAsks", spec := "coreAsks", inPlace := ["internal/bytealg.Compare"], unfollowed := true, recurses := true, apart := false, narrowed := true }
def CoreAsksUptoSaid : Prop := coreAsksUptoRow.holds Try.pinned (OpenSpec.upto coreAsksSpec)

/-- 'windrowlaw10.CoreJoins', WHERE WHAT IT READS IS OF BULK AT MOST 1048576: true; the input reads as it did. -/
def coreJoinsUptoRow : OpenClaim := { program := "ytabodlhlanolcaa", sum := "6621e4b45f91f02998bae90756a0167b98a541c7fffbfb3303eafeae125bd3f3", func := "windrow/windrowlaw10.CoreJoins", spec := "coreJoins", inPlace := ["internal/bytealg.Compare"], unfollowed := true, recurses := true, apart := false, narrowed := true }
def CoreJoinsUptoSaid : Prop := coreJoinsUptoRow.holds Try.pinned (OpenSpec.upto coreJoinsSpec)

end Rows
end Go.Proofs.Ytabodlhlanolcaa
