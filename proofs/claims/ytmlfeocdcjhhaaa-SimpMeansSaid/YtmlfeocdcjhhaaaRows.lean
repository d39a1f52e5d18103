/-
  No cell of these rows narrows 'for every input' (looked for: loops, veiled, ifaces, maps, wideKeys, modest, calm, conditions, laid).
  DERIVED. THE GIVEN ROWS OF THIS SEAT. 6 by the template 'for every input the law returns true; each argument reads behind the call as it read before'; 0 by the template 'total and deterministic' (their statements: YtmlfeocdcjhhaaaTotals.lean).
  GIVEN WITH THE SEED: the statements are not yours to turn. If you find one false, say at which input.
  Laid BY PROGRAM, IN A SANDBOX (cutbox-rows.mjs): the forced cells as the released guide's own fill.sh prints them over the translation 0008056805c3101f… (all of the seat's roots in one cut). By AI agents, Wed Nov 11 2026. No macro, syntax, notation, axiom, sorry.
-/
import Derived.Test.YtmlfeocdcjhhaaaChecked
import GoSem.Claim
import GoSem.ClaimJoined
import GoSem.ClaimMapViews
import Derived.JoinedTies
import Derived.KernelRfl
namespace Go.Proofs.Ytmlfeocdcjhhaaa
/- THE CELL 'sum', in the pinned program and in every row, IS THE sha256 OF THE DUMP (.gsa) THAT YtmlfeocdcjhhaaaProg.lean LOADS. Nothing in Lean hashes anything: it is a label: what it is worth is what the hold of that sum in a sandbox is worth. -/
noncomputable def Try.pinned : Pinned := { name := "ytmlfeocdcjhhaaa", sum := "0008056805c3101fb02351c30084de16062e9112c0fb034ff3a72ef3afc785e2", checked := Try.checked }
namespace Rows
def none {H : Type} : Left H := { results := [], args := [] }

/-- 'windrowlaw13.SimpOps': WHATEVER THE INPUT: true; the input reads as it did. -/
def simpOpsSpec : ChangeSpec := { name := "simpOps", fn := fun _ => fun
  | [d] => { results := [.lit (.bool true)], args := [d] }
  | _ => none }
def simpOpsRow : OpenClaim := { program := "ytmlfeocdcjhhaaa", sum := "0008056805c3101fb02351c30084de16062e9112c0fb034ff3a72ef3afc785e2", func := "windrow/windrowlaw13.SimpOps", spec := "simpOps", inPlace := ["internal/bytealg.Compare"], unfollowed := true, recurses := true, apart := false }
def SimpOpsSaid : Prop := simpOpsRow.holds Try.pinned (OpenSpec.ofChange simpOpsSpec)

/-- ITS FALSE NEIGHBOUR: 'it returns false'. Refute it at one input. -/
def simpOpsWrong : ChangeSpec := { name := "simpOps", fn := fun _ => fun
  | [d] => { results := [.lit (.bool false)], args := [d] }
  | _ => none }
def SimpOpsWrongFalsely : Prop := simpOpsRow.holds Try.pinned (OpenSpec.ofChange simpOpsWrong)

/-- 'windrowlaw13.SimpCores': WHATEVER THE INPUT: true; the input reads as it did. -/
def simpCoresSpec : ChangeSpec := { name := "simpCores", fn := fun _ => fun
  | [d] => { results := [.lit (.bool true)], args := [d] }
  | _ => none }
def simpCoresRow : OpenClaim := { program := "ytmlfeocdcjhhaaa", sum := "0008056805c3101fb02351c30084de16062e9112c0fb034ff3a72ef3afc785e2", func := "windrow/windrowlaw13.SimpCores", spec := "simpCores", inPlace := ["internal/bytealg.Compare"], unfollowed := true, recurses := true, apart := false }
def SimpCoresSaid : Prop := simpCoresRow.holds Try.pinned (OpenSpec.ofChange simpCoresSpec)

/-- ITS FALSE NEIGHBOUR: 'it returns false'. Refute it at one input. -/
def simpCoresWrong : ChangeSpec := { name := "simpCores", fn := fun _ => fun
  | [d] => { results := [.lit (.bool false)], args := [d] }
  | _ => none }
def SimpCoresWrongFalsely : Prop := simpCoresRow.holds Try.pinned (OpenSpec.ofChange simpCoresWrong)

/-- 'windrowlaw13.SimpNew': WHATEVER THE INPUT: true; the input reads as it did. -/
def simpNewSpec : ChangeSpec := { name := "simpNew", fn := fun _ => fun
  | [d] => { results := [.lit (.bool true)], args := [d] }
  | _ => none }
def simpNewRow : OpenClaim := { program := "ytmlfeocdcjhhaaa", sum := "0008056805c3101fb02351c30084de16062e9112c0fb034ff3a72ef3afc785e2", func := "windrow/windrowlaw13.SimpNew", spec := "simpNew", inPlace := ["internal/bytealg.Compare"], unfollowed := true, recurses := true, apart := false }
def SimpNewSaid : Prop := simpNewRow.holds Try.pinned (OpenSpec.ofChange simpNewSpec)

/-- ITS FALSE NEIGHBOUR: 'it returns false'. Refute it at one input. -/
def simpNewWrong : ChangeSpec := { name := "simpNew", fn := fun _ => fun
  | [d] => { results := [.lit (.bool false)], args := [d] }
  | _ => none }
def SimpNewWrongFalsely : Prop := simpNewRow.holds Try.pinned (OpenSpec.ofChange simpNewWrong)

/-- 'windrowlaw13.SimpFewer': WHATEVER THE INPUT: true; the input reads as it did. -/
def simpFewerSpec : ChangeSpec := { name := "simpFewer", fn := fun _ => fun
  | [d] => { results := [.lit (.bool true)], args := [d] }
  | _ => none }
def simpFewerRow : OpenClaim := { program := "ytmlfeocdcjhhaaa", sum := "0008056805c3101fb02351c30084de16062e9112c0fb034ff3a72ef3afc785e2", func := "windrow/windrowlaw13.SimpFewer", spec := "simpFewer", inPlace := ["internal/bytealg.Compare"], unfollowed := true, recurses := true, apart := false }
def SimpFewerSaid : Prop := simpFewerRow.holds Try.pinned (OpenSpec.ofChange simpFewerSpec)

/-- ITS FALSE NEIGHBOUR: 'it returns false'. Refute it at one input. -/
def simpFewerWrong : ChangeSpec := { name := "simpFewer", fn := fun _ => fun
  | [d] => { results := [.lit (.bool false)], args := [d] }
  | _ => none }
def SimpFewerWrongFalsely : Prop := simpFewerRow.holds Try.pinned (OpenSpec.ofChange simpFewerWrong)

/-- 'windrowlaw13.SimpMeans': WHATEVER THE INPUT: true; the input reads as it did. -/
def simpMeansSpec : ChangeSpec := { name := "simpMeans", fn := fun _ => fun
  | [d1, d2, d3] => { results := [.lit (.bool true)], args := [d1, d2, d3] }
  | _ => none }
def simpMeansRow : OpenClaim := { program := "ytmlfeocdcjhhaaa", sum := "0008056805c3101fb02351c30084de16062e9112c0fb034ff3a72ef3afc785e2", func := "windrow/windrowlaw13.SimpMeans", spec := "simpMeans", inPlace := ["internal/bytealg.Compare"], unfollowed := true, recurses := true, apart := false }
def SimpMeansSaid : Prop := simpMeansRow.holds Try.pinned (OpenSpec.ofChange simpMeansSpec)

/-- ITS FALSE NEIGHBOUR: 'it returns false'. Refute it at one input. -/
def simpMeansWrong : ChangeSpec := { name := "simpMeans", fn := fun _ => fun
  | [d1, d2, d3] => { results := [.lit (.bool false)], args := [d1, d2, d3] }
  | _ => none }
def SimpMeansWrongFalsely : Prop := simpMeansRow.holds Try.pinned (OpenSpec.ofChange simpMeansWrong)

/-- 'windrowlaw13.SimpRuns': WHATEVER THE INPUT: true; the input reads as it did. -/
def simpRunsSpec : ChangeSpec := { name := "simpRuns", fn := fun _ => fun
  | [d] => { results := [.lit (.bool true)], args := [d] }
  | _ => none }
def simpRunsRow : OpenClaim := { program := "ytmlfeocdcjhhaaa", sum := "0008056805c3101fb02351c30084de16062e9112c0fb034ff3a72ef3afc785e2", func := "windrow/windrowlaw13.SimpRuns", spec := "simpRuns", inPlace := ["internal/bytealg.Compare"], unfollowed := true, recurses := true, apart := false }
def SimpRunsSaid : Prop := simpRunsRow.holds Try.pinned (OpenSpec.ofChange simpRunsSpec)

/-- ITS FALSE NEIGHBOUR: 'it returns false'. Refute it at one input. -/
def simpRunsWrong : ChangeSpec := { name := "simpRuns", fn := fun _ => fun
  | [d] => { results := [.lit (.bool false)], args := [d] }
  | _ => none }
def SimpRunsWrongFalsely : Prop := simpRunsRow.holds Try.pinned (OpenSpec.ofChange simpRunsWrong)

/- THE SECOND FORM. 'bulk': how many values and letters a reading holds, each counted each time it is reached (what is shared counts as often as it is met; a slice's spare places count too). A statement '..UptoSaid' is the law's where the arguments, and the package variables that the reading takes, are together of bulk at most 1048576: NARROWER than '..Said'. Prove '..Said' where nothing that the law and all that it calls make is longer than what came in: it says more and counts as full. Else prove '..UptoSaid'. A law counts once. -/
mutual
def uptoBulk {H : Type} : DataW H → Nat
  | .lit (.string bytes) => bytes.length + 1
  | .lit _ => 1
  | .nil => 1
  | .ptr d => uptoBulk d + 1
  | .slice elems spare => uptoBulkAll elems + uptoBulkAll spare + 1
  | .agg parts => uptoBulkAll parts + 1
  | .iface _ d => uptoBulk d + 1
  | .map entries => uptoBulkEntries entries + 1
  | .held _ => 1
def uptoBulkAll {H : Type} : List (DataW H) → Nat
  | [] => 0
  | d :: r => uptoBulk d + uptoBulkAll r
def uptoBulkEntries {H : Type} : List (Lit × DataW H) → Nat
  | [] => 0
  | x :: r => uptoBulkEntry x + uptoBulkEntries r
def uptoBulkEntry {H : Type} : Lit × DataW H → Nat
  | (.string bytes, d) => bytes.length + uptoBulk d + 1
  | (_, d) => uptoBulk d + 1
 end
def uptoSmall : (H : Type) → List (DataW H) → Bool := fun _ ds => decide (uptoBulkAll ds ≤ 1048576)
def OpenSpec.upto (s : _root_.Go.ChangeSpec) : _root_.Go.OpenSpec := { _root_.Go.OpenSpec.ofChange s with cond := some uptoSmall }

/-- 'windrowlaw13.SimpOps', WHERE WHAT IT READS IS OF BULK AT MOST 1048576: true; the input reads as it did. -/
def simpOpsUptoRow : OpenClaim := { program := "ytmlfeocdcjhhaaa", sum := "0008056805c3101fb02351c30084de16062e9112c0fb034ff3a72ef3afc785e2", func := "windrow/windrowlaw13.SimpOps", spec := "simpOps", inPlace := ["internal/bytealg.Compare"], unfollowed := true, recurses := true, apart := false, narrowed := true }
def SimpOpsUptoSaid : Prop := simpOpsUptoRow.holds Try.pinned (OpenSpec.upto simpOpsSpec)

/-- 'windrowlaw13.SimpCores', WHERE WHAT IT READS IS OF BULK AT MOST 1048576: true; the input reads as it did. -/
def simpCoresUptoRow : OpenClaim := { program := "ytmlfeocdcjhhaaa", sum := "0008056805c3101fb02351c30084de16062e9112c0fb034ff3a72ef3afc785e2", func := "windrow/windrowlaw13.SimpCores", spec := "simpCores", inPlace := ["internal/bytealg.Compare"], unfollowed := true, recurses := true, apart := false, narrowed := true }
def SimpCoresUptoSaid : Prop := simpCoresUptoRow.holds Try.pinned (OpenSpec.upto simpCoresSpec)

/-- 'windrowlaw13.SimpNew', WHERE WHAT IT READS IS OF BULK AT MOST 1048576: true; the input reads as it did. -/
def simpNewUptoRow : OpenClaim := { program := "ytmlfeocdcjhhaaa", sum := "0008056805c3101fb02351c30084de16062e9112c0fb034ff3a72ef3afc785e2", func := "windrow/windrowlaw13.SimpNew", spec := "simpNew", inPlace := ["internal/bytealg.Compare"], unfollowed := true, recurses := true, apart := false, narrowed := true }
def SimpNewUptoSaid : Prop := simpNewUptoRow.holds Try.pinned (OpenSpec.upto simpNewSpec)

/-- 'windrowlaw13.SimpFewer', WHERE WHAT IT READS IS OF BULK AT MOST 1048576: true; the input reads as it did. -/
def simpFewerUptoRow : OpenClaim := { program := "ytmlfeocdcjhhaaa", sum := "0008056805c3101fb02351c30084de16062e9112c0fb034ff3a72ef3afc785e2", func := "windrow/windrowlaw13.SimpFewer", spec := "simpFewer", inPlace := ["internal/bytealg.Compare"], unfollowed := true, recurses := true, apart := false, narrowed := true }
def SimpFewerUptoSaid : Prop := simpFewerUptoRow.holds Try.pinned (OpenSpec.upto simpFewerSpec)

/-- 'windrowlaw13.SimpMeans', WHERE WHAT IT READS IS OF BULK AT MOST 1048576: true; the input reads as it did. -/
def simpMeansUptoRow : OpenClaim := { program := "ytmlfeocdcjhhaaa", sum := "0008056805c3101fb02351c30084de16062e9112c0fb034ff3a72ef3afc785e2", func := "windrow/windrowlaw13.SimpMeans", spec := "simpMeans", inPlace := ["internal/bytealg.Compare"], unfollowed := true, recurses := true, apart := false, narrowed := true }
def SimpMeansUptoSaid : Prop := simpMeansUptoRow.holds Try.pinned (OpenSpec.upto simpMeansSpec)

/-- 'windrowlaw13.SimpRuns', WHERE WHAT IT READS IS OF BULK AT MOST 1048576: true; the input reads as it did. -/
def simpRunsUptoRow : OpenClaim := { program := "ytmlfeocdcjhhaaa", sum := "0008056805c3101fb02351c30084de16062e9112c0fb034ff3a72ef3afc785e2", func := "windrow/windrowlaw13.SimpRuns", spec := "simpRuns", inPlace := ["internal/bytealg.Compare"], unfollowed := true, recurses := true, apart := false, narrowed := true }
def SimpRunsUptoSaid : Prop := simpRunsUptoRow.holds Try.pinned (OpenSpec.upto simpRunsSpec)

end Rows
end Go.Proofs.Ytmlfeocdcjhhaaa
