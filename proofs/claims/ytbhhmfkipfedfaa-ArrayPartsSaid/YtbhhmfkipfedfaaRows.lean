/-
  No cell of these rows narrows 'for every input' (looked for: loops, veiled, ifaces, maps, wideKeys, modest, calm, conditions, laid).
  DERIVED. THE GIVEN ROWS OF THIS SEAT. 6 by the template 'for every input the law returns true; each argument reads behind the call as it read before'; 0 by the template 'total and deterministic' (their statements: YtbhhmfkipfedfaaTotals.lean).
  GIVEN WITH THE SEED: the statements are not yours to turn. If you find one false, say at which input.
  Laid BY PROGRAM, IN A SANDBOX (cutbox-rows.mjs): the forced cells as the released guide's own fill.sh prints them over the translation 0081a4830137ee17… (all of the seat's roots in one cut). By AI agents, Wed Nov 11 2026. No macro, syntax, notation, axiom, sorry.
-/
import Derived.Test.YtbhhmfkipfedfaaChecked
import GoSem.Claim
import GoSem.ClaimJoined
import GoSem.ClaimMapViews
import Derived.JoinedTies
import Derived.KernelRfl
namespace Go.Proofs.Ytbhhmfkipfedfaa
/- THE CELL 'sum', in the pinned program and in every row, IS THE sha256 OF THE DUMP (.gsa) THAT YtbhhmfkipfedfaaProg.lean LOADS. Nothing in Lean hashes anything: it is a label: what it is worth is what the hold of that sum in a sandbox is worth. -/
noncomputable def Try.pinned : Pinned := { name := "ytbhhmfkipfedfaa", sum := "0081a4830137ee1769028565d49bc2551fdafa64b54b18e9e8f411d9b14d5684", checked := Try.checked }
namespace Rows
def none {H : Type} : Left H := { results := [], args := [] }

/-- 'windrowlaw06.ArraySizes': WHATEVER THE INPUT: true; the input reads as it did. -/
def arraySizesSpec : ChangeSpec := { name := "arraySizes", fn := fun _ => fun
  | [d1, d2] => { results := [.lit (.bool true)], args := [d1, d2] }
  | _ => none }
def arraySizesRow : OpenClaim := { program := "ytbhhmfkipfedfaa", sum := "0081a4830137ee1769028565d49bc2551fdafa64b54b18e9e8f411d9b14d5684", func := "windrow/windrowlaw06.ArraySizes", spec := "arraySizes", unfollowed := true, recurses := true, apart := false }
def ArraySizesSaid : Prop := arraySizesRow.holds Try.pinned (OpenSpec.ofChange arraySizesSpec)

/-- ITS FALSE NEIGHBOUR: 'it returns false'. Refute it at one input. -/
def arraySizesWrong : ChangeSpec := { name := "arraySizes", fn := fun _ => fun
  | [d1, d2] => { results := [.lit (.bool false)], args := [d1, d2] }
  | _ => none }
def ArraySizesWrongFalsely : Prop := arraySizesRow.holds Try.pinned (OpenSpec.ofChange arraySizesWrong)

/-- 'windrowlaw06.ArrayPlaces': WHATEVER THE INPUT: true; the input reads as it did. -/
def arrayPlacesSpec : ChangeSpec := { name := "arrayPlaces", fn := fun _ => fun
  | [d1, d2, d3] => { results := [.lit (.bool true)], args := [d1, d2, d3] }
  | _ => none }
def arrayPlacesRow : OpenClaim := { program := "ytbhhmfkipfedfaa", sum := "0081a4830137ee1769028565d49bc2551fdafa64b54b18e9e8f411d9b14d5684", func := "windrow/windrowlaw06.ArrayPlaces", spec := "arrayPlaces", unfollowed := true, recurses := true, apart := false }
def ArrayPlacesSaid : Prop := arrayPlacesRow.holds Try.pinned (OpenSpec.ofChange arrayPlacesSpec)

/-- ITS FALSE NEIGHBOUR: 'it returns false'. Refute it at one input. -/
def arrayPlacesWrong : ChangeSpec := { name := "arrayPlaces", fn := fun _ => fun
  | [d1, d2, d3] => { results := [.lit (.bool false)], args := [d1, d2, d3] }
  | _ => none }
def ArrayPlacesWrongFalsely : Prop := arrayPlacesRow.holds Try.pinned (OpenSpec.ofChange arrayPlacesWrong)

/-- 'windrowlaw06.ArrayBack': WHATEVER THE INPUT: true; the input reads as it did. -/
def arrayBackSpec : ChangeSpec := { name := "arrayBack", fn := fun _ => fun
  | [d1, d2, d3] => { results := [.lit (.bool true)], args := [d1, d2, d3] }
  | _ => none }
def arrayBackRow : OpenClaim := { program := "ytbhhmfkipfedfaa", sum := "0081a4830137ee1769028565d49bc2551fdafa64b54b18e9e8f411d9b14d5684", func := "windrow/windrowlaw06.ArrayBack", spec := "arrayBack", unfollowed := true, recurses := true, apart := false }
def ArrayBackSaid : Prop := arrayBackRow.holds Try.pinned (OpenSpec.ofChange arrayBackSpec)

/-- ITS FALSE NEIGHBOUR: 'it returns false'. Refute it at one input. -/
def arrayBackWrong : ChangeSpec := { name := "arrayBack", fn := fun _ => fun
  | [d1, d2, d3] => { results := [.lit (.bool false)], args := [d1, d2, d3] }
  | _ => none }
def ArrayBackWrongFalsely : Prop := arrayBackRow.holds Try.pinned (OpenSpec.ofChange arrayBackWrong)

/-- 'windrowlaw06.ArrayRises': WHATEVER THE INPUT: true; the input reads as it did. -/
def arrayRisesSpec : ChangeSpec := { name := "arrayRises", fn := fun _ => fun
  | [d1, d2, d3] => { results := [.lit (.bool true)], args := [d1, d2, d3] }
  | _ => none }
def arrayRisesRow : OpenClaim := { program := "ytbhhmfkipfedfaa", sum := "0081a4830137ee1769028565d49bc2551fdafa64b54b18e9e8f411d9b14d5684", func := "windrow/windrowlaw06.ArrayRises", spec := "arrayRises", unfollowed := true, recurses := true, apart := false }
def ArrayRisesSaid : Prop := arrayRisesRow.holds Try.pinned (OpenSpec.ofChange arrayRisesSpec)

/-- ITS FALSE NEIGHBOUR: 'it returns false'. Refute it at one input. -/
def arrayRisesWrong : ChangeSpec := { name := "arrayRises", fn := fun _ => fun
  | [d1, d2, d3] => { results := [.lit (.bool false)], args := [d1, d2, d3] }
  | _ => none }
def ArrayRisesWrongFalsely : Prop := arrayRisesRow.holds Try.pinned (OpenSpec.ofChange arrayRisesWrong)

/-- 'windrowlaw06.ArrayCells': WHATEVER THE INPUT: true; the input reads as it did. -/
def arrayCellsSpec : ChangeSpec := { name := "arrayCells", fn := fun _ => fun
  | [d1, d2] => { results := [.lit (.bool true)], args := [d1, d2] }
  | _ => none }
def arrayCellsRow : OpenClaim := { program := "ytbhhmfkipfedfaa", sum := "0081a4830137ee1769028565d49bc2551fdafa64b54b18e9e8f411d9b14d5684", func := "windrow/windrowlaw06.ArrayCells", spec := "arrayCells", unfollowed := true, recurses := true, apart := false }
def ArrayCellsSaid : Prop := arrayCellsRow.holds Try.pinned (OpenSpec.ofChange arrayCellsSpec)

/-- ITS FALSE NEIGHBOUR: 'it returns false'. Refute it at one input. -/
def arrayCellsWrong : ChangeSpec := { name := "arrayCells", fn := fun _ => fun
  | [d1, d2] => { results := [.lit (.bool false)], args := [d1, d2] }
  | _ => none }
def ArrayCellsWrongFalsely : Prop := arrayCellsRow.holds Try.pinned (OpenSpec.ofChange arrayCellsWrong)

/-- 'windrowlaw06.ArrayParts': WHATEVER THE INPUT: true; the input reads as it did. -/
def arrayPartsSpec : ChangeSpec := { name := "arrayParts", fn := fun _ => fun
  | [d] => { results := [.lit (.bool true)], args := [d] }
  | _ => none }
def arrayPartsRow : OpenClaim := { program := "ytbhhmfkipfedfaa", sum := "0081a4830137ee1769028565d49bc2551fdafa64b54b18e9e8f411d9b14d5684", func := "windrow/windrowlaw06.ArrayParts", spec := "arrayParts", unfollowed := true, recurses := true, apart := false }
def ArrayPartsSaid : Prop := arrayPartsRow.holds Try.pinned (OpenSpec.ofChange arrayPartsSpec)

/-- ITS FALSE NEIGHBOUR: 'it returns false'. Refute it at one input. -/
def arrayPartsWrong : ChangeSpec := { name := "arrayParts", fn := fun _ => fun
  | [d] => { results := [.lit (.bool false)], args := [d] }
  | _ => none }
def ArrayPartsWrongFalsely : Prop := arrayPartsRow.holds Try.pinned (OpenSpec.ofChange arrayPartsWrong)

/- THE SECOND FORM. 'bulk': how many values and letters a reading holds, each counted each time it is reached (what is shared counts as often as it is met; a slice's spare places count too). A statement '..UptoSaid' is the law's where the arguments, and the package variables that the reading takes, are together of bulk at most 1048576: NARROWER than '..Said'. Prove '..Said' where nothing that the law and all that it calls make is longer than what came in: it says more and counts as full. Else prove '..UptoSaid'. A law counts once. -/
mutual
def uptoBulk {H : Type} : DataW H → Nat
  | .lit (.string bytes) => bytes.length + 1
  | .lit _ => 1
  | .nil => 1
  | .ptr d => uptoBulk d + 1
  | .slice elems spare => uptoBulkAll elems + uptoBulkAll spare + 1
  | .agg parts => uptoBulkAll parts + 1
  | .iface _ d => uptoBulk d + 1
  | .map entries => uptoBulkEntries entries + 1
  | .held _ => 1
def uptoBulkAll {H : Type} : List (DataW H) → Nat
  | [] => 0
  | d :: r => uptoBulk d + uptoBulkAll r
def uptoBulkEntries {H : Type} : List (Lit × DataW H) → Nat
  | [] => 0
  | x :: r => uptoBulkEntry x + uptoBulkEntries r
def uptoBulkEntry {H : Type} : Lit × DataW H → Nat
  | (.string bytes, d) => bytes.length + uptoBulk d + 1
  | (_, d) => uptoBulk d + 1
 end
def uptoSmall : (H : Type) → List (DataW H) → Bool := fun _ ds => decide (uptoBulkAll ds ≤ 1048576)
def OpenSpec.upto (s : _root_.Go.ChangeSpec) : _root_.Go.OpenSpec := { _root_.Go.OpenSpec.ofChange s with cond := some uptoSmall }

/-- 'windrowlaw06.ArraySizes', WHERE WHAT IT READS IS OF BULK AT MOST 1048576: true; the input reads as it did. -/
def arraySizesUptoRow : OpenClaim := { program := "ytbhhmfkipfedfaa", sum := "0081a4830137ee1769028565d49bc2551fdafa64b54b18e9e8f411d9b14d5684", func := "windrow/windrowlaw06.ArraySizes", spec := "arraySizes", unfollowed := true, recurses := true, apart := false, narrowed := true }
def ArraySizesUptoSaid : Prop := arraySizesUptoRow.holds Try.pinned (OpenSpec.upto arraySizesSpec)

/-- 'windrowlaw06.ArrayPlaces', WHERE WHAT IT READS IS OF BULK AT MOST 1048576: true; the input reads as it did. -/
def arrayPlacesUptoRow : OpenClaim := { program := "ytbhhmfkipfedfaa", sum := "0081a4830137ee1769028565d49bc2551fdafa64b54b18e9e8f411d9b14d5684", func := "windrow/windrowlaw06.ArrayPlaces", spec := "arrayPlaces", unfollowed := true, recurses := true, apart := false, narrowed := true }
def ArrayPlacesUptoSaid : Prop := arrayPlacesUptoRow.holds Try.pinned (OpenSpec.upto arrayPlacesSpec)

/-- 'windrowlaw06.ArrayBack', WHERE WHAT IT READS IS OF BULK AT MOST 1048576: true; the input reads as it did. -/
def arrayBackUptoRow : OpenClaim := { program := "ytbhhmfkipfedfaa", sum := "0081a4830137ee1769028565d49bc2551fdafa64b54b18e9e8f411d9b14d5684", func := "windrow/windrowlaw06.ArrayBack", spec := "arrayBack", unfollowed := true, recurses := true, apart := false, narrowed := true }
def ArrayBackUptoSaid : Prop := arrayBackUptoRow.holds Try.pinned (OpenSpec.upto arrayBackSpec)

/-- 'windrowlaw06.ArrayRises', WHERE WHAT IT READS IS OF BULK AT MOST 1048576: true; the input reads as it did. -/
def arrayRisesUptoRow : OpenClaim := { program := "ytbhhmfkipfedfaa", sum := "0081a4830137ee1769028565d49bc2551fdafa64b54b18e9e8f411d9b14d5684", func := "windrow/windrowlaw06.ArrayRises", spec := "arrayRises", unfollowed := true, recurses := true, apart := false, narrowed := true }
def ArrayRisesUptoSaid : Prop := arrayRisesUptoRow.holds Try.pinned (OpenSpec.upto arrayRisesSpec)

/-- 'windrowlaw06.ArrayCells', WHERE WHAT IT READS IS OF BULK AT MOST 1048576: true; the input reads as it did. -/
def arrayCellsUptoRow : OpenClaim := { program := "ytbhhmfkipfedfaa", sum := "0081a4830137ee1769028565d49bc2551fdafa64b54b18e9e8f411d9b14d5684", func := "windrow/windrowlaw06.ArrayCells", spec := "arrayCells", unfollowed := true, recurses := true, apart := false, narrowed := true }
def ArrayCellsUptoSaid : Prop := arrayCellsUptoRow.holds Try.pinned (OpenSpec.upto arrayCellsSpec)

/-- 'windrowlaw06.ArrayParts', WHERE WHAT IT READS IS OF BULK AT MOST 1048576: true; the input reads as it did. -/
def arrayPartsUptoRow : OpenClaim := { program := "ytbhhmfkipfedfaa", sum := "0081a4830137ee1769028565d49bc2551fdafa64b54b18e9e8f411d9b14d5684", func := "windrow/windrowlaw06.ArrayParts", spec := "arrayParts", unfollowed := true, recurses := true, apart := false, narrowed := true }
def ArrayPartsUptoSaid : Prop := arrayPartsUptoRow.holds Try.pinned (OpenSpec.upto arrayPartsSpec)

end Rows
end Go.Proofs.Ytbhhmfkipfedfaa
