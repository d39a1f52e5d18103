/-
  No cell of these rows narrows 'for every input' (looked for: loops, veiled, ifaces, maps, wideKeys, modest, calm, conditions, laid).
  DERIVED. THE GIVEN ROWS OF THIS SEAT. 10 by the template 'for every input the law returns true; each argument reads behind the call as it read before'; 0 by the template 'total and deterministic' (their statements: YtmjkncmpanhgjaaTotals.lean).
  GIVEN WITH THE SEED: the statements are not yours to turn. If you find one false, say at which input.
  Laid BY PROGRAM, IN A SANDBOX (cutbox-rows.mjs): the forced cells as the released guide's own fill.sh prints them over the translation 58df19401e56fb93… (all of the seat's roots in one cut). By AI agents, Wed Nov 11 2026. No macro, syntax, notation, axiom, sorry.
-/
import Derived.Test.YtmjkncmpanhgjaaChecked
import GoSem.Claim
import GoSem.ClaimJoined
import GoSem.ClaimMapViews
import Derived.JoinedTies
import Derived.KernelRfl
namespace Go.Proofs.Ytmjkncmpanhgjaa
/- THE CELL 'sum', in the pinned program and in every row, IS THE sha256 OF THE DUMP (.gsa) THAT YtmjkncmpanhgjaaProg.lean LOADS. Nothing in Lean hashes anything: it is a label: what it is worth is what the hold of that sum in a sandbox is worth. -/
noncomputable def Try.pinned : Pinned := { name := "ytmjkncmpanhgjaa", sum := "58df19401e56fb93b478d69b13ac2826e1d6dc4e2c515bc8110353bcddb173c8", checked := Try.checked }
namespace Rows
def none {H : Type} : Left H := { results := [], args := [] }

/-- 'windrowlaw07.PrimMonads': WHATEVER THE INPUT: true; the input reads as it did. -/
def primMonadsSpec : ChangeSpec := { name := "primMonads", fn := fun _ => fun
  | [d1, d2] => { results := [.lit (.bool true)], args := [d1, d2] }
  | _ => none }
def primMonadsRow : OpenClaim := { program := "ytmjkncmpanhgjaa", sum := "58df19401e56fb93b478d69b13ac2826e1d6dc4e2c515bc8110353bcddb173c8", func := "windrow/windrowlaw07.PrimMonads", spec := "primMonads", unfollowed := true, recurses := true, apart := false }
def PrimMonadsSaid : Prop := primMonadsRow.holds Try.pinned (OpenSpec.ofChange primMonadsSpec)

/-- ITS FALSE NEIGHBOUR: 'it returns false'. Refute it at one input. -/
def primMonadsWrong : ChangeSpec := { name := "primMonads", fn := fun _ => fun
  | [d1, d2] => { results := [.lit (.bool false)], args := [d1, d2] }
  | _ => none }
def PrimMonadsWrongFalsely : Prop := primMonadsRow.holds Try.pinned (OpenSpec.ofChange primMonadsWrong)

/-- 'windrowlaw07.PrimDyads': WHATEVER THE INPUT: true; the input reads as it did. -/
def primDyadsSpec : ChangeSpec := { name := "primDyads", fn := fun _ => fun
  | [d1, d2, d3] => { results := [.lit (.bool true)], args := [d1, d2, d3] }
  | _ => none }
def primDyadsRow : OpenClaim := { program := "ytmjkncmpanhgjaa", sum := "58df19401e56fb93b478d69b13ac2826e1d6dc4e2c515bc8110353bcddb173c8", func := "windrow/windrowlaw07.PrimDyads", spec := "primDyads", unfollowed := true, recurses := true, apart := false }
def PrimDyadsSaid : Prop := primDyadsRow.holds Try.pinned (OpenSpec.ofChange primDyadsSpec)

/-- ITS FALSE NEIGHBOUR: 'it returns false'. Refute it at one input. -/
def primDyadsWrong : ChangeSpec := { name := "primDyads", fn := fun _ => fun
  | [d1, d2, d3] => { results := [.lit (.bool false)], args := [d1, d2, d3] }
  | _ => none }
def PrimDyadsWrongFalsely : Prop := primDyadsRow.holds Try.pinned (OpenSpec.ofChange primDyadsWrong)

/-- 'windrowlaw07.PrimFolds': WHATEVER THE INPUT: true; the input reads as it did. -/
def primFoldsSpec : ChangeSpec := { name := "primFolds", fn := fun _ => fun
  | [d1, d2] => { results := [.lit (.bool true)], args := [d1, d2] }
  | _ => none }
def primFoldsRow : OpenClaim := { program := "ytmjkncmpanhgjaa", sum := "58df19401e56fb93b478d69b13ac2826e1d6dc4e2c515bc8110353bcddb173c8", func := "windrow/windrowlaw07.PrimFolds", spec := "primFolds", unfollowed := true, recurses := true, apart := false }
def PrimFoldsSaid : Prop := primFoldsRow.holds Try.pinned (OpenSpec.ofChange primFoldsSpec)

/-- ITS FALSE NEIGHBOUR: 'it returns false'. Refute it at one input. -/
def primFoldsWrong : ChangeSpec := { name := "primFolds", fn := fun _ => fun
  | [d1, d2] => { results := [.lit (.bool false)], args := [d1, d2] }
  | _ => none }
def PrimFoldsWrongFalsely : Prop := primFoldsRow.holds Try.pinned (OpenSpec.ofChange primFoldsWrong)

/-- 'windrowlaw07.PrimOuters': WHATEVER THE INPUT: true; the input reads as it did. -/
def primOutersSpec : ChangeSpec := { name := "primOuters", fn := fun _ => fun
  | [d1, d2, d3] => { results := [.lit (.bool true)], args := [d1, d2, d3] }
  | _ => none }
def primOutersRow : OpenClaim := { program := "ytmjkncmpanhgjaa", sum := "58df19401e56fb93b478d69b13ac2826e1d6dc4e2c515bc8110353bcddb173c8", func := "windrow/windrowlaw07.PrimOuters", spec := "primOuters", unfollowed := true, recurses := true, apart := false }
def PrimOutersSaid : Prop := primOutersRow.holds Try.pinned (OpenSpec.ofChange primOutersSpec)

/-- ITS FALSE NEIGHBOUR: 'it returns false'. Refute it at one input. -/
def primOutersWrong : ChangeSpec := { name := "primOuters", fn := fun _ => fun
  | [d1, d2, d3] => { results := [.lit (.bool false)], args := [d1, d2, d3] }
  | _ => none }
def PrimOutersWrongFalsely : Prop := primOutersRow.holds Try.pinned (OpenSpec.ofChange primOutersWrong)

/-- 'windrowlaw07.PrimTwice': WHATEVER THE INPUT: true; the input reads as it did. -/
def primTwiceSpec : ChangeSpec := { name := "primTwice", fn := fun _ => fun
  | [d] => { results := [.lit (.bool true)], args := [d] }
  | _ => none }
def primTwiceRow : OpenClaim := { program := "ytmjkncmpanhgjaa", sum := "58df19401e56fb93b478d69b13ac2826e1d6dc4e2c515bc8110353bcddb173c8", func := "windrow/windrowlaw07.PrimTwice", spec := "primTwice", unfollowed := true, recurses := true, apart := false }
def PrimTwiceSaid : Prop := primTwiceRow.holds Try.pinned (OpenSpec.ofChange primTwiceSpec)

/-- ITS FALSE NEIGHBOUR: 'it returns false'. Refute it at one input. -/
def primTwiceWrong : ChangeSpec := { name := "primTwice", fn := fun _ => fun
  | [d] => { results := [.lit (.bool false)], args := [d] }
  | _ => none }
def PrimTwiceWrongFalsely : Prop := primTwiceRow.holds Try.pinned (OpenSpec.ofChange primTwiceWrong)

/-- 'windrowlaw07.PrimParts': WHATEVER THE INPUT: true; the input reads as it did. -/
def primPartsSpec : ChangeSpec := { name := "primParts", fn := fun _ => fun
  | [d1, d2] => { results := [.lit (.bool true)], args := [d1, d2] }
  | _ => none }
def primPartsRow : OpenClaim := { program := "ytmjkncmpanhgjaa", sum := "58df19401e56fb93b478d69b13ac2826e1d6dc4e2c515bc8110353bcddb173c8", func := "windrow/windrowlaw07.PrimParts", spec := "primParts", unfollowed := true, recurses := true, apart := false }
def PrimPartsSaid : Prop := primPartsRow.holds Try.pinned (OpenSpec.ofChange primPartsSpec)

/-- ITS FALSE NEIGHBOUR: 'it returns false'. Refute it at one input. -/
def primPartsWrong : ChangeSpec := { name := "primParts", fn := fun _ => fun
  | [d1, d2] => { results := [.lit (.bool false)], args := [d1, d2] }
  | _ => none }
def PrimPartsWrongFalsely : Prop := primPartsRow.holds Try.pinned (OpenSpec.ofChange primPartsWrong)

/-- 'windrowlaw07.PrimRavels': WHATEVER THE INPUT: true; the input reads as it did. -/
def primRavelsSpec : ChangeSpec := { name := "primRavels", fn := fun _ => fun
  | [d1, d2] => { results := [.lit (.bool true)], args := [d1, d2] }
  | _ => none }
def primRavelsRow : OpenClaim := { program := "ytmjkncmpanhgjaa", sum := "58df19401e56fb93b478d69b13ac2826e1d6dc4e2c515bc8110353bcddb173c8", func := "windrow/windrowlaw07.PrimRavels", spec := "primRavels", unfollowed := true, recurses := true, apart := false }
def PrimRavelsSaid : Prop := primRavelsRow.holds Try.pinned (OpenSpec.ofChange primRavelsSpec)

/-- ITS FALSE NEIGHBOUR: 'it returns false'. Refute it at one input. -/
def primRavelsWrong : ChangeSpec := { name := "primRavels", fn := fun _ => fun
  | [d1, d2] => { results := [.lit (.bool false)], args := [d1, d2] }
  | _ => none }
def PrimRavelsWrongFalsely : Prop := primRavelsRow.holds Try.pinned (OpenSpec.ofChange primRavelsWrong)

/-- 'windrowlaw07.PrimOuterOne': WHATEVER THE INPUT: true; the input reads as it did. -/
def primOuterOneSpec : ChangeSpec := { name := "primOuterOne", fn := fun _ => fun
  | [d1, d2, d3] => { results := [.lit (.bool true)], args := [d1, d2, d3] }
  | _ => none }
def primOuterOneRow : OpenClaim := { program := "ytmjkncmpanhgjaa", sum := "58df19401e56fb93b478d69b13ac2826e1d6dc4e2c515bc8110353bcddb173c8", func := "windrow/windrowlaw07.PrimOuterOne", spec := "primOuterOne", unfollowed := true, recurses := true, apart := false }
def PrimOuterOneSaid : Prop := primOuterOneRow.holds Try.pinned (OpenSpec.ofChange primOuterOneSpec)

/-- ITS FALSE NEIGHBOUR: 'it returns false'. Refute it at one input. -/
def primOuterOneWrong : ChangeSpec := { name := "primOuterOne", fn := fun _ => fun
  | [d1, d2, d3] => { results := [.lit (.bool false)], args := [d1, d2, d3] }
  | _ => none }
def PrimOuterOneWrongFalsely : Prop := primOuterOneRow.holds Try.pinned (OpenSpec.ofChange primOuterOneWrong)

/-- 'windrowlaw07.PrimRights': WHATEVER THE INPUT: true; the input reads as it did. -/
def primRightsSpec : ChangeSpec := { name := "primRights", fn := fun _ => fun
  | [d1, d2, d3] => { results := [.lit (.bool true)], args := [d1, d2, d3] }
  | _ => none }
def primRightsRow : OpenClaim := { program := "ytmjkncmpanhgjaa", sum := "58df19401e56fb93b478d69b13ac2826e1d6dc4e2c515bc8110353bcddb173c8", func := "windrow/windrowlaw07.PrimRights", spec := "primRights", unfollowed := true, recurses := true, apart := false }
def PrimRightsSaid : Prop := primRightsRow.holds Try.pinned (OpenSpec.ofChange primRightsSpec)

/-- ITS FALSE NEIGHBOUR: 'it returns false'. Refute it at one input. -/
def primRightsWrong : ChangeSpec := { name := "primRights", fn := fun _ => fun
  | [d1, d2, d3] => { results := [.lit (.bool false)], args := [d1, d2, d3] }
  | _ => none }
def PrimRightsWrongFalsely : Prop := primRightsRow.holds Try.pinned (OpenSpec.ofChange primRightsWrong)

/-- 'windrowlaw07.PrimPieces': WHATEVER THE INPUT: true; the input reads as it did. -/
def primPiecesSpec : ChangeSpec := { name := "primPieces", fn := fun _ => fun
  | [d1, d2, d3] => { results := [.lit (.bool true)], args := [d1, d2, d3] }
  | _ => none }
def primPiecesRow : OpenClaim := { program := "ytmjkncmpanhgjaa", sum := "58df19401e56fb93b478d69b13ac2826e1d6dc4e2c515bc8110353bcddb173c8", func := "windrow/windrowlaw07.PrimPieces", spec := "primPieces", unfollowed := true, recurses := true, apart := false }
def PrimPiecesSaid : Prop := primPiecesRow.holds Try.pinned (OpenSpec.ofChange primPiecesSpec)

/-- ITS FALSE NEIGHBOUR: 'it returns false'. Refute it at one input. -/
def primPiecesWrong : ChangeSpec := { name := "primPieces", fn := fun _ => fun
  | [d1, d2, d3] => { results := [.lit (.bool false)], args := [d1, d2, d3] }
  | _ => none }
def PrimPiecesWrongFalsely : Prop := primPiecesRow.holds Try.pinned (OpenSpec.ofChange primPiecesWrong)

/- THE SECOND FORM. 'bulk': how many values and letters a reading holds, each counted each time it is reached (what is shared counts as often as it is met; a slice's spare places count too). A statement '..UptoSaid' is the law's where the arguments, and the package variables that the reading takes, are together of bulk at most 1048576: NARROWER than '..Said'. Prove '..Said' where nothing that the law and all that it calls make is longer than what came in: it says more and counts as full. Else prove '..UptoSaid'. A law counts once. -/
mutual
def uptoBulk {H : Type} : DataW H → Nat
  | .lit (.string bytes) => bytes.length + 1
  | .lit _ => 1
  | .nil => 1
  | .ptr d => uptoBulk d + 1
  | .slice elems spare => uptoBulkAll elems + uptoBulkAll spare + 1
  | .agg parts => uptoBulkAll parts + 1
  | .iface _ d => uptoBulk d + 1
  | .map entries => uptoBulkEntries entries + 1
  | .held _ => 1
def uptoBulkAll {H : Type} : List (DataW H) → Nat
  | [] => 0
  | d :: r => uptoBulk d + uptoBulkAll r
def uptoBulkEntries {H : Type} : List (Lit × DataW H) → Nat
  | [] => 0
  | x :: r => uptoBulkEntry x + uptoBulkEntries r
def uptoBulkEntry {H : Type} : Lit × DataW H → Nat
  | (.string bytes, d) => bytes.length + uptoBulk d + 1
  | (_, d) => uptoBulk d + 1
 end
def uptoSmall : (H : Type) → List (DataW H) → Bool := fun _ ds => decide (uptoBulkAll ds ≤ 1048576)
def OpenSpec.upto (s : _root_.Go.ChangeSpec) : _root_.Go.OpenSpec := { _root_.Go.OpenSpec.ofChange s with cond := some uptoSmall }

/-- 'windrowlaw07.PrimMonads', WHERE WHAT IT READS IS OF BULK AT MOST 1048576: true; the input reads as it did. -/
def primMonadsUptoRow : OpenClaim := { program := "ytmjkncmpanhgjaa", sum := "58df19401e56fb93b478d69b13ac2826e1d6dc4e2c515bc8110353bcddb173c8", func := "windrow/windrowlaw07.PrimMonads", spec := "primMonads", unfollowed := true, recurses := true, apart := false, narrowed := true }
def PrimMonadsUptoSaid : Prop := primMonadsUptoRow.holds Try.pinned (OpenSpec.upto primMonadsSpec)

/-- 'windrowlaw07.PrimDyads', WHERE WHAT IT READS IS OF BULK AT MOST 1048576: true; the input reads as it did. -/
def primDyadsUptoRow : OpenClaim := { program := "ytmjkncmpanhgjaa", sum := "58df19401e56fb93b478d69b13ac2826e1d6dc4e2c515bc8110353bcddb173c8", func := "windrow/windrowlaw07.PrimDyads", spec := "primDyads", unfollowed := true, recurses := true, apart := false, narrowed := true }
def PrimDyadsUptoSaid : Prop := primDyadsUptoRow.holds Try.pinned (OpenSpec.upto primDyadsSpec)

/-- 'windrowlaw07.PrimFolds', WHERE WHAT IT READS IS OF BULK AT MOST 1048576: true; the input reads as it did. -/
def primFoldsUptoRow : OpenClaim := { program := "ytmjkncmpanhgjaa", sum := "58df19401e56fb93b478d69b13ac2826e1d6dc4e2c515bc8110353bcddb173c8", func := "windrow/windrowlaw07.PrimFolds", spec := "primFolds", unfollowed := true, recurses := true, apart := false, narrowed := true }
def PrimFoldsUptoSaid : Prop := primFoldsUptoRow.holds Try.pinned (OpenSpec.upto primFoldsSpec)

/-- 'windrowlaw07.PrimOuters', WHERE WHAT IT READS IS OF BULK AT MOST 1048576: true; the input reads as it did. -/
def primOutersUptoRow : OpenClaim := { program := "ytmjkncmpanhgjaa", sum := "58df19401e56fb93b478d69b13ac2826e1d6dc4e2c515bc8110353bcddb173c8", func := "windrow/windrowlaw07.PrimOuters", spec := "primOuters", unfollowed := true, recurses := true, apart := false, narrowed := true }
def PrimOutersUptoSaid : Prop := primOutersUptoRow.holds Try.pinned (OpenSpec.upto primOutersSpec)

/-- 'windrowlaw07.PrimTwice', WHERE WHAT IT READS IS OF BULK AT MOST 1048576: true; the input reads as it did. -/
def primTwiceUptoRow : OpenClaim := { program := "ytmjkncmpanhgjaa", sum := "58df19401e56fb93b478d69b13ac2826e1d6dc4e2c515bc8110353bcddb173c8", func := "windrow/windrowlaw07.PrimTwice", spec := "primTwice", unfollowed := true, recurses := true, apart := false, narrowed := true }
def PrimTwiceUptoSaid : Prop := primTwiceUptoRow.holds Try.pinned (OpenSpec.upto primTwiceSpec)

/-- 'windrowlaw07.PrimParts', WHERE WHAT IT READS IS OF BULK AT MOST 1048576: true; the input reads as it did. -/
def primPartsUptoRow : OpenClaim := { program := "ytmjkncmpanhgjaa", sum := "58df19401e56fb93b478d69b13ac2826e1d6dc4e2c515bc8110353bcddb173c8", func := "windrow/windrowlaw07.PrimParts", spec := "primParts", unfollowed := true, recurses := true, apart := false, narrowed := true }
def PrimPartsUptoSaid : Prop := primPartsUptoRow.holds Try.pinned (OpenSpec.upto primPartsSpec)

/-- 'windrowlaw07.PrimRavels', WHERE WHAT IT READS IS OF BULK AT MOST 1048576: true; the input reads as it did. -/
def primRavelsUptoRow : OpenClaim := { program := "ytmjkncmpanhgjaa", sum := "58df19401e56fb93b478d69b13ac2826e1d6dc4e2c515bc8110353bcddb173c8", func := "windrow/windrowlaw07.PrimRavels", spec := "primRavels", unfollowed := true, recurses := true, apart := false, narrowed := true }
def PrimRavelsUptoSaid : Prop := primRavelsUptoRow.holds Try.pinned (OpenSpec.upto primRavelsSpec)

/-- 'windrowlaw07.PrimOuterOne', WHERE WHAT IT READS IS OF BULK AT MOST 1048576: true; the input reads as it did. -/
def primOuterOneUptoRow : OpenClaim := { program := "ytmjkncmpanhgjaa", sum := "58df19401e56fb93b478d69b13ac2826e1d6dc4e2c515bc8110353bcddb173c8", func := "windrow/windrowlaw07.PrimOuterOne", spec := "primOuterOne", unfollowed := true, recurses := true, apart := false, narrowed := true }
def PrimOuterOneUptoSaid : Prop := primOuterOneUptoRow.holds Try.pinned (OpenSpec.upto primOuterOneSpec)

/-- 'windrowlaw07.PrimRights', WHERE WHAT IT READS IS OF BULK AT MOST 1048576: true; the input reads as it did. -/
def primRightsUptoRow : OpenClaim := { program := "ytmjkncmpanhgjaa", sum := "58df19401e56fb93b478d69b13ac2826e1d6dc4e2c515bc8110353bcddb173c8", func := "windrow/windrowlaw07.PrimRights", spec := "primRights", unfollowed := true, recurses := true, apart := false, narrowed := true }
def PrimRightsUptoSaid : Prop := primRightsUptoRow.holds Try.pinned (OpenSpec.upto primRightsSpec)

/-- 'windrowlaw07.PrimPieces', WHERE WHAT IT READS IS OF BULK AT MOST 1048576: true; the input reads as it did. -/
def primPiecesUptoRow : OpenClaim := { program := "ytmjkncmpanhgjaa", sum := "58df19401e56fb93b478d69b13ac2826e1d6dc4e2c515bc8110353bcddb173c8", func := "windrow/windrowlaw07.PrimPieces", spec := "primPieces", unfollowed := true, recurses := true, apart := false, narrowed := true }
def PrimPiecesUptoSaid : Prop := primPiecesUptoRow.holds Try.pinned (OpenSpec.upto primPiecesSpec)

end Rows
end Go.Proofs.Ytmjkncmpanhgjaa
