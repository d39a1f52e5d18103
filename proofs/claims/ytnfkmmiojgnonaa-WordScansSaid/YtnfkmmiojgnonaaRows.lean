/-
  No cell of these rows narrows 'for every input' (looked for: loops, veiled, ifaces, maps, wideKeys, modest, calm, conditions, laid).
  DERIVED. THE GIVEN ROWS OF THIS SEAT. 9 by the template 'for every input the law returns true; each argument reads behind the call as it read before'; 0 by the template 'total and deterministic' (their statements: YtnfkmmiojgnonaaTotals.lean).
  GIVEN WITH THE SEED: the statements are not yours to turn. If you find one false, say at which input.
  Laid BY PROGRAM, IN A SANDBOX (cutbox-rows.mjs): the forced cells as the released guide's own fill.sh prints them over the translation 063ced153c8b6d84… (all of the seat's roots in one cut). By AI agents, Wed Nov 11 2026. No macro, syntax, notation, axiom, sorry.
-/
import Derived.Test.YtnfkmmiojgnonaaChecked
import GoSem.Claim
import GoSem.ClaimJoined
import GoSem.ClaimMapViews
import Derived.JoinedTies
import Derived.KernelRfl
namespace Go.Proofs.Ytnfkmmiojgnonaa
/- THE CELL 'sum', in the pinned program and in every row, IS THE sha256 OF THE DUMP (.gsa) THAT YtnfkmmiojgnonaaProg.lean LOADS. Nothing in Lean hashes anything: it is a label: what it is worth is what the hold of that sum in a sandbox is worth. -/
noncomputable def Try.pinned : Pinned := { name := "ytnfkmmiojgnonaa", sum := "063ced153c8b6d84623e68ced6666893fac5128eddc5a8ecfee2ea0858c96c62", checked := Try.checked }
namespace Rows
def none {H : Type} : Left H := { results := [], args := [] }

/-- 'windrowlaw01.WordDyads': WHATEVER THE INPUT: true; the input reads as it did. -/
def wordDyadsSpec : ChangeSpec := { name := "wordDyads", fn := fun _ => fun
  | [d] => { results := [.lit (.bool true)], args := [d] }
  | _ => none }
def wordDyadsRow : OpenClaim := { program := "ytnfkmmiojgnonaa", sum := "063ced153c8b6d84623e68ced6666893fac5128eddc5a8ecfee2ea0858c96c62", func := "windrow/windrowlaw01.WordDyads", spec := "wordDyads", apart := false }
def WordDyadsSaid : Prop := wordDyadsRow.holds Try.pinned (OpenSpec.ofChange wordDyadsSpec)

/-- ITS FALSE NEIGHBOUR: 'it returns false'. Refute it at one input. -/
def wordDyadsWrong : ChangeSpec := { name := "wordDyads", fn := fun _ => fun
  | [d] => { results := [.lit (.bool false)], args := [d] }
  | _ => none }
def WordDyadsWrongFalsely : Prop := wordDyadsRow.holds Try.pinned (OpenSpec.ofChange wordDyadsWrong)

/-- 'windrowlaw01.WordMonads': WHATEVER THE INPUT: true; the input reads as it did. -/
def wordMonadsSpec : ChangeSpec := { name := "wordMonads", fn := fun _ => fun
  | [d1, d2] => { results := [.lit (.bool true)], args := [d1, d2] }
  | _ => none }
def wordMonadsRow : OpenClaim := { program := "ytnfkmmiojgnonaa", sum := "063ced153c8b6d84623e68ced6666893fac5128eddc5a8ecfee2ea0858c96c62", func := "windrow/windrowlaw01.WordMonads", spec := "wordMonads", apart := false }
def WordMonadsSaid : Prop := wordMonadsRow.holds Try.pinned (OpenSpec.ofChange wordMonadsSpec)

/-- ITS FALSE NEIGHBOUR: 'it returns false'. Refute it at one input. -/
def wordMonadsWrong : ChangeSpec := { name := "wordMonads", fn := fun _ => fun
  | [d1, d2] => { results := [.lit (.bool false)], args := [d1, d2] }
  | _ => none }
def WordMonadsWrongFalsely : Prop := wordMonadsRow.holds Try.pinned (OpenSpec.ofChange wordMonadsWrong)

/-- 'windrowlaw01.WordUnits': WHATEVER THE INPUT: true; the input reads as it did. -/
def wordUnitsSpec : ChangeSpec := { name := "wordUnits", fn := fun _ => fun
  | [d1, d2] => { results := [.lit (.bool true)], args := [d1, d2] }
  | _ => none }
def wordUnitsRow : OpenClaim := { program := "ytnfkmmiojgnonaa", sum := "063ced153c8b6d84623e68ced6666893fac5128eddc5a8ecfee2ea0858c96c62", func := "windrow/windrowlaw01.WordUnits", spec := "wordUnits", apart := false }
def WordUnitsSaid : Prop := wordUnitsRow.holds Try.pinned (OpenSpec.ofChange wordUnitsSpec)

/-- ITS FALSE NEIGHBOUR: 'it returns false'. Refute it at one input. -/
def wordUnitsWrong : ChangeSpec := { name := "wordUnits", fn := fun _ => fun
  | [d1, d2] => { results := [.lit (.bool false)], args := [d1, d2] }
  | _ => none }
def WordUnitsWrongFalsely : Prop := wordUnitsRow.holds Try.pinned (OpenSpec.ofChange wordUnitsWrong)

/-- 'windrowlaw01.WordRing': WHATEVER THE INPUT: true; the input reads as it did. -/
def wordRingSpec : ChangeSpec := { name := "wordRing", fn := fun _ => fun
  | [d1, d2, d3] => { results := [.lit (.bool true)], args := [d1, d2, d3] }
  | _ => none }
def wordRingRow : OpenClaim := { program := "ytnfkmmiojgnonaa", sum := "063ced153c8b6d84623e68ced6666893fac5128eddc5a8ecfee2ea0858c96c62", func := "windrow/windrowlaw01.WordRing", spec := "wordRing", apart := false }
def WordRingSaid : Prop := wordRingRow.holds Try.pinned (OpenSpec.ofChange wordRingSpec)

/-- ITS FALSE NEIGHBOUR: 'it returns false'. Refute it at one input. -/
def wordRingWrong : ChangeSpec := { name := "wordRing", fn := fun _ => fun
  | [d1, d2, d3] => { results := [.lit (.bool false)], args := [d1, d2, d3] }
  | _ => none }
def WordRingWrongFalsely : Prop := wordRingRow.holds Try.pinned (OpenSpec.ofChange wordRingWrong)

/-- 'windrowlaw01.WordDivides': WHATEVER THE INPUT: true; the input reads as it did. -/
def wordDividesSpec : ChangeSpec := { name := "wordDivides", fn := fun _ => fun
  | [d1, d2] => { results := [.lit (.bool true)], args := [d1, d2] }
  | _ => none }
def wordDividesRow : OpenClaim := { program := "ytnfkmmiojgnonaa", sum := "063ced153c8b6d84623e68ced6666893fac5128eddc5a8ecfee2ea0858c96c62", func := "windrow/windrowlaw01.WordDivides", spec := "wordDivides", apart := false }
def WordDividesSaid : Prop := wordDividesRow.holds Try.pinned (OpenSpec.ofChange wordDividesSpec)

/-- ITS FALSE NEIGHBOUR: 'it returns false'. Refute it at one input. -/
def wordDividesWrong : ChangeSpec := { name := "wordDivides", fn := fun _ => fun
  | [d1, d2] => { results := [.lit (.bool false)], args := [d1, d2] }
  | _ => none }
def WordDividesWrongFalsely : Prop := wordDividesRow.holds Try.pinned (OpenSpec.ofChange wordDividesWrong)

/-- 'windrowlaw01.WordOrder': WHATEVER THE INPUT: true; the input reads as it did. -/
def wordOrderSpec : ChangeSpec := { name := "wordOrder", fn := fun _ => fun
  | [d1, d2] => { results := [.lit (.bool true)], args := [d1, d2] }
  | _ => none }
def wordOrderRow : OpenClaim := { program := "ytnfkmmiojgnonaa", sum := "063ced153c8b6d84623e68ced6666893fac5128eddc5a8ecfee2ea0858c96c62", func := "windrow/windrowlaw01.WordOrder", spec := "wordOrder", apart := false }
def WordOrderSaid : Prop := wordOrderRow.holds Try.pinned (OpenSpec.ofChange wordOrderSpec)

/-- ITS FALSE NEIGHBOUR: 'it returns false'. Refute it at one input. -/
def wordOrderWrong : ChangeSpec := { name := "wordOrder", fn := fun _ => fun
  | [d1, d2] => { results := [.lit (.bool false)], args := [d1, d2] }
  | _ => none }
def WordOrderWrongFalsely : Prop := wordOrderRow.holds Try.pinned (OpenSpec.ofChange wordOrderWrong)

/-- 'windrowlaw01.WordPowers': WHATEVER THE INPUT: true; the input reads as it did. -/
def wordPowersSpec : ChangeSpec := { name := "wordPowers", fn := fun _ => fun
  | [d1, d2] => { results := [.lit (.bool true)], args := [d1, d2] }
  | _ => none }
def wordPowersRow : OpenClaim := { program := "ytnfkmmiojgnonaa", sum := "063ced153c8b6d84623e68ced6666893fac5128eddc5a8ecfee2ea0858c96c62", func := "windrow/windrowlaw01.WordPowers", spec := "wordPowers", apart := false }
def WordPowersSaid : Prop := wordPowersRow.holds Try.pinned (OpenSpec.ofChange wordPowersSpec)

/-- ITS FALSE NEIGHBOUR: 'it returns false'. Refute it at one input. -/
def wordPowersWrong : ChangeSpec := { name := "wordPowers", fn := fun _ => fun
  | [d1, d2] => { results := [.lit (.bool false)], args := [d1, d2] }
  | _ => none }
def WordPowersWrongFalsely : Prop := wordPowersRow.holds Try.pinned (OpenSpec.ofChange wordPowersWrong)

/-- 'windrowlaw01.WordScans': WHATEVER THE INPUT: true; the input reads as it did. -/
def wordScansSpec : ChangeSpec := { name := "wordScans", fn := fun _ => fun
  | [d1, d2] => { results := [.lit (.bool true)], args := [d1, d2] }
  | _ => none }
def wordScansRow : OpenClaim := { program := "ytnfkmmiojgnonaa", sum := "063ced153c8b6d84623e68ced6666893fac5128eddc5a8ecfee2ea0858c96c62", func := "windrow/windrowlaw01.WordScans", spec := "wordScans", apart := false }
def WordScansSaid : Prop := wordScansRow.holds Try.pinned (OpenSpec.ofChange wordScansSpec)

/-- ITS FALSE NEIGHBOUR: 'it returns false'. Refute it at one input. -/
def wordScansWrong : ChangeSpec := { name := "wordScans", fn := fun _ => fun
  | [d1, d2] => { results := [.lit (.bool false)], args := [d1, d2] }
  | _ => none }
def WordScansWrongFalsely : Prop := wordScansRow.holds Try.pinned (OpenSpec.ofChange wordScansWrong)

/-- 'windrowlaw01.WordTotals': WHATEVER THE INPUT: true; the input reads as it did. -/
def wordTotalsSpec : ChangeSpec := { name := "wordTotals", fn := fun _ => fun
  | [d] => { results := [.lit (.bool true)], args := [d] }
  | _ => none }
def wordTotalsRow : OpenClaim := { program := "ytnfkmmiojgnonaa", sum := "063ced153c8b6d84623e68ced6666893fac5128eddc5a8ecfee2ea0858c96c62", func := "windrow/windrowlaw01.WordTotals", spec := "wordTotals", apart := false }
def WordTotalsSaid : Prop := wordTotalsRow.holds Try.pinned (OpenSpec.ofChange wordTotalsSpec)

/-- ITS FALSE NEIGHBOUR: 'it returns false'. Refute it at one input. -/
def wordTotalsWrong : ChangeSpec := { name := "wordTotals", fn := fun _ => fun
  | [d] => { results := [.lit (.bool false)], args := [d] }
  | _ => none }
def WordTotalsWrongFalsely : Prop := wordTotalsRow.holds Try.pinned (OpenSpec.ofChange wordTotalsWrong)

/- THE SECOND FORM. 'bulk': how many values and letters a reading holds, each counted each time it is reached (what is shared counts as often as it is met; a slice's spare places count too). A statement '..UptoSaid' is the law's where the arguments, and the package variables that the reading takes, are together of bulk at most 1048576: NARROWER than '..Said'. Prove '..Said' where nothing that the law and all that it calls make is longer than what came in: it says more and counts as full. Else prove '..UptoSaid'. A law counts once. -/
mutual
def uptoBulk {H : Type} : DataW H → Nat
  | .lit (.string bytes) => bytes.length + 1
  | .lit _ => 1
  | .nil => 1
  | .ptr d => uptoBulk d + 1
  | .slice elems spare => uptoBulkAll elems + uptoBulkAll spare + 1
  | .agg parts => uptoBulkAll parts + 1
  | .iface _ d => uptoBulk d + 1
  | .map entries => uptoBulkEntries entries + 1
  | .held _ => 1
def uptoBulkAll {H : Type} : List (DataW H) → Nat
  | [] => 0
  | d :: r => uptoBulk d + uptoBulkAll r
def uptoBulkEntries {H : Type} : List (Lit × DataW H) → Nat
  | [] => 0
  | x :: r => uptoBulkEntry x + uptoBulkEntries r
def uptoBulkEntry {H : Type} : Lit × DataW H → Nat
  | (.string bytes, d) => bytes.length + uptoBulk d + 1
  | (_, d) => uptoBulk d + 1
 end
def uptoSmall : (H : Type) → List (DataW H) → Bool := fun _ ds => decide (uptoBulkAll ds ≤ 1048576)
def OpenSpec.upto (s : _root_.Go.ChangeSpec) : _root_.Go.OpenSpec := { _root_.Go.OpenSpec.ofChange s with cond := some uptoSmall }

/-- 'windrowlaw01.WordDyads', WHERE WHAT IT READS IS OF BULK AT MOST 1048576: true; the input reads as it did. -/
def wordDyadsUptoRow : OpenClaim := { program := "ytnfkmmiojgnonaa", sum := "063ced153c8b6d84623e68ced6666893fac5128eddc5a8ecfee2ea0858c96c62", func := "windrow/windrowlaw01.WordDyads", spec := "wordDyads", apart := false, narrowed := true }
def WordDyadsUptoSaid : Prop := wordDyadsUptoRow.holds Try.pinned (OpenSpec.upto wordDyadsSpec)

/-- 'windrowlaw01.WordMonads', WHERE WHAT IT READS IS OF BULK AT MOST 1048576: true; the input reads as it did. -/
def wordMonadsUptoRow : OpenClaim := { program := "ytnfkmmiojgnonaa", sum := "063ced153c8b6d84623e68ced6666893fac5128eddc5a8ecfee2ea0858c96c62", func := "windrow/windrowlaw01.WordMonads", spec := "wordMonads", apart := false, narrowed := true }
def WordMonadsUptoSaid : Prop := wordMonadsUptoRow.holds Try.pinned (OpenSpec.upto wordMonadsSpec)

/-- 'windrowlaw01.WordUnits', WHERE WHAT IT READS IS OF BULK AT MOST 1048576: true; the input reads as it did. -/
def wordUnitsUptoRow : OpenClaim := { program := "ytnfkmmiojgnonaa", sum := "063ced153c8b6d84623e68ced6666893fac5128eddc5a8ecfee2ea0858c96c62", func := "windrow/windrowlaw01.WordUnits", spec := "wordUnits", apart := false, narrowed := true }
def WordUnitsUptoSaid : Prop := wordUnitsUptoRow.holds Try.pinned (OpenSpec.upto wordUnitsSpec)

/-- 'windrowlaw01.WordRing', WHERE WHAT IT READS IS OF BULK AT MOST 1048576: true; the input reads as it did. -/
def wordRingUptoRow : OpenClaim := { program := "ytnfkmmiojgnonaa", sum := "063ced153c8b6d84623e68ced6666893fac5128eddc5a8ecfee2ea0858c96c62", func := "windrow/windrowlaw01.WordRing", spec := "wordRing", apart := false, narrowed := true }
def WordRingUptoSaid : Prop := wordRingUptoRow.holds Try.pinned (OpenSpec.upto wordRingSpec)

/-- 'windrowlaw01.WordDivides', WHERE WHAT IT READS IS OF BULK AT MOST 1048576: true; the input reads as it did. -/
def wordDividesUptoRow : OpenClaim := { program := "ytnfkmmiojgnonaa", sum := "063ced153c8b6d84623e68ced6666893fac5128eddc5a8ecfee2ea0858c96c62", func := "windrow/windrowlaw01.WordDivides", spec := "wordDivides", apart := false, narrowed := true }
def WordDividesUptoSaid : Prop := wordDividesUptoRow.holds Try.pinned (OpenSpec.upto wordDividesSpec)

/-- 'windrowlaw01.WordOrder', WHERE WHAT IT READS IS OF BULK AT MOST 1048576: true; the input reads as it did. -/
def wordOrderUptoRow : OpenClaim := { program := "ytnfkmmiojgnonaa", sum := "063ced153c8b6d84623e68ced6666893fac5128eddc5a8ecfee2ea0858c96c62", func := "windrow/windrowlaw01.WordOrder", spec := "wordOrder", apart := false, narrowed := true }
def WordOrderUptoSaid : Prop := wordOrderUptoRow.holds Try.pinned (OpenSpec.upto wordOrderSpec)

/-- 'windrowlaw01.WordPowers', WHERE WHAT IT READS IS OF BULK AT MOST 1048576: true; the input reads as it did. -/
def wordPowersUptoRow : OpenClaim := { program := "ytnfkmmiojgnonaa", sum := "063ced153c8b6d84623e68ced6666893fac5128eddc5a8ecfee2ea0858c96c62", func := "windrow/windrowlaw01.WordPowers", spec := "wordPowers", apart := false, narrowed := true }
def WordPowersUptoSaid : Prop := wordPowersUptoRow.holds Try.pinned (OpenSpec.upto wordPowersSpec)

/-- 'windrowlaw01.WordScans', WHERE WHAT IT READS IS OF BULK AT MOST 1048576: true; the input reads as it did. -/
def wordScansUptoRow : OpenClaim := { program := "ytnfkmmiojgnonaa", sum := "063ced153c8b6d84623e68ced6666893fac5128eddc5a8ecfee2ea0858c96c62", func := "windrow/windrowlaw01.WordScans", spec := "wordScans", apart := false, narrowed := true }
def WordScansUptoSaid : Prop := wordScansUptoRow.holds Try.pinned (OpenSpec.upto wordScansSpec)

/-- 'windrowlaw01.WordTotals', WHERE WHAT IT READS IS OF BULK AT MOST 1048576: true; the input reads as it did. -/
def wordTotalsUptoRow : OpenClaim := { program := "ytnfkmmiojgnonaa", sum := "063ced153c8b6d84623e68ced6666893fac5128eddc5a8ecfee2ea0858c96c62", func := "windrow/windrowlaw01.WordTotals", spec := "wordTotals", apart := false, narrowed := true }
def WordTotalsUptoSaid : Prop := wordTotalsUptoRow.holds Try.pinned (OpenSpec.upto wordTotalsSpec)

end Rows
end Go.Proofs.Ytnfkmmiojgnonaa
