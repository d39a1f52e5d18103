import Derived.Test.YtmlfeocdcjhhaaaPH16
import Derived.Test.YtmlfeocdcjhhaaaPH21
import Derived.Shelf.Sort.Plain
import Derived.Ground.Names2Prog
import Derived.Shelf.Slices.CompactI
import Derived.Shelf.Slices.In.SortNone
import Derived.Test.YtmlfeocdcjhhaaaPH1
import Derived.Test.YtmlfeocdcjhhaaaPH6
import Derived.Lib.SlicesCompact
import Derived.Test.YtmlfeocdcjhhaaaPH8
import Derived.Sort.OwnSortedInts
namespace Go.Proofs.Ytmlfeocdcjhhaaa
set_option maxRecDepth 100000
open Go.RowKit
set_option linter.unusedVariables false
set_option linter.unusedSimpArgs false

theorem opsC_fit {l : List Cop} (h : fitC l = true) : opsC l = (simpleC l, 0) := by unfold opsC; rw [if_pos h]
theorem opsC_not {l : List Cop} (h : fitC l = false) : opsC l = ([], 130) := by unfold opsC; rw [if_neg (by rw [h]; decide)]
end Go.Proofs.Ytmlfeocdcjhhaaa
