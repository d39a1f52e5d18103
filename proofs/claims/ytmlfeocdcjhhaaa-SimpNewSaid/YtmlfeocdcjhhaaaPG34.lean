import Derived.Test.YtmlfeocdcjhhaaaPG32
import Derived.Test.YtmlfeocdcjhhaaaPG33
namespace Go.Proofs.Ytmlfeocdcjhhaaa
set_option linter.unusedVariables false
set_option linter.unusedSimpArgs false
set_option maxRecDepth 100000
end Go.Proofs.Ytmlfeocdcjhhaaa
