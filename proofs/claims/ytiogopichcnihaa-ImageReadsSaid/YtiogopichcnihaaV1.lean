import Derived.Test.YtiogopichcnihaaWord
namespace Go.Proofs.Ytiogopichcnihaa
set_option maxRecDepth 100000
open Go.RowKit

end Go.Proofs.Ytiogopichcnihaa
