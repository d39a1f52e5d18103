import Derived.Test.YtabodlhlanolcaaWord
namespace Go.Proofs.Ytabodlhlanolcaa
set_option maxRecDepth 100000
open Go.RowKit

end Go.Proofs.Ytabodlhlanolcaa
