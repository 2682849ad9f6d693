/- Texts AppZ in one. Conditions: as each law names them. -/
import Derived.Lib.AppendZeros
import Derived.Lib.AppendZerosOnto
import Derived.Test.YtkhddpiopbmhjaaGreatUak
set_option maxRecDepth 20000
set_option maxHeartbeats 8000000
namespace Go.Proofs.YtkhddpiopbmhjaaGreat
section
open Go.RowKit
end
end Go.Proofs.YtkhddpiopbmhjaaGreat
