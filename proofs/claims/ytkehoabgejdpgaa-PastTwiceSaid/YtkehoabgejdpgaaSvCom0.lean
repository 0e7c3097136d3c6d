/- Part of the lift: an abstract walk of the program's code, proved sound, and what it shows of this program. -/
import Derived.Test.YtkehoabgejdpgaaBvBinS
import Derived.Test.YtkehoabgejdpgaaBvRet
import Derived.Test.YtkehoabgejdpgaaSvTab
import Derived.Test.YtkehoabgejdpgaaSvNm
namespace Go.Bv
open Go Go.Proofs

theorem mixed : Try.prog.follows .mixedOrders = true := by kernel_rfl
end Go.Bv
