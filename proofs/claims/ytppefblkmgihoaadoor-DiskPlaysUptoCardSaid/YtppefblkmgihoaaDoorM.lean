/- The program of this seat, and the one fact of it that all walks use. -/
import Derived.Test.YtppefblkmgihoaaDoorProg
import Derived.Test.YtppefblkmgihoaaDoorSh
import Derived.KernelRfl
namespace Go.Proofs.YtppefblkmgihoaaDoor
theorem mixed : Tryd.prog.follows .mixedOrders = true := by kernel_rfl
end Go.Proofs.YtppefblkmgihoaaDoor
