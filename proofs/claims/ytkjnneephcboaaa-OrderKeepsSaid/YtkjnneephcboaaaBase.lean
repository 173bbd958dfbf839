import Derived.Test.YtkjnneephcboaaaCode
import Derived.Test.YtkjnneephcboaaaProg
namespace Go.Proofs
theorem Try.mixed : Try.prog.follows .mixedOrders = true := by kernel_rfl
end Go.Proofs
