import Derived.Test.YtekjeadgknmokaaL0
namespace Go.Proofs.Ytekjeadgknmokaa
open Go Go.X
set_option maxRecDepth 1000000
theorem known12 : KnownOk Try.prog ⟨26, [], .bool true⟩ := known (by kernel_rfl) (by kernel_rfl)
end Go.Proofs.Ytekjeadgknmokaa
