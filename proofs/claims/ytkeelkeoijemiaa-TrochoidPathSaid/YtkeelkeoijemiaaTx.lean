/- The examples of the document hold: the law's first function. -/
import Derived.Test.YtkeelkeoijemiaaTa
namespace Go.Proofs.Ytkeelkeoijemiaa.Ev
open Go
set_option maxRecDepth 100000
theorem awake : (TT 20).call 6 [] = some (.sc (.bool true), []) := by kernel_rfl
end Go.Proofs.Ytkeelkeoijemiaa.Ev
