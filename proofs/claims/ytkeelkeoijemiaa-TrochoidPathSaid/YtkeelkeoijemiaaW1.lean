/- The examples of the document, part 1: which steps are allowed. -/
import Derived.Test.YtkeelkeoijemiaaProg
import Derived.Test.YtkeelkeoijemiaaEvT
import Derived.KernelRfl
namespace Go.Proofs.Ytkeelkeoijemiaa.Ev
open Go
set_option maxRecDepth 100000
theorem al1501 : (T0.deep Go.Proofs.Try.prog FUEL 16).call 60 [.sc (.int .i64 1000), .sc (.int .i64 3000), .sc (.int .i64 1501), q0] = some (.sc (.bool false), []) := by kernel_rfl
theorem al751 : (T0.deep Go.Proofs.Try.prog FUEL 16).call 60 [.sc (.int .i64 1000), .sc (.int .i64 3000), .sc (.int .i64 751), q0] = some (.sc (.bool false), []) := by kernel_rfl
theorem al376 : (T0.deep Go.Proofs.Try.prog FUEL 16).call 60 [.sc (.int .i64 1000), .sc (.int .i64 3000), .sc (.int .i64 376), q0] = some (.sc (.bool false), []) := by kernel_rfl
theorem al188 : (T0.deep Go.Proofs.Try.prog FUEL 16).call 60 [.sc (.int .i64 1000), .sc (.int .i64 3000), .sc (.int .i64 188), q0] = some (.sc (.bool true), []) := by kernel_rfl
theorem al282 : (T0.deep Go.Proofs.Try.prog FUEL 16).call 60 [.sc (.int .i64 1000), .sc (.int .i64 3000), .sc (.int .i64 282), q0] = some (.sc (.bool false), []) := by kernel_rfl
theorem al235 : (T0.deep Go.Proofs.Try.prog FUEL 16).call 60 [.sc (.int .i64 1000), .sc (.int .i64 3000), .sc (.int .i64 235), q0] = some (.sc (.bool true), []) := by kernel_rfl
end Go.Proofs.Ytkeelkeoijemiaa.Ev
