/- The examples of the document, part 2: which steps are allowed. -/
import Derived.Test.YtkeelkeoijemiaaProg
import Derived.Test.YtkeelkeoijemiaaEvT
import Derived.KernelRfl
namespace Go.Proofs.Ytkeelkeoijemiaa.Ev
open Go
set_option maxRecDepth 100000
theorem al259 : (T0.deep Go.Proofs.Try.prog FUEL 16).call 60 [.sc (.int .i64 1000), .sc (.int .i64 3000), .sc (.int .i64 259), q0] = some (.sc (.bool true), []) := by kernel_rfl
theorem al271 : (T0.deep Go.Proofs.Try.prog FUEL 16).call 60 [.sc (.int .i64 1000), .sc (.int .i64 3000), .sc (.int .i64 271), q0] = some (.sc (.bool false), []) := by kernel_rfl
theorem al265 : (T0.deep Go.Proofs.Try.prog FUEL 16).call 60 [.sc (.int .i64 1000), .sc (.int .i64 3000), .sc (.int .i64 265), q0] = some (.sc (.bool true), []) := by kernel_rfl
theorem al268 : (T0.deep Go.Proofs.Try.prog FUEL 16).call 60 [.sc (.int .i64 1000), .sc (.int .i64 3000), .sc (.int .i64 268), q0] = some (.sc (.bool true), []) := by kernel_rfl
theorem al270 : (T0.deep Go.Proofs.Try.prog FUEL 16).call 60 [.sc (.int .i64 1000), .sc (.int .i64 3000), .sc (.int .i64 270), q0] = some (.sc (.bool false), []) := by kernel_rfl
theorem al269 : (T0.deep Go.Proofs.Try.prog FUEL 16).call 60 [.sc (.int .i64 1000), .sc (.int .i64 3000), .sc (.int .i64 269), q0] = some (.sc (.bool true), []) := by kernel_rfl
end Go.Proofs.Ytkeelkeoijemiaa.Ev
