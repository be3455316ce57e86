/- The examples of the document hold: the law's first function. -/
import Derived.Test.YtkeelkeoijemiaaChecked
import Derived.Test.YtkeelkeoijemiaaTa
import Derived.Test.YtkeelkeoijemiaaEvU
import Derived.Test.YtkeelkeoijemiaaW1
import Derived.Test.YtkeelkeoijemiaaW2
namespace Go.Proofs.Ytkeelkeoijemiaa.Ev
open Go
set_option maxRecDepth 100000

theorem mixed : Go.Proofs.Try.prog.follows .mixedOrders = true := by kernel_rfl
theorem noNum : ∀ fn ∈ Go.Proofs.Try.prog.funcs, (fn.name == "runtime.NumGoroutine") = false := by
  have h : (Go.Proofs.Try.prog.funcs.toList.all fun fn => !(fn.name == "runtime.NumGoroutine")) = true := by kernel_rfl
  intro fn hfn
  have := List.all_eq_true.1 h fn (by simpa using hfn)
  simpa using this

theorem T0_ok : TabOK Go.Proofs.Try.prog T0 := fun _ _ _ _ h => by cases h
theorem T0_deep (n : Nat) : TabOK Go.Proofs.Try.prog (T0.deep Go.Proofs.Try.prog FUEL n) := Tab.deep_ok mixed noNum T0_ok FUEL n

theorem al_ok {s : Int} {b : Bool} {c1 c2 : Option Nat} (h : (T0.deep Go.Proofs.Try.prog FUEL 16).call 60 [.sc (.int .i64 1000), .sc (.int .i64 3000), .sc (.int .i64 s), q0] = some (.sc (.bool b), [])) :
    CallOK Go.Proofs.Try.prog [] 60 [.sc (.int .i64 1000), .sc (.int .i64 3000), .sc (.int .i64 s), .agg [.sc (.bool false), .fs 0 c1 [], .sc (.bool false), .fs 1 c2 [.sc (.int .u32 1)]]] (.sc (.bool b)) [] :=
  CallOK.uncap (T0_deep 16 60 _ _ _ h)

theorem TA_ok : TabOK Go.Proofs.Try.prog TA := by
  intro f l r outs h
  simp only [TA] at h
  split at h
  · rename_i hf
    subst hf
    show CallOK _ [] 60 _ _ _
    unfold alTab at h
    split at h
    · split at h
      · rename_i hs
        cases h
        rcases hs with rfl | rfl | rfl | rfl | rfl | rfl
        · exact al_ok al1501
        · exact al_ok al751
        · exact al_ok al376
        · exact al_ok al282
        · exact al_ok al271
        · exact al_ok al270
      · split at h
        · rename_i hs
          cases h
          rcases hs with rfl | rfl | rfl | rfl | rfl | rfl
          · exact al_ok al188
          · exact al_ok al235
          · exact al_ok al259
          · exact al_ok al265
          · exact al_ok al268
          · exact al_ok al269
        · cases h
    · cases h
  · cases h
theorem TT_ok (n : Nat) : TabOK Go.Proofs.Try.prog (TT n) := Tab.deep_ok mixed noNum TA_ok FUEL n
end Go.Proofs.Ytkeelkeoijemiaa.Ev
