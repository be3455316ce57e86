/- A law's row: structs of numbers as arguments. -/
import Derived.Test.YtkeelkeoijemiaaEvV
import Derived.WalkKit
import Derived.ProofKit
import Derived.OpenShut
import Derived.ShutString
import Derived.ChangeOld
import Derived.Below
import Derived.SizedLaws
import Derived.Carry
namespace Go.Proofs.Ytkeelkeoijemiaa.Ev
open Go Go.RowKit

variable {P : Program} {w : World} {r : Reach} {base : Nat}

/-- The cells of a struct or an array, as they are handed in. -/
theorem okWide_cells {t : TypeId} {v : Value} (hu : (match P.underlying t with | some (.struct _) | some (.array _ _) => true | _ => false) = true) (h : Value.okWide P w r base t v) {n : Nat} {ts : List TypeId} (hn : P.cellsOf t = n)
    (hts : P.cellTypes P.depth t = some ts) : ∃ cs : List Value, v = .agg ⟨cs⟩ ∧ cs.length = n ∧ ∀ i x, cs[i]? = some x → ∃ u, ts[i % ts.length]? = some u ∧ Cell.okWide P w r base u x := by
  unfold Value.okWide at h
  have main : (∃ cs, v = .agg cs ∧ cs.size = P.cellsOf t ∧ Row.okWide P w r base t cs) → ∃ cs : List Value, v = .agg ⟨cs⟩ ∧ cs.length = n ∧ ∀ i x, cs[i]? = some x → ∃ u, ts[i % ts.length]? = some u ∧ Cell.okWide P w r base u x := fun ⟨⟨cs⟩, e, hs, ts', h1, _, h3⟩ => by
    rw [hts] at h1
    cases h1
    exact ⟨cs, e, by rw [← hn]; simpa using hs, fun i x hx => h3 i x (by simpa using hx)⟩
  split at h
  · exact main h
  · exact main h
  · rename_i h1 h2
    exfalso
    split at hu
    · rename_i fs hf; exact h1 _ hf
    · rename_i a b hf; exact h2 _ _ hf
    · cases hu
theorem okWide_int {t : TypeId} {k : IntKind} {v : Value} (hu : P.underlying t = some (.int k)) (h : Cell.okWide P w r base t v) : ∃ n, v = .int k n ∧ k.has n := by
  unfold Cell.okWide Cell.ok at h
  rw [hu] at h
  cases v <;> simp at h
  rename_i k' n
  obtain ⟨rfl, h⟩ := h
  exact ⟨n, rfl, h⟩
theorem VRs_sc {ok : Nat → Prop} {R : Nat → Nat → Option (Nat × Nat)} (l : List Value) : VRs w ok R (l.map .sc) l := by
  have := VRs.map_of (w := w) (ok := ok) (R := R) (f := MV.sc) (g := id) l fun x _ => rfl
  simpa using this
end Go.Proofs.Ytkeelkeoijemiaa.Ev
