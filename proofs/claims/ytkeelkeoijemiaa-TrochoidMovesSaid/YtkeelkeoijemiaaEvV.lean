/- Cells that are numbers, truth values and slices of memory that nobody writes: they have no names. -/
import Derived.Test.YtkeelkeoijemiaaEvU
import Derived.IntWalk
namespace Go.Proofs.Ytkeelkeoijemiaa.Ev
open Go Go.RowKit

def leaf : MV → Bool
  | .sc (.int _ _) => true
  | .sc (.bool _) => true
  | .fs _ _ _ => true
  | _ => false
def Leaves (cs : List MV) : Prop := ∀ m ∈ cs, leaf m = true

theorem Leaves.nil : Leaves [] := fun _ h => by cases h
theorem Leaves.cons {m : MV} {cs : List MV} (h1 : leaf m = true) (h2 : Leaves cs) : Leaves (m :: cs) := fun x hx => by
  rcases List.mem_cons.1 hx with rfl | hx
  · exact h1
  · exact h2 x hx
theorem Leaves.append {a b : List MV} (ha : Leaves a) (hb : Leaves b) : Leaves (a ++ b) := fun x hx => (List.mem_append.1 hx).elim (ha x) (hb x)
theorem Leaves.take {a : List MV} (ha : Leaves a) (n : Nat) : Leaves (a.take n) := fun x hx => ha x (List.mem_of_mem_take hx)
theorem Leaves.drop {a : List MV} (ha : Leaves a) (n : Nat) : Leaves (a.drop n) := fun x hx => ha x (List.mem_of_mem_drop hx)
theorem leaf_norm {m : MV} (h : leaf m = true) (look : Nat → Option Ent) : norm1 look m = m := by
  unfold leaf at h
  split at h <;> first | rfl | cases h
theorem leaf_names {m : MV} (h : leaf m = true) : namesIn m = [] := by
  unfold leaf at h
  split at h <;> first | rfl | cases h
theorem leaf_cell {m : MV} (h : leaf m = true) : cellOk m = true := by
  unfold leaf at h
  split at h <;> first | rfl | cases h
theorem leaf_freeze {m : MV} (h : leaf m = true) (en : Nat → Option Ent) (k : Nat) : freeze en (k + 1) m = some (m, []) := by
  unfold leaf at h
  split at h <;> first | rfl | cases h
theorem Leaves.tail {m : MV} {cs : List MV} (h : Leaves (m :: cs)) : Leaves cs := fun x hx => h x (by simp [hx])
theorem Leaves.noNames : ∀ {cs : List MV}, Leaves cs → NoNames cs
  | [], _ => NoNames.nil
  | m :: cs, h => by
    have ih := Leaves.noNames h.tail
    have hm := h m (by simp)
    exact ⟨by simp [namesInL, leaf_names hm, ih.1], fun look => by simp [norms, leaf_norm hm, ih.2]⟩
theorem Leaves.cellOk : ∀ {cs : List MV}, Leaves cs → cs.all Ev.cellOk = true := fun h => List.all_eq_true.2 fun m hm => leaf_cell (h m hm)
theorem Leaves.freezes (en : Nat → Option Ent) : ∀ (cs : List MV) (k : Nat), Leaves cs → cs.length + 1 < k → Ev.freezes en k cs = some (cs, [])
  | [], k + 1, _, _ => rfl
  | m :: cs, k + 2, h, hk => by
    simp only [List.length_cons] at hk
    simp only [Ev.freezes, leaf_freeze (h m (by simp)) en k, Leaves.freezes en cs (k + 1) h.tail (by omega)]
    rfl
  | [], 0, _, hk => by omega
  | _ :: _, 0, _, hk => by omega
  | _ :: _, 1, _, hk => by simp at hk
theorem Leaves.plain {cs : List MV} (h : Leaves cs) (hl : cs.length < 999990) : Plain cs := fun en => Leaves.freezes en cs 999999 h (by omega)
theorem Leaves.bare {cs : List MV} (h : Leaves cs) (hl : cs.length < 999990) : bare cs = true := by
  unfold Ev.bare
  rw [Leaves.freezes _ cs FUEL h (by unfold FUEL; omega)]

theorem sc_b {x y : Bool} (h : x = y) : (MV.sc (.bool x) : MV) = .sc (.bool y) := by rw [h]
theorem w64 {n : Int} (h : -9223372036854775808 ≤ n ∧ n ≤ 9223372036854775807) : IntKind.i64.wrap n = n := Go.IntWalk.i64_in n h
theorem gmax_max (x y : Int) : gmax x y = max x y := by unfold gmax; omega
theorem gmin_min (x y : Int) : gmin x y = min x y := by unfold gmin; omega
/-- What slots hold that nobody looks at any more. -/
def jI (l : List Int) (n : Nat) : Int := l.getD n 0
def jB (l : List Bool) (n : Nat) : Bool := l.getD n false
end Go.Proofs.Ytkeelkeoijemiaa.Ev
