/- What trochoid.centers answers. -/
import Derived.Test.YtkeelkeoijemiaaTb
import Derived.Test.YtkeelkeoijemiaaEvV
namespace Go.Proofs.Ytkeelkeoijemiaa.Ev
open Go Go.RowKit
set_option linter.unusedVariables false

/-- A coordinate of a center. -/
def ptc (a d t : Int) : Int := IntKind.i64.wrap (a + IntKind.i64.wrap (d * t))
/-- The cells of the first centers. -/
def pts (ax ay dx dy st : Int) : Nat → List MV
  | 0 => []
  | k + 1 => pts ax ay dx dy st k ++ [MV.sc (.int .i64 (ptc ax dx (k * st))), MV.sc (.int .i64 (ptc ay dy (k * st)))]
theorem pts_leaves (ax ay dx dy st : Int) : ∀ k, Leaves (pts ax ay dx dy st k)
  | 0 => Leaves.nil
  | k + 1 => (pts_leaves ax ay dx dy st k).append (Leaves.cons rfl (Leaves.cons rfl Leaves.nil))
theorem pts_len (ax ay dx dy st : Int) : ∀ k, (pts ax ay dx dy st k).length = k * 2
  | 0 => rfl
  | k + 1 => by rw [pts, List.length_append, pts_len ax ay dx dy st k]; simp; omega

def len4 (ax ay bx by_ : Int) : Int := gmax (gmax (gmax (IntKind.i64.wrap (bx - ax)) (IntKind.i64.wrap (ax - bx))) (IntKind.i64.wrap (by_ - ay))) (IntKind.i64.wrap (ay - by_))

theorem c21 (n : Nat) {ax ay bx by_ dx dy st : Int} {m : Nat} (hm : m < 10000) (h0 : 0 < st) (h1 : st ≤ 9223372036854775807) (hL : len4 ax ay bx by_ ≤ 1000000000) (hlo : m * st < len4 ax ay bx by_) (hhi : len4 ax ay bx by_ ≤ (m + 1) * st)
    (hq : ¬ IntKind.i64.wrap (IntKind.i64.wrap ((IntKind.i64.wrap (len4 ax ay bx by_ - 1)).tdiv st) + 2) > 10000) :
    (TT (n + 1)).call 21 [.agg [.sc (.int .i64 ax), .sc (.int .i64 ay)], .agg [.sc (.int .i64 bx), .sc (.int .i64 by_)], .agg [.sc (.int .i64 dx), .sc (.int .i64 dy)], .sc (.int .i64 st)] =
      some (.tup [.fs (m + 2) none (pts ax ay dx dy st (m + 1) ++ [.sc (.int .i64 bx), .sc (.int .i64 by_)]), .sc (.int .i64 0)], []) := by
  refine (deep_call rfl).trans ?_
  show evalBody Go.Proofs.Try.prog (TT n) FUEL (ioOf 21) 21 _ = _
  have hio := TT_io n
  have hl : ∀ k : Nat, (pts ax ay dx dy st k ++ [MV.sc (.int .i64 bx), MV.sc (.int .i64 by_)]).length = (k + 1) * 2 := fun k => by simp [pts_len]; omega
  have loop : ∃ o s', evalLoop (fun s => evalCode Go.Proofs.Try.prog (TT n) FUEL (bodyOf Go.Proofs.Try.prog 21 0) (normSt (scratch1 (bodyOf Go.Proofs.Try.prog 21 0)) s)) FUEL (I21 ax ay bx by_ dx dy st) = some (o, s') ∧
      (o = .exit 0 ∧ ∃ j17 j22 j27 j32 j33 j34 j35 j37 j38, s' = r21b_X1 ax ay bx by_ dx dy st ((m + 1 : Nat) * st) (len4 ax ay bx by_) j17 j22 j27 j32 j33 j34 j35 j37 j38 (m + 1) (pts ax ay dx dy st (m + 1))) := by
    refine loop_inv (G := fun s => evalCode Go.Proofs.Try.prog (TT n) FUEL (bodyOf Go.Proofs.Try.prog 21 0) s) (nm := normSt (scratch1 (bodyOf Go.Proofs.Try.prog 21 0))) (fun k s => ∃ j17 j22 j27 j32 j33 j34 j35 j37 j38,
      match k with
      | 0 => s = L21a ax ay bx by_ dx dy st 0 (len4 ax ay bx by_) j17 j22 j27 j32 j33 j34 j35 j37 j38
      | k + 1 => s = L21b ax ay bx by_ dx dy st ((k + 1 : Nat) * st) (len4 ax ay bx by_) j17 j22 j27 j32 j33 j34 j35 j37 j38 (k + 1) (pts ax ay dx dy st (k + 1))) _ (m + 1) FUEL _ 0 ?_ ?_ ?_ (by unfold FUEL; omega)
    · rintro k s _ hk ⟨j17, j22, j27, j32, j33, j34, j35, j37, j38, hs⟩
      have hkm : (k : Int) * st ≤ m * st := Int.mul_le_mul_of_nonneg_right (by omega) (by omega)
      have hw : IntKind.i64.wrap ((k : Nat) * st + st) = ((k + 1 : Nat) : Int) * st := by
        have e : ((k + 1 : Nat) : Int) * st = (k : Nat) * st + st := by push_cast; rw [Int.add_mul]; omega
        rw [e]
        refine w64 ⟨?_, ?_⟩
        · have := Int.mul_nonneg (show (0 : Int) ≤ (k : Nat) by omega) (show 0 ≤ st by omega); omega
        · cases k with
          | zero => simp; omega
          | succ k =>
            have h2 : st ≤ ((k + 1 : Nat) : Int) * st := by
              have := Int.mul_le_mul_of_nonneg_right (show (1 : Int) ≤ ((k + 1 : Nat) : Int) by omega) (show 0 ≤ st by omega)
              omega
            omega
      cases k with
      | zero =>
        subst hs
        obtain ⟨s', e1, e2⟩ := r21a_0 hio ax ay bx by_ dx dy st 0 (len4 ax ay bx by_) j17 j22 j27 j32 j33 j34 j35 j37 j38 (sc_b (decide_eq_true (by omega)))
        refine ⟨s', e1, j17, j22, j27, j32, j33, j34, j35, j37, j38, e2.trans ?_⟩
        have hw' : IntKind.i64.wrap (0 + st) = ((0 + 1 : Nat) : Int) * st := by simpa using hw
        rw [hw']
        simp [pts, ptc]
      | succ k =>
        subst hs
        obtain ⟨s', e1, e2⟩ := r21b_0 hio ax ay bx by_ dx dy st ((k + 1 : Nat) * st) (len4 ax ay bx by_) j17 j22 j27 j32 j33 j34 j35 j37 j38 (k + 1) (pts ax ay dx dy st (k + 1)) (sc_b (decide_eq_true (by omega)))
          ⟨rfl, rfl, rfl, by decide, rfl, rfl, by rw [pts_len]; omega, by omega, rfl⟩ ((pts_leaves ax ay dx dy st (k + 1)).append (Leaves.cons rfl (Leaves.cons rfl Leaves.nil))).noNames
        refine ⟨s', e1, j17, j22, j27, j32, j33, j34, j35, j37, j38, e2.trans ?_⟩
        rw [hw]
        rfl
    · rintro s ⟨j17, j22, j27, j32, j33, j34, j35, j37, j38, hs⟩
      have hs' : s = L21b ax ay bx by_ dx dy st ((m + 1 : Nat) * st) (len4 ax ay bx by_) j17 j22 j27 j32 j33 j34 j35 j37 j38 (m + 1) (pts ax ay dx dy st (m + 1)) := by simpa using hs
      subst hs'
      refine ⟨_, _, r21b_1 hio ax ay bx by_ dx dy st ((m + 1 : Nat) * st) (len4 ax ay bx by_) j17 j22 j27 j32 j33 j34 j35 j37 j38 (m + 1) (pts ax ay dx dy st (m + 1)) (sc_b (decide_eq_false (by push_cast at hhi ⊢; omega))), by simp, rfl, j17, j22, j27, j32, j33, j34, j35, j37, j38, rfl⟩
    · exact ⟨_, _, _, _, _, _, _, _, _, i21 ax ay bx by_ dx dy st⟩
  obtain ⟨o, s', e1, rfl, j17, j22, j27, j32, j33, j34, j35, j37, j38, rfl⟩ := loop
  refine (p21_1 hio ax ay bx by_ dx dy st _ _ _ _ _ _ _ _ _ _ _ (m + 1) (pts ax ay dx dy st (m + 1)) (by omega) (sc_b (decide_eq_false hq)) e1 ⟨rfl, rfl, rfl, by decide, rfl, rfl, by rw [pts_len]; omega, by omega, rfl⟩ ⟨rfl, by decide, by rw [hl]; omega, ?_⟩).trans ?_
  · exact (((pts_leaves ax ay dx dy st (m + 1)).append (Leaves.cons rfl (Leaves.cons rfl Leaves.nil))).take _).plain (by rw [List.length_take, hl]; omega)
  · rw [List.take_of_length_le (by rw [hl]; omega)]
end Go.Proofs.Ytkeelkeoijemiaa.Ev
