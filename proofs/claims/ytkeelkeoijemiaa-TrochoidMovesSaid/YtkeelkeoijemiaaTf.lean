/- What the reference's Centers answers. -/
import Derived.Test.YtkeelkeoijemiaaTe
namespace Go.Proofs.Ytkeelkeoijemiaa.Ev
open Go Go.RowKit
set_option linter.unusedVariables false

theorem c9_loop (n : Nat) {ax ay bx by_ st dx dy s : Int} {m : Nat} (hdx : dx = cmp3 bx ax) (hdy : dy = cmp3 by_ ay) (hs : s = gmin st (IntKind.i64.wrap (IntKind.i64.wrap (IntKind.i64.wrap (bx - ax) * cmp3 bx ax) + IntKind.i64.wrap (IntKind.i64.wrap (by_ - ay) * cmp3 by_ ay))))
    (hok : okr ax ay bx by_ = true) (hax : Small ax) (hay : Small ay) (hbx : Small bx) (hby : Small by_) (hm : m < 10000) (h0 : 0 < s) (hsL : s ≤ wayLen ax ay bx by_) (hlo : m * s < wayLen ax ay bx by_) (hhi : wayLen ax ay bx by_ ≤ (m + 1) * s) :
    ∃ j8 j11 j18 j19 j22_0_0 j22_0_1 j25_0_0 j25_0_1 j26_0 j26_1 j32 j34 j35 j40 j42 j43 j44 j46 j47 j48 j49 j50 j51 j52 j53 j10 j22_1 j25_1 j27, evalLoop (fun s => evalCode Go.Proofs.Try.prog (TT (n + 3)) FUEL (bodyOf Go.Proofs.Try.prog 9 0) (normSt (scratch1 (bodyOf Go.Proofs.Try.prog 9 0)) s)) FUEL (I9 ax ay bx by_ st) =
      some (.exit 0, r9b_X1 ax ay bx by_ st (ptc ax dx ((m + 1 : Nat) * s)) (ptc ay dy ((m + 1 : Nat) * s)) s j8 j11 j18 j19 j22_0_0 j22_0_1 j25_0_0 j25_0_1 j26_0 j26_1 j32 j34 j35 j40 j42 j43 j44 j46 j47 j48 j49 j50 j51 j52 j53 dx dy j10 j22_1 j25_1 j27 (m + 1) (pts ax ay dx dy s (m + 1))) := by
  have hio := TT_io (n + 3)
  obtain ⟨hL0, hL⟩ := way_pos hok hax hay hbx hby
  have hux : Unit dx := by rw [hdx]; exact cmp3_unit _ _
  have huy : Unit dy := by rw [hdy]; exact cmp3_unit _ _
  have hnn : ∀ k : Nat, 0 ≤ (k : Int) * s := fun k => Int.mul_nonneg (by omega) (by omega)
  have hsucc : ∀ k : Nat, ((k + 1 : Nat) : Int) * s = k * s + s := fun k => by push_cast; rw [Int.add_mul]; omega
  have hb : ∀ t, 0 ≤ t → t ≤ 1000000000 → befb (ptc ax dx t) (ptc ay dy t) bx by_ dx dy = decide (t < wayLen ax ay bx by_) := fun t h1 h2 => by
    rw [hdx, hdy]; exact befb_way hok hax hay hbx hby h1 h2
  have loop : ∃ o s', evalLoop (fun s => evalCode Go.Proofs.Try.prog (TT (n + 3)) FUEL (bodyOf Go.Proofs.Try.prog 9 0) (normSt (scratch1 (bodyOf Go.Proofs.Try.prog 9 0)) s)) FUEL (I9 ax ay bx by_ st) = some (o, s') ∧
      (o = .exit 0 ∧ ∃ j8 j11 j18 j19 j22_0_0 j22_0_1 j25_0_0 j25_0_1 j26_0 j26_1 j32 j34 j35 j40 j42 j43 j44 j46 j47 j48 j49 j50 j51 j52 j53 j10 j22_1 j25_1 j27, s' = r9b_X1 ax ay bx by_ st (ptc ax dx ((m + 1 : Nat) * s)) (ptc ay dy ((m + 1 : Nat) * s)) s j8 j11 j18 j19 j22_0_0 j22_0_1 j25_0_0 j25_0_1 j26_0 j26_1 j32 j34 j35 j40 j42 j43 j44 j46 j47 j48 j49 j50 j51 j52 j53 dx dy j10 j22_1 j25_1 j27 (m + 1) (pts ax ay dx dy s (m + 1))) := by
    refine loop_inv (G := fun s => evalCode Go.Proofs.Try.prog (TT (n + 3)) FUEL (bodyOf Go.Proofs.Try.prog 9 0) s) (nm := normSt (scratch1 (bodyOf Go.Proofs.Try.prog 9 0))) (fun k S => ∃ j8 j11 j18 j19 j22_0_0 j22_0_1 j25_0_0 j25_0_1 j26_0 j26_1 j32 j34 j35 j40 j42 j43 j44 j46 j47 j48 j49 j50 j51 j52 j53 j10 j22_1 j25_1 j27,
      match k with
      | 0 => S = L9a ax ay bx by_ st (ptc ax dx ((0 : Nat) * s)) (ptc ay dy ((0 : Nat) * s)) s j8 j11 j18 j19 j22_0_0 j22_0_1 j25_0_0 j25_0_1 j26_0 j26_1 j32 j34 j35 j40 j42 j43 j44 j46 j47 j48 j49 j50 j51 j52 j53 dx dy j10 j22_1 j25_1 j27
      | k + 1 => S = L9b ax ay bx by_ st (ptc ax dx ((k + 1 : Nat) * s)) (ptc ay dy ((k + 1 : Nat) * s)) s j8 j11 j18 j19 j22_0_0 j22_0_1 j25_0_0 j25_0_1 j26_0 j26_1 j32 j34 j35 j40 j42 j43 j44 j46 j47 j48 j49 j50 j51 j52 j53 dx dy j10 j22_1 j25_1 j27 (k + 1) (pts ax ay dx dy s (k + 1))) _ (m + 1) FUEL _ 0 ?_ ?_ ?_ (by unfold FUEL; omega)
    · rintro k S _ hk ⟨j8, j11, j18, j19, j22_0_0, j22_0_1, j25_0_0, j25_0_1, j26_0, j26_1, j32, j34, j35, j40, j42, j43, j44, j46, j47, j48, j49, j50, j51, j52, j53, j10, j22_1, j25_1, j27, hs'⟩
      have hkm : (k : Int) * s ≤ m * s := Int.mul_le_mul_of_nonneg_right (by omega) (by omega)
      have h1 := hnn k
      have hat : ∀ {a d : Int}, Small a → Unit d → atb (ptc a d (k * s)) s d = ptc a d ((k + 1 : Nat) * s) := fun ha hd => by
        rw [hsucc]; exact atb_val ha hd h1 (by omega) (by omega)
      have hbk := hb (k * s) h1 (by omega)
      cases k with
      | zero =>
        subst hs'
        obtain ⟨S', e1, e2⟩ := r9a_0 hio ax ay bx by_ st _ _ s j8 j11 j18 j19 j22_0_0 j22_0_1 j25_0_0 j25_0_1 j26_0 j26_1 j32 j34 j35 j40 j42 j43 j44 j46 j47 j48 j49 j50 j51 j52 j53 dx dy j10 j22_1 j25_1 j27 (by exact c24 (n + 2) ..) (sc_b (hbk.trans (decide_eq_true (by omega)))) (by exact c25 (n + 2) ..)
        refine ⟨S', e1, j8, j11, j18, j19, j22_0_0, j22_0_1, j25_0_0, j25_0_1, j26_0, j26_1, j32, j34, j35, j40, j42, j43, j44, j46, j47, j48, j49, j50, j51, j52, j53, j10, j22_1, j25_1, j27, e2.trans ?_⟩
        rw [hat hax hux, hat hay huy]
        rfl
      | succ k =>
        subst hs'
        obtain ⟨S', e1, e2⟩ := r9b_0 hio ax ay bx by_ st _ _ s j8 j11 j18 j19 j22_0_0 j22_0_1 j25_0_0 j25_0_1 j26_0 j26_1 j32 j34 j35 j40 j42 j43 j44 j46 j47 j48 j49 j50 j51 j52 j53 dx dy j10 j22_1 j25_1 j27 (k + 1) (pts ax ay dx dy s (k + 1)) (by exact c24 (n + 2) ..) (sc_b (hbk.trans (decide_eq_true (by omega))))
          ⟨rfl, rfl, rfl, by decide, rfl, rfl, by rw [pts_len]; omega, by omega, rfl⟩ (by exact c25 (n + 2) ..) ((pts_leaves ax ay dx dy s (k + 1)).append (Leaves.cons rfl (Leaves.cons rfl Leaves.nil))).noNames
        refine ⟨S', e1, j8, j11, j18, j19, j22_0_0, j22_0_1, j25_0_0, j25_0_1, j26_0, j26_1, j32, j34, j35, j40, j42, j43, j44, j46, j47, j48, j49, j50, j51, j52, j53, j10, j22_1, j25_1, j27, e2.trans ?_⟩
        rw [hat hax hux, hat hay huy]
        rfl
    · rintro S ⟨j8, j11, j18, j19, j22_0_0, j22_0_1, j25_0_0, j25_0_1, j26_0, j26_1, j32, j34, j35, j40, j42, j43, j44, j46, j47, j48, j49, j50, j51, j52, j53, j10, j22_1, j25_1, j27, hs'⟩
      have hs'' : S = L9b ax ay bx by_ st (ptc ax dx ((m + 1 : Nat) * s)) (ptc ay dy ((m + 1 : Nat) * s)) s j8 j11 j18 j19 j22_0_0 j22_0_1 j25_0_0 j25_0_1 j26_0 j26_1 j32 j34 j35 j40 j42 j43 j44 j46 j47 j48 j49 j50 j51 j52 j53 dx dy j10 j22_1 j25_1 j27 (m + 1) (pts ax ay dx dy s (m + 1)) := by simpa using hs'
      subst hs''
      have h1 := hnn (m + 1)
      have h2 := hsucc m
      have hbk := hb ((m + 1 : Nat) * s) h1 (by omega)
      refine ⟨_, _, r9b_1 hio ax ay bx by_ st _ _ s j8 j11 j18 j19 j22_0_0 j22_0_1 j25_0_0 j25_0_1 j26_0 j26_1 j32 j34 j35 j40 j42 j43 j44 j46 j47 j48 j49 j50 j51 j52 j53 dx dy j10 j22_1 j25_1 j27 (m + 1) (pts ax ay dx dy s (m + 1)) (by exact c24 (n + 2) ..) (sc_b (hbk.trans (decide_eq_false (by push_cast at hhi ⊢; omega)))), by simp, rfl, j8, j11, j18, j19, j22_0_0, j22_0_1, j25_0_0, j25_0_1, j26_0, j26_1, j32, j34, j35, j40, j42, j43, j44, j46, j47, j48, j49, j50, j51, j52, j53, j10, j22_1, j25_1, j27, rfl⟩
    · have e0 : ptc ax dx ((0 : Nat) * s) = ax := by rw [ptc_val hax hux (by simp) (by simp)]; simp
      have e1 : ptc ay dy ((0 : Nat) * s) = ay := by rw [ptc_val hay huy (by simp) (by simp)]; simp
      have := i9 ax ay bx by_ st
      rw [← hdx, ← hdy] at hs
      simp only [← hdx, ← hdy, ← hs] at this
      have goal : ∃ j8 j11 j18 j19 j22_0_0 j22_0_1 j25_0_0 j25_0_1 j26_0 j26_1 j32 j34 j35 j40 j42 j43 j44 j46 j47 j48 j49 j50 j51 j52 j53 j10 j22_1 j25_1 j27, normSt (scratch1 (bodyOf Go.Proofs.Try.prog 9 0)) (I9 ax ay bx by_ st) = L9a ax ay bx by_ st (ptc ax dx ((0 : Nat) * s)) (ptc ay dy ((0 : Nat) * s)) s j8 j11 j18 j19 j22_0_0 j22_0_1 j25_0_0 j25_0_1 j26_0 j26_1 j32 j34 j35 j40 j42 j43 j44 j46 j47 j48 j49 j50 j51 j52 j53 dx dy j10 j22_1 j25_1 j27 := by
        simp only [e0, e1]
        exact ⟨_, _, _, _, _, _, _, _, _, _, _, _, _, _, _, _, _, _, _, _, _, _, _, _, _, _, _, _, _, this⟩
      exact goal
  obtain ⟨o, s', e1, rfl, j8, j11, j18, j19, j22_0_0, j22_0_1, j25_0_0, j25_0_1, j26_0, j26_1, j32, j34, j35, j40, j42, j43, j44, j46, j47, j48, j49, j50, j51, j52, j53, j10, j22_1, j25_1, j27, rfl⟩ := loop
  exact ⟨j8, j11, j18, j19, j22_0_0, j22_0_1, j25_0_0, j25_0_1, j26_0, j26_1, j32, j34, j35, j40, j42, j43, j44, j46, j47, j48, j49, j50, j51, j52, j53, j10, j22_1, j25_1, j27, e1⟩
end Go.Proofs.Ytkeelkeoijemiaa.Ev
