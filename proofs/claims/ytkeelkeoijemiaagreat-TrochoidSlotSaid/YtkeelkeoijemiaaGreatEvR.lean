/- Paths of the reference; Path of both. Slot of the program and of the reference. The examples of the chapter hold. Equal moves; the law TrochoidSlot, by its function. A law's row: structs of numbers as arguments. -/
import Derived.Test.YtkeelkeoijemiaaGreatBf
import Derived.Test.YtkeelkeoijemiaaGreatBa
import Derived.Test.YtkeelkeoijemiaaGreatNa
import Derived.WalkKit
import Derived.ProofKit
import Derived.OpenShut
import Derived.ShutString
import Derived.ChangeOld
import Derived.Below
import Derived.SizedLaws
import Derived.Carry
set_option linter.unusedVariables false
set_option linter.unusedSimpArgs false
namespace Go.Proofs.YtkeelkeoijemiaaGreat.Ev
open Go
set_option linter.unusedVariables false
set_option linter.unusedSimpArgs false
set_option maxRecDepth 100000

abbrev LN (n : Nat) (F : Fam) (r z w dx dy i : Int) (o : AV) (l : List (Nat × EntA)) : StA := mkSt 108 [(2, iA r), (4, iA z), (5, iA w), (17, .arr none shG n F), (19, .ptr 19 1 0), (21, o), (22, iA i)] ([(19, ⟨1, [iA dx, iA dy], false⟩)] ++ l)
abbrev LNr (n : Nat) (F : Fam) (r z w dx dy i : Int) (m : Nat) (G : Fam) : StA := LN n F r z w dx dy i (.row 106 1 0 m none 7) [(106, ⟨1, [.blk shM m G], false⟩)]
def sumN : List AV → List (Option EntA) → KA → Option AV
  | [.sc (.int .i64 r), .sc (.int .i64 z), .sc (.int .i64 w), .arr none [.i .i64, .i .i64] n F, .ptr 19 1 0, .fs 0 (some 0) [], .sc (.int .i64 i)], [some ⟨1, [.sc (.int .i64 dx), .sc (.int .i64 dy)], false⟩, none], k =>
    gdK (decide (i = 0) && movOk n F r dx dy) (k (.exit 0) (mkSt 108 [(21, .row 106 1 0 (2 * n - 1) none 7)] [(106, ⟨1, [.blk shM (2 * n - 1) (famM F r z w dx dy n)], false⟩)] 6))
  | _, _, _ => none
noncomputable abbrev spN : LSpec := ⟨[2, 4, 5, 17, 19, 21, 22], [19, 106], [21], [106], [(106, shM)], 108, sumN⟩
noncomputable def ssN : Nat → Option LSpec := fun j => if j = 0 then some spN else none
noncomputable abbrev kN : List Ctr := [k_Direction, k_check, k_Centers, k_far]
theorem rN0 (D n : Nat) (F : Fam) (r z w dx dy : Int) (Kn : StA → Option AV) (Ke : KA) : rdA (hC kN 2) (autoL (hC kN 2) fn_ref34_Path ssN D) fn_ref34_Path 0 spN (LN n F r z w dx dy 0 (.fs 0 (some 0) []) []) Kn Ke =
    cond (decide ((0 : Int) < (n : Int))) (cond (decide ((0 : Int) ≤ 0 ∧ (0 : Int) < (n : Int))) (cond (decide ((0 : Int) ≤ 0 ∧ (0 : Int) < (n : Int))) (Kn (LNr n F r z w dx dy (W (0 + 1)) 1 (famZ.snoc 0 (mrA (F.i (Int.toNat 0) 0) (F.i (Int.toNat 0) 1) dx dy r z w)))) none) none) (Ke (.exit 0) (mkSt 108 [(21, .fs 0 (some 0) [])] [] 6)) := by kernel_rfl
theorem rN1 (D n : Nat) (F : Fam) (r z w dx dy i : Int) (m : Nat) (G : Fam) (Kn : StA → Option AV) (Ke : KA) : rdA (hC kN 2) (autoL (hC kN 2) fn_ref34_Path ssN D) fn_ref34_Path 0 spN (LNr n F r z w dx dy i m G) Kn Ke =
    cond (decide (i < (n : Int))) (cond (decide ((0 : Int) ≤ i ∧ i < (n : Int))) (cond (decide (i > 0))
      (cond (decide (0 + m * 7 = m * 7 + 0 ∧ m + 1 ≤ 1073741824)) (cond (decide ((0 : Int) ≤ i ∧ i < (n : Int))) (cond (decide (0 + (m + 1) * 7 = m * 7 + 7 ∧ m + 1 + 1 ≤ 1073741824)) (Kn (LNr n F r z w dx dy (W (i + 1)) (m + 1 + 1) ((G.snoc m (mrF (F.i i.toNat 0) (F.i i.toNat 1) dx dy r z w)).snoc (m + 1) (mrA (F.i i.toNat 0) (F.i i.toNat 1) dx dy r z w)))) none) none) none)
      (cond (decide ((0 : Int) ≤ i ∧ i < (n : Int))) (cond (decide (0 + m * 7 = m * 7 + 0 ∧ m + 1 ≤ 1073741824)) (Kn (LNr n F r z w dx dy (W (i + 1)) (m + 1) (G.snoc m (mrA (F.i i.toNat 0) (F.i i.toNat 1) dx dy r z w)))) none) none)) none) (Ke (.exit 0) (mkSt 108 [(21, .row 106 1 0 m none 7)] [(106, ⟨1, [.blk shM m G], false⟩)] 6)) := by kernel_rfl
theorem loopN (D : Nat) {n : Nat} {F : Fam} {r dx dy : Int} (z w : Int) (h : MvH n F r dx dy) (k : KA) : ∀ (q i fuel : Nat), i + 1 + q = n → q < fuel →
    unR (hC kN 2) (autoL (hC kN 2) fn_ref34_Path ssN D) fn_ref34_Path 0 spN fuel (LNr n F r z w dx dy (i + 1 : Nat) (2 * i + 1) (famM F r z w dx dy (i + 1))) k =
      k (.exit 0) (mkSt 108 [(21, .row 106 1 0 (2 * n - 1) none 7)] [(106, ⟨1, [.blk shM (2 * n - 1) (famM F r z w dx dy n)], false⟩)] 6)
  | 0, i, fuel + 1, hi, hf => by
    obtain rfl : n = i + 1 := by omega
    rw [unR_succ, rN1, decide_eq_false (by omega), show 2 * (i + 1) - 1 = 2 * i + 1 by omega]; rfl
  | q + 1, i, fuel + 1, hi, hf => by
    have hx := h.2.2.2.2.2 (i + 1) (by omega)
    obtain ⟨_, _, e1, e2⟩ := mw_eq z w h.1 hx.1 hx.2 ⟨h.2.2.2.1, h.2.2.2.2.1⟩
    rw [unR_succ, rN1, decide_eq_true (show ((i + 1 : Nat) : Int) < (n : Int) by omega), decide_eq_true (show 0 ≤ ((i + 1 : Nat) : Int) ∧ ((i + 1 : Nat) : Int) < (n : Int) by omega), decide_eq_true (show ((i + 1 : Nat) : Int) > 0 by omega),
      decide_eq_true (show 0 + (2 * i + 1) * 7 = (2 * i + 1) * 7 + 0 ∧ 2 * i + 1 + 1 ≤ 1073741824 by omega), decide_eq_true (show 0 + (2 * i + 1 + 1) * 7 = (2 * i + 1) * 7 + 7 ∧ 2 * i + 1 + 1 + 1 ≤ 1073741824 by omega), Int.toNat_natCast, e1, e2, W_in (by omega), show ((i + 1 : Nat) : Int) + 1 = ((i + 1 + 1 : Nat) : Int) by omega]
    exact loopN D z w h k q (i + 1) fuel (by omega) (by omega)
theorem okN : SpecOK (hC kN 2) fn_ref34_Path ssN := by
  intro D j x hs sv ev k v h
  unfold ssN at hs
  split at hs
  · rename_i hj
    subst hj
    cases hs
    simp only [sumN] at h
    split at h
    · rename_i r z w n F i dx dy
      obtain ⟨h1, h2⟩ := gdK_some h
      simp only [Bool.and_eq_true, movOk, decide_eq_true_eq] at h1
      obtain ⟨rfl, h3⟩ := h1
      have hx := h3.2.2.2.2.2 0 h3.2.1
      obtain ⟨_, _, e1, e2⟩ := mw_eq z w h3.1 hx.1 hx.2 ⟨h3.2.2.2.1, h3.2.2.2.2.1⟩
      have e : mkO spN.N (spN.I.zip [.sc (.int .i64 r), .sc (.int .i64 z), .sc (.int .i64 w), .arr none [.i .i64, .i .i64] n F, .ptr 19 1 0, .fs 0 (some 0) [], .sc (.int .i64 0)]) (spN.E.zip [some ⟨1, [.sc (.int .i64 dx), .sc (.int .i64 dy)], false⟩, none]) 2 = LN n F r z w dx dy 0 (.fs 0 (some 0) []) [] := by kernel_rfl
      rw [e, show FUEL = 999999 + 1 from rfl, unR_succ, rN0, decide_eq_true (show (0 : Int) < n by omega), decide_eq_true (show (0 : Int) ≤ 0 ∧ (0 : Int) < n by omega), show Int.toNat 0 = 0 from rfl, e2]
      have := loopN D z w h3 k (n - 1) 0 999999 (by omega) (by omega)
      simp only [cond_true]
      rw [← h2, ← this]
      rfl
    · cases h
  · cases hs
/-- The moves of a way. -/
def pathF (a b c d r s z w : Int) : Fam := famM (famW a b c d s) r z w (cmp3 c a) (cmp3 d b) (numW a b c d s + 1)
theorem movOk_of {a b c d s r : Int} (h : chk a b c d 0 0 = 0) (hs : 1 ≤ s) (hN : numW a b c d s ≤ 9999) (hr : 0 ≤ r ∧ r ≤ 10000000) : movOk (numW a b c d s + 1) (famW a b c d s) r (cmp3 c a) (cmp3 d b) = true := by
  obtain ⟨g1, g2, g3, g4, g5, g6, g7⟩ := chk0 h
  have hst : 1 ≤ stpW a b c d s ∧ stpW a b c d s ≤ lenI a b c d ∧ stpW a b c d s ≤ s := by unfold stpW; rw [g2]; split <;> omega
  simp only [movOk, Bool.and_eq_true, decide_eq_true_eq]
  refine ⟨g1, by omega, by omega, hr.1, hr.2, fun j hj => ?_⟩
  obtain ⟨f1, f2⟩ := famW_i (s := s) h (j := j) (by omega) _ rfl
  have hp : 0 ≤ (if j < numW a b c d s then (j : Int) * stpW a b c d s else lenI a b c d) ∧ (if j < numW a b c d s then (j : Int) * stpW a b c d s else lenI a b c d) ≤ lenI a b c d := by
    split
    · rename_i hj
      refine ⟨Int.mul_nonneg (by omega) (by omega), ?_⟩
      have := (nCen_mem hst.1 g5 j).1 (by unfold numW at hj; exact hj); omega
    · omega
  rw [f1, f2]
  generalize (if j < numW a b c d s then (j : Int) * stpW a b c d s else lenI a b c d) = p at hp
  rcases dir_cases g1 with ⟨e1, e2⟩ | ⟨e1, e2⟩ | ⟨e1, e2⟩ | ⟨e1, e2⟩ <;> rw [e1] at g3 ⊢ <;> rw [e2] at g4 ⊢ <;> omega
/-- Where Path is asked for: a way with a radius in range, a step, a rate. -/
def pthC (a b c d r s z w : Int) : Bool := decide (chk a b c d r z = 0 ∧ 1 ≤ r ∧ r ≤ 10000000 ∧ 1 ≤ s ∧ s ≤ r ∧ 1 ≤ w)
theorem chk_0 {a b c d r z : Int} (h : chk a b c d r z = 0) (hr : 0 ≤ r) : chk a b c d 0 0 = 0 := by
  obtain ⟨g1, g2, g3, g4, g5, g6, g7⟩ := chk0 h
  unfold chk at h ⊢
  split at h
  · cases h
  · rename_i h1
    rw [if_neg h1, if_neg]
    simp only [outb, farb, Bool.or_eq_true, decide_eq_true_eq, not_or]
    rw [Int.add_zero, Int.sub_zero, Int.add_zero, Int.sub_zero, Int.add_zero, Int.sub_zero, Int.add_zero, Int.sub_zero, W_in (x := a) (by omega), W_in (x := b) (by omega), W_in (x := c) (by omega), W_in (x := d) (by omega)]
    omega
theorem rnd_of {a b c d r z : Int} (h : chk a b c d r z = 0) (hr : 0 ≤ r) : okr a b c d = true ∧ rnd a b r = true ∧ rnd c d r = true ∧ farb z = false := by
  obtain ⟨g1, g2, g3, g4, g5, g6, g7⟩ := chk0 h
  unfold chk at h
  split at h
  · cases h
  · rename_i h1
    split at h
    · cases h
    · rename_i h2
      simp only [Bool.or_eq_true, not_or, Bool.not_eq_true, outb, Bool.or_eq_false_iff] at h2
      refine ⟨by simpa using h1, ?_, ?_, h2.2⟩
      · simp only [rnd, h2, decide_eq_true (show r ≤ 20000000 by omega)]; rfl
      · simp only [rnd, h2, decide_eq_true (show r ≤ 20000000 by omega)]; rfl
abbrev pthR (a b c d r s z w : Int) : List (Bool × AV) := [(pthC a b c d r s z w && decide (cenE a b c d s = 3), .tup [.fs 0 none [], iA 3]), (pthC a b c d r s z w && decide (cenE a b c d s = 0), .tup [.arr none shM (2 * (numW a b c d s + 1) - 1) (pathF a b c d r s z w), iA 0])]
abbrev sPth : Shps ((Int × Int × Unit) × (Int × Int × Unit) × Int × Int × Int × Int × Unit) := sC sG (sC sG (s4 sI sI sI sI))
noncomputable def k_Path : Ctr := mkT kM 5 fn_trochoid_Path sPth (fun ((a, b, _), (c, d, _), r, s, z, w, _) => pthR a b c d r s z w) rfl rfl okM fun ⟨⟨a, b, _⟩, ⟨c, d, _⟩, r, s, z, w, _⟩ v hr => by
  have e : bdA kM 5 fn_trochoid_Path ssM [pA a b, pA c d, iA r, iA s, iA z, iA w] some = cond (!okr a b c d) (some (.tup [.fs 0 (some 0) [], iA 1])) (cond (decide (r ≤ 0)) (some (.tup [.fs 0 (some 0) [], iA 1])) (cond (decide (s ≤ 0)) (some (.tup [.fs 0 (some 0) [], iA 1])) (cond (decide (w ≤ 0)) (some (.tup [.fs 0 (some 0) [], iA 1])) (cond (decide (s > r)) (some (.tup [.fs 0 (some 0) [], iA 1]))
      (cond (!rnd a b r) (some (.tup [.fs 0 (some 0) [], iA 11])) (cond (!rnd c d r) (some (.tup [.fs 0 (some 0) [], iA 11])) (cond (farb z) (some (.tup [.fs 0 (some 0) [], iA 11]))
      (cond (cenC a b c d (cmp3 c a) (cmp3 d b) s && decide (cenE a b c d s = 3)) (some (.tup [.fs 0 (some 0) [], iA 3]))
      (cond (cenC a b c d (cmp3 c a) (cmp3 d b) s && decide (cenE a b c d s = 0))
        (cond (decide (((numW a b c d s + 1 : Nat) : Int) = (numW a b c d s + 1 : Nat) ∧ (0 : Int) = 0) && movOk (numW a b c d s + 1) (famW a b c d s) r (cmp3 c a) (cmp3 d b))
          (cond (decide (2 * (numW a b c d s + 1) - 1 = 2 * (numW a b c d s + 1) - 1 ∧ (2 * (numW a b c d s + 1) - 1) * 7 < 900000)) (some (.tup [.arr none shM (2 * (numW a b c d s + 1) - 1) (pathF a b c d r s z w), iA 0])) none) none) none))))))))) := by kernel_rfl
  simp only [List.mem_cons, Prod.mk.injEq, List.not_mem_nil, or_false] at hr
  have hC : pthC a b c d r s z w = true := by
    rcases hr with ⟨h, _⟩ | ⟨h, _⟩ <;> exact (Bool.and_eq_true_iff.1 h.symm).1
  obtain ⟨hc, h1, h2, h3, h4, h5⟩ := of_decide_eq_true hC
  have hc0 := chk_0 hc (by omega)
  obtain ⟨q1, q2, q3, q4⟩ := rnd_of hc (by omega)
  have hcC : cenC a b c d (cmp3 c a) (cmp3 d b) s = true := decide_eq_true ⟨hc0, rfl, rfl, h3, by omega⟩
  rw [q1, q2, q3, q4, decide_eq_false (show ¬ r ≤ 0 by omega), decide_eq_false (show ¬ s ≤ 0 by omega), decide_eq_false (show ¬ w ≤ 0 by omega), decide_eq_false (show ¬ s > r by omega), hcC] at e
  rcases hr with ⟨h, rfl⟩ | ⟨h, rfl⟩
  · have h6 := of_decide_eq_true (Bool.and_eq_true_iff.1 h.symm).2
    exact ⟨.tup [.fs 0 (some 0) [], iA 3], by refine e.trans ?_; rw [h6]; rfl, fun m hm => hm⟩
  · have h6 := of_decide_eq_true (Bool.and_eq_true_iff.1 h.symm).2
    have hN := (cen0 h6).2.2
    refine ⟨.tup [.arr none shM (2 * (numW a b c d s + 1) - 1) (pathF a b c d r s z w), iA 0], ?_, fun m hm => hm⟩
    refine e.trans ?_
    rw [h6, movOk_of hc0 h3 hN (by omega), decide_eq_true (show 2 * (numW a b c d s + 1) - 1 = 2 * (numW a b c d s + 1) - 1 ∧ (2 * (numW a b c d s + 1) - 1) * 7 < 900000 by omega), decide_eq_true (show ((numW a b c d s + 1 : Nat) : Int) = (numW a b c d s + 1 : Nat) ∧ (0 : Int) = 0 from ⟨rfl, rfl⟩)]
    rfl
noncomputable def r_Path : Ctr := mkT kN 2 fn_ref34_Path sPth (fun ((a, b, _), (c, d, _), r, s, z, w, _) => pthR a b c d r s z w) rfl rfl okN fun ⟨⟨a, b, _⟩, ⟨c, d, _⟩, r, s, z, w, _⟩ v hr => by
  have e : bdA kN 2 fn_ref34_Path ssN [pA a b, pA c d, iA r, iA s, iA z, iA w] some = cond (!okr a b c d) (some (.tup [.fs 0 (some 0) [], iA 1])) (cond (decide (r < 1)) (some (.tup [.fs 0 (some 0) [], iA 1])) (cond (decide (s < 1)) (some (.tup [.fs 0 (some 0) [], iA 1])) (cond (decide (w < 1)) (some (.tup [.fs 0 (some 0) [], iA 1])) (cond (decide (s > r)) (some (.tup [.fs 0 (some 0) [], iA 1]))
      (cond (chk a b c d r z != 0) (some (.tup [.fs 0 (some 0) [], iA (chk a b c d r z)]))
      (cond (decide (cenE a b c d s = 1)) (some (.tup [.fs 0 (some 0) [], iA 1])) (cond (decide (cenE a b c d s = 11)) (some (.tup [.fs 0 (some 0) [], iA 11])) (cond (decide (cenE a b c d s = 3)) (some (.tup [.fs 0 (some 0) [], iA 3]))
      (cond (decide (cenE a b c d s = 0))
        (cond (decide ((0 : Int) = 0) && movOk (numW a b c d s + 1) (famW a b c d s) r (cmp3 c a) (cmp3 d b))
          (cond (decide (2 * (numW a b c d s + 1) - 1 = 2 * (numW a b c d s + 1) - 1 ∧ (2 * (numW a b c d s + 1) - 1) * 7 < 900000)) (some (.tup [.arr none shM (2 * (numW a b c d s + 1) - 1) (pathF a b c d r s z w), iA 0])) none) none) none))))))))) := by kernel_rfl
  simp only [List.mem_cons, Prod.mk.injEq, List.not_mem_nil, or_false] at hr
  have hC : pthC a b c d r s z w = true := by
    rcases hr with ⟨h, _⟩ | ⟨h, _⟩ <;> exact (Bool.and_eq_true_iff.1 h.symm).1
  obtain ⟨hc, h1, h2, h3, h4, h5⟩ := of_decide_eq_true hC
  have hc0 := chk_0 hc (by omega)
  obtain ⟨q1, q2, q3, q4⟩ := rnd_of hc (by omega)
  rw [q1, hc, decide_eq_false (show ¬ r < 1 by omega), decide_eq_false (show ¬ s < 1 by omega), decide_eq_false (show ¬ w < 1 by omega), decide_eq_false (show ¬ s > r by omega)] at e
  rcases hr with ⟨h, rfl⟩ | ⟨h, rfl⟩
  · have h6 := of_decide_eq_true (Bool.and_eq_true_iff.1 h.symm).2
    exact ⟨.tup [.fs 0 (some 0) [], iA 3], by refine e.trans ?_; rw [h6]; rfl, fun m hm => hm⟩
  · have h6 := of_decide_eq_true (Bool.and_eq_true_iff.1 h.symm).2
    have hN := (cen0 h6).2.2
    refine ⟨.tup [.arr none shM (2 * (numW a b c d s + 1) - 1) (pathF a b c d r s z w), iA 0], ?_, fun m hm => hm⟩
    refine e.trans ?_
    rw [h6, movOk_of hc0 h3 hN (by omega), decide_eq_true (show 2 * (numW a b c d s + 1) - 1 = 2 * (numW a b c d s + 1) - 1 ∧ (2 * (numW a b c d s + 1) - 1) * 7 < 900000 by omega)]
    rfl
end Go.Proofs.YtkeelkeoijemiaaGreat.Ev

namespace Go.Proofs.YtkeelkeoijemiaaGreat.Ev
open Go
set_option linter.unusedVariables false
set_option linter.unusedSimpArgs false
set_option maxRecDepth 100000

/-- Are a slot's numbers what they must be? -/
def slOk (ok : Bool) (rt t w : Int) (cs : Bool) : Bool := ok && decide (1 ≤ rt) && decide (1 ≤ t ∧ t ≤ 10000000 ∧ w.tmod 2 = 0 ∧ 2 * t < w ∧ w ≤ 4 * t) && cs
theorem slot_head (E REST : Option AV) (ok cs : Bool) (rt t w : Int) : cond (!ok) E (cond (decide (rt ≤ 0)) E (cond (decide (t < 1)) E (cond (decide (t > 10000000)) E (cond (w.tmod 2 != 0) E (cond (decide (w ≤ W (2 * t))) E (cond (decide (w > W (4 * t))) E (cond (!cs) E REST))))))) = cond (slOk ok rt t w cs) REST E := by
  unfold slOk
  cases ok with
  | false => rfl
  | true =>
    by_cases h1 : rt ≤ 0
    · rw [decide_eq_true h1, decide_eq_false (show ¬ 1 ≤ rt by omega)]; rfl
    · rw [decide_eq_false h1, decide_eq_true (show 1 ≤ rt by omega)]
      by_cases h2 : t < 1
      · rw [decide_eq_true h2, decide_eq_false (show ¬ (1 ≤ t ∧ t ≤ 10000000 ∧ w.tmod 2 = 0 ∧ 2 * t < w ∧ w ≤ 4 * t) by omega)]; rfl
      · by_cases h3 : t > 10000000
        · rw [decide_eq_false h2, decide_eq_true h3, decide_eq_false (show ¬ (1 ≤ t ∧ t ≤ 10000000 ∧ w.tmod 2 = 0 ∧ 2 * t < w ∧ w ≤ 4 * t) by omega)]; rfl
        · rw [decide_eq_false h2, decide_eq_false h3, W_in (x := 2 * t) (by omega), W_in (x := 4 * t) (by omega)]
          by_cases h4 : w.tmod 2 = 0
          · rw [show (w.tmod 2 != 0) = false by simp [h4]]
            by_cases h5 : w ≤ 2 * t
            · rw [decide_eq_true h5, decide_eq_false (show ¬ (1 ≤ t ∧ t ≤ 10000000 ∧ w.tmod 2 = 0 ∧ 2 * t < w ∧ w ≤ 4 * t) by omega)]; rfl
            · by_cases h6 : w > 4 * t
              · rw [decide_eq_false h5, decide_eq_true h6, decide_eq_false (show ¬ (1 ≤ t ∧ t ≤ 10000000 ∧ w.tmod 2 = 0 ∧ 2 * t < w ∧ w ≤ 4 * t) by omega)]; rfl
              · rw [decide_eq_false h5, decide_eq_false h6, decide_eq_true (show (1 ≤ t ∧ t ≤ 10000000 ∧ w.tmod 2 = 0 ∧ 2 * t < w ∧ w ≤ 4 * t) from ⟨by omega, by omega, h4, by omega, by omega⟩)]; cases cs <;> rfl
          · rw [show (w.tmod 2 != 0) = true by simp [h4], decide_eq_false (show ¬ (1 ≤ t ∧ t ≤ 10000000 ∧ w.tmod 2 = 0 ∧ 2 * t < w ∧ w ≤ 4 * t) from fun h => h4 h.2.2.1)]; rfl
def slR (w t : Int) : Int := w.tdiv 2 - t
def slS (w t : Int) (q : Rat) : Nat := gst (alT (slR w t) t q) (slR w t).toNat
def slotE (a b c d w t z rt : Int) (q : Rat) : Int := if slOk (okr a b c d) rt t w (cosP q) = false then 1 else if chk a b c d (slR w t) z ≠ 0 then 11 else if slS w t q = 0 then 16 else if cenE a b c d (slS w t q) = 3 then 3 else 0
theorem slot_in {ok cs : Bool} {rt t w : Int} (h : slOk ok rt t w cs = true) : ok = true ∧ cs = true ∧ 1 ≤ rt ∧ 1 ≤ t ∧ t ≤ 10000000 ∧ 1 ≤ slR w t ∧ slR w t ≤ t ∧ W (W (w.tdiv 2) - t) = slR w t := by
  simp only [slOk, Bool.and_eq_true, decide_eq_true_eq] at h
  obtain ⟨⟨⟨h1, h2⟩, h3, h4, h5, h6, h7⟩, h8⟩ := h
  have e : w.tdiv 2 = w / 2 := Int.tdiv_eq_ediv_of_nonneg (by omega)
  have e2 : w.tmod 2 = w % 2 := Int.tmod_eq_emod_of_nonneg (by omega)
  unfold slR
  rw [e, W_in (x := w / 2) (by omega), W_in (by omega)]
  rw [e2] at h5
  exact ⟨h1, h8, h2, h3, h4, by omega, by omega, rfl⟩
theorem chk_cases {a b c d r z : Int} (h : okr a b c d = true) : chk a b c d r z = 0 ∨ chk a b c d r z = 11 := by
  unfold chk; rw [if_neg (by simp [h])]; split <;> simp
theorem rnd_not {a b c d r z : Int} (h : okr a b c d = true) (hr : 0 ≤ r ∧ r ≤ 10000000) (h2 : chk a b c d r z = 11) (E X : Option AV) : cond (!rnd a b r) E (cond (!rnd c d r) E (cond (farb z) E X)) = E := by
  have hf : farb r = false := by simp only [farb, Bool.or_eq_false_iff, decide_eq_false_iff_not]; omega
  unfold chk at h2
  rw [if_neg (by simp [h])] at h2
  split at h2
  · rename_i h3
    simp only [Bool.or_eq_true, outb, hf, Bool.false_eq_true, or_false] at h3
    simp only [rnd, decide_eq_true (show r ≤ 20000000 by omega), Bool.not_not, Bool.not_true, Bool.or_false]
    rcases h3 with ((((((h3 | h3) | h3) | h3) | h3) | h3) | (((((h3 | h3) | h3) | h3) | h3) | h3)) | h3 <;> simp [h3]
  · cases h2
/-- The step of both: the program's, at most the radius. -/
theorem slS_eq {w t : Int} {q : Rat} (h1 : 1 ≤ slR w t) (h2 : slR w t ≤ t) (ht : t ≤ 10000000) : (if slR w t < (gst (alT (slR w t) t q) (t + 1).toNat : Int) then slR w t else (gst (alT (slR w t) t q) (t + 1).toNat : Int)) = slS w t q := by
  have hm := gst_min (m := (slR w t).toNat) (n := (t + 1).toNat) (p := alT (slR w t) t q) (alT_mono (by omega)) (by omega)
  unfold slS
  rw [hm]
  split <;> omega
abbrev slotR (a b c d w t z rt : Int) (q : Rat) : List (Bool × AV) := [(decide (slotE a b c d w t z rt q = 1), .tup [.fs 0 none [], iA 1]), (decide (slotE a b c d w t z rt q = 11), .tup [.fs 0 none [], iA 11]), (decide (slotE a b c d w t z rt q = 16), .tup [.fs 0 none [], iA 16]), (decide (slotE a b c d w t z rt q = 3), .tup [.fs 0 none [], iA 3]),
  (decide (slotE a b c d w t z rt q = 0), .tup [.arr none shM (2 * (numW a b c d (slS w t q) + 1) - 1) (pathF a b c d (slR w t) (slS w t q) z rt), iA 0])]
abbrev sSlot : Shps ((Int × Int × Unit) × (Int × Int × Unit) × Int × Int × Int × Int × Rat × Unit) := sC sG (sC sG (s5 sI sI sI sI (sQ 3)))
/-- What a slot's evaluation comes to. -/
theorem slot_fin {a b c d w t z rt : Int} {q : Rat} {X : Option AV} {r r' : AV} {v : Int} (hr : (true, r) ∈ slotR a b c d w t z rt q) (hE : slotE a b c d w t z rt q = v) (hX : X = some r')
    (hu : uncapA r' = if v = 0 then .tup [.arr none shM (2 * (numW a b c d (slS w t q) + 1) - 1) (pathF a b c d (slR w t) (slS w t q) z rt), iA 0] else .tup [.fs 0 none [], iA v]) : ∃ r', X = some r' ∧ ∀ m, Rel (uncapA r') m → Rel r m := by
  refine ⟨r', hX, fun m hm => ?_⟩
  rw [hu] at hm
  simp only [List.mem_cons, Prod.mk.injEq, List.not_mem_nil, or_false, hE] at hr
  rcases hr with ⟨h, rfl⟩ | ⟨h, rfl⟩ | ⟨h, rfl⟩ | ⟨h, rfl⟩ | ⟨h, rfl⟩ <;> (have := of_decide_eq_true h.symm; subst this; exact hm)
theorem slotE_1 {a b c d w t z rt : Int} {q : Rat} (h : slOk (okr a b c d) rt t w (cosP q) = false) : slotE a b c d w t z rt q = 1 := by unfold slotE; rw [if_pos h]
theorem slotE_11 {a b c d w t z rt : Int} {q : Rat} (h : slOk (okr a b c d) rt t w (cosP q) = true) (h2 : chk a b c d (slR w t) z ≠ 0) : slotE a b c d w t z rt q = 11 := by unfold slotE; rw [if_neg (by simp [h]), if_pos h2]
theorem slotE_16 {a b c d w t z rt : Int} {q : Rat} (h : slOk (okr a b c d) rt t w (cosP q) = true) (h2 : chk a b c d (slR w t) z = 0) (h3 : slS w t q = 0) : slotE a b c d w t z rt q = 16 := by unfold slotE; rw [if_neg (by simp [h]), if_neg (by simp [h2]), if_pos h3]
theorem slotE_3 {a b c d w t z rt : Int} {q : Rat} (h : slOk (okr a b c d) rt t w (cosP q) = true) (h2 : chk a b c d (slR w t) z = 0) (h3 : slS w t q ≠ 0) (h4 : cenE a b c d (slS w t q) = 3) : slotE a b c d w t z rt q = 3 := by unfold slotE; rw [if_neg (by simp [h]), if_neg (by simp [h2]), if_neg h3, if_pos h4]
theorem slotE_0 {a b c d w t z rt : Int} {q : Rat} (h : slOk (okr a b c d) rt t w (cosP q) = true) (h2 : chk a b c d (slR w t) z = 0) (h3 : slS w t q ≠ 0) (h4 : cenE a b c d (slS w t q) ≠ 3) : slotE a b c d w t z rt q = 0 := by unfold slotE; rw [if_neg (by simp [h]), if_neg (by simp [h2]), if_neg h3, if_neg h4]
theorem cenE_03 {a b c d s : Int} (h : chk a b c d 0 0 = 0) (hs : 1 ≤ s) : cenE a b c d s = 0 ∨ cenE a b c d s = 3 := by
  unfold cenE; rw [if_neg (by omega), if_neg (by simp [h])]; split <;> simp
noncomputable abbrev kSl : List Ctr := [k_direction, k_round, k_cosT, k_Step, k_grid1, k_Path]
set_option maxHeartbeats 2000000 in
noncomputable def k_Slot : Ctr := mkT kSl 4 fn_trochoid_Slot sSlot (fun ((a, b, _), (c, d, _), w, t, z, rt, q, _) => slotR a b c d w t z rt q) rfl rfl noSp_ok fun ⟨⟨a, b, _⟩, ⟨c, d, _⟩, w, t, z, rt, q, _⟩ r hr => by
  have e : bdA kSl 4 fn_trochoid_Slot noSp [pA a b, pA c d, iA w, iA t, iA z, iA rt, .q 3 q] some = cond (!okr a b c d) (some (.tup [.fs 0 (some 0) [], iA 1])) (cond (decide (rt ≤ 0)) (some (.tup [.fs 0 (some 0) [], iA 1])) (cond (decide (t < 1)) (some (.tup [.fs 0 (some 0) [], iA 1])) (cond (decide (t > 10000000)) (some (.tup [.fs 0 (some 0) [], iA 1])) (cond (w.tmod 2 != 0) (some (.tup [.fs 0 (some 0) [], iA 1])) (cond (decide (w ≤ W (2 * t))) (some (.tup [.fs 0 (some 0) [], iA 1])) (cond (decide (w > W (4 * t))) (some (.tup [.fs 0 (some 0) [], iA 1])) (cond (!cosP q) (some (.tup [.fs 0 (some 0) [], iA 1])) (cond (!rnd a b (W (W (w.tdiv 2) - t))) (some (.tup [.fs 0 (some 0) [], iA 11])) (cond (!rnd c d (W (W (w.tdiv 2) - t))) (some (.tup [.fs 0 (some 0) [], iA 11])) (cond (farb z) (some (.tup [.fs 0 (some 0) [], iA 11])) (cond (decide (1 ≤ (W (W (w.tdiv 2) - t)) ∧ (W (W (w.tdiv 2) - t)) ≤ 10000000 ∧ 1 ≤ t ∧ t ≤ 10000000) && cosP q) (cond (decide ((if (W (W (w.tdiv 2) - t)) < (gst (alT (W (W (w.tdiv 2) - t)) t q) (t + 1).toNat : Int) then (W (W (w.tdiv 2) - t)) else (gst (alT (W (W (w.tdiv 2) - t)) t q) (t + 1).toNat : Int)) < 1)) (some (.tup [.fs 0 (some 0) [], iA 16])) (cond (pthC a b c d (W (W (w.tdiv 2) - t)) (if (W (W (w.tdiv 2) - t)) < (gst (alT (W (W (w.tdiv 2) - t)) t q) (t + 1).toNat : Int) then (W (W (w.tdiv 2) - t)) else (gst (alT (W (W (w.tdiv 2) - t)) t q) (t + 1).toNat : Int)) z rt && decide (cenE a b c d (if (W (W (w.tdiv 2) - t)) < (gst (alT (W (W (w.tdiv 2) - t)) t q) (t + 1).toNat : Int) then (W (W (w.tdiv 2) - t)) else (gst (alT (W (W (w.tdiv 2) - t)) t q) (t + 1).toNat : Int)) = 3)) (some (.tup [.fs 0 none [], iA 3])) (cond (pthC a b c d (W (W (w.tdiv 2) - t)) (if (W (W (w.tdiv 2) - t)) < (gst (alT (W (W (w.tdiv 2) - t)) t q) (t + 1).toNat : Int) then (W (W (w.tdiv 2) - t)) else (gst (alT (W (W (w.tdiv 2) - t)) t q) (t + 1).toNat : Int)) z rt && decide (cenE a b c d (if (W (W (w.tdiv 2) - t)) < (gst (alT (W (W (w.tdiv 2) - t)) t q) (t + 1).toNat : Int) then (W (W (w.tdiv 2) - t)) else (gst (alT (W (W (w.tdiv 2) - t)) t q) (t + 1).toNat : Int)) = 0)) (some (.tup [.arr none shM (2 * (numW a b c d (if (W (W (w.tdiv 2) - t)) < (gst (alT (W (W (w.tdiv 2) - t)) t q) (t + 1).toNat : Int) then (W (W (w.tdiv 2) - t)) else (gst (alT (W (W (w.tdiv 2) - t)) t q) (t + 1).toNat : Int)) + 1) - 1) (pathF a b c d (W (W (w.tdiv 2) - t)) (if (W (W (w.tdiv 2) - t)) < (gst (alT (W (W (w.tdiv 2) - t)) t q) (t + 1).toNat : Int) then (W (W (w.tdiv 2) - t)) else (gst (alT (W (W (w.tdiv 2) - t)) t q) (t + 1).toNat : Int)) z rt), iA 0])) none))) none))))))))))) := by kernel_rfl
  rw [slot_head] at e
  cases hk : slOk (okr a b c d) rt t w (cosP q) with
  | false =>
    rw [hk] at e
    exact slot_fin hr (slotE_1 hk) e rfl
  | true =>
    obtain ⟨h1, h2, h3, h4, h5, h6, h7, h8⟩ := slot_in hk
    rw [hk, h8] at e
    simp only [cond_true] at e
    rcases chk_cases (r := slR w t) (z := z) h1 with hc | hc
    · obtain ⟨q1, q2, q3, q4⟩ := rnd_of hc (by omega)
      rw [q2, q3, q4, decide_eq_true (show 1 ≤ slR w t ∧ slR w t ≤ 10000000 ∧ 1 ≤ t ∧ t ≤ 10000000 by omega), h2, slS_eq h6 h7 h5] at e
      have hc0 := chk_0 hc (by omega)
      by_cases h0 : slS w t q = 0
      · rw [decide_eq_true (show (slS w t q : Int) < 1 by omega)] at e
        exact slot_fin hr (slotE_16 hk hc h0) e rfl
      · have hs : 1 ≤ (slS w t q : Int) ∧ (slS w t q : Int) ≤ slR w t := by have := gst_le (alT (slR w t) t q) (slR w t).toNat; unfold slS at h0 ⊢; omega
        have hp : pthC a b c d (slR w t) (slS w t q) z rt = true := decide_eq_true ⟨hc, by omega, by omega, by omega, by omega, h3⟩
        rw [decide_eq_false (show ¬ (slS w t q : Int) < 1 by omega), hp] at e
        rcases cenE_03 hc0 hs.1 with h9 | h9
        · rw [h9] at e
          exact slot_fin hr (slotE_0 hk hc h0 (by omega)) e rfl
        · rw [h9] at e
          exact slot_fin hr (slotE_3 hk hc h0 h9) e rfl
    · rw [rnd_not h1 (by omega) hc] at e
      exact slot_fin hr (slotE_11 hk (by omega)) e rfl
noncomputable abbrev kRl : List Ctr := [k_Direction, k_check, r_cos, r_Step, r_Path]
set_option maxHeartbeats 2000000 in
noncomputable def r_Slot : Ctr := mkT kRl 1 fn_ref34_Slot sSlot (fun ((a, b, _), (c, d, _), w, t, z, rt, q, _) => slotR a b c d w t z rt q) rfl rfl noSp_ok fun ⟨⟨a, b, _⟩, ⟨c, d, _⟩, w, t, z, rt, q, _⟩ r hr => by
  have e : bdA kRl 1 fn_ref34_Slot noSp [pA a b, pA c d, iA w, iA t, iA z, iA rt, .q 3 q] some = cond (!okr a b c d) (some (.tup [.fs 0 (some 0) [], iA 1])) (cond (decide (rt < 1)) (some (.tup [.fs 0 (some 0) [], iA 1])) (cond (decide (t < 1)) (some (.tup [.fs 0 (some 0) [], iA 1])) (cond (decide (t > 10000000)) (some (.tup [.fs 0 (some 0) [], iA 1])) (cond (w.tmod 2 != 0) (some (.tup [.fs 0 (some 0) [], iA 1])) (cond (decide (w ≤ W (2 * t))) (some (.tup [.fs 0 (some 0) [], iA 1])) (cond (decide (w > W (4 * t))) (some (.tup [.fs 0 (some 0) [], iA 1])) (cond (!cosP q) (some (.tup [.fs 0 (some 0) [], iA 1])) (cond (chk a b c d (W (W (w.tdiv 2) - t)) z != 0) (some (.tup [.fs 0 (some 0) [], iA (chk a b c d (W (W (w.tdiv 2) - t)) z)])) (cond (decide (RT (W (W (w.tdiv 2) - t)) t (W (W (w.tdiv 2) - t)))) (cond ((gst (alT (W (W (w.tdiv 2) - t)) t q) ((W (W (w.tdiv 2) - t))).toNat : Int) == 0) (some (.tup [.fs 0 (some 0) [], iA 16])) (cond (pthC a b c d (W (W (w.tdiv 2) - t)) (gst (alT (W (W (w.tdiv 2) - t)) t q) ((W (W (w.tdiv 2) - t))).toNat : Int) z rt && decide (cenE a b c d (gst (alT (W (W (w.tdiv 2) - t)) t q) ((W (W (w.tdiv 2) - t))).toNat : Int) = 3)) (some (.tup [.fs 0 none [], iA 3])) (cond (pthC a b c d (W (W (w.tdiv 2) - t)) (gst (alT (W (W (w.tdiv 2) - t)) t q) ((W (W (w.tdiv 2) - t))).toNat : Int) z rt && decide (cenE a b c d (gst (alT (W (W (w.tdiv 2) - t)) t q) ((W (W (w.tdiv 2) - t))).toNat : Int) = 0)) (some (.tup [.arr none shM (2 * (numW a b c d (gst (alT (W (W (w.tdiv 2) - t)) t q) ((W (W (w.tdiv 2) - t))).toNat : Int) + 1) - 1) (pathF a b c d (W (W (w.tdiv 2) - t)) (gst (alT (W (W (w.tdiv 2) - t)) t q) ((W (W (w.tdiv 2) - t))).toNat : Int) z rt), iA 0])) none))) none))))))))) := by kernel_rfl
  have hlt : decide (rt < 1) = decide (rt ≤ 0) := decide_eq_decide.2 (by omega)
  rw [hlt, slot_head] at e
  cases hk : slOk (okr a b c d) rt t w (cosP q) with
  | false =>
    rw [hk] at e
    exact slot_fin hr (slotE_1 hk) e rfl
  | true =>
    obtain ⟨h1, h2, h3, h4, h5, h6, h7, h8⟩ := slot_in hk
    rw [hk, h8] at e
    simp only [cond_true] at e
    rcases chk_cases (r := slR w t) (z := z) h1 with hc | hc
    · rw [hc, decide_eq_true (show RT (slR w t) t (slR w t) by omega), show (gst (alT (slR w t) t q) (slR w t).toNat : Int) = (slS w t q : Int) from rfl] at e
      have hc0 := chk_0 hc (by omega)
      by_cases h0 : slS w t q = 0
      · rw [show ((slS w t q : Int) == 0) = true by simp [h0]] at e
        exact slot_fin hr (slotE_16 hk hc h0) e rfl
      · have hs : 1 ≤ (slS w t q : Int) ∧ (slS w t q : Int) ≤ slR w t := by have := gst_le (alT (slR w t) t q) (slR w t).toNat; unfold slS at h0 ⊢; omega
        have hp : pthC a b c d (slR w t) (slS w t q) z rt = true := decide_eq_true ⟨hc, by omega, by omega, by omega, by omega, h3⟩
        rw [show ((slS w t q : Int) == 0) = false by simp [h0], hp] at e
        rcases cenE_03 hc0 hs.1 with h9 | h9
        · rw [h9] at e
          exact slot_fin hr (slotE_0 hk hc h0 (by omega)) e rfl
        · rw [h9] at e
          exact slot_fin hr (slotE_3 hk hc h0 h9) e rfl
    · rw [hc] at e
      exact slot_fin hr (slotE_11 hk (by omega)) e rfl
end Go.Proofs.YtkeelkeoijemiaaGreat.Ev

namespace Go.Proofs.YtkeelkeoijemiaaGreat.Ev
open Go
noncomputable def k_awake : Ctr := mk1 (kQ ++ kR) 20 fn_law34_awake sN (fun _ => true) (fun _ => bA true) rfl rfl (fun _ => rfl) fun _ _ => by kernel_rfl
end Go.Proofs.YtkeelkeoijemiaaGreat.Ev

namespace Go.Proofs.YtkeelkeoijemiaaGreat.Ev
open Go
set_option linter.unusedVariables false
set_option linter.unusedSimpArgs false
set_option maxRecDepth 100000

abbrev Eq7 (F G : Fam) (i : Nat) : Prop := F.i i 0 = G.i i 0 ∧ F.i i 1 = G.i i 1 ∧ F.i i 2 = G.i i 2 ∧ F.i i 3 = G.i i 3 ∧ F.i i 4 = G.i i 4 ∧ F.i i 5 = G.i i 5 ∧ F.i i 6 = G.i i 6
def sameC (n m : Nat) (F G : Fam) : Bool := decide (n = m ∧ n ≤ 100000 ∧ ∀ i, i < n → Eq7 F G i)
def sumSm : List AV → List (Option EntA) → KA → Option AV
  | [.arr none [.i .i64, .i .i64, .i .i64, .i .i64, .i .i64, .i .i64, .i .i64] n F, .arr none [.i .i64, .i .i64, .i .i64, .i .i64, .i .i64, .i .i64, .i .i64] m G, .sc (.int .i64 i)], [], k =>
    gdK (decide (i = 0) && sameC n m F G) (k (.exit 0) (mkSt 26 [] [] 6))
  | _, _, _ => none
noncomputable abbrev spSm : LSpec := ⟨[0, 1, 5], [], [4], [], [], 26, sumSm⟩
noncomputable def ssSm : Nat → Option LSpec := fun j => if j = 0 then some spSm else none
abbrev LSm (n m : Nat) (F G : Fam) (i : Int) : StA := mkSt 26 [(0, .arr none shM n F), (1, .arr none shM m G), (5, iA i)] []
theorem rSm (D n m : Nat) (F G : Fam) (i : Int) (Kn : StA → Option AV) (Ke : KA) : rdA (hC [] 1) (autoL (hC [] 1) fn_ref34_SameMoves ssSm D) fn_ref34_SameMoves 0 spSm (LSm n m F G i) Kn Ke =
    cond (decide (i < (n : Int))) (cond (decide (0 ≤ i ∧ i < (n : Int))) (cond (decide (0 ≤ i ∧ i < (m : Int)))
      (cond (!(F.i i.toNat 0 == G.i i.toNat 0 && (F.i i.toNat 1 == G.i i.toNat 1 && (F.i i.toNat 2 == G.i i.toNat 2 && (F.i i.toNat 3 == G.i i.toNat 3 && true)) && (F.i i.toNat 4 == G.i i.toNat 4 && (F.i i.toNat 5 == G.i i.toNat 5 && true) && (F.i i.toNat 6 == G.i i.toNat 6 && true)))))
        (Ke .ret (mkSt 26 [(4, bA false)] [] 16)) (Kn (LSm n m F G (W (i + 1))))) none) none) (Ke (.exit 0) (mkSt 26 [] [] 6)) := by kernel_rfl
theorem loopSm (D : Nat) {n : Nat} {F G : Fam} (hn : n ≤ 100000) (h : ∀ i, i < n → Eq7 F G i) (k : KA) : ∀ (q i fuel : Nat), i + q = n → q < fuel →
    unR (hC [] 1) (autoL (hC [] 1) fn_ref34_SameMoves ssSm D) fn_ref34_SameMoves 0 spSm fuel (LSm n n F G i) k = k (.exit 0) (mkSt 26 [] [] 6)
  | 0, i, fuel + 1, hi, hf => by rw [unR_succ, rSm, decide_eq_false (by omega)]; rfl
  | q + 1, i, fuel + 1, hi, hf => by
    obtain ⟨j0, j1, j2, j3, j4, j5, j6⟩ := h i (by omega)
    rw [unR_succ, rSm, decide_eq_true (show (i : Int) < (n : Int) by omega), decide_eq_true (show 0 ≤ (i : Int) ∧ (i : Int) < (n : Int) by omega), Int.toNat_natCast, j0, j1, j2, j3, j4, j5, j6, W_in (by omega), show ((i : Int) + 1) = ((i + 1 : Nat) : Int) by omega]
    simp only [cond_true, beq_self_eq_true, Bool.and_self, Bool.not_true, cond_false]
    exact loopSm D hn h k q (i + 1) fuel (by omega) (by omega)
theorem okSm : SpecOK (hC [] 1) fn_ref34_SameMoves ssSm := by
  intro D j x hs sv ev k v h
  unfold ssSm at hs
  split at hs
  · rename_i hj
    subst hj
    cases hs
    simp only [sumSm] at h
    split at h
    · rename_i n F m G i
      obtain ⟨h1, h2⟩ := gdK_some h
      simp only [Bool.and_eq_true, sameC, decide_eq_true_eq] at h1
      obtain ⟨rfl, rfl, h3, h4⟩ := h1
      rw [← h2, ← loopSm D h3 h4 k n 0 FUEL (by omega) (by unfold FUEL; omega)]
      rfl
    · cases h
  · cases hs
noncomputable def r_Same : Ctr := mkT [] 1 fn_ref34_SameMoves (s2 (sArr shM) (sArr shM)) (fun ((n, F), (m, G), _) => [(sameC n m F G, bA true)]) rfl rfl okSm fun ⟨⟨n, F⟩, ⟨m, G⟩, _⟩ r hr => by
  simp only [List.mem_singleton, Prod.mk.injEq] at hr
  obtain ⟨h1, rfl⟩ := hr
  refine ⟨bA true, Eq.trans (b := cond ((n : Int) != (m : Int)) (some (bA false)) (cond (decide ((0 : Int) = 0) && sameC n m F G) (some (bA true)) none)) (by kernel_rfl) ?_, fun m hm => hm⟩
  have h2 := of_decide_eq_true h1.symm
  rw [show ((n : Int) != (m : Int)) = false by simp [h2.1], ← h1]
  rfl
noncomputable abbrev kSlo : List Ctr := k_awake :: r_Slot :: k_Slot :: r_Same :: kR
def c5 (E : Int) (x1 x11 x16 x3 x0 : Option AV) : Option AV := cond (decide (E = 1)) x1 (cond (decide (E = 11)) x11 (cond (decide (E = 16)) x16 (cond (decide (E = 3)) x3 (cond (decide (E = 0)) x0 none))))
theorem slotE_cases (a b c d w t z rt : Int) (q : Rat) : slotE a b c d w t z rt q = 1 ∨ slotE a b c d w t z rt q = 11 ∨ slotE a b c d w t z rt q = 16 ∨ slotE a b c d w t z rt q = 3 ∨ slotE a b c d w t z rt q = 0 := by
  unfold slotE; repeat' split
  all_goals simp
theorem law_Slot {a b c d r s z w s0 s1 c0 c1 : Int} (h0 : In64 c0) (h1 : In64 c1) : bdA kSlo 2 fn_law34_TrochoidSlot noSp [.agg [iA a, iA b, iA c, iA d, iA r, iA s, iA z, iA w], .agg [iA s0, iA s1], .agg [iA c0, iA c1]] some = some (bA true) := by
  have e : bdA kSlo 2 fn_law34_TrochoidSlot noSp [.agg [iA a, iA b, iA c, iA d, iA r, iA s, iA z, iA w], .agg [iA s0, iA s1], .agg [iA c0, iA c1]] some = cond (decide (In64 c0 ∧ In64 c1)) (c5 (slotE a b c d s0 s1 z w (Rat.divInt c0 c1))
    (c5 (slotE a b c d s0 s1 z w (Rat.divInt c0 c1)) (some (bA true)) (some (bA false)) (some (bA false)) (some (bA false)) (some (bA false)))
    (c5 (slotE a b c d s0 s1 z w (Rat.divInt c0 c1)) (some (bA false)) (some (bA true)) (some (bA false)) (some (bA false)) (some (bA false)))
    (c5 (slotE a b c d s0 s1 z w (Rat.divInt c0 c1)) (some (bA false)) (some (bA false)) (some (bA true)) (some (bA false)) (some (bA false)))
    (c5 (slotE a b c d s0 s1 z w (Rat.divInt c0 c1)) (some (bA false)) (some (bA false)) (some (bA false)) (some (bA true)) (some (bA false)))
    (cond (decide (((2 * (numW a b c d (slS s0 s1 (Rat.divInt c0 c1) : Nat) + 1) - 1 : Nat) : Int) > 400)) (some (bA true))
      (c5 (slotE a b c d s0 s1 z w (Rat.divInt c0 c1)) (some (bA false)) (some (bA false)) (some (bA false)) (some (bA false))
        (cond (sameC (2 * (numW a b c d (slS s0 s1 (Rat.divInt c0 c1) : Nat) + 1) - 1) (2 * (numW a b c d (slS s0 s1 (Rat.divInt c0 c1) : Nat) + 1) - 1) (pathF a b c d (slR s0 s1) (slS s0 s1 (Rat.divInt c0 c1) : Nat) z w) (pathF a b c d (slR s0 s1) (slS s0 s1 (Rat.divInt c0 c1) : Nat) z w)) (some (bA true)) none)))) none := by kernel_rfl
  rw [e, decide_eq_true ⟨h0, h1⟩]
  clear e
  rcases slotE_cases a b c d s0 s1 z w (Rat.divInt c0 c1) with h | h | h | h | h <;> rw [h]
  · rfl
  · rfl
  · rfl
  · rfl
  · by_cases b0 : ((2 * (numW a b c d (slS s0 s1 (Rat.divInt c0 c1) : Nat) + 1) - 1 : Nat) : Int) > 400
    · rw [decide_eq_true b0]; rfl
    · rw [decide_eq_false b0, show sameC (2 * (numW a b c d (slS s0 s1 (Rat.divInt c0 c1) : Nat) + 1) - 1) (2 * (numW a b c d (slS s0 s1 (Rat.divInt c0 c1) : Nat) + 1) - 1) (pathF a b c d (slR s0 s1) (slS s0 s1 (Rat.divInt c0 c1) : Nat) z w) (pathF a b c d (slR s0 s1) (slS s0 s1 (Rat.divInt c0 c1) : Nat) z w) = true from decide_eq_true ⟨rfl, by omega, fun i _ => ⟨rfl, rfl, rfl, rfl, rfl, rfl, rfl⟩⟩]
      rfl
noncomputable def nSlo : Nat := tabL kSlo + 2 + 1
theorem callSlo {x0 x1 x2 x3 x4 x5 x6 x7 x8 x9 x10 x11 : Int} (h0 : In64 x0) (h1 : In64 x1) (h2 : In64 x2) (h3 : In64 x3) (h4 : In64 x4) (h5 : In64 x5) (h6 : In64 x6) (h7 : In64 x7) (h8 : In64 x8) (h9 : In64 x9) (h10 : In64 x10) (h11 : In64 x11) :
    (TU nSlo).call fn_law34_TrochoidSlot [.agg [iN x0, iN x1, iN x2, iN x3, iN x4, iN x5, iN x6, iN x7], .agg [iN x8, iN x9], .agg [iN x10, iN x11]] = some (.sc (.bool true), []) := by
  have h := law_Slot (a := x0) (b := x1) (c := x2) (d := x3) (r := x4) (s := x5) (z := x6) (w := x7) (s0 := x8) (s1 := x9) h10 h11
  obtain ⟨a, m, c1, c2, c3⟩ := bdA_sound (hC_ok kSlo 2 (Nat.le_refl _)) noSp_ok rfl rfl (ms := [.agg [iN x0, iN x1, iN x2, iN x3, iN x4, iN x5, iN x6, iN x7], .agg [iN x8, iN x9], .agg [iN x10, iN x11]])
    (by exact relT_lift [.agg [iN x0, iN x1, iN x2, iN x3, iN x4, iN x5, iN x6, iN x7], .agg [iN x8, iN x9], .agg [iN x10, iN x11]]) h
  obtain rfl := Option.some.inj c3
  have c4 : m = .sc (.bool true) := c2
  subst c4
  rw [nSlo]
  exact c1
end Go.Proofs.YtkeelkeoijemiaaGreat.Ev

namespace Go.Proofs.YtkeelkeoijemiaaGreat.Ev
open Go Go.RowKit

variable {P : Program} {w : World} {r : Reach} {base : Nat}

/-- The cells of a struct or an array, as they are handed in. -/
theorem okWide_cells {t : TypeId} {v : Value} (hu : (match P.underlying t with | some (.struct _) | some (.array _ _) => true | _ => false) = true) (h : Value.okWide P w r base t v) {n : Nat} {ts : List TypeId} (hn : P.cellsOf t = n)
    (hts : P.cellTypes P.depth t = some ts) : ∃ cs : List Value, v = .agg ⟨cs⟩ ∧ cs.length = n ∧ ∀ i x, cs[i]? = some x → ∃ u, ts[i % ts.length]? = some u ∧ Cell.okWide P w r base u x := by
  unfold Value.okWide at h
  have main : (∃ cs, v = .agg cs ∧ cs.size = P.cellsOf t ∧ Row.okWide P w r base t cs) → ∃ cs : List Value, v = .agg ⟨cs⟩ ∧ cs.length = n ∧ ∀ i x, cs[i]? = some x → ∃ u, ts[i % ts.length]? = some u ∧ Cell.okWide P w r base u x := fun ⟨⟨cs⟩, e, hs, ts', h1, _, h3⟩ => by
    rw [hts] at h1
    cases h1
    exact ⟨cs, e, by rw [← hn]; simpa using hs, fun i x hx => h3 i x (by simpa using hx)⟩
  split at h
  · exact main h
  · exact main h
  · rename_i h1 h2
    exfalso
    split at hu
    · rename_i fs hf; exact h1 _ hf
    · rename_i a b hf; exact h2 _ _ hf
    · cases hu
theorem okWide_int {t : TypeId} {k : IntKind} {v : Value} (hu : P.underlying t = some (.int k)) (h : Cell.okWide P w r base t v) : ∃ n, v = .int k n ∧ k.has n := by
  unfold Cell.okWide Cell.ok at h
  rw [hu] at h
  cases v <;> simp at h
  rename_i k' n
  obtain ⟨rfl, h⟩ := h
  exact ⟨n, rfl, h⟩
theorem VRs_sc {ok : Nat → Prop} {R : Nat → Nat → Option (Nat × Nat)} (l : List Value) : VRs w ok R (l.map .sc) l := by
  have := VRs.map_of (w := w) (ok := ok) (R := R) (f := MV.sc) (g := id) l fun x _ => rfl
  simpa using this
end Go.Proofs.YtkeelkeoijemiaaGreat.Ev

