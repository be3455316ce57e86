/- The centers of a way, as the reference tells them. Swept of the program: the distance of points. Swept of the program and of the reference. A path sweeps all points near enough to its way: plain. The examples of the chapter hold. The law TrochoidSwept, by its function. A law's row: structs of numbers as arguments. -/
import Derived.Test.YtkeelkeoijemiaaGreatBa
import Derived.Test.YtkeelkeoijemiaaGreatNa
import Derived.WalkKit
import Derived.ProofKit
import Derived.OpenShut
import Derived.ShutString
import Derived.ChangeOld
import Derived.Below
import Derived.SizedLaws
import Derived.Carry
set_option linter.unusedVariables false
set_option linter.unusedSimpArgs false
namespace Go.Proofs.YtkeelkeoijemiaaGreat.Ev
open Go
set_option linter.unusedVariables false
set_option linter.unusedSimpArgs false

def elI : Nat → List Int → El
  | _, [] => ⟨fun _ => 0, fun _ => false, fun _ => 0⟩
  | j, x :: r => (elI (j + 1) r).setI j x
/-- Elements, one by one. -/
def famN (e : Nat → El) : Nat → Fam
  | 0 => famZ
  | n + 1 => (famN e n).snoc n (e n)
theorem famN_i {e : Nat → El} {i j : Nat} : ∀ {n : Nat}, i < n → (famN e n).i i j = (e i).i j
  | n + 1, h => by
    simp only [famN, Fam.snoc]
    by_cases hn : i = n
    · rw [if_pos hn, hn]
    · rw [if_neg hn, famN_i (by omega)]
abbrev shG : List Kd := [.i .i64, .i .i64]
noncomputable abbrev kC : List Ctr := [k_side, k_far, k_Direction, k_out, k_check]
/-- The loop's head. -/
abbrev LC (a b c d s dx dy x y : Int) (o : AV) (l : List (Nat × EntA)) (ck : Nat := 2) : StA := mkSt 73 [(2, iA s), (3, .ptr 3 1 0), (4, .ptr 4 1 0), (9, .ptr 9 1 0), (12, o), (13, .ptr 13 1 0)] ([(3, ⟨1, [iA a, iA b], false⟩), (4, ⟨1, [iA c, iA d], false⟩), (9, ⟨1, [iA dx, iA dy], false⟩), (13, ⟨1, [iA x, iA y], false⟩)] ++ l) ck
abbrev LCr (a b c d s dx dy x y : Int) (n : Nat) (F : Fam) (ck : Nat := 2) : StA := LC a b c d s dx dy x y (.row 67 1 0 n none 2) [(67, ⟨1, [.blk shG n F], false⟩)] ck
/-- What a way with its step must fulfil; how many centers it has but the last. -/
def dirOk (dx dy : Int) : Bool := (dx == 1 && dy == 0) || (dx == -1 && dy == 0) || (dx == 0 && dy == 1) || (dx == 0 && dy == -1)
def nCen (L s : Int) : Nat := ((L + s - 1) / s).toNat
def wayOk (a b c d s dx dy L : Int) : Bool := decide (nCen L s ≤ 9999) && dirOk dx dy && decide (c - a = L * dx) && decide (d - b = L * dy) && decide (0 < L ∧ L ≤ 20000000 ∧ 1 ≤ s ∧ s ≤ L ∧ -10000000 ≤ a ∧ a ≤ 10000000 ∧ -10000000 ≤ b ∧ b ≤ 10000000)
def eC (a b s dx dy : Int) (i : Nat) : El := elI 0 [a + (i : Int) * s * dx, b + (i : Int) * s * dy]
def sumC : List AV → List (Option EntA) → KA → Option AV
  | [.sc (.int .i64 s), .ptr 3 1 0, .ptr 4 1 0, .ptr 9 1 0, .fs 0 (some 0) [], .ptr 13 1 0], [some ⟨1, [.sc (.int .i64 a), .sc (.int .i64 b)], false⟩, some ⟨1, [.sc (.int .i64 c), .sc (.int .i64 d)], false⟩, some ⟨1, [.sc (.int .i64 dx), .sc (.int .i64 dy)], false⟩, some ⟨1, [.sc (.int .i64 x), .sc (.int .i64 y)], false⟩, none], k =>
    gdK (wayOk a b c d s dx dy ((c - a) * dx + (d - b) * dy) && decide (x = a) && decide (y = b))
      (k (.exit 0) (LCr a b c d s dx dy (a + (nCen ((c - a) * dx + (d - b) * dy) s : Int) * s * dx) (b + (nCen ((c - a) * dx + (d - b) * dy) s : Int) * s * dy) (nCen ((c - a) * dx + (d - b) * dy) s) (famN (eC a b s dx dy) (nCen ((c - a) * dx + (d - b) * dy) s)) 6))
  | _, _, _ => none
noncomputable abbrev spC : LSpec := ⟨[2, 3, 4, 9, 12, 13], [3, 4, 9, 13, 67], [2, 3, 4, 9, 12, 13], [3, 4, 9, 13, 67], [(67, shG)], 73, sumC⟩
noncomputable def ssC : Nat → Option LSpec := fun j => if j = 0 then some spC else none
def befI (x y c d dx dy : Int) : Bool := decide (W (W (W (c - x) * dx) + W (W (d - y) * dy)) > 0)

theorem rC0 (D : Nat) (a b c d s dx dy x y : Int) (Kn : StA → Option AV) (Ke : KA) : rdA (hC kC 2) (autoL (hC kC 2) fn_ref34_Centers ssC D) fn_ref34_Centers 0 spC (LC a b c d s dx dy x y (.fs 0 (some 0) []) []) Kn Ke =
    cond (befI x y c d dx dy) (Kn (LCr a b c d s dx dy (W (x + W (s * dx))) (W (y + W (s * dy))) 1 (famZ.snoc 0 (elI 0 [x, y])))) (Ke (.exit 0) (LC a b c d s dx dy x y (.fs 0 (some 0) []) [] 6)) := by kernel_rfl
theorem rC1 (D : Nat) (a b c d s dx dy x y : Int) (n : Nat) (F : Fam) (Kn : StA → Option AV) (Ke : KA) : rdA (hC kC 2) (autoL (hC kC 2) fn_ref34_Centers ssC D) fn_ref34_Centers 0 spC (LCr a b c d s dx dy x y n F) Kn Ke =
    cond (befI x y c d dx dy) (cond (decide (0 + n * 2 = n * 2 + 0 ∧ n + 1 ≤ 1073741824)) (Kn (LCr a b c d s dx dy (W (x + W (s * dx))) (W (y + W (s * dy))) (n + 1) (F.snoc n (elI 0 [x, y])))) none) (Ke (.exit 0) (LCr a b c d s dx dy x y n F 6)) := by kernel_rfl
theorem nCen_mem {L s : Int} (hs : 1 ≤ s) (hL : 0 < L) (i : Nat) : i < nCen L s ↔ 0 < L - (i : Int) * s := by
  unfold nCen
  have h1 : 0 ≤ (L + s - 1) / s := Int.ediv_nonneg (by omega) (by omega)
  have h2 : (i : Int) < (L + s - 1) / s ↔ (i : Int) + 1 ≤ (L + s - 1) / s := by omega
  have h3 : (i : Int) + 1 ≤ (L + s - 1) / s ↔ ((i : Int) + 1) * s ≤ L + s - 1 := Int.le_ediv_iff_mul_le (by omega)
  have h4 : ((i : Int) + 1) * s = (i : Int) * s + s := by rw [Int.add_mul, Int.one_mul]
  omega
theorem dir_cases {dx dy : Int} (h : dirOk dx dy = true) : (dx = 1 ∧ dy = 0) ∨ (dx = -1 ∧ dy = 0) ∨ (dx = 0 ∧ dy = 1) ∨ (dx = 0 ∧ dy = -1) := by
  simp only [dirOk, Bool.or_eq_true, Bool.and_eq_true, beq_iff_eq] at h
  omega
/-- One step along the way. -/
theorem way_step {a b c d s dx dy L p : Int} (hd : dirOk dx dy = true) (hc : c - a = L * dx) (he : d - b = L * dy) (hL : 0 < L ∧ L ≤ 20000000 ∧ 1 ≤ s ∧ s ≤ L ∧ -10000000 ≤ a ∧ a ≤ 10000000 ∧ -10000000 ≤ b ∧ b ≤ 10000000) (hp : 0 ≤ p ∧ p ≤ 40000000) :
    befI (a + p * dx) (b + p * dy) c d dx dy = decide (0 < L - p) ∧ W (a + p * dx + W (s * dx)) = a + (p + s) * dx ∧ W (b + p * dy + W (s * dy)) = b + (p + s) * dy := by
  unfold befI W
  rcases dir_cases hd with ⟨rfl, rfl⟩ | ⟨rfl, rfl⟩ | ⟨rfl, rfl⟩ | ⟨rfl, rfl⟩ <;> simp only [Int.mul_one, Int.mul_zero, Int.mul_neg, Int.add_zero, Int.zero_add, Int.neg_zero] at hc he ⊢ <;>
    simp (disch := omega) only [i64s] <;> (refine ⟨?_, by omega, by omega⟩) <;> (congr 1; simp only [eq_iff_iff]; omega)
abbrev In7 (L s a b : Int) : Prop := 0 < L ∧ L ≤ 20000000 ∧ 1 ≤ s ∧ s ≤ L ∧ -10000000 ≤ a ∧ a ≤ 10000000 ∧ -10000000 ≤ b ∧ b ≤ 10000000
theorem nCen_le {L s : Int} (hs : 1 ≤ s) (hL : 0 < L) : nCen L s ≤ L.toNat := by
  apply Nat.le_of_not_lt
  intro h
  have := (nCen_mem hs hL L.toNat).1 h
  have h2 : (L.toNat : Int) = L := Int.toNat_of_nonneg (by omega)
  rw [h2] at this
  have := Int.mul_le_mul_of_nonneg_left hs (show 0 ≤ L by omega)
  omega
theorem stepP {i : Nat} {s L : Int} (hs : 1 ≤ s) (h : i ≤ nCen L s) (hL : 0 < L) (hl : s ≤ L) : 0 ≤ (i : Int) * s ∧ (i : Int) * s ≤ 2 * L := by
  refine ⟨Int.mul_nonneg (by omega) (by omega), ?_⟩
  cases i with
  | zero => simp; omega
  | succ i =>
    have := (nCen_mem hs hL i).1 (by omega)
    have e : ((i + 1 : Nat) : Int) * s = (i : Int) * s + s := by rw [Int.natCast_add, Int.add_mul]; simp
    omega
theorem castP (a dx s : Int) (i : Nat) : a + ((i : Int) * s + s) * dx = a + ((i + 1 : Nat) : Int) * s * dx := by
  rw [Int.natCast_add, Int.add_mul ((i : Int)) _ s]; simp
theorem loopC (D : Nat) {a b c d s dx dy L : Int} (hd : dirOk dx dy = true) (hc : c - a = L * dx) (he : d - b = L * dy) (h7 : In7 L s a b) (k : KA) : ∀ (r i fuel : Nat), i + r = nCen L s → r < fuel →
    unR (hC kC 2) (autoL (hC kC 2) fn_ref34_Centers ssC D) fn_ref34_Centers 0 spC fuel (LCr a b c d s dx dy (a + (i : Int) * s * dx) (b + (i : Int) * s * dy) i (famN (eC a b s dx dy) i)) k =
      k (.exit 0) (LCr a b c d s dx dy (a + (nCen L s : Int) * s * dx) (b + (nCen L s : Int) * s * dy) (nCen L s) (famN (eC a b s dx dy) (nCen L s)) 6)
  | 0, i, fuel + 1, hi, hf => by
    rw [Nat.add_zero] at hi
    have hp := stepP (L := L) (s := s) (i := i) h7.2.2.1 (by omega) h7.1 h7.2.2.2.1
    have h := (way_step hd hc he h7 (p := (i : Int) * s) (by omega)).1
    rw [unR_succ, rC1, h, decide_eq_false (fun h2 => by have := (nCen_mem h7.2.2.1 h7.1 i).2 h2; omega), hi]
    rfl
  | r + 1, i, fuel + 1, hi, hf => by
    have hp := stepP (L := L) (s := s) (i := i) h7.2.2.1 (by omega) h7.1 h7.2.2.2.1
    obtain ⟨h1, h2, h3⟩ := way_step hd hc he h7 (p := (i : Int) * s) (by omega)
    have hn := nCen_le (L := L) h7.2.2.1 h7.1
    rw [unR_succ, rC1, h1, decide_eq_true ((nCen_mem h7.2.2.1 h7.1 i).1 (by omega)), decide_eq_true (⟨by omega, by omega⟩ : 0 + i * 2 = i * 2 + 0 ∧ i + 1 ≤ 1073741824), h2, h3, castP, castP]
    exact loopC D hd hc he h7 k r (i + 1) fuel (by omega) (by omega)
theorem okC : SpecOK (hC kC 2) fn_ref34_Centers ssC := by
  intro D j x hs sv ev k r h
  unfold ssC at hs
  split at hs
  · rename_i hj
    subst hj
    cases hs
    simp only [sumC] at h
    split at h
    · rename_i s a b c d dx dy x y
      obtain ⟨h1, h2⟩ := gdK_some h
      simp only [Bool.and_eq_true, wayOk, decide_eq_true_eq] at h1
      obtain ⟨⟨⟨⟨⟨⟨h9, hd⟩, hc⟩, he⟩, h7⟩, rfl⟩, rfl⟩ := h1
      generalize hL : (c - x) * dx + (d - y) * dy = L at hc he h7 h2 h9
      have hN : 0 < nCen L s := (nCen_mem h7.2.2.1 h7.1 0).2 (by simp; exact h7.1)
      have hn := nCen_le (L := L) h7.2.2.1 h7.1
      have e : mkO spC.N (spC.I.zip [.sc (.int .i64 s), .ptr 3 1 0, .ptr 4 1 0, .ptr 9 1 0, .fs 0 (some 0) [], .ptr 13 1 0]) (spC.E.zip [some ⟨1, [.sc (.int .i64 x), .sc (.int .i64 y)], false⟩, some ⟨1, [.sc (.int .i64 c), .sc (.int .i64 d)], false⟩, some ⟨1, [.sc (.int .i64 dx), .sc (.int .i64 dy)], false⟩, some ⟨1, [.sc (.int .i64 x), .sc (.int .i64 y)], false⟩, none]) 2 =
          LC x y c d s dx dy x y (.fs 0 (some 0) []) [] := by kernel_rfl
      obtain ⟨g1, g2, g3⟩ := way_step hd hc he h7 (p := 0) (by omega)
      simp only [Int.zero_mul, Int.add_zero, Int.zero_add] at g1 g2 g3
      rw [e, show FUEL = 999999 + 1 from rfl, unR_succ, rC0, g1, decide_eq_true (by omega), g2, g3]
      have := loopC D hd hc he h7 k (nCen L s - 1) 1 999999 (by omega) (by omega)
      rw [show famN (eC x y s dx dy) 1 = famZ.snoc 0 (elI 0 [x, y]) by simp [famN, eC]] at this
      simp only [Int.natCast_one, Int.one_mul] at this
      simp only [cond_true]
      rw [this]
      exact h2
    · cases h
  · cases hs
/-- A way's length, as it is reckoned; its step; how many centers but the last. -/
def lenW (a b c d : Int) : Int := W (W (W (c - a) * cmp3 c a) + W (W (d - b) * cmp3 d b))
def lenI (a b c d : Int) : Int := (c - a) * cmp3 c a + (d - b) * cmp3 d b
def stpW (a b c d s : Int) : Int := if lenW a b c d < s then lenW a b c d else s
def numW (a b c d s : Int) : Nat := nCen (lenI a b c d) (stpW a b c d s)
def famW (a b c d s : Int) : Fam := (famN (eC a b (stpW a b c d s) (cmp3 c a) (cmp3 d b)) (numW a b c d s)).snoc (numW a b c d s) (elI 0 [c, d])
/-- The error of a way's centers. -/
def cenE (a b c d s : Int) : Int := if s < 1 then 1 else if chk a b c d 0 0 ≠ 0 then chk a b c d 0 0 else if (lenI a b c d + stpW a b c d s - 1).tdiv (stpW a b c d s) > 9999 then 3 else 0
theorem W_in {x : Int} (h : -9223372036854775808 ≤ x ∧ x ≤ 9223372036854775807) : W x = x := i64s h
theorem cmp3_cases (x y : Int) : (y < x ∧ cmp3 x y = 1) ∨ (x < y ∧ cmp3 x y = -1) ∨ (x = y ∧ cmp3 x y = 0) := by
  unfold cmp3
  by_cases h1 : x > y
  · rw [if_pos h1]; omega
  · by_cases h2 : x < y
    · rw [if_neg h1, if_pos h2]; omega
    · rw [if_neg h1, if_neg h2]; omega
/-- What a way without an error fulfils. -/
theorem chk0 {a b c d r z : Int} (h : chk a b c d r z = 0) : dirOk (cmp3 c a) (cmp3 d b) = true ∧ lenW a b c d = lenI a b c d ∧ c - a = lenI a b c d * cmp3 c a ∧ d - b = lenI a b c d * cmp3 d b ∧ 0 < lenI a b c d ∧ lenI a b c d ≤ 20000000 ∧
    -10000000 ≤ a ∧ a ≤ 10000000 ∧ -10000000 ≤ b ∧ b ≤ 10000000 ∧ -10000000 ≤ c ∧ c ≤ 10000000 ∧ -10000000 ≤ d ∧ d ≤ 10000000 ∧ -10000000 ≤ r ∧ r ≤ 10000000 := by
  unfold chk at h
  split at h
  · cases h
  · rename_i h1
    split at h
    · cases h
    · rename_i h2
      simp only [Bool.or_eq_true, not_or, Bool.not_eq_true, outb, farb, Bool.or_eq_false_iff, decide_eq_false_iff_not] at h2
      simp only [okr, Bool.not_eq_false, Bool.not_eq_eq_eq_not, Bool.not_true, beq_eq_false_iff_ne, ne_eq] at h1
      unfold lenW lenI dirOk
      rcases cmp3_cases c a with ⟨x1, x2⟩ | ⟨x1, x2⟩ | ⟨x1, x2⟩ <;> rcases cmp3_cases d b with ⟨y1, y2⟩ | ⟨y1, y2⟩ | ⟨y1, y2⟩ <;> rw [x2, y2] at h1 ⊢ <;> simp only [Int.mul_one, Int.mul_zero, Int.mul_neg] <;> first
        | (exfalso; simp at h1; done)
        | (unfold W; simp (disch := omega) only [i64s]; refine ⟨by decide, ?_⟩; simp only [true_and]; omega)
noncomputable def k_Centers : Ctr := mkT kC 2 fn_ref34_Centers (s3 sG sG sI) (fun ((a, b, _), (c, d, _), s, _) => [(decide (cenE a b c d s = 1), .tup [.fs 0 none [], iA 1]), (decide (cenE a b c d s = 11), .tup [.fs 0 none [], iA 11]), (decide (cenE a b c d s = 3), .tup [.fs 0 none [], iA 3]), (decide (cenE a b c d s = 0), .tup [.arr none shG (numW a b c d s + 1) (famW a b c d s), iA 0])]) rfl rfl okC fun ⟨⟨a, b, _⟩, ⟨c, d, _⟩, s, _⟩ r hr => by
  have e : bdA kC 2 fn_ref34_Centers ssC [pA a b, pA c d, iA s] some = cond (decide (s < 1)) (some (.tup [.fs 0 (some 0) [], iA 1])) (cond (chk a b c d 0 0 != 0) (some (.tup [.fs 0 (some 0) [], iA (chk a b c d 0 0)]))
      (cond (decide (stpW a b c d s ≠ 0)) (cond (decide (W ((W (W (lenW a b c d + stpW a b c d s) - 1)).tdiv (stpW a b c d s)) > 9999)) (some (.tup [.fs 0 (some 0) [], iA 3]))
        (cond (wayOk a b c d (stpW a b c d s) (cmp3 c a) (cmp3 d b) (lenI a b c d) && decide (a = a) && decide (b = b))
          (cond (decide (0 + numW a b c d s * 2 = numW a b c d s * 2 + 0 ∧ numW a b c d s + 1 ≤ 1073741824)) (cond (decide (numW a b c d s + 1 = numW a b c d s + 1 ∧ (numW a b c d s + 1) * 2 < 900000))
            (some (.tup [.arr none shG (numW a b c d s + 1) (famW a b c d s), iA 0])) none) none) none)) none)) := by kernel_rfl
  simp only [List.mem_cons, Prod.mk.injEq, List.not_mem_nil, or_false] at hr
  have err : ∀ v : Int, v ≠ 0 → cenE a b c d s = v → bdA kC 2 fn_ref34_Centers ssC [pA a b, pA c d, iA s] some = some (.tup [.fs 0 (some 0) [], iA v]) → ∃ r', bdA kC 2 fn_ref34_Centers ssC [pA a b, pA c d, iA s] some = some r' ∧ ∀ m, Rel (uncapA r') m → Rel r m := by
    intro v hv h1 h2
    rw [h1] at hr
    rcases hr with ⟨h3, rfl⟩ | ⟨h3, rfl⟩ | ⟨h3, rfl⟩ | ⟨h3, _⟩
    · have := of_decide_eq_true h3.symm; subst this; exact ⟨_, h2, fun m hm => hm⟩
    · have := of_decide_eq_true h3.symm; subst this; exact ⟨_, h2, fun m hm => hm⟩
    · have := of_decide_eq_true h3.symm; subst this; exact ⟨_, h2, fun m hm => hm⟩
    · exact absurd (of_decide_eq_true h3.symm) hv
  by_cases h1 : s < 1
  · exact err 1 (by decide) (by rw [cenE, if_pos h1]) (by rw [e, decide_eq_true h1]; rfl)
  · by_cases h2 : chk a b c d 0 0 = 0
    · obtain ⟨g1, g2, g3, g4, g5, g6, g7, g8, g9, g10, g11⟩ := chk0 h2
      have hst : 1 ≤ stpW a b c d s ∧ stpW a b c d s ≤ lenI a b c d := by unfold stpW; rw [g2]; split <;> omega
      have hw : W ((W (W (lenW a b c d + stpW a b c d s) - 1)).tdiv (stpW a b c d s)) = (lenI a b c d + stpW a b c d s - 1).tdiv (stpW a b c d s) := by
        rw [g2, W_in (x := lenI a b c d + stpW a b c d s) (by omega), W_in (x := lenI a b c d + stpW a b c d s - 1) (by omega), W_in]
        rw [Int.tdiv_eq_ediv_of_nonneg (by omega)]
        have q1 : 0 ≤ (lenI a b c d + stpW a b c d s - 1) / stpW a b c d s := Int.ediv_nonneg (by omega) (by omega)
        have q2 : (lenI a b c d + stpW a b c d s - 1) / stpW a b c d s ≤ lenI a b c d + stpW a b c d s - 1 := Int.ediv_le_self _ (by omega)
        omega
      rw [hw, decide_eq_false h1, show (chk a b c d 0 0 != 0) = false by simp [h2], decide_eq_true (show stpW a b c d s ≠ 0 by omega)] at e
      by_cases h3 : (lenI a b c d + stpW a b c d s - 1).tdiv (stpW a b c d s) > 9999
      · exact err 3 (by decide) (by rw [cenE, if_neg h1, if_neg (by simp [h2]), if_pos h3]) (by rw [e, decide_eq_true h3]; rfl)
      · have hE : cenE a b c d s = 0 := by rw [cenE, if_neg h1, if_neg (by simp [h2]), if_neg h3]
        have hN : numW a b c d s ≤ 9999 := by
          unfold numW nCen
          rw [Int.tdiv_eq_ediv_of_nonneg (by omega)] at h3
          omega
        have hok : wayOk a b c d (stpW a b c d s) (cmp3 c a) (cmp3 d b) (lenI a b c d) = true := by
          simp only [wayOk, Bool.and_eq_true, decide_eq_true_eq]
          exact ⟨⟨⟨⟨hN, g1⟩, g3⟩, g4⟩, by omega⟩
        rw [decide_eq_false h3, hok, decide_eq_true (show a = a from rfl), decide_eq_true (show b = b from rfl), decide_eq_true (show 0 + numW a b c d s * 2 = numW a b c d s * 2 + 0 ∧ numW a b c d s + 1 ≤ 1073741824 by omega), decide_eq_true (show numW a b c d s + 1 = numW a b c d s + 1 ∧ (numW a b c d s + 1) * 2 < 900000 by omega)] at e
        rw [hE] at hr
        rcases hr with ⟨h4, _⟩ | ⟨h4, _⟩ | ⟨h4, _⟩ | ⟨_, rfl⟩
        · cases h4
        · cases h4
        · cases h4
        · exact ⟨_, e, fun m hm => hm⟩
    · refine err (chk a b c d 0 0) h2 (by rw [cenE, if_neg h1, if_pos h2]) ?_
      rw [e, decide_eq_false h1, show (chk a b c d 0 0 != 0) = true by simp [h2]]; rfl
end Go.Proofs.YtkeelkeoijemiaaGreat.Ev

namespace Go.Proofs.YtkeelkeoijemiaaGreat.Ev
open Go
set_option linter.unusedVariables false
set_option linter.unusedSimpArgs false

/-- A point by fractions; a pointer; a function with what it holds. -/
abbrev sV (K : Nat) : Shp (Rat × Rat × Unit) := sA (s2 (sQ K) (sQ K))
def sP {α : Type} (L : Shps α) : Shp α where
  dec | .cp cs => L.dec cs
      | _ => none
  enc x := .cp (L.enc x)
  ok a x h := by
    split at h
    · rename_i cs
      have h1 : ∀ m, Rel (uncapA (.cp cs)) m → Rel (.cp (L.enc x)) m := fun m hm => by
        obtain ⟨ms, r, rfl, h2⟩ := hm
        exact ⟨ms, r, rfl, (L.ok cs x h).2 ms h2⟩
      exact ⟨h1, cell1 rfl rfl h1⟩
    · cases h
def sF {α : Type} (f : FuncId) (L : Shps α) : Shp α where
  dec | .fn f' cs => if f' = f then L.dec cs else none
      | _ => none
  enc x := .fn f (L.enc x)
  ok a x h := by
    split at h
    · split at h
      · rename_i f' cs hf
        subst hf
        have h1 : ∀ m, Rel (uncapA (.fn f' cs)) m → Rel (.fn f' (L.enc x)) m := fun m hm => by
          obtain ⟨ms, rfl, h2⟩ := hm
          exact ⟨ms, rfl, (L.ok cs x h).1 ms h2⟩
        exact ⟨h1, cell1 rfl rfl h1⟩
      · cases h
    · cases h
theorem cmpQ_self (x : Rat) : cmpQ x x = 0 := by simp [cmpQ, Rat.lt_irrefl]
/-- The square of a distance. -/
def dsq (x y u v : Rat) : Rat := (u - x) * (u - x) + (v - y) * (v - y)
theorem dsq_comm (x y u v : Rat) : dsq u v x y = dsq x y u v := by unfold dsq; grind
noncomputable def k_toSeg : Ctr := mk1 kQ 4 fn_distance_toSegment (s3 (sV 9) (sV 9) (sV 9)) (fun ((x, y, _), (z, w, _), _) => decide (x = z) && decide (y = w)) (fun ((x, y, _), _, (u, v, _), _) => .q 77 (dsq x y u v)) rfl rfl (fun _ => rfl) fun ⟨⟨x, y, _⟩, ⟨z, w, _⟩, ⟨u, v, _⟩, _⟩ hc => by
  simp only [Bool.and_eq_true, decide_eq_true_eq] at hc
  obtain ⟨rfl, rfl⟩ := hc
  have h0 : ((x - x) * (u - x) + (y - y) * (v - y)) = 0 := by grind
  refine Eq.trans (b := cond (decide (cmpI ((x - x) * (u - x) + (y - y) * (v - y)).num 0 ≤ 0)) (some (.q 77 ((u - x) * (u - x) + (v - y) * (v - y)))) (cond (decide (cmpQ ((x - x) * (u - x) + (y - y) * (v - y)) ((x - x) * (x - x) + (y - y) * (y - y)) ≥ 0))
    (some (.q 77 ((u - x) * (u - x) + (v - y) * (v - y)))) (cond (true && decide ((x - x) * (x - x) + (y - y) * (y - y) ≠ 0)) (some (.q 231 (((x - x) * (v - y) - (y - y) * (u - x)) * ((x - x) * (v - y) - (y - y) * (u - x)) / ((x - x) * (x - x) + (y - y) * (y - y))))) (cond (decide ((x - x) * (x - x) + (y - y) * (y - y) = 0)) none none)))) (by kernel_rfl) ?_
  rw [h0]
  rfl
noncomputable def k_cross : Ctr := mk1 kQ 4 fn_distance_crossing (s4 (sV 9) (sV 9) (sV 9) (sV 9)) (fun ((x, y, _), (z, w, _), _) => decide (x = z) && decide (y = w)) (fun _ => bA false) rfl rfl (fun _ => rfl) fun ⟨⟨x, y, _⟩, ⟨z, w, _⟩, ⟨u, v, _⟩, ⟨s, t, _⟩, _⟩ hc => by
  simp only [Bool.and_eq_true, decide_eq_true_eq] at hc
  obtain ⟨rfl, rfl⟩ := hc
  have h0 : ∀ u v : Rat, ((x - x) * (v - y) - (y - y) * (u - x)) = 0 := by intro u v; grind
  refine Eq.trans (b := cond (decide (W (cmpI ((x - x) * (v - y) - (y - y) * (u - x)).num 0 * cmpI ((x - x) * (t - y) - (y - y) * (s - x)).num 0) < 0)) (some (bA (decide (W (cmpI ((s - u) * (y - v) - (t - v) * (x - u)).num 0 * cmpI ((s - u) * (y - v) - (t - v) * (x - u)).num 0) < 0)))) (some (bA false))) (by kernel_rfl) ?_
  rw [h0, h0]
  rfl
noncomputable def k_Seg : Ctr := mk1 (k_toSeg :: k_cross :: kQ) 3 fn_distance_Segments (s4 (sV 9) (sV 9) (sV 9) (sV 9)) (fun ((x, y, _), (z, w, _), (u, v, _), (s, t, _), _) => decide (x = z ∧ y = w ∧ u = s ∧ v = t)) (fun ((x, y, _), _, (u, v, _), _) => .q 77 (dsq x y u v)) rfl rfl (fun _ => rfl) fun ⟨⟨x, y, _⟩, ⟨z, w, _⟩, ⟨u, v, _⟩, ⟨s, t, _⟩, _⟩ hc => by
  obtain ⟨rfl, rfl, rfl, rfl⟩ := of_decide_eq_true hc
  refine Eq.trans (b := cond (decide (x = x) && decide (y = y)) (cond (decide (x = x) && decide (y = y)) (cond (decide (x = x) && decide (y = y)) (cond (decide (u = u) && decide (v = v)) (cond (decide (u = u) && decide (v = v)) (cond (decide (cmpQ (dsq x y u v) (dsq x y u v) < 0)) (cond (decide (cmpQ (dsq u v x y) (dsq x y u v) < 0)) (cond (decide (cmpQ (dsq u v x y) (dsq u v x y) < 0)) (some (.q 77 (dsq u v x y))) (some (.q 77 (dsq u v x y)))) (cond (decide (cmpQ (dsq u v x y) (dsq x y u v) < 0)) (some (.q 77 (dsq u v x y))) (some (.q 77 (dsq x y u v))))) (cond (decide (cmpQ (dsq u v x y) (dsq x y u v) < 0)) (cond (decide (cmpQ (dsq u v x y) (dsq u v x y) < 0)) (some (.q 77 (dsq u v x y))) (some (.q 77 (dsq u v x y)))) (cond (decide (cmpQ (dsq u v x y) (dsq x y u v) < 0)) (some (.q 77 (dsq u v x y))) (some (.q 77 (dsq x y u v)))))) none) none) none) none) none) (by kernel_rfl) ?_
  simp [dsq_comm x y u v, cmpQ_self]
/-- Does a circle's tool reach a point? -/
def nearI (x y : Int) (u v m : Rat) : Bool := decide (cmpQ (dsq (x : Rat) (y : Rat) u v) (m * m) ≤ 0)
abbrev sClo : Shp ((Rat × Rat × Unit) × (Rat × Unit) × Unit) := sF fn_trochoid_Swept_1 (s2 (sP (s2 (sQ 9) (sQ 9))) (sP (s1 (sQ 3))))
noncomputable def k_clo : Ctr := mk1 (k_Seg :: kQ) 3 fn_trochoid_Swept_1 (s3 sG (sP (s2 (sQ 9) (sQ 9))) (sP (s1 (sQ 3)))) (fun ((x, y, _), _) => decide (In64 x ∧ In64 y)) (fun ((x, y, _), (u, v, _), (m, _), _) => bA (nearI x y u v m)) rfl rfl (fun _ => rfl) fun ⟨⟨x, y, _⟩, ⟨u, v, _⟩, ⟨m, _⟩, _⟩ hc => by
  obtain ⟨h1, h2⟩ := of_decide_eq_true hc
  refine Eq.trans (b := cond (decide (In64 x)) (cond (decide (In64 y)) (cond (decide ((x : Rat) = (x : Rat) ∧ (y : Rat) = (y : Rat) ∧ u = u ∧ v = v)) (some (bA (nearI x y u v m))) none) none) none) (by kernel_rfl) ?_
  rw [decide_eq_true h1, decide_eq_true h2, decide_eq_true ⟨rfl, rfl, rfl, rfl⟩]
  rfl
end Go.Proofs.YtkeelkeoijemiaaGreat.Ev

namespace Go.Proofs.YtkeelkeoijemiaaGreat.Ev
open Go
set_option linter.unusedVariables false
set_option linter.unusedSimpArgs false

def anyF (p : Nat → Bool) : Nat → Nat → Bool
  | 0, _ => false
  | r + 1, i => p i || anyF p r (i + 1)
def srch (p : Nat → Bool) : Nat → Nat → Int
  | 0, _ => -1
  | r + 1, i => if p i = true then (i : Int) else srch p r (i + 1)
theorem srch_ge (p : Nat → Bool) : ∀ r i, decide (srch p r i ≥ 0) = anyF p r i
  | 0, _ => rfl
  | r + 1, i => by
    simp only [srch, anyF]
    by_cases h : p i = true
    · simp [h]
    · simpa [h] using srch_ge p r (i + 1)
theorem srch_none (p : Nat → Bool) : ∀ r i, anyF p r i = false → srch p r i = -1
  | 0, _, _ => rfl
  | r + 1, i, h => by
    simp only [anyF, Bool.or_eq_false_iff] at h
    simp [srch, h.1, srch_none p r (i + 1) h.2]
/-- Positions in range. -/
def okP (n : Nat) (F : Fam) : Bool := decide (n ≤ 100000 ∧ ∀ i, i < n → In64 (F.i i 0) ∧ In64 (F.i i 1))
def ptN (F : Fam) (u v m : Rat) (i : Nat) : Bool := nearI (F.i i 0) (F.i i 1) u v m
noncomputable abbrev kI : List Ctr := k_clo :: kQ
def sumI : List AV → List (Option EntA) → KA → Option AV
  | [.arr none [.i .i64, .i .i64] n F, .fn 50 [.cp [.q 9 u, .q 9 v], .cp [.q 3 m]], .sc (.int .i64 n'), .sc (.int .i64 i)], [], k =>
    gdK (decide (n' = n ∧ i = 0) && okP n F) (cond (anyF (ptN F u v m) n 0) (k .ret (mkSt 19 [(4, iA (srch (ptN F u v m) n 0))] [] 13)) (k (.exit 0) (mkSt 19 [] [] 3)))
  | _, _, _ => none
noncomputable abbrev spI : LSpec := ⟨[0, 1, 7, 8], [], [4], [], [], 19, sumI⟩
noncomputable def ssI : Nat → Option LSpec := fun j => if j = 0 then some spI else none
abbrev LI (n : Nat) (F : Fam) (u v m : Rat) (i : Int) : StA := mkSt 19 [(0, .arr none shG n F), (1, .fn 50 [.cp [.q 9 u, .q 9 v], .cp [.q 3 m]]), (7, iA n), (8, iA i)] []
theorem rI (D n : Nat) (F : Fam) (u v m : Rat) (i : Int) (Kn : StA → Option AV) (Ke : KA) : rdA (hC kI 1) (autoL (hC kI 1) fn_slices_IndexFunc_api_Grid2 ssI D) fn_slices_IndexFunc_api_Grid2 0 spI (LI n F u v m i) Kn Ke =
    cond (decide (i < (n : Int))) (cond (decide (0 ≤ i ∧ i < (n : Int))) (cond (decide (In64 (F.i i.toNat 0) ∧ In64 (F.i i.toNat 1))) (cond (nearI (F.i i.toNat 0) (F.i i.toNat 1) u v m) (Ke .ret (mkSt 19 [(4, iA i)] [] 13)) (Kn (LI n F u v m (W (i + 1))))) none) none) (Ke (.exit 0) (mkSt 19 [] [] 3)) := by kernel_rfl
theorem loopI (D : Nat) {n : Nat} {F : Fam} (u v m : Rat) (hF : n ≤ 100000 ∧ ∀ i, i < n → In64 (F.i i 0) ∧ In64 (F.i i 1)) (k : KA) : ∀ (r i fuel : Nat), i + r = n → r < fuel →
    unR (hC kI 1) (autoL (hC kI 1) fn_slices_IndexFunc_api_Grid2 ssI D) fn_slices_IndexFunc_api_Grid2 0 spI fuel (LI n F u v m i) k = cond (anyF (ptN F u v m) r i) (k .ret (mkSt 19 [(4, iA (srch (ptN F u v m) r i))] [] 13)) (k (.exit 0) (mkSt 19 [] [] 3))
  | 0, i, fuel + 1, hi, hf => by
    rw [unR_succ, rI, decide_eq_false (by omega)]; rfl
  | r + 1, i, fuel + 1, hi, hf => by
    rw [unR_succ, rI, decide_eq_true (show (i : Int) < (n : Int) by omega), decide_eq_true (show 0 ≤ (i : Int) ∧ (i : Int) < (n : Int) by omega), Int.toNat_natCast, decide_eq_true (hF.2 i (by omega))]
    simp only [cond_true, anyF, srch]
    change cond (ptN F u v m i) _ _ = _
    cases h : ptN F u v m i with
    | true => simp
    | false =>
      rw [W_in (by omega), show ((i : Int) + 1) = ((i + 1 : Nat) : Int) by omega, loopI D u v m hF k r (i + 1) fuel (by omega) (by omega)]
      simp
theorem okI : SpecOK (hC kI 1) fn_slices_IndexFunc_api_Grid2 ssI := by
  intro D j x hs sv ev k r h
  unfold ssI at hs
  split at hs
  · rename_i hj
    subst hj
    cases hs
    simp only [sumI] at h
    split at h
    · rename_i n F u v m n' i
      obtain ⟨h1, h2⟩ := gdK_some h
      simp only [Bool.and_eq_true, decide_eq_true_eq, okP] at h1
      obtain ⟨⟨rfl, rfl⟩, h3⟩ := h1
      rw [← h2, ← loopI D u v m h3 k n 0 FUEL (by omega) (by unfold FUEL; omega)]
      rfl
    · cases h
  · cases hs
noncomputable def k_Index : Ctr := mkT kI 1 fn_slices_IndexFunc_api_Grid2 (s2 (sArr shG) sClo) (fun ((n, F), ((u, v, _), (m, _), _), _) => [(okP n F, iA (srch (ptN F u v m) n 0))]) rfl rfl okI fun ⟨⟨n, F⟩, ⟨⟨u, v, _⟩, ⟨m, _⟩, _⟩, _⟩ r hr => by
  simp only [List.mem_singleton, Prod.mk.injEq] at hr
  obtain ⟨h1, rfl⟩ := hr
  have e : bdA kI 1 fn_slices_IndexFunc_api_Grid2 ssI [.arr none shG n F, .fn 50 [.cp [.q 9 u, .q 9 v], .cp [.q 3 m]]] some = cond (decide ((n : Int) = n ∧ (0 : Int) = 0) && okP n F) (cond (anyF (ptN F u v m) n 0) (some (iA (srch (ptN F u v m) n 0))) (some (iA (-1)))) none := by kernel_rfl
  refine ⟨iA (srch (ptN F u v m) n 0), e.trans ?_, fun m hm => hm⟩
  rw [← h1]
  cases h : anyF (ptN F u v m) n 0 with
  | true => simp
  | false => rw [srch_none _ _ _ h]; simp
/-- Is a point swept? -/
def swept (n : Nat) (F : Fam) (r t : Int) (x y : Rat) : Bool := decide (1 ≤ r ∧ r ≤ t ∧ t ≤ 10000000) && anyF (ptN F x y ((r + t : Int) : Rat)) n 0
noncomputable def k_Swept : Ctr := mk1 (k_Index :: kQ) 3 fn_trochoid_Swept (s4 (sArr shG) sI sI (sV 9)) (fun ((n, F), _) => okP n F) (fun ((n, F), r, t, (x, y, _), _) => bA (swept n F r t x y)) rfl rfl (fun _ => rfl) fun ⟨⟨n, F⟩, r, t, ⟨x, y, _⟩, _⟩ hc => by
  refine Eq.trans (b := cond (decide (r < 1)) (some (bA false)) (cond (decide (r > t)) (some (bA false)) (cond (decide (t > 10000000)) (some (bA false)) (cond (decide (In64 (W (r + t)))) (cond (okP n F) (some (bA (decide (srch (ptN F x y (W (r + t) : Int)) n 0 ≥ 0)))) none) none)))) (by kernel_rfl) ?_
  dsimp only [swept]
  by_cases h : 1 ≤ r ∧ r ≤ t ∧ t ≤ 10000000
  · rw [decide_eq_false (by omega), decide_eq_false (by omega), decide_eq_false (by omega), W_in (by omega), decide_eq_true (by omega), show okP n F = true from hc, decide_eq_true h, srch_ge]; rfl
  · rw [decide_eq_false h]
    by_cases h1 : r < 1
    · rw [decide_eq_true h1]; rfl
    · by_cases h2 : r > t
      · rw [decide_eq_false h1, decide_eq_true h2]; rfl
      · rw [decide_eq_false h1, decide_eq_false h2, decide_eq_true (by omega)]; rfl

/-! The reference's. -/
def ptR (F : Fam) (x y m : Rat) (i : Nat) : Bool := decide (cmpQ ((x - (F.i i 0 : Int)) * (x - (F.i i 0 : Int)) + (y - (F.i i 1 : Int)) * (y - (F.i i 1 : Int))) (m * m) ≤ 0)
theorem ptR_eq (F : Fam) (x y m : Rat) : ptR F x y m = ptN F x y m := rfl
noncomputable abbrev kJ : List Ctr := kR
def sumS : List AV → List (Option EntA) → KA → Option AV
  | [.arr none [.i .i64, .i .i64] n F, .sc (.int .i64 r), .sc (.int .i64 t), .ptr 7 1 0, .sc (.int .i64 i)], [some ⟨1, [.q 9 x, .q 9 y], false⟩], k =>
    gdK (decide (i = 0 ∧ In64 (r + t)) && okP n F) (cond (anyF (ptN F x y ((r + t : Int) : Rat)) n 0) (k .ret (mkSt 52 [(8, bA true)] [] 41)) (k (.exit 0) (mkSt 52 [] [] 6)))
  | _, _, _ => none
noncomputable abbrev spS : LSpec := ⟨[0, 1, 2, 7, 9], [7], [8], [], [], 52, sumS⟩
noncomputable def ssS : Nat → Option LSpec := fun j => if j = 0 then some spS else none
abbrev LS (n : Nat) (F : Fam) (r t : Int) (x y : Rat) (i : Int) : StA := mkSt 52 [(0, .arr none shG n F), (1, iA r), (2, iA t), (7, .ptr 7 1 0), (9, iA i)] [(7, ⟨1, [.q 9 x, .q 9 y], false⟩)]
theorem rS (D n : Nat) (F : Fam) (r t : Int) (x y : Rat) (i : Int) (Kn : StA → Option AV) (Ke : KA) : rdA (hC kJ 2) (autoL (hC kJ 2) fn_ref34_Swept ssS D) fn_ref34_Swept 0 spS (LS n F r t x y i) Kn Ke =
    cond (decide (i < (n : Int))) (cond (decide (0 ≤ i ∧ i < (n : Int))) (cond (decide (In64 (F.i i.toNat 0))) (cond (decide (0 ≤ i ∧ i < (n : Int))) (cond (decide (In64 (F.i i.toNat 1))) (cond (decide (In64 (W (r + t)))) (cond (ptR F x y (W (r + t) : Int) i.toNat) (Ke .ret (mkSt 52 [(8, bA true)] [] 41)) (Kn (LS n F r t x y (W (i + 1))))) none) none) none) none) none) (Ke (.exit 0) (mkSt 52 [] [] 6)) := by kernel_rfl
theorem loopS (D : Nat) {n : Nat} {F : Fam} {r t : Int} (x y : Rat) (hr : In64 (r + t)) (hF : n ≤ 100000 ∧ ∀ i, i < n → In64 (F.i i 0) ∧ In64 (F.i i 1)) (k : KA) : ∀ (q i fuel : Nat), i + q = n → q < fuel →
    unR (hC kJ 2) (autoL (hC kJ 2) fn_ref34_Swept ssS D) fn_ref34_Swept 0 spS fuel (LS n F r t x y i) k = cond (anyF (ptN F x y ((r + t : Int) : Rat)) q i) (k .ret (mkSt 52 [(8, bA true)] [] 41)) (k (.exit 0) (mkSt 52 [] [] 6))
  | 0, i, fuel + 1, hi, hf => by
    rw [unR_succ, rS, decide_eq_false (by omega)]; rfl
  | q + 1, i, fuel + 1, hi, hf => by
    rw [unR_succ, rS, decide_eq_true (show (i : Int) < (n : Int) by omega), decide_eq_true (show 0 ≤ (i : Int) ∧ (i : Int) < (n : Int) by omega), Int.toNat_natCast, decide_eq_true (hF.2 i (by omega)).1, decide_eq_true (hF.2 i (by omega)).2, W_in (x := r + t) (by omega), decide_eq_true hr, ptR_eq]
    simp only [cond_true, anyF]
    cases h : ptN F x y ((r + t : Int) : Rat) i with
    | true => simp
    | false =>
      rw [W_in (by omega), show ((i : Int) + 1) = ((i + 1 : Nat) : Int) by omega, loopS D x y hr hF k q (i + 1) fuel (by omega) (by omega)]
      simp
theorem okS : SpecOK (hC kJ 2) fn_ref34_Swept ssS := by
  intro D j z hs sv ev k w h
  unfold ssS at hs
  split at hs
  · rename_i hj
    subst hj
    cases hs
    simp only [sumS] at h
    split at h
    · rename_i n F r t i x y
      obtain ⟨h1, h2⟩ := gdK_some h
      simp only [Bool.and_eq_true, decide_eq_true_eq, okP] at h1
      obtain ⟨⟨rfl, hr⟩, h3⟩ := h1
      rw [← h2, ← loopS D x y hr h3 k n 0 FUEL (by omega) (by unfold FUEL; omega)]
      rfl
    · cases h
  · cases hs
noncomputable def r_Swept : Ctr := mkT kJ 2 fn_ref34_Swept (s4 (sArr shG) sI sI (sV 9)) (fun ((n, F), r, t, (x, y, _), _) => [(okP n F, bA (swept n F r t x y))]) rfl rfl okS fun ⟨⟨n, F⟩, r, t, ⟨x, y, _⟩, _⟩ w hr => by
  simp only [List.mem_singleton, Prod.mk.injEq] at hr
  obtain ⟨h1, rfl⟩ := hr
  refine ⟨bA (swept n F r t x y), Eq.trans (b := cond (decide (r ≥ 1)) (cond (decide (r ≤ t)) (cond (!decide (t ≤ 10000000)) (some (bA false)) (cond (decide ((0 : Int) = 0 ∧ In64 (r + t)) && okP n F) (cond (anyF (ptN F x y ((r + t : Int) : Rat)) n 0) (some (bA true)) (some (bA false))) none)) (some (bA false))) (some (bA false))) (by kernel_rfl) ?_, fun m hm => hm⟩
  rw [← h1]
  by_cases h : 1 ≤ r ∧ r ≤ t ∧ t ≤ 10000000
  · rw [decide_eq_true (show r ≥ 1 by omega), decide_eq_true h.2.1, decide_eq_true h.2.2, decide_eq_true (show (0 : Int) = 0 ∧ In64 (r + t) by omega)]
    dsimp only [swept]
    rw [decide_eq_true h]
    cases anyF (ptN F x y ((r + t : Int) : Rat)) n 0 <;> rfl
  · dsimp only [swept]
    rw [decide_eq_false h]
    by_cases h1 : r ≥ 1
    · by_cases h2 : r ≤ t
      · rw [decide_eq_true h1, decide_eq_true h2, decide_eq_false (by omega)]; rfl
      · rw [decide_eq_true h1, decide_eq_false h2]; rfl
    · rw [decide_eq_false h1]; rfl
end Go.Proofs.YtkeelkeoijemiaaGreat.Ev

namespace Go.Proofs.YtkeelkeoijemiaaGreat.Ev
open Go
set_option linter.unusedVariables false
set_option linter.unusedSimpArgs false

theorem cmpQ_le (p q : Rat) : decide (cmpQ p q ≤ 0) = decide (p ≤ q) := by
  unfold cmpQ
  by_cases h : p < q
  · rw [if_pos h]; have := Rat.le_of_lt h; simp [this]
  · by_cases h2 : q < p
    · rw [if_neg h, if_pos h2]; have := Rat.not_le.2 h2; simp [this]
    · rw [if_neg h, if_neg h2]; have := Rat.not_lt.1 h2; simp [this]
theorem half (x : Int) : Rat.divInt x 2 = (x : Rat) / 2 := by
  rw [Rat.divInt_eq_div]; rfl
theorem le4 {p q : Rat} {A B : Int} (hp : 4 * p = (A : Rat)) (hq : 4 * q = (B : Rat)) : p ≤ q ↔ A ≤ B := by
  rw [← Rat.intCast_le_intCast, ← hp, ← hq]
  constructor <;> intro h <;> grind
theorem anyF_of (p : Nat → Bool) : ∀ (r i j : Nat), i ≤ j → j < i + r → p j = true → anyF p r i = true
  | 0, i, j, h1, h2, _ => by omega
  | r + 1, i, j, h1, h2, h => by
    simp only [anyF, Bool.or_eq_true]
    by_cases hj : j = i
    · subst hj; exact .inl h
    · exact .inr (anyF_of p r (i + 1) j (by omega) (by omega) h)
/-- The place on a way: between two centers. -/
theorem between {L s X : Int} (hs : 1 ≤ s) (hl : s ≤ L) (h0 : 0 ≤ X) (h1 : X ≤ 2 * L) : ∃ (j : Nat) (p : Int), j ≤ nCen L s ∧ p = (if j < nCen L s then (j : Int) * s else L) ∧ -s ≤ X - 2 * p ∧ X - 2 * p ≤ s := by
  -- the nearest multiple, or the end
  have hq := Int.mul_ediv_add_emod (X + s) (2 * s)
  have hm := Int.emod_nonneg (X + s) (show 2 * s ≠ 0 by omega)
  have hm2 := Int.emod_lt_of_pos (X + s) (show 0 < 2 * s by omega)
  have hq0 : 0 ≤ (X + s) / (2 * s) := Int.ediv_nonneg (by omega) (by omega)
  generalize hqq : (X + s) / (2 * s) = q at hq hq0
  generalize (X + s) % (2 * s) = m at hq hm hm2
  have e : 2 * s * q = 2 * (q * s) := by rw [Int.mul_assoc, Int.mul_comm s q]
  by_cases hj : q.toNat < nCen L s
  · exact ⟨q.toNat, q * s, by omega, by rw [if_pos hj, Int.toNat_of_nonneg hq0], by omega, by omega⟩
  · refine ⟨nCen L s, L, Nat.le_refl _, by rw [if_neg (Nat.lt_irrefl _)], ?_, by omega⟩
    have : ¬ 0 < L - (q.toNat : Int) * s := fun h => hj ((nCen_mem (L := L) hs (by omega) q.toNat).2 h)
    rw [Int.toNat_of_nonneg hq0] at this
    omega
theorem sq_le {x s : Int} (h1 : -s ≤ x) (h2 : x ≤ s) : x * x ≤ s * s := by
  have : 0 ≤ (s - x) * (s + x) := Int.mul_nonneg (by omega) (by omega)
  grind
theorem reach_le {X Y R s p : Int} (hs : 0 ≤ s) (hR : s ≤ 2 * R) (h1 : -s ≤ X - 2 * p) (h2 : X - 2 * p ≤ s) (hy : Y * Y ≤ (2 * R - s) * (2 * R - s)) : (X - 2 * p) * (X - 2 * p) + Y * Y ≤ 2 * R * (2 * R) := by
  have h3 := sq_le h1 h2
  have h4 : 0 ≤ s * (2 * R - s) := Int.mul_nonneg hs (by omega)
  grind
/-- Centers, as they are told. -/
theorem famW_i {a b c d s : Int} {j : Nat} (h : chk a b c d 0 0 = 0) (hj : j ≤ numW a b c d s) (p : Int) (hp : p = (if j < numW a b c d s then (j : Int) * stpW a b c d s else lenI a b c d)) :
    (famW a b c d s).i j 0 = a + p * cmp3 c a ∧ (famW a b c d s).i j 1 = b + p * cmp3 d b := by
  obtain ⟨g1, g2, g3, g4, _⟩ := chk0 h
  unfold famW
  simp only [Fam.snoc]
  by_cases hn : j = numW a b c d s
  · rw [if_pos hn, if_pos hn]
    rw [if_neg (by omega)] at hp
    subst hp
    simp only [elI, El.setI]
    constructor <;> simp <;> omega
  · rw [if_neg hn, if_neg hn, famN_i (by omega), famN_i (by omega)]
    rw [if_pos (by omega)] at hp
    subst hp
    simp [eC, elI, El.setI]
theorem near_of {x y v0 v1 dx dy p R : Int} {a b : Int} (hd : dirOk dx dy = true) (hx : x = a + p * dx) (hy : y = b + p * dy) (h : (v0 * dx + v1 * dy - 2 * p) * (v0 * dx + v1 * dy - 2 * p) + (v0 * dy + v1 * dx) * (v0 * dy + v1 * dx) ≤ 2 * R * (2 * R)) :
    nearI x y ((a : Rat) + Rat.divInt v0 2) ((b : Rat) + Rat.divInt v1 2) (R : Rat) = true := by
  unfold nearI
  rw [cmpQ_le, decide_eq_true_eq, half, half]
  refine (le4 (A := (v0 - 2 * p * dx) * (v0 - 2 * p * dx) + (v1 - 2 * p * dy) * (v1 - 2 * p * dy)) (B := 2 * R * (2 * R)) ?_ ?_).2 ?_
  · subst hx hy; unfold dsq; push_cast; grind
  · push_cast; grind
  · refine Int.le_trans (Int.le_of_eq ?_) h
    rcases dir_cases hd with ⟨rfl, rfl⟩ | ⟨rfl, rfl⟩ | ⟨rfl, rfl⟩ | ⟨rfl, rfl⟩ <;> grind
/-- What is near enough to the way is swept. -/
theorem swept_of {a b c d s r t v0 v1 : Int} (h : chk a b c d 0 0 = 0) (hs : 1 ≤ s) (h1 : 1 ≤ r) (h2 : r ≤ t) (h3 : t ≤ 10000000) (h4 : s ≤ r) (hx : 0 ≤ v0 * cmp3 c a + v1 * cmp3 d b) (hL : v0 * cmp3 c a + v1 * cmp3 d b ≤ 2 * lenI a b c d)
    (hy : (v0 * cmp3 d b + v1 * cmp3 c a) * (v0 * cmp3 d b + v1 * cmp3 c a) ≤ (2 * (r + t) - s) * (2 * (r + t) - s)) :
    swept (numW a b c d s + 1) (famW a b c d s) r t ((a : Rat) + Rat.divInt v0 2) ((b : Rat) + Rat.divInt v1 2) = true := by
  obtain ⟨g1, g2, g3, g4, g5, g6, _⟩ := chk0 h
  have hst : 1 ≤ stpW a b c d s ∧ stpW a b c d s ≤ lenI a b c d ∧ stpW a b c d s ≤ s := by unfold stpW; rw [g2]; split <;> omega
  obtain ⟨j, p, hj, hp, b1, b2⟩ := between hst.1 hst.2.1 hx hL
  obtain ⟨f1, f2⟩ := famW_i h hj p hp
  simp only [swept, Bool.and_eq_true, decide_eq_true_eq]
  refine ⟨⟨h1, h2, h3⟩, anyF_of _ _ _ j (by omega) (by unfold numW; omega) ?_⟩
  exact near_of g1 f1 f2 (reach_le (s := s) (by omega) (by omega) (by omega) (by omega) hy)
theorem okP_of {a b c d s : Int} (h : chk a b c d 0 0 = 0) (hs : 1 ≤ s) (hN : numW a b c d s ≤ 9999) : okP (numW a b c d s + 1) (famW a b c d s) = true := by
  obtain ⟨g1, g2, g3, g4, g5, g6, _⟩ := chk0 h
  have hst : 1 ≤ stpW a b c d s ∧ stpW a b c d s ≤ lenI a b c d ∧ stpW a b c d s ≤ s := by unfold stpW; rw [g2]; split <;> omega
  unfold okP
  rw [decide_eq_true_eq]
  refine ⟨by omega, fun j hj => ?_⟩
  obtain ⟨f1, f2⟩ := famW_i (s := s) h (j := j) (by omega) _ rfl
  have hp : 0 ≤ (if j < numW a b c d s then (j : Int) * stpW a b c d s else lenI a b c d) ∧ (if j < numW a b c d s then (j : Int) * stpW a b c d s else lenI a b c d) ≤ 40000000 := by
    split
    · have := stepP (i := j) hst.1 (by unfold numW at hj; omega) g5 hst.2.1; omega
    · omega
  rw [f1, f2]
  generalize (if j < numW a b c d s then (j : Int) * stpW a b c d s else lenI a b c d) = p at hp
  rcases dir_cases g1 with ⟨e1, e2⟩ | ⟨e1, e2⟩ | ⟨e1, e2⟩ | ⟨e1, e2⟩ <;> rw [e1, e2] <;> omega
end Go.Proofs.YtkeelkeoijemiaaGreat.Ev

namespace Go.Proofs.YtkeelkeoijemiaaGreat.Ev
open Go
noncomputable def k_awake : Ctr := mk1 (kQ ++ kR) 20 fn_law34_awake sN (fun _ => true) (fun _ => bA true) rfl rfl (fun _ => rfl) fun _ _ => by kernel_rfl
end Go.Proofs.YtkeelkeoijemiaaGreat.Ev

namespace Go.Proofs.YtkeelkeoijemiaaGreat.Ev
open Go
set_option linter.unusedVariables false
set_option linter.unusedSimpArgs false

theorem cen0 {a b c d s : Int} (h : cenE a b c d s = 0) : 1 ≤ s ∧ chk a b c d 0 0 = 0 ∧ numW a b c d s ≤ 9999 := by
  unfold cenE at h
  split at h
  · cases h
  · rename_i h1
    split at h
    · rename_i h2; exact absurd h h2
    · rename_i h2
      split at h
      · cases h
      · rename_i h3
        have h2 : chk a b c d 0 0 = 0 := by simpa using h2
        obtain ⟨g1, g2, g3, g4, g5, g6, _⟩ := chk0 h2
        have hst : 1 ≤ stpW a b c d s := by unfold stpW; rw [g2]; split <;> omega
        refine ⟨by omega, h2, ?_⟩
        unfold numW nCen
        rw [Int.tdiv_eq_ediv_of_nonneg (by omega)] at h3
        omega
theorem cenE_cases (a b c d s : Int) : cenE a b c d s = 1 ∨ cenE a b c d s = 11 ∨ cenE a b c d s = 3 ∨ cenE a b c d s = 0 := by
  unfold cenE chk; repeat' split
  all_goals simp_all
theorem num_nonneg (x : Int) : decide (cmpI (Rat.divInt x 2).num 0 ≥ 0) = decide (0 ≤ x) := by
  have h : 0 ≤ (Rat.divInt x 2).num ↔ 0 ≤ x := by
    rw [Rat.num_nonneg, half]
    have h2 : (0 : Rat) ≤ (x : Rat) / 2 ↔ (0 : Rat) ≤ (x : Rat) := by constructor <;> intro h <;> grind
    rw [h2, show (0 : Rat) = ((0 : Int) : Rat) from rfl, Rat.intCast_le_intCast]
  by_cases hx : 0 ≤ x
  · have := h.2 hx
    rw [decide_eq_true hx, decide_eq_true]; unfold cmpI; split <;> (try split) <;> omega
  · have := mt h.1 hx
    rw [decide_eq_false hx, decide_eq_false]; unfold cmpI; split <;> (try split) <;> omega
theorem half_le (x L : Int) : decide (cmpQ (Rat.divInt x 2) (L : Rat) ≤ 0) = decide (x ≤ 2 * L) := by
  rw [cmpQ_le]
  congr 1
  rw [half, eq_iff_iff, ← Rat.intCast_le_intCast]
  push_cast
  constructor <;> intro h <;> grind
theorem sq_half (y R s : Int) : decide (cmpQ (Rat.divInt y 2 * Rat.divInt y 2) (((R : Rat) - Rat.divInt s 2) * ((R : Rat) - Rat.divInt s 2)) ≤ 0) = decide (y * y ≤ (2 * R - s) * (2 * R - s)) := by
  rw [cmpQ_le]
  congr 1
  rw [half, half, eq_iff_iff]
  refine le4 ?_ ?_ <;> push_cast <;> grind
abbrev In16 (n : Int) : Prop := -32768 ≤ n ∧ n ≤ 32767
noncomputable abbrev kSw : List Ctr := k_awake :: k_Centers :: k_Direction :: k_Swept :: r_Swept :: kR
abbrev P2 (a v : Int) : Rat := (a : Rat) + Rat.divInt (W v) 2
theorem law_Swept {a b c d r s z w t v0 v1 : Int} (ha : In64 a) (hb : In64 b) (hs : In64 s) (h0 : In16 v0) (h1 : In16 v1) :
    bdA kSw 3 fn_law34_TrochoidSwept noSp [.agg [iA a, iA b, iA c, iA d, iA r, iA s, iA z, iA w], iA t, .agg [.sc (.int .i16 v0), .sc (.int .i16 v1)]] some = some (bA true) := by
  have e : bdA kSw 3 fn_law34_TrochoidSwept noSp [.agg [iA a, iA b, iA c, iA d, iA r, iA s, iA z, iA w], iA t, .agg [.sc (.int .i16 v0), .sc (.int .i16 v1)]] some =
      cond (decide (cenE a b c d s = 1)) (some (bA true)) (cond (decide (cenE a b c d s = 11)) (some (bA true)) (cond (decide (cenE a b c d s = 3)) (some (bA true)) (cond (decide (cenE a b c d s = 0))
      (cond (decide (((numW a b c d s + 1 : Nat) : Int) > 60)) (some (bA true)) (cond (decide (In64 a)) (cond (decide (In64 (W v0) ∧ In64 2)) (cond (decide (In64 b)) (cond (decide (In64 (W v1) ∧ In64 2))
        (cond (okP (numW a b c d s + 1) (famW a b c d s)) (cond (okP (numW a b c d s + 1) (famW a b c d s))
          (cond (!swept (numW a b c d s + 1) (famW a b c d s) r t (P2 a v0) (P2 b v1) == swept (numW a b c d s + 1) (famW a b c d s) r t (P2 a v0) (P2 b v1))
            (cond (okP (numW a b c d s + 1) (famW a b c d s)) (some (bA (swept (numW a b c d s + 1) (famW a b c d s) r t (P2 a v0) (P2 b v1) == swept (numW a b c d s + 1) (famW a b c d s) r t (P2 a v0) (P2 b v1)))) none)
          (cond (decide (r < 1)) (cond (okP (numW a b c d s + 1) (famW a b c d s)) (some (bA (swept (numW a b c d s + 1) (famW a b c d s) r t (P2 a v0) (P2 b v1) == swept (numW a b c d s + 1) (famW a b c d s) r t (P2 a v0) (P2 b v1)))) none)
          (cond (decide (r > t)) (cond (okP (numW a b c d s + 1) (famW a b c d s)) (some (bA (swept (numW a b c d s + 1) (famW a b c d s) r t (P2 a v0) (P2 b v1) == swept (numW a b c d s + 1) (famW a b c d s) r t (P2 a v0) (P2 b v1)))) none)
          (cond (decide (t > 10000000)) (cond (okP (numW a b c d s + 1) (famW a b c d s)) (some (bA (swept (numW a b c d s + 1) (famW a b c d s) r t (P2 a v0) (P2 b v1) == swept (numW a b c d s + 1) (famW a b c d s) r t (P2 a v0) (P2 b v1)))) none)
          (cond (decide (s > r)) (cond (okP (numW a b c d s + 1) (famW a b c d s)) (some (bA (swept (numW a b c d s + 1) (famW a b c d s) r t (P2 a v0) (P2 b v1) == swept (numW a b c d s + 1) (famW a b c d s) r t (P2 a v0) (P2 b v1)))) none)
          (cond (decide (In64 (W (W (W v0 * cmp3 c a) + W (W v1 * cmp3 d b))) ∧ In64 2)) (cond (decide (In64 (W (W (W v0 * cmp3 d b) + W (W v1 * cmp3 c a))) ∧ In64 2)) (cond (decide (In64 (lenW a b c d))) (cond (decide (In64 (W (r + t)))) (cond (decide (In64 s ∧ In64 2))
            (cond (decide (cmpI (Rat.divInt (W (W (W v0 * cmp3 c a) + W (W v1 * cmp3 d b))) 2).num 0 ≥ 0))
              (cond (decide (cmpQ (Rat.divInt (W (W (W v0 * cmp3 c a) + W (W v1 * cmp3 d b))) 2) (lenW a b c d : Int) ≤ 0))
                (cond (swept (numW a b c d s + 1) (famW a b c d s) r t (P2 a v0) (P2 b v1)) (some (bA true)) (some (bA (!decide (cmpQ (Rat.divInt (W (W (W v0 * cmp3 d b) + W (W v1 * cmp3 c a))) 2 * Rat.divInt (W (W (W v0 * cmp3 d b) + W (W v1 * cmp3 c a))) 2) (((W (r + t) : Int) - Rat.divInt s 2) * ((W (r + t) : Int) - Rat.divInt s 2)) ≤ 0)))))
                (cond (swept (numW a b c d s + 1) (famW a b c d s) r t (P2 a v0) (P2 b v1)) (some (bA true)) (some (bA true))))
              (cond (swept (numW a b c d s + 1) (famW a b c d s) r t (P2 a v0) (P2 b v1)) (some (bA true)) (some (bA true))))
            none) none) none) none) none)))))) none) none) none) none) none) none)) none))) := by kernel_rfl
  rw [e]
  clear e
  rcases cenE_cases a b c d s with h | h | h | h
  · rw [h]; rfl
  · rw [h]; rfl
  · rw [h]; rfl
  obtain ⟨hs1, hc, hN⟩ := cen0 h
  have hok := okP_of hc hs1 hN
  obtain ⟨g1, g2, g3, g4, g5, g6, _⟩ := chk0 hc
  have dir : -1 ≤ cmp3 c a ∧ cmp3 c a ≤ 1 ∧ -1 ≤ cmp3 d b ∧ cmp3 d b ≤ 1 := by rcases dir_cases g1 with ⟨e1, e2⟩ | ⟨e1, e2⟩ | ⟨e1, e2⟩ | ⟨e1, e2⟩ <;> omega
  have mulb : ∀ x y : Int, In16 x → -1 ≤ y ∧ y ≤ 1 → -32768 ≤ x * y ∧ x * y ≤ 32768 := by
    intro x y hx hy
    have : y = -1 ∨ y = 0 ∨ y = 1 := by omega
    rcases this with rfl | rfl | rfl <;> omega
  have m1 := mulb v0 (cmp3 c a) h0 (by omega)
  have m2 := mulb v1 (cmp3 d b) h1 (by omega)
  have m3 := mulb v0 (cmp3 d b) h0 (by omega)
  have m4 := mulb v1 (cmp3 c a) h1 (by omega)
  have w0 : W v0 = v0 := W_in (by omega)
  have w1 : W v1 = v1 := W_in (by omega)
  have wx : W (W (v0 * cmp3 c a) + W (v1 * cmp3 d b)) = v0 * cmp3 c a + v1 * cmp3 d b := by rw [W_in (x := v0 * cmp3 c a) (by omega), W_in (x := v1 * cmp3 d b) (by omega), W_in (by omega)]
  have wy : W (W (v0 * cmp3 d b) + W (v1 * cmp3 c a)) = v0 * cmp3 d b + v1 * cmp3 c a := by rw [W_in (x := v0 * cmp3 d b) (by omega), W_in (x := v1 * cmp3 c a) (by omega), W_in (by omega)]
  have p0 : P2 a v0 = (a : Rat) + Rat.divInt v0 2 := by rw [P2, w0]
  have p1 : P2 b v1 = (b : Rat) + Rat.divInt v1 2 := by rw [P2, w1]
  rw [h, hok, p0, p1, w0, w1, wx, wy, g2]
  have tr : ∀ x : Bool, (!x == x) = false := by intro x; cases x <;> rfl
  have tr2 : ∀ x : Bool, (x == x) = true := by intro x; cases x <;> rfl
  rw [tr, tr2]
  generalize hG : swept (numW a b c d s + 1) (famW a b c d s) r t ((a : Rat) + Rat.divInt v0 2) ((b : Rat) + Rat.divInt v1 2) = G
  rw [decide_eq_true ha, decide_eq_true (show In64 v0 ∧ In64 2 by omega), decide_eq_true hb, decide_eq_true (show In64 v1 ∧ In64 2 by omega), decide_eq_true (show In64 (v0 * cmp3 c a + v1 * cmp3 d b) ∧ In64 2 by omega), decide_eq_true (show In64 (v0 * cmp3 d b + v1 * cmp3 c a) ∧ In64 2 by omega), decide_eq_true (show In64 (lenI a b c d) by omega), decide_eq_true (show In64 s ∧ In64 2 by omega), num_nonneg, half_le]
  simp only [show decide ((0 : Int) = 1) = false from rfl, show decide ((0 : Int) = 11) = false from rfl, show decide ((0 : Int) = 3) = false from rfl, show decide ((0 : Int) = 0) = true from rfl, cond_true, cond_false]
  by_cases b0 : ((numW a b c d s + 1 : Nat) : Int) > 60
  · rw [decide_eq_true b0]; rfl
  rw [decide_eq_false b0]
  by_cases b1 : r < 1
  · rw [decide_eq_true b1]; rfl
  rw [decide_eq_false b1]
  by_cases b2 : r > t
  · rw [decide_eq_true b2]; rfl
  rw [decide_eq_false b2]
  by_cases b3 : t > 10000000
  · rw [decide_eq_true b3]; rfl
  rw [decide_eq_false b3]
  by_cases b4 : s > r
  · rw [decide_eq_true b4]; rfl
  rw [decide_eq_false b4, W_in (x := r + t) (by omega), decide_eq_true (show In64 (r + t) by omega), sq_half]
  simp only [cond_true, cond_false, decide_true]
  by_cases b5 : 0 ≤ v0 * cmp3 c a + v1 * cmp3 d b
  · by_cases b6 : v0 * cmp3 c a + v1 * cmp3 d b ≤ 2 * lenI a b c d
    · by_cases b7 : (v0 * cmp3 d b + v1 * cmp3 c a) * (v0 * cmp3 d b + v1 * cmp3 c a) ≤ (2 * (r + t) - s) * (2 * (r + t) - s)
      · have := swept_of hc hs1 (by omega) (by omega) (by omega) (by omega) b5 b6 b7
        rw [hG] at this
        rw [this, decide_eq_true b5, decide_eq_true b6]; rfl
      · rw [decide_eq_true b5, decide_eq_true b6, decide_eq_false b7]; cases G <;> rfl
    · rw [decide_eq_true b5, decide_eq_false b6]; cases G <;> rfl
  · rw [decide_eq_false b5]; cases G <;> rfl
noncomputable def nSw : Nat := tabL kSw + 3 + 1
theorem callSw {x0 x1 x2 x3 x4 x5 x6 x7 x8 x9 x10 : Int} (h0 : In64 x0) (h1 : In64 x1) (h2 : In64 x2) (h3 : In64 x3) (h4 : In64 x4) (h5 : In64 x5) (h6 : In64 x6) (h7 : In64 x7) (h8 : In64 x8) (h9 : In16 x9) (h10 : In16 x10) :
    (TU nSw).call fn_law34_TrochoidSwept [.agg [iN x0, iN x1, iN x2, iN x3, iN x4, iN x5, iN x6, iN x7], iN x8, .agg [.sc (.int .i16 x9), .sc (.int .i16 x10)]] = some (.sc (.bool true), []) := by
  have h := law_Swept (a := x0) (b := x1) (c := x2) (d := x3) (r := x4) (s := x5) (z := x6) (w := x7) (t := x8) h0 h1 h5 h9 h10
  obtain ⟨a, m, c1, c2, c3⟩ := bdA_sound (hC_ok kSw 3 (Nat.le_refl _)) noSp_ok rfl rfl (ms := [.agg [iN x0, iN x1, iN x2, iN x3, iN x4, iN x5, iN x6, iN x7], iN x8, .agg [.sc (.int .i16 x9), .sc (.int .i16 x10)]])
    (by exact relT_lift [.agg [iN x0, iN x1, iN x2, iN x3, iN x4, iN x5, iN x6, iN x7], iN x8, .agg [.sc (.int .i16 x9), .sc (.int .i16 x10)]]) h
  obtain rfl := Option.some.inj c3
  have c4 : m = .sc (.bool true) := c2
  subst c4
  rw [nSw]
  exact c1
end Go.Proofs.YtkeelkeoijemiaaGreat.Ev

namespace Go.Proofs.YtkeelkeoijemiaaGreat.Ev
open Go Go.RowKit

variable {P : Program} {w : World} {r : Reach} {base : Nat}

/-- The cells of a struct or an array, as they are handed in. -/
theorem okWide_cells {t : TypeId} {v : Value} (hu : (match P.underlying t with | some (.struct _) | some (.array _ _) => true | _ => false) = true) (h : Value.okWide P w r base t v) {n : Nat} {ts : List TypeId} (hn : P.cellsOf t = n)
    (hts : P.cellTypes P.depth t = some ts) : ∃ cs : List Value, v = .agg ⟨cs⟩ ∧ cs.length = n ∧ ∀ i x, cs[i]? = some x → ∃ u, ts[i % ts.length]? = some u ∧ Cell.okWide P w r base u x := by
  unfold Value.okWide at h
  have main : (∃ cs, v = .agg cs ∧ cs.size = P.cellsOf t ∧ Row.okWide P w r base t cs) → ∃ cs : List Value, v = .agg ⟨cs⟩ ∧ cs.length = n ∧ ∀ i x, cs[i]? = some x → ∃ u, ts[i % ts.length]? = some u ∧ Cell.okWide P w r base u x := fun ⟨⟨cs⟩, e, hs, ts', h1, _, h3⟩ => by
    rw [hts] at h1
    cases h1
    exact ⟨cs, e, by rw [← hn]; simpa using hs, fun i x hx => h3 i x (by simpa using hx)⟩
  split at h
  · exact main h
  · exact main h
  · rename_i h1 h2
    exfalso
    split at hu
    · rename_i fs hf; exact h1 _ hf
    · rename_i a b hf; exact h2 _ _ hf
    · cases hu
theorem okWide_int {t : TypeId} {k : IntKind} {v : Value} (hu : P.underlying t = some (.int k)) (h : Cell.okWide P w r base t v) : ∃ n, v = .int k n ∧ k.has n := by
  unfold Cell.okWide Cell.ok at h
  rw [hu] at h
  cases v <;> simp at h
  rename_i k' n
  obtain ⟨rfl, h⟩ := h
  exact ⟨n, rfl, h⟩
theorem VRs_sc {ok : Nat → Prop} {R : Nat → Nat → Option (Nat × Nat)} (l : List Value) : VRs w ok R (l.map .sc) l := by
  have := VRs.map_of (w := w) (ok := ok) (R := R) (f := MV.sc) (g := id) l fun x _ => rfl
  simpa using this
end Go.Proofs.YtkeelkeoijemiaaGreat.Ev

