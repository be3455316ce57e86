/- The centers of a way, as the reference tells them. Swept of the program: the distance of points. The engagement of two circles, and the greatest step. The greatest step of the program and of the reference: searches by halves. The program's greatest step, directions and ranges. The centers of a way, as the program tells them. Paths: the moves of the program and of the reference. Swept of the program and of the reference. A path sweeps all points near enough to its way: plain. -/
import Derived.Test.YtkeelkeoijemiaaGreatBa
set_option linter.unusedVariables false
set_option linter.unusedSimpArgs false
namespace Go.Proofs.YtkeelkeoijemiaaGreat.Ev
open Go
set_option linter.unusedVariables false
set_option linter.unusedSimpArgs false

def elI : Nat → List Int → El
  | _, [] => ⟨fun _ => 0, fun _ => false, fun _ => 0⟩
  | j, x :: r => (elI (j + 1) r).setI j x
/-- Elements, one by one. -/
def famN (e : Nat → El) : Nat → Fam
  | 0 => famZ
  | n + 1 => (famN e n).snoc n (e n)
theorem famN_i {e : Nat → El} {i j : Nat} : ∀ {n : Nat}, i < n → (famN e n).i i j = (e i).i j
  | n + 1, h => by
    simp only [famN, Fam.snoc]
    by_cases hn : i = n
    · rw [if_pos hn, hn]
    · rw [if_neg hn, famN_i (by omega)]
abbrev shG : List Kd := [.i .i64, .i .i64]
noncomputable abbrev kC : List Ctr := [k_side, k_far, k_Direction, k_out, k_check]
/-- The loop's head. -/
abbrev LC (a b c d s dx dy x y : Int) (o : AV) (l : List (Nat × EntA)) (ck : Nat := 2) : StA := mkSt 73 [(2, iA s), (3, .ptr 3 1 0), (4, .ptr 4 1 0), (9, .ptr 9 1 0), (12, o), (13, .ptr 13 1 0)] ([(3, ⟨1, [iA a, iA b], false⟩), (4, ⟨1, [iA c, iA d], false⟩), (9, ⟨1, [iA dx, iA dy], false⟩), (13, ⟨1, [iA x, iA y], false⟩)] ++ l) ck
abbrev LCr (a b c d s dx dy x y : Int) (n : Nat) (F : Fam) (ck : Nat := 2) : StA := LC a b c d s dx dy x y (.row 67 1 0 n none 2) [(67, ⟨1, [.blk shG n F], false⟩)] ck
/-- What a way with its step must fulfil; how many centers it has but the last. -/
def dirOk (dx dy : Int) : Bool := (dx == 1 && dy == 0) || (dx == -1 && dy == 0) || (dx == 0 && dy == 1) || (dx == 0 && dy == -1)
def nCen (L s : Int) : Nat := ((L + s - 1) / s).toNat
def wayOk (a b c d s dx dy L : Int) : Bool := decide (nCen L s ≤ 9999) && dirOk dx dy && decide (c - a = L * dx) && decide (d - b = L * dy) && decide (0 < L ∧ L ≤ 20000000 ∧ 1 ≤ s ∧ s ≤ L ∧ -10000000 ≤ a ∧ a ≤ 10000000 ∧ -10000000 ≤ b ∧ b ≤ 10000000)
def eC (a b s dx dy : Int) (i : Nat) : El := elI 0 [a + (i : Int) * s * dx, b + (i : Int) * s * dy]
def sumC : List AV → List (Option EntA) → KA → Option AV
  | [.sc (.int .i64 s), .ptr 3 1 0, .ptr 4 1 0, .ptr 9 1 0, .fs 0 (some 0) [], .ptr 13 1 0], [some ⟨1, [.sc (.int .i64 a), .sc (.int .i64 b)], false⟩, some ⟨1, [.sc (.int .i64 c), .sc (.int .i64 d)], false⟩, some ⟨1, [.sc (.int .i64 dx), .sc (.int .i64 dy)], false⟩, some ⟨1, [.sc (.int .i64 x), .sc (.int .i64 y)], false⟩, none], k =>
    gdK (wayOk a b c d s dx dy ((c - a) * dx + (d - b) * dy) && decide (x = a) && decide (y = b))
      (k (.exit 0) (LCr a b c d s dx dy (a + (nCen ((c - a) * dx + (d - b) * dy) s : Int) * s * dx) (b + (nCen ((c - a) * dx + (d - b) * dy) s : Int) * s * dy) (nCen ((c - a) * dx + (d - b) * dy) s) (famN (eC a b s dx dy) (nCen ((c - a) * dx + (d - b) * dy) s)) 6))
  | _, _, _ => none
noncomputable abbrev spC : LSpec := ⟨[2, 3, 4, 9, 12, 13], [3, 4, 9, 13, 67], [2, 3, 4, 9, 12, 13], [3, 4, 9, 13, 67], [(67, shG)], 73, sumC⟩
noncomputable def ssC : Nat → Option LSpec := fun j => if j = 0 then some spC else none
def befI (x y c d dx dy : Int) : Bool := decide (W (W (W (c - x) * dx) + W (W (d - y) * dy)) > 0)

theorem rC0 (D : Nat) (a b c d s dx dy x y : Int) (Kn : StA → Option AV) (Ke : KA) : rdA (hC kC 2) (autoL (hC kC 2) fn_ref34_Centers ssC D) fn_ref34_Centers 0 spC (LC a b c d s dx dy x y (.fs 0 (some 0) []) []) Kn Ke =
    cond (befI x y c d dx dy) (Kn (LCr a b c d s dx dy (W (x + W (s * dx))) (W (y + W (s * dy))) 1 (famZ.snoc 0 (elI 0 [x, y])))) (Ke (.exit 0) (LC a b c d s dx dy x y (.fs 0 (some 0) []) [] 6)) := by kernel_rfl
theorem rC1 (D : Nat) (a b c d s dx dy x y : Int) (n : Nat) (F : Fam) (Kn : StA → Option AV) (Ke : KA) : rdA (hC kC 2) (autoL (hC kC 2) fn_ref34_Centers ssC D) fn_ref34_Centers 0 spC (LCr a b c d s dx dy x y n F) Kn Ke =
    cond (befI x y c d dx dy) (cond (decide (0 + n * 2 = n * 2 + 0 ∧ n + 1 ≤ 1073741824)) (Kn (LCr a b c d s dx dy (W (x + W (s * dx))) (W (y + W (s * dy))) (n + 1) (F.snoc n (elI 0 [x, y])))) none) (Ke (.exit 0) (LCr a b c d s dx dy x y n F 6)) := by kernel_rfl
theorem nCen_mem {L s : Int} (hs : 1 ≤ s) (hL : 0 < L) (i : Nat) : i < nCen L s ↔ 0 < L - (i : Int) * s := by
  unfold nCen
  have h1 : 0 ≤ (L + s - 1) / s := Int.ediv_nonneg (by omega) (by omega)
  have h2 : (i : Int) < (L + s - 1) / s ↔ (i : Int) + 1 ≤ (L + s - 1) / s := by omega
  have h3 : (i : Int) + 1 ≤ (L + s - 1) / s ↔ ((i : Int) + 1) * s ≤ L + s - 1 := Int.le_ediv_iff_mul_le (by omega)
  have h4 : ((i : Int) + 1) * s = (i : Int) * s + s := by rw [Int.add_mul, Int.one_mul]
  omega
theorem dir_cases {dx dy : Int} (h : dirOk dx dy = true) : (dx = 1 ∧ dy = 0) ∨ (dx = -1 ∧ dy = 0) ∨ (dx = 0 ∧ dy = 1) ∨ (dx = 0 ∧ dy = -1) := by
  simp only [dirOk, Bool.or_eq_true, Bool.and_eq_true, beq_iff_eq] at h
  omega
/-- One step along the way. -/
theorem way_step {a b c d s dx dy L p : Int} (hd : dirOk dx dy = true) (hc : c - a = L * dx) (he : d - b = L * dy) (hL : 0 < L ∧ L ≤ 20000000 ∧ 1 ≤ s ∧ s ≤ L ∧ -10000000 ≤ a ∧ a ≤ 10000000 ∧ -10000000 ≤ b ∧ b ≤ 10000000) (hp : 0 ≤ p ∧ p ≤ 40000000) :
    befI (a + p * dx) (b + p * dy) c d dx dy = decide (0 < L - p) ∧ W (a + p * dx + W (s * dx)) = a + (p + s) * dx ∧ W (b + p * dy + W (s * dy)) = b + (p + s) * dy := by
  unfold befI W
  rcases dir_cases hd with ⟨rfl, rfl⟩ | ⟨rfl, rfl⟩ | ⟨rfl, rfl⟩ | ⟨rfl, rfl⟩ <;> simp only [Int.mul_one, Int.mul_zero, Int.mul_neg, Int.add_zero, Int.zero_add, Int.neg_zero] at hc he ⊢ <;>
    simp (disch := omega) only [i64s] <;> (refine ⟨?_, by omega, by omega⟩) <;> (congr 1; simp only [eq_iff_iff]; omega)
abbrev In7 (L s a b : Int) : Prop := 0 < L ∧ L ≤ 20000000 ∧ 1 ≤ s ∧ s ≤ L ∧ -10000000 ≤ a ∧ a ≤ 10000000 ∧ -10000000 ≤ b ∧ b ≤ 10000000
theorem nCen_le {L s : Int} (hs : 1 ≤ s) (hL : 0 < L) : nCen L s ≤ L.toNat := by
  apply Nat.le_of_not_lt
  intro h
  have := (nCen_mem hs hL L.toNat).1 h
  have h2 : (L.toNat : Int) = L := Int.toNat_of_nonneg (by omega)
  rw [h2] at this
  have := Int.mul_le_mul_of_nonneg_left hs (show 0 ≤ L by omega)
  omega
theorem stepP {i : Nat} {s L : Int} (hs : 1 ≤ s) (h : i ≤ nCen L s) (hL : 0 < L) (hl : s ≤ L) : 0 ≤ (i : Int) * s ∧ (i : Int) * s ≤ 2 * L := by
  refine ⟨Int.mul_nonneg (by omega) (by omega), ?_⟩
  cases i with
  | zero => simp; omega
  | succ i =>
    have := (nCen_mem hs hL i).1 (by omega)
    have e : ((i + 1 : Nat) : Int) * s = (i : Int) * s + s := by rw [Int.natCast_add, Int.add_mul]; simp
    omega
theorem castP (a dx s : Int) (i : Nat) : a + ((i : Int) * s + s) * dx = a + ((i + 1 : Nat) : Int) * s * dx := by
  rw [Int.natCast_add, Int.add_mul ((i : Int)) _ s]; simp
theorem loopC (D : Nat) {a b c d s dx dy L : Int} (hd : dirOk dx dy = true) (hc : c - a = L * dx) (he : d - b = L * dy) (h7 : In7 L s a b) (k : KA) : ∀ (r i fuel : Nat), i + r = nCen L s → r < fuel →
    unR (hC kC 2) (autoL (hC kC 2) fn_ref34_Centers ssC D) fn_ref34_Centers 0 spC fuel (LCr a b c d s dx dy (a + (i : Int) * s * dx) (b + (i : Int) * s * dy) i (famN (eC a b s dx dy) i)) k =
      k (.exit 0) (LCr a b c d s dx dy (a + (nCen L s : Int) * s * dx) (b + (nCen L s : Int) * s * dy) (nCen L s) (famN (eC a b s dx dy) (nCen L s)) 6)
  | 0, i, fuel + 1, hi, hf => by
    rw [Nat.add_zero] at hi
    have hp := stepP (L := L) (s := s) (i := i) h7.2.2.1 (by omega) h7.1 h7.2.2.2.1
    have h := (way_step hd hc he h7 (p := (i : Int) * s) (by omega)).1
    rw [unR_succ, rC1, h, decide_eq_false (fun h2 => by have := (nCen_mem h7.2.2.1 h7.1 i).2 h2; omega), hi]
    rfl
  | r + 1, i, fuel + 1, hi, hf => by
    have hp := stepP (L := L) (s := s) (i := i) h7.2.2.1 (by omega) h7.1 h7.2.2.2.1
    obtain ⟨h1, h2, h3⟩ := way_step hd hc he h7 (p := (i : Int) * s) (by omega)
    have hn := nCen_le (L := L) h7.2.2.1 h7.1
    rw [unR_succ, rC1, h1, decide_eq_true ((nCen_mem h7.2.2.1 h7.1 i).1 (by omega)), decide_eq_true (⟨by omega, by omega⟩ : 0 + i * 2 = i * 2 + 0 ∧ i + 1 ≤ 1073741824), h2, h3, castP, castP]
    exact loopC D hd hc he h7 k r (i + 1) fuel (by omega) (by omega)
theorem okC : SpecOK (hC kC 2) fn_ref34_Centers ssC := by
  intro D j x hs sv ev k r h
  unfold ssC at hs
  split at hs
  · rename_i hj
    subst hj
    cases hs
    simp only [sumC] at h
    split at h
    · rename_i s a b c d dx dy x y
      obtain ⟨h1, h2⟩ := gdK_some h
      simp only [Bool.and_eq_true, wayOk, decide_eq_true_eq] at h1
      obtain ⟨⟨⟨⟨⟨⟨h9, hd⟩, hc⟩, he⟩, h7⟩, rfl⟩, rfl⟩ := h1
      generalize hL : (c - x) * dx + (d - y) * dy = L at hc he h7 h2 h9
      have hN : 0 < nCen L s := (nCen_mem h7.2.2.1 h7.1 0).2 (by simp; exact h7.1)
      have hn := nCen_le (L := L) h7.2.2.1 h7.1
      have e : mkO spC.N (spC.I.zip [.sc (.int .i64 s), .ptr 3 1 0, .ptr 4 1 0, .ptr 9 1 0, .fs 0 (some 0) [], .ptr 13 1 0]) (spC.E.zip [some ⟨1, [.sc (.int .i64 x), .sc (.int .i64 y)], false⟩, some ⟨1, [.sc (.int .i64 c), .sc (.int .i64 d)], false⟩, some ⟨1, [.sc (.int .i64 dx), .sc (.int .i64 dy)], false⟩, some ⟨1, [.sc (.int .i64 x), .sc (.int .i64 y)], false⟩, none]) 2 =
          LC x y c d s dx dy x y (.fs 0 (some 0) []) [] := by kernel_rfl
      obtain ⟨g1, g2, g3⟩ := way_step hd hc he h7 (p := 0) (by omega)
      simp only [Int.zero_mul, Int.add_zero, Int.zero_add] at g1 g2 g3
      rw [e, show FUEL = 999999 + 1 from rfl, unR_succ, rC0, g1, decide_eq_true (by omega), g2, g3]
      have := loopC D hd hc he h7 k (nCen L s - 1) 1 999999 (by omega) (by omega)
      rw [show famN (eC x y s dx dy) 1 = famZ.snoc 0 (elI 0 [x, y]) by simp [famN, eC]] at this
      simp only [Int.natCast_one, Int.one_mul] at this
      simp only [cond_true]
      rw [this]
      exact h2
    · cases h
  · cases hs
/-- A way's length, as it is reckoned; its step; how many centers but the last. -/
def lenW (a b c d : Int) : Int := W (W (W (c - a) * cmp3 c a) + W (W (d - b) * cmp3 d b))
def lenI (a b c d : Int) : Int := (c - a) * cmp3 c a + (d - b) * cmp3 d b
def stpW (a b c d s : Int) : Int := if lenW a b c d < s then lenW a b c d else s
def numW (a b c d s : Int) : Nat := nCen (lenI a b c d) (stpW a b c d s)
def famW (a b c d s : Int) : Fam := (famN (eC a b (stpW a b c d s) (cmp3 c a) (cmp3 d b)) (numW a b c d s)).snoc (numW a b c d s) (elI 0 [c, d])
/-- The error of a way's centers. -/
def cenE (a b c d s : Int) : Int := if s < 1 then 1 else if chk a b c d 0 0 ≠ 0 then chk a b c d 0 0 else if (lenI a b c d + stpW a b c d s - 1).tdiv (stpW a b c d s) > 9999 then 3 else 0
theorem W_in {x : Int} (h : -9223372036854775808 ≤ x ∧ x ≤ 9223372036854775807) : W x = x := i64s h
theorem cmp3_cases (x y : Int) : (y < x ∧ cmp3 x y = 1) ∨ (x < y ∧ cmp3 x y = -1) ∨ (x = y ∧ cmp3 x y = 0) := by
  unfold cmp3
  by_cases h1 : x > y
  · rw [if_pos h1]; omega
  · by_cases h2 : x < y
    · rw [if_neg h1, if_pos h2]; omega
    · rw [if_neg h1, if_neg h2]; omega
/-- What a way without an error fulfils. -/
theorem chk0 {a b c d r z : Int} (h : chk a b c d r z = 0) : dirOk (cmp3 c a) (cmp3 d b) = true ∧ lenW a b c d = lenI a b c d ∧ c - a = lenI a b c d * cmp3 c a ∧ d - b = lenI a b c d * cmp3 d b ∧ 0 < lenI a b c d ∧ lenI a b c d ≤ 20000000 ∧
    -10000000 ≤ a ∧ a ≤ 10000000 ∧ -10000000 ≤ b ∧ b ≤ 10000000 ∧ -10000000 ≤ c ∧ c ≤ 10000000 ∧ -10000000 ≤ d ∧ d ≤ 10000000 ∧ -10000000 ≤ r ∧ r ≤ 10000000 := by
  unfold chk at h
  split at h
  · cases h
  · rename_i h1
    split at h
    · cases h
    · rename_i h2
      simp only [Bool.or_eq_true, not_or, Bool.not_eq_true, outb, farb, Bool.or_eq_false_iff, decide_eq_false_iff_not] at h2
      simp only [okr, Bool.not_eq_false, Bool.not_eq_eq_eq_not, Bool.not_true, beq_eq_false_iff_ne, ne_eq] at h1
      unfold lenW lenI dirOk
      rcases cmp3_cases c a with ⟨x1, x2⟩ | ⟨x1, x2⟩ | ⟨x1, x2⟩ <;> rcases cmp3_cases d b with ⟨y1, y2⟩ | ⟨y1, y2⟩ | ⟨y1, y2⟩ <;> rw [x2, y2] at h1 ⊢ <;> simp only [Int.mul_one, Int.mul_zero, Int.mul_neg] <;> first
        | (exfalso; simp at h1; done)
        | (unfold W; simp (disch := omega) only [i64s]; refine ⟨by decide, ?_⟩; simp only [true_and]; omega)
noncomputable def k_Centers : Ctr := mkT kC 2 fn_ref34_Centers (s3 sG sG sI) (fun ((a, b, _), (c, d, _), s, _) => [(decide (cenE a b c d s = 1), .tup [.fs 0 none [], iA 1]), (decide (cenE a b c d s = 11), .tup [.fs 0 none [], iA 11]), (decide (cenE a b c d s = 3), .tup [.fs 0 none [], iA 3]), (decide (cenE a b c d s = 0), .tup [.arr none shG (numW a b c d s + 1) (famW a b c d s), iA 0])]) rfl rfl okC fun ⟨⟨a, b, _⟩, ⟨c, d, _⟩, s, _⟩ r hr => by
  have e : bdA kC 2 fn_ref34_Centers ssC [pA a b, pA c d, iA s] some = cond (decide (s < 1)) (some (.tup [.fs 0 (some 0) [], iA 1])) (cond (chk a b c d 0 0 != 0) (some (.tup [.fs 0 (some 0) [], iA (chk a b c d 0 0)]))
      (cond (decide (stpW a b c d s ≠ 0)) (cond (decide (W ((W (W (lenW a b c d + stpW a b c d s) - 1)).tdiv (stpW a b c d s)) > 9999)) (some (.tup [.fs 0 (some 0) [], iA 3]))
        (cond (wayOk a b c d (stpW a b c d s) (cmp3 c a) (cmp3 d b) (lenI a b c d) && decide (a = a) && decide (b = b))
          (cond (decide (0 + numW a b c d s * 2 = numW a b c d s * 2 + 0 ∧ numW a b c d s + 1 ≤ 1073741824)) (cond (decide (numW a b c d s + 1 = numW a b c d s + 1 ∧ (numW a b c d s + 1) * 2 < 900000))
            (some (.tup [.arr none shG (numW a b c d s + 1) (famW a b c d s), iA 0])) none) none) none)) none)) := by kernel_rfl
  simp only [List.mem_cons, Prod.mk.injEq, List.not_mem_nil, or_false] at hr
  have err : ∀ v : Int, v ≠ 0 → cenE a b c d s = v → bdA kC 2 fn_ref34_Centers ssC [pA a b, pA c d, iA s] some = some (.tup [.fs 0 (some 0) [], iA v]) → ∃ r', bdA kC 2 fn_ref34_Centers ssC [pA a b, pA c d, iA s] some = some r' ∧ ∀ m, Rel (uncapA r') m → Rel r m := by
    intro v hv h1 h2
    rw [h1] at hr
    rcases hr with ⟨h3, rfl⟩ | ⟨h3, rfl⟩ | ⟨h3, rfl⟩ | ⟨h3, _⟩
    · have := of_decide_eq_true h3.symm; subst this; exact ⟨_, h2, fun m hm => hm⟩
    · have := of_decide_eq_true h3.symm; subst this; exact ⟨_, h2, fun m hm => hm⟩
    · have := of_decide_eq_true h3.symm; subst this; exact ⟨_, h2, fun m hm => hm⟩
    · exact absurd (of_decide_eq_true h3.symm) hv
  by_cases h1 : s < 1
  · exact err 1 (by decide) (by rw [cenE, if_pos h1]) (by rw [e, decide_eq_true h1]; rfl)
  · by_cases h2 : chk a b c d 0 0 = 0
    · obtain ⟨g1, g2, g3, g4, g5, g6, g7, g8, g9, g10, g11⟩ := chk0 h2
      have hst : 1 ≤ stpW a b c d s ∧ stpW a b c d s ≤ lenI a b c d := by unfold stpW; rw [g2]; split <;> omega
      have hw : W ((W (W (lenW a b c d + stpW a b c d s) - 1)).tdiv (stpW a b c d s)) = (lenI a b c d + stpW a b c d s - 1).tdiv (stpW a b c d s) := by
        rw [g2, W_in (x := lenI a b c d + stpW a b c d s) (by omega), W_in (x := lenI a b c d + stpW a b c d s - 1) (by omega), W_in]
        rw [Int.tdiv_eq_ediv_of_nonneg (by omega)]
        have q1 : 0 ≤ (lenI a b c d + stpW a b c d s - 1) / stpW a b c d s := Int.ediv_nonneg (by omega) (by omega)
        have q2 : (lenI a b c d + stpW a b c d s - 1) / stpW a b c d s ≤ lenI a b c d + stpW a b c d s - 1 := Int.ediv_le_self _ (by omega)
        omega
      rw [hw, decide_eq_false h1, show (chk a b c d 0 0 != 0) = false by simp [h2], decide_eq_true (show stpW a b c d s ≠ 0 by omega)] at e
      by_cases h3 : (lenI a b c d + stpW a b c d s - 1).tdiv (stpW a b c d s) > 9999
      · exact err 3 (by decide) (by rw [cenE, if_neg h1, if_neg (by simp [h2]), if_pos h3]) (by rw [e, decide_eq_true h3]; rfl)
      · have hE : cenE a b c d s = 0 := by rw [cenE, if_neg h1, if_neg (by simp [h2]), if_neg h3]
        have hN : numW a b c d s ≤ 9999 := by
          unfold numW nCen
          rw [Int.tdiv_eq_ediv_of_nonneg (by omega)] at h3
          omega
        have hok : wayOk a b c d (stpW a b c d s) (cmp3 c a) (cmp3 d b) (lenI a b c d) = true := by
          simp only [wayOk, Bool.and_eq_true, decide_eq_true_eq]
          exact ⟨⟨⟨⟨hN, g1⟩, g3⟩, g4⟩, by omega⟩
        rw [decide_eq_false h3, hok, decide_eq_true (show a = a from rfl), decide_eq_true (show b = b from rfl), decide_eq_true (show 0 + numW a b c d s * 2 = numW a b c d s * 2 + 0 ∧ numW a b c d s + 1 ≤ 1073741824 by omega), decide_eq_true (show numW a b c d s + 1 = numW a b c d s + 1 ∧ (numW a b c d s + 1) * 2 < 900000 by omega)] at e
        rw [hE] at hr
        rcases hr with ⟨h4, _⟩ | ⟨h4, _⟩ | ⟨h4, _⟩ | ⟨_, rfl⟩
        · cases h4
        · cases h4
        · cases h4
        · exact ⟨_, e, fun m hm => hm⟩
    · refine err (chk a b c d 0 0) h2 (by rw [cenE, if_neg h1, if_pos h2]) ?_
      rw [e, decide_eq_false h1, show (chk a b c d 0 0 != 0) = true by simp [h2]]; rfl
theorem cen0 {a b c d s : Int} (h : cenE a b c d s = 0) : 1 ≤ s ∧ chk a b c d 0 0 = 0 ∧ numW a b c d s ≤ 9999 := by
  unfold cenE at h
  split at h
  · cases h
  · rename_i h1
    split at h
    · rename_i h2; exact absurd h h2
    · rename_i h2
      split at h
      · cases h
      · rename_i h3
        have h2 : chk a b c d 0 0 = 0 := by simpa using h2
        obtain ⟨g1, g2, g3, g4, g5, g6, _⟩ := chk0 h2
        have hst : 1 ≤ stpW a b c d s := by unfold stpW; rw [g2]; split <;> omega
        refine ⟨by omega, h2, ?_⟩
        unfold numW nCen
        rw [Int.tdiv_eq_ediv_of_nonneg (by omega)] at h3
        omega
end Go.Proofs.YtkeelkeoijemiaaGreat.Ev

namespace Go.Proofs.YtkeelkeoijemiaaGreat.Ev
open Go
set_option linter.unusedVariables false
set_option linter.unusedSimpArgs false

def sP {α : Type} (L : Shps α) : Shp α where
  dec | .cp cs => L.dec cs
      | _ => none
  enc x := .cp (L.enc x)
  ok a x h := by
    split at h
    · rename_i cs
      have h1 : ∀ m, Rel (uncapA (.cp cs)) m → Rel (.cp (L.enc x)) m := fun m hm => by
        obtain ⟨ms, r, rfl, h2⟩ := hm
        exact ⟨ms, r, rfl, (L.ok cs x h).2 ms h2⟩
      exact ⟨h1, cell1 rfl rfl h1⟩
    · cases h
def sF {α : Type} (f : FuncId) (L : Shps α) : Shp α where
  dec | .fn f' cs => if f' = f then L.dec cs else none
      | _ => none
  enc x := .fn f (L.enc x)
  ok a x h := by
    split at h
    · split at h
      · rename_i f' cs hf
        subst hf
        have h1 : ∀ m, Rel (uncapA (.fn f' cs)) m → Rel (.fn f' (L.enc x)) m := fun m hm => by
          obtain ⟨ms, rfl, h2⟩ := hm
          exact ⟨ms, rfl, (L.ok cs x h).1 ms h2⟩
        exact ⟨h1, cell1 rfl rfl h1⟩
      · cases h
    · cases h
end Go.Proofs.YtkeelkeoijemiaaGreat.Ev

namespace Go.Proofs.YtkeelkeoijemiaaGreat.Ev
open Go
set_option linter.unusedVariables false
set_option linter.unusedSimpArgs false
set_option maxRecDepth 100000

theorem cmpQ_geD (p q : Rat) : decide (cmpQ p q ≥ 0) = decide (q ≤ p) := by
  unfold cmpQ
  by_cases h : p < q
  · rw [if_pos h]; have := Rat.not_le.2 h; simp [this]
  · by_cases h2 : q < p
    · rw [if_neg h, if_pos h2]; have := Rat.le_of_lt h2; simp [this]
    · rw [if_neg h, if_neg h2]; have := Rat.not_lt.1 h; simp [this]
theorem cmpQ_leD (p q : Rat) : decide (cmpQ p q ≤ 0) = decide (p ≤ q) := by
  unfold cmpQ
  by_cases h : p < q
  · rw [if_pos h]; have := Rat.le_of_lt h; simp [this]
  · by_cases h2 : q < p
    · rw [if_neg h, if_pos h2]; have := Rat.not_le.2 h2; simp [this]
    · rw [if_neg h, if_neg h2]; have := Rat.not_lt.1 h2; simp [this]
theorem cmpI_geD (c : Rat) : decide (cmpI c.num 0 ≥ 0) = decide (0 ≤ c) := by
  have h := Rat.num_nonneg (q := c)
  by_cases hx : 0 ≤ c
  · have := h.2 hx
    rw [decide_eq_true hx, decide_eq_true]; unfold cmpI; split <;> (try split) <;> omega
  · have := mt h.1 hx
    rw [decide_eq_false hx, decide_eq_false]; unfold cmpI; split <;> (try split) <;> omega
/-- Is a number a cosine? -/
def cosP (q : Rat) : Bool := decide (-1 ≤ q) && decide (q ≤ 1)
noncomputable def k_cosT : Ctr := mk1 kQ 2 fn_trochoid_cosine (s1 (sQ 3)) (fun _ => true) (fun (q, _) => bA (cosP q)) rfl rfl (fun _ => rfl) fun ⟨q, _⟩ _ => by
  refine Eq.trans (b := cond (decide (cmpQ q ((1 : Int) : Rat) ≤ 0)) (some (bA (decide (cmpQ q (-((1 : Int) : Rat)) ≥ 0)))) (some (bA false))) (by kernel_rfl) ?_
  rw [cmpQ_leD, cmpQ_geD]
  dsimp only [cosP]
  rw [show ((1 : Int) : Rat) = 1 from rfl]
  cases decide (q ≤ 1) <;> simp
noncomputable def k_cosE : Ctr := mk1 kQ 2 fn_engagement_cosine (s1 (sQ 3)) (fun _ => true) (fun (q, _) => bA (cosP q)) rfl rfl (fun _ => rfl) fun ⟨q, _⟩ _ => by
  refine Eq.trans (b := cond (decide (cmpQ q ((1 : Int) : Rat) ≤ 0)) (some (bA (decide (cmpQ (-q) ((1 : Int) : Rat) ≤ 0)))) (some (bA false))) (by kernel_rfl) ?_
  rw [cmpQ_leD, cmpQ_leD]
  dsimp only [cosP]
  rw [show ((1 : Int) : Rat) = 1 from rfl, show decide (-q ≤ 1) = decide (-1 ≤ q) by congr 1; rw [eq_iff_iff]; constructor <;> intro h <;> grind]
  cases decide (q ≤ 1) <;> simp
noncomputable def r_cos : Ctr := mk1 kR 2 fn_ref34_cosine (s1 (sQ 3)) (fun _ => true) (fun (q, _) => bA (cosP q)) rfl rfl (fun _ => rfl) fun ⟨q, _⟩ _ => by
  refine Eq.trans (b := cond (decide (cmpQ q ((-1 : Int) : Rat) ≥ 0)) (some (bA (decide (cmpQ q ((1 : Int) : Rat) ≤ 0)))) (some (bA false))) (by kernel_rfl) ?_
  rw [cmpQ_leD, cmpQ_geD]
  dsimp only [cosP]
  rw [show ((1 : Int) : Rat) = 1 from rfl, show ((-1 : Int) : Rat) = -1 from rfl]
  cases decide (-1 ≤ q) <;> simp
/-- The cosine of half an engagement; is the engagement allowed? -/
def cq (r t s : Int) : Rat := (((r + t : Int) : Rat) * ((r + t : Int) : Rat) - ((r + s : Int) : Rat) * ((r + s : Int) : Rat) - (t : Rat) * (t : Rat)) / (((2 : Int) : Rat) * (((r + s : Int) : Rat) * (t : Rat)))
def alP (r t s : Int) (q : Rat) : Bool := decide (0 ≤ cq r t s ∧ q ≤ 2 * (cq r t s * cq r t s) - 1)
abbrev RT (r t s : Int) : Prop := 0 < r ∧ 0 < t ∧ 0 ≤ s ∧ r ≤ 10000000 ∧ t ≤ 10000000 ∧ s ≤ 20000000
theorem RT.ne {r t s : Int} (h : RT r t s) : ((2 : Int) : Rat) * (((r + s : Int) : Rat) * (t : Rat)) ≠ 0 := by
  have h1 : (0 : Rat) < ((r + s : Int) : Rat) := Rat.intCast_lt_intCast (a := 0).2 (by omega)
  have h2 : (0 : Rat) < (t : Rat) := Rat.intCast_lt_intCast (a := 0).2 (by omega)
  have h3 := Rat.mul_pos h1 h2
  have h4 : ((2 : Int) : Rat) = 2 := rfl
  rw [h4]
  intro h; grind
noncomputable def k_allowed : Ctr := mk1 kQ 3 fn_engagement_allowed (s4 sI sI sI (sQ 3)) (fun (r, t, s, q, _) => decide (RT r t s ∧ q ≤ 1)) (fun (r, t, s, q, _) => bA (alP r t s q)) rfl rfl (fun _ => rfl) fun ⟨r, t, s, q, _⟩ hc => by
  obtain ⟨h, hq⟩ := of_decide_eq_true hc
  have w1 : W (r + t) = r + t := W_in (by omega)
  have w2 : W (r + s) = r + s := W_in (by omega)
  let C (x y : Int) : Rat := ((x : Rat) * (x : Rat) - (y : Rat) * (y : Rat) - (t : Rat) * (t : Rat)) / (((2 : Int) : Rat) * ((y : Rat) * (t : Rat)))
  refine Eq.trans (b := cond (decide (In64 (W (r + t)))) (cond (decide (In64 t)) (cond (decide (In64 (W (r + s)))) (cond (true && decide (((2 : Int) : Rat) * (((W (r + s) : Int) : Rat) * (t : Rat)) ≠ 0))
    (cond (decide (cmpQ (C (W (r + t)) (W (r + s))) ((1 : Int) : Rat) ≥ 0)) (some (bA true)) (cond (decide (cmpI (C (W (r + t)) (W (r + s))).num 0 ≥ 0))
      (some (bA (decide (cmpQ (C (W (r + t)) (W (r + s)) * C (W (r + t)) (W (r + s)) + C (W (r + t)) (W (r + s)) * C (W (r + t)) (W (r + s)) - ((1 : Int) : Rat)) q ≥ 0)))) (some (bA false))))
    (cond (decide (((2 : Int) : Rat) * (((W (r + s) : Int) : Rat) * (t : Rat)) = 0)) none none)) none) none) none) (by kernel_rfl) ?_
  rw [w1, w2, show C (r + t) (r + s) = cq r t s from rfl, decide_eq_true (by omega), decide_eq_true (by omega), decide_eq_true (by omega), decide_eq_true h.ne, cmpQ_geD, cmpQ_geD, cmpI_geD]
  dsimp only [alP]
  generalize cq r t s = c
  rw [show ((1 : Int) : Rat) = 1 from rfl]
  by_cases h1 : 1 ≤ c
  · have h0 : 0 ≤ c := by grind
    have h2 := Rat.mul_nonneg h0 (show 0 ≤ c - 1 by grind)
    rw [decide_eq_true h1, decide_eq_true (show 0 ≤ c ∧ q ≤ 2 * (c * c) - 1 from ⟨h0, by grind⟩)]; rfl
  · by_cases h0 : 0 ≤ c
    · rw [decide_eq_false h1, decide_eq_true h0, show decide (0 ≤ c ∧ q ≤ 2 * (c * c) - 1) = decide (q ≤ c * c + c * c - 1) by congr 1; rw [eq_iff_iff]; constructor <;> intro h <;> grind]; rfl
    · rw [decide_eq_false h1, decide_eq_false h0, decide_eq_false (show ¬ (0 ≤ c ∧ q ≤ 2 * (c * c) - 1) from fun h => h0 h.1)]; rfl
noncomputable def r_Pair : Ctr := mk1 kR 4 fn_ref34_Pair (s4 sI sI sI (sQ 3)) (fun (r, t, s, q, _) => decide (RT r t s)) (fun (r, t, s, q, _) => bA (alP r t s q)) rfl rfl (fun _ => rfl) fun ⟨r, t, s, q, _⟩ hc => by
  have h := of_decide_eq_true hc
  have w1 : W (r + t) = r + t := W_in (by omega)
  have w2 : W (r + s) = r + s := W_in (by omega)
  let C (x y : Int) : Rat := ((x : Rat) * (x : Rat) - (y : Rat) * (y : Rat) - (t : Rat) * (t : Rat)) / (((2 : Int) : Rat) * (y : Rat) * (t : Rat))
  refine Eq.trans (b := cond (decide (In64 (W (r + t)))) (cond (decide (In64 (W (r + s)))) (cond (decide (In64 t)) (cond (decide (In64 t)) (cond (true && decide (((2 : Int) : Rat) * ((W (r + s) : Int) : Rat) * (t : Rat) ≠ 0))
    (cond (decide (cmpI (C (W (r + t)) (W (r + s))).num 0 ≥ 0))
      (some (bA (decide (cmpQ (((2 : Int) : Rat) * (C (W (r + t)) (W (r + s)) * C (W (r + t)) (W (r + s))) - ((1 : Int) : Rat)) q ≥ 0)))) (some (bA false)))
    none) none) none) none) none) (by kernel_rfl) ?_
  rw [w1, w2, show C (r + t) (r + s) = cq r t s by show _ / _ = _ / _; rw [Rat.mul_assoc], decide_eq_true (by omega), decide_eq_true (by omega), decide_eq_true (by omega), decide_eq_true (by rw [Rat.mul_assoc]; exact h.ne), cmpQ_geD, cmpI_geD]
  dsimp only [alP]
  generalize cq r t s = c
  rw [show ((1 : Int) : Rat) = 1 from rfl, show ((2 : Int) : Rat) = 2 from rfl]
  by_cases h0 : 0 ≤ c
  · rw [decide_eq_true h0, show decide (0 ≤ c ∧ q ≤ 2 * (c * c) - 1) = decide (q ≤ 2 * (c * c) - 1) by congr 1; rw [eq_iff_iff]; constructor <;> intro h <;> grind]; rfl
  · rw [decide_eq_false h0, decide_eq_false (show ¬ (0 ≤ c ∧ q ≤ 2 * (c * c) - 1) from fun h => h0 h.1)]; rfl
/-- The cosine falls as the step grows. -/
theorem cq_mono {r t s1 s2 : Int} (h1 : RT r t s1) (h2 : RT r t s2) (h12 : s1 ≤ s2) : cq r t s2 ≤ cq r t s1 := by
  have pt : (0 : Rat) < (t : Rat) := Rat.intCast_lt_intCast (a := 0).2 (by omega)
  have p1 : (0 : Rat) < ((r + s1 : Int) : Rat) := Rat.intCast_lt_intCast (a := 0).2 (by omega)
  have p2 : (0 : Rat) < ((r + s2 : Int) : Rat) := Rat.intCast_lt_intCast (a := 0).2 (by omega)
  have le : ((r + s1 : Int) : Rat) ≤ ((r + s2 : Int) : Rat) := Rat.intCast_le_intCast.2 (by omega)
  have leR : (t : Rat) ≤ ((r + t : Int) : Rat) := Rat.intCast_le_intCast.2 (by omega)
  have dx := h1.ne
  have dy := h2.ne
  unfold cq
  generalize ((r + t : Int) : Rat) = R at *
  generalize (t : Rat) = T at *
  generalize ((r + s1 : Int) : Rat) = a at *
  generalize ((r + s2 : Int) : Rat) = b at *
  rw [show ((2 : Int) : Rat) = 2 from rfl] at *
  have ex := Rat.div_mul_cancel (a := R * R - a * a - T * T) dx
  have ey := Rat.div_mul_cancel (a := R * R - b * b - T * T) dy
  generalize (R * R - a * a - T * T) / (2 * (a * T)) = x at *
  generalize (R * R - b * b - T * T) / (2 * (b * T)) = y at *
  have hK : 0 ≤ R * R - T * T := by
    have h1 := Rat.mul_nonneg (show 0 ≤ R - T by grind) (show 0 ≤ R + T by grind)
    grind
  have hab := Rat.mul_pos p1 p2
  have hD : 0 < 2 * T * (a * b) := Rat.mul_pos (Rat.mul_pos (by decide) pt) hab
  have key : (x - y) * (2 * T * (a * b)) = (b - a) * (R * R - T * T + a * b) := by
    have e1 : (x - y) * (2 * T * (a * b)) = x * (2 * (a * T)) * b - y * (2 * (b * T)) * a := by grind
    rw [e1, ex, ey]
    grind
  have hnn := Rat.mul_nonneg (show 0 ≤ b - a by grind) (show 0 ≤ R * R - T * T + a * b by grind)
  rw [← key] at hnn
  apply Rat.not_lt.1
  intro hlt
  have := Rat.mul_pos (show 0 < y - x by grind) hD
  grind
theorem alP_mono {r t s1 s2 : Int} {q : Rat} (h1 : RT r t s1) (h2 : RT r t s2) (h12 : s1 ≤ s2) (h : alP r t s2 q = true) : alP r t s1 q = true := by
  have hm := cq_mono h1 h2 h12
  unfold alP at *
  rw [decide_eq_true_eq] at *
  obtain ⟨h3, h4⟩ := h
  refine ⟨by grind, ?_⟩
  have h5 := Rat.mul_nonneg h3 (show 0 ≤ cq r t s1 - cq r t s2 by grind)
  have h6 := Rat.mul_nonneg (show 0 ≤ cq r t s1 by grind) (show 0 ≤ cq r t s1 - cq r t s2 by grind)
  grind
end Go.Proofs.YtkeelkeoijemiaaGreat.Ev

namespace Go.Proofs.YtkeelkeoijemiaaGreat.Ev
open Go
set_option linter.unusedVariables false
set_option linter.unusedSimpArgs false

/-- The greatest number of a range for which a test holds, or 0. -/
def gst (p : Int → Bool) : Nat → Nat
  | 0 => 0
  | n + 1 => if p ((n + 1 : Nat) : Int) = true then n + 1 else gst p n
theorem gst_le (p : Int → Bool) : ∀ n, gst p n ≤ n
  | 0 => Nat.le_refl _
  | n + 1 => by unfold gst; split; exact Nat.le_refl _; exact Nat.le_succ_of_le (gst_le p n)
theorem gst_iff {p : Int → Bool} : ∀ {n : Nat}, (∀ i j : Nat, 1 ≤ i → i ≤ j → j ≤ n → p j = true → p i = true) → ∀ i : Nat, 1 ≤ i → i ≤ n → (p i = true ↔ i ≤ gst p n)
  | 0, _, i, h1, h2 => by omega
  | n + 1, hp, i, h1, h2 => by
    have ih := gst_iff (n := n) (p := p) (fun i j a b c => hp i j a b (by omega))
    unfold gst
    split
    · rename_i h; exact ⟨fun _ => h2, fun _ => hp i (n + 1) h1 h2 (Nat.le_refl _) h⟩
    · rename_i h
      by_cases hi : i = n + 1
      · subst hi
        constructor
        · intro h3; exact absurd h3 h
        · intro h3; have := gst_le p n; omega
      · exact ih i h1 (by omega)
/-- In a shorter range. -/
theorem gst_min {p : Int → Bool} {m n : Nat} (hp : ∀ i j : Nat, 1 ≤ i → i ≤ j → j ≤ n → p j = true → p i = true) (hm : m ≤ n) : gst p m = min (gst p n) m := by
  have h1 := gst_iff hp
  have h2 := gst_iff (n := m) (p := p) (fun i j a b c => hp i j a b (by omega))
  have h3 := gst_le p m
  have h4 := gst_le p n
  apply Nat.le_antisymm
  · by_cases h : gst p m = 0
    · omega
    · have := (h1 (gst p m) (by omega) (by omega)).1 ((h2 (gst p m) (by omega) h3).2 (Nat.le_refl _))
      omega
  · by_cases h : min (gst p n) m = 0
    · omega
    · exact (h2 (min (gst p n) m) (by omega) (by omega)).1 ((h1 (min (gst p n) m) (by omega) (by omega)).2 (by omega))
abbrev hlf (i j : Int) : Int := W ((IntKind.u64.wrap (W (i + j))).fdiv (2 ^ 1))
theorem half_in {a b : Int} (ha : 0 ≤ a) (hab : a ≤ b) (hb : b ≤ 1000000000) : hlf a b = (a + b) / 2 := by
  unfold hlf
  rw [W_in (x := a + b) (by omega), u64s (by omega), show ((2 : Int) ^ 1) = 2 from rfl, Int.fdiv_eq_ediv_of_nonneg _ (by omega), W_in (by omega)]
noncomputable abbrev kSe : List Ctr := k_allowed :: kQ
abbrev alT (r t : Int) (q : Rat) (s : Int) : Bool := alP r t s q
theorem alT_mono {r t : Int} {q : Rat} {n : Nat} (h : RT r t n) : ∀ i j : Nat, 1 ≤ i → i ≤ j → j ≤ n → alT r t q j = true → alT r t q i = true := fun i j h1 h2 h3 => alP_mono (by omega) (by omega) (by omega)
def sumSe : List AV → List (Option EntA) → KA → Option AV
  | [.sc (.int .i64 n), .fn 76 [.cp [.sc (.int .i64 r)], .cp [.sc (.int .i64 t)], .cp [.q 3 q]], .sc (.int .i64 i), .sc (.int .i64 j)], [], k =>
    gdK (decide (RT r t n ∧ q ≤ 1 ∧ i = 0 ∧ j = n)) (k (.exit 0) (mkSt 26 [(5, iA (gst (alT r t q) n.toNat : Nat))] [] 5))
  | _, _, _ => none
noncomputable abbrev spSe : LSpec := ⟨[0, 1, 5, 6], [], [5], [], [], 26, sumSe⟩
noncomputable def ssSe : Nat → Option LSpec := fun j => if j = 0 then some spSe else none
abbrev LSe (n r t : Int) (q : Rat) (i j : Int) : StA := mkSt 26 [(0, iA n), (1, .fn fn_engagement_Step_1 [.cp [iA r], .cp [iA t], .cp [.q 3 q]]), (5, iA i), (6, iA j)] []
theorem rSe (D : Nat) (n r t : Int) (q : Rat) (i j : Int) (Kn : StA → Option AV) (Ke : KA) : rdA (hC kSe 1) (autoL (hC kSe 1) fn_sort_Search ssSe D) fn_sort_Search 0 spSe (LSe n r t q i j) Kn Ke =
    cond (decide (i < j)) (cond (decide (RT r t (W (hlf i j + 1)) ∧ q ≤ 1)) (cond (!!alP r t (W (hlf i j + 1)) q) (Kn (LSe n r t q (W (hlf i j + 1)) j)) (Kn (LSe n r t q i (hlf i j)))) none) (Ke (.exit 0) (mkSt 26 [(5, iA i)] [] 5)) := by kernel_rfl
theorem loopSe (D : Nat) {n : Nat} {r t : Int} {q : Rat} (h : RT r t n) (hq : q ≤ 1) (k : KA) : ∀ (d fuel : Nat) (i j : Int), 0 ≤ i → i ≤ gst (alT r t q) n → (gst (alT r t q) n : Int) ≤ j → j ≤ n → j - i < 2 ^ d → d < fuel →
    unR (hC kSe 1) (autoL (hC kSe 1) fn_sort_Search ssSe D) fn_sort_Search 0 spSe fuel (LSe n r t q i j) k = k (.exit 0) (mkSt 26 [(5, iA (gst (alT r t q) n : Nat))] [] 5)
  | 0, fuel + 1, i, j, h0, h1, h2, h3, h4, hf => by
    have : i = j := by have : j - i < 1 := h4; omega
    subst this
    rw [unR_succ, rSe, decide_eq_false (by omega), show ((gst (alT r t q) n : Nat) : Int) = i by omega]
    rfl
  | d + 1, fuel + 1, i, j, h0, h1, h2, h3, h4, hf => by
    have h5 : j - i < 2 * 2 ^ d := by have : (2 : Int) ^ (d + 1) = 2 ^ d * 2 := Int.pow_succ 2 d; omega
    by_cases hij : i < j
    · have e1 := half_in h0 (by omega : i ≤ j) (by omega)
      obtain ⟨m, hm⟩ : ∃ m : Nat, (i + j) / 2 = m := ⟨((i + j) / 2).toNat, by omega⟩
      rw [unR_succ, rSe, e1, W_in (x := (i + j) / 2 + 1) (by omega), decide_eq_true hij, decide_eq_true ⟨by omega, hq⟩, Bool.not_not]
      have hi := gst_iff (alT_mono (q := q) h) (m + 1) (by omega) (by omega)
      rw [show ((m + 1 : Nat) : Int) = (i + j) / 2 + 1 by omega] at hi
      cases hp : alP r t ((i + j) / 2 + 1) q with
      | true =>
        have := hi.1 hp
        exact loopSe D h hq k d fuel ((i + j) / 2 + 1) j (by omega) (by omega) h2 h3 (by omega) (by omega)
      | false =>
        have : ¬ m + 1 ≤ gst (alT r t q) n := fun h => by have := hi.2 h; rw [show alT r t q ((i + j) / 2 + 1) = alP r t ((i + j) / 2 + 1) q from rfl, hp] at this; cases this
        exact loopSe D h hq k d fuel i ((i + j) / 2) h0 h1 (by omega) (by omega) (by omega) (by omega)
    · rw [unR_succ, rSe, decide_eq_false hij, show ((gst (alT r t q) n : Nat) : Int) = i by omega]
      rfl
theorem okSe : SpecOK (hC kSe 1) fn_sort_Search ssSe := by
  intro D l x hs sv ev k w h
  unfold ssSe at hs
  split at hs
  · rename_i hl
    subst hl
    cases hs
    simp only [sumSe] at h
    split at h
    · rename_i n r t q i j
      obtain ⟨⟨h1, hq, rfl, rfl⟩, h2⟩ := gdK_dec h
      have hn : ((j.toNat : Nat) : Int) = j := Int.toNat_of_nonneg h1.2.2.1
      have := gst_le (alT r t q) j.toNat
      rw [← h2, ← loopSe D (by rw [hn]; exact h1) hq k 25 FUEL 0 j (by omega) (by omega) (by omega) (by omega) (by have : (2 : Int) ^ 25 = 33554432 := rfl; omega) (by unfold FUEL; omega), hn]
      rfl
    · cases h
  · cases hs
noncomputable def k_Search : Ctr := mkT kSe 1 fn_sort_Search (s2 sI (sF fn_engagement_Step_1 (s3 (sP (s1 sI)) (sP (s1 sI)) (sP (s1 (sQ 3)))))) (fun (n, ((r, _), (t, _), (q, _), _), _) => [(decide (RT r t n ∧ q ≤ 1), iA (gst (alT r t q) n.toNat : Nat))]) rfl rfl okSe fun ⟨n, ⟨⟨r, _⟩, ⟨t, _⟩, ⟨q, _⟩, _⟩, _⟩ w hw => by
  simp only [List.mem_singleton, Prod.mk.injEq] at hw
  obtain ⟨h1, rfl⟩ := hw
  refine ⟨iA (gst (alT r t q) n.toNat : Nat), Eq.trans (b := cond (decide (RT r t n ∧ q ≤ 1 ∧ (0 : Int) = 0 ∧ n = n)) (some (iA (gst (alT r t q) n.toNat : Nat))) none) (by kernel_rfl) ?_, fun m hm => hm⟩
  have := of_decide_eq_true h1.symm
  rw [decide_eq_true ⟨this.1, this.2, rfl, rfl⟩]
  rfl
noncomputable abbrev kRs : List Ctr := r_Pair :: kR
def sumRs : List AV → List (Option EntA) → KA → Option AV
  | [.sc (.int .i64 r), .sc (.int .i64 t), .ptr 5 1 0, .sc (.int .i64 i), .sc (.int .i64 j)], [some ⟨1, [.q 3 q], false⟩], k =>
    gdK (decide (RT r t r ∧ i = 0 ∧ j = r)) (k (.exit 0) (mkSt 28 [(7, iA (gst (alT r t q) r.toNat : Nat))] [] 5))
  | _, _, _ => none
noncomputable abbrev spRs : LSpec := ⟨[0, 1, 5, 7, 8], [5], [7], [], [], 28, sumRs⟩
noncomputable def ssRs : Nat → Option LSpec := fun j => if j = 0 then some spRs else none
abbrev LRs (r t : Int) (q : Rat) (i j : Int) : StA := mkSt 28 [(0, iA r), (1, iA t), (5, .ptr 5 1 0), (7, iA i), (8, iA j)] [(5, ⟨1, [.q 3 q], false⟩)]
abbrev hlu (i j : Int) : Int := W ((W (W (i + j) + 1)).tdiv 2)
theorem rRs (D : Nat) (r t : Int) (q : Rat) (i j : Int) (Kn : StA → Option AV) (Ke : KA) : rdA (hC kRs 1) (autoL (hC kRs 1) fn_ref34_Step ssRs D) fn_ref34_Step 0 spRs (LRs r t q i j) Kn Ke =
    cond (decide (i < j)) (cond (decide (RT r t (hlu i j))) (cond (alP r t (hlu i j) q) (Kn (LRs r t q (hlu i j) j)) (Kn (LRs r t q i (W (hlu i j - 1))))) none) (Ke (.exit 0) (mkSt 28 [(7, iA i)] [] 5)) := by kernel_rfl
theorem hlu_in {a b : Int} (ha : 0 ≤ a) (hab : a ≤ b) (hb : b ≤ 1000000000) : hlu a b = (a + b + 1) / 2 := by
  unfold hlu
  rw [W_in (x := a + b) (by omega), W_in (x := a + b + 1) (by omega), Int.tdiv_eq_ediv_of_nonneg (by omega), W_in (by omega)]
theorem loopRs (D : Nat) {n : Nat} {t : Int} {q : Rat} (h : RT n t n) (k : KA) : ∀ (d fuel : Nat) (i j : Int), 0 ≤ i → i ≤ gst (alT n t q) n → (gst (alT n t q) n : Int) ≤ j → j ≤ n → j - i < 2 ^ d → d < fuel →
    unR (hC kRs 1) (autoL (hC kRs 1) fn_ref34_Step ssRs D) fn_ref34_Step 0 spRs fuel (LRs n t q i j) k = k (.exit 0) (mkSt 28 [(7, iA (gst (alT n t q) n : Nat))] [] 5)
  | 0, fuel + 1, i, j, h0, h1, h2, h3, h4, hfu => by
    have : i = j := by have : j - i < 1 := h4; omega
    subst this
    rw [unR_succ, rRs, decide_eq_false (by omega), show ((gst (alT n t q) n : Nat) : Int) = i by omega]
    rfl
  | d + 1, fuel + 1, i, j, h0, h1, h2, h3, h4, hfu => by
    have h5 : j - i < 2 * 2 ^ d := by have : (2 : Int) ^ (d + 1) = 2 ^ d * 2 := Int.pow_succ 2 d; omega
    by_cases hij : i < j
    · have e1 := hlu_in h0 (by omega : i ≤ j) (by omega)
      obtain ⟨m, hm⟩ : ∃ m : Nat, (i + j + 1) / 2 = m := ⟨((i + j + 1) / 2).toNat, by omega⟩
      have hi := gst_iff (alT_mono (q := q) h) m (by omega) (by omega)
      rw [unR_succ, rRs, e1, W_in (x := (i + j + 1) / 2 - 1) (by omega), decide_eq_true hij, decide_eq_true (by omega)]
      rw [← hm] at hi
      cases hp : alP n t ((i + j + 1) / 2) q with
      | true =>
        have := hi.1 hp
        exact loopRs D h k d fuel ((i + j + 1) / 2) j (by omega) (by omega) h2 h3 (by omega) (by omega)
      | false =>
        have : ¬ m ≤ gst (alT n t q) n := fun h => by have := hi.2 h; rw [show alT n t q ((i + j + 1) / 2) = alP n t ((i + j + 1) / 2) q from rfl, hp] at this; cases this
        exact loopRs D h k d fuel i ((i + j + 1) / 2 - 1) h0 h1 (by omega) (by omega) (by omega) (by omega)
    · rw [unR_succ, rRs, decide_eq_false hij, show ((gst (alT n t q) n : Nat) : Int) = i by omega]
      rfl
theorem okRs : SpecOK (hC kRs 1) fn_ref34_Step ssRs := by
  intro D l x hs sv ev k w h
  unfold ssRs at hs
  split at hs
  · rename_i hl
    subst hl
    cases hs
    simp only [sumRs] at h
    split at h
    · rename_i r t i j q
      obtain ⟨⟨h1, rfl, rfl⟩, h2⟩ := gdK_dec h
      obtain ⟨n, rfl⟩ : ∃ n : Nat, j = n := ⟨j.toNat, by omega⟩
      rw [Int.toNat_natCast] at h2
      have := gst_le (alT n t q) n
      rw [← h2, ← loopRs D h1 k 25 FUEL 0 n (by omega) (by omega) (by omega) (by omega) (by have : (2 : Int) ^ 25 = 33554432 := rfl; omega) (by unfold FUEL; omega)]
      rfl
    · cases h
  · cases hs
noncomputable def r_Step : Ctr := mkT kRs 1 fn_ref34_Step (s3 sI sI (sQ 3)) (fun (r, t, q, _) => [(decide (RT r t r), iA (gst (alT r t q) r.toNat : Nat))]) rfl rfl okRs fun ⟨r, t, q, _⟩ w hw => by
  simp only [List.mem_singleton, Prod.mk.injEq] at hw
  obtain ⟨h1, rfl⟩ := hw
  refine ⟨iA (gst (alT r t q) r.toNat : Nat), Eq.trans (b := cond (decide (RT r t r ∧ (0 : Int) = 0 ∧ r = r)) (some (iA (gst (alT r t q) r.toNat : Nat))) none) (by kernel_rfl) ?_, fun m hm => hm⟩
  have := of_decide_eq_true h1.symm
  rw [decide_eq_true ⟨this, rfl, rfl⟩]
  rfl
end Go.Proofs.YtkeelkeoijemiaaGreat.Ev

namespace Go.Proofs.YtkeelkeoijemiaaGreat.Ev
open Go
set_option linter.unusedVariables false
set_option linter.unusedSimpArgs false
set_option maxRecDepth 100000

noncomputable def k_Step : Ctr := mk1 (k_cosE :: k_Search :: kQ) 1 fn_engagement_Step (s3 sI sI (sQ 3)) (fun (r, t, q, _) => decide (1 ≤ r ∧ r ≤ 10000000 ∧ 1 ≤ t ∧ t ≤ 10000000) && cosP q) (fun (r, t, q, _) => .tup [iA (gst (alT r t q) (t + 1).toNat : Nat), iA 0]) rfl rfl (fun _ => rfl) fun ⟨r, t, q, _⟩ hc => by
  refine Eq.trans (b := cond (decide (r < 1)) (some (.tup [iA 0, iA 1])) (cond (decide (r > 10000000)) (some (.tup [iA 0, iA 1])) (cond (decide (t < 1)) (some (.tup [iA 0, iA 1])) (cond (decide (t > 10000000)) (some (.tup [iA 0, iA 1])) (cond (!cosP q) (some (.tup [iA 0, iA 1]))
    (cond (decide (RT r t (W (t + 1)) ∧ q ≤ 1)) (some (.tup [iA (gst (alT r t q) (W (t + 1)).toNat : Nat), iA 0])) none)))))) (by kernel_rfl) ?_
  simp only [Bool.and_eq_true, decide_eq_true_eq] at hc
  obtain ⟨h, hq⟩ := hc
  have hq1 : q ≤ 1 := by simp only [cosP, Bool.and_eq_true, decide_eq_true_eq] at hq; exact hq.2
  rw [decide_eq_false (by omega), decide_eq_false (by omega), decide_eq_false (by omega), decide_eq_false (by omega), hq, W_in (by omega), decide_eq_true ⟨by omega, hq1⟩]
  rfl
theorem sgn (x y : Int) : gmin 1 (gmax (-1) (cmp3 x y)) = cmp3 x y := by
  rcases cmp3_cases x y with ⟨_, h⟩ | ⟨_, h⟩ | ⟨_, h⟩ <;> rw [h] <;> decide
noncomputable def k_direction : Ctr := mk1 [k_compare] 1 fn_trochoid_direction (s2 sG sG) (fun _ => true) (fun ((ax, ay, _), (bx, by_, _), _) => .tup [pA (cmp3 bx ax) (cmp3 by_ ay), bA (okr ax ay bx by_)]) rfl rfl (fun _ => rfl) fun ⟨⟨ax, ay, _⟩, ⟨bx, by_, _⟩, _⟩ _ => by
  refine Eq.trans (b := some (.tup [pA (gmin 1 (gmax (-1) (cmp3 bx ax))) (gmin 1 (gmax (-1) (cmp3 by_ ay))), bA (!((gmin 1 (gmax (-1) (cmp3 bx ax)) == 0) == (gmin 1 (gmax (-1) (cmp3 by_ ay)) == 0)))])) (by kernel_rfl) ?_
  rw [sgn, sgn]
  rfl
/-- Is a position in range, with those beside it? -/
def rnd (x y r : Int) : Bool := !(farb x || farb y || !decide (r ≤ 20000000) || farb (W (x - r)) || farb (W (x + r)) || farb (W (y - r)) || farb (W (y + r)))
noncomputable def k_round : Ctr := mk1 [k_grid1] 5 fn_trochoid_round (s2 sG sI) (fun _ => true) (fun ((x, y, _), r, _) => bA (rnd x y r)) rfl rfl (fun _ => rfl) fun ⟨⟨x, y, _⟩, r, _⟩ _ => by
  refine Eq.trans (b := cond (farb x) (some (bA false)) (cond (farb y) (some (bA false)) (cond (decide (r ≤ 20000000)) (cond (farb (W (x - r))) (some (bA false)) (cond (farb (W (x + r))) (some (bA false)) (cond (farb (W (y - r))) (some (bA false)) (cond (farb (W (y + r))) (some (bA false)) (some (bA true)))))) (some (bA false))))) (by kernel_rfl) ?_
  dsimp only [rnd]; cases farb x <;> cases farb y <;> cases decide (r ≤ 20000000) <;> cases farb (W (x - r)) <;> cases farb (W (x + r)) <;> cases farb (W (y - r)) <;> cases farb (W (y + r)) <;> rfl
end Go.Proofs.YtkeelkeoijemiaaGreat.Ev

namespace Go.Proofs.YtkeelkeoijemiaaGreat.Ev
open Go
set_option linter.unusedVariables false
set_option linter.unusedSimpArgs false
set_option maxRecDepth 100000

abbrev LP (a b c d s dx dy L t : Int) (o : AV) (l : List (Nat × EntA)) (ck : Nat := 2) : StA := mkSt 68 [(3, iA s), (4, .ptr 4 1 0), (5, .ptr 5 1 0), (6, .ptr 6 1 0), (10, iA L), (11, o), (12, iA t)] ([(4, ⟨1, [iA a, iA b], false⟩), (5, ⟨1, [iA c, iA d], false⟩), (6, ⟨1, [iA dx, iA dy], false⟩)] ++ l) ck
abbrev LPr (a b c d s dx dy L t : Int) (n : Nat) (F : Fam) (ck : Nat := 2) : StA := LP a b c d s dx dy L t (.row 63 1 0 n none 2) [(63, ⟨1, [.blk shG n F], false⟩)] ck
def cenOk (a b dx dy L s : Int) : Bool := dirOk dx dy && decide (nCen L s ≤ 9999) && decide (0 < L ∧ L ≤ 20000000 ∧ 1 ≤ s ∧ s ≤ 20000000 ∧ -10000000 ≤ a ∧ a ≤ 10000000 ∧ -10000000 ≤ b ∧ b ≤ 10000000)
def sumP : List AV → List (Option EntA) → KA → Option AV
  | [.sc (.int .i64 s), .ptr 4 1 0, .ptr 5 1 0, .ptr 6 1 0, .sc (.int .i64 L), .fs 0 (some 0) [], .sc (.int .i64 t)], [some ⟨1, [.sc (.int .i64 a), .sc (.int .i64 b)], false⟩, some ⟨1, [.sc (.int .i64 c), .sc (.int .i64 d)], false⟩, some ⟨1, [.sc (.int .i64 dx), .sc (.int .i64 dy)], false⟩, none], k =>
    gdK (cenOk a b dx dy L s && decide (t = 0)) (k (.exit 0) (LPr a b c d s dx dy L ((nCen L s : Int) * s) (nCen L s) (famN (eC a b s dx dy) (nCen L s)) 5))
  | _, _, _ => none
noncomputable abbrev spP : LSpec := ⟨[3, 4, 5, 6, 10, 11, 12], [4, 5, 6, 63], [3, 4, 5, 6, 10, 11, 12], [4, 5, 6, 63], [(63, shG)], 68, sumP⟩
noncomputable def ssP : Nat → Option LSpec := fun j => if j = 0 then some spP else none
theorem rP0 (D : Nat) (a b c d s dx dy L t : Int) (Kn : StA → Option AV) (Ke : KA) : rdA (hC [] 0) (autoL (hC [] 0) fn_trochoid_centers ssP D) fn_trochoid_centers 0 spP (LP a b c d s dx dy L t (.fs 0 (some 0) []) []) Kn Ke =
    cond (decide (t < L)) (Kn (LPr a b c d s dx dy L (W (t + s)) 1 (famZ.snoc 0 (elI 0 [W (a + W (dx * t)), W (b + W (dy * t))])))) (Ke (.exit 0) (LP a b c d s dx dy L t (.fs 0 (some 0) []) [] 5)) := by kernel_rfl
theorem rP1 (D : Nat) (a b c d s dx dy L t : Int) (n : Nat) (F : Fam) (Kn : StA → Option AV) (Ke : KA) : rdA (hC [] 0) (autoL (hC [] 0) fn_trochoid_centers ssP D) fn_trochoid_centers 0 spP (LPr a b c d s dx dy L t n F) Kn Ke =
    cond (decide (t < L)) (cond (decide (0 + n * 2 = n * 2 + 0 ∧ n + 1 ≤ 1073741824)) (Kn (LPr a b c d s dx dy L (W (t + s)) (n + 1) (F.snoc n (elI 0 [W (a + W (dx * t)), W (b + W (dy * t))])))) none) (Ke (.exit 0) (LPr a b c d s dx dy L t n F 5)) := by kernel_rfl
abbrev In7s (L s a b : Int) : Prop := 0 < L ∧ L ≤ 20000000 ∧ 1 ≤ s ∧ s ≤ 20000000 ∧ -10000000 ≤ a ∧ a ≤ 10000000 ∧ -10000000 ≤ b ∧ b ≤ 10000000
theorem stepQ {i : Nat} {s L : Int} (hs : 1 ≤ s ∧ s ≤ 20000000) (h : i ≤ nCen L s) (hL : 0 < L ∧ L ≤ 20000000) : 0 ≤ (i : Int) * s ∧ (i : Int) * s ≤ 40000000 := by
  refine ⟨Int.mul_nonneg (by omega) (by omega), ?_⟩
  cases i with
  | zero => simp
  | succ i =>
    have := (nCen_mem (L := L) hs.1 hL.1 i).1 (by omega)
    have e : ((i + 1 : Nat) : Int) * s = (i : Int) * s + s := by rw [Int.natCast_add, Int.add_mul]; simp
    omega
theorem way_at {a b dx dy t : Int} (hd : dirOk dx dy = true) (h : -10000000 ≤ a ∧ a ≤ 10000000 ∧ -10000000 ≤ b ∧ b ≤ 10000000) (ht : 0 ≤ t ∧ t ≤ 40000000) : W (a + W (dx * t)) = a + t * dx ∧ W (b + W (dy * t)) = b + t * dy := by
  rcases dir_cases hd with ⟨rfl, rfl⟩ | ⟨rfl, rfl⟩ | ⟨rfl, rfl⟩ | ⟨rfl, rfl⟩ <;> simp only [Int.mul_one, Int.mul_zero, Int.mul_neg, Int.one_mul, Int.zero_mul, Int.neg_mul] <;> unfold W <;> simp (disch := omega) only [i64s, and_self, true_and, and_true] <;> omega
theorem castQ (s : Int) (i : Nat) : (i : Int) * s + s = ((i + 1 : Nat) : Int) * s := by rw [Int.natCast_add, Int.add_mul]; simp
theorem loopP (D : Nat) {a b c d s dx dy L : Int} (hd : dirOk dx dy = true) (h7 : In7s L s a b) (hN : nCen L s ≤ 9999) (k : KA) : ∀ (r i fuel : Nat), i + r = nCen L s → r < fuel →
    unR (hC [] 0) (autoL (hC [] 0) fn_trochoid_centers ssP D) fn_trochoid_centers 0 spP fuel (LPr a b c d s dx dy L ((i : Int) * s) i (famN (eC a b s dx dy) i)) k =
      k (.exit 0) (LPr a b c d s dx dy L ((nCen L s : Int) * s) (nCen L s) (famN (eC a b s dx dy) (nCen L s)) 5)
  | 0, i, fuel + 1, hi, hf => by
    rw [Nat.add_zero] at hi
    rw [unR_succ, rP1, decide_eq_false (fun h2 => by have := (nCen_mem (L := L) h7.2.2.1 h7.1 i).2 (by omega); omega), hi]
    rfl
  | r + 1, i, fuel + 1, hi, hf => by
    have hp := stepQ (L := L) (s := s) (i := i) (by omega) (by omega) (by omega)
    obtain ⟨h2, h3⟩ := way_at hd ⟨h7.2.2.2.2.1, h7.2.2.2.2.2.1, h7.2.2.2.2.2.2⟩ hp
    have hlt := (nCen_mem (L := L) h7.2.2.1 h7.1 i).1 (by omega)
    rw [unR_succ, rP1, decide_eq_true (show (i : Int) * s < L by omega), decide_eq_true (⟨by omega, by omega⟩ : 0 + i * 2 = i * 2 + 0 ∧ i + 1 ≤ 1073741824), h2, h3, W_in (x := (i : Int) * s + s) (by omega), castQ]
    exact loopP D hd h7 hN k r (i + 1) fuel (by omega) (by omega)
theorem okPp : SpecOK (hC [] 0) fn_trochoid_centers ssP := by
  intro D j x hs sv ev k w h
  unfold ssP at hs
  split at hs
  · rename_i hj
    subst hj
    cases hs
    simp only [sumP] at h
    split at h
    · rename_i s L t a b c d dx dy
      obtain ⟨h1, h2⟩ := gdK_some h
      simp only [Bool.and_eq_true, cenOk, decide_eq_true_eq] at h1
      obtain ⟨⟨⟨hd, hN⟩, h7⟩, rfl⟩ := h1
      have hN0 : 0 < nCen L s := (nCen_mem h7.2.2.1 h7.1 0).2 (by simp; exact h7.1)
      have e : mkO spP.N (spP.I.zip [.sc (.int .i64 s), .ptr 4 1 0, .ptr 5 1 0, .ptr 6 1 0, .sc (.int .i64 L), .fs 0 (some 0) [], .sc (.int .i64 0)]) (spP.E.zip [some ⟨1, [.sc (.int .i64 a), .sc (.int .i64 b)], false⟩, some ⟨1, [.sc (.int .i64 c), .sc (.int .i64 d)], false⟩, some ⟨1, [.sc (.int .i64 dx), .sc (.int .i64 dy)], false⟩, none]) 2 =
          LP a b c d s dx dy L 0 (.fs 0 (some 0) []) [] := by kernel_rfl
      obtain ⟨g2, g3⟩ := way_at (t := 0) hd ⟨h7.2.2.2.2.1, h7.2.2.2.2.2.1, h7.2.2.2.2.2.2⟩ (by omega)
      simp only [Int.zero_mul, Int.add_zero, Int.zero_add] at g2 g3
      rw [e, show FUEL = 999999 + 1 from rfl, unR_succ, rP0, decide_eq_true h7.1, g2, g3, Int.zero_add, W_in (x := s) (by omega)]
      have := loopP D (c := c) (d := d) hd h7 hN k (nCen L s - 1) 1 999999 (by omega) (by omega)
      rw [show famN (eC a b s dx dy) 1 = famZ.snoc 0 (elI 0 [a, b]) by simp [famN, eC]] at this
      simp only [Int.natCast_one, Int.one_mul] at this
      simp only [cond_true]
      rw [this]
      exact h2
    · cases h
  · cases hs
theorem famN_congr {e f : Nat → El} : ∀ {n : Nat}, (∀ i, i < n → e i = f i) → famN e n = famN f n
  | 0, _ => rfl
  | n + 1, h => by rw [famN, famN, famN_congr fun i hi => h i (by omega), h n (by omega)]
def lenM (a b c d : Int) : Int := gmax (gmax (gmax (W (c - a)) (W (a - c))) (W (d - b))) (W (b - d))
theorem lenM_eq {a b c d : Int} (h : chk a b c d 0 0 = 0) : lenM a b c d = lenI a b c d := by
  obtain ⟨g1, g2, g3, g4, g5, g6, g7⟩ := chk0 h
  unfold lenM gmax
  rw [W_in (x := c - a) (by omega), W_in (x := a - c) (by omega), W_in (x := d - b) (by omega), W_in (x := b - d) (by omega)]
  rcases dir_cases g1 with ⟨e1, e2⟩ | ⟨e1, e2⟩ | ⟨e1, e2⟩ | ⟨e1, e2⟩ <;> rw [e1] at g3 <;> rw [e2] at g4 <;> (repeat' split) <;> omega
/-- As many centers with the step as with the lesser of step and length. -/
theorem num_eq {a b c d s : Int} (h : chk a b c d 0 0 = 0) (hs : 1 ≤ s) : nCen (lenI a b c d) s = numW a b c d s ∧ (s ≤ lenI a b c d ∨ numW a b c d s = 1) ∧ (s ≤ lenI a b c d → stpW a b c d s = s) := by
  obtain ⟨g1, g2, g3, g4, g5, g6, g7⟩ := chk0 h
  unfold numW stpW
  rw [g2]
  by_cases hl : lenI a b c d < s
  · rw [if_pos hl]
    have e1 : nCen (lenI a b c d) s = 1 := by
      apply Nat.le_antisymm
      · apply Nat.le_of_not_lt; intro h; have := (nCen_mem hs g5 1).1 h; omega
      · exact (nCen_mem hs g5 0).2 (by omega)
    have e2 : nCen (lenI a b c d) (lenI a b c d) = 1 := by
      apply Nat.le_antisymm
      · apply Nat.le_of_not_lt; intro h; have := (nCen_mem (by omega) g5 1).1 h; omega
      · exact (nCen_mem (by omega) g5 0).2 (by omega)
    exact ⟨by rw [e1, e2], .inr e2, fun h => by omega⟩
  · rw [if_neg hl]; exact ⟨rfl, .inl (by omega), fun _ => rfl⟩
theorem famW_eq {a b c d s : Int} (h : chk a b c d 0 0 = 0) (hs : 1 ≤ s) : (famN (eC a b s (cmp3 c a) (cmp3 d b)) (numW a b c d s)).snoc (numW a b c d s) (elI 0 [c, d]) = famW a b c d s := by
  obtain ⟨_, h2, h3⟩ := num_eq h hs
  unfold famW
  rcases h2 with h2 | h2
  · rw [h3 h2]
  · rw [h2, famN_congr (f := eC a b (stpW a b c d s) (cmp3 c a) (cmp3 d b)) fun i hi => by
      obtain rfl : i = 0 := by omega
      simp [eC]]
theorem cen3_iff {a b c d s : Int} (h : chk a b c d 0 0 = 0) (hs : 1 ≤ s) : (lenI a b c d - 1).tdiv s + 2 > 10000 ↔ cenE a b c d s = 3 := by
  obtain ⟨g1, g2, g3, g4, g5, g6, g7⟩ := chk0 h
  unfold cenE stpW
  rw [g2, if_neg (by omega), if_neg (by simp [h]), Int.tdiv_eq_ediv_of_nonneg (by omega)]
  by_cases hl : lenI a b c d < s
  · rw [if_pos hl, Int.tdiv_eq_ediv_of_nonneg (by omega), Int.ediv_eq_zero_of_lt (by omega) (by omega)]
    have : (lenI a b c d + lenI a b c d - 1) / lenI a b c d = 1 := by
      rw [show lenI a b c d + lenI a b c d - 1 = (lenI a b c d - 1) + lenI a b c d * 1 by omega, Int.add_mul_ediv_left _ _ (by omega), Int.ediv_eq_zero_of_lt (by omega) (by omega)]; rfl
    rw [this, if_neg (by omega)]
    constructor <;> intro h <;> omega
  · rw [if_neg hl, Int.tdiv_eq_ediv_of_nonneg (by omega)]
    have : (lenI a b c d + s - 1) / s = (lenI a b c d - 1) / s + 1 := by
      rw [show lenI a b c d + s - 1 = (lenI a b c d - 1) + s * 1 by omega, Int.add_mul_ediv_left _ _ (by omega)]
    rw [this]
    split <;> constructor <;> intro h <;> omega
def cenC (a b c d dx dy s : Int) : Bool := decide (chk a b c d 0 0 = 0 ∧ dx = cmp3 c a ∧ dy = cmp3 d b ∧ 1 ≤ s ∧ s ≤ 20000000)
noncomputable def k_centers : Ctr := mkT [] 0 fn_trochoid_centers (s4 sG sG sG sI) (fun ((a, b, _), (c, d, _), (dx, dy, _), s, _) => [(cenC a b c d dx dy s && decide (cenE a b c d s = 3), .tup [.fs 0 none [], iA 3]), (cenC a b c d dx dy s && decide (cenE a b c d s = 0), .tup [.arr none shG (numW a b c d s + 1) (famW a b c d s), iA 0])]) rfl rfl okPp fun ⟨⟨a, b, _⟩, ⟨c, d, _⟩, ⟨dx, dy, _⟩, s, _⟩ r hr => by
  have e : bdA [] 0 fn_trochoid_centers ssP [pA a b, pA c d, pA dx dy, iA s] some = cond (decide (s ≠ 0)) (cond (decide (W (W ((W (lenM a b c d - 1)).tdiv s) + 2) > 10000)) (some (.tup [.fs 0 (some 0) [], iA 3]))
      (cond (cenOk a b dx dy (lenM a b c d) s && decide ((0 : Int) = 0)) (cond (decide (0 + nCen (lenM a b c d) s * 2 = nCen (lenM a b c d) s * 2 + 0 ∧ nCen (lenM a b c d) s + 1 ≤ 1073741824)) (cond (decide (nCen (lenM a b c d) s + 1 = nCen (lenM a b c d) s + 1 ∧ (nCen (lenM a b c d) s + 1) * 2 < 900000))
        (some (.tup [.arr none shG (nCen (lenM a b c d) s + 1) ((famN (eC a b s dx dy) (nCen (lenM a b c d) s)).snoc (nCen (lenM a b c d) s) (elI 0 [c, d])), iA 0])) none) none) none)) none := by kernel_rfl
  simp only [List.mem_cons, Prod.mk.injEq, List.not_mem_nil, or_false] at hr
  have hC : cenC a b c d dx dy s = true := by
    rcases hr with ⟨h, _⟩ | ⟨h, _⟩ <;> exact (Bool.and_eq_true_iff.1 h.symm).1
  obtain ⟨hc, rfl, rfl, hs, hs2⟩ := of_decide_eq_true hC
  obtain ⟨g1, g2, g3, g4, g5, g6, g7⟩ := chk0 hc
  obtain ⟨n1, _, _⟩ := num_eq (s := s) hc hs
  have hw : W (W ((W (lenM a b c d - 1)).tdiv s) + 2) = (lenI a b c d - 1).tdiv s + 2 := by
    rw [lenM_eq hc, W_in (x := lenI a b c d - 1) (by omega), Int.tdiv_eq_ediv_of_nonneg (by omega)]
    have q1 : 0 ≤ (lenI a b c d - 1) / s := Int.ediv_nonneg (by omega) (by omega)
    have q2 : (lenI a b c d - 1) / s ≤ lenI a b c d - 1 := Int.ediv_le_self _ (by omega)
    rw [W_in (x := (lenI a b c d - 1) / s) (by omega), W_in (by omega)]
  rw [hw, lenM_eq hc, n1, famW_eq hc hs, decide_eq_true (show s ≠ 0 by omega)] at e
  have i3 := cen3_iff (s := s) hc hs
  rcases hr with ⟨h, rfl⟩ | ⟨h, rfl⟩
  · have h3 := of_decide_eq_true (Bool.and_eq_true_iff.1 h.symm).2
    exact ⟨.tup [.fs 0 (some 0) [], iA 3], by refine e.trans ?_; rw [decide_eq_true (i3.2 h3)]; rfl, fun m hm => hm⟩
  · have h3 := of_decide_eq_true (Bool.and_eq_true_iff.1 h.symm).2
    have hN := (cen0 h3).2.2
    refine ⟨.tup [.arr none shG (numW a b c d s + 1) (famW a b c d s), iA 0], ?_, fun m hm => hm⟩
    have hok : cenOk a b (cmp3 c a) (cmp3 d b) (lenI a b c d) s = true := by
      simp only [cenOk, Bool.and_eq_true, decide_eq_true_eq]
      exact ⟨⟨g1, by rw [n1]; exact hN⟩, by omega⟩
    refine e.trans ?_
    rw [decide_eq_false (fun h => by have := i3.1 h; omega), hok, decide_eq_true (show (0 : Int) = 0 from rfl), decide_eq_true (show 0 + numW a b c d s * 2 = numW a b c d s * 2 + 0 ∧ numW a b c d s + 1 ≤ 1073741824 by omega), decide_eq_true (show numW a b c d s + 1 = numW a b c d s + 1 ∧ (numW a b c d s + 1) * 2 < 900000 by omega)]
    rfl
end Go.Proofs.YtkeelkeoijemiaaGreat.Ev

namespace Go.Proofs.YtkeelkeoijemiaaGreat.Ev
open Go
set_option linter.unusedVariables false
set_option linter.unusedSimpArgs false
set_option maxRecDepth 100000

abbrev shM : List Kd := [.i .i64, .i .i64, .i .i64, .i .i64, .i .i64, .i .i64, .i .i64]
/-- A move to the start of the circle around a center; a circle. -/
def mvF (x y dx dy r z w : Int) : El := elI 0 [2, x - dx * r, y - dy * r, z, 0, 0, w]
def mvA (x y dx dy r z w : Int) : El := elI 0 [4, x - dx * r, y - dy * r, z, x, y, w]
abbrev mwF (x y dx dy r z w : Int) : El := elI 0 [2, W (x - W (dx * r)), W (y - W (dy * r)), z, 0, 0, w]
abbrev mwA (x y dx dy r z w : Int) : El := elI 0 [4, W (x - W (dx * r)), W (y - W (dy * r)), z, x, y, w]
abbrev mrF (x y dx dy r z w : Int) : El := elI 0 [2, W (x + W (W (0 - r) * dx)), W (y + W (W (0 - r) * dy)), z, 0, 0, w]
abbrev mrA (x y dx dy r z w : Int) : El := elI 0 [4, W (x + W (W (0 - r) * dx)), W (y + W (W (0 - r) * dy)), z, x, y, w]
abbrev In1 (x : Int) : Prop := -10000000 ≤ x ∧ x ≤ 10000000
theorem mw_eq {x y dx dy r : Int} (z w : Int) (hd : dirOk dx dy = true) (hx : In1 x) (hy : In1 y) (hr : 0 ≤ r ∧ r ≤ 10000000) : mwF x y dx dy r z w = mvF x y dx dy r z w ∧ mwA x y dx dy r z w = mvA x y dx dy r z w ∧ mrF x y dx dy r z w = mvF x y dx dy r z w ∧ mrA x y dx dy r z w = mvA x y dx dy r z w := by
  have e : W (x - W (dx * r)) = x - dx * r ∧ W (y - W (dy * r)) = y - dy * r ∧ W (x + W (W (0 - r) * dx)) = x - dx * r ∧ W (y + W (W (0 - r) * dy)) = y - dy * r := by
    rw [W_in (x := 0 - r) (by omega)]
    rcases dir_cases hd with ⟨rfl, rfl⟩ | ⟨rfl, rfl⟩ | ⟨rfl, rfl⟩ | ⟨rfl, rfl⟩ <;> simp only [Int.mul_one, Int.mul_zero, Int.mul_neg, Int.one_mul, Int.zero_mul, Int.neg_mul] <;> refine ⟨?_, ?_, ?_, ?_⟩ <;> unfold W <;> simp (disch := omega) only [i64s] <;> omega
  unfold mwF mwA mrF mrA mvF mvA
  rw [e.1, e.2.1, e.2.2.1, e.2.2.2]
  exact ⟨rfl, rfl, rfl, rfl⟩
abbrev LM (n : Nat) (F : Fam) (r z w dx dy i : Int) (o : AV) (l : List (Nat × EntA)) : StA := mkSt 105 [(2, iA r), (4, iA z), (5, iA w), (14, .ptr 14 1 0), (18, o), (73, .arr none shG n F), (74, iA n), (75, iA i)] ([(14, ⟨1, [iA dx, iA dy], false⟩)] ++ l)
abbrev LMr (n : Nat) (F : Fam) (r z w dx dy i : Int) (m : Nat) (G : Fam) : StA := LM n F r z w dx dy i (.row 102 1 0 m none 7) [(102, ⟨1, [.blk shM m G], false⟩)]
/-- The moves up to a center. -/
def famM (F : Fam) (r z w dx dy : Int) : Nat → Fam
  | 0 => famZ
  | 1 => famZ.snoc 0 (mvA (F.i 0 0) (F.i 0 1) dx dy r z w)
  | i + 2 => ((famM F r z w dx dy (i + 1)).snoc (2 * i + 1) (mvF (F.i (i + 1) 0) (F.i (i + 1) 1) dx dy r z w)).snoc (2 * i + 1 + 1) (mvA (F.i (i + 1) 0) (F.i (i + 1) 1) dx dy r z w)
/-- Positions, a direction and a radius in range. -/
def movOk (n : Nat) (F : Fam) (r dx dy : Int) : Bool := dirOk dx dy && decide (0 < n ∧ n ≤ 10000 ∧ 0 ≤ r ∧ r ≤ 10000000 ∧ ∀ i, i < n → In1 (F.i i 0) ∧ In1 (F.i i 1))
def sumM : List AV → List (Option EntA) → KA → Option AV
  | [.sc (.int .i64 r), .sc (.int .i64 z), .sc (.int .i64 w), .ptr 14 1 0, .fs 0 (some 0) [], .arr none [.i .i64, .i .i64] n F, .sc (.int .i64 n'), .sc (.int .i64 i)], [some ⟨1, [.sc (.int .i64 dx), .sc (.int .i64 dy)], false⟩, none], k =>
    gdK (decide (n' = n ∧ i = 0) && movOk n F r dx dy) (k (.exit 0) (mkSt 105 [(18, .row 102 1 0 (2 * n - 1) none 7)] [(102, ⟨1, [.blk shM (2 * n - 1) (famM F r z w dx dy n)], false⟩)] 3))
  | _, _, _ => none
noncomputable abbrev spM : LSpec := ⟨[2, 4, 5, 14, 18, 73, 74, 75], [14, 102], [18], [102], [(102, shM)], 105, sumM⟩
noncomputable def ssM : Nat → Option LSpec := fun j => if j = 0 then some spM else none
noncomputable abbrev kM : List Ctr := [k_direction, k_round, k_grid1, k_centers]
theorem rM0 (D n : Nat) (F : Fam) (r z w dx dy : Int) (Kn : StA → Option AV) (Ke : KA) : rdA (hC kM 5) (autoL (hC kM 5) fn_trochoid_Path ssM D) fn_trochoid_Path 0 spM (LM n F r z w dx dy 0 (.fs 0 (some 0) []) []) Kn Ke =
    cond (decide ((0 : Int) < (n : Int))) (cond (decide ((0 : Int) ≤ 0 ∧ (0 : Int) < (n : Int))) (Kn (LMr n F r z w dx dy (W (0 + 1)) 1 (famZ.snoc 0 (mwA (F.i (Int.toNat 0) 0) (F.i (Int.toNat 0) 1) dx dy r z w)))) none) (Ke (.exit 0) (mkSt 105 [(18, .fs 0 (some 0) [])] [] 3)) := by kernel_rfl
theorem rM1 (D n : Nat) (F : Fam) (r z w dx dy i : Int) (m : Nat) (G : Fam) (Kn : StA → Option AV) (Ke : KA) : rdA (hC kM 5) (autoL (hC kM 5) fn_trochoid_Path ssM D) fn_trochoid_Path 0 spM (LMr n F r z w dx dy i m G) Kn Ke =
    cond (decide (i < (n : Int))) (cond (decide ((0 : Int) ≤ i ∧ i < (n : Int))) (cond (decide (i > 0))
      (cond (decide (0 + m * 7 = m * 7 + 0 ∧ m + 1 ≤ 1073741824)) (cond (decide (0 + (m + 1) * 7 = m * 7 + 7 ∧ m + 1 + 1 ≤ 1073741824)) (Kn (LMr n F r z w dx dy (W (i + 1)) (m + 1 + 1) ((G.snoc m (mwF (F.i i.toNat 0) (F.i i.toNat 1) dx dy r z w)).snoc (m + 1) (mwA (F.i i.toNat 0) (F.i i.toNat 1) dx dy r z w)))) none) none)
      (cond (decide (0 + m * 7 = m * 7 + 0 ∧ m + 1 ≤ 1073741824)) (Kn (LMr n F r z w dx dy (W (i + 1)) (m + 1) (G.snoc m (mwA (F.i i.toNat 0) (F.i i.toNat 1) dx dy r z w)))) none)) none) (Ke (.exit 0) (mkSt 105 [(18, .row 102 1 0 m none 7)] [(102, ⟨1, [.blk shM m G], false⟩)] 3)) := by kernel_rfl
abbrev MvH (n : Nat) (F : Fam) (r dx dy : Int) : Prop := dirOk dx dy = true ∧ 0 < n ∧ n ≤ 10000 ∧ 0 ≤ r ∧ r ≤ 10000000 ∧ ∀ i, i < n → In1 (F.i i 0) ∧ In1 (F.i i 1)
theorem loopM (D : Nat) {n : Nat} {F : Fam} {r dx dy : Int} (z w : Int) (h : MvH n F r dx dy) (k : KA) : ∀ (q i fuel : Nat), i + 1 + q = n → q < fuel →
    unR (hC kM 5) (autoL (hC kM 5) fn_trochoid_Path ssM D) fn_trochoid_Path 0 spM fuel (LMr n F r z w dx dy (i + 1 : Nat) (2 * i + 1) (famM F r z w dx dy (i + 1))) k =
      k (.exit 0) (mkSt 105 [(18, .row 102 1 0 (2 * n - 1) none 7)] [(102, ⟨1, [.blk shM (2 * n - 1) (famM F r z w dx dy n)], false⟩)] 3)
  | 0, i, fuel + 1, hi, hf => by
    obtain rfl : n = i + 1 := by omega
    rw [unR_succ, rM1, decide_eq_false (by omega), show 2 * (i + 1) - 1 = 2 * i + 1 by omega]; rfl
  | q + 1, i, fuel + 1, hi, hf => by
    have hx := h.2.2.2.2.2 (i + 1) (by omega)
    obtain ⟨e1, e2, _⟩ := mw_eq z w h.1 hx.1 hx.2 ⟨h.2.2.2.1, h.2.2.2.2.1⟩
    rw [unR_succ, rM1, decide_eq_true (show ((i + 1 : Nat) : Int) < (n : Int) by omega), decide_eq_true (show 0 ≤ ((i + 1 : Nat) : Int) ∧ ((i + 1 : Nat) : Int) < (n : Int) by omega), decide_eq_true (show ((i + 1 : Nat) : Int) > 0 by omega),
      decide_eq_true (show 0 + (2 * i + 1) * 7 = (2 * i + 1) * 7 + 0 ∧ 2 * i + 1 + 1 ≤ 1073741824 by omega), decide_eq_true (show 0 + (2 * i + 1 + 1) * 7 = (2 * i + 1) * 7 + 7 ∧ 2 * i + 1 + 1 + 1 ≤ 1073741824 by omega), Int.toNat_natCast, e1, e2, W_in (by omega), show ((i + 1 : Nat) : Int) + 1 = ((i + 1 + 1 : Nat) : Int) by omega]
    exact loopM D z w h k q (i + 1) fuel (by omega) (by omega)
theorem okM : SpecOK (hC kM 5) fn_trochoid_Path ssM := by
  intro D j x hs sv ev k v h
  unfold ssM at hs
  split at hs
  · rename_i hj
    subst hj
    cases hs
    simp only [sumM] at h
    split at h
    · rename_i r z w n F n' i dx dy
      obtain ⟨h1, h2⟩ := gdK_some h
      simp only [Bool.and_eq_true, movOk, decide_eq_true_eq] at h1
      obtain ⟨⟨rfl, rfl⟩, h3⟩ := h1
      have hx := h3.2.2.2.2.2 0 h3.2.1
      obtain ⟨e1, e2, _⟩ := mw_eq z w h3.1 hx.1 hx.2 ⟨h3.2.2.2.1, h3.2.2.2.2.1⟩
      have e : mkO spM.N (spM.I.zip [.sc (.int .i64 r), .sc (.int .i64 z), .sc (.int .i64 w), .ptr 14 1 0, .fs 0 (some 0) [], .arr none [.i .i64, .i .i64] n F, .sc (.int .i64 n), .sc (.int .i64 0)]) (spM.E.zip [some ⟨1, [.sc (.int .i64 dx), .sc (.int .i64 dy)], false⟩, none]) 2 = LM n F r z w dx dy 0 (.fs 0 (some 0) []) [] := by kernel_rfl
      rw [e, show FUEL = 999999 + 1 from rfl, unR_succ, rM0, decide_eq_true (show (0 : Int) < n by omega), decide_eq_true (show (0 : Int) ≤ 0 ∧ (0 : Int) < n by omega), show Int.toNat 0 = 0 from rfl, e2]
      have := loopM D z w h3 k (n - 1) 0 999999 (by omega) (by omega)
      simp only [cond_true]
      rw [← h2, ← this]
      rfl
    · cases h
  · cases hs
end Go.Proofs.YtkeelkeoijemiaaGreat.Ev

namespace Go.Proofs.YtkeelkeoijemiaaGreat.Ev
open Go
set_option linter.unusedVariables false
set_option linter.unusedSimpArgs false

/-! The reference's. -/
end Go.Proofs.YtkeelkeoijemiaaGreat.Ev

namespace Go.Proofs.YtkeelkeoijemiaaGreat.Ev
open Go
set_option linter.unusedVariables false
set_option linter.unusedSimpArgs false

theorem half (x : Int) : Rat.divInt x 2 = (x : Rat) / 2 := by
  rw [Rat.divInt_eq_div]; rfl
/-- The place on a way: between two centers. -/
theorem between {L s X : Int} (hs : 1 ≤ s) (hl : s ≤ L) (h0 : 0 ≤ X) (h1 : X ≤ 2 * L) : ∃ (j : Nat) (p : Int), j ≤ nCen L s ∧ p = (if j < nCen L s then (j : Int) * s else L) ∧ -s ≤ X - 2 * p ∧ X - 2 * p ≤ s := by
  -- the nearest multiple, or the end
  have hq := Int.mul_ediv_add_emod (X + s) (2 * s)
  have hm := Int.emod_nonneg (X + s) (show 2 * s ≠ 0 by omega)
  have hm2 := Int.emod_lt_of_pos (X + s) (show 0 < 2 * s by omega)
  have hq0 : 0 ≤ (X + s) / (2 * s) := Int.ediv_nonneg (by omega) (by omega)
  generalize hqq : (X + s) / (2 * s) = q at hq hq0
  generalize (X + s) % (2 * s) = m at hq hm hm2
  have e : 2 * s * q = 2 * (q * s) := by rw [Int.mul_assoc, Int.mul_comm s q]
  by_cases hj : q.toNat < nCen L s
  · exact ⟨q.toNat, q * s, by omega, by rw [if_pos hj, Int.toNat_of_nonneg hq0], by omega, by omega⟩
  · refine ⟨nCen L s, L, Nat.le_refl _, by rw [if_neg (Nat.lt_irrefl _)], ?_, by omega⟩
    have : ¬ 0 < L - (q.toNat : Int) * s := fun h => hj ((nCen_mem (L := L) hs (by omega) q.toNat).2 h)
    rw [Int.toNat_of_nonneg hq0] at this
    omega
/-- Centers, as they are told. -/
theorem famW_i {a b c d s : Int} {j : Nat} (h : chk a b c d 0 0 = 0) (hj : j ≤ numW a b c d s) (p : Int) (hp : p = (if j < numW a b c d s then (j : Int) * stpW a b c d s else lenI a b c d)) :
    (famW a b c d s).i j 0 = a + p * cmp3 c a ∧ (famW a b c d s).i j 1 = b + p * cmp3 d b := by
  obtain ⟨g1, g2, g3, g4, _⟩ := chk0 h
  unfold famW
  simp only [Fam.snoc]
  by_cases hn : j = numW a b c d s
  · rw [if_pos hn, if_pos hn]
    rw [if_neg (by omega)] at hp
    subst hp
    simp only [elI, El.setI]
    constructor <;> simp <;> omega
  · rw [if_neg hn, if_neg hn, famN_i (by omega), famN_i (by omega)]
    rw [if_pos (by omega)] at hp
    subst hp
    simp [eC, elI, El.setI]
end Go.Proofs.YtkeelkeoijemiaaGreat.Ev

