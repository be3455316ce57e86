/- Numbers of the trochoid: nothing wraps around. -/
import Derived.Test.YtkeelkeoijemiaaTd
namespace Go.Proofs.Ytkeelkeoijemiaa.Ev
open Go Go.RowKit
set_option linter.unusedVariables false

def Small (a : Int) : Prop := -10000000 ≤ a ∧ a ≤ 10000000
def Unit (d : Int) : Prop := d = -1 ∨ d = 0 ∨ d = 1
/-- The length of a way. -/
def wayLen (ax ay bx by_ : Int) : Int := (bx - ax) * cmp3 bx ax + (by_ - ay) * cmp3 by_ ay

theorem farb_small {a : Int} : farb a = false ↔ Small a := by
  simp only [farb, Small, Bool.or_eq_false_iff, decide_eq_false_iff_not]; omega
theorem cmp3_unit (a b : Int) : Unit (cmp3 a b) := by unfold cmp3 Unit; split <;> (try split) <;> omega
theorem dir1_cmp (a b : Int) : dir1 a b = cmp3 b a := by
  unfold dir1; rw [gmin_min, gmax_max]; have := cmp3_unit b a; unfold Unit at this; omega
theorem okd_okr (ax ay bx by_ : Int) : okd ax ay bx by_ = okr ax ay bx by_ := by unfold okd okr; rw [dir1_cmp, dir1_cmp]

/-- The four ways. -/
theorem four {ax ay bx by_ : Int} (h : okr ax ay bx by_ = true) :
    (ax < bx ∧ ay = by_ ∧ cmp3 bx ax = 1 ∧ cmp3 by_ ay = 0) ∨ (bx < ax ∧ ay = by_ ∧ cmp3 bx ax = -1 ∧ cmp3 by_ ay = 0) ∨
    (ax = bx ∧ ay < by_ ∧ cmp3 bx ax = 0 ∧ cmp3 by_ ay = 1) ∨ (ax = bx ∧ by_ < ay ∧ cmp3 bx ax = 0 ∧ cmp3 by_ ay = -1) := by
  have e : ∀ a b : Int, (a < b ∧ cmp3 b a = 1) ∨ (b < a ∧ cmp3 b a = -1) ∨ (a = b ∧ cmp3 b a = 0) := by
    intro a b; unfold cmp3; split <;> (try split) <;> omega
  unfold okr at h
  rcases e ax bx with ⟨h1, e1⟩ | ⟨h1, e1⟩ | ⟨h1, e1⟩ <;> rcases e ay by_ with ⟨h2, e2⟩ | ⟨h2, e2⟩ | ⟨h2, e2⟩ <;> rw [e1, e2] at h ⊢ <;> simp at h ⊢ <;> omega

theorem ptc_val {a d t : Int} (ha : Small a) (hd : Unit d) (h0 : 0 ≤ t) (h1 : t ≤ 1000000000) : ptc a d t = a + d * t := by
  unfold Small at ha
  unfold ptc
  rcases hd with rfl | rfl | rfl
  · rw [w64 (n := -1 * t) (by omega), w64 (by omega)]
  · rw [Int.zero_mul, w64 (n := 0) (by omega), w64 (by omega)]
  · rw [w64 (n := 1 * t) (by omega), w64 (by omega)]
theorem atb_val {a d t s : Int} (ha : Small a) (hd : Unit d) (h0 : 0 ≤ t) (hs : 0 ≤ s) (h1 : t + s ≤ 1000000000) : atb (ptc a d t) s d = ptc a d (t + s) := by
  rw [ptc_val ha hd h0 (by omega), ptc_val ha hd (by omega) h1]
  unfold Small at ha
  unfold atb
  rcases hd with rfl | rfl | rfl
  · rw [w64 (n := s * -1) (by omega), w64 (by omega)]; omega
  · rw [Int.mul_zero, w64 (n := 0) (by omega), w64 (by omega)]; omega
  · rw [w64 (n := s * 1) (by omega), w64 (by omega)]; omega

theorem way_pos {ax ay bx by_ : Int} (h : okr ax ay bx by_ = true) (hax : Small ax) (hay : Small ay) (hbx : Small bx) (hby : Small by_) : 0 < wayLen ax ay bx by_ ∧ wayLen ax ay bx by_ ≤ 20000000 := by
  unfold Small at *
  unfold wayLen
  rcases four h with ⟨h1, h2, e1, e2⟩ | ⟨h1, h2, e1, e2⟩ | ⟨h1, h2, e1, e2⟩ | ⟨h1, h2, e1, e2⟩ <;> rw [e1, e2] <;> omega
theorem len4_way {ax ay bx by_ : Int} (h : okr ax ay bx by_ = true) (hax : Small ax) (hay : Small ay) (hbx : Small bx) (hby : Small by_) : len4 ax ay bx by_ = wayLen ax ay bx by_ := by
  unfold Small at *
  unfold len4 wayLen
  rw [w64 (n := bx - ax) (by omega), w64 (n := ax - bx) (by omega), w64 (n := by_ - ay) (by omega), w64 (n := ay - by_) (by omega)]
  simp only [gmax_max]
  rcases four h with ⟨h1, h2, e1, e2⟩ | ⟨h1, h2, e1, e2⟩ | ⟨h1, h2, e1, e2⟩ | ⟨h1, h2, e1, e2⟩ <;> rw [e1, e2] <;> omega
theorem mul_unit {a d : Int} (hd : Unit d) (ha : -1000000000000 ≤ a ∧ a ≤ 1000000000000) : -1000000000000 ≤ a * d ∧ a * d ≤ 1000000000000 := by
  rcases hd with rfl | rfl | rfl <;> omega
theorem lenR_way {ax ay bx by_ : Int} (h : okr ax ay bx by_ = true) (hax : Small ax) (hay : Small ay) (hbx : Small bx) (hby : Small by_) :
    IntKind.i64.wrap (IntKind.i64.wrap (IntKind.i64.wrap (bx - ax) * cmp3 bx ax) + IntKind.i64.wrap (IntKind.i64.wrap (by_ - ay) * cmp3 by_ ay)) = wayLen ax ay bx by_ := by
  unfold Small at *
  unfold wayLen
  have m1 := mul_unit (a := bx - ax) (cmp3_unit bx ax) (by omega)
  have m2 := mul_unit (a := by_ - ay) (cmp3_unit by_ ay) (by omega)
  rw [w64 (n := bx - ax) (by omega), w64 (n := by_ - ay) (by omega), w64 (n := (bx - ax) * cmp3 bx ax) (by omega), w64 (n := (by_ - ay) * cmp3 by_ ay) (by omega), w64 (by omega)]
theorem befb_way {ax ay bx by_ t : Int} (h : okr ax ay bx by_ = true) (hax : Small ax) (hay : Small ay) (hbx : Small bx) (hby : Small by_) (h0 : 0 ≤ t) (h1 : t ≤ 1000000000) :
    befb (ptc ax (cmp3 bx ax) t) (ptc ay (cmp3 by_ ay) t) bx by_ (cmp3 bx ax) (cmp3 by_ ay) = decide (t < wayLen ax ay bx by_) := by
  rw [ptc_val hax (cmp3_unit _ _) h0 h1, ptc_val hay (cmp3_unit _ _) h0 h1]
  unfold Small at *
  unfold befb wayLen
  rw [decide_eq_decide]
  rcases four h with ⟨h1, h2, e1, e2⟩ | ⟨h1, h2, e1, e2⟩ | ⟨h1, h2, e1, e2⟩ | ⟨h1, h2, e1, e2⟩ <;> rw [e1, e2] <;> simp only [Int.one_mul, Int.mul_one, Int.zero_mul, Int.mul_zero, Int.add_zero, Int.zero_add, Int.mul_neg, Int.neg_mul]
  · rw [w64 (n := bx - (ax + t)) (by omega), w64 (n := (bx - (ax + t))) (by omega), w64 (n := 0) (by omega)]
    simp only [Int.add_zero]
    rw [w64 (by omega)]; omega
  · rw [w64 (n := bx - (ax + -t)) (by omega), w64 (n := -(bx - (ax + -t))) (by omega), w64 (n := 0) (by omega)]
    simp only [Int.add_zero]
    rw [w64 (by omega)]; omega
  · rw [w64 (n := by_ - (ay + t)) (by omega), w64 (n := by_ - (ay + t)) (by omega), w64 (n := 0) (by omega)]
    simp only [Int.zero_add]
    rw [w64 (by omega)]; omega
  · rw [w64 (n := by_ - (ay + -t)) (by omega), w64 (n := -(by_ - (ay + -t))) (by omega), w64 (n := 0) (by omega)]
    simp only [Int.zero_add]
    rw [w64 (by omega)]; omega
end Go.Proofs.Ytkeelkeoijemiaa.Ev
