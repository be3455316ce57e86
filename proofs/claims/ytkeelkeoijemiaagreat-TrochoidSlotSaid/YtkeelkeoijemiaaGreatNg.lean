/- Limbs of the integers: trim, compare, signed, plus, minus. Limbs of the integers: plus. Limbs of the integers: signed, minus. Integers, part 3: paths without loops. -/
import Derived.Test.YtkeelkeoijemiaaGreatNb
import Derived.WalkKit
set_option linter.unusedVariables false
set_option linter.unusedSimpArgs false
namespace Go.Proofs.YtkeelkeoijemiaaGreat.Ev
open Go Go.RowKit
set_option linter.unusedVariables false
set_option linter.unusedSimpArgs false

theorem dgt_top' {v : Nat} (h : 0 < v) : ((dgt v (nl v - 1) : Nat) : Int) ≠ 0 := by have := dgt_top h; omega

theorem c_integer_trim {m : Nat} (hm : 0 < m) {v k : Nat} {c : Option Nat} (hv : v < BB ^ k) (hk : k < 100000) : (TU m).call fn_integer_trim [.fs k c (dg k v)] = some (.fs (nl v) none (dg (nl v) v), []) := by
  have hio := TU_io (m - 1)
  have hnl := nl_le hv
  obtain ⟨s, ⟨c', rfl⟩, hl⟩ := loop_to (G := gC (TU (m - 1)) fn_integer_trim 0) (nm := nM fn_integer_trim 0)
    (fun i s => ∃ c, s = L_integer_trim_0 k v (k - i) c (dg (k - i) v)) (k - nl v) FUEL (L_integer_trim_0 k v k none (dg k v)) (by
      rintro i s hi ⟨c', rfl⟩
      have hm : 0 < k - i := by omega
      have e1 : IntKind.i64.wrap (((k - i : Nat) : Int) - 1) = ((k - i - 1 : Nat) : Int) := by rw [i64s (by omega)]; omega
      obtain ⟨s', h1, h2⟩ := r_integer_trim_0_0 hio k v (k - i) c' (dg (k - i) v) 0 (sc_b (decide_eq_true (by omega))) (by rw [e1]; exact ⟨by omega, by omega, dg_ne hm⟩)
        (by rw [e1, Int.toNat_natCast, dg_at (by omega), dgt_high (nl_lt v) (by omega)]; rfl) (sc_b rfl) (by rw [e1]; omega)
      rw [e1, Int.toNat_natCast, Nat.mul_one, dg_take (by omega)] at h2
      exact ⟨s', h1, _, h2⟩) ⟨none, by rw [Nat.sub_zero]⟩ (by unfold FUEL; omega)
  rw [show k - (k - nl v) = nl v by omega] at hl
  refine TU_call hm rfl rfl (args' := [.fs k none (dg k v)]) (by simp [uncaps, uncap]) (r := .fs (nl v) c' (dg (nl v) v)) ?_ (by simp [uncap])
  by_cases h0 : nl v = 0
  · exact p_integer_trim_x0_0 hio k v (nl v) c' _ (hl _ _ (r_integer_trim_0_1 hio k v (nl v) c' _ (sc_b (decide_eq_false (by omega)))) (by simp))
  · have hv0 : 0 < v := by
      cases v with
      | zero => exact absurd nl_zero h0
      | succ v => omega
    have e1 : IntKind.i64.wrap (((nl v : Nat) : Int) - 1) = ((nl v - 1 : Nat) : Int) := by rw [i64s (by omega)]; omega
    refine p_integer_trim_x1_0 hio k v (nl v) c' _ (dgt v (nl v - 1) : Nat) (hl _ _ (r_integer_trim_0_2 hio k v (nl v) c' _ _ (sc_b (decide_eq_true (by omega))) (by rw [e1]; exact ⟨by omega, by omega, dg_ne (by omega)⟩)
      (by rw [e1, Int.toNat_natCast, dg_at (by omega)]) (sc_b (by simpa using dgt_top' hv0))) (by simp))

/-- Comparing from the highest limb down. -/
theorem cmp_step {v w i : Nat} (h : v / BB ^ (i + 1) = w / BB ^ (i + 1)) : v / BB ^ i = w / BB ^ i ↔ dgt v i = dgt w i := by
  have e : ∀ x : Nat, x / BB ^ i = BB * (x / BB ^ (i + 1)) + dgt x i := fun x => by
    rw [Nat.pow_succ, ← Nat.div_div_eq_div_mul]; unfold dgt; exact (Nat.div_add_mod _ _).symm
  rw [e v, e w, h]; omega
theorem cmp_lt {v w i : Nat} (h : v / BB ^ (i + 1) = w / BB ^ (i + 1)) (hd : dgt v i < dgt w i) : v < w := by
  have e : ∀ x : Nat, x / BB ^ i = BB * (x / BB ^ (i + 1)) + dgt x i := fun x => by
    rw [Nat.pow_succ, ← Nat.div_div_eq_div_mul]; unfold dgt; exact (Nat.div_add_mod _ _).symm
  apply Nat.lt_of_not_le
  intro h2
  have := Nat.div_le_div_right (c := BB ^ i) h2
  rw [e v, e w, h] at this
  omega
/-- The first place, from above, at which numbers differ. -/
theorem cmp_place {v w : Nat} : ∀ m : Nat, v / BB ^ m = w / BB ^ m → v ≠ w → ∃ i, i < m ∧ v / BB ^ (i + 1) = w / BB ^ (i + 1) ∧ dgt v i ≠ dgt w i
  | 0, h, hne => by simp at h; exact absurd h hne
  | m + 1, h, hne => by
    by_cases hd : dgt v m = dgt w m
    · obtain ⟨i, hi, h2⟩ := cmp_place m ((cmp_step h).2 hd) hne
      exact ⟨i, by omega, h2⟩
    · exact ⟨m, by omega, h, hd⟩
theorem cmp_above {v w m i : Nat} (h : v / BB ^ m = w / BB ^ m) (hm : m ≤ i) : dgt v i = dgt w i := by
  obtain ⟨d, rfl⟩ := Nat.exists_eq_add_of_le hm
  rw [← dgt_shift, ← dgt_shift, h]

theorem c_integer_compare {m : Nat} (hm : 1 < m) {v w k l : Nat} {c d : Option Nat} (hv : v < BB ^ k) (hk : k < 100000) (hw : w < BB ^ l) (hl : l < 100000) :
    (TU m).call fn_integer_compare [.fs k c (dg k v), .fs l d (dg l w)] = some (iN (cmpN v w), []) := by
  have hio := TU_io (m - 1)
  refine TU_call (by omega) rfl rfl (args' := [.fs k none (dg k v), .fs l none (dg l w)]) (by simp [uncaps, uncap]) (r := iN (cmpN v w)) ?_ rfl
  have t1 : (TU (m - 1)).call fn_integer_trim [.fs k none (dg k v)] = _ := c_integer_trim (by omega) hv hk
  have t2 : (TU (m - 1)).call fn_integer_trim [.fs l none (dg l w)] = _ := c_integer_trim (by omega) hw hl
  have hnv := nl_le hv
  have hnw := nl_le hw
  by_cases hne : nl v = nl w
  · -- as many limbs
    have hvw : v / BB ^ nl v = w / BB ^ nl v := by rw [Nat.div_eq_of_lt (nl_lt v), hne, Nat.div_eq_of_lt (nl_lt w)]
    have wr : ∀ i : Nat, i < nl v → IntKind.i64.wrap (((i : Nat) : Int) - 1) = ((i : Nat) : Int) - 1 := fun i hi => i64s (by omega)
    have br1 : (bN (((nl v : Nat) : Int) != ((nl w : Nat) : Int)) : MV) = .sc (.bool false) := sc_b (by simp [hne])
    -- rounds down to a place above which the limbs are equal
    have down : ∀ p : Nat, p ≤ nl v → (∀ i, p ≤ i → i < nl v → dgt v i = dgt w i) → ∀ o s', gC (TU (m - 1)) fn_integer_compare 0 (L_integer_compare_0 k v l w ((p : Int) - 1)) = some (o, s') → o ≠ .normal →
        lp (TU (m - 1)) fn_integer_compare 0 (L_integer_compare_0 k v l w (IntKind.i64.wrap (((nl v : Nat) : Int) - (1 : Int)))) o s' := by
      intro p hp heq
      obtain ⟨s, rfl, h⟩ := loop_to (G := gC (TU (m - 1)) fn_integer_compare 0) (nm := nM fn_integer_compare 0)
        (fun i s => s = L_integer_compare_0 k v l w (((nl v - i : Nat) : Int) - 1)) (nl v - p) FUEL (L_integer_compare_0 k v l w (IntKind.i64.wrap (((nl v : Nat) : Int) - (1 : Int)))) (by
          rintro i s hi rfl
          have e1 : (((nl v - i : Nat) : Int) - 1) = ((nl v - i - 1 : Nat) : Int) := by omega
          have hd := heq (nl v - i - 1) (by omega) (by omega)
          rw [e1]
          obtain ⟨s', h1, h2⟩ := r_integer_compare_0_3 hio k v l w ((nl v - i - 1 : Nat) : Int) (sc_b (decide_eq_true (by omega))) ⟨by omega, by omega, dg_ne (by omega)⟩ (by exact dg_at (i := nl v - i - 1) (by omega))
            ⟨by omega, by omega, dg_ne (by omega)⟩ (by exact dg_at (i := nl v - i - 1) (by omega)) (sc_b (decide_eq_false (by rw [Int.toNat_natCast, hd]; omega))) ⟨by omega, by omega, dg_ne (by omega)⟩ (by exact dg_at (i := nl v - i - 1) (by omega))
            ⟨by omega, by omega, dg_ne (by omega)⟩ (by exact dg_at (i := nl v - i - 1) (by omega)) (sc_b (decide_eq_false (by rw [Int.toNat_natCast, hd]; omega)))
          rw [i64s (by omega)] at h2
          exact ⟨s', h1, h2⟩)
        (by rw [i64s (by omega), Nat.sub_zero]) (by unfold FUEL; omega)
      rw [show nl v - (nl v - p) = p by omega] at h
      exact h
    by_cases he : v = w
    · subst he
      have h := down 0 (by omega) (fun _ _ _ => rfl)
      refine (p_integer_compare_x1_0 hio k v l v _ t1 t2 br1 (h _ _ (r_integer_compare_0_1 hio k v l v _ (sc_b (decide_eq_false (by omega)))) (by simp))).trans ?_
      simp [cmpN]
    · obtain ⟨i, hi, habove, hd⟩ := cmp_place (nl v) hvw he
      have h := down (i + 1) (by omega) (fun q hq _ => cmp_above habove hq)
      have e1 : (((i + 1 : Nat) : Int) - 1) = ((i : Nat) : Int) := by omega
      rw [e1] at h
      by_cases hlt : dgt v i < dgt w i
      · have := cmp_lt habove hlt
        refine (p_integer_compare_x0_1 hio k v l w _ t1 t2 br1 (h _ _ (r_integer_compare_0_0 hio k v l w _ (sc_b (decide_eq_true (by omega))) ⟨by omega, by omega, dg_ne (by omega)⟩ (by exact dg_at (i := i) (by omega)) ⟨by omega, by omega, dg_ne (by omega)⟩ (by exact dg_at (i := i) (by omega)) (sc_b (decide_eq_true (by rw [Int.toNat_natCast]; omega)))) (by simp))).trans ?_
        rw [cmpN, if_pos this]
      · have := cmp_lt habove.symm (show dgt w i < dgt v i by omega)
        refine (p_integer_compare_x2_0 hio k v l w _ t1 t2 br1 (h _ _ (r_integer_compare_0_2 hio k v l w _ (sc_b (decide_eq_true (by omega))) ⟨by omega, by omega, dg_ne (by omega)⟩ (by exact dg_at (i := i) (by omega)) ⟨by omega, by omega, dg_ne (by omega)⟩ (by exact dg_at (i := i) (by omega)) (sc_b (decide_eq_false (by rw [Int.toNat_natCast]; omega))) ⟨by omega, by omega, dg_ne (by omega)⟩ (by exact dg_at (i := i) (by omega)) ⟨by omega, by omega, dg_ne (by omega)⟩ (by exact dg_at (i := i) (by omega)) (sc_b (decide_eq_true (by rw [Int.toNat_natCast]; omega)))) (by simp))).trans ?_
        rw [cmpN, if_neg (by omega), if_pos this]
  · have br1 : (bN (((nl v : Nat) : Int) != ((nl w : Nat) : Int)) : MV) = .sc (.bool true) := sc_b (by simp; omega)
    by_cases hlt : nl v < nl w
    · have : v < w := by apply Nat.lt_of_not_le; intro h; have := nl_mono h; omega
      refine (p_integer_compare_x0_0 hio k v l w t1 t2 br1 (sc_b (decide_eq_true (by omega)))).trans ?_
      rw [cmpN, if_pos this]
    · have : w < v := by apply Nat.lt_of_not_le; intro h; have := nl_mono h; omega
      refine (p_integer_compare_x0_2 hio k v l w t1 t2 br1 (sc_b (decide_eq_false (by omega)))).trans ?_
      rw [cmpN, if_neg (by omega), if_pos this]
end Go.Proofs.YtkeelkeoijemiaaGreat.Ev

namespace Go.Proofs.YtkeelkeoijemiaaGreat.Ev
open Go Go.RowKit
set_option linter.unusedVariables false
set_option linter.unusedSimpArgs false

theorem plus_a {T : Tab} (hio : TO T) {n v m w i : Nat} (hv : v < BB ^ n) (hw : w < BB ^ m) (hnm : m ≤ n) (hn : n < 100000) (hi : i < n) (h0 : i = 0) (c : Option Nat) :
    ∃ s_ c', gC T fn_integer_plus 0 (L_integer_plus_0a n v m w i c (crr v w i : Nat) (i : Nat)) = some (.normal, s_) ∧ nM fn_integer_plus 0 s_ = (L_integer_plus_0aB n v m w (i + 1) c' (dg (i + 1) (v + w)) (crr v w (i + 1) : Nat) ((i + 1) : Nat)) := by
  have d1 := dgt_lt v i
  have d2 := dgt_lt w i
  have d3 := dgt_lt (v + w) i
  have d4 := crr_le v w i
  have d5 := crr_step v w i
  have d6 := crr_le v w (i + 1)
  have ew : IntKind.i64.wrap (((i : Nat) : Int) + 1) = ((i + 1 : Nat) : Int) := by rw [i64s (by omega)]; omega
  have eB : BB = 1000000000 := rfl
  rw [eB] at d1 d2 d3 d5
  by_cases hlt : i < m
  · by_cases hge : dgt v i + dgt w i + crr v w i ≥ 1000000000
    · have ex : (IntKind.u32.wrap ((IntKind.u32.wrap (((dgt v ((i : Nat) : Int).toNat : Nat) : Int) + ((crr v w i : Nat) : Int))) + ((dgt w ((i : Nat) : Int).toNat : Nat) : Int))) = ((dgt v i + dgt w i + crr v w i : Nat) : Int) := by rw [Int.toNat_natCast]; rw [u32s (x := ((dgt v i : Nat) : Int) + ((crr v w i : Nat) : Int)) (by omega), u32s (by omega)]; omega
      have ey : (IntKind.u32.wrap ((IntKind.u32.wrap ((IntKind.u32.wrap (((dgt v ((i : Nat) : Int).toNat : Nat) : Int) + ((crr v w i : Nat) : Int))) + ((dgt w ((i : Nat) : Int).toNat : Nat) : Int))) - (1000000000 : Int))) = ((dgt (v + w) i : Nat) : Int) := by rw [ex, u32s (by omega)]; omega
      have ec : crr v w (i + 1) = 1 := by omega
      obtain ⟨s', h1, h2⟩ := r_integer_plus_0a_0 hio n v m w i c (crr v w i : Nat) (i : Nat) (sc_b (decide_eq_true (by omega))) (dix (by omega)) (dgi (by omega)) (sc_b (decide_eq_true (by omega))) (dix (by omega)) (dgi (by omega)) (sc_b (decide_eq_true (by rw [ex]; omega))) ⟨rfl, rfl, rfl, by decide, rfl, rfl, by omega, by omega, rfl⟩
      rw [ey, ew] at h2
      rw [ec]
      subst h0
      exact ⟨s', _, h1, h2⟩
    · have ex : (IntKind.u32.wrap ((IntKind.u32.wrap (((dgt v ((i : Nat) : Int).toNat : Nat) : Int) + ((crr v w i : Nat) : Int))) + ((dgt w ((i : Nat) : Int).toNat : Nat) : Int))) = ((dgt v i + dgt w i + crr v w i : Nat) : Int) := by rw [Int.toNat_natCast]; rw [u32s (x := ((dgt v i : Nat) : Int) + ((crr v w i : Nat) : Int)) (by omega), u32s (by omega)]; omega
      have ey : (IntKind.u32.wrap ((IntKind.u32.wrap (((dgt v ((i : Nat) : Int).toNat : Nat) : Int) + ((crr v w i : Nat) : Int))) + ((dgt w ((i : Nat) : Int).toNat : Nat) : Int))) = ((dgt (v + w) i : Nat) : Int) := by rw [ex]; omega
      have ec : crr v w (i + 1) = 0 := by omega
      obtain ⟨s', h1, h2⟩ := r_integer_plus_0a_4 hio n v m w i c (crr v w i : Nat) (i : Nat) (sc_b (decide_eq_true (by omega))) (dix (by omega)) (dgi (by omega)) (sc_b (decide_eq_true (by omega))) (dix (by omega)) (dgi (by omega)) (sc_b (decide_eq_false (by rw [ex]; omega))) ⟨rfl, rfl, rfl, by decide, rfl, rfl, by omega, by omega, rfl⟩
      rw [ey, ew] at h2
      rw [ec]
      subst h0
      exact ⟨s', _, h1, h2⟩
  · have hz : dgt w i = 0 := dgt_high hw (by omega)
    by_cases hge : dgt v i + dgt w i + crr v w i ≥ 1000000000
    · have ex : (IntKind.u32.wrap (((dgt v ((i : Nat) : Int).toNat : Nat) : Int) + ((crr v w i : Nat) : Int))) = ((dgt v i + dgt w i + crr v w i : Nat) : Int) := by rw [Int.toNat_natCast]; rw [u32s (by omega)]; omega
      have ey : (IntKind.u32.wrap ((IntKind.u32.wrap (((dgt v ((i : Nat) : Int).toNat : Nat) : Int) + ((crr v w i : Nat) : Int))) - (1000000000 : Int))) = ((dgt (v + w) i : Nat) : Int) := by rw [ex, u32s (by omega)]; omega
      have ec : crr v w (i + 1) = 1 := by omega
      obtain ⟨s', h1, h2⟩ := r_integer_plus_0a_2 hio n v m w i c (crr v w i : Nat) (i : Nat) (sc_b (decide_eq_true (by omega))) (dix (by omega)) (dgi (by omega)) (sc_b (decide_eq_false (by omega))) (sc_b (decide_eq_true (by rw [ex]; omega))) ⟨rfl, rfl, rfl, by decide, rfl, rfl, by omega, by omega, rfl⟩
      rw [ey, ew] at h2
      rw [ec]
      subst h0
      exact ⟨s', _, h1, h2⟩
    · have ex : (IntKind.u32.wrap (((dgt v ((i : Nat) : Int).toNat : Nat) : Int) + ((crr v w i : Nat) : Int))) = ((dgt v i + dgt w i + crr v w i : Nat) : Int) := by rw [Int.toNat_natCast]; rw [u32s (by omega)]; omega
      have ey : (IntKind.u32.wrap (((dgt v ((i : Nat) : Int).toNat : Nat) : Int) + ((crr v w i : Nat) : Int))) = ((dgt (v + w) i : Nat) : Int) := by rw [ex]; omega
      have ec : crr v w (i + 1) = 0 := by omega
      obtain ⟨s', h1, h2⟩ := r_integer_plus_0a_3 hio n v m w i c (crr v w i : Nat) (i : Nat) (sc_b (decide_eq_true (by omega))) (dix (by omega)) (dgi (by omega)) (sc_b (decide_eq_false (by omega))) (sc_b (decide_eq_false (by rw [ex]; omega))) ⟨rfl, rfl, rfl, by decide, rfl, rfl, by omega, by omega, rfl⟩
      rw [ey, ew] at h2
      rw [ec]
      subst h0
      exact ⟨s', _, h1, h2⟩

theorem plus_aB {T : Tab} (hio : TO T) {n v m w i : Nat} (hv : v < BB ^ n) (hw : w < BB ^ m) (hnm : m ≤ n) (hn : n < 100000) (hi : i < n) (c : Option Nat) :
    ∃ s_ c', gC T fn_integer_plus 0 (L_integer_plus_0aB n v m w i c (dg i (v + w)) (crr v w i : Nat) (i : Nat)) = some (.normal, s_) ∧ nM fn_integer_plus 0 s_ = (L_integer_plus_0aB n v m w (i + 1) c' (dg (i + 1) (v + w)) (crr v w (i + 1) : Nat) ((i + 1) : Nat)) := by
  have d1 := dgt_lt v i
  have d2 := dgt_lt w i
  have d3 := dgt_lt (v + w) i
  have d4 := crr_le v w i
  have d5 := crr_step v w i
  have d6 := crr_le v w (i + 1)
  have ew : IntKind.i64.wrap (((i : Nat) : Int) + 1) = ((i + 1 : Nat) : Int) := by rw [i64s (by omega)]; omega
  have eB : BB = 1000000000 := rfl
  rw [eB] at d1 d2 d3 d5
  by_cases hlt : i < m
  · by_cases hge : dgt v i + dgt w i + crr v w i ≥ 1000000000
    · have ex : (IntKind.u32.wrap ((IntKind.u32.wrap (((dgt v ((i : Nat) : Int).toNat : Nat) : Int) + ((crr v w i : Nat) : Int))) + ((dgt w ((i : Nat) : Int).toNat : Nat) : Int))) = ((dgt v i + dgt w i + crr v w i : Nat) : Int) := by rw [Int.toNat_natCast]; rw [u32s (x := ((dgt v i : Nat) : Int) + ((crr v w i : Nat) : Int)) (by omega), u32s (by omega)]; omega
      have ey : (IntKind.u32.wrap ((IntKind.u32.wrap ((IntKind.u32.wrap (((dgt v ((i : Nat) : Int).toNat : Nat) : Int) + ((crr v w i : Nat) : Int))) + ((dgt w ((i : Nat) : Int).toNat : Nat) : Int))) - (1000000000 : Int))) = ((dgt (v + w) i : Nat) : Int) := by rw [ex, u32s (by omega)]; omega
      have ec : crr v w (i + 1) = 1 := by omega
      obtain ⟨s', h1, h2⟩ := r_integer_plus_0aB_0 hio n v m w i c (dg i (v + w)) (crr v w i : Nat) (i : Nat) (sc_b (decide_eq_true (by omega))) (dix (by omega)) (dgi (by omega)) (sc_b (decide_eq_true (by omega))) (dix (by omega)) (dgi (by omega)) (sc_b (decide_eq_true (by rw [ex]; omega))) ⟨rfl, rfl, rfl, by decide, rfl, rfl, by rw [dg_len]; omega, by omega, rfl⟩ ((dg_nn i (v + w)).append (by rw [ey]; exact NoNames.nil.cons_sc))
      rw [ey, ew] at h2
      rw [ec]
      exact ⟨s', _, h1, h2⟩
    · have ex : (IntKind.u32.wrap ((IntKind.u32.wrap (((dgt v ((i : Nat) : Int).toNat : Nat) : Int) + ((crr v w i : Nat) : Int))) + ((dgt w ((i : Nat) : Int).toNat : Nat) : Int))) = ((dgt v i + dgt w i + crr v w i : Nat) : Int) := by rw [Int.toNat_natCast]; rw [u32s (x := ((dgt v i : Nat) : Int) + ((crr v w i : Nat) : Int)) (by omega), u32s (by omega)]; omega
      have ey : (IntKind.u32.wrap ((IntKind.u32.wrap (((dgt v ((i : Nat) : Int).toNat : Nat) : Int) + ((crr v w i : Nat) : Int))) + ((dgt w ((i : Nat) : Int).toNat : Nat) : Int))) = ((dgt (v + w) i : Nat) : Int) := by rw [ex]; omega
      have ec : crr v w (i + 1) = 0 := by omega
      obtain ⟨s', h1, h2⟩ := r_integer_plus_0aB_4 hio n v m w i c (dg i (v + w)) (crr v w i : Nat) (i : Nat) (sc_b (decide_eq_true (by omega))) (dix (by omega)) (dgi (by omega)) (sc_b (decide_eq_true (by omega))) (dix (by omega)) (dgi (by omega)) (sc_b (decide_eq_false (by rw [ex]; omega))) ⟨rfl, rfl, rfl, by decide, rfl, rfl, by rw [dg_len]; omega, by omega, rfl⟩ ((dg_nn i (v + w)).append (by rw [ey]; exact NoNames.nil.cons_sc))
      rw [ey, ew] at h2
      rw [ec]
      exact ⟨s', _, h1, h2⟩
  · have hz : dgt w i = 0 := dgt_high hw (by omega)
    by_cases hge : dgt v i + dgt w i + crr v w i ≥ 1000000000
    · have ex : (IntKind.u32.wrap (((dgt v ((i : Nat) : Int).toNat : Nat) : Int) + ((crr v w i : Nat) : Int))) = ((dgt v i + dgt w i + crr v w i : Nat) : Int) := by rw [Int.toNat_natCast]; rw [u32s (by omega)]; omega
      have ey : (IntKind.u32.wrap ((IntKind.u32.wrap (((dgt v ((i : Nat) : Int).toNat : Nat) : Int) + ((crr v w i : Nat) : Int))) - (1000000000 : Int))) = ((dgt (v + w) i : Nat) : Int) := by rw [ex, u32s (by omega)]; omega
      have ec : crr v w (i + 1) = 1 := by omega
      obtain ⟨s', h1, h2⟩ := r_integer_plus_0aB_2 hio n v m w i c (dg i (v + w)) (crr v w i : Nat) (i : Nat) (sc_b (decide_eq_true (by omega))) (dix (by omega)) (dgi (by omega)) (sc_b (decide_eq_false (by omega))) (sc_b (decide_eq_true (by rw [ex]; omega))) ⟨rfl, rfl, rfl, by decide, rfl, rfl, by rw [dg_len]; omega, by omega, rfl⟩ ((dg_nn i (v + w)).append (by rw [ey]; exact NoNames.nil.cons_sc))
      rw [ey, ew] at h2
      rw [ec]
      exact ⟨s', _, h1, h2⟩
    · have ex : (IntKind.u32.wrap (((dgt v ((i : Nat) : Int).toNat : Nat) : Int) + ((crr v w i : Nat) : Int))) = ((dgt v i + dgt w i + crr v w i : Nat) : Int) := by rw [Int.toNat_natCast]; rw [u32s (by omega)]; omega
      have ey : (IntKind.u32.wrap (((dgt v ((i : Nat) : Int).toNat : Nat) : Int) + ((crr v w i : Nat) : Int))) = ((dgt (v + w) i : Nat) : Int) := by rw [ex]; omega
      have ec : crr v w (i + 1) = 0 := by omega
      obtain ⟨s', h1, h2⟩ := r_integer_plus_0aB_3 hio n v m w i c (dg i (v + w)) (crr v w i : Nat) (i : Nat) (sc_b (decide_eq_true (by omega))) (dix (by omega)) (dgi (by omega)) (sc_b (decide_eq_false (by omega))) (sc_b (decide_eq_false (by rw [ex]; omega))) ⟨rfl, rfl, rfl, by decide, rfl, rfl, by rw [dg_len]; omega, by omega, rfl⟩ ((dg_nn i (v + w)).append (by rw [ey]; exact NoNames.nil.cons_sc))
      rw [ey, ew] at h2
      rw [ec]
      exact ⟨s', _, h1, h2⟩

theorem plusF_a {T : Tab} (hio : TO T) {n v m w : Nat} (hv : v < BB ^ n) (hw : w < BB ^ m) (hnm : m ≤ n) (hn : n < 100000) :
    ∃ c, evalBody PG T FUEL (ioF fn_integer_plus) fn_integer_plus [.fs n none (dg n v), .fs m none (dg m w)] = some (.fs (n + 1) c (dg (n + 1) (v + w)), []) := by
  have ew : IntKind.i64.wrap ((n : Int) + (1 : Int)) = ((n + 1 : Nat) : Int) := by rw [i64s (by omega)]; omega
  have hV : w < BB ^ n := Nat.lt_of_lt_of_le hw (Nat.pow_le_pow_right BB_pos hnm)
  have top := crr_top hv hV
  have hlast : dg n (v + w) ++ [uN ((crr v w n : Nat) : Int)] = dg (n + 1) (v + w) := by rw [top]; rfl
  have mk : (0 : Int) ≤ (0 : Int) ∧ (0 : Int) ≤ (IntKind.i64.wrap ((n : Int) + (1 : Int))) ∧ ((4 : Nat) : Int) * (IntKind.i64.wrap ((n : Int) + (1 : Int))) ≤ 281474976710656 ∧ (IntKind.i64.wrap ((n : Int) + (1 : Int))) ≤ 4611686018427387904 := by rw [ew]; omega
  obtain ⟨s, hs, hl⟩ := loop_to (G := gC T fn_integer_plus 0) (nm := nM fn_integer_plus 0)
    (fun i s => (i = 0 ∧ ∃ c, s = L_integer_plus_0a n v m w 0 c 0 0) ∨ (0 < i ∧ ∃ c, s = L_integer_plus_0aB n v m w i c (dg i (v + w)) (crr v w i : Nat) (i : Nat))) n FUEL (L_integer_plus_0a n v m w 0 (some ((IntKind.i64.wrap ((n : Int) + (1 : Int))).toNat)) 0 0) (by
      rintro i s hi (⟨rfl, c, rfl⟩ | ⟨h0, c, rfl⟩)
      · obtain ⟨s', c', h1, h2⟩ := plus_a hio hv hw hnm hn hi rfl c
        rw [crr_zero] at h1
        exact ⟨s', h1, .inr ⟨by omega, c', h2⟩⟩
      · obtain ⟨s', c', h1, h2⟩ := plus_aB hio hv hw hnm hn hi c
        exact ⟨s', h1, .inr ⟨by omega, c', h2⟩⟩) (.inl ⟨rfl, _, rfl⟩) (by unfold FUEL; omega)
  rcases hs with ⟨h0, c, rfl⟩ | ⟨h0, c, rfl⟩
  · subst h0
    refine ⟨capIn c (0 + 1), (p_integer_plusa_x0_0 hio _ v _ w 0 c _ _ (sc_b (decide_eq_false (by omega))) mk (hl _ _ (r_integer_plus_0a_1 hio _ v _ w 0 c 0 0 (sc_b (by simp))) (by simp)) ⟨rfl, rfl, rfl, by decide, rfl, rfl, rfl, by omega, rfl⟩ ⟨rfl, by decide, by simp, ?_⟩).trans ?_⟩
    · exact ((Leaves.nil.cons rfl).take _).plain (by rw [List.length_take]; simp)
    · have h := hlast
      rw [crr_zero] at h
      rw [← h]
      rfl
  · refine ⟨capIn c (n + 1), (p_integer_plusa_x1_0 hio _ v _ w _ c (dg n (v + w)) (crr v w n : Nat) _ (sc_b (decide_eq_false (by omega))) mk (hl _ _ (r_integer_plus_0aB_1 hio _ v _ w _ c (dg n (v + w)) _ _ (sc_b (decide_eq_false (by omega)))) (by simp)) ⟨rfl, rfl, rfl, by decide, rfl, rfl, by rw [dg_len]; omega, by omega, rfl⟩ ⟨rfl, by decide, ?_, ?_⟩).trans ?_⟩
    · rw [hlast, dg_len]; omega
    · rw [hlast, Nat.mul_one, dg_take (Nat.le_refl _)]; exact dg_pl (by omega)
    · rw [hlast, Nat.mul_one, dg_take (Nat.le_refl _)]

theorem plus_b {T : Tab} (hio : TO T) {n v m w i : Nat} (hv : v < BB ^ n) (hw : w < BB ^ m) (hnm : n ≤ m) (hn : m < 100000) (hi : i < m) (h0 : i = 0) (c : Option Nat) :
    ∃ s_ c', gC T fn_integer_plus 0 (L_integer_plus_0b n v m w i c (crr v w i : Nat) (i : Nat)) = some (.normal, s_) ∧ nM fn_integer_plus 0 s_ = (L_integer_plus_0bB n v m w (i + 1) c' (dg (i + 1) (v + w)) (crr v w (i + 1) : Nat) ((i + 1) : Nat)) := by
  have d1 := dgt_lt v i
  have d2 := dgt_lt w i
  have d3 := dgt_lt (v + w) i
  have d4 := crr_le v w i
  have d5 := crr_step v w i
  have d6 := crr_le v w (i + 1)
  have ew : IntKind.i64.wrap (((i : Nat) : Int) + 1) = ((i + 1 : Nat) : Int) := by rw [i64s (by omega)]; omega
  have eB : BB = 1000000000 := rfl
  rw [eB] at d1 d2 d3 d5
  by_cases hlt : i < n
  · by_cases hge : dgt v i + dgt w i + crr v w i ≥ 1000000000
    · have ex : (IntKind.u32.wrap ((IntKind.u32.wrap (((dgt w ((i : Nat) : Int).toNat : Nat) : Int) + ((crr v w i : Nat) : Int))) + ((dgt v ((i : Nat) : Int).toNat : Nat) : Int))) = ((dgt v i + dgt w i + crr v w i : Nat) : Int) := by rw [Int.toNat_natCast]; rw [u32s (x := ((dgt w i : Nat) : Int) + ((crr v w i : Nat) : Int)) (by omega), u32s (by omega)]; omega
      have ey : (IntKind.u32.wrap ((IntKind.u32.wrap ((IntKind.u32.wrap (((dgt w ((i : Nat) : Int).toNat : Nat) : Int) + ((crr v w i : Nat) : Int))) + ((dgt v ((i : Nat) : Int).toNat : Nat) : Int))) - (1000000000 : Int))) = ((dgt (v + w) i : Nat) : Int) := by rw [ex, u32s (by omega)]; omega
      have ec : crr v w (i + 1) = 1 := by omega
      obtain ⟨s', h1, h2⟩ := r_integer_plus_0b_0 hio n v m w i c (crr v w i : Nat) (i : Nat) (sc_b (decide_eq_true (by omega))) (dix (by omega)) (dgi (by omega)) (sc_b (decide_eq_true (by omega))) (dix (by omega)) (dgi (by omega)) (sc_b (decide_eq_true (by rw [ex]; omega))) ⟨rfl, rfl, rfl, by decide, rfl, rfl, by omega, by omega, rfl⟩
      rw [ey, ew] at h2
      rw [ec]
      subst h0
      exact ⟨s', _, h1, h2⟩
    · have ex : (IntKind.u32.wrap ((IntKind.u32.wrap (((dgt w ((i : Nat) : Int).toNat : Nat) : Int) + ((crr v w i : Nat) : Int))) + ((dgt v ((i : Nat) : Int).toNat : Nat) : Int))) = ((dgt v i + dgt w i + crr v w i : Nat) : Int) := by rw [Int.toNat_natCast]; rw [u32s (x := ((dgt w i : Nat) : Int) + ((crr v w i : Nat) : Int)) (by omega), u32s (by omega)]; omega
      have ey : (IntKind.u32.wrap ((IntKind.u32.wrap (((dgt w ((i : Nat) : Int).toNat : Nat) : Int) + ((crr v w i : Nat) : Int))) + ((dgt v ((i : Nat) : Int).toNat : Nat) : Int))) = ((dgt (v + w) i : Nat) : Int) := by rw [ex]; omega
      have ec : crr v w (i + 1) = 0 := by omega
      obtain ⟨s', h1, h2⟩ := r_integer_plus_0b_4 hio n v m w i c (crr v w i : Nat) (i : Nat) (sc_b (decide_eq_true (by omega))) (dix (by omega)) (dgi (by omega)) (sc_b (decide_eq_true (by omega))) (dix (by omega)) (dgi (by omega)) (sc_b (decide_eq_false (by rw [ex]; omega))) ⟨rfl, rfl, rfl, by decide, rfl, rfl, by omega, by omega, rfl⟩
      rw [ey, ew] at h2
      rw [ec]
      subst h0
      exact ⟨s', _, h1, h2⟩
  · have hz : dgt v i = 0 := dgt_high hv (by omega)
    by_cases hge : dgt v i + dgt w i + crr v w i ≥ 1000000000
    · have ex : (IntKind.u32.wrap (((dgt w ((i : Nat) : Int).toNat : Nat) : Int) + ((crr v w i : Nat) : Int))) = ((dgt v i + dgt w i + crr v w i : Nat) : Int) := by rw [Int.toNat_natCast]; rw [u32s (by omega)]; omega
      have ey : (IntKind.u32.wrap ((IntKind.u32.wrap (((dgt w ((i : Nat) : Int).toNat : Nat) : Int) + ((crr v w i : Nat) : Int))) - (1000000000 : Int))) = ((dgt (v + w) i : Nat) : Int) := by rw [ex, u32s (by omega)]; omega
      have ec : crr v w (i + 1) = 1 := by omega
      obtain ⟨s', h1, h2⟩ := r_integer_plus_0b_2 hio n v m w i c (crr v w i : Nat) (i : Nat) (sc_b (decide_eq_true (by omega))) (dix (by omega)) (dgi (by omega)) (sc_b (decide_eq_false (by omega))) (sc_b (decide_eq_true (by rw [ex]; omega))) ⟨rfl, rfl, rfl, by decide, rfl, rfl, by omega, by omega, rfl⟩
      rw [ey, ew] at h2
      rw [ec]
      subst h0
      exact ⟨s', _, h1, h2⟩
    · have ex : (IntKind.u32.wrap (((dgt w ((i : Nat) : Int).toNat : Nat) : Int) + ((crr v w i : Nat) : Int))) = ((dgt v i + dgt w i + crr v w i : Nat) : Int) := by rw [Int.toNat_natCast]; rw [u32s (by omega)]; omega
      have ey : (IntKind.u32.wrap (((dgt w ((i : Nat) : Int).toNat : Nat) : Int) + ((crr v w i : Nat) : Int))) = ((dgt (v + w) i : Nat) : Int) := by rw [ex]; omega
      have ec : crr v w (i + 1) = 0 := by omega
      obtain ⟨s', h1, h2⟩ := r_integer_plus_0b_3 hio n v m w i c (crr v w i : Nat) (i : Nat) (sc_b (decide_eq_true (by omega))) (dix (by omega)) (dgi (by omega)) (sc_b (decide_eq_false (by omega))) (sc_b (decide_eq_false (by rw [ex]; omega))) ⟨rfl, rfl, rfl, by decide, rfl, rfl, by omega, by omega, rfl⟩
      rw [ey, ew] at h2
      rw [ec]
      subst h0
      exact ⟨s', _, h1, h2⟩

theorem plus_bB {T : Tab} (hio : TO T) {n v m w i : Nat} (hv : v < BB ^ n) (hw : w < BB ^ m) (hnm : n ≤ m) (hn : m < 100000) (hi : i < m) (c : Option Nat) :
    ∃ s_ c', gC T fn_integer_plus 0 (L_integer_plus_0bB n v m w i c (dg i (v + w)) (crr v w i : Nat) (i : Nat)) = some (.normal, s_) ∧ nM fn_integer_plus 0 s_ = (L_integer_plus_0bB n v m w (i + 1) c' (dg (i + 1) (v + w)) (crr v w (i + 1) : Nat) ((i + 1) : Nat)) := by
  have d1 := dgt_lt v i
  have d2 := dgt_lt w i
  have d3 := dgt_lt (v + w) i
  have d4 := crr_le v w i
  have d5 := crr_step v w i
  have d6 := crr_le v w (i + 1)
  have ew : IntKind.i64.wrap (((i : Nat) : Int) + 1) = ((i + 1 : Nat) : Int) := by rw [i64s (by omega)]; omega
  have eB : BB = 1000000000 := rfl
  rw [eB] at d1 d2 d3 d5
  by_cases hlt : i < n
  · by_cases hge : dgt v i + dgt w i + crr v w i ≥ 1000000000
    · have ex : (IntKind.u32.wrap ((IntKind.u32.wrap (((dgt w ((i : Nat) : Int).toNat : Nat) : Int) + ((crr v w i : Nat) : Int))) + ((dgt v ((i : Nat) : Int).toNat : Nat) : Int))) = ((dgt v i + dgt w i + crr v w i : Nat) : Int) := by rw [Int.toNat_natCast]; rw [u32s (x := ((dgt w i : Nat) : Int) + ((crr v w i : Nat) : Int)) (by omega), u32s (by omega)]; omega
      have ey : (IntKind.u32.wrap ((IntKind.u32.wrap ((IntKind.u32.wrap (((dgt w ((i : Nat) : Int).toNat : Nat) : Int) + ((crr v w i : Nat) : Int))) + ((dgt v ((i : Nat) : Int).toNat : Nat) : Int))) - (1000000000 : Int))) = ((dgt (v + w) i : Nat) : Int) := by rw [ex, u32s (by omega)]; omega
      have ec : crr v w (i + 1) = 1 := by omega
      obtain ⟨s', h1, h2⟩ := r_integer_plus_0bB_0 hio n v m w i c (dg i (v + w)) (crr v w i : Nat) (i : Nat) (sc_b (decide_eq_true (by omega))) (dix (by omega)) (dgi (by omega)) (sc_b (decide_eq_true (by omega))) (dix (by omega)) (dgi (by omega)) (sc_b (decide_eq_true (by rw [ex]; omega))) ⟨rfl, rfl, rfl, by decide, rfl, rfl, by rw [dg_len]; omega, by omega, rfl⟩ ((dg_nn i (v + w)).append (by rw [ey]; exact NoNames.nil.cons_sc))
      rw [ey, ew] at h2
      rw [ec]
      exact ⟨s', _, h1, h2⟩
    · have ex : (IntKind.u32.wrap ((IntKind.u32.wrap (((dgt w ((i : Nat) : Int).toNat : Nat) : Int) + ((crr v w i : Nat) : Int))) + ((dgt v ((i : Nat) : Int).toNat : Nat) : Int))) = ((dgt v i + dgt w i + crr v w i : Nat) : Int) := by rw [Int.toNat_natCast]; rw [u32s (x := ((dgt w i : Nat) : Int) + ((crr v w i : Nat) : Int)) (by omega), u32s (by omega)]; omega
      have ey : (IntKind.u32.wrap ((IntKind.u32.wrap (((dgt w ((i : Nat) : Int).toNat : Nat) : Int) + ((crr v w i : Nat) : Int))) + ((dgt v ((i : Nat) : Int).toNat : Nat) : Int))) = ((dgt (v + w) i : Nat) : Int) := by rw [ex]; omega
      have ec : crr v w (i + 1) = 0 := by omega
      obtain ⟨s', h1, h2⟩ := r_integer_plus_0bB_4 hio n v m w i c (dg i (v + w)) (crr v w i : Nat) (i : Nat) (sc_b (decide_eq_true (by omega))) (dix (by omega)) (dgi (by omega)) (sc_b (decide_eq_true (by omega))) (dix (by omega)) (dgi (by omega)) (sc_b (decide_eq_false (by rw [ex]; omega))) ⟨rfl, rfl, rfl, by decide, rfl, rfl, by rw [dg_len]; omega, by omega, rfl⟩ ((dg_nn i (v + w)).append (by rw [ey]; exact NoNames.nil.cons_sc))
      rw [ey, ew] at h2
      rw [ec]
      exact ⟨s', _, h1, h2⟩
  · have hz : dgt v i = 0 := dgt_high hv (by omega)
    by_cases hge : dgt v i + dgt w i + crr v w i ≥ 1000000000
    · have ex : (IntKind.u32.wrap (((dgt w ((i : Nat) : Int).toNat : Nat) : Int) + ((crr v w i : Nat) : Int))) = ((dgt v i + dgt w i + crr v w i : Nat) : Int) := by rw [Int.toNat_natCast]; rw [u32s (by omega)]; omega
      have ey : (IntKind.u32.wrap ((IntKind.u32.wrap (((dgt w ((i : Nat) : Int).toNat : Nat) : Int) + ((crr v w i : Nat) : Int))) - (1000000000 : Int))) = ((dgt (v + w) i : Nat) : Int) := by rw [ex, u32s (by omega)]; omega
      have ec : crr v w (i + 1) = 1 := by omega
      obtain ⟨s', h1, h2⟩ := r_integer_plus_0bB_2 hio n v m w i c (dg i (v + w)) (crr v w i : Nat) (i : Nat) (sc_b (decide_eq_true (by omega))) (dix (by omega)) (dgi (by omega)) (sc_b (decide_eq_false (by omega))) (sc_b (decide_eq_true (by rw [ex]; omega))) ⟨rfl, rfl, rfl, by decide, rfl, rfl, by rw [dg_len]; omega, by omega, rfl⟩ ((dg_nn i (v + w)).append (by rw [ey]; exact NoNames.nil.cons_sc))
      rw [ey, ew] at h2
      rw [ec]
      exact ⟨s', _, h1, h2⟩
    · have ex : (IntKind.u32.wrap (((dgt w ((i : Nat) : Int).toNat : Nat) : Int) + ((crr v w i : Nat) : Int))) = ((dgt v i + dgt w i + crr v w i : Nat) : Int) := by rw [Int.toNat_natCast]; rw [u32s (by omega)]; omega
      have ey : (IntKind.u32.wrap (((dgt w ((i : Nat) : Int).toNat : Nat) : Int) + ((crr v w i : Nat) : Int))) = ((dgt (v + w) i : Nat) : Int) := by rw [ex]; omega
      have ec : crr v w (i + 1) = 0 := by omega
      obtain ⟨s', h1, h2⟩ := r_integer_plus_0bB_3 hio n v m w i c (dg i (v + w)) (crr v w i : Nat) (i : Nat) (sc_b (decide_eq_true (by omega))) (dix (by omega)) (dgi (by omega)) (sc_b (decide_eq_false (by omega))) (sc_b (decide_eq_false (by rw [ex]; omega))) ⟨rfl, rfl, rfl, by decide, rfl, rfl, by rw [dg_len]; omega, by omega, rfl⟩ ((dg_nn i (v + w)).append (by rw [ey]; exact NoNames.nil.cons_sc))
      rw [ey, ew] at h2
      rw [ec]
      exact ⟨s', _, h1, h2⟩

theorem plusF_b {T : Tab} (hio : TO T) {n v m w : Nat} (hv : v < BB ^ n) (hw : w < BB ^ m) (hnm : n < m) (hn : m < 100000) :
    ∃ c, evalBody PG T FUEL (ioF fn_integer_plus) fn_integer_plus [.fs n none (dg n v), .fs m none (dg m w)] = some (.fs (m + 1) c (dg (m + 1) (v + w)), []) := by
  have ew : IntKind.i64.wrap ((m : Int) + (1 : Int)) = ((m + 1 : Nat) : Int) := by rw [i64s (by omega)]; omega
  have hV : v < BB ^ m := Nat.lt_of_lt_of_le hv (Nat.pow_le_pow_right BB_pos (by omega))
  have top := crr_top hV hw
  have hlast : dg m (v + w) ++ [uN ((crr v w m : Nat) : Int)] = dg (m + 1) (v + w) := by rw [top]; rfl
  have mk : (0 : Int) ≤ (0 : Int) ∧ (0 : Int) ≤ (IntKind.i64.wrap ((m : Int) + (1 : Int))) ∧ ((4 : Nat) : Int) * (IntKind.i64.wrap ((m : Int) + (1 : Int))) ≤ 281474976710656 ∧ (IntKind.i64.wrap ((m : Int) + (1 : Int))) ≤ 4611686018427387904 := by rw [ew]; omega
  obtain ⟨s, hs, hl⟩ := loop_to (G := gC T fn_integer_plus 0) (nm := nM fn_integer_plus 0)
    (fun i s => (i = 0 ∧ ∃ c, s = L_integer_plus_0b n v m w 0 c 0 0) ∨ (0 < i ∧ ∃ c, s = L_integer_plus_0bB n v m w i c (dg i (v + w)) (crr v w i : Nat) (i : Nat))) m FUEL (L_integer_plus_0b n v m w 0 (some ((IntKind.i64.wrap ((m : Int) + (1 : Int))).toNat)) 0 0) (by
      rintro i s hi (⟨rfl, c, rfl⟩ | ⟨h0, c, rfl⟩)
      · obtain ⟨s', c', h1, h2⟩ := plus_b hio hv hw (by omega) hn hi rfl c
        rw [crr_zero] at h1
        exact ⟨s', h1, .inr ⟨by omega, c', h2⟩⟩
      · obtain ⟨s', c', h1, h2⟩ := plus_bB hio hv hw (by omega) hn hi c
        exact ⟨s', h1, .inr ⟨by omega, c', h2⟩⟩) (.inl ⟨rfl, _, rfl⟩) (by unfold FUEL; omega)
  rcases hs with ⟨h0, c, rfl⟩ | ⟨h0, c, rfl⟩
  · subst h0
    refine ⟨capIn c (0 + 1), (p_integer_plusb_x0_0 hio _ v _ w 0 c _ _ (sc_b (decide_eq_true (by omega))) mk (hl _ _ (r_integer_plus_0b_1 hio _ v _ w 0 c 0 0 (sc_b (by simp))) (by simp)) ⟨rfl, rfl, rfl, by decide, rfl, rfl, rfl, by omega, rfl⟩ ⟨rfl, by decide, by simp, ?_⟩).trans ?_⟩
    · exact ((Leaves.nil.cons rfl).take _).plain (by rw [List.length_take]; simp)
    · have h := hlast
      rw [crr_zero] at h
      rw [← h]
      rfl
  · refine ⟨capIn c (m + 1), (p_integer_plusb_x1_0 hio _ v _ w _ c (dg m (v + w)) (crr v w m : Nat) _ (sc_b (decide_eq_true (by omega))) mk (hl _ _ (r_integer_plus_0bB_1 hio _ v _ w _ c (dg m (v + w)) _ _ (sc_b (decide_eq_false (by omega)))) (by simp)) ⟨rfl, rfl, rfl, by decide, rfl, rfl, by rw [dg_len]; omega, by omega, rfl⟩ ⟨rfl, by decide, ?_, ?_⟩).trans ?_⟩
    · rw [hlast, dg_len]; omega
    · rw [hlast, Nat.mul_one, dg_take (Nat.le_refl _)]; exact dg_pl (by omega)
    · rw [hlast, Nat.mul_one, dg_take (Nat.le_refl _)]

theorem c_integer_plus {q : Nat} (hq : 0 < q) {v w n m : Nat} {c d : Option Nat} (hv : v < BB ^ n) (hn : n < 100000) (hw : w < BB ^ m) (hm : m < 100000) :
    (TU q).call fn_integer_plus [.fs n c (dg n v), .fs m d (dg m w)] = some (.fs (nplus n m) none (dg (nplus n m) (v + w)), []) := by
  have hio := TU_io (q - 1)
  by_cases h : m ≤ n
  · obtain ⟨c', h1⟩ := plusF_a hio hv hw h hn
    rw [show nplus n m = n + 1 by unfold nplus; omega]
    exact TU_call hq rfl rfl (args' := [.fs n none (dg n v), .fs m none (dg m w)]) (by simp [uncaps, uncap]) h1 (by simp [uncap])
  · obtain ⟨c', h1⟩ := plusF_b hio hv hw (by omega) hm
    rw [show nplus n m = m + 1 by unfold nplus; omega]
    exact TU_call hq rfl rfl (args' := [.fs n none (dg n v), .fs m none (dg m w)]) (by simp [uncaps, uncap]) h1 (by simp [uncap])
end Go.Proofs.YtkeelkeoijemiaaGreat.Ev

namespace Go.Proofs.YtkeelkeoijemiaaGreat.Ev
open Go Go.RowKit
set_option linter.unusedVariables false
set_option linter.unusedSimpArgs false

theorem sgz_abs (s : Bool) (v : Nat) : (sgz s v).natAbs = v := by unfold sgz; cases s <;> simp
theorem sgz_ng (s : Bool) (v : Nat) : ng (sgz s v) = (s && decide (0 < v)) := by
  unfold sgz ng
  cases s <;> simp <;> omega

theorem c_integer_signed {m : Nat} (hm : 0 < m) {v k : Nat} {s : Bool} {c : Option Nat} (hv : v < BB ^ k) (hk : k < 100000) : (TU m).call fn_integer_signed [bN s, .fs k c (dg k v)] = some (iM (sgz s v), []) := by
  have hio := TU_io (m - 1)
  have hnl := nl_le hv
  obtain ⟨S, rfl, hl⟩ := loop_to (G := gC (TU (m - 1)) fn_integer_signed 0) (nm := nM fn_integer_signed 0)
    (fun i S => S = L_integer_signed_0 k v s ((k - i : Nat) : Int)) (k - nl v) FUEL (L_integer_signed_0 k v s ((k : Nat) : Int)) (by
      rintro i S hi rfl
      have e1 : IntKind.i64.wrap (((k - i : Nat) : Int) - 1) = ((k - (i + 1) : Nat) : Int) := by rw [i64s (by omega)]; omega
      obtain ⟨s', h1, h2⟩ := r_integer_signed_0_0 hio k v s ((k - i : Nat) : Int) (sc_b (decide_eq_true (by omega))) (by rw [e1]; exact dix (by omega))
        (by rw [e1]; exact dgi (by omega)) (sc_b (by rw [e1, Int.toNat_natCast, dgt_high (nl_lt v) (by omega)]; rfl))
      rw [e1] at h2
      exact ⟨s', h1, h2⟩) (by rw [Nat.sub_zero]) (by unfold FUEL; omega)
  rw [show k - (k - nl v) = nl v by omega] at hl
  have fin : ∀ b, b = ng (sgz s v) → uncap (MV.agg [bN b, MV.fs ((nl v : Nat) : Int).toNat (some ((nl v : Nat) : Int).toNat) ((dg k v).take (((nl v : Nat) : Int).toNat * 1))]) = iM (sgz s v) := by
    rintro b rfl
    rw [Int.toNat_natCast, Nat.mul_one, dg_take hnl]
    simp only [uncap, uncaps, uncaps_dg, iM, iC, nz, cz, sgz_abs]
  have ht : ∀ x : Nat, (decide (((x : Nat) : Int) > 0)) = decide (0 < x) := fun x => decide_eq_decide.2 (by omega)
  have hz : decide (0 < nl v) = decide (0 < v) := decide_eq_decide.2 ⟨fun h => by
    apply Nat.pos_of_ne_zero
    intro h0; rw [h0, nl_zero] at h; omega, nl_pos⟩
  refine TU_call hm rfl rfl (args' := [bN s, .fs k none (dg k v)]) (by simp [uncaps, uncap]) (r := MV.agg [bN (s && decide (0 < v)), MV.fs ((nl v : Nat) : Int).toNat (some ((nl v : Nat) : Int).toNat) ((dg k v).take (((nl v : Nat) : Int).toNat * 1))]) ?_ (fin _ (sgz_ng s v).symm)
  by_cases h0 : nl v = 0
  · have hx := hl _ _ (r_integer_signed_0_1 hio k v s ((nl v : Nat) : Int) (sc_b (decide_eq_false (by omega)))) (by simp)
    cases s with
    | true => exact (p_integer_signed_x0_0 hio k v true _ hx rfl (by omega) (by omega) (Nat.le_refl _) ⟨rfl, rfl, rfl, by decide⟩).trans (by rw [ht, hz]; rfl)
    | false => exact (p_integer_signed_x0_1 hio k v false _ hx rfl (by omega) (by omega) (Nat.le_refl _) ⟨rfl, rfl, rfl, by decide⟩).trans rfl
  · have hv0 : 0 < v := by
      apply Nat.pos_of_ne_zero
      intro h; rw [h, nl_zero] at h0; omega
    have e1 : IntKind.i64.wrap (((nl v : Nat) : Int) - 1) = ((nl v - 1 : Nat) : Int) := by rw [i64s (by omega)]; omega
    have hx := hl _ _ (r_integer_signed_0_2 hio k v s ((nl v : Nat) : Int) (sc_b (decide_eq_true (by omega))) (by rw [e1]; exact dix (by omega)) (by rw [e1]; exact dgi (by omega)) (sc_b (by rw [e1, Int.toNat_natCast]; simpa using dgt_top' hv0))) (by simp)
    cases s with
    | true => exact (p_integer_signed_x1_0 hio k v true _ hx rfl (by omega) (by omega) (Nat.le_refl _) ⟨rfl, rfl, rfl, by decide⟩).trans (by rw [ht, hz]; rfl)
    | false => exact (p_integer_signed_x1_1 hio k v false _ hx rfl (by omega) (by omega) (Nat.le_refl _) ⟨rfl, rfl, rfl, by decide⟩).trans rfl

theorem c_integer_minus {q : Nat} (hq : 0 < q) {v w n m : Nat} {c d : Option Nat} (hwv : w ≤ v) (hv : v < BB ^ n) (hn : n < 100000) (hw : w < BB ^ m) (hm : m < 100000) :
    (TU q).call fn_integer_minus [.fs n c (dg n v), .fs m d (dg m w)] = some (.fs n none (dg n (v - w)), []) := by
  have hio := TU_io (q - 1)
  obtain ⟨D, hD⟩ : ∃ D, D = v - w := ⟨_, rfl⟩
  have hvD : v = w + D := by omega
  obtain ⟨S, rfl, hl⟩ := loop_to (G := gC (TU (q - 1)) fn_integer_minus 0) (nm := nM fn_integer_minus 0)
    (fun i S => S = L_integer_minus_0 n v m w (dg n (D % BB ^ i)) (crr w D i : Nat) (i : Nat)) n FUEL (L_integer_minus_0 n v m w (repCells [uN 0] n) 0 0) (by
      rintro i S hi rfl
      have d1 := dgt_lt v i
      have d2 := dgt_lt w i
      have d3 := dgt_lt D i
      have d4 := crr_le w D i
      have d5 := crr_step w D i
      rw [← hvD] at d5
      have d6 := crr_le w D (i + 1)
      have ew : IntKind.i64.wrap (((i : Nat) : Int) + 1) = ((i + 1 : Nat) : Int) := by rw [i64s (by omega)]; omega
      have eB : BB = 1000000000 := rfl
      rw [eB] at d1 d2 d3 d5
      have hp := put_next (d := D) hi
      have hlen : (dg n (D % BB ^ i)).length = n := dg_len _ _
      by_cases hlt : i < m
      · have ey : IntKind.u32.wrap (((crr w D i : Nat) : Int) + ((dgt w ((i : Nat) : Int).toNat : Nat) : Int)) = ((crr w D i + dgt w i : Nat) : Int) := by rw [Int.toNat_natCast, u32s (by omega)]; omega
        by_cases hge : dgt v i < crr w D i + dgt w i
        · have ex : (IntKind.u32.wrap ((IntKind.u32.wrap (((dgt v ((i : Nat) : Int).toNat : Nat) : Int) + (1000000000 : Int))) - (IntKind.u32.wrap (((crr w D i : Nat) : Int) + ((dgt w ((i : Nat) : Int).toNat : Nat) : Int))))) = ((dgt D i : Nat) : Int) := by
            rw [ey, Int.toNat_natCast, u32s (x := ((dgt v i : Nat) : Int) + 1000000000) (by omega), u32s (by omega)]; omega
          have ec : crr w D (i + 1) = 1 := by omega
          obtain ⟨s', h1, h2⟩ := r_integer_minus_0_0 hio n v m w (dg n (D % BB ^ i)) (crr w D i : Nat) (i : Nat) (sc_b (decide_eq_true (by omega))) (dix hi) (dgi hi) (sc_b (decide_eq_true (by omega))) (dix hlt) (dgi hlt) (sc_b (decide_eq_true (by rw [ey, Int.toNat_natCast]; omega))) (by omega) ⟨rfl, rfl, rfl, by rw [pos0]; omega⟩
            (by rw [ex, pos0, hp]; exact dg_nn _ _)
          rw [ex, pos0, hp, ew] at h2
          rw [ec]
          exact ⟨s', h1, h2⟩
        · have ex : (IntKind.u32.wrap (((dgt v ((i : Nat) : Int).toNat : Nat) : Int) - (IntKind.u32.wrap (((crr w D i : Nat) : Int) + ((dgt w ((i : Nat) : Int).toNat : Nat) : Int))))) = ((dgt D i : Nat) : Int) := by
            rw [ey, Int.toNat_natCast, u32s (by omega)]; omega
          have ec : crr w D (i + 1) = 0 := by omega
          obtain ⟨s', h1, h2⟩ := r_integer_minus_0_4 hio n v m w (dg n (D % BB ^ i)) (crr w D i : Nat) (i : Nat) (sc_b (decide_eq_true (by omega))) (dix hi) (dgi hi) (sc_b (decide_eq_true (by omega))) (dix hlt) (dgi hlt) (sc_b (decide_eq_false (by rw [ey, Int.toNat_natCast]; omega))) (by omega) ⟨rfl, rfl, rfl, by rw [pos0]; omega⟩
            (by rw [ex, pos0, hp]; exact dg_nn _ _)
          rw [ex, pos0, hp, ew] at h2
          rw [ec]
          exact ⟨s', h1, h2⟩
      · have hz : dgt w i = 0 := dgt_high hw (by omega)
        by_cases hge : dgt v i < crr w D i
        · have ex : (IntKind.u32.wrap ((IntKind.u32.wrap (((dgt v ((i : Nat) : Int).toNat : Nat) : Int) + (1000000000 : Int))) - ((crr w D i : Nat) : Int))) = ((dgt D i : Nat) : Int) := by
            rw [Int.toNat_natCast, u32s (x := ((dgt v i : Nat) : Int) + 1000000000) (by omega), u32s (by omega)]; omega
          have ec : crr w D (i + 1) = 1 := by omega
          obtain ⟨s', h1, h2⟩ := r_integer_minus_0_2 hio n v m w (dg n (D % BB ^ i)) (crr w D i : Nat) (i : Nat) (sc_b (decide_eq_true (by omega))) (dix hi) (dgi hi) (sc_b (decide_eq_false (by omega))) (sc_b (decide_eq_true (by rw [Int.toNat_natCast]; omega))) (by omega) ⟨rfl, rfl, rfl, by rw [pos0]; omega⟩
            (by rw [ex, pos0, hp]; exact dg_nn _ _)
          rw [ex, pos0, hp, ew] at h2
          rw [ec]
          exact ⟨s', h1, h2⟩
        · have ex : (IntKind.u32.wrap (((dgt v ((i : Nat) : Int).toNat : Nat) : Int) - ((crr w D i : Nat) : Int))) = ((dgt D i : Nat) : Int) := by
            rw [Int.toNat_natCast, u32s (by omega)]; omega
          have ec : crr w D (i + 1) = 0 := by omega
          obtain ⟨s', h1, h2⟩ := r_integer_minus_0_3 hio n v m w (dg n (D % BB ^ i)) (crr w D i : Nat) (i : Nat) (sc_b (decide_eq_true (by omega))) (dix hi) (dgi hi) (sc_b (decide_eq_false (by omega))) (sc_b (decide_eq_false (by rw [Int.toNat_natCast]; omega))) (by omega) ⟨rfl, rfl, rfl, by rw [pos0]; omega⟩
            (by rw [ex, pos0, hp]; exact dg_nn _ _)
          rw [ex, pos0, hp, ew] at h2
          rw [ec]
          exact ⟨s', h1, h2⟩) (by
    rw [rep_dg, Nat.pow_zero, Nat.mod_one, crr_zero]
    rfl) (by unfold FUEL; omega)
  have hx := hl _ _ (r_integer_minus_0_1 hio n v m w _ _ _ (sc_b (decide_eq_false (by omega)))) (by simp)
  rw [dg_mod] at hx
  refine TU_call hq rfl rfl (args' := [.fs n none (dg n v), .fs m none (dg m w)]) (by simp [uncaps, uncap]) (r := .fs n (some n) ((dg n D).take (n * 1))) ?_ (by rw [Nat.mul_one, dg_take (Nat.le_refl _), hD]; simp [uncap])
  exact p_integer_minus_x0_0 hio n v m w (dg n D) _ _ ⟨by omega, by omega, by omega, by omega⟩ hx ⟨rfl, by decide, by rw [dg_len]; omega, by rw [Nat.mul_one, dg_take (Nat.le_refl _)]; exact dg_pl (by omega)⟩
end Go.Proofs.YtkeelkeoijemiaaGreat.Ev

namespace Go.Proofs.YtkeelkeoijemiaaGreat.Ev
open Go
set_option linter.unusedVariables false
set_option linter.unusedSimpArgs false
set_option maxRecDepth 100000

theorem p_integer_split_0 {T : Tab} (hio : TO T) (x : Int) (h0 : (1000000000 : Int) ≠ 0) (h1 : (1000000000 : Int) ≠ 0) (h2 : (1000000000 : Int) ≠ 0) (h3 : (1000000000 : Int) ≠ 0) (h4 : (1000000000 : Int) ≠ 0) : evalBody PG T FUEL (ioF fn_integer_split) fn_integer_split [wN x] = some (MV.fs 3 (some 3) [uN (IntKind.u32.wrap (x.tmod (1000000000 : Int))), uN (IntKind.u32.wrap ((IntKind.u64.wrap (x.tdiv (1000000000 : Int))).tmod (1000000000 : Int))), uN (IntKind.u32.wrap (IntKind.u64.wrap ((IntKind.u64.wrap (x.tdiv (1000000000 : Int))).tdiv (1000000000 : Int))))], []) :=
  xBody_io (hard := false) hio (orc := []) (by kernel_rfl) (owc h0 (owc h1 (owc h2 (owc h3 (ow1 h4)))))

theorem p_integer_FromInt64_0 {T : Tab} (hio : TO T) (x : Int) (h0 : (bN (decide (x < (0 : Int))) : MV) = .sc (.bool true)) (h1 : T.call fn_integer_split [wN (IntKind.u64.wrap ((0 : Int) - (IntKind.u64.wrap x)))] = some (MV.fs 3 none (dg 3 ((IntKind.u64.wrap ((0 : Int) - (IntKind.u64.wrap x))).toNat)), [])) (h2 : T.call fn_integer_signed [bN (decide (x < (0 : Int))), MV.fs 3 none (dg 3 ((IntKind.u64.wrap ((0 : Int) - (IntKind.u64.wrap x))).toNat))] = some (iM (sgz (decide (x < (0 : Int))) ((IntKind.u64.wrap ((0 : Int) - (IntKind.u64.wrap x))).toNat)), [])) : evalBody PG T FUEL (ioF fn_integer_FromInt64) fn_integer_FromInt64 [iN x] = some (MV.agg [bN (ng (sgz (decide (x < (0 : Int))) ((IntKind.u64.wrap ((0 : Int) - (IntKind.u64.wrap x))).toNat))), MV.fs (nz (sgz (decide (x < (0 : Int))) ((IntKind.u64.wrap ((0 : Int) - (IntKind.u64.wrap x))).toNat))) none (cz (sgz (decide (x < (0 : Int))) ((IntKind.u64.wrap ((0 : Int) - (IntKind.u64.wrap x))).toNat)))], []) :=
  xBody_io (hard := false) hio (orc := [.br true, .call (MV.fs 3 none (dg 3 ((IntKind.u64.wrap ((0 : Int) - (IntKind.u64.wrap x))).toNat))) [], .call (iM (sgz (decide (x < (0 : Int))) ((IntKind.u64.wrap ((0 : Int) - (IntKind.u64.wrap x))).toNat))) []]) (by kernel_rfl) (owc h0 (owc h1 (ow1 h2)))

theorem p_integer_FromInt64_1 {T : Tab} (hio : TO T) (x : Int) (h0 : (bN (decide (x < (0 : Int))) : MV) = .sc (.bool false)) (h1 : T.call fn_integer_split [wN (IntKind.u64.wrap x)] = some (MV.fs 3 none (dg 3 ((IntKind.u64.wrap x).toNat)), [])) (h2 : T.call fn_integer_signed [bN (decide (x < (0 : Int))), MV.fs 3 none (dg 3 ((IntKind.u64.wrap x).toNat))] = some (iM (sgz (decide (x < (0 : Int))) ((IntKind.u64.wrap x).toNat)), [])) : evalBody PG T FUEL (ioF fn_integer_FromInt64) fn_integer_FromInt64 [iN x] = some (MV.agg [bN (ng (sgz (decide (x < (0 : Int))) ((IntKind.u64.wrap x).toNat))), MV.fs (nz (sgz (decide (x < (0 : Int))) ((IntKind.u64.wrap x).toNat))) none (cz (sgz (decide (x < (0 : Int))) ((IntKind.u64.wrap x).toNat)))], []) :=
  xBody_io (hard := false) hio (orc := [.br false, .call (MV.fs 3 none (dg 3 ((IntKind.u64.wrap x).toNat))) [], .call (iM (sgz (decide (x < (0 : Int))) ((IntKind.u64.wrap x).toNat))) []]) (by kernel_rfl) (owc h0 (owc h1 (ow1 h2)))

theorem p_integer_word_n_0 {T : Tab} (hio : TO T) (s : Bool) (n v : Nat) (h0 : (bN ((n : Int) == (0 : Int)) : MV) = .sc (.bool true)) : evalBody PG T FUEL (ioF fn_integer_word) fn_integer_word [MV.agg [bN s, MV.fs n none (dg n v)]] = some (MV.tup [wN 0, bN true], []) :=
  xBody_io (hard := true) hio (orc := [.auto, .br true]) (by kernel_rfl) (ow1 h0)

theorem p_integer_word_n_1 {T : Tab} (hio : TO T) (s : Bool) (n v : Nat) (h0 : (bN ((n : Int) == (0 : Int)) : MV) = .sc (.bool false)) (h1 : (bN ((n : Int) == (1 : Int)) : MV) = .sc (.bool true)) (h2 : (0 : Int) ≤ (0 : Int) ∧ (0 : Int) < ((n : Nat) : Int) ∧ ((dg n v) : List MV) ≠ []) (h3 : takeAs false 1 (dg n v) = some (uN ((dgt v 0 : Nat) : Int))) : evalBody PG T FUEL (ioF fn_integer_word) fn_integer_word [MV.agg [bN s, MV.fs n none (dg n v)]] = some (MV.tup [wN (IntKind.u64.wrap ((dgt v 0 : Nat) : Int)), bN true], []) :=
  xBody_io (hard := true) hio (orc := [.auto, .br false, .br true, .auto, .val (uN ((dgt v 0 : Nat) : Int))]) (by kernel_rfl) (owc h0 (owc h1 (owc h2 (ow1 h3))))

theorem p_integer_word_n_2 {T : Tab} (hio : TO T) (s : Bool) (n v : Nat) (h0 : (bN ((n : Int) == (0 : Int)) : MV) = .sc (.bool false)) (h1 : (bN ((n : Int) == (1 : Int)) : MV) = .sc (.bool false)) (h2 : (bN ((n : Int) == (2 : Int)) : MV) = .sc (.bool true)) (h3 : (0 : Int) ≤ (1 : Int) ∧ (1 : Int) < ((n : Nat) : Int) ∧ ((dg n v) : List MV) ≠ []) (h4 : takeAs false 1 ((dg n v).drop 1) = some (uN ((dgt v 1 : Nat) : Int))) (h5 : (0 : Int) ≤ (0 : Int) ∧ (0 : Int) < ((n : Nat) : Int) ∧ ((dg n v) : List MV) ≠ []) (h6 : takeAs false 1 (dg n v) = some (uN ((dgt v 0 : Nat) : Int))) : evalBody PG T FUEL (ioF fn_integer_word) fn_integer_word [MV.agg [bN s, MV.fs n none (dg n v)]] = some (MV.tup [wN (IntKind.u64.wrap ((IntKind.u64.wrap ((IntKind.u64.wrap ((dgt v 1 : Nat) : Int)) * (1000000000 : Int))) + (IntKind.u64.wrap ((dgt v 0 : Nat) : Int)))), bN true], []) :=
  xBody_io (hard := true) hio (orc := [.auto, .br false, .br false, .br true, .auto, .val (uN ((dgt v 1 : Nat) : Int)), .auto, .val (uN ((dgt v 0 : Nat) : Int))]) (by kernel_rfl) (owc h0 (owc h1 (owc h2 (owc h3 (owc h4 (owc h5 (ow1 h6)))))))

theorem p_integer_word_n_3 {T : Tab} (hio : TO T) (s : Bool) (n v : Nat) (h0 : (bN ((n : Int) == (0 : Int)) : MV) = .sc (.bool false)) (h1 : (bN ((n : Int) == (1 : Int)) : MV) = .sc (.bool false)) (h2 : (bN ((n : Int) == (2 : Int)) : MV) = .sc (.bool false)) : evalBody PG T FUEL (ioF fn_integer_word) fn_integer_word [MV.agg [bN s, MV.fs n none (dg n v)]] = some (MV.tup [wN 0, bN false], []) :=
  xBody_io (hard := true) hio (orc := [.auto, .br false, .br false, .br false]) (by kernel_rfl) (owc h0 (owc h1 (ow1 h2)))

theorem p_integer_Sign_0 {T : Tab} (hio : TO T) (a : Int) (h0 : (bN (ng a) : MV) = .sc (.bool true)) : evalBody PG T FUEL (ioF fn_integer_Sign) fn_integer_Sign [iM a] = some (iN (-1), []) :=
  xBody_io (hard := false) hio (orc := [.br true]) (by kernel_rfl) (ow1 h0)

theorem p_integer_Sign_1 {T : Tab} (hio : TO T) (a : Int) (h0 : (bN (ng a) : MV) = .sc (.bool false)) (h1 : (bN (decide (((nz a : Nat) : Int) > (0 : Int))) : MV) = .sc (.bool true)) : evalBody PG T FUEL (ioF fn_integer_Sign) fn_integer_Sign [iM a] = some (iN 1, []) :=
  xBody_io (hard := false) hio (orc := [.br false, .br true]) (by kernel_rfl) (owc h0 (ow1 h1))

theorem p_integer_Sign_2 {T : Tab} (hio : TO T) (a : Int) (h0 : (bN (ng a) : MV) = .sc (.bool false)) (h1 : (bN (decide (((nz a : Nat) : Int) > (0 : Int))) : MV) = .sc (.bool false)) : evalBody PG T FUEL (ioF fn_integer_Sign) fn_integer_Sign [iM a] = some (iN 0, []) :=
  xBody_io (hard := false) hio (orc := [.br false, .br false]) (by kernel_rfl) (owc h0 (ow1 h1))

theorem p_integer_Cmp_0 {T : Tab} (hio : TO T) (a b : Int) (h0 : (bN (!((ng a) == (ng b))) : MV) = .sc (.bool true)) (h1 : (bN (ng a) : MV) = .sc (.bool true)) : evalBody PG T FUEL (ioF fn_integer_Cmp) fn_integer_Cmp [iM a, iM b] = some (iN (-1), []) :=
  xBody_io (hard := false) hio (orc := [.br true, .br true]) (by kernel_rfl) (owc h0 (ow1 h1))

theorem p_integer_Cmp_1 {T : Tab} (hio : TO T) (a b : Int) (h0 : (bN (!((ng a) == (ng b))) : MV) = .sc (.bool false)) (h1 : (bN (ng a) : MV) = .sc (.bool true)) (h2 : T.call fn_integer_compare [MV.fs (nz b) none (cz b), MV.fs (nz a) none (cz a)] = some (iN (cmpN b.natAbs a.natAbs), [])) : evalBody PG T FUEL (ioF fn_integer_Cmp) fn_integer_Cmp [iM a, iM b] = some (iN (cmpN b.natAbs a.natAbs), []) :=
  xBody_io (hard := false) hio (orc := [.br false, .br true, .call (iN (cmpN b.natAbs a.natAbs)) []]) (by kernel_rfl) (owc h0 (owc h1 (ow1 h2)))

theorem p_integer_Cmp_2 {T : Tab} (hio : TO T) (a b : Int) (h0 : (bN (!((ng a) == (ng b))) : MV) = .sc (.bool false)) (h1 : (bN (ng a) : MV) = .sc (.bool false)) (h2 : T.call fn_integer_compare [MV.fs (nz a) none (cz a), MV.fs (nz b) none (cz b)] = some (iN (cmpN a.natAbs b.natAbs), [])) : evalBody PG T FUEL (ioF fn_integer_Cmp) fn_integer_Cmp [iM a, iM b] = some (iN (cmpN a.natAbs b.natAbs), []) :=
  xBody_io (hard := false) hio (orc := [.br false, .br false, .call (iN (cmpN a.natAbs b.natAbs)) []]) (by kernel_rfl) (owc h0 (owc h1 (ow1 h2)))

theorem p_integer_Cmp_3 {T : Tab} (hio : TO T) (a b : Int) (h0 : (bN (!((ng a) == (ng b))) : MV) = .sc (.bool true)) (h1 : (bN (ng a) : MV) = .sc (.bool false)) : evalBody PG T FUEL (ioF fn_integer_Cmp) fn_integer_Cmp [iM a, iM b] = some (iN 1, []) :=
  xBody_io (hard := false) hio (orc := [.br true, .br false]) (by kernel_rfl) (owc h0 (ow1 h1))

theorem p_integer_Add_0 {T : Tab} (hio : TO T) (a b : Int) (h0 : (bN ((ng a) == (ng b)) : MV) = .sc (.bool true)) (h1 : T.call fn_integer_plus [MV.fs (nz a) none (cz a), MV.fs (nz b) none (cz b)] = some (MV.fs (nplus (nz a) (nz b)) none (dg (nplus (nz a) (nz b)) (a.natAbs + b.natAbs)), [])) (h2 : T.call fn_integer_signed [bN (ng a), MV.fs (nplus (nz a) (nz b)) none (dg (nplus (nz a) (nz b)) (a.natAbs + b.natAbs))] = some (iM (sgz (ng a) (a.natAbs + b.natAbs)), [])) : evalBody PG T FUEL (ioF fn_integer_Add) fn_integer_Add [iM a, iM b] = some (MV.agg [bN (ng (sgz (ng a) (a.natAbs + b.natAbs))), MV.fs (nz (sgz (ng a) (a.natAbs + b.natAbs))) none (cz (sgz (ng a) (a.natAbs + b.natAbs)))], []) :=
  xBody_io (hard := false) hio (orc := [.br true, .call (MV.fs (nplus (nz a) (nz b)) none (dg (nplus (nz a) (nz b)) (a.natAbs + b.natAbs))) [], .call (iM (sgz (ng a) (a.natAbs + b.natAbs))) []]) (by kernel_rfl) (owc h0 (owc h1 (ow1 h2)))

theorem p_integer_Add_1 {T : Tab} (hio : TO T) (a b : Int) (h0 : (bN ((ng a) == (ng b)) : MV) = .sc (.bool false)) (h1 : T.call fn_integer_compare [MV.fs (nz a) none (cz a), MV.fs (nz b) none (cz b)] = some (iN (cmpN a.natAbs b.natAbs), [])) (h2 : (bN (decide ((cmpN a.natAbs b.natAbs) < (0 : Int))) : MV) = .sc (.bool true)) (h3 : T.call fn_integer_minus [MV.fs (nz b) none (cz b), MV.fs (nz a) none (cz a)] = some (MV.fs (nz b) none (dg (nz b) (b.natAbs - a.natAbs)), [])) (h4 : T.call fn_integer_signed [bN (ng b), MV.fs (nz b) none (dg (nz b) (b.natAbs - a.natAbs))] = some (iM (sgz (ng b) (b.natAbs - a.natAbs)), [])) : evalBody PG T FUEL (ioF fn_integer_Add) fn_integer_Add [iM a, iM b] = some (MV.agg [bN (ng (sgz (ng b) (b.natAbs - a.natAbs))), MV.fs (nz (sgz (ng b) (b.natAbs - a.natAbs))) none (cz (sgz (ng b) (b.natAbs - a.natAbs)))], []) :=
  xBody_io (hard := false) hio (orc := [.br false, .call (iN (cmpN a.natAbs b.natAbs)) [], .br true, .call (MV.fs (nz b) none (dg (nz b) (b.natAbs - a.natAbs))) [], .call (iM (sgz (ng b) (b.natAbs - a.natAbs))) []]) (by kernel_rfl) (owc h0 (owc h1 (owc h2 (owc h3 (ow1 h4)))))

theorem p_integer_Add_2 {T : Tab} (hio : TO T) (a b : Int) (h0 : (bN ((ng a) == (ng b)) : MV) = .sc (.bool false)) (h1 : T.call fn_integer_compare [MV.fs (nz a) none (cz a), MV.fs (nz b) none (cz b)] = some (iN (cmpN a.natAbs b.natAbs), [])) (h2 : (bN (decide ((cmpN a.natAbs b.natAbs) < (0 : Int))) : MV) = .sc (.bool false)) (h3 : T.call fn_integer_minus [MV.fs (nz a) none (cz a), MV.fs (nz b) none (cz b)] = some (MV.fs (nz a) none (dg (nz a) (a.natAbs - b.natAbs)), [])) (h4 : T.call fn_integer_signed [bN (ng a), MV.fs (nz a) none (dg (nz a) (a.natAbs - b.natAbs))] = some (iM (sgz (ng a) (a.natAbs - b.natAbs)), [])) : evalBody PG T FUEL (ioF fn_integer_Add) fn_integer_Add [iM a, iM b] = some (MV.agg [bN (ng (sgz (ng a) (a.natAbs - b.natAbs))), MV.fs (nz (sgz (ng a) (a.natAbs - b.natAbs))) none (cz (sgz (ng a) (a.natAbs - b.natAbs)))], []) :=
  xBody_io (hard := false) hio (orc := [.br false, .call (iN (cmpN a.natAbs b.natAbs)) [], .br false, .call (MV.fs (nz a) none (dg (nz a) (a.natAbs - b.natAbs))) [], .call (iM (sgz (ng a) (a.natAbs - b.natAbs))) []]) (by kernel_rfl) (owc h0 (owc h1 (owc h2 (owc h3 (ow1 h4)))))

theorem p_integer_Mul_0 {T : Tab} (hio : TO T) (a b : Int) (h0 : T.call fn_integer_times [MV.fs (nz a) none (cz a), MV.fs (nz b) none (cz b)] = some (MV.fs ((nz a) + (nz b)) (some ((nz a) + (nz b))) (dg ((nz a) + (nz b)) (a.natAbs * b.natAbs)), [])) (h1 : T.call fn_integer_signed [bN (!((ng a) == (ng b))), MV.fs ((nz a) + (nz b)) (some ((nz a) + (nz b))) (dg ((nz a) + (nz b)) (a.natAbs * b.natAbs))] = some (iM (sgz (!((ng a) == (ng b))) (a.natAbs * b.natAbs)), [])) : evalBody PG T FUEL (ioF fn_integer_Mul) fn_integer_Mul [iM a, iM b] = some (MV.agg [bN (ng (sgz (!((ng a) == (ng b))) (a.natAbs * b.natAbs))), MV.fs (nz (sgz (!((ng a) == (ng b))) (a.natAbs * b.natAbs))) none (cz (sgz (!((ng a) == (ng b))) (a.natAbs * b.natAbs)))], []) :=
  xBody_io (hard := false) hio (orc := [.call (MV.fs ((nz a) + (nz b)) (some ((nz a) + (nz b))) (dg ((nz a) + (nz b)) (a.natAbs * b.natAbs))) [], .call (iM (sgz (!((ng a) == (ng b))) (a.natAbs * b.natAbs))) []]) (by kernel_rfl) (owc h0 (ow1 h1))

theorem p_integer_Neg_0 {T : Tab} (hio : TO T) (a : Int) (h0 : ((cz a).length) = ((nz a) * 1) ∧ (cz a).all cellOk = true ∧ 0 < 0 + (nz a) ∧ 0 = 0 ∧ 0 + (nz a) ≤ 1073741824) (h1 : 8 = 8 ∧ 8 ≠ 0 ∧ 0 + ((0 + (nz a)) * 1) ≤ ((cz a).length) ∧ Plain ((cz a).take ((0 + (nz a)) * 1))) (h2 : T.call fn_integer_signed [bN (!(ng a)), MV.fs (0 + (nz a)) none ((cz a).take ((0 + (nz a)) * 1))] = some (iM (sgz (!(ng a)) a.natAbs), [])) (h3 : 2 = 2 ∧ false = false ∧ 2 = 2 ∧ 2 ≤ 2) : evalBody PG T FUEL (ioF fn_integer_Neg) fn_integer_Neg [iM a] = some (MV.agg [bN (ng (sgz (!(ng a)) a.natAbs)), MV.fs (nz (sgz (!(ng a)) a.natAbs)) none (cz (sgz (!(ng a)) a.natAbs))], []) :=
  xBody_io (hard := true) hio (orc := [.auto, .auto, .br true, .call (iM (sgz (!(ng a)) a.natAbs)) []]) (by kernel_rfl) (owc h0 (owc h1 (owc h2 (ow1 h3))))

theorem p_integer_Neg_1 {T : Tab} (hio : TO T) (a : Int) (h0 : ((cz a).length) = ((nz a) * 1) ∧ (cz a).all cellOk = true ∧ (0 + (nz a)) = 0) (h1 : T.call fn_integer_signed [bN (!(ng a)), MV.fs 0 (some 0) []] = some (iM (sgz (!(ng a)) 0), [])) (h2 : 2 = 2 ∧ false = false ∧ 2 = 2 ∧ 2 ≤ 2) : evalBody PG T FUEL (ioF fn_integer_Neg) fn_integer_Neg [iM a] = some (MV.agg [bN (ng (sgz (!(ng a)) 0)), MV.fs (nz (sgz (!(ng a)) 0)) none (cz (sgz (!(ng a)) 0))], []) :=
  xBody_io (hard := true) hio (orc := [.auto, .auto, .br false, .call (iM (sgz (!(ng a)) 0)) []]) (by kernel_rfl) (owc h0 (owc h1 (ow1 h2)))

theorem p_integer_Sub_0 {T : Tab} (hio : TO T) (a b : Int) (h0 : (bN (!(ng b)) : MV) = .sc (.bool true)) (h1 : T.call fn_integer_Add [MV.agg [bN (ng a), MV.fs (nz a) none (cz a)], MV.agg [bN (decide (((nz b : Nat) : Int) > (0 : Int))), MV.fs (nz b) none (cz b)]] = some (iM (a + (sgz (decide (((nz b : Nat) : Int) > (0 : Int))) b.natAbs)), [])) : evalBody PG T FUEL (ioF fn_integer_Sub) fn_integer_Sub [iM a, iM b] = some (MV.agg [bN (ng (a + (sgz (decide (((nz b : Nat) : Int) > (0 : Int))) b.natAbs))), MV.fs (nz (a + (sgz (decide (((nz b : Nat) : Int) > (0 : Int))) b.natAbs))) none (cz (a + (sgz (decide (((nz b : Nat) : Int) > (0 : Int))) b.natAbs)))], []) :=
  xBody_io (hard := false) hio (orc := [.br true, .call (iM (a + (sgz (decide (((nz b : Nat) : Int) > (0 : Int))) b.natAbs))) []]) (by kernel_rfl) (owc h0 (ow1 h1))

theorem p_integer_Sub_1 {T : Tab} (hio : TO T) (a b : Int) (h0 : (bN (!(ng b)) : MV) = .sc (.bool false)) (h1 : T.call fn_integer_Add [MV.agg [bN (ng a), MV.fs (nz a) none (cz a)], MV.agg [bN false, MV.fs (nz b) none (cz b)]] = some (iM (a + (sgz false b.natAbs)), [])) : evalBody PG T FUEL (ioF fn_integer_Sub) fn_integer_Sub [iM a, iM b] = some (MV.agg [bN (ng (a + (sgz false b.natAbs))), MV.fs (nz (a + (sgz false b.natAbs))) none (cz (a + (sgz false b.natAbs)))], []) :=
  xBody_io (hard := false) hio (orc := [.br false, .call (iM (a + (sgz false b.natAbs))) []]) (by kernel_rfl) (owc h0 (ow1 h1))

end Go.Proofs.YtkeelkeoijemiaaGreat.Ev

