/- Limbs of the integers: subtract, restore. -/
import Derived.Test.YtkeelkeoijemiaaGreatNj
set_option linter.unusedVariables false
set_option linter.unusedSimpArgs false
namespace Go.Proofs.YtkeelkeoijemiaaGreat.Ev
open Go Go.RowKit
set_option linter.unusedVariables false
set_option linter.unusedSimpArgs false

/-- What is carried in a product with a word. -/
def cin (v g i : Nat) : Nat := v % BB ^ i * g / BB ^ i
theorem cin_zero (v g : Nat) : cin v g 0 = 0 := by simp [cin, Nat.mod_one]
theorem cin_le (v g i : Nat) : cin v g i ≤ g := by
  unfold cin
  refine Nat.div_le_of_le_mul ?_
  exact Nat.mul_le_mul_right _ (Nat.le_of_lt (Nat.mod_lt _ (BBp i)))
theorem cin_top {v g n : Nat} (h : v < BB ^ n) : cin v g n = v * g / BB ^ n := by unfold cin; rw [Nat.mod_eq_of_lt h]
theorem cin_step (v g i : Nat) : cin v g i + dgt v i * g = dgt (v * g) i + BB * cin v g (i + 1) := by
  obtain ⟨t, ht⟩ : ∃ t, t = cin v g i + dgt v i * g := ⟨_, rfl⟩
  have hp := BBp i
  obtain ⟨r, hr⟩ : ∃ r, r = v % BB ^ i * g % BB ^ i := ⟨_, rfl⟩
  have hrl : r < BB ^ i := by rw [hr]; exact Nat.mod_lt _ hp
  have h1 : v % BB ^ i * g = r + BB ^ i * cin v g i := by rw [hr]; exact (Nat.mod_add_div _ _).symm
  have h2 : v % BB ^ (i + 1) * g = r + BB ^ i * t := by
    rw [dgt_split, Nat.add_mul, h1, ht, Nat.mul_add, Nat.mul_assoc]; omega
  have h3 : cin v g (i + 1) = t / BB := by
    unfold cin
    rw [h2, Nat.pow_succ, ← Nat.div_div_eq_div_mul, Nat.add_mul_div_left _ _ hp, Nat.div_eq_of_lt hrl, Nat.zero_add]
  have h4 : dgt (v * g) i = t % BB := by
    have e1 : v * g = r + BB ^ i * (t + BB * (v / BB ^ (i + 1) * g)) := by
      have h5 : v * g = v % BB ^ (i + 1) * g + BB ^ (i + 1) * (v / BB ^ (i + 1)) * g := by rw [← Nat.add_mul, Nat.mod_add_div]
      rw [h5, h2, Nat.mul_add, Nat.pow_succ]
      simp only [Nat.mul_assoc, Nat.add_assoc]
    unfold dgt
    rw [e1, Nat.add_mul_div_left _ _ hp, Nat.div_eq_of_lt hrl, Nat.zero_add, Nat.add_mul_mod_self_left]
  rw [← ht, h3, h4]
  exact (Nat.mod_add_div _ _).symm

/-- What is borrowed in a difference. -/
def brw (u p i : Nat) : Nat := if u % BB ^ i < p % BB ^ i then 1 else 0
theorem brw_le (u p i : Nat) : brw u p i ≤ 1 := by unfold brw; split <;> omega
theorem brw_zero (u p : Nat) : brw u p 0 = 0 := by simp [brw, Nat.mod_one]
def dff (u p i : Nat) : Nat := u % BB ^ i + BB ^ i * brw u p i - p % BB ^ i
theorem brw_pos {u p i : Nat} (h : u % BB ^ i < p % BB ^ i) : brw u p i = 1 := if_pos h
theorem brw_neg {u p i : Nat} (h : ¬ u % BB ^ i < p % BB ^ i) : brw u p i = 0 := if_neg h
theorem dff_eq (u p i : Nat) : dff u p i + p % BB ^ i = u % BB ^ i + BB ^ i * brw u p i := by
  have := Nat.mod_lt p (BBp i)
  unfold dff brw
  generalize u % BB ^ i = x at *
  generalize p % BB ^ i = y at *
  by_cases h : x < y
  · rw [if_pos h]; omega
  · rw [if_neg h]; omega
theorem dff_lt (u p i : Nat) : dff u p i < BB ^ i := by
  have h1 := dff_eq u p i
  have h2 := Nat.mod_lt u (BBp i)
  have h3 := Nat.mod_lt p (BBp i)
  unfold brw at h1
  generalize u % BB ^ i = x at *
  generalize p % BB ^ i = y at *
  by_cases h : x < y
  · rw [if_pos h] at h1; omega
  · rw [if_neg h] at h1; omega
theorem dff_zero (u p : Nat) : dff u p 0 = 0 := by simp [dff, brw, Nat.mod_one]
theorem brw_iff (u p i : Nat) : brw u p (i + 1) = 1 ↔ dgt u i < dgt p i + brw u p i := by
  have hp := BBp i
  have h1 := Nat.mod_lt u hp
  have h2 := Nat.mod_lt p hp
  have e1 := dgt_split u i
  have e2 := dgt_split p i
  have main : (u % BB ^ (i + 1) < p % BB ^ (i + 1)) ↔ dgt u i < dgt p i + brw u p i := by
    rw [e1, e2]
    unfold brw
    clear e1 e2
    generalize u % BB ^ i = x at *
    generalize p % BB ^ i = y at *
    rcases Nat.lt_trichotomy (dgt u i) (dgt p i) with hx | hx | hx
    · have := Nat.mul_le_mul_left (BB ^ i) (show dgt u i + 1 ≤ dgt p i by omega)
      rw [Nat.mul_add] at this
      split <;> omega
    · rw [hx]
      by_cases h : x < y
      · rw [if_pos h]; omega
      · rw [if_neg h]; omega
    · have := Nat.mul_le_mul_left (BB ^ i) (show dgt p i + 1 ≤ dgt u i by omega)
      rw [Nat.mul_add] at this
      split <;> omega
  rw [← main]
  by_cases h : u % BB ^ (i + 1) < p % BB ^ (i + 1)
  · rw [brw_pos h]; simp [h]
  · rw [brw_neg h]; simp [h]
theorem brw_digit (u p i : Nat) : ∃ z, z < BB ∧ dgt u i + BB * brw u p (i + 1) = dgt p i + brw u p i + z ∧ dff u p (i + 1) = dff u p i + BB ^ i * z := by
  have h1 := brw_iff u p i
  have h2 := brw_le u p (i + 1)
  have h3 := brw_le u p i
  have d1 := dgt_lt u i
  have d2 := dgt_lt p i
  have eB : BB = 1000000000 := rfl
  have hz : dgt p i + brw u p i ≤ dgt u i + BB * brw u p (i + 1) := by
    by_cases h : brw u p (i + 1) = 1
    · rw [h]; omega
    · have : ¬ dgt u i < dgt p i + brw u p i := fun hh => h (h1.2 hh)
      omega
  obtain ⟨z, hzz⟩ := Nat.exists_eq_add_of_le hz
  refine ⟨z, ?_, hzz, ?_⟩
  · by_cases h : brw u p (i + 1) = 1
    · have := h1.1 h
      rw [h] at hzz; omega
    · have : brw u p (i + 1) = 0 := by omega
      rw [this] at hzz; omega
  · have g1 := dff_eq u p i
    have g2 := dff_eq u p (i + 1)
    rw [dgt_split u, dgt_split p] at g2
    have g3 : BB ^ i * (dgt u i + BB * brw u p (i + 1)) = BB ^ i * (dgt p i + brw u p i + z) := by rw [hzz]
    have hpw : BB ^ (i + 1) * brw u p (i + 1) = BB ^ i * (BB * brw u p (i + 1)) := by rw [Nat.pow_succ, Nat.mul_assoc]
    rw [hpw] at g2
    simp only [Nat.mul_add] at g3
    generalize u % BB ^ i = x at *
    generalize p % BB ^ i = y at *
    omega
/-- The digit put at a place. -/
theorem put_dff {n u p i z : Nat} (hi : i < n) (hu : u < BB ^ n) (hz : z < BB) (h : dff u p (i + 1) = dff u p i + BB ^ i * z) :
    putCells (dg n (dff u p i + BB ^ i * (u / BB ^ i))) i [uN (z : Nat)] = dg n (dff u p (i + 1) + BB ^ (i + 1) * (u / BB ^ (i + 1))) ∧ dgt (dff u p i + BB ^ i * (u / BB ^ i)) i = dgt u i := by
  have hp := BBp i
  have hdl := dff_lt u p i
  have eq1 : (dff u p i + BB ^ i * (u / BB ^ i)) / BB ^ i = u / BB ^ i := by rw [Nat.add_mul_div_left _ _ hp, Nat.div_eq_of_lt hdl, Nat.zero_add]
  have hA : dff u p i + BB ^ i * (u / BB ^ i) < BB ^ n := by
    have h1 : u / BB ^ i < BB ^ (n - i) := (Nat.div_lt_iff_lt_mul hp).2 (by rw [← Nat.pow_add, Nat.sub_add_cancel (by omega)]; exact hu)
    have h2 := Nat.mul_le_mul_left (BB ^ i) (show u / BB ^ i + 1 ≤ BB ^ (n - i) from h1)
    rw [← Nat.pow_add, Nat.add_sub_of_le (by omega), Nat.mul_add] at h2
    omega
  have hd : dgt (dff u p i + BB ^ i * (u / BB ^ i)) i = dgt u i := by unfold dgt; rw [eq1]
  refine ⟨?_, hd⟩
  rw [dg_put1 hi hA hz]
  congr 1
  rw [Nat.add_mul_mod_self_left, Nat.mod_eq_of_lt hdl, Nat.pow_succ, ← Nat.div_div_eq_div_mul, ← Nat.div_div_eq_div_mul, eq1, ← Nat.pow_succ, h, Nat.pow_succ, Nat.mul_add, Nat.mul_assoc]
  omega
def subN (n u p : Nat) : Nat := dff u p n
theorem neg_iff {u p n : Nat} (h : u < BB ^ n) : (0 < brw u p n ∨ 0 < p / BB ^ n) ↔ u < p := by
  have h1 := Nat.mod_add_div p (BB ^ n)
  have hp := BBp n
  have hm : brw u p n = if u < p % BB ^ n then 1 else 0 := by unfold brw; rw [Nat.mod_eq_of_lt h]
  rw [hm]
  generalize p % BB ^ n = y at *
  generalize p / BB ^ n = k at *
  constructor
  · rintro (h2 | h2)
    · split at h2 <;> omega
    · have := Nat.mul_le_mul_left (BB ^ n) h2
      omega
  · intro h2
    by_cases h3 : 0 < k
    · exact .inr h3
    · have h4 : k = 0 := by omega
      rw [h4] at h1
      refine .inl ?_
      rw [if_pos (by omega)]; omega

theorem c_integer_subtract {q : Nat} (hq : 0 < q) {u w n m g : Nat} {d : Option Nat} (hu : u < BB ^ n) (hw : w < BB ^ m) (hn0 : 0 < n) (hn : n < 100000) (hmn : m ≤ n) (hg : g ≤ BB) :
    (TU q).call fn_integer_subtract [.fs n none (dg n u), .fs m d (dg m w), wN (g : Nat)] = some (bN (decide (u < w * g)), [dg n (subN n u (w * g))]) := by
  have hio := TU_io (q - 1)
  have eB : BB = 1000000000 := rfl
  obtain ⟨S, rfl, hl⟩ := loop_to (G := gC (TU (q - 1)) fn_integer_subtract 0) (nm := nM fn_integer_subtract 0)
    (fun i S => S = L_integer_subtract_0 n u m w (g : Nat) ((cin w g i : Nat) : Int) ((brw u (w * g) i : Nat) : Int) ((i : Nat) : Int) (dg n (dff u (w * g) i + BB ^ i * (u / BB ^ i)))) n FUEL (L_integer_subtract_0 n u m w (g : Nat) 0 0 0 (dg n u)) (by
      rintro i S hi rfl
      obtain ⟨z, hz, hz1, hz2⟩ := brw_digit u (w * g) i
      obtain ⟨hput, hdig⟩ := put_dff hi hu hz hz2
      have hiff := brw_iff u (w * g) i
      have d1 := dgt_lt u i
      have d2 := dgt_lt w i
      have d3 := dgt_lt (w * g) i
      have b1 := brw_le u (w * g) i
      have b2 := brw_le u (w * g) (i + 1)
      have c1 := cin_le w g i
      have cs := cin_step w g i
      have hwg : dgt w i * g ≤ 999999999 * 1000000000 := Nat.mul_le_mul (by omega) (by omega)
      have ew : IntKind.i64.wrap (((i : Nat) : Int) + 1) = ((i + 1 : Nat) : Int) := by rw [i64s (by omega)]; omega
      obtain ⟨t, ht⟩ : ∃ t, t = cin w g i + dgt w i * g := ⟨_, rfl⟩
      have htm : t % BB = dgt (w * g) i := by rw [ht, cs, Nat.add_mul_mod_self_left, Nat.mod_eq_of_lt d3]
      have htd : t / BB = cin w g (i + 1) := by rw [ht, cs, Nat.add_mul_div_left _ _ BB_pos, Nat.div_eq_of_lt d3, Nat.zero_add]
      have etm : ((t : Nat) : Int).tmod (1000000000 : Int) = ((dgt (w * g) i : Nat) : Int) := by rw [Int.tmod_eq_emod_of_nonneg (by omega), modB, htm]
      have etd : IntKind.u64.wrap (((t : Nat) : Int).tdiv (1000000000 : Int)) = ((cin w g (i + 1) : Nat) : Int) := by
        rw [Int.tdiv_eq_ediv_of_nonneg (by omega), divB, htd]
        have := cin_le w g (i + 1)
        exact u64s (by omega)
      have ey : IntKind.u64.wrap (((dgt (w * g) i : Nat) : Int) + ((brw u (w * g) i : Nat) : Int)) = ((dgt (w * g) i + brw u (w * g) i : Nat) : Int) := by rw [u64s (by omega)]; omega
      have ex : IntKind.u64.wrap ((dgt u i : Nat) : Int) = ((dgt u i : Nat) : Int) := u64s (by omega)
      have hlen : ∀ x, (dg n x).length = n := fun x => dg_len _ _
      have rd : takeAs false 1 ((dg n (dff u (w * g) i + BB ^ i * (u / BB ^ i))).drop (0 + (((i : Nat) : Int).toNat * 1))) = some (uN ((dgt u i : Nat) : Int)) := by rw [pos0, dg_at' hi, hdig]
      by_cases hlt : i < m
      · have et : IntKind.u64.wrap (((cin w g i : Nat) : Int) + (IntKind.u64.wrap ((IntKind.u64.wrap ((dgt w ((i : Nat) : Int).toNat : Nat) : Int)) * ((g : Nat) : Int)))) = ((t : Nat) : Int) := by
          rw [Int.toNat_natCast, u64s (x := ((dgt w i : Nat) : Int)) (by omega), ← Int.natCast_mul, u64s (x := ((dgt w i * g : Nat) : Int)) (by omega), u64s (by omega), ht]; omega
        by_cases hge : dgt u i < dgt (w * g) i + brw u (w * g) i
        · have ec := hiff.2 hge
          rw [ec] at hz1
          have ez : IntKind.u32.wrap (IntKind.u64.wrap ((IntKind.u64.wrap (((dgt u i : Nat) : Int) + (1000000000 : Int))) - ((dgt (w * g) i + brw u (w * g) i : Nat) : Int))) = ((z : Nat) : Int) := by
            rw [u64s (x := ((dgt u i : Nat) : Int) + 1000000000) (by omega), u64s (by omega), u32s (by omega)]; omega
          obtain ⟨s', e1, e2⟩ := r_integer_subtract_0_0 hio n u m w (g : Nat) ((cin w g i : Nat) : Int) ((brw u (w * g) i : Nat) : Int) ((i : Nat) : Int) ((dgt u i : Nat) : Int) (dg n (dff u (w * g) i + BB ^ i * (u / BB ^ i))) (sc_b (decide_eq_true (by omega))) (sc_b (decide_eq_true (by omega))) (dix hlt) (dgi hlt) (by decide) (by decide) (by omega) rd
            (sc_b (decide_eq_true (by rw [et, etm, ey, ex]; omega))) (by omega) ⟨rfl, rfl, rfl, by rw [pos0, hlen]; omega⟩ (by rw [et, etm, ey, ex, ez, pos0, hput]; exact dg_nn _ _)
          rw [et, etm, etd, ey, ex, ez, pos0, hput, ew] at e2
          rw [ec]
          exact ⟨s', e1, e2⟩
        · have ec : brw u (w * g) (i + 1) = 0 := by
            have : ¬ brw u (w * g) (i + 1) = 1 := fun h => hge (hiff.1 h)
            omega
          rw [ec] at hz1
          have ez : IntKind.u32.wrap (IntKind.u64.wrap (((dgt u i : Nat) : Int) - ((dgt (w * g) i + brw u (w * g) i : Nat) : Int))) = ((z : Nat) : Int) := by
            rw [u64s (by omega), u32s (by omega)]; omega
          obtain ⟨s', e1, e2⟩ := r_integer_subtract_0_4 hio n u m w (g : Nat) ((cin w g i : Nat) : Int) ((brw u (w * g) i : Nat) : Int) ((i : Nat) : Int) ((dgt u i : Nat) : Int) (dg n (dff u (w * g) i + BB ^ i * (u / BB ^ i))) (sc_b (decide_eq_true (by omega))) (sc_b (decide_eq_true (by omega))) (dix hlt) (dgi hlt) (by decide) (by decide) (by omega) rd
            (sc_b (decide_eq_false (by rw [et, etm, ey, ex]; omega))) (by omega) ⟨rfl, rfl, rfl, by rw [pos0, hlen]; omega⟩ (by rw [et, etm, ey, ex, ez, pos0, hput]; exact dg_nn _ _)
          rw [et, etm, etd, ey, ex, ez, pos0, hput, ew] at e2
          rw [ec]
          exact ⟨s', e1, e2⟩
      · have hw0 : dgt w i = 0 := dgt_high hw (by omega)
        have ht0 : t = cin w g i := by rw [ht, hw0, Nat.zero_mul, Nat.add_zero]
        rw [ht0] at etm etd
        by_cases hge : dgt u i < dgt (w * g) i + brw u (w * g) i
        · have ec := hiff.2 hge
          rw [ec] at hz1
          have ez : IntKind.u32.wrap (IntKind.u64.wrap ((IntKind.u64.wrap (((dgt u i : Nat) : Int) + (1000000000 : Int))) - ((dgt (w * g) i + brw u (w * g) i : Nat) : Int))) = ((z : Nat) : Int) := by
            rw [u64s (x := ((dgt u i : Nat) : Int) + 1000000000) (by omega), u64s (by omega), u32s (by omega)]; omega
          obtain ⟨s', e1, e2⟩ := r_integer_subtract_0_2 hio n u m w (g : Nat) ((cin w g i : Nat) : Int) ((brw u (w * g) i : Nat) : Int) ((i : Nat) : Int) ((dgt u i : Nat) : Int) (dg n (dff u (w * g) i + BB ^ i * (u / BB ^ i))) (sc_b (decide_eq_true (by omega))) (sc_b (decide_eq_false (by omega))) (by decide) (by decide) (by omega) rd
            (sc_b (decide_eq_true (by rw [etm, ey, ex]; omega))) (by omega) ⟨rfl, rfl, rfl, by rw [pos0, hlen]; omega⟩ (by rw [etm, ey, ex, ez, pos0, hput]; exact dg_nn _ _)
          rw [etm, etd, ey, ex, ez, pos0, hput, ew] at e2
          rw [ec]
          exact ⟨s', e1, e2⟩
        · have ec : brw u (w * g) (i + 1) = 0 := by
            have : ¬ brw u (w * g) (i + 1) = 1 := fun h => hge (hiff.1 h)
            omega
          rw [ec] at hz1
          have ez : IntKind.u32.wrap (IntKind.u64.wrap (((dgt u i : Nat) : Int) - ((dgt (w * g) i + brw u (w * g) i : Nat) : Int))) = ((z : Nat) : Int) := by
            rw [u64s (by omega), u32s (by omega)]; omega
          obtain ⟨s', e1, e2⟩ := r_integer_subtract_0_3 hio n u m w (g : Nat) ((cin w g i : Nat) : Int) ((brw u (w * g) i : Nat) : Int) ((i : Nat) : Int) ((dgt u i : Nat) : Int) (dg n (dff u (w * g) i + BB ^ i * (u / BB ^ i))) (sc_b (decide_eq_true (by omega))) (sc_b (decide_eq_false (by omega))) (by decide) (by decide) (by omega) rd
            (sc_b (decide_eq_false (by rw [etm, ey, ex]; omega))) (by omega) ⟨rfl, rfl, rfl, by rw [pos0, hlen]; omega⟩ (by rw [etm, ey, ex, ez, pos0, hput]; exact dg_nn _ _)
          rw [etm, etd, ey, ex, ez, pos0, hput, ew] at e2
          rw [ec]
          exact ⟨s', e1, e2⟩) (by
    rw [cin_zero, brw_zero, dff_zero, Nat.pow_zero, Nat.div_one, Nat.one_mul, Nat.zero_add]
    rfl) (by unfold FUEL; omega)
  have hx := hl _ _ (r_integer_subtract_0_1 hio n u m w _ _ _ _ _ (sc_b (decide_eq_false (by omega)))) (by simp)
  rw [Nat.div_eq_of_lt hu, Nat.mul_zero, Nat.add_zero] at hx
  have hneg := neg_iff (p := w * g) hu
  have hct := cin_top (g := g) (Nat.lt_of_lt_of_le hw (Nat.pow_le_pow_right BB_pos hmn))
  have hbare : bare (dg n (dff u (w * g) n)) = true := (dg_leaves _ _).bare (by rw [dg_len]; omega)
  refine TU_callio hq rfl rfl (args' := [.fs m none (dg m w), wN (g : Nat)]) (by simp [uncapsAt, uncap]) (r := bN (decide (u < w * g))) ?_ rfl
  have hs := startOf_row (P := PG) (io := ioF) (f := fn_integer_subtract) (n := n) (cs := dg n u) (c := none) (ms := [.fs m none (dg m w), wN (g : Nat)]) (by kernel_rfl) rfl hn0 (dg_len _ _)
  by_cases hb : 0 < brw u (w * g) n
  · refine (p_integer_subtract_x0_0 hio n u m w _ _ _ _ _ hs hx (dg_nn _ _) (sc_b (decide_eq_true (by omega))) ⟨rfl, rfl, hbare⟩).trans ?_
    rw [decide_eq_true (hneg.1 (.inl hb))]; rfl
  · refine (p_integer_subtract_x0_1 hio n u m w _ _ _ _ _ hs hx (dg_nn _ _) (sc_b (decide_eq_false (by omega))) ⟨rfl, rfl, hbare⟩).trans ?_
    have : decide (((cin w g n : Nat) : Int) > 0) = decide (u < w * g) := by
      rw [decide_eq_decide, ← hneg, hct]
      generalize w * g / BB ^ n = k
      omega
    rw [this]; rfl

theorem c_integer_restore {q : Nat} (hq : 0 < q) {u w n m : Nat} {d : Option Nat} (hu : u < BB ^ n) (hw : w < BB ^ m) (hn0 : 0 < n) (hn : n < 100000) :
    (TU q).call fn_integer_restore [.fs n none (dg n u), .fs m d (dg m w)] = some (.tup [], [dg n ((u + w) % BB ^ n)]) := by
  have hio := TU_io (q - 1)
  have eB : BB = 1000000000 := rfl
  have putR : ∀ i, i < n → putCells (dg n ((u + w) % BB ^ i + BB ^ i * (u / BB ^ i))) i [uN ((dgt (u + w) i : Nat) : Int)] = dg n ((u + w) % BB ^ (i + 1) + BB ^ (i + 1) * (u / BB ^ (i + 1))) ∧ dgt ((u + w) % BB ^ i + BB ^ i * (u / BB ^ i)) i = dgt u i := by
    intro i hi
    have hp := BBp i
    have hdl := Nat.mod_lt (u + w) hp
    have eq1 : ((u + w) % BB ^ i + BB ^ i * (u / BB ^ i)) / BB ^ i = u / BB ^ i := by rw [Nat.add_mul_div_left _ _ hp, Nat.div_eq_of_lt hdl, Nat.zero_add]
    have hA : (u + w) % BB ^ i + BB ^ i * (u / BB ^ i) < BB ^ n := by
      have h1 : u / BB ^ i < BB ^ (n - i) := (Nat.div_lt_iff_lt_mul hp).2 (by rw [← Nat.pow_add, Nat.sub_add_cancel (by omega)]; exact hu)
      have h2 := Nat.mul_le_mul_left (BB ^ i) (show u / BB ^ i + 1 ≤ BB ^ (n - i) from h1)
      rw [← Nat.pow_add, Nat.add_sub_of_le (by omega), Nat.mul_add] at h2
      omega
    refine ⟨?_, by unfold dgt; rw [eq1]⟩
    rw [dg_put1 hi hA (dgt_lt _ _)]
    congr 1
    rw [Nat.add_mul_mod_self_left, Nat.mod_mod, dgt_split, Nat.pow_succ, ← Nat.div_div_eq_div_mul, ← Nat.div_div_eq_div_mul, eq1, Nat.mul_add, Nat.mul_assoc]
    omega
  obtain ⟨S, rfl, hl⟩ := loop_to (G := gC (TU (q - 1)) fn_integer_restore 0) (nm := nM fn_integer_restore 0)
    (fun i S => S = L_integer_restore_0 n u m w (dg n ((u + w) % BB ^ i + BB ^ i * (u / BB ^ i))) ((crr u w i : Nat) : Int) ((i : Nat) : Int)) n FUEL (L_integer_restore_0 n u m w (dg n u) 0 0) (by
      rintro i S hi rfl
      obtain ⟨hput, hdig⟩ := putR i hi
      have d1 := dgt_lt u i
      have d2 := dgt_lt w i
      have d3 := dgt_lt (u + w) i
      have d4 := crr_le u w i
      have d5 := crr_step u w i
      have d6 := crr_le u w (i + 1)
      rw [eB] at d5
      have ew : IntKind.i64.wrap (((i : Nat) : Int) + 1) = ((i + 1 : Nat) : Int) := by rw [i64s (by omega)]; omega
      have rd : takeAs false 1 ((dg n ((u + w) % BB ^ i + BB ^ i * (u / BB ^ i))).drop (0 + (((i : Nat) : Int).toNat * 1))) = some (uN ((dgt u i : Nat) : Int)) := by rw [pos0, dg_at' hi, hdig]
      have e1 : IntKind.u32.wrap (((dgt u i : Nat) : Int) + ((crr u w i : Nat) : Int)) = ((dgt u i + crr u w i : Nat) : Int) := by rw [u32s (by omega)]; omega
      have hlen : ∀ x, (dg n x).length = n := fun x => dg_len _ _
      by_cases hlt : i < m
      · have e2 : IntKind.u32.wrap (((dgt u i + crr u w i : Nat) : Int) + ((dgt w ((i : Nat) : Int).toNat : Nat) : Int)) = ((dgt u i + crr u w i + dgt w i : Nat) : Int) := by rw [Int.toNat_natCast, u32s (by omega)]; omega
        by_cases hge : dgt u i + crr u w i + dgt w i ≥ 1000000000
        · have ec : crr u w (i + 1) = 1 := by omega
          have ez : IntKind.u32.wrap (((dgt u i + crr u w i + dgt w i : Nat) : Int) - (1000000000 : Int)) = ((dgt (u + w) i : Nat) : Int) := by rw [u32s (by omega)]; omega
          obtain ⟨s', g1, g2⟩ := r_integer_restore_0_0 hio n u m w (dg n ((u + w) % BB ^ i + BB ^ i * (u / BB ^ i))) ((crr u w i : Nat) : Int) ((i : Nat) : Int) ((dgt u i : Nat) : Int) (sc_b (decide_eq_true (by omega))) (by omega) rd (sc_b (decide_eq_true (by omega))) (dix hlt) (dgi hlt) (sc_b (decide_eq_true (by rw [e1, e2]; omega))) (by omega) ⟨rfl, rfl, rfl, by rw [pos0, hlen]; omega⟩
            (by rw [e1, e2, ez, pos0, hput]; exact dg_nn _ _)
          rw [e1, e2, ez, pos0, hput, ew] at g2
          rw [ec]
          exact ⟨s', g1, g2⟩
        · have ec : crr u w (i + 1) = 0 := by omega
          have ez : ((dgt u i + crr u w i + dgt w i : Nat) : Int) = ((dgt (u + w) i : Nat) : Int) := by omega
          obtain ⟨s', g1, g2⟩ := r_integer_restore_0_4 hio n u m w (dg n ((u + w) % BB ^ i + BB ^ i * (u / BB ^ i))) ((crr u w i : Nat) : Int) ((i : Nat) : Int) ((dgt u i : Nat) : Int) (sc_b (decide_eq_true (by omega))) (by omega) rd (sc_b (decide_eq_true (by omega))) (dix hlt) (dgi hlt) (sc_b (decide_eq_false (by rw [e1, e2]; omega))) (by omega) ⟨rfl, rfl, rfl, by rw [pos0, hlen]; omega⟩
            (by rw [e1, e2, ez, pos0, hput]; exact dg_nn _ _)
          rw [e1, e2, ez, pos0, hput, ew] at g2
          rw [ec]
          exact ⟨s', g1, g2⟩
      · have hw0 : dgt w i = 0 := dgt_high hw (by omega)
        by_cases hge : dgt u i + crr u w i ≥ 1000000000
        · have ec : crr u w (i + 1) = 1 := by omega
          have ez : IntKind.u32.wrap (((dgt u i + crr u w i : Nat) : Int) - (1000000000 : Int)) = ((dgt (u + w) i : Nat) : Int) := by rw [u32s (by omega)]; omega
          obtain ⟨s', g1, g2⟩ := r_integer_restore_0_2 hio n u m w (dg n ((u + w) % BB ^ i + BB ^ i * (u / BB ^ i))) ((crr u w i : Nat) : Int) ((i : Nat) : Int) ((dgt u i : Nat) : Int) (sc_b (decide_eq_true (by omega))) (by omega) rd (sc_b (decide_eq_false (by omega))) (sc_b (decide_eq_true (by rw [e1]; omega))) (by omega) ⟨rfl, rfl, rfl, by rw [pos0, hlen]; omega⟩
            (by rw [e1, ez, pos0, hput]; exact dg_nn _ _)
          rw [e1, ez, pos0, hput, ew] at g2
          rw [ec]
          exact ⟨s', g1, g2⟩
        · have ec : crr u w (i + 1) = 0 := by omega
          have ez : ((dgt u i + crr u w i : Nat) : Int) = ((dgt (u + w) i : Nat) : Int) := by omega
          obtain ⟨s', g1, g2⟩ := r_integer_restore_0_3 hio n u m w (dg n ((u + w) % BB ^ i + BB ^ i * (u / BB ^ i))) ((crr u w i : Nat) : Int) ((i : Nat) : Int) ((dgt u i : Nat) : Int) (sc_b (decide_eq_true (by omega))) (by omega) rd (sc_b (decide_eq_false (by omega))) (sc_b (decide_eq_false (by rw [e1]; omega))) (by omega) ⟨rfl, rfl, rfl, by rw [pos0, hlen]; omega⟩
            (by rw [e1, ez, pos0, hput]; exact dg_nn _ _)
          rw [e1, ez, pos0, hput, ew] at g2
          rw [ec]
          exact ⟨s', g1, g2⟩) (by
    rw [crr_zero, Nat.pow_zero, Nat.div_one, Nat.one_mul, Nat.mod_one, Nat.zero_add]
    rfl) (by unfold FUEL; omega)
  have hx := hl _ _ (r_integer_restore_0_1 hio n u m w _ _ _ (sc_b (decide_eq_false (by omega)))) (by simp)
  rw [Nat.div_eq_of_lt hu, Nat.mul_zero, Nat.add_zero] at hx
  have hbare : bare (dg n ((u + w) % BB ^ n)) = true := (dg_leaves _ _).bare (by rw [dg_len]; omega)
  have hs := startOf_row (P := PG) (io := ioF) (f := fn_integer_restore) (n := n) (cs := dg n u) (c := none) (ms := [.fs m none (dg m w)]) (by kernel_rfl) rfl hn0 (dg_len _ _)
  exact TU_callio hq rfl rfl (args' := [.fs m none (dg m w)]) (by simp [uncapsAt, uncap]) (r := .tup []) (p_integer_restore_x0_0 hio n u m w _ _ _ hs hx (dg_nn _ _) ⟨rfl, rfl, hbare⟩) rfl
end Go.Proofs.YtkeelkeoijemiaaGreat.Ev

