/- The program's rationals. An evaluator over values in which fractions stand as such: the definitions. -/
import Derived.Test.YtkeelkeoijemiaaGreatNs
set_option linter.unusedVariables false
set_option linter.unusedSimpArgs false
namespace Go.Proofs.YtkeelkeoijemiaaGreat.Ev
open Go Go.RowKit
set_option linter.unusedVariables false
set_option linter.unusedSimpArgs false

/-- How many limbs a fraction's parts have. -/
structure Sz (k : Nat) (q : Rat) : Prop where
  n : nz q.num ≤ k
  d : nz ((q.den : Nat) : Int) ≤ k
theorem nz_mul (a b : Int) : nz (a * b) ≤ nz a + nz b := by
  refine nz_le ?_
  rw [Int.natAbs_mul, Nat.pow_add]
  exact Nat.mul_lt_mul'' (nl_lt _) (nl_lt _)
theorem nz_add (a b : Int) : nz (a + b) ≤ nz a + nz b + 1 := by
  refine nz_le ?_
  have h1 := Int.natAbs_add_le a b
  have h2 : a.natAbs < BB ^ (nz a + nz b) := Nat.lt_of_lt_of_le (nl_lt _) (Nat.pow_le_pow_right BB_pos (Nat.le_add_right _ _))
  have h3 : b.natAbs < BB ^ (nz a + nz b) := Nat.lt_of_lt_of_le (nl_lt _) (Nat.pow_le_pow_right BB_pos (Nat.le_add_left _ _))
  have h4 := Nat.mul_le_mul_left (BB ^ (nz a + nz b)) (show 2 ≤ BB by decide)
  rw [Nat.pow_succ]
  omega
theorem nz_neg (a : Int) : nz (-a) = nz a := by simp [nz]
theorem nz_mono {a b : Int} (h : a.natAbs ≤ b.natAbs) : nz a ≤ nz b := nl_mono h
theorem Sz.mono {j k : Nat} {q : Rat} (h : Sz j q) (hk : j ≤ k) : Sz k q := ⟨Nat.le_trans h.n hk, Nat.le_trans h.d hk⟩
theorem Sz.divInt {a b : Int} {k : Nat} (ha : nz a ≤ k) (hb : nz b ≤ k) (hb0 : b ≠ 0) : Sz k (Rat.divInt a b) := by
  constructor
  · refine Nat.le_trans (nz_mono ?_) ha
    rw [Rat.num_divInt, Int.natAbs_ediv_of_dvd, Int.natAbs_mul]
    · refine Nat.le_trans (Nat.div_le_self _ _) ?_
      have : b.sign.natAbs ≤ 1 := by
        rcases Int.lt_trichotomy b 0 with h | h | h
        · rw [Int.sign_eq_neg_one_of_neg h]; decide
        · exact absurd h hb0
        · rw [Int.sign_eq_one_of_pos h]; decide
      calc b.sign.natAbs * a.natAbs ≤ 1 * a.natAbs := Nat.mul_le_mul_right _ this
        _ = a.natAbs := Nat.one_mul _
    · exact Int.dvd_trans (Int.gcd_dvd_right ..) (Int.dvd_mul_left ..)
  · refine Nat.le_trans (nz_mono ?_) hb
    rw [Rat.den_divInt, if_neg hb0, Int.natAbs_natCast]
    exact Nat.div_le_self _ _
theorem den_ne (q : Rat) : ((q.den : Nat) : Int) ≠ 0 := by have := q.den_nz; omega
theorem add_divInt (p q : Rat) : p + q = Rat.divInt (p.num * ((q.den : Nat) : Int) + q.num * ((p.den : Nat) : Int)) (((p.den : Nat) : Int) * ((q.den : Nat) : Int)) := by
  rw [← Rat.divInt_add_divInt _ _ (den_ne p) (den_ne q), Rat.num_divInt_den, Rat.num_divInt_den]
theorem mul_divInt (p q : Rat) : p * q = Rat.divInt (p.num * q.num) (((p.den : Nat) : Int) * ((q.den : Nat) : Int)) := by
  rw [← Rat.divInt_mul_divInt, Rat.num_divInt_den, Rat.num_divInt_den]
theorem div_divInt (p q : Rat) : p / q = Rat.divInt (p.num * ((q.den : Nat) : Int)) (((p.den : Nat) : Int) * q.num) := by
  rw [← Rat.divInt_mul_divInt, Rat.num_divInt_den, Rat.div_def, Rat.inv_def]
theorem add_same (p q : Rat) (h : p.den = q.den) : p + q = Rat.divInt (p.num + q.num) ((p.den : Nat) : Int) := by
  rw [add_divInt, ← h, ← Int.add_mul, Int.mul_comm, Rat.divInt_mul_left (den_ne p)]
theorem Sz.add {j k : Nat} {p q : Rat} (hp : Sz j p) (hq : Sz k q) : Sz (2 * j + 2 * k + 1) (p + q) := by
  rw [add_divInt]
  have h1 := nz_add (p.num * ((q.den : Nat) : Int)) (q.num * ((p.den : Nat) : Int))
  have h2 := nz_mul p.num ((q.den : Nat) : Int)
  have h3 := nz_mul q.num ((p.den : Nat) : Int)
  have h4 := nz_mul ((p.den : Nat) : Int) ((q.den : Nat) : Int)
  have := hp.n; have := hp.d; have := hq.n; have := hq.d
  exact Sz.divInt (by omega) (by omega) (Int.mul_ne_zero (den_ne p) (den_ne q))
theorem Sz.mul {j k : Nat} {p q : Rat} (hp : Sz j p) (hq : Sz k q) : Sz (j + k) (p * q) := by
  rw [mul_divInt]
  have h2 := nz_mul p.num q.num
  have h4 := nz_mul ((p.den : Nat) : Int) ((q.den : Nat) : Int)
  have := hp.n; have := hp.d; have := hq.n; have := hq.d
  exact Sz.divInt (by omega) (by omega) (Int.mul_ne_zero (den_ne p) (den_ne q))
theorem Sz.neg {k : Nat} {q : Rat} (h : Sz k q) : Sz k (-q) := ⟨by rw [Rat.neg_num, nz_neg]; exact h.n, by rw [Rat.neg_den]; exact h.d⟩
theorem num_ne {q : Rat} (h : q ≠ 0) : q.num ≠ 0 := fun h2 => h (by rw [← Rat.num_divInt_den q, h2, Rat.zero_divInt])
theorem Sz.div {j k : Nat} {p q : Rat} (hp : Sz j p) (hq : Sz k q) (h : q ≠ 0) : Sz (j + k) (p / q) := by
  rw [div_divInt]
  have h2 := nz_mul p.num ((q.den : Nat) : Int)
  have h4 := nz_mul ((p.den : Nat) : Int) q.num
  have := hp.n; have := hp.d; have := hq.n; have := hq.d
  exact Sz.divInt (by omega) (by omega) (Int.mul_ne_zero (den_ne p) (num_ne h))
theorem Sz.int {x : Int} {k : Nat} (h : nz x ≤ k) (hk : 1 ≤ k) : Sz k (x : Rat) := ⟨by rw [Rat.num_intCast]; exact h, by rw [Rat.den_intCast]; exact hk⟩
theorem nz_i64 {x : Int} (h : -9223372036854775808 ≤ x ∧ x ≤ 9223372036854775807) : nz x ≤ 3 := nz_le (Nat.lt_of_lt_of_le (by omega) BB3)
theorem Sz.i64 {x : Int} (h : -9223372036854775808 ≤ x ∧ x ≤ 9223372036854775807) : Sz 3 (x : Rat) := Sz.int (nz_i64 h) (by omega)

theorem rM_of {x y : Int} {q : Rat} (hx : x = q.num) (hy : y = ((q.den : Nat) : Int)) : MV.agg [bN (ng x), MV.fs (nz x) none (cz x), bN (ng y), MV.fs (nz y) none (cz y)] = rM q := by subst hx hy; rfl
theorem uncap_rM (q : Rat) : uncap (rM q) = rM q := by simp [rM, rC, iC, cz, uncap, uncaps]
theorem uncap_tupR (q : Rat) (n : Int) : uncap (.tup [rM q, iN n]) = .tup [rM q, iN n] := by simp [rM, rC, iC, cz, uncap, uncaps]
theorem uncaps_rM (q : Rat) (l : List MV) : uncaps (rM q :: l) = rM q :: uncaps l := by rw [uncaps, uncap_rM]

theorem c_cmp_isNaN_int {m : Nat} (hm : 0 < m) (x : Int) : (TU m).call fn_cmp_isNaN_int [iN x] = some (bN false, []) :=
  TU_call hm rfl rfl (args' := [iN x]) rfl (p_cmp_isNaN_int_0 (TU_io _) x) (by simp [uncap])
theorem c_cmp_Compare_int {m : Nat} (hm : 1 < m) (x y : Int) : (TU m).call fn_cmp_Compare_int [iN x, iN y] = some (iN (cmpI x y), []) := by
  have hio := TU_io (m - 1)
  refine TU_call (by omega) rfl rfl (args' := [iN x, iN y]) rfl (r := iN (cmpI x y)) ?_ rfl
  unfold cmpI
  by_cases h : x < y
  · rw [if_pos h]
    exact p_cmp_Compare_int_0 hio x y (by exact c_cmp_isNaN_int (by omega) _) (by exact c_cmp_isNaN_int (by omega) _) (sc_b (decide_eq_true h))
  · rw [if_neg h]
    by_cases h2 : y < x
    · rw [if_pos h2]
      exact p_cmp_Compare_int_1 hio x y (by exact c_cmp_isNaN_int (by omega) _) (by exact c_cmp_isNaN_int (by omega) _) (sc_b (decide_eq_false h)) (sc_b (decide_eq_true h2))
    · rw [if_neg h2]
      exact p_cmp_Compare_int_2 hio x y (by exact c_cmp_isNaN_int (by omega) _) (by exact c_cmp_isNaN_int (by omega) _) (sc_b (decide_eq_false h)) (sc_b (decide_eq_false h2))
theorem c_rational_unit {m : Nat} (hm : 2 < m) : (TU m).call fn_rational_unit [] = some (iM 1, []) :=
  TU_call (by omega) rfl rfl (args' := []) rfl (p_rational_unit_0 (TU_io _) (by exact c_integer_FromInt64 (by omega) (by omega))) (uncap_iM 1)
theorem c_rational_whole {m : Nat} (hm : 3 < m) (a : Int) : (TU m).call fn_rational_whole [iM a] = some (rM (a : Rat), []) := by
  refine TU_call (by omega) rfl rfl (args' := [iM a]) (by rw [uncaps_iM]; rfl) (p_rational_whole_0 (TU_io _) a (by exact c_rational_unit (by omega))) ?_
  rw [rM_of (q := (a : Rat)) (Rat.num_intCast a).symm (by rw [Rat.den_intCast]; rfl)]
  exact uncap_rM _
theorem c_rational_FromInt64 {m : Nat} (hm : 4 < m) {x : Int} (h : -9223372036854775808 ≤ x ∧ x ≤ 9223372036854775807) : (TU m).call fn_rational_FromInt64 [iN x] = some (rM (x : Rat), []) :=
  TU_call (by omega) rfl rfl (args' := [iN x]) rfl (p_rational_FromInt64_0 (TU_io _) x (by exact c_integer_FromInt64 (by omega) h) (by exact c_rational_whole (by omega) x)) (uncap_rM _)
theorem c_rational_exact {m : Nat} (hm : 5 < m) {a b : Int} (hb : b ≠ 0) (ha : nz a < 10000) (hbz : nz b < 10000) : (TU m).call fn_rational_exact [iM a, iM b] = some (iM (a.fdiv b), []) :=
  TU_call (by omega) rfl rfl (args' := [iM a, iM b]) (by rw [uncaps_iM, uncaps_iM]; rfl) (p_rational_exact_0 (TU_io _) a b (by exact c_integer_DivMod (by omega) hb ha hbz)) (uncap_iM _)

theorem reduce_parts {a b : Int} (hb : 0 < b) : a.fdiv ((Nat.gcd a.natAbs b.natAbs : Nat) : Int) = (Rat.divInt a b).num ∧ b.fdiv ((Nat.gcd a.natAbs b.natAbs : Nat) : Int) = (((Rat.divInt a b).den : Nat) : Int) := by
  rw [Rat.num_divInt, Rat.den_divInt, if_neg (by omega), Int.sign_eq_one_of_pos hb, Int.one_mul, Int.gcd_comm b a]
  show a.fdiv ((Int.gcd a b : Nat) : Int) = _ ∧ b.fdiv ((Int.gcd a b : Nat) : Int) = _
  rw [Int.fdiv_eq_ediv_of_nonneg _ (Int.natCast_nonneg _), Int.fdiv_eq_ediv_of_nonneg _ (Int.natCast_nonneg _), Int.natCast_ediv]
  refine ⟨rfl, ?_⟩
  rw [show ((b.natAbs : Nat) : Int) = b by omega]
theorem divInt_neg_neg (a b : Int) (hb : b ≠ 0) : Rat.divInt (-a) (-b) = Rat.divInt a b := by
  have := Rat.divInt_mul_left (n := a) (d := b) (a := -1) (by decide)
  rw [← this, Int.neg_one_mul, Int.neg_one_mul]
theorem nz_gcd_le (a b : Int) (hb : b ≠ 0) : nz ((Nat.gcd a.natAbs b.natAbs : Nat) : Int) ≤ nz b := by
  refine nz_mono ?_
  rw [Int.natAbs_natCast]
  exact Nat.gcd_le_right _ (by omega)
theorem c_rational_reduce {m : Nat} (hm : 6 < m) {a b : Int} (hb : b ≠ 0) (ha : nz a ≤ 8000) (hbz : nz b ≤ 8000) : (TU m).call fn_rational_reduce [iM a, iM b] = some (rM (Rat.divInt a b), []) := by
  have hio := TU_io (m - 1)
  have hu : uncaps [iM a, iM b] = [iM a, iM b] := by rw [uncaps_iM, uncaps_iM]; rfl
  have sgn : (TU (m - 1)).call fn_integer_Sign [iM b] = some (iN (cmpI b 0), []) := c_integer_Sign (by omega) b
  have unit : (TU (m - 1)).call fn_rational_unit [] = some (iM 1, []) := c_rational_unit (by omega)
  have main : ∀ x y : Int, 0 < y → nz x ≤ 8000 → nz y ≤ 8000 →
      (TU (m - 1)).call fn_integer_GCD [iM x, iM y] = some (iM ((Nat.gcd x.natAbs y.natAbs : Nat) : Int), []) ∧
      (TU (m - 1)).call fn_integer_Cmp [iM ((Nat.gcd x.natAbs y.natAbs : Nat) : Int), iM 1] = some (iN (cmpI ((Nat.gcd x.natAbs y.natAbs : Nat) : Int) 1), []) ∧
      (TU (m - 1)).call fn_rational_exact [iM x, iM ((Nat.gcd x.natAbs y.natAbs : Nat) : Int)] = some (iM (x.fdiv ((Nat.gcd x.natAbs y.natAbs : Nat) : Int)), []) ∧
      (TU (m - 1)).call fn_rational_exact [iM y, iM ((Nat.gcd x.natAbs y.natAbs : Nat) : Int)] = some (iM (y.fdiv ((Nat.gcd x.natAbs y.natAbs : Nat) : Int)), []) := by
    intro x y hy hx1 hy1
    have h1 := nz_gcd_le x y (by omega)
    have h0 : ((Nat.gcd x.natAbs y.natAbs : Nat) : Int) ≠ 0 := by have := Nat.gcd_pos_of_pos_right x.natAbs (show 0 < y.natAbs by omega); omega
    exact ⟨c_integer_GCD (by omega) hx1 hy1, c_integer_Cmp (by omega) (by omega) (by decide), c_rational_exact (by omega) h0 (by omega) (by omega), c_rational_exact (by omega) h0 (by omega) (by omega)⟩
  have one : ∀ x y : Int, 0 < y → cmpI ((Nat.gcd x.natAbs y.natAbs : Nat) : Int) 1 = 0 → x.fdiv ((Nat.gcd x.natAbs y.natAbs : Nat) : Int) = x ∧ y.fdiv ((Nat.gcd x.natAbs y.natAbs : Nat) : Int) = y := by
    intro x y hy h
    have h1 : ((Nat.gcd x.natAbs y.natAbs : Nat) : Int) = 1 := by unfold cmpI at h; split at h <;> (try split at h) <;> omega
    rw [h1, Int.fdiv_one, Int.fdiv_one]
    exact ⟨rfl, rfl⟩
  by_cases hneg : b < 0
  · have br : (bN (decide ((cmpI b 0) < (0 : Int))) : MV) = .sc (.bool true) := sc_b (decide_eq_true (by rw [cmpI, if_pos hneg]; omega))
    have na : (TU (m - 1)).call fn_integer_Neg [iM a] = some (iM (-a), []) := c_integer_Neg (by omega) (by omega)
    have nb : (TU (m - 1)).call fn_integer_Neg [iM b] = some (iM (-b), []) := c_integer_Neg (by omega) (by omega)
    obtain ⟨g1, g2, g3, g4⟩ := main (-a) (-b) (by omega) (by rw [nz_neg]; exact ha) (by rw [nz_neg]; exact hbz)
    obtain ⟨e1, e2⟩ := reduce_parts (a := -a) (b := -b) (by omega)
    rw [divInt_neg_neg a b hb] at e1 e2
    by_cases hc : cmpI ((Nat.gcd (-a).natAbs (-b).natAbs : Nat) : Int) 1 = 0
    · obtain ⟨f1, f2⟩ := one (-a) (-b) (by omega) hc
      refine TU_call (by omega) rfl rfl (args' := [iM a, iM b]) hu (p_rational_reduce_3 hio a b sgn br na nb g1 unit g2 (sc_b (by rw [hc]; rfl))) ?_
      rw [f1] at e1
      rw [f2] at e2
      rw [rM_of e1 e2]
      exact uncap_rM _
    · refine TU_call (by omega) rfl rfl (args' := [iM a, iM b]) hu (p_rational_reduce_0 hio a b sgn br na nb g1 unit g2 (sc_b (by simpa using hc)) g3 g4) ?_
      rw [rM_of e1 e2]
      exact uncap_rM _
  · have br : (bN (decide ((cmpI b 0) < (0 : Int))) : MV) = .sc (.bool false) := sc_b (decide_eq_false (by rw [cmpI, if_neg hneg]; split <;> omega))
    obtain ⟨g1, g2, g3, g4⟩ := main a b (by omega) ha hbz
    obtain ⟨e1, e2⟩ := reduce_parts (a := a) (b := b) (by omega)
    by_cases hc : cmpI ((Nat.gcd a.natAbs b.natAbs : Nat) : Int) 1 = 0
    · obtain ⟨f1, f2⟩ := one a b (by omega) hc
      refine TU_call (by omega) rfl rfl (args' := [iM a, iM b]) hu (p_rational_reduce_2 hio a b sgn br g1 unit g2 (sc_b (by rw [hc]; rfl))) ?_
      rw [f1] at e1
      rw [f2] at e2
      rw [rM_of e1 e2]
      exact uncap_rM _
    · refine TU_call (by omega) rfl rfl (args' := [iM a, iM b]) hu (p_rational_reduce_1 hio a b sgn br g1 unit g2 (sc_b (by simpa using hc)) g3 g4) ?_
      rw [rM_of e1 e2]
      exact uncap_rM _
theorem c_rational_Sign {m : Nat} (hm : 1 < m) (p : Rat) : (TU m).call fn_rational_Sign [rM p] = some (iN (cmpI p.num 0), []) :=
  TU_call (by omega) rfl rfl (args' := [rM p]) (by rw [uncaps_rM]; rfl) (p_rational_Sign_0 (TU_io _) p (by exact c_integer_Sign (by omega) _)) rfl
theorem cmpI_sign {a b : Int} (h : cmpI a b ≠ 0 ∨ True) : cmpI a b = -1 ∧ a < b ∨ cmpI a b = 0 ∧ a = b ∨ cmpI a b = 1 ∧ b < a := by
  unfold cmpI; split <;> (try split) <;> omega
theorem cmpQ_cross (p q : Rat) : cmpQ p q = cmpI (p.num * ((q.den : Nat) : Int)) (q.num * ((p.den : Nat) : Int)) := by
  unfold cmpQ cmpI
  simp only [Rat.lt_iff]
theorem c_rational_Cmp {m : Nat} (hm : 5 < m) {p q : Rat} {j k : Nat} (hp : Sz j p) (hq : Sz k q) (hjk : j + k < 50000) : (TU m).call fn_rational_Cmp [rM p, rM q] = some (iN (cmpQ p q), []) := by
  have hio := TU_io (m - 1)
  have := hp.n; have := hp.d; have := hq.n; have := hq.d
  have s1 : (TU (m - 1)).call fn_rational_Sign [rM p] = some (iN (cmpI p.num 0), []) := c_rational_Sign (by omega) p
  have s2 : (TU (m - 1)).call fn_rational_Sign [rM q] = some (iN (cmpI q.num 0), []) := c_rational_Sign (by omega) q
  have s3 : (TU (m - 1)).call fn_cmp_Compare_int [iN (cmpI p.num 0), iN (cmpI q.num 0)] = some (iN (cmpI (cmpI p.num 0) (cmpI q.num 0)), []) := c_cmp_Compare_int (by omega) _ _
  have h1 := nz_mul p.num ((q.den : Nat) : Int)
  have h2 := nz_mul q.num ((p.den : Nat) : Int)
  refine TU_call (by omega) rfl rfl (args' := [rM p, rM q]) (by rw [uncaps_rM, uncaps_rM]; rfl) (r := iN (cmpQ p q)) ?_ rfl
  have hpd : 0 < ((p.den : Nat) : Int) := by have := p.den_nz; omega
  have hqd : 0 < ((q.den : Nat) : Int) := by have := q.den_nz; omega
  by_cases hc : cmpI (cmpI p.num 0) (cmpI q.num 0) = 0
  · rw [cmpQ_cross]
    exact p_rational_Cmp_1 hio p q s1 s2 s3 (sc_b (by rw [hc]; rfl)) (by exact c_integer_Mul (by omega) (by omega)) (by exact c_integer_Mul (by omega) (by omega)) (by exact c_integer_Cmp (by omega) (by omega) (by omega))
  · refine (p_rational_Cmp_0 hio p q s1 s2 s3 (sc_b (by simpa using hc))).trans ?_
    have key : cmpQ p q = cmpI (cmpI p.num 0) (cmpI q.num 0) := by
      rw [cmpQ_cross]
      have pos : ∀ {a b : Int}, 0 < a → 0 < b → 0 < a * b := fun h1 h2 => Int.mul_pos h1 h2
      have sgn : ∀ {a b : Int}, 0 < b → (a < 0 → a * b < 0) ∧ (a = 0 → a * b = 0) ∧ (0 < a → 0 < a * b) := fun {a b} hb => ⟨fun h => Int.mul_neg_of_neg_of_pos h hb, fun h => by rw [h, Int.zero_mul], fun h => Int.mul_pos h hb⟩
      obtain ⟨a1, a2, a3⟩ := sgn (a := p.num) hqd
      obtain ⟨b1, b2, b3⟩ := sgn (a := q.num) hpd
      rcases cmpI_sign (a := p.num) (b := 0) (.inr trivial) with ⟨e1, e2⟩ | ⟨e1, e2⟩ | ⟨e1, e2⟩ <;> rcases cmpI_sign (a := q.num) (b := 0) (.inr trivial) with ⟨f1, f2⟩ | ⟨f1, f2⟩ | ⟨f1, f2⟩ <;> rw [e1, f1] at hc ⊢ <;> first | (exfalso; exact hc rfl) | skip
      · have := a1 e2; have := b2 f2; rw [cmpI, if_pos (by omega)]; rfl
      · have := a1 e2; have := b3 f2; rw [cmpI, if_pos (by omega)]; rfl
      · have := a2 e2; have := b1 f2; rw [cmpI, if_neg (by omega), if_pos (by omega)]; rfl
      · have := a2 e2; have := b3 f2; rw [cmpI, if_pos (by omega)]; rfl
      · have := a3 e2; have := b1 f2; rw [cmpI, if_neg (by omega), if_pos (by omega)]; rfl
      · have := a3 e2; have := b2 f2; rw [cmpI, if_neg (by omega), if_pos (by omega)]; rfl
    rw [key]
theorem c_rational_Add {m : Nat} (hm : 7 < m) {p q : Rat} {j k : Nat} (hp : Sz j p) (hq : Sz k q) (hjk : 2 * j + 2 * k < 8000) : (TU m).call fn_rational_Add [rM p, rM q] = some (rM (p + q), []) := by
  have hio := TU_io (m - 1)
  have := hp.n; have := hp.d; have := hq.n; have := hq.d
  have hu : uncaps [rM p, rM q] = [rM p, rM q] := by rw [uncaps_rM, uncaps_rM]; rfl
  have hc : (TU (m - 1)).call fn_integer_Cmp [iM ((p.den : Nat) : Int), iM ((q.den : Nat) : Int)] = some (iN (cmpI ((p.den : Nat) : Int) ((q.den : Nat) : Int)), []) := c_integer_Cmp (by omega) (by omega) (by omega)
  have h1 := nz_add (p.num * ((q.den : Nat) : Int)) (q.num * ((p.den : Nat) : Int))
  have h2 := nz_mul p.num ((q.den : Nat) : Int)
  have h3 := nz_mul q.num ((p.den : Nat) : Int)
  have h4 := nz_mul ((p.den : Nat) : Int) ((q.den : Nat) : Int)
  have h5 := nz_add p.num q.num
  by_cases he : cmpI ((p.den : Nat) : Int) ((q.den : Nat) : Int) = 0
  · have hd : p.den = q.den := by unfold cmpI at he; split at he <;> (try split at he) <;> omega
    have g := p_rational_Add_0 hio p q hc (sc_b (by rw [he]; rfl)) (by exact c_integer_Add (by omega) (by omega) (by omega)) (by exact c_rational_reduce (by omega) (den_ne p) (by omega) (by omega))
    rw [add_same p q hd]
    exact TU_call (by omega) rfl rfl (args' := [rM p, rM q]) hu g (uncap_rM _)
  · have g := p_rational_Add_1 hio p q hc (sc_b (by simpa using he)) (by exact c_integer_Mul (by omega) (by omega)) (by exact c_integer_Mul (by omega) (by omega)) (by exact c_integer_Add (by omega) (by omega) (by omega)) (by exact c_integer_Mul (by omega) (by omega)) (by exact c_rational_reduce (by omega) (Int.mul_ne_zero (den_ne p) (den_ne q)) (by omega) (by omega))
    rw [add_divInt p q]
    exact TU_call (by omega) rfl rfl (args' := [rM p, rM q]) hu g (uncap_rM _)
theorem c_rational_Neg {m : Nat} (hm : 2 < m) {p : Rat} {j : Nat} (hp : Sz j p) (hj : j < 100000) : (TU m).call fn_rational_Neg [rM p] = some (rM (-p), []) := by
  have := hp.n
  refine TU_call (by omega) rfl rfl (args' := [rM p]) (by rw [uncaps_rM]; rfl) (p_rational_Neg_0 (TU_io _) p (by exact c_integer_Neg (by omega) (by omega))) ?_
  rw [rM_of (q := -p) (Rat.neg_num p).symm (by rw [Rat.neg_den])]
  exact uncap_rM _
theorem c_rational_Sub {m : Nat} (hm : 8 < m) {p q : Rat} {j k : Nat} (hp : Sz j p) (hq : Sz k q) (hjk : 2 * j + 2 * k < 8000) : (TU m).call fn_rational_Sub [rM p, rM q] = some (rM (p - q), []) := by
  have g := p_rational_Sub_0 (TU_io (m - 1)) p q (by exact c_rational_Neg (by omega) hq (by omega)) (by exact c_rational_Add (by omega) hp hq.neg hjk)
  rw [Rat.sub_eq_add_neg]
  exact TU_call (by omega) rfl rfl (args' := [rM p, rM q]) (by rw [uncaps_rM, uncaps_rM]; rfl) g (uncap_rM _)
theorem c_rational_Mul {m : Nat} (hm : 7 < m) {p q : Rat} {j k : Nat} (hp : Sz j p) (hq : Sz k q) (hjk : j + k < 8000) : (TU m).call fn_rational_Mul [rM p, rM q] = some (rM (p * q), []) := by
  have := hp.n; have := hp.d; have := hq.n; have := hq.d
  have h2 := nz_mul p.num q.num
  have h4 := nz_mul ((p.den : Nat) : Int) ((q.den : Nat) : Int)
  have g := p_rational_Mul_0 (TU_io (m - 1)) p q (by exact c_integer_Mul (by omega) (by omega)) (by exact c_integer_Mul (by omega) (by omega)) (by exact c_rational_reduce (by omega) (Int.mul_ne_zero (den_ne p) (den_ne q)) (by omega) (by omega))
  rw [mul_divInt p q]
  exact TU_call (by omega) rfl rfl (args' := [rM p, rM q]) (by rw [uncaps_rM, uncaps_rM]; rfl) g (uncap_rM _)
/-- The zero fraction, with a denominator without limbs. -/
abbrev rZ : MV := .agg [bN false, .fs 0 none [], bN false, .fs 0 none []]
theorem c_rational_Div {m : Nat} (hm : 7 < m) {p q : Rat} {j k : Nat} (hp : Sz j p) (hq : Sz k q) (hjk : j + k < 8000) (h0 : q ≠ 0) : (TU m).call fn_rational_Div [rM p, rM q] = some (.tup [rM (p / q), iN 0], []) := by
  have := hp.n; have := hp.d; have := hq.n; have := hq.d
  have h2 := nz_mul p.num ((q.den : Nat) : Int)
  have h4 := nz_mul ((p.den : Nat) : Int) q.num
  have hn := num_ne h0
  have hc : cmpI q.num 0 ≠ 0 := by unfold cmpI; split <;> (try split) <;> omega
  have g := p_rational_Div_1 (TU_io (m - 1)) p q (by exact c_rational_Sign (by omega) q) (sc_b (by simpa using hc)) (by exact c_integer_Mul (by omega) (by omega)) (by exact c_integer_Mul (by omega) (by omega)) (by exact c_rational_reduce (by omega) (Int.mul_ne_zero (den_ne p) hn) (by omega) (by omega))
  rw [div_divInt p q]
  exact TU_call (by omega) rfl rfl (args' := [rM p, rM q]) (by rw [uncaps_rM, uncaps_rM]; rfl) g (uncap_tupR _ _)
theorem c_rational_Div0 {m : Nat} (hm : 7 < m) {p : Rat} : (TU m).call fn_rational_Div [rM p, rM 0] = some (.tup [rZ, iN 6], []) := by
  have g := p_rational_Div_0 (TU_io (m - 1)) p 0 (by exact c_rational_Sign (by omega) 0) (sc_b (by decide))
  exact TU_call (by omega) rfl rfl (args' := [rM p, rM 0]) (by rw [uncaps_rM, uncaps_rM]; rfl) g rfl
end Go.Proofs.YtkeelkeoijemiaaGreat.Ev

namespace Go.Proofs.YtkeelkeoijemiaaGreat.Ev
open Go Go.RowKit

/-- What an element of a long row holds. -/
inductive Leaf where
  | v (x : Value)
  | q (k : Nat) (p : Rat)

/-- What the elements of a row hold: numbers, truth values, fractions of so many limbs at most. -/
inductive Kd where
  | i (k : IntKind)
  | b
  | q (K : Nat)
  deriving DecidableEq
/-- The elements' parts, by the element and the place. -/
structure Fam where
  i : Nat → Nat → Int
  b : Nat → Nat → Bool
  q : Nat → Nat → Rat
def Fam.el1 (F : Fam) (i : Nat) : Nat → List Kd → List Leaf
  | _, [] => []
  | j, .i k :: r => .v (.int k (F.i i j)) :: F.el1 i (j + 1) r
  | j, .b :: r => .v (.bool (F.b i j)) :: F.el1 i (j + 1) r
  | j, .q K :: r => .q K (F.q i j) :: F.el1 i (j + 1) r
/-- An element. -/
def Fam.el (F : Fam) (sh : List Kd) (i : Nat) : List Leaf := F.el1 i 0 sh
def Fam.shift (F : Fam) (l : Nat) : Fam := ⟨fun i => F.i (l + i), fun i => F.b (l + i), fun i => F.q (l + i)⟩
def kdW : List Kd → Nat
  | [] => 0
  | .q _ :: r => kdW r + 4
  | _ :: r => kdW r + 1

/-- Values: a fraction of so many limbs at most is one item (of four cells); a row of n elements of w cells each is one item; an element's address. -/
inductive AV where
  | sc (v : Value)
  | q (k : Nat) (p : Rat)
  | blk (sh : List Kd) (n : Nat) (F : Fam)
  | agg (cs : List AV)
  | tup (cs : List AV)
  | fs (len : Nat) (cap : Option Nat) (cs : List AV)
  | arr (cap : Option Nat) (sh : List Kd) (n : Nat) (F : Fam)
  | cp (cs : List AV)
  | row (nm gen off len : Nat) (cap : Option Nat) (sz : Nat)
  | ptr (nm gen off : Nat)
  | pte (nm gen w i off : Nat)
  | fn (f : FuncId) (caps : List AV)
  | any
  deriving Inhabited

structure EntA where
  gen : Nat
  cells : List AV
  frozen : Bool
  deriving Inhabited
structure StA where
  sl : List AV
  en : List (Option EntA)
  ck : Nat
  deriving Inhabited
structure ResA where
  val : AV
  upd : List (Nat × Option EntA) := []
  frz : List Nat := []
  rd : List Nat := []

def leafA : Leaf → AV
  | .v x => .sc x
  | .q k p => .q k p
def leafC : Leaf → List MV
  | .v x => [.sc x]
  | .q _ p => rC p
def leafOk : Leaf → Prop
  | .v x => cellOk (.sc x) = true
  | .q k p => Sz k p
def leavesC (l : List Leaf) : List MV := l.flatMap leafC
/-- The cells of the first n elements. -/
def blkC (f : Nat → List Leaf) : Nat → List MV
  | 0 => []
  | n + 1 => blkC f n ++ leavesC (f n)

mutual
/-- How a value stands to the plain evaluator's. -/
def Rel : AV → MV → Prop
  | .sc v, m => m = .sc v
  | .q k p, m => m = rM p ∧ Sz k p
  | .blk _ _ _, _ => False
  | .agg cs, m => ∃ ms, m = .agg ms ∧ RelC cs ms
  | .tup cs, m => ∃ ms, m = .tup ms ∧ RelT cs ms
  | .fs n c cs, m => ∃ ms, m = .fs n c ms ∧ RelC cs ms
  | .arr c sh n F, m => m = .fs n c (blkC (F.el sh) n) ∧ (∀ i, i < n → (leavesC (F.el sh i)).length = kdW sh ∧ ∀ x ∈ F.el sh i, leafOk x)
  | .cp cs, m => ∃ ms r, m = .cp (ms ++ r) ∧ RelC cs ms
  | .row a b c d e f, m => m = .row a b c d e f
  | .ptr a b c, m => m = .ptr a b c
  | .pte a b w i o, m => m = .ptr a b (i * w + o)
  | .fn f cs, m => ∃ ms, m = .fn f ms ∧ RelT cs ms
  | .any, _ => True
def RelT : List AV → List MV → Prop
  | [], ms => ms = []
  | a :: az, ms => ∃ m r, ms = m :: r ∧ Rel a m ∧ RelT az r
/-- Cells. -/
def RelC : List AV → List MV → Prop
  | [], ms => ms = []
  | .q k p :: az, ms => ∃ r, ms = rC p ++ r ∧ Sz k p ∧ RelC az r
  | .blk sh n F :: az, ms => ∃ r, ms = blkC (F.el sh) n ++ r ∧ (∀ i, i < n → (leavesC (F.el sh i)).length = kdW sh ∧ ∀ x ∈ F.el sh i, leafOk x) ∧ RelC az r
  | a :: az, ms => ∃ m r, ms = m :: r ∧ Rel a m ∧ RelC az r
end
def RelE : Option EntA → Option Ent → Prop
  | none, _ => True
  | some e, m => ∃ x, m = some x ∧ e.gen = x.gen ∧ e.frozen = x.frozen ∧ RelC e.cells x.cells
def RelEs : List (Option EntA) → List (Option Ent) → Prop
  | [], ms => ms = []
  | a :: az, ms => ∃ m r, ms = m :: r ∧ RelE a m ∧ RelEs az r
def RelSt (s : StA) (m : St) : Prop := RelT s.sl m.sl ∧ RelEs s.en m.en ∧ s.ck = m.ck
def RelU : List (Nat × Option EntA) → List (Nat × Option Ent) → Prop
  | [], ms => ms = []
  | (n, a) :: az, ms => ∃ m r, ms = (n, m) :: r ∧ RelE a m ∧ RelU az r
def RelR (a : ResA) (m : Res) : Prop := Rel a.val m.val ∧ RelU a.upd m.upd ∧ a.frz = m.frz ∧ a.rd = m.rd

mutual
/-- Plain values, so. -/
def liftM : MV → AV
  | .sc v => .sc v
  | .agg cs => .agg (liftMs cs)
  | .tup cs => .tup (liftMs cs)
  | .fs n c cs => .fs n c (liftMs cs)
  | .fn f cs => .fn f (liftMs cs)
  | _ => .any
def liftMs : List MV → List AV
  | [] => []
  | m :: ms => liftM m :: liftMs ms
end
def StA.slot (st : StA) (t : Nat) : AV := st.sl.getD t (.sc undef)
def StA.ent (st : StA) (n : Nat) : Option EntA := st.en.getD n none
def StA.ev (st : StA) : Operand → AV
  | .tmp t => st.slot t
  | .const v => liftM (cv v)
  | .global g => .sc (.pointer (some ⟨g, 0, none⟩))
  | .func f => .fn f []
/-- A plain value of scalars. -/
def lowAs : List AV → Option (List MV)
  | [] => some []
  | .sc v :: r => (lowAs r).map (.sc v :: ·)
  | _ :: _ => none
def lowA : AV → Option MV
  | .sc v => some (.sc v)
  | .agg cs => (lowAs cs).map .agg
  | _ => none
def lowEv (st : StA) (o : Operand) : MV := (lowA (st.ev o)).getD .any

/-- How many cells. -/
def lenA : List AV → Nat
  | [] => 0
  | .q _ _ :: az => 4 + lenA az
  | .blk sh n _ :: az => n * kdW sh + lenA az
  | _ :: az => 1 + lenA az
def dropW : List AV → Nat → Option (List AV)
  | cs, 0 => some cs
  | [], _ + 1 => none
  | .q _ _ :: az, n + 1 => if 3 ≤ n then dropW az (n - 3) else none
  | .blk _ _ _ :: _, _ + 1 => none
  | _ :: az, n + 1 => dropW az n
def takeW : List AV → Nat → Option (List AV)
  | _, 0 => some []
  | [], _ + 1 => none
  | .q k p :: az, n + 1 => if 3 ≤ n then (takeW az (n - 3)).map (.q k p :: ·) else none
  | .blk _ _ _ :: _, _ + 1 => none
  | a :: az, n + 1 => (takeW az n).map (a :: ·)
def mkAgg : List AV → AV
  | [.q k p] => .q k p
  | cs => .agg cs
def isPart : AV → Bool
  | .q _ _ | .blk _ _ _ => true
  | _ => false
def takeTA (P : Program) (t : TypeId) (cs : List AV) : Option AV :=
  match aggO P t, szO P t with
  | some true, some n => (takeW cs n).map mkAgg
  | some false, some _ => match cs with
    | c :: _ => if isPart c then none else some c
    | [] => none
  | _, _ => none
def cellOkA : AV → Bool
  | .sc v => cellOk (.sc v)
  | .agg _ | .tup _ | .any => false
  | _ => true
def cellsA : AV → Option (List AV)
  | .agg cs => if cs.all cellOkA then some cs else none
  | .blk _ _ _ => none
  | m => if cellOkA m then some [m] else none
def putW (cs : List AV) (off : Nat) (vs : List AV) : Option (List AV) :=
  match takeW cs off, dropW cs (off + lenA vs) with
  | some a, some b => some (a ++ vs ++ b)
  | _, _ => none
def behindA (en : Nat → Option EntA) : AV → Option (List AV)
  | .cp cs => some cs
  | .ptr nm g off => match en nm with
    | some e => if e.gen = g then dropW e.cells off else none
    | none => none
  | _ => none

/-- One element, read off cells. -/
structure El where
  i : Nat → Int
  b : Nat → Bool
  q : Nat → Rat
def Fam.snoc (F : Fam) (n : Nat) (e : El) : Fam := ⟨fun i j => if i = n then e.i j else F.i i j, fun i j => if i = n then e.b j else F.b i j, fun i j => if i = n then e.q j else F.q i j⟩
def El.setI (e : El) (j : Nat) (x : Int) : El := { e with i := fun k => if k = j then x else e.i k }
def El.setB (e : El) (j : Nat) (x : Bool) : El := { e with b := fun k => if k = j then x else e.b k }
def El.setQ (e : El) (j : Nat) (x : Rat) : El := { e with q := fun k => if k = j then x else e.q k }
def rd1 : Kd → AV → Option Leaf
  | .i k, .sc (.int k' x) => if k' = k then some (.v (.int k x)) else none
  | .b, .sc (.bool x) => some (.v (.bool x))
  | .q K, .q i x => if i ≤ K then some (.q K x) else none
  | _, _ => none
def El.put (e : El) (j : Nat) : Leaf → El
  | .v (.int _ x) => e.setI j x
  | .v (.bool x) => e.setB j x
  | .q _ x => e.setQ j x
  | _ => e
def rdE : Nat → List Kd → List AV → Option (El × List AV)
  | _, [], r => some (⟨fun _ => 0, fun _ => false, fun _ => 0⟩, r)
  | j, k :: s, a :: r => match rd1 k a with
    | some l => (rdE (j + 1) s r).map fun y => (y.1.put j l, y.2)
    | none => none
  | _, _ :: _, [] => none
def mergeR (sh : List Kd) : Nat → Nat → Fam → List AV → Option (Nat × Fam)
  | 0, _, _, _ => none
  | d + 1, n, F, r => match r with
    | [] => some (n, F)
    | r => match rdE 0 sh r with
      | some (e, r') => mergeR sh d (n + 1) (F.snoc n e) r'
      | none => none
/-- Elements behind a long row become part of it. -/
def mergeC : List AV → List AV
  | .blk sh n F :: r => match mergeR sh 20 n F r with
    | some (n', F') => [.blk sh n' F']
    | none => .blk sh n F :: r
  | cs => cs
def famZ : Fam := ⟨fun _ _ => 0, fun _ _ => false, fun _ _ => 0⟩

mutual
def freezeA (en : Nat → Option EntA) : Nat → AV → Option (AV × List Nat)
  | 0, _ => none
  | _ + 1, .sc v => some (.sc v, [])
  | _ + 1, .q a p => some (.q a p, [])
  | _ + 1, .fs n c cs => some (.fs n c cs, [])
  | _ + 1, .arr c sh n F => some (.arr c sh n F, [])
  | _ + 1, .cp cs => some (.cp cs, [])
  | k + 1, .agg cs => (freezesA en k cs).map fun x => (.agg x.1, x.2)
  | k + 1, .tup cs => (freezesT en k cs).map fun x => (.tup x.1, x.2)
  | k + 1, .fn f cs => (freezesT en k cs).map fun x => (.fn f x.1, x.2)
  | k + 1, .ptr nm g off => match en nm with
    | some e => if e.gen = g ∧ g ≠ 0 then match dropW e.cells off with
      | some cs => (freezesA en k cs).map fun x => (.cp x.1, nm :: x.2)
      | none => none else none
    | none => none
  | k + 1, .row nm g off len cap sz => match en nm with
    | some e => if e.gen = g ∧ g ≠ 0 then match (dropW e.cells off).bind (takeW · (len * sz)) with
      | some cs => (freezesA en k cs).map fun x => (.fs len cap x.1, nm :: x.2)
      | none => none else none
    | none => none
  | _ + 1, _ => none
def freezesA (en : Nat → Option EntA) : Nat → List AV → Option (List AV × List Nat)
  | 0, _ => none
  | _ + 1, [] => some ([], [])
  | k + 1, m :: ms => match freezeA en k m, freezesA en k ms with
    | some x, some y => some (x.1 :: y.1, x.2 ++ y.2)
    | _, _ => none
def freezesT (en : Nat → Option EntA) : Nat → List AV → Option (List AV × List Nat)
  | 0, _ => none
  | _ + 1, [] => some ([], [])
  | k + 1, m :: ms => match freezeA en k m, freezesT en k ms with
    | some x, some y => some (x.1 :: y.1, x.2 ++ y.2)
    | _, _ => none
end
def FA : Nat := 1000

variable {R : Type}
/-- A test; what must hold. -/
def brK (b : Bool) (k : Bool → Option R) : Option R := cond b (k true) (k false)
def gdK (b : Bool) (k : Option R) : Option R := cond b k none

def frzK (en : Nat → Option EntA) (a : AV) (k : AV → List Nat → Option R) : Option R :=
  match a with
  | .row nm g off len cap sz => match en nm with
    | some e => match mergeC e.cells with
      | [.blk sh n F] => gdK (decide (e.gen = g ∧ g ≠ 0 ∧ off = 0) && decide (sz = kdW sh)) (gdK (decide (len = n ∧ n * kdW sh < 900000)) (k (.arr cap sh n F) [nm]))
      | _ => match freezeA en FA a with
        | some (x, ns) => k x ns
        | none => none
    | none => none
  | _ => match freezeA en FA a with
    | some (x, ns) => k x ns
    | none => none
def frzsK (en : Nat → Option EntA) : List AV → (List AV → List Nat → Option R) → Option R
  | [], k => k [] []
  | a :: az, k => frzK en a fun x ns => frzsK en az fun xs ms => k (x :: xs) (ns ++ ms)

/-- What calls do. -/
abbrev CTab (R : Type) := FuncId → List AV → (AV → Option R) → Option R
/-- Values, each under a condition; the first that holds counts. -/
def altK : List (Bool × AV) → (AV → Option R) → Option R
  | [], _ => none
  | (c, r) :: l, k => cond c (k r) (altK l k)
def callA (S : CTab R) (io : FuncId → List Nat) (en : Nat → Option EntA) (f : FuncId) (args : List AV) (k : ResA → Option R) : Option R :=
  match io f with
  | [] => frzsK en args fun az fz => S f az fun r => k { val := r, frz := fz, rd := fz }
  | _ => none

def nameA : AV → List Nat
  | .ptr nm _ _ => [nm]
  | .pte nm _ _ _ _ => [nm]
  | .row nm _ _ _ _ _ => [nm]
  | _ => []
def rowCellsA (en : Nat → Option EntA) (k : Nat → List AV → Option R) : AV → Option R
  | .sc (.string s) => k s.size (liftMs (strCells s))
  | .fs len _ cs => k len cs
  | .arr _ sh n F => k n [.blk sh n F]
  | .row nm g off len _ sz => match en nm with
    | some e => if e.gen = g then match mergeC e.cells with
      | [.blk sh n F] => gdK (decide (off = 0 ∧ sz = kdW sh)) (gdK (decide (len = n)) (k len [.blk sh n F]))
      | _ => match (dropW e.cells off).bind (takeW · (len * sz)) with
        | some cs => k len cs
        | none => none else none
    | none => none
  | _ => none
def appendA (P : Program) (d g : Nat) (en : Nat → Option EntA) (elem : TypeId) (s x : AV) (k : ResA → Option R) : Option R :=
  match szO P elem, bytesO P elem, zeroO P elem with
  | some sz, some by_, some z =>
    if z.length ≠ sz ∨ sz = 0 ∨ by_ = 0 ∨ by_ > 65536 then none else
    rowCellsA en (fun n new => if new.all cellOkA then gdK (decide (lenA new = n * sz)) (match s with
      | .fs len (some c) cs => brK (decide (c < len + n)) fun t =>
          if t then gdK (decide (lenA cs = len * sz ∧ len + n ≤ 1073741824)) (k { val := .row d g 0 (len + n) none sz, upd := [(d, some ⟨g, cs ++ new, false⟩)], rd := nameA x })
          else gdK (decide (len + n = 0)) (k { val := .fs 0 (some c) [], rd := nameA x })
      | .row nm g' off len cap sz' => match en nm with
        | some e => match dropW e.cells off with
          | some ds => gdK (decide (e.gen = g' ∧ g' ≠ 0 ∧ e.frozen = false ∧ sz' = sz ∧ (nameA x).contains nm = false)) (gdK (decide (off + len * sz = lenA e.cells ∧ (len + n) ≤ 1073741824))
            (k { val := .row d g 0 (len + n) (capIn cap (len + n)) sz, upd := [(nm, none), (d, some ⟨g, ds ++ new, false⟩)], rd := nm :: nameA x }))
          | none => none
        | none => none
      | _ => none) else none) x
  | _, _, _ => none

def bdK (len : Nat) (x : Option AV) (d : Nat) (k : Nat → Option R) : Option R := match x with
  | none => k d
  | some (.sc (.int _ i)) => gdK (decide (0 ≤ i ∧ i ≤ len)) (k i.toNat)
  | _ => none
def slPartsA : AV → Option (Nat × Option Nat)
  | .fs len cap _ => some (len, cap)
  | .arr cap _ n _ => some (n, cap)
  | .row _ _ _ len cap _ => some (len, cap)
  | _ => none
def slOfA (sz : Nat) (x : AV) (l h : Nat) (cap : Option Nat) (k : ResA → Option R) : Option R :=
  match x with
  | .arr _ sh n F => gdK (decide (kdW sh = sz)) (gdK (decide (h ≤ n ∧ l ≤ h)) (k { val := .arr cap sh (h - l) (F.shift l) }))
  | .fs _ _ cs => match (dropW cs (l * sz)).bind (takeW · ((h - l) * sz)) with
    | some ds => k { val := .fs (h - l) cap ds }
    | none => none
  | .row nm gen off _ _ sz' => if sz' = sz then brK (decide (h = l)) fun t => k { val := if t then .fs 0 cap [] else .row nm gen (off + l * sz) (h - l) cap sz } else none
  | _ => none

def fillA (place : Nat → Option (Nat × Nat)) (cells : List AV) : List (Nat × AV) → Option (List AV)
  | [] => some cells
  | (i, v) :: rest => match place i with
    | none => none
    | some (off, size) => match cellsA v with
      | some vs => if lenA vs = size then match putW cells off vs with
        | some cs => fillA place cs rest
        | none => none else none
      | none => none

/-- On plain scalars: by the model's own word. -/
def pureA (P : Program) (o : Oper) (st : StA) (k : ResA → Option R) : Option R :=
  if o.op.operands.toList.all (fun x => (lowA (st.ev x)).isSome) then match pureOp P o (lowEv st) with
    | some v => k { val := liftM v }
    | none => none else none
/-- A row of one scalar. -/
def blk1 : Value → Option (List Kd × Fam)
  | .int k x => some ([.i k], ⟨fun _ _ => x, fun _ _ => false, fun _ _ => 0⟩)
  | .bool x => some ([.b], ⟨fun _ _ => 0, fun _ _ => x, fun _ _ => 0⟩)
  | _ => none
def opA (P : Program) (S : CTab R) (io : FuncId → List Nat) (o : Oper) (g : Nat) (st : StA) (k : ResA → Option R) : Option R :=
  match o.op with
  | .move x | .assign x => k { val := st.ev x }
  | .pick c a b => match st.ev c with
    | .sc (.bool t) => brK t fun t => k { val := if t then st.ev a else st.ev b }
    | _ => none
  | .alloc t => match o.dst, zeroO P t with
    | some d, some z => k { val := .ptr d g 0, upd := [(d, some ⟨g, liftMs (z.map cv1), false⟩)] }
    | _, _ => none
  | .box _ x => match o.dst, cellsA (st.ev x) with
    | some d, some cs => k { val := .ptr d g 0, upd := [(d, some ⟨g, cs, false⟩)] }
    | _, _ => none
  | .load t a => match st.ev a with
    | .pte nm gen w i off => match st.ent nm with
      | some e => match e.cells with
        | [.blk sh n F] => gdK (decide (e.gen = gen ∧ w = kdW sh)) (gdK (decide (i < n)) <| match (dropW ((F.el sh i).map leafA) off).bind (takeTA P t) with
          | some v => k { val := v, rd := [nm] }
          | none => none)
        | _ => none
      | none => none
    | a => match (behindA st.ent a).bind (takeTA P t) with
      | some v => k { val := v, rd := nameA a }
      | none => none
  | .store t a x => match st.ev a, szO P t, cellsA (st.ev x) with
    | .ptr nm gen off, some n, some cs => match st.ent nm with
      | some e => if e.gen = gen ∧ e.frozen = false ∧ lenA cs = n then match putW e.cells off cs with
        | some ds => k { val := .sc undef, upd := [(nm, some { e with cells := ds })], rd := [nm] }
        | none => none else none
      | none => none
    | _, _, _ => none
  | .nilCheck x => match st.ev x with
    | .ptr a b c => k { val := .ptr a b c }
    | .pte a b c d e => k { val := .pte a b c d e }
    | .cp a => k { val := .cp a }
    | .fn a b => k { val := .fn a b }
    | _ => none
  | .binOp .quo _ x y _ => match st.ev x, st.ev y with
    | .sc (.int kk a), .sc (.int kk' b) => if kk = kk' then gdK (decide (b ≠ 0)) (k { val := .sc (.int kk (kk.wrap (a.tdiv b))) }) else none
    | _, _ => none
  | .binOp .rem _ x y _ => match st.ev x, st.ev y with
    | .sc (.int kk a), .sc (.int kk' b) => if kk = kk' then gdK (decide (b ≠ 0)) (k { val := .sc (.int kk (a.tmod b)) }) else none
    | _, _ => none
  | .binOp .. | .unOp .. | .index _ _ _ | .convert _ _ _ => pureA P o st k
  | .fieldAddr s x f => match P.underlying s with
    | some (.struct fields) => match fields[f]? with
      | some fd => match szO P fd.type, st.ev x with
        | some (_ + 1), .ptr nm gen off => k { val := .ptr nm gen (off + fd.offset) }
        | some (_ + 1), .pte nm gen w i off => k { val := .pte nm gen w i (off + fd.offset) }
        | some (_ + 1), .cp cs => match dropW cs fd.offset with
          | some ds => k { val := .cp ds }
          | none => none
        | _, _ => none
      | none => none
    | _ => none
  | .field s x f => match P.underlying s with
    | some (.struct fields) => match fields[f]?, st.ev x with
      | some fd, .agg cs => match (dropW cs fd.offset).bind (takeTA P fd.type) with
        | some v => k { val := v }
        | none => none
      | _, _ => none
    | _ => none
  | .indexAddr t x i => match P.underlying t, st.ev i with
    | some (.slice e), .sc (.int _ n) => match szO P e, st.ev x with
      | some sz, .arr _ sh m F => gdK (decide (kdW sh = sz ∧ 0 < sz)) (gdK (decide (0 ≤ n ∧ n < m)) (k { val := .cp ((F.el sh n.toNat).map leafA) }))
      | some sz, .fs len _ cs => gdK (decide (0 ≤ n ∧ n < len)) (match dropW cs (n.toNat * sz) with
        | some ds => gdK (decide (0 < lenA ds)) (k { val := .cp ds })
        | none => none)
      | some sz, .row nm gen off len _ sz' => if sz' = sz then gdK (decide (0 ≤ n ∧ n < len)) (match st.ent nm with
        | some e => match e.cells with
          | [.blk sh m F] => gdK (decide (kdW sh = sz ∧ off = 0)) (k { val := .pte nm gen (kdW sh) n.toNat 0 })
          | _ => k { val := .ptr nm gen (off + n.toNat * sz) }
        | none => none) else none
      | _, _ => none
    | some (.array len e), .sc (.int _ n) => match szO P e, st.ev x with
      | some sz, .ptr nm gen off => gdK (decide (0 ≤ n ∧ n < len)) (k { val := .ptr nm gen (off + n.toNat * sz) })
      | some sz, .cp cs => gdK (decide (0 ≤ n ∧ n < len)) (match dropW cs (n.toNat * sz) with
        | some ds => k { val := .cp ds }
        | none => none)
      | _, _ => none
    | _, _ => none
  | .build t parts => match P.underlying t, zeroO P t with
    | some (.struct fields), some z => match placesO P fields.toList with
      | some pl => match fillA (pl[·]?) (liftMs (z.map cv1)) (parts.toList.map fun p => (p.1, st.ev p.2)) with
        | some cs => k { val := mkAgg cs }
        | none => none
      | none => none
    | some (.array _ e), some z => match szO P e with
      | some sz => match fillA (fun i => some (i * sz, sz)) (liftMs (z.map cv1)) (parts.toList.map fun p => (p.1, st.ev p.2)) with
        | some cs => k { val := mkAgg cs }
        | none => none
      | none => none
    | _, _ => none
  | .buildSlice t len parts => match sliceO P t, o.dst with
    | some e, some d => match szO P e, zeroO P e with
      | some sz, some z => if z.length = sz ∧ len * sz ≤ 1048576 ∧ 0 < sz then
          match fillA (fun i => some (i * sz, sz)) (liftMs (repCells (z.map cv1) len)) (parts.toList.map fun p => (p.1, st.ev p.2)) with
          | some cs => k { val := .row d g 0 len (some len) sz, upd := [(d, some ⟨g, cs, false⟩)] }
          | none => none
        else none
      | _, _ => none
    | _, _ => none
  | .makeSlice t l c => match sliceO P t, o.dst, st.ev l, st.ev c with
    | some e, some d, .sc (.int _ ln), .sc (.int _ cn) => match szO P e, zeroO P e, bytesO P e with
      | some sz, some [z], some by_ => match blk1 z with
        | some (sh, F) => if sz = 1 then gdK (decide (0 ≤ ln ∧ ln ≤ cn ∧ by_ * cn ≤ 281474976710656 ∧ cn ≤ 4611686018427387904))
            (k { val := .row d g 0 ln.toNat (some cn.toNat) 1, upd := [(d, some ⟨g, [.blk sh ln.toNat F], false⟩)] }) else none
        | none => none
      | _, _, _ => none
    | _, _, _, _ => none
  | .slice t x lo hi mx => match P.underlying t with
    | some (.slice e) => if mx.isSome && hi.isNone then none else match szO P e, slPartsA (st.ev x) with
      | some sz, some (len, cap) => bdK len (hi.map st.ev) len fun h => bdK h (lo.map st.ev) 0 fun l => match mx with
        | none => slOfA sz (st.ev x) l h (cap.map (· - l)) k
        | some m => bdK (cap.getD len) (some (st.ev m)) 0 fun m => gdK (decide (h ≤ m)) (slOfA sz (st.ev x) l h (some (m - l)) k)
      | _, _ => none
    | some .string => pureA P o st k
    | _ => none
  | .extract x i => match st.ev x with
    | .tup vs => match vs[i]? with
      | some v => k { val := v }
      | none => none
    | _ => none
  | .makeFunc (.func f) ⟨[]⟩ caps => k { val := .fn f (caps.toList.map st.ev) }
  | .call c => match c.callee with
    | .builtin .len => match c.args.toList, c.argTypes.toList with
      | [x], [t] => match P.underlying t with
        | some (.slice _) => match slPartsA (st.ev x) with
          | some (n, _) => k { val := .sc (.int .i64 n) }
          | none => none
        | some .string => pureA P o st k
        | some (.array n _) => k { val := .sc (.int .i64 n) }
        | _ => none
      | _, _ => none
    | .builtin .max | .builtin .min => pureA P o st k
    | .builtin .append => match c.args.toList, c.argTypes.toList, o.dst with
      | [s, x], t :: t2 :: _, some d => match sliceO P t, P.underlying t2 with
        | some e, some (.slice _) | some e, some .string => appendA P d g st.ent e (st.ev s) (st.ev x) k
        | _, _ => none
      | _, _, _ => none
    | .value f => match st.ev f with
      | .fn f caps => callA S io st.ent f (c.args.toList.map st.ev ++ caps) k
      | _ => none
    | _ => none
  | _ => none

def setUpdA : List (Option EntA) → List (Nat × Option EntA) → List (Option EntA)
  | en, [] => en
  | en, (n, x) :: r => setUpdA (en.set n x) r
def frzAtA (en : List (Option EntA)) (n : Nat) : List (Option EntA) := match en.getD n none with
  | some e => en.set n (some { e with frozen := true })
  | none => en
def setFrzA : List (Option EntA) → List Nat → List (Option EntA)
  | en, [] => en
  | en, n :: r => setFrzA (frzAtA en n) r
def StA.put (st : StA) (dst : Option Tmp) (r : ResA) : StA :=
  { st with sl := (match dst with | some d => st.sl.set d r.val | none => st.sl), en := setUpdA (setFrzA st.en r.frz) r.upd }
def StA.skip (st : StA) (dst : Option Tmp) : StA := { st with sl := match dst with | some d => st.sl.set d (.sc undef) | none => st.sl }

def wantsK (ops : List Oper) (st : StA) (o : Oper) (k : StA → Bool → Option R) : Option R :=
  match o.guard with
  | none => k st true
  | some (j, want) => match (ops[j]?).bind (·.dst) with
    | some d => if d < st.sl.length then match st.slot d with
        | .sc (.bool b) => brK b fun b => k { st with sl := st.sl.set d (.sc (.bool b)) } (b == want)
        | .sc _ => k st false
        | _ => none
      else none
    | none => none
def stepA (P : Program) (S : CTab R) (io : FuncId → List Nat) (ops : List Oper) (g : Nat) (o : Oper) (st : StA) (k : Option ResA → StA → Option R) : Option R :=
  wantsK ops st o fun st w => if w then opA P S io o g st fun r => k (some r) (st.put o.dst r) else k none (st.skip o.dst)
def logA (P : Program) (S : CTab R) (io : FuncId → List Nat) (ops : List Oper) (ck : Nat) : List (Nat × Oper) → StA → (StA → List (Option Res) → Option R) → Option R
  | [], st, k => k st []
  | (i, o) :: rest, st, k => stepA P S io ops (ck + i) o st fun r s1 => logA P S io ops ck rest s1 fun s l => k s (r.map (fun r => ({ val := undefM, upd := r.upd.map fun x => (x.1, none), frz := r.frz, rd := r.rd } : Res)) :: l)
def regionA (P : Program) (S : CTab R) (io : FuncId → List Nat) (ops : Array Oper) (draw : Bool) (st : StA) (k : StA → Option R) : Option R :=
  logA P S io ops.toList st.ck (numbered 0 ops.toList) st fun s log => if !draw || drawOk ops log then k { s with ck := st.ck + ops.size } else none

mutual
def norm1A (en : Nat → Option EntA) : AV → AV
  | .ptr nm g off => match en nm with
    | some e => if e.gen = g then .ptr nm (if g = 0 then 0 else 1) off else .any
    | none => .any
  | .row nm g off len cap sz => match en nm with
    | some e => if e.gen = g then .row nm (if g = 0 then 0 else 1) off len cap sz else .any
    | none => .any
  | .pte _ _ _ _ _ => .any
  | .agg cs => .agg (normsA en cs)
  | .tup cs => .tup (normsA en cs)
  | .fn f cs => .fn f (normsA en cs)
  | m => m
def normsA (en : Nat → Option EntA) : List AV → List AV
  | [] => []
  | m :: ms => norm1A en m :: normsA en ms
end
mutual
def namesInA : AV → List Nat
  | .ptr nm _ _ => [nm]
  | .row nm _ _ _ _ _ => [nm]
  | .agg cs => namesInLA cs
  | .tup cs => namesInLA cs
  | .fn _ cs => namesInLA cs
  | _ => []
def namesInLA : List AV → List Nat
  | [] => []
  | m :: ms => namesInA m ++ namesInLA ms
end
def wipeA (w : List Nat) : Nat → List AV → List AV
  | _, [] => []
  | i, m :: ms => (if w.contains i then .any else m) :: wipeA w (i + 1) ms
def dropEnA (w used : List Nat) : Nat → List (Option EntA) → List (Option EntA)
  | _, [] => []
  | i, e :: es => (if w.contains i && !used.contains i then none else e) :: dropEnA w used (i + 1) es
def entNamesA (en : List (Option EntA)) (n : Nat) : List Nat := match en.getD n none with
  | some e => namesInLA e.cells
  | none => []
/-- At a loop's head. -/
def normA (w : List Nat) (st : StA) : StA :=
  let sl := wipeA w 0 st.sl
  let u0 := namesInLA sl
  let en0 := dropEnA w [] 0 st.en
  let u1 := u0 ++ (namesInLA (en0.flatMap fun | some e => e.cells | none => []))
  let u2 := u1 ++ u1.flatMap (entNamesA st.en)
  let en := dropEnA w u2 0 st.en
  let look := fun n => en.getD n none
  { sl := normsA look sl, en := en.map fun | some e => some { gen := if e.gen = 0 then 0 else 1, cells := normsA look e.cells, frozen := e.frozen } | none => none, ck := 2 }

/-- What a loop does: its number, its state ahead, what comes behind. -/
abbrev LTab (R : Type) := Nat → StA → (Out → StA → Option R) → Option R
def nLoops : Code → Nat
  | .loop c => nLoops c + 1
  | .seq a b => nLoops a + nLoops b
  | .cond _ a b => nLoops a + nLoops b
  | .block _ c => nLoops c
  | _ => 0
def codeA (P : Program) (S : CTab R) (io : FuncId → List Nat) (L : LTab R) : Nat → Code → StA → (Out → StA → Option R) → Option R
  | _, .skip, st, k => k .normal st
  | _, .region _ ops draw, st, k => regionA P S io ops draw st fun s => k .normal s
  | j, .seq a b, st, k => codeA P S io L j a st fun o s => match o with
    | .normal => codeA P S io L (j + nLoops a) b s k
    | o => k o s
  | j, .cond c x y, st, k => match c with
    | .tmp d => match st.slot d with
      | .sc (.bool t) => brK t fun t => if t then codeA P S io L j x { st with sl := st.sl.set d (.sc (.bool t)) } k else codeA P S io L (j + nLoops x) y { st with sl := st.sl.set d (.sc (.bool t)) } k
      | _ => none
    | _ => none
  | j, .block id c, st, k => codeA P S io L j c st fun o s => match o with
    | .exit i => if i = id then k .normal s else k (.exit i) s
    | o => k o s
  | j, .loop _, st, k => L j st k
  | _, .exit id, st, k => k (.exit id) st
  | _, .ret, st, k => k .ret st
  | _, _, _, _ => none
/-- A loop, round by round. -/
def unrollA (g : StA → (Out → StA → Option R) → Option R) (nm : StA → StA) : Nat → StA → (Out → StA → Option R) → Option R
  | 0, _, _ => none
  | n + 1, st, k => g (nm st) fun o s => match o with
    | .normal => unrollA g nm n s k
    | o => k o s

def resA (P : Program) (st : StA) : List ResultVar → (List AV → Option R) → Option R
  | [], k => k []
  | .tmp t :: r, k => frzK st.ent (st.slot t) fun v _ => resA P st r fun l => k (v :: l)
  | .cell a t :: r, k => match (behindA st.ent (st.slot a)).bind (takeTA P t) with
    | some v => frzK st.ent v fun v _ => resA P st r fun l => k (v :: l)
    | none => none
def bodyA (P : Program) (S : CTab R) (io : FuncId → List Nat) (L : LTab R) (f : FuncId) (args : List AV) (k : AV → Option R) : Option R :=
  match P.funcs[f]? with
  | none => none
  | some fn => match fn.body with
    | some c => codeA P S io L 0 c { sl := args ++ List.replicate (fn.ntmps - args.length) (.sc undef), en := List.replicate (args.length + (fn.ntmps - args.length)) none, ck := 1 } fun o st => match o with
      | .normal | .ret => resA P st fn.results.toList fun vs => match vs with
        | [v] => k v
        | vs => k (.tup vs)
      | .exit _ => none
    | none => none

mutual
def uncapA : AV → AV
  | .fs n _ cs => .fs n none (uncapAs cs)
  | .arr _ sh n F => .arr none sh n F
  | .agg cs => .agg (uncapAs cs)
  | .tup cs => .tup (uncapAs cs)
  | .cp cs => .cp (uncapAs cs)
  | .fn f cs => .fn f (uncapAs cs)
  | m => m
def uncapAs : List AV → List AV
  | [] => []
  | m :: ms => uncapA m :: uncapAs ms
end
end Go.Proofs.YtkeelkeoijemiaaGreat.Ev

