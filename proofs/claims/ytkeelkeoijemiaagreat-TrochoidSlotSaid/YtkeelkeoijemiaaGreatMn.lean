/- Reference integers: the loops of parts. Reference integers: parts, of 0. Reference integers: the loops of parts. Reference integers: DivMod, GCD: states, rounds, paths. -/
import Derived.Test.YtkeelkeoijemiaaGreatMi
import Derived.Test.YtkeelkeoijemiaaGreatMf
set_option linter.unusedVariables false
set_option linter.unusedSimpArgs false
namespace Go.Proofs.YtkeelkeoijemiaaGreat.Ev
open Go Go.RowKit
set_option linter.unusedVariables false
set_option linter.unusedSimpArgs false
set_option maxRecDepth 100000

theorem dig2 {a b t : Nat} (ha : a < BB) (hb : b < BB) (ht : 0 < t) : IntKind.u64.wrap ((IntKind.u64.wrap ((IntKind.u64.wrap ((IntKind.u64.wrap ((a : Nat) : Int)) * (1000000000 : Int))) + (IntKind.u64.wrap ((b : Nat) : Int)))).tdiv ((t : Nat) : Int)) = (((a * BB + b) / t : Nat) : Int) := by
  have eB : BB = 1000000000 := rfl
  have h1 : (a * BB + b) / t ≤ a * BB + b := Nat.div_le_self _ _
  have e1 : IntKind.u64.wrap ((IntKind.u64.wrap ((IntKind.u64.wrap ((a : Nat) : Int)) * (1000000000 : Int))) + (IntKind.u64.wrap ((b : Nat) : Int))) = ((a * BB + b : Nat) : Int) := by
    rw [eB] at ha hb ⊢
    rw [u64s (x := ((a : Nat) : Int)) (by omega), u64s (x := ((a : Nat) : Int) * 1000000000) (by omega), u64s (x := ((b : Nat) : Int)) (by omega), u64s (by omega)]; omega
  rw [e1, Int.tdiv_eq_ediv_of_nonneg (by omega), ← Int.natCast_ediv]
  have h2 : a * BB + b < 1000000000000000000 := by rw [eB] at ha hb ⊢; omega
  generalize (a * BB + b) / t = y at h1 ⊢
  exact u64s (by omega)
theorem dig1 {b t : Nat} (hb : b < BB) (ht : 0 < t) : IntKind.u64.wrap ((IntKind.u64.wrap ((0 : Int) + (IntKind.u64.wrap ((b : Nat) : Int)))).tdiv ((t : Nat) : Int)) = ((b / t : Nat) : Int) := by
  have eB : BB = 1000000000 := rfl
  have h1 : b / t ≤ b := Nat.div_le_self _ _
  have e1 : IntKind.u64.wrap ((0 : Int) + (IntKind.u64.wrap ((b : Nat) : Int))) = ((b : Nat) : Int) := by
    rw [u64s (x := ((b : Nat) : Int)) (by omega), u64s (by omega)]; omega
  rw [e1, Int.tdiv_eq_ediv_of_nonneg (by omega), ← Int.natCast_ediv]
  generalize b / t = y at h1 ⊢
  exact u64s (by omega)
theorem dig0 (t : Int) : IntKind.u64.wrap ((0 : Int).tdiv t) = ((0 : Nat) : Int) := by rw [Int.zero_tdiv]; rfl

theorem in_ref01_parts_1a {mm : Nat} (hm : 1 < mm) {R A la D np P_ : Nat} (hA : A < BB ^ la) (hla : la < 40000) (hA0 : 0 < A) (hRA : R < A * BB) (hD1 : R / A ≤ D) (hD2 : D ≤ R / A + 850000) (hDB : D < BB) {c11 : Option Nat} {cs11 : List MV} (n : Nat) (v : Nat) (m : Nat) (w : Nat) (lb : Nat) (Bv : Nat) (n11 : Nat) (cs64 : List MV) (t10 : Int) (t14 : Int) (j : Nat → Int) (k : Nat → Int)
    (x : Int) (hx : x = ((D : Nat) : Int)) (hn64 : NoNames cs64) :
    lp (TU mm) fn_ref01_parts 1 (L_ref01_parts_1a n v m w la A lb Bv n11 (nl R) R np P_ (nl (A * D)) c11 none cs11 cs64 (dg (nl (A * D)) (A * D)) t10 t14 x j k) (.exit 2) (X_ref01_parts_1a_1 n v m w la A lb Bv n11 (nl R) R np P_ (nl (A * (R / A))) c11 none cs11 cs64 (dg (nl (A * (R / A))) (A * (R / A))) t10 t14 (((R / A) : Nat) : Int) (cmpN (A * (R / A)) R) j k) := by
  have hio := TU_io mm
  subst hx
  have hR1 : R < BB ^ (la + 1) := by
    rw [Nat.pow_succ]; exact Nat.lt_trans hRA (Nat.mul_lt_mul_of_pos_right hA BB_pos)
  have hnR := nl_le hR1
  obtain ⟨o, s', h1, ho, hS⟩ := loop_meas (G := gC (TU mm) fn_ref01_parts 1) (nm := nM fn_ref01_parts 1)
    (fun k_ s => ∃ t, R / A ≤ t ∧ t < BB ∧ k_ = t - R / A ∧ s = (L_ref01_parts_1a n v m w la A lb Bv n11 (nl R) R np P_ (nl (A * t)) c11 none cs11 cs64 (dg (nl (A * t)) (A * t)) t10 t14 ((t : Nat) : Int) j k)) (fun o s => o = .exit 2 ∧ s = (X_ref01_parts_1a_1 n v m w la A lb Bv n11 (nl R) R np P_ (nl (A * (R / A))) c11 none cs11 cs64 (dg (nl (A * (R / A))) (A * (R / A))) t10 t14 (((R / A) : Nat) : Int) (cmpN (A * (R / A)) R) j k)) FUEL (D - R / A) (L_ref01_parts_1a n v m w la A lb Bv n11 (nl R) R np P_ (nl (A * D)) c11 none cs11 cs64 (dg (nl (A * D)) (A * D)) t10 t14 ((D : Nat) : Int) j k) (by
      rintro k_ s ⟨t, ht1, ht2, rfl, rfl⟩
      have hAtB : A * t < BB ^ (la + 1) := by
        rw [Nat.pow_succ]; exact Nat.mul_lt_mul'' hA ht2
      have hnt : nl (A * t) < 100000 := by have := nl_le hAtB; omega
      have tc : (TU mm).call fn_ref01_compare [.fs (nl (A * t)) none (dg (nl (A * t)) (A * t)), .fs (nl R) none (dg (nl R) R)] = some (iN (cmpN (A * t) R), []) := c_ref01_compare (by omega) hnt (by omega)
      by_cases hq : t = R / A
      · left
        subst hq
        exact ⟨_, _, r_ref01_parts_1a_1 hio n v m w la A lb Bv n11 (nl R) R np P_ (nl (A * (R / A))) c11 none cs11 cs64 (dg (nl (A * (R / A))) (A * (R / A))) t10 t14 (((R / A) : Nat) : Int) (cmpN (A * (R / A)) R) j k tc (sc_b (decide_eq_false (cmpN_le (Nat.mul_div_le _ _)))), by simp, rfl, rfl⟩
      · right
        have hgt : R < A * t := by
          have h1 := (Nat.div_lt_iff_lt_mul hA0).1 (show R / A < t by omega)
          rw [Nat.mul_comm]; exact h1
        have hqt : R / A < t := by omega
        have ht0 : 0 < t := Nat.lt_of_le_of_lt (Nat.zero_le _) hqt
        have hAt : A ≤ A * t := Nat.le_mul_of_pos_right _ ht0
        obtain ⟨s', g1, g2⟩ := r_ref01_parts_1a_0 hio n v m w la A lb Bv n11 (nl R) R np P_ (nl (A * t)) _ _ c11 none cs11 cs64 (dg (nl (A * t)) (A * t)) t10 t14 ((t : Nat) : Int) (cmpN (A * t) R) j k tc (sc_b (decide_eq_true (by rw [cmpN_gt hgt]; decide))) (by exact c_ref01_minus (by omega) hAt (nl_lt _) hnt (by exact hA) (by omega)) hn64
        have em : A * t - A = A * (t - 1) := by rw [Nat.mul_sub, Nat.mul_one]
        have ew : IntKind.u64.wrap (((t : Nat) : Int) - (1 : Int)) = ((t - 1 : Nat) : Int) := by
          have eB : BB = 1000000000 := rfl
          rw [u64s (by omega)]; omega
        rw [em, ew] at g2
        exact ⟨s', t - 1 - R / A, by omega, g1, t - 1, by omega, by omega, rfl, g2⟩) ⟨D, hD1, hDB, rfl, rfl⟩ (by unfold FUEL; omega)
  rw [ho, hS] at h1
  exact h1

theorem rd_ref01_parts_0a {mm : Nat} (hm : 2 < mm) {la A lb Bv p : Nat} (hA : A < BB ^ la) (hla0 : 0 < la) (hla : la < 40000) (hA0 : 0 < A) (ht : 1200 ≤ dgt A (la - 1)) (hp : p < lb) (n : Nat) (v : Nat) (m : Nat) (w : Nat) (c11 : Option Nat) (j : Nat → Int) (hlb : lb ≤ n + 1) (hn : n < 40000) (hBv : Bv < BB ^ lb)
    {V : Nat} (hV : V = Bv / BB ^ (p + 1)) :
    ∃ (s_ : St) (j' : Nat → Int), gC (TU mm) fn_ref01_parts 0 (L_ref01_parts_0a n v m w la A lb Bv (nl (V % A)) c11 (dg (nl (V % A)) (V % A)) (dg (n + 1) (BB ^ (p + 1) * (V / A))) ((dgt A (la - 1) : Nat) : Int) ((p : Nat) : Int) j) = some (.normal, s_) ∧ j' 0 = j 0 ∧ nM fn_ref01_parts 0 s_ = (L_ref01_parts_0a n v m w la A lb Bv (nl (Bv / BB ^ p % A)) none (dg (nl (Bv / BB ^ p % A)) (Bv / BB ^ p % A)) (dg (n + 1) (BB ^ p * (Bv / BB ^ p / A))) ((dgt A (la - 1) : Nat) : Int) (((p : Nat) : Int) - 1) j') := by
  have hio := TU_io mm
  have eB : BB = 1000000000 := rfl
  have hVp : Bv / BB ^ p = BB * V + dgt Bv p := by
    rw [hV, Nat.pow_succ, ← Nat.div_div_eq_div_mul]; unfold dgt; exact (Nat.div_add_mod _ _).symm
  have d1 := dgt_lt Bv p
  have hr := Nat.mod_lt V hA0
  obtain ⟨l1, l2⟩ := long_step V (dgt Bv p) A hA0
  have hRA := rem_lt hr d1
  have hnr : nl (V % A) ≤ la := nl_le (Nat.lt_trans hr hA)
  have hap : ([uN ((dgt Bv ((p : Nat) : Int).toNat : Nat) : Int)] : List MV) ++ dg (nl (V % A)) (V % A) = dg (1 + nl (V % A)) (V % A * BB + dgt Bv p) := by
    rw [Int.toNat_natCast, dg_one _ d1, dg_append _ _ _ _ (by rw [Nat.pow_one]; exact d1), Nat.pow_one]
    congr 1
    rw [Nat.mul_comm]; omega
  have hN : BB ^ (p + 1) * (V / A) < BB ^ (n + 1) := by
    have h1 : BB ^ (p + 1) * (V / A) ≤ BB ^ (p + 1) * V := Nat.mul_le_mul_left _ (Nat.div_le_self _ _)
    have h2 : BB ^ (p + 1) * V ≤ Bv := by rw [hV]; exact Nat.mul_div_le _ _
    have h3 : BB ^ lb ≤ BB ^ (n + 1) := Nat.pow_le_pow_right BB_pos hlb
    omega
  obtain ⟨g1, g2, hq⟩ := guess_up hA hla0 rfl ht hRA
  have hput := put_quot hA0 (show p < n + 1 by omega) hN hq
  have hR1 : V % A * BB + dgt Bv p < BB ^ (1 + nl (V % A)) := by
    have h1 : (V % A + 1) * BB ≤ BB ^ nl (V % A) * BB := Nat.mul_le_mul_right BB (nl_lt (V % A))
    rw [Nat.add_comm 1, Nat.pow_succ]
    rw [Nat.add_mul, Nat.one_mul] at h1
    exact Nat.lt_of_lt_of_le (Nat.add_lt_add_left d1 _) h1
  rw [l1] at hput
  have l1' := l1
  obtain ⟨R, hR⟩ : ∃ R, R = V % A * BB + dgt Bv p := ⟨_, rfl⟩
  rw [← hR] at hap hRA l1 l2 g1 g2 hq hput hR1 l1'
  have hRla : R < BB ^ (la + 1) := by rw [Nat.pow_succ]; exact Nat.lt_trans hRA (Nat.mul_lt_mul_of_pos_right hA BB_pos)
  have hnR := nl_le hRla
  have hmod : R % A = R - A * (R / A) := by have := Nat.div_add_mod R A; omega
  have hnq : nl (A * (R / A)) < 100000 := by
    have := nl_mono (Nat.mul_div_le R A)
    omega
  have eq2 : IntKind.u32.wrap ((R / A : Nat) : Int) = ((R / A : Nat) : Int) := u32s (by generalize R / A = y at hq ⊢; omega)
  have ewp : IntKind.i64.wrap (((p : Nat) : Int) - (1 : Int)) = ((p : Nat) : Int) - 1 := i64s (by omega)
  have ewI : IntKind.i64.wrap (((la : Nat) : Int) - (1 : Int)) = ((la - 1 : Nat) : Int) := by rw [i64s (by omega)]; omega
  have ewn : (IntKind.i64.wrap (((la : Nat) : Int) - (1 : Int))).toNat = la - 1 := by rw [ewI, Int.toNat_natCast]
  have d3 := dgt_lt R la
  have d4 := dgt_lt R (la - 1)
  by_cases hgt : la < nl R
  · by_cases hbig : BB ≤ R / BB ^ (la - 1) / dgt A (la - 1)
    · have ex : (IntKind.u64.wrap ((IntKind.u64.wrap ((IntKind.u64.wrap ((IntKind.u64.wrap ((dgt R la : Nat) : Int)) * (1000000000 : Int))) + (IntKind.u64.wrap ((dgt R ((IntKind.i64.wrap ((la : Int) - (1 : Int))).toNat) : Nat) : Int)))).tdiv ((dgt A (la - 1) : Nat) : Int))) = ((R / BB ^ (la - 1) / dgt A (la - 1) : Nat) : Int) := by rw [ewn, high_two hla0 hRla]; exact dig2 d3 d4 (by omega)
      obtain ⟨D, hD⟩ : ∃ D, D = BB - 1 := ⟨_, rfl⟩
      have hx : (999999999 : Int) = ((D : Nat) : Int) := by omega
      have hD1 : R / A ≤ D := by omega
      have hD2 : D ≤ R / A + 850000 := by omega
      have hDB : D < BB := by omega
      have ex2 : IntKind.u32.wrap (999999999 : Int) = ((D : Nat) : Int) := by rw [hx, u32s (by omega)]
      have hin := fun k : Nat → Int => in_ref01_parts_1a (mm := mm) (by omega) (D := D) (np := nl (A * D)) (P_ := A * D) hA hla hA0 hRA hD1 hD2 hDB (c11 := c11) (cs11 := dg (nl (V % A)) (V % A)) n v m w lb Bv (nl (V % A)) (dg (n + 1) (BB ^ (p + 1) * (V / A))) ((dgt A (la - 1) : Nat) : Int) ((p : Nat) : Int) j k _ hx (dg_nn _ _)
      obtain ⟨s', h1, h2⟩ := r_ref01_parts_0a_0 hio n v m w la A lb Bv (nl (V % A)) (nl R) R (nl (A * D)) (A * D) (nl (A * (R / A))) (nl (R % A)) (R % A) c11 none (dg (nl (V % A)) (V % A)) (dg (n + 1) (BB ^ (p + 1) * (V / A))) (dg (nl (A * (R / A))) (A * (R / A))) ((dgt A (la - 1) : Nat) : Int) ((p : Nat) : Int) ((R / A : Nat) : Int) _ j _ (sc_b (decide_eq_true (by omega))) (dix hp) (dgi hp) ⟨by rw [dg_len]; omega, (dg_leaves _ _).cellOk, rfl, by decide, rfl, rfl, rfl, by omega, rfl⟩ ⟨rfl, by decide, by rw [hap, dg_len]; omega, by rw [hap, Nat.mul_one, dg_take (Nat.le_refl _)]; exact dg_pl (by omega)⟩ (by rw [hap, Nat.mul_one, dg_take (Nat.le_refl _)]; exact c_ref01_trim (by omega) hR1 (by omega)) (sc_b (decide_eq_true (by omega))) ⟨by omega, by omega, dg_ne (by omega)⟩ (dg_at (by omega)) (sc_b (decide_eq_true (by omega))) ⟨by rw [ewI]; omega, by rw [ewI]; omega, dg_ne (by omega)⟩ (by rw [ewn]; exact dg_at (by omega)) (by omega) (sc_b (decide_eq_true (by rw [ex]; omega))) (by rw [ex2]; exact c_ref01_by (by omega) hA (by omega) hDB) (hin _) (dg_nn _ _) (by rw [hmod]; exact c_ref01_minus (by omega) (Nat.mul_div_le _ _) (nl_lt _) (by omega) (nl_lt _) hnq) (by omega) ⟨rfl, rfl, rfl, by rw [pos0, dg_len]; omega⟩ (by rw [eq2, pos0, hput]; exact dg_nn _ _)
      rw [eq2, pos0, hput, ewp] at h2
      rw [hVp, l2, l1']
      exact ⟨s', _, h1, by rfl, h2⟩
    · have ex : (IntKind.u64.wrap ((IntKind.u64.wrap ((IntKind.u64.wrap ((IntKind.u64.wrap ((dgt R la : Nat) : Int)) * (1000000000 : Int))) + (IntKind.u64.wrap ((dgt R ((IntKind.i64.wrap ((la : Int) - (1 : Int))).toNat) : Nat) : Int)))).tdiv ((dgt A (la - 1) : Nat) : Int))) = ((R / BB ^ (la - 1) / dgt A (la - 1) : Nat) : Int) := by rw [ewn, high_two hla0 hRla]; exact dig2 d3 d4 (by omega)
      obtain ⟨D, hD⟩ : ∃ D, D = R / BB ^ (la - 1) / dgt A (la - 1) := ⟨_, rfl⟩
      rw [← hD] at ex g1 g2 hbig
      have hx := ex
      have hD1 : R / A ≤ D := g1
      have hD2 : D ≤ R / A + 850000 := g2
      have hDB : D < BB := by omega
      have ex2 : IntKind.u32.wrap (IntKind.u64.wrap ((IntKind.u64.wrap ((IntKind.u64.wrap ((IntKind.u64.wrap ((dgt R la : Nat) : Int)) * (1000000000 : Int))) + (IntKind.u64.wrap ((dgt R ((IntKind.i64.wrap ((la : Int) - (1 : Int))).toNat) : Nat) : Int)))).tdiv ((dgt A (la - 1) : Nat) : Int))) = ((D : Nat) : Int) := by rw [hx, u32s (by omega)]
      have hin := fun k : Nat → Int => in_ref01_parts_1a (mm := mm) (by omega) (D := D) (np := nl (A * D)) (P_ := A * D) hA hla hA0 hRA hD1 hD2 hDB (c11 := c11) (cs11 := dg (nl (V % A)) (V % A)) n v m w lb Bv (nl (V % A)) (dg (n + 1) (BB ^ (p + 1) * (V / A))) ((dgt A (la - 1) : Nat) : Int) ((p : Nat) : Int) j k _ hx (dg_nn _ _)
      obtain ⟨s', h1, h2⟩ := r_ref01_parts_0a_4 hio n v m w la A lb Bv (nl (V % A)) (nl R) R (nl (A * D)) (A * D) (nl (A * (R / A))) (nl (R % A)) (R % A) c11 none (dg (nl (V % A)) (V % A)) (dg (n + 1) (BB ^ (p + 1) * (V / A))) (dg (nl (A * (R / A))) (A * (R / A))) ((dgt A (la - 1) : Nat) : Int) ((p : Nat) : Int) ((R / A : Nat) : Int) _ j _ (sc_b (decide_eq_true (by omega))) (dix hp) (dgi hp) ⟨by rw [dg_len]; omega, (dg_leaves _ _).cellOk, rfl, by decide, rfl, rfl, rfl, by omega, rfl⟩ ⟨rfl, by decide, by rw [hap, dg_len]; omega, by rw [hap, Nat.mul_one, dg_take (Nat.le_refl _)]; exact dg_pl (by omega)⟩ (by rw [hap, Nat.mul_one, dg_take (Nat.le_refl _)]; exact c_ref01_trim (by omega) hR1 (by omega)) (sc_b (decide_eq_true (by omega))) ⟨by omega, by omega, dg_ne (by omega)⟩ (dg_at (by omega)) (sc_b (decide_eq_true (by omega))) ⟨by rw [ewI]; omega, by rw [ewI]; omega, dg_ne (by omega)⟩ (by rw [ewn]; exact dg_at (by omega)) (by omega) (sc_b (decide_eq_false (by rw [ex]; omega))) (by rw [ex2]; exact c_ref01_by (by omega) hA (by omega) hDB) (hin _) (dg_nn _ _) (by rw [hmod]; exact c_ref01_minus (by omega) (Nat.mul_div_le _ _) (nl_lt _) (by omega) (nl_lt _) hnq) (by omega) ⟨rfl, rfl, rfl, by rw [pos0, dg_len]; omega⟩ (by rw [eq2, pos0, hput]; exact dg_nn _ _)
      rw [eq2, pos0, hput, ewp] at h2
      rw [hVp, l2, l1']
      exact ⟨s', _, h1, by rfl, h2⟩
  · have hRl : R < BB ^ la := Nat.lt_of_lt_of_le (nl_lt R) (Nat.pow_le_pow_right BB_pos (by omega))
    by_cases hge : nl R = la
    · have ex : (IntKind.u64.wrap ((IntKind.u64.wrap ((0 : Int) + (IntKind.u64.wrap ((dgt R ((IntKind.i64.wrap ((la : Int) - (1 : Int))).toNat) : Nat) : Int)))).tdiv ((dgt A (la - 1) : Nat) : Int))) = ((R / BB ^ (la - 1) / dgt A (la - 1) : Nat) : Int) := by rw [ewn, high_one hla0 hRl]; exact dig1 d4 (by omega)
      obtain ⟨D, hD⟩ : ∃ D, D = R / BB ^ (la - 1) / dgt A (la - 1) := ⟨_, rfl⟩
      have hDB : D < BB := by rw [hD, high_one hla0 hRl]; exact Nat.lt_of_le_of_lt (Nat.div_le_self _ _) d4
      rw [← hD] at ex g1 g2
      have hx := ex
      have hD1 : R / A ≤ D := g1
      have hD2 : D ≤ R / A + 850000 := g2
      have ex2 : IntKind.u32.wrap (IntKind.u64.wrap ((IntKind.u64.wrap ((0 : Int) + (IntKind.u64.wrap ((dgt R ((IntKind.i64.wrap ((la : Int) - (1 : Int))).toNat) : Nat) : Int)))).tdiv ((dgt A (la - 1) : Nat) : Int))) = ((D : Nat) : Int) := by rw [hx, u32s (by omega)]
      have hin := fun k : Nat → Int => in_ref01_parts_1a (mm := mm) (by omega) (D := D) (np := nl (A * D)) (P_ := A * D) hA hla hA0 hRA hD1 hD2 hDB (c11 := c11) (cs11 := dg (nl (V % A)) (V % A)) n v m w lb Bv (nl (V % A)) (dg (n + 1) (BB ^ (p + 1) * (V / A))) ((dgt A (la - 1) : Nat) : Int) ((p : Nat) : Int) j k _ hx (dg_nn _ _)
      obtain ⟨s', h1, h2⟩ := r_ref01_parts_0a_2 hio n v m w la A lb Bv (nl (V % A)) (nl R) R (nl (A * D)) (A * D) (nl (A * (R / A))) (nl (R % A)) (R % A) c11 none (dg (nl (V % A)) (V % A)) (dg (n + 1) (BB ^ (p + 1) * (V / A))) (dg (nl (A * (R / A))) (A * (R / A))) ((dgt A (la - 1) : Nat) : Int) ((p : Nat) : Int) ((R / A : Nat) : Int) _ j _ (sc_b (decide_eq_true (by omega))) (dix hp) (dgi hp) ⟨by rw [dg_len]; omega, (dg_leaves _ _).cellOk, rfl, by decide, rfl, rfl, rfl, by omega, rfl⟩ ⟨rfl, by decide, by rw [hap, dg_len]; omega, by rw [hap, Nat.mul_one, dg_take (Nat.le_refl _)]; exact dg_pl (by omega)⟩ (by rw [hap, Nat.mul_one, dg_take (Nat.le_refl _)]; exact c_ref01_trim (by omega) hR1 (by omega)) (sc_b (decide_eq_false (by omega))) (sc_b (decide_eq_true (by omega))) ⟨by rw [ewI]; omega, by rw [ewI]; omega, dg_ne (by omega)⟩ (by rw [ewn]; exact dg_at (by omega)) (by omega) (sc_b (decide_eq_false (by rw [ex]; omega))) (by rw [ex2]; exact c_ref01_by (by omega) hA (by omega) hDB) (hin _) (dg_nn _ _) (by rw [hmod]; exact c_ref01_minus (by omega) (Nat.mul_div_le _ _) (nl_lt _) (by omega) (nl_lt _) hnq) (by omega) ⟨rfl, rfl, rfl, by rw [pos0, dg_len]; omega⟩ (by rw [eq2, pos0, hput]; exact dg_nn _ _)
      rw [eq2, pos0, hput, ewp] at h2
      rw [hVp, l2, l1']
      exact ⟨s', _, h1, by rfl, h2⟩
    · have hRl : R < BB ^ (la - 1) := Nat.lt_of_lt_of_le (nl_lt R) (Nat.pow_le_pow_right BB_pos (by omega))
      have ex : (IntKind.u64.wrap ((0 : Int).tdiv ((dgt A (la - 1) : Nat) : Int))) = ((R / BB ^ (la - 1) / dgt A (la - 1) : Nat) : Int) := by rw [high_none hRl, Nat.zero_div]; exact dig0 _
      obtain ⟨D, hD⟩ : ∃ D, D = R / BB ^ (la - 1) / dgt A (la - 1) := ⟨_, rfl⟩
      have hDB : D < BB := by rw [hD, high_none hRl, Nat.zero_div]; exact BB_pos
      rw [← hD] at ex g1 g2
      have hx := ex
      have hD1 : R / A ≤ D := g1
      have hD2 : D ≤ R / A + 850000 := g2
      have ex2 : IntKind.u32.wrap (IntKind.u64.wrap ((0 : Int).tdiv ((dgt A (la - 1) : Nat) : Int))) = ((D : Nat) : Int) := by rw [hx, u32s (by omega)]
      have hin := fun k : Nat → Int => in_ref01_parts_1a (mm := mm) (by omega) (D := D) (np := nl (A * D)) (P_ := A * D) hA hla hA0 hRA hD1 hD2 hDB (c11 := c11) (cs11 := dg (nl (V % A)) (V % A)) n v m w lb Bv (nl (V % A)) (dg (n + 1) (BB ^ (p + 1) * (V / A))) ((dgt A (la - 1) : Nat) : Int) ((p : Nat) : Int) j k _ hx (dg_nn _ _)
      obtain ⟨s', h1, h2⟩ := r_ref01_parts_0a_3 hio n v m w la A lb Bv (nl (V % A)) (nl R) R (nl (A * D)) (A * D) (nl (A * (R / A))) (nl (R % A)) (R % A) c11 none (dg (nl (V % A)) (V % A)) (dg (n + 1) (BB ^ (p + 1) * (V / A))) (dg (nl (A * (R / A))) (A * (R / A))) ((dgt A (la - 1) : Nat) : Int) ((p : Nat) : Int) ((R / A : Nat) : Int) _ j _ (sc_b (decide_eq_true (by omega))) (dix hp) (dgi hp) ⟨by rw [dg_len]; omega, (dg_leaves _ _).cellOk, rfl, by decide, rfl, rfl, rfl, by omega, rfl⟩ ⟨rfl, by decide, by rw [hap, dg_len]; omega, by rw [hap, Nat.mul_one, dg_take (Nat.le_refl _)]; exact dg_pl (by omega)⟩ (by rw [hap, Nat.mul_one, dg_take (Nat.le_refl _)]; exact c_ref01_trim (by omega) hR1 (by omega)) (sc_b (decide_eq_false (by omega))) (sc_b (decide_eq_false (by omega))) (by omega) (sc_b (decide_eq_false (by rw [ex]; omega))) (by rw [ex2]; exact c_ref01_by (by omega) hA (by omega) hDB) (hin _) (dg_nn _ _) (by rw [hmod]; exact c_ref01_minus (by omega) (Nat.mul_div_le _ _) (nl_lt _) (by omega) (nl_lt _) hnq) (by omega) ⟨rfl, rfl, rfl, by rw [pos0, dg_len]; omega⟩ (by rw [eq2, pos0, hput]; exact dg_nn _ _)
      rw [eq2, pos0, hput, ewp] at h2
      rw [hVp, l2, l1']
      exact ⟨s', _, h1, by rfl, h2⟩
end Go.Proofs.YtkeelkeoijemiaaGreat.Ev

namespace Go.Proofs.YtkeelkeoijemiaaGreat.Ev
open Go
set_option linter.unusedVariables false
set_option linter.unusedSimpArgs false
set_option maxRecDepth 100000

def L_ref01_parts_0z (n v m w la A lb Bv : Nat) (t14 : Int) (j : Nat → Int) : St := { sl := [MV.fs n none (dg n v), MV.fs m none (dg m w), undefM, undefM, MV.fs 0 (some 0) [], MV.fs 0 (some 0) [], undefM, undefM, uN (j 0), MV.fs la none (dg la A), wN (j 1), MV.fs 0 (some 0) [], MV.fs 0 (some ((IntKind.i64.wrap ((n : Int) + (1 : Int))).toNat)) [], MV.fs lb none (dg lb Bv), iN t14, MV.any, MV.any, MV.any, undefM, undefM, undefM] ++ rp 152 MV.any, en := rp 173 none, ck := 2 }

noncomputable def X_ref01_parts_0z_0 (n v m w la A lb Bv : Nat) (t14 : Int) (j : Nat → Int) : St := xr true fn_ref01_parts 0 (L_ref01_parts_0z n v m w la A lb Bv t14 j) [.br false]

theorem r_ref01_parts_0z_0 {T : Tab} (hio : TO T) (n v m w la A lb Bv : Nat) (t14 : Int) (j : Nat → Int) (h0 : (bN (decide (t14 ≥ (0 : Int))) : MV) = .sc (.bool false)) : gC T fn_ref01_parts 0 (L_ref01_parts_0z n v m w la A lb Bv t14 j) = some (.exit 0, (X_ref01_parts_0z_0 n v m w la A lb Bv t14 j)) :=
  ex_ok hio (h := true) (orc := [.br false]) (by kernel_rfl) (ow1 h0)

def L_ref01_parts_2z0 (n v m w la A lb Bv : Nat) (t14 t20h : Int) (j h : Nat → Int) : St := { sl := [MV.fs n none (dg n v), MV.fs m none (dg m w), undefM, undefM, MV.fs 0 (some 0) [], MV.fs 0 (some 0) [], undefM, undefM, uN (h 0), MV.fs la none (dg la A), wN (h 1), MV.fs 0 (some 0) [], MV.fs 0 (some ((IntKind.i64.wrap ((n : Int) + (1 : Int))).toNat)) [], MV.fs lb none (dg lb Bv), iN t14, MV.any, MV.any, MV.any, wN 0, MV.row 141 1 0 0 (some 0) 1, iN t20h] ++ rp 152 MV.any, en := rp 141 none ++ [some ⟨1, [], false⟩] ++ rp 31 none, ck := 2 }

noncomputable def X_ref01_parts_2z0_0 (n v m w la A lb Bv : Nat) (t14 t20h : Int) (j h : Nat → Int) : St := xr true fn_ref01_parts 2 (L_ref01_parts_2z0 n v m w la A lb Bv t14 t20h j h) [.br false]

theorem r_ref01_parts_2z0_0 {T : Tab} (hio : TO T) (n v m w la A lb Bv : Nat) (t14 t20h : Int) (j h : Nat → Int) (h0 : (bN (decide (t20h ≥ (0 : Int))) : MV) = .sc (.bool false)) : gC T fn_ref01_parts 2 (L_ref01_parts_2z0 n v m w la A lb Bv t14 t20h j h) = some (.exit 4, (X_ref01_parts_2z0_0 n v m w la A lb Bv t14 t20h j h)) :=
  ex_ok hio (h := true) (orc := [.br false]) (by kernel_rfl) (ow1 h0)

theorem p_ref01_parts_lz0 {T : Tab} (hio : TO T) (n v m w la A lb Bv qa Qv qb Rv : Nat) (t14 t20h : Int) (j h : Nat → Int) (h0 : (bN (decide ((n : Int) ≤ (2 : Int))) : MV) = .sc (.bool true)) (h1 : (bN (decide ((m : Int) ≤ (2 : Int))) : MV) = .sc (.bool false)) (h2 : (0 : Int) ≤ (IntKind.i64.wrap ((m : Int) - (1 : Int))) ∧ (IntKind.i64.wrap ((m : Int) - (1 : Int))) < ((m : Nat) : Int) ∧ ((dg m w) : List MV) ≠ []) (h3 : takeAs false 1 ((dg m w).drop (((IntKind.i64.wrap ((m : Int) - (1 : Int))).toNat) * 1)) = some (uN ((dgt w ((IntKind.i64.wrap ((m : Int) - (1 : Int))).toNat) : Nat) : Int))) (h4 : (IntKind.u64.wrap ((IntKind.u64.wrap ((dgt w ((IntKind.i64.wrap ((m : Int) - (1 : Int))).toNat) : Nat) : Int)) + (1 : Int))) ≠ 0) (h5 : T.call fn_ref01_by [MV.fs m none (dg m w), uN (IntKind.u32.wrap (IntKind.u64.wrap ((1000000000 : Int).tdiv (IntKind.u64.wrap ((IntKind.u64.wrap ((dgt w ((IntKind.i64.wrap ((m : Int) - (1 : Int))).toNat) : Nat) : Int)) + (1 : Int))))))] = some (MV.fs la none (dg la A), [])) (h6 : (0 : Int) ≤ (IntKind.i64.wrap ((la : Int) - (1 : Int))) ∧ (IntKind.i64.wrap ((la : Int) - (1 : Int))) < ((la : Nat) : Int) ∧ ((dg la A) : List MV) ≠ []) (h7 : takeAs false 1 ((dg la A).drop (((IntKind.i64.wrap ((la : Int) - (1 : Int))).toNat) * 1)) = some (uN ((dgt A ((IntKind.i64.wrap ((la : Int) - (1 : Int))).toNat) : Nat) : Int))) (h8 : (0 : Int) ≤ (IntKind.i64.wrap ((n : Int) + (1 : Int))) ∧ (IntKind.i64.wrap ((n : Int) + (1 : Int))) ≤ (IntKind.i64.wrap ((n : Int) + (1 : Int))) ∧ ((4 : Nat) : Int) * (IntKind.i64.wrap ((n : Int) + (1 : Int))) ≤ 281474976710656 ∧ (IntKind.i64.wrap ((n : Int) + (1 : Int))) ≤ 4611686018427387904) (h9 : T.call fn_ref01_by [MV.fs n none (dg n v), uN (IntKind.u32.wrap (IntKind.u64.wrap ((1000000000 : Int).tdiv (IntKind.u64.wrap ((IntKind.u64.wrap ((dgt w ((IntKind.i64.wrap ((m : Int) - (1 : Int))).toNat) : Nat) : Int)) + (1 : Int))))))] = some (MV.fs lb none (dg lb Bv), [])) (h10 : (0 : Int) ≤ (lb : Int) ∧ (lb : Int) ≤ (((IntKind.i64.wrap ((n : Int) + (1 : Int))).toNat : Nat) : Int)) (h11 : lb = 0) (h12 : lp T fn_ref01_parts 0 (L_ref01_parts_0z n v m w la A lb Bv (IntKind.i64.wrap ((lb : Int) - (1 : Int))) (jI [IntKind.u32.wrap (IntKind.u64.wrap ((1000000000 : Int).tdiv (IntKind.u64.wrap ((IntKind.u64.wrap ((dgt w ((IntKind.i64.wrap ((m : Int) - (1 : Int))).toNat) : Nat) : Int)) + (1 : Int))))), IntKind.u64.wrap ((dgt A ((IntKind.i64.wrap ((la : Int) - (1 : Int))).toNat) : Nat) : Int)])) (.exit 0) (X_ref01_parts_0z_0 n v m w la A lb Bv t14 j)) (h13 : (0 : Int) ≤ (0 : Int) ∧ (0 : Int) ≤ (0 : Int) ∧ ((4 : Nat) : Int) * (0 : Int) ≤ 281474976710656 ∧ (0 : Int) ≤ 4611686018427387904) (h14 : lp T fn_ref01_parts 2 (L_ref01_parts_2z0 n v m w la A lb Bv t14 (-1) j (jI [j 0, j 1])) (.exit 4) (X_ref01_parts_2z0_0 n v m w la A lb Bv t14 t20h j h)) (h15 : T.call fn_ref01_trim [MV.fs 0 (some ((IntKind.i64.wrap ((n : Int) + (1 : Int))).toNat)) []] = some (MV.fs qa none (dg qa Qv), [])) (h16 : 1 = 1 ∧ 1 ≠ 0 ∧ 0 ≤ 0 ∧ Plain ([])) (h17 : T.call fn_ref01_trim [MV.fs 0 (some 0) []] = some (MV.fs qb none (dg qb Rv), [])) : evalBody PG T FUEL (ioF fn_ref01_parts) fn_ref01_parts [MV.fs n none (dg n v), MV.fs m none (dg m w)] = some (MV.tup [MV.fs qa none (dg qa Qv), MV.fs qb none (dg qb Rv)], []) :=
  xBody_io (hard := true) hio (orc := [.br true, .br false, .val (uN ((dgt w ((IntKind.i64.wrap ((m : Int) - (1 : Int))).toNat) : Nat) : Int)), .call (MV.fs la none (dg la A)) [], .val (uN ((dgt A ((IntKind.i64.wrap ((la : Int) - (1 : Int))).toNat) : Nat) : Int)), .call (MV.fs lb none (dg lb Bv)) [], .br true, .loop (.exit 0) (X_ref01_parts_0z_0 n v m w la A lb Bv t14 j), .loop (.exit 4) (X_ref01_parts_2z0_0 n v m w la A lb Bv t14 t20h j h), .call (MV.fs qa none (dg qa Qv)) [], .call (MV.fs qb none (dg qb Rv)) []]) (by kernel_rfl) (owc h0 (owc h1 (owc h2 (owc h3 (owc h4 (owc h5 (owc h6 (owc h7 (owc h8 (owc h9 (owc h10 (owc h11 (owc h12 (owc h13 (owc h14 (owc h15 (owc h16 (ow1 h17))))))))))))))))))

end Go.Proofs.YtkeelkeoijemiaaGreat.Ev

namespace Go.Proofs.YtkeelkeoijemiaaGreat.Ev
open Go Go.RowKit
set_option linter.unusedVariables false
set_option linter.unusedSimpArgs false
set_option maxRecDepth 100000

theorem carry_ref01_parts_2a {mm : Nat} {r s : Nat} (hs : 0 < s) (hsB : s ≤ BB) (hr : nl r < 100000) (n : Nat) (v : Nat) (m : Nat) (w : Nat) (la : Nat) (A : Nat) (lb : Nat) (Bv : Nat) (c11 : Option Nat) (cs64 : List MV) (t10 : Int) (t14 : Int) (j : Nat → Int) (hj : j 0 = ((s : Nat) : Int)) (hn64 : NoNames cs64) :
    lp (TU mm) fn_ref01_parts 2 (L_ref01_parts_2a n v m w la A lb Bv (nl r) c11 (dg (nl r) r) cs64 (repCells [uN 0] (nl r)) t10 t14 0 (IntKind.i64.wrap (((nl r : Nat) : Int) - (1 : Int))) j (jI [j 0])) (.exit 4) (X_ref01_parts_2a_1 n v m w la A lb Bv (nl r) c11 (dg (nl r) r) cs64 (dg (nl r) (r / s)) t10 t14 ((r % s : Nat) : Int) (((0 : Nat) : Int) - 1) j (jI [j 0])) := by
  have hio := TU_io mm
  have eB : BB = 1000000000 := rfl
  have es : IntKind.u64.wrap ((s : Nat) : Int) = ((s : Nat) : Int) := u64s (by omega)
  obtain ⟨h, hh⟩ : ∃ h, h = jI [j 0] := ⟨_, rfl⟩
  have hh0 : h 0 = ((s : Nat) : Int) := by rw [hh]; exact hj
  rw [← hh]
  obtain ⟨S, rfl, hl⟩ := loop_to (G := gC (TU mm) fn_ref01_parts 2) (nm := nM fn_ref01_parts 2)
    (fun i S => S = (L_ref01_parts_2a n v m w la A lb Bv (nl r) c11 (dg (nl r) r) cs64 (dg (nl r) (BB ^ (nl r - i) * ((r / BB ^ (nl r - i)) / s))) t10 t14 (((r / BB ^ (nl r - i)) % s : Nat) : Int) (((nl r - i : Nat) : Int) - 1) j h)) (nl r) FUEL (L_ref01_parts_2a n v m w la A lb Bv (nl r) c11 (dg (nl r) r) cs64 (repCells [uN 0] (nl r)) t10 t14 0 (IntKind.i64.wrap (((nl r : Nat) : Int) - (1 : Int))) j h) (by
      rintro i S hi rfl
      obtain ⟨p, hp'⟩ : ∃ p, p = nl r - (i + 1) := ⟨_, rfl⟩
      rw [show nl r - i = p + 1 by omega, ← hp']
      have e1 : (((p + 1 : Nat) : Int) - 1) = ((p : Nat) : Int) := by omega
      rw [e1]
      have hp : p < nl r := by omega
      have d1 := dgt_lt r p
      obtain ⟨V, hV⟩ : ∃ V, V = r / BB ^ (p + 1) := ⟨_, rfl⟩
      have hVp : r / BB ^ p = BB * V + dgt r p := by
        rw [hV, Nat.pow_succ, ← Nat.div_div_eq_div_mul]; unfold dgt; exact (Nat.div_add_mod _ _).symm
      rw [← hV]
      have hR := Nat.mod_lt V hs
      obtain ⟨l1, l2⟩ := long_step V (dgt r p) s hs
      have hRB : V % s * BB ≤ (BB - 1) * BB := Nat.mul_le_mul_right _ (by omega)
      have htb := rem_lt hR d1
      have htq : (V % s * BB + dgt r p) / s < BB := (Nat.div_lt_iff_lt_mul hs).2 (by rw [Nat.mul_comm BB s]; exact htb)
      have hN : BB ^ (p + 1) * (V / s) < BB ^ nl r := by
        have h1 : BB ^ (p + 1) * (V / s) ≤ BB ^ (p + 1) * V := Nat.mul_le_mul_left _ (Nat.div_le_self _ _)
        have h2 : BB ^ (p + 1) * V ≤ r := by rw [hV]; exact Nat.mul_div_le _ _
        have h3 := nl_lt r
        omega
      have hput := put_quot hs hp hN htq
      obtain ⟨t, ht⟩ : ∃ t, t = V % s * BB + dgt r p := ⟨_, rfl⟩
      rw [← ht] at htb htq hput l1 l2
      rw [l1] at hput
      have hRI : (((V % s : Nat) : Int) * (1000000000 : Int)) = ((V % s * BB : Nat) : Int) := by rw [eB]; omega
      have et : IntKind.u64.wrap ((IntKind.u64.wrap (((V % s : Nat) : Int) * (1000000000 : Int))) + (IntKind.u64.wrap ((dgt r p : Nat) : Int))) = ((t : Nat) : Int) := by
        rw [hRI, u64s (x := ((V % s * BB : Nat) : Int)) (by rw [eB] at *; omega), u64s (x := ((dgt r p : Nat) : Int)) (by omega), u64s (by rw [eB] at *; omega), ht]; omega
      have eq_ : IntKind.u32.wrap (IntKind.u64.wrap (((t : Nat) : Int).tdiv (IntKind.u64.wrap ((s : Nat) : Int)))) = ((t / s : Nat) : Int) := by
        rw [es, Int.tdiv_eq_ediv_of_nonneg (by omega), ← Int.natCast_ediv]
        generalize t / s = qd at htq ⊢
        rw [u64s (by omega), u32s (by omega)]
      have em : ((t : Nat) : Int).tmod (IntKind.u64.wrap ((s : Nat) : Int)) = ((t % s : Nat) : Int) := by
        rw [es, Int.tmod_eq_emod_of_nonneg (by omega), ← Int.natCast_emod]
      obtain ⟨s', g1, g2⟩ := r_ref01_parts_2a_0 hio n v m w la A lb Bv (nl r) c11 (dg (nl r) r) cs64 (dg (nl r) (BB ^ (p + 1) * (V / s))) t10 t14 ((V % s : Nat) : Int) ((p : Nat) : Int) ((dgt r p : Nat) : Int) j h (sc_b (decide_eq_true (by omega))) (dix hp) (by have := dgi (v := r) hp; rw [Int.toNat_natCast] at this ⊢; exact this) (by rw [hh0, es]; omega) (by omega) ⟨rfl, rfl, rfl, by rw [pos0, dg_len]; omega⟩ (by rw [hh0, es]; omega) hn64 (by rw [hh0, et, eq_, pos0, hput]; exact dg_nn _ _)
      rw [hh0, et, eq_, pos0, hput, em, i64s (by omega)] at g2
      rw [hVp, l2, l1]
      exact ⟨s', g1, g2⟩) (by
      have hz : r / BB ^ (nl r - 0) = 0 := Nat.div_eq_of_lt (nl_lt r)
      rw [rep_dg, i64s (by omega), hz, Nat.zero_mod, Nat.zero_div, Nat.mul_zero, Nat.sub_zero]
      rfl) (by unfold FUEL; omega)
  rw [Nat.sub_self, Nat.pow_zero, Nat.div_one, Nat.one_mul] at hl
  exact hl _ _ (r_ref01_parts_2a_1 hio n v m w la A lb Bv (nl r) c11 (dg (nl r) r) cs64 (dg (nl r) (r / s)) t10 t14 ((r % s : Nat) : Int) (((0 : Nat) : Int) - 1) j h (sc_b (decide_eq_false (by omega)))) (by simp)

theorem parts_a {mm : Nat} (hm : 2 < mm) {v w : Nat} (hv0 : 0 < v) (hw0 : 0 < w) (hv : nl v < 30000) (hw : nl w < 30000) (hs2 : nl v ≤ 2) (hl2 : 2 < nl w) :
    evalBody PG (TU mm) FUEL (ioF fn_ref01_parts) fn_ref01_parts [.fs (nl v) none (dg (nl v) v), .fs (nl w) none (dg (nl w) w)] = some (.tup [.fs (nl (v / w)) none (dg (nl (v / w)) (v / w)), .fs (nl (v % w)) none (dg (nl (v % w)) (v % w))], []) := by
  have hio := TU_io mm
  have eB : BB = 1000000000 := rfl
  obtain ⟨s, hs, hs0, hsB, hA, hA1, ht⟩ := scale_facts hw0
  have hnw := nl_pos hw0
  have hnA : nl (w * s) = nl w := by
    have h1 := nl_le hA
    have h2 := nl_ge hA1
    omega
  have d1 := dgt_lt w (nl w - 1)
  have hws0 : 0 < w * s := Nat.mul_pos hw0 hs0
  have hvs : v * s < BB ^ (nl v + 1) := by rw [Nat.pow_succ]; exact Nat.mul_lt_mul'' (nl_lt v) hsB
  have hlb := nl_le hvs
  have hlb0 := nl_pos (Nat.mul_pos hv0 hs0)
  have ewI : IntKind.i64.wrap (((nl w : Nat) : Int) - (1 : Int)) = ((nl w - 1 : Nat) : Int) := by rw [i64s (by omega)]; omega
  have ewn : (IntKind.i64.wrap (((nl w : Nat) : Int) - (1 : Int))).toNat = nl w - 1 := by rw [ewI, Int.toNat_natCast]
  have ewN : IntKind.i64.wrap (((nl v : Nat) : Int) + (1 : Int)) = ((nl v + 1 : Nat) : Int) := by rw [i64s (by omega)]; omega
  have esc1 : IntKind.u64.wrap ((IntKind.u64.wrap ((dgt w (nl w - 1) : Nat) : Int)) + (1 : Int)) = ((dgt w (nl w - 1) + 1 : Nat) : Int) := by
    rw [u64s (x := ((dgt w (nl w - 1) : Nat) : Int)) (by omega), u64s (by omega)]; omega
  have esc : IntKind.u32.wrap (IntKind.u64.wrap ((1000000000 : Int).tdiv (IntKind.u64.wrap ((IntKind.u64.wrap ((dgt w (nl w - 1) : Nat) : Int)) + (1 : Int))))) = ((s : Nat) : Int) := by
    rw [esc1, Int.tdiv_eq_ediv_of_nonneg (by omega)]
    have : (1000000000 : Int) / ((dgt w (nl w - 1) + 1 : Nat) : Int) = ((s : Nat) : Int) := by rw [hs, Int.natCast_ediv]; rfl
    rw [this, u64s (by omega), u32s (by omega)]
  have by_w : (TU mm).call fn_ref01_by [.fs (nl w) none (dg (nl w) w), uN (s : Nat)] = some (.fs (nl w) none (dg (nl w) (w * s)), []) := by
    have := c_ref01_by (q := mm) (c := none) (by omega) (nl_lt w) (by omega) hsB
    rw [hnA] at this
    exact this
  have by_v : (TU mm).call fn_ref01_by [.fs (nl v) none (dg (nl v) v), uN (s : Nat)] = some (.fs (nl (v * s)) none (dg (nl (v * s)) (v * s)), []) := c_ref01_by (by omega) (nl_lt v) (by omega) hsB
  have erm : v * s % (w * s) / s = v % w := by rw [Nat.mul_mod_mul_right, Nat.mul_div_cancel _ hs0]
  have et10 : IntKind.u64.wrap ((dgt (w * s) (nl w - 1) : Nat) : Int) = ((dgt (w * s) (nl w - 1) : Nat) : Int) := by
    have := dgt_lt (w * s) (nl w - 1)
    exact u64s (by omega)
  obtain ⟨j0, hj0⟩ : ∃ j0, j0 = jI [IntKind.u32.wrap (IntKind.u64.wrap ((1000000000 : Int).tdiv (IntKind.u64.wrap ((IntKind.u64.wrap ((dgt w ((IntKind.i64.wrap (((nl w : Nat) : Int) - (1 : Int))).toNat) : Nat) : Int)) + (1 : Int)))))] := ⟨_, rfl⟩
  have hj00 : j0 0 = ((s : Nat) : Int) := by
    rw [hj0]; show IntKind.u32.wrap (IntKind.u64.wrap ((1000000000 : Int).tdiv (IntKind.u64.wrap ((IntKind.u64.wrap ((dgt w ((IntKind.i64.wrap (((nl w : Nat) : Int) - (1 : Int))).toNat) : Nat) : Int)) + (1 : Int))))) = _
    rw [ewn]; exact esc
  obtain ⟨S, ⟨c11, j, hj, rfl⟩, hl⟩ := loop_to (G := gC (TU mm) fn_ref01_parts 0) (nm := nM fn_ref01_parts 0)
    (fun i S => ∃ (c11 : Option Nat) (j : Nat → Int), j 0 = ((s : Nat) : Int) ∧ S = (L_ref01_parts_0a (nl v) v (nl w) w (nl w) (w * s) (nl (v * s)) (v * s) (nl (v * s / BB ^ (nl (v * s) - i) % (w * s))) c11 (dg (nl (v * s / BB ^ (nl (v * s) - i) % (w * s))) (v * s / BB ^ (nl (v * s) - i) % (w * s))) (dg (nl v + 1) (BB ^ (nl (v * s) - i) * (v * s / BB ^ (nl (v * s) - i) / (w * s)))) ((dgt (w * s) (nl w - 1) : Nat) : Int) (((nl (v * s) - i : Nat) : Int) - 1) j)) (nl (v * s)) FUEL (L_ref01_parts_0a (nl v) v (nl w) w (nl w) (w * s) (nl (v * s)) (v * s) 0 (some 0) ([]) (repCells [uN 0] ((IntKind.i64.wrap (((nl v : Nat) : Int) + (1 : Int))).toNat)) (IntKind.u64.wrap ((dgt (w * s) ((IntKind.i64.wrap (((nl w : Nat) : Int) - (1 : Int))).toNat) : Nat) : Int)) (IntKind.i64.wrap (((nl (v * s) : Nat) : Int) - (1 : Int))) j0) (by
      rintro i S hi ⟨c11, j, hj, rfl⟩
      obtain ⟨p, hp⟩ : ∃ p, p = nl (v * s) - (i + 1) := ⟨_, rfl⟩
      rw [← hp]
      rw [show nl (v * s) - i = p + 1 by omega, show (((p + 1 : Nat) : Int) - 1) = ((p : Nat) : Int) by omega]
      obtain ⟨s', j', g1, g2, g3⟩ := rd_ref01_parts_0a hm (la := nl w) (A := w * s) (lb := nl (v * s)) (Bv := v * s) (V := v * s / BB ^ (p + 1)) (p := p) hA hnw (by omega) hws0 ht (by omega) (nl v) v (nl w) w c11 j (by omega) (by omega) (nl_lt _) rfl
      exact ⟨s', g1, none, j', by rw [g2]; exact hj, g3⟩) ⟨some 0, j0, hj00, by
        have hz : v * s / BB ^ (nl (v * s) - 0) = 0 := Nat.div_eq_of_lt (nl_lt _)
        rw [hz, ewN, ewn, Int.toNat_natCast, rep_dg, et10, i64s (x := ((nl (v * s) : Nat) : Int) - 1) (by omega), Nat.zero_mod, Nat.zero_div, Nat.mul_zero, nl_zero]
        rfl⟩ (by unfold FUEL; omega)
  rw [Nat.sub_self, Nat.pow_zero, Nat.div_one, Nat.one_mul] at hl
  have hloop := hl _ _ (r_ref01_parts_0a_1 hio (nl v) v (nl w) w (nl w) (w * s) (nl (v * s)) (v * s) (nl (v * s % (w * s))) c11 (dg (nl (v * s % (w * s))) (v * s % (w * s))) (dg (nl v + 1) (v * s / (w * s))) ((dgt (w * s) (nl w - 1) : Nat) : Int) (((0 : Nat) : Int) - 1) j (sc_b (decide_eq_false (by omega)))) (by simp)
  have hrl : nl (v * s % (w * s)) < 40000 := by
    have := nl_mono (Nat.mod_le (v * s) (w * s))
    omega
  have hcarry := carry_ref01_parts_2a (mm := mm) (r := v * s % (w * s)) hs0 (by omega) (by omega) (nl v) v (nl w) w (nl w) (w * s) (nl (v * s)) (v * s) c11 (dg (nl v + 1) (v * s / (w * s))) ((dgt (w * s) (nl w - 1) : Nat) : Int) (((0 : Nat) : Int) - 1) j hj (dg_nn _ _)
  subst hj0
  exact p_ref01_parts_la0 hio (nl v) v (nl w) w (nl w) (w * s) (nl (v * s)) (v * s) (nl (v * s % (w * s))) (nl (v / w)) (v / w) (nl (v % w)) (v % w) c11 (dg (nl (v * s % (w * s))) (v * s % (w * s))) (dg (nl v + 1) (v * s / (w * s))) (dg (nl (v * s % (w * s))) ((v * s % (w * s)) / s)) ((dgt (w * s) (nl w - 1) : Nat) : Int) (((0 : Nat) : Int) - 1) (((v * s % (w * s)) % s : Nat) : Int) (((0 : Nat) : Int) - 1) j _ (sc_b (decide_eq_true (by omega))) (sc_b (decide_eq_false (by omega))) ⟨by rw [ewI]; omega, by rw [ewI]; omega, dg_ne (by omega)⟩ (by rw [ewn]; exact dg_at (by omega)) (by rw [ewn, esc1]; omega) (by rw [ewn, esc]; exact by_w) ⟨by rw [ewI]; omega, by rw [ewI]; omega, dg_ne (by omega)⟩ (by rw [ewn]; exact dg_at (by omega)) (by rw [ewN]; omega) (by rw [ewn, esc]; exact by_v) (by rw [ewN]; omega) (by omega) hloop (by omega) hcarry (dg_nn _ _) ⟨rfl, by decide, by rw [dg_len]; omega, by rw [Nat.mul_one, dg_take (by omega)]; exact dg_pl (by omega)⟩ (by rw [Nat.mul_one, dg_take (by omega), Nat.mul_div_mul_right _ _ hs0]; exact c_ref01_trim (by omega) (Nat.lt_of_le_of_lt (Nat.le_trans (Nat.div_le_self _ _) (Nat.le_mul_of_pos_right _ hs0)) (nl_lt _)) (by omega)) ⟨rfl, by decide, by rw [dg_len]; omega, by rw [Nat.mul_one, dg_take (Nat.le_refl _)]; exact dg_pl (by omega)⟩ (by rw [Nat.mul_one, dg_take (Nat.le_refl _), erm]; exact c_ref01_trim (by omega) (by rw [← erm]; exact Nat.lt_of_le_of_lt (Nat.div_le_self _ _) (nl_lt _)) (by omega))

theorem parts_b {mm : Nat} (hm : 2 < mm) {v w : Nat} (hv0 : 0 < v) (hw0 : 0 < w) (hv : nl v < 30000) (hw : nl w < 30000) (hs2 : 2 < nl v) :
    evalBody PG (TU mm) FUEL (ioF fn_ref01_parts) fn_ref01_parts [.fs (nl v) none (dg (nl v) v), .fs (nl w) none (dg (nl w) w)] = some (.tup [.fs (nl (v / w)) none (dg (nl (v / w)) (v / w)), .fs (nl (v % w)) none (dg (nl (v % w)) (v % w))], []) := by
  have hio := TU_io mm
  have eB : BB = 1000000000 := rfl
  obtain ⟨s, hs, hs0, hsB, hA, hA1, ht⟩ := scale_facts hw0
  have hnw := nl_pos hw0
  have hnA : nl (w * s) = nl w := by
    have h1 := nl_le hA
    have h2 := nl_ge hA1
    omega
  have d1 := dgt_lt w (nl w - 1)
  have hws0 : 0 < w * s := Nat.mul_pos hw0 hs0
  have hvs : v * s < BB ^ (nl v + 1) := by rw [Nat.pow_succ]; exact Nat.mul_lt_mul'' (nl_lt v) hsB
  have hlb := nl_le hvs
  have hlb0 := nl_pos (Nat.mul_pos hv0 hs0)
  have ewI : IntKind.i64.wrap (((nl w : Nat) : Int) - (1 : Int)) = ((nl w - 1 : Nat) : Int) := by rw [i64s (by omega)]; omega
  have ewn : (IntKind.i64.wrap (((nl w : Nat) : Int) - (1 : Int))).toNat = nl w - 1 := by rw [ewI, Int.toNat_natCast]
  have ewN : IntKind.i64.wrap (((nl v : Nat) : Int) + (1 : Int)) = ((nl v + 1 : Nat) : Int) := by rw [i64s (by omega)]; omega
  have esc1 : IntKind.u64.wrap ((IntKind.u64.wrap ((dgt w (nl w - 1) : Nat) : Int)) + (1 : Int)) = ((dgt w (nl w - 1) + 1 : Nat) : Int) := by
    rw [u64s (x := ((dgt w (nl w - 1) : Nat) : Int)) (by omega), u64s (by omega)]; omega
  have esc : IntKind.u32.wrap (IntKind.u64.wrap ((1000000000 : Int).tdiv (IntKind.u64.wrap ((IntKind.u64.wrap ((dgt w (nl w - 1) : Nat) : Int)) + (1 : Int))))) = ((s : Nat) : Int) := by
    rw [esc1, Int.tdiv_eq_ediv_of_nonneg (by omega)]
    have : (1000000000 : Int) / ((dgt w (nl w - 1) + 1 : Nat) : Int) = ((s : Nat) : Int) := by rw [hs, Int.natCast_ediv]; rfl
    rw [this, u64s (by omega), u32s (by omega)]
  have by_w : (TU mm).call fn_ref01_by [.fs (nl w) none (dg (nl w) w), uN (s : Nat)] = some (.fs (nl w) none (dg (nl w) (w * s)), []) := by
    have := c_ref01_by (q := mm) (c := none) (by omega) (nl_lt w) (by omega) hsB
    rw [hnA] at this
    exact this
  have by_v : (TU mm).call fn_ref01_by [.fs (nl v) none (dg (nl v) v), uN (s : Nat)] = some (.fs (nl (v * s)) none (dg (nl (v * s)) (v * s)), []) := c_ref01_by (by omega) (nl_lt v) (by omega) hsB
  have erm : v * s % (w * s) / s = v % w := by rw [Nat.mul_mod_mul_right, Nat.mul_div_cancel _ hs0]
  have et10 : IntKind.u64.wrap ((dgt (w * s) (nl w - 1) : Nat) : Int) = ((dgt (w * s) (nl w - 1) : Nat) : Int) := by
    have := dgt_lt (w * s) (nl w - 1)
    exact u64s (by omega)
  obtain ⟨j0, hj0⟩ : ∃ j0, j0 = jI [IntKind.u32.wrap (IntKind.u64.wrap ((1000000000 : Int).tdiv (IntKind.u64.wrap ((IntKind.u64.wrap ((dgt w ((IntKind.i64.wrap (((nl w : Nat) : Int) - (1 : Int))).toNat) : Nat) : Int)) + (1 : Int)))))] := ⟨_, rfl⟩
  have hj00 : j0 0 = ((s : Nat) : Int) := by
    rw [hj0]; show IntKind.u32.wrap (IntKind.u64.wrap ((1000000000 : Int).tdiv (IntKind.u64.wrap ((IntKind.u64.wrap ((dgt w ((IntKind.i64.wrap (((nl w : Nat) : Int) - (1 : Int))).toNat) : Nat) : Int)) + (1 : Int))))) = _
    rw [ewn]; exact esc
  obtain ⟨S, ⟨c11, j, hj, rfl⟩, hl⟩ := loop_to (G := gC (TU mm) fn_ref01_parts 0) (nm := nM fn_ref01_parts 0)
    (fun i S => ∃ (c11 : Option Nat) (j : Nat → Int), j 0 = ((s : Nat) : Int) ∧ S = (L_ref01_parts_0a (nl v) v (nl w) w (nl w) (w * s) (nl (v * s)) (v * s) (nl (v * s / BB ^ (nl (v * s) - i) % (w * s))) c11 (dg (nl (v * s / BB ^ (nl (v * s) - i) % (w * s))) (v * s / BB ^ (nl (v * s) - i) % (w * s))) (dg (nl v + 1) (BB ^ (nl (v * s) - i) * (v * s / BB ^ (nl (v * s) - i) / (w * s)))) ((dgt (w * s) (nl w - 1) : Nat) : Int) (((nl (v * s) - i : Nat) : Int) - 1) j)) (nl (v * s)) FUEL (L_ref01_parts_0a (nl v) v (nl w) w (nl w) (w * s) (nl (v * s)) (v * s) 0 (some 0) ([]) (repCells [uN 0] ((IntKind.i64.wrap (((nl v : Nat) : Int) + (1 : Int))).toNat)) (IntKind.u64.wrap ((dgt (w * s) ((IntKind.i64.wrap (((nl w : Nat) : Int) - (1 : Int))).toNat) : Nat) : Int)) (IntKind.i64.wrap (((nl (v * s) : Nat) : Int) - (1 : Int))) j0) (by
      rintro i S hi ⟨c11, j, hj, rfl⟩
      obtain ⟨p, hp⟩ : ∃ p, p = nl (v * s) - (i + 1) := ⟨_, rfl⟩
      rw [← hp]
      rw [show nl (v * s) - i = p + 1 by omega, show (((p + 1 : Nat) : Int) - 1) = ((p : Nat) : Int) by omega]
      obtain ⟨s', j', g1, g2, g3⟩ := rd_ref01_parts_0a hm (la := nl w) (A := w * s) (lb := nl (v * s)) (Bv := v * s) (V := v * s / BB ^ (p + 1)) (p := p) hA hnw (by omega) hws0 ht (by omega) (nl v) v (nl w) w c11 j (by omega) (by omega) (nl_lt _) rfl
      exact ⟨s', g1, none, j', by rw [g2]; exact hj, g3⟩) ⟨some 0, j0, hj00, by
        have hz : v * s / BB ^ (nl (v * s) - 0) = 0 := Nat.div_eq_of_lt (nl_lt _)
        rw [hz, ewN, ewn, Int.toNat_natCast, rep_dg, et10, i64s (x := ((nl (v * s) : Nat) : Int) - 1) (by omega), Nat.zero_mod, Nat.zero_div, Nat.mul_zero, nl_zero]
        rfl⟩ (by unfold FUEL; omega)
  rw [Nat.sub_self, Nat.pow_zero, Nat.div_one, Nat.one_mul] at hl
  have hloop := hl _ _ (r_ref01_parts_0a_1 hio (nl v) v (nl w) w (nl w) (w * s) (nl (v * s)) (v * s) (nl (v * s % (w * s))) c11 (dg (nl (v * s % (w * s))) (v * s % (w * s))) (dg (nl v + 1) (v * s / (w * s))) ((dgt (w * s) (nl w - 1) : Nat) : Int) (((0 : Nat) : Int) - 1) j (sc_b (decide_eq_false (by omega)))) (by simp)
  have hrl : nl (v * s % (w * s)) < 40000 := by
    have := nl_mono (Nat.mod_le (v * s) (w * s))
    omega
  have hcarry := carry_ref01_parts_2a (mm := mm) (r := v * s % (w * s)) hs0 (by omega) (by omega) (nl v) v (nl w) w (nl w) (w * s) (nl (v * s)) (v * s) c11 (dg (nl v + 1) (v * s / (w * s))) ((dgt (w * s) (nl w - 1) : Nat) : Int) (((0 : Nat) : Int) - 1) j hj (dg_nn _ _)
  subst hj0
  exact p_ref01_parts_lb0 hio (nl v) v (nl w) w (nl w) (w * s) (nl (v * s)) (v * s) (nl (v * s % (w * s))) (nl (v / w)) (v / w) (nl (v % w)) (v % w) c11 (dg (nl (v * s % (w * s))) (v * s % (w * s))) (dg (nl v + 1) (v * s / (w * s))) (dg (nl (v * s % (w * s))) ((v * s % (w * s)) / s)) ((dgt (w * s) (nl w - 1) : Nat) : Int) (((0 : Nat) : Int) - 1) (((v * s % (w * s)) % s : Nat) : Int) (((0 : Nat) : Int) - 1) j _ (sc_b (decide_eq_false (by omega))) ⟨by rw [ewI]; omega, by rw [ewI]; omega, dg_ne (by omega)⟩ (by rw [ewn]; exact dg_at (by omega)) (by rw [ewn, esc1]; omega) (by rw [ewn, esc]; exact by_w) ⟨by rw [ewI]; omega, by rw [ewI]; omega, dg_ne (by omega)⟩ (by rw [ewn]; exact dg_at (by omega)) (by rw [ewN]; omega) (by rw [ewn, esc]; exact by_v) (by rw [ewN]; omega) (by omega) hloop (by omega) hcarry (dg_nn _ _) ⟨rfl, by decide, by rw [dg_len]; omega, by rw [Nat.mul_one, dg_take (by omega)]; exact dg_pl (by omega)⟩ (by rw [Nat.mul_one, dg_take (by omega), Nat.mul_div_mul_right _ _ hs0]; exact c_ref01_trim (by omega) (Nat.lt_of_le_of_lt (Nat.le_trans (Nat.div_le_self _ _) (Nat.le_mul_of_pos_right _ hs0)) (nl_lt _)) (by omega)) ⟨rfl, by decide, by rw [dg_len]; omega, by rw [Nat.mul_one, dg_take (Nat.le_refl _)]; exact dg_pl (by omega)⟩ (by rw [Nat.mul_one, dg_take (Nat.le_refl _), erm]; exact c_ref01_trim (by omega) (by rw [← erm]; exact Nat.lt_of_le_of_lt (Nat.div_le_self _ _) (nl_lt _)) (by omega))

theorem parts_z {mm : Nat} (hm : 2 < mm) {w : Nat} (hw0 : 0 < w) (hw : nl w < 30000) (hl2 : 2 < nl w) :
    evalBody PG (TU mm) FUEL (ioF fn_ref01_parts) fn_ref01_parts [.fs (nl 0) none (dg (nl 0) 0), .fs (nl w) none (dg (nl w) w)] = some (.tup [.fs (nl 0) none (dg (nl 0) 0), .fs (nl 0) none (dg (nl 0) 0)], []) := by
  have hio := TU_io mm
  have eB : BB = 1000000000 := rfl
  obtain ⟨s, hs, hs0, hsB, hA, hA1, ht⟩ := scale_facts hw0
  have hnw := nl_pos hw0
  have hnA : nl (w * s) = nl w := by
    have h1 := nl_le hA
    have h2 := nl_ge hA1
    omega
  have d1 := dgt_lt w (nl w - 1)
  have hz0 : nl 0 = 0 := nl_zero
  have hlb : nl (0 * s) = 0 := by rw [Nat.zero_mul, nl_zero]
  have ewI : IntKind.i64.wrap (((nl w : Nat) : Int) - (1 : Int)) = ((nl w - 1 : Nat) : Int) := by rw [i64s (by omega)]; omega
  have ewn : (IntKind.i64.wrap (((nl w : Nat) : Int) - (1 : Int))).toNat = nl w - 1 := by rw [ewI, Int.toNat_natCast]
  have ewN : IntKind.i64.wrap (((nl 0 : Nat) : Int) + (1 : Int)) = ((nl 0 + 1 : Nat) : Int) := by rw [i64s (by omega)]; omega
  have esc1 : IntKind.u64.wrap ((IntKind.u64.wrap ((dgt w (nl w - 1) : Nat) : Int)) + (1 : Int)) = ((dgt w (nl w - 1) + 1 : Nat) : Int) := by
    rw [u64s (x := ((dgt w (nl w - 1) : Nat) : Int)) (by omega), u64s (by omega)]; omega
  have esc : IntKind.u32.wrap (IntKind.u64.wrap ((1000000000 : Int).tdiv (IntKind.u64.wrap ((IntKind.u64.wrap ((dgt w (nl w - 1) : Nat) : Int)) + (1 : Int))))) = ((s : Nat) : Int) := by
    rw [esc1, Int.tdiv_eq_ediv_of_nonneg (by omega)]
    have : (1000000000 : Int) / ((dgt w (nl w - 1) + 1 : Nat) : Int) = ((s : Nat) : Int) := by rw [hs, Int.natCast_ediv]; rfl
    rw [this, u64s (by omega), u32s (by omega)]
  have by_w : (TU mm).call fn_ref01_by [.fs (nl w) none (dg (nl w) w), uN (s : Nat)] = some (.fs (nl w) none (dg (nl w) (w * s)), []) := by
    have := c_ref01_by (q := mm) (c := none) (by omega) (nl_lt w) (by omega) hsB
    rw [hnA] at this
    exact this
  have by_v : (TU mm).call fn_ref01_by [.fs (nl 0) none (dg (nl 0) 0), uN (s : Nat)] = some (.fs (nl (0 * s)) none (dg (nl (0 * s)) (0 * s)), []) := c_ref01_by (by omega) (nl_lt 0) (by omega) hsB
  have hloop : ∀ (t : Int) (j : Nat → Int), ¬ t ≥ 0 → lp (TU mm) fn_ref01_parts 0 (L_ref01_parts_0z (nl 0) 0 (nl w) w (nl w) (w * s) (nl (0 * s)) (0 * s) t j) (.exit 0) (X_ref01_parts_0z_0 (nl 0) 0 (nl w) w (nl w) (w * s) (nl (0 * s)) (0 * s) t j) := fun t j h => by
    obtain ⟨S, rfl, hl⟩ := loop_to (G := gC (TU mm) fn_ref01_parts 0) (nm := nM fn_ref01_parts 0) (fun _ S => S = L_ref01_parts_0z (nl 0) 0 (nl w) w (nl w) (w * s) (nl (0 * s)) (0 * s) t j) 0 FUEL _ (by intro k s hk; omega) rfl (by unfold FUEL; omega)
    exact hl _ _ (r_ref01_parts_0z_0 hio _ _ _ _ _ _ _ _ _ _ (sc_b (decide_eq_false h))) (by simp)
  have hcarry : ∀ (t u : Int) (j h : Nat → Int), ¬ u ≥ 0 → lp (TU mm) fn_ref01_parts 2 (L_ref01_parts_2z0 (nl 0) 0 (nl w) w (nl w) (w * s) (nl (0 * s)) (0 * s) t u j h) (.exit 4) (X_ref01_parts_2z0_0 (nl 0) 0 (nl w) w (nl w) (w * s) (nl (0 * s)) (0 * s) t u j h) := fun t u j h hu => by
    obtain ⟨S, rfl, hl⟩ := loop_to (G := gC (TU mm) fn_ref01_parts 2) (nm := nM fn_ref01_parts 2) (fun _ S => S = L_ref01_parts_2z0 (nl 0) 0 (nl w) w (nl w) (w * s) (nl (0 * s)) (0 * s) t u j h) 0 FUEL _ (by intro k s hk; omega) rfl (by unfold FUEL; omega)
    exact hl _ _ (r_ref01_parts_2z0_0 hio _ _ _ _ _ _ _ _ _ _ _ _ (sc_b (decide_eq_false hu))) (by simp)
  have tr : ∀ c, (TU mm).call fn_ref01_trim [.fs 0 c []] = some (.fs (nl 0) none (dg (nl 0) 0), []) := fun c => c_ref01_trim (v := 0) (k := 0) (by omega) (by decide) (by omega)
  exact p_ref01_parts_lz0 hio (nl 0) 0 (nl w) w (nl w) (w * s) (nl (0 * s)) (0 * s) (nl 0) 0 (nl 0) 0 _ _ _ _ (sc_b (decide_eq_true (by omega))) (sc_b (decide_eq_false (by omega))) ⟨by rw [ewI]; omega, by rw [ewI]; omega, dg_ne (by omega)⟩ (by rw [ewn]; exact dg_at (by omega)) (by rw [ewn, esc1]; omega) (by rw [ewn, esc]; exact by_w)
    ⟨by rw [ewI]; omega, by rw [ewI]; omega, dg_ne (by omega)⟩ (by rw [ewn]; exact dg_at (by omega)) (by rw [ewN]; omega) (by rw [ewn, esc]; exact by_v) (by rw [ewN]; omega) hlb (hloop _ _ (by rw [hlb]; decide)) (by omega) (hcarry _ _ _ _ (by decide)) (tr _) ⟨rfl, by decide, by decide, Leaves.nil.plain (by decide)⟩ (tr _)
theorem c_ref01_parts {q : Nat} (hq : 3 < q) {v w : Nat} {c d : Option Nat} (hw0 : 0 < w) (hv : nl v < 30000) (hw : nl w < 30000) :
    (TU q).call fn_ref01_parts [.fs (nl v) c (dg (nl v) v), .fs (nl w) d (dg (nl w) w)] = some (.tup [.fs (nl (v / w)) none (dg (nl (v / w)) (v / w)), .fs (nl (v % w)) none (dg (nl (v % w)) (v % w))], []) := by
  have hio := TU_io (q - 1)
  refine TU_call (by omega) rfl rfl (args' := [.fs (nl v) none (dg (nl v) v), .fs (nl w) none (dg (nl w) w)]) (by simp [uncaps, uncap]) (r := .tup [.fs (nl (v / w)) none (dg (nl (v / w)) (v / w)), .fs (nl (v % w)) none (dg (nl (v % w)) (v % w))]) ?_ (by simp [uncap, uncaps])
  by_cases h2 : nl v ≤ 2
  · by_cases l2 : nl w ≤ 2
    · have hv2 : v < 1000000000000000000 := Nat.lt_of_lt_of_le (nl_lt v) (Nat.le_trans (Nat.pow_le_pow_right BB_pos h2) (by decide))
      have hw2 : w < 1000000000000000000 := Nat.lt_of_lt_of_le (nl_lt w) (Nat.le_trans (Nat.pow_le_pow_right BB_pos l2) (by decide))
      have hq1 : v / w ≤ v := Nat.div_le_self _ _
      have hq2 : v % w ≤ v := Nat.mod_le _ _
      have e1 : IntKind.u64.wrap (((v : Nat) : Int).tdiv ((w : Nat) : Int)) = ((v / w : Nat) : Int) := by
        rw [Int.tdiv_eq_ediv_of_nonneg (by omega), ← Int.natCast_ediv]
        generalize v / w = y at hq1 ⊢
        exact u64s (by omega)
      have e2 : (((v : Nat) : Int).tmod ((w : Nat) : Int)) = ((v % w : Nat) : Int) := by rw [Int.tmod_eq_emod_of_nonneg (by omega), ← Int.natCast_emod]
      refine p_ref01_parts_s hio (nl v) v (nl w) w _ _ _ _ ((v : Nat) : Int) ((w : Nat) : Int) (sc_b (decide_eq_true (by omega))) (sc_b (decide_eq_true (by omega))) (by exact c_ref01_short (by omega) (nl_lt v) h2) (by exact c_ref01_short (by omega) (nl_lt w) l2) (by omega) ?_ (by omega) ?_
      · rw [e1]
        exact c_ref01_limbs (by omega) (by generalize v / w = y at hq1 ⊢; omega)
      · rw [e2]
        exact c_ref01_limbs (by omega) (by generalize v % w = y at hq2 ⊢; omega)
    · by_cases hv0 : v = 0
      · subst hv0
        have := parts_z (mm := q - 1) (by omega) hw0 hw (by omega)
        rw [Nat.zero_div, Nat.zero_mod]
        exact this
      · exact parts_a (by omega) (by omega) hw0 hv hw h2 (by omega)
  · have hv0 : 0 < v := by
      apply Nat.pos_of_ne_zero
      intro h; rw [h, nl_zero] at h2; omega
    exact parts_b (by omega) hv0 hw0 hv hw (by omega)
end Go.Proofs.YtkeelkeoijemiaaGreat.Ev

namespace Go.Proofs.YtkeelkeoijemiaaGreat.Ev
open Go
set_option linter.unusedVariables false
set_option linter.unusedSimpArgs false
set_option maxRecDepth 100000

theorem p_ref01_DivMod_1 {T : Tab} (hio : TO T) (a b : Int) (h0 : (bN (((nz b : Nat) : Int) == (0 : Int)) : MV) = .sc (.bool false)) (h1 : T.call fn_ref01_parts [MV.fs (nz a) none (cz a), MV.fs (nz b) none (cz b)] = some (MV.tup [MV.fs (nl (a.natAbs / b.natAbs)) none (dg (nl (a.natAbs / b.natAbs)) (a.natAbs / b.natAbs)), MV.fs (nl (a.natAbs % b.natAbs)) none (dg (nl (a.natAbs % b.natAbs)) (a.natAbs % b.natAbs))], [])) (h2 : T.call fn_ref01_signed [bN (!((ng a) == (ng b))), MV.fs (nl (a.natAbs / b.natAbs)) none (dg (nl (a.natAbs / b.natAbs)) (a.natAbs / b.natAbs))] = some (iM (sgz (!((ng a) == (ng b))) (a.natAbs / b.natAbs)), [])) (h3 : T.call fn_ref01_signed [bN (ng a), MV.fs (nl (a.natAbs % b.natAbs)) none (dg (nl (a.natAbs % b.natAbs)) (a.natAbs % b.natAbs))] = some (iM (sgz (ng a) (a.natAbs % b.natAbs)), [])) (h4 : (bN (decide (((nl (a.natAbs % b.natAbs) : Nat) : Int) > (0 : Int))) : MV) = .sc (.bool true)) (h5 : (bN (!((ng a) == (ng b))) : MV) = .sc (.bool true)) (h6 : T.call fn_ref01_FromInt64 [iN 1] = some (iM 1, [])) (h7 : T.call fn_ref01_Sub [MV.agg [bN (ng (sgz (!((ng a) == (ng b))) (a.natAbs / b.natAbs))), MV.fs (nz (sgz (!((ng a) == (ng b))) (a.natAbs / b.natAbs))) none (cz (sgz (!((ng a) == (ng b))) (a.natAbs / b.natAbs)))], iM 1] = some (iM ((sgz (!((ng a) == (ng b))) (a.natAbs / b.natAbs)) - 1), [])) (h8 : T.call fn_ref01_Add [MV.agg [bN (ng (sgz (ng a) (a.natAbs % b.natAbs))), MV.fs (nz (sgz (ng a) (a.natAbs % b.natAbs))) none (cz (sgz (ng a) (a.natAbs % b.natAbs)))], MV.agg [bN (ng b), MV.fs (nz b) none (cz b)]] = some (iM ((sgz (ng a) (a.natAbs % b.natAbs)) + b), [])) : evalBody PG T FUEL (ioF fn_ref01_DivMod) fn_ref01_DivMod [iM a, iM b] = some (MV.tup [MV.agg [bN (ng ((sgz (!((ng a) == (ng b))) (a.natAbs / b.natAbs)) - 1)), MV.fs (nz ((sgz (!((ng a) == (ng b))) (a.natAbs / b.natAbs)) - 1)) none (cz ((sgz (!((ng a) == (ng b))) (a.natAbs / b.natAbs)) - 1))], MV.agg [bN (ng ((sgz (ng a) (a.natAbs % b.natAbs)) + b)), MV.fs (nz ((sgz (ng a) (a.natAbs % b.natAbs)) + b)) none (cz ((sgz (ng a) (a.natAbs % b.natAbs)) + b))], iN 0], []) :=
  xBody_io (hard := false) hio (orc := [.br false, .call (MV.tup [MV.fs (nl (a.natAbs / b.natAbs)) none (dg (nl (a.natAbs / b.natAbs)) (a.natAbs / b.natAbs)), MV.fs (nl (a.natAbs % b.natAbs)) none (dg (nl (a.natAbs % b.natAbs)) (a.natAbs % b.natAbs))]) [], .call (iM (sgz (!((ng a) == (ng b))) (a.natAbs / b.natAbs))) [], .call (iM (sgz (ng a) (a.natAbs % b.natAbs))) [], .br true, .br true, .call (iM 1) [], .call (iM ((sgz (!((ng a) == (ng b))) (a.natAbs / b.natAbs)) - 1)) [], .call (iM ((sgz (ng a) (a.natAbs % b.natAbs)) + b)) []]) (by kernel_rfl) (owc h0 (owc h1 (owc h2 (owc h3 (owc h4 (owc h5 (owc h6 (owc h7 (ow1 h8)))))))))

theorem p_ref01_DivMod_2 {T : Tab} (hio : TO T) (a b : Int) (h0 : (bN (((nz b : Nat) : Int) == (0 : Int)) : MV) = .sc (.bool false)) (h1 : T.call fn_ref01_parts [MV.fs (nz a) none (cz a), MV.fs (nz b) none (cz b)] = some (MV.tup [MV.fs (nl (a.natAbs / b.natAbs)) none (dg (nl (a.natAbs / b.natAbs)) (a.natAbs / b.natAbs)), MV.fs (nl (a.natAbs % b.natAbs)) none (dg (nl (a.natAbs % b.natAbs)) (a.natAbs % b.natAbs))], [])) (h2 : T.call fn_ref01_signed [bN (!((ng a) == (ng b))), MV.fs (nl (a.natAbs / b.natAbs)) none (dg (nl (a.natAbs / b.natAbs)) (a.natAbs / b.natAbs))] = some (iM (sgz (!((ng a) == (ng b))) (a.natAbs / b.natAbs)), [])) (h3 : T.call fn_ref01_signed [bN (ng a), MV.fs (nl (a.natAbs % b.natAbs)) none (dg (nl (a.natAbs % b.natAbs)) (a.natAbs % b.natAbs))] = some (iM (sgz (ng a) (a.natAbs % b.natAbs)), [])) (h4 : (bN (decide (((nl (a.natAbs % b.natAbs) : Nat) : Int) > (0 : Int))) : MV) = .sc (.bool false)) : evalBody PG T FUEL (ioF fn_ref01_DivMod) fn_ref01_DivMod [iM a, iM b] = some (MV.tup [MV.agg [bN (ng (sgz (!((ng a) == (ng b))) (a.natAbs / b.natAbs))), MV.fs (nz (sgz (!((ng a) == (ng b))) (a.natAbs / b.natAbs))) none (cz (sgz (!((ng a) == (ng b))) (a.natAbs / b.natAbs)))], MV.agg [bN (ng (sgz (ng a) (a.natAbs % b.natAbs))), MV.fs (nz (sgz (ng a) (a.natAbs % b.natAbs))) none (cz (sgz (ng a) (a.natAbs % b.natAbs)))], iN 0], []) :=
  xBody_io (hard := false) hio (orc := [.br false, .call (MV.tup [MV.fs (nl (a.natAbs / b.natAbs)) none (dg (nl (a.natAbs / b.natAbs)) (a.natAbs / b.natAbs)), MV.fs (nl (a.natAbs % b.natAbs)) none (dg (nl (a.natAbs % b.natAbs)) (a.natAbs % b.natAbs))]) [], .call (iM (sgz (!((ng a) == (ng b))) (a.natAbs / b.natAbs))) [], .call (iM (sgz (ng a) (a.natAbs % b.natAbs))) [], .br false, .auto]) (by kernel_rfl) (owc h0 (owc h1 (owc h2 (owc h3 (ow1 h4)))))

theorem p_ref01_DivMod_3 {T : Tab} (hio : TO T) (a b : Int) (h0 : (bN (((nz b : Nat) : Int) == (0 : Int)) : MV) = .sc (.bool false)) (h1 : T.call fn_ref01_parts [MV.fs (nz a) none (cz a), MV.fs (nz b) none (cz b)] = some (MV.tup [MV.fs (nl (a.natAbs / b.natAbs)) none (dg (nl (a.natAbs / b.natAbs)) (a.natAbs / b.natAbs)), MV.fs (nl (a.natAbs % b.natAbs)) none (dg (nl (a.natAbs % b.natAbs)) (a.natAbs % b.natAbs))], [])) (h2 : T.call fn_ref01_signed [bN (!((ng a) == (ng b))), MV.fs (nl (a.natAbs / b.natAbs)) none (dg (nl (a.natAbs / b.natAbs)) (a.natAbs / b.natAbs))] = some (iM (sgz (!((ng a) == (ng b))) (a.natAbs / b.natAbs)), [])) (h3 : T.call fn_ref01_signed [bN (ng a), MV.fs (nl (a.natAbs % b.natAbs)) none (dg (nl (a.natAbs % b.natAbs)) (a.natAbs % b.natAbs))] = some (iM (sgz (ng a) (a.natAbs % b.natAbs)), [])) (h4 : (bN (decide (((nl (a.natAbs % b.natAbs) : Nat) : Int) > (0 : Int))) : MV) = .sc (.bool true)) (h5 : (bN (!((ng a) == (ng b))) : MV) = .sc (.bool false)) : evalBody PG T FUEL (ioF fn_ref01_DivMod) fn_ref01_DivMod [iM a, iM b] = some (MV.tup [MV.agg [bN (ng (sgz (!((ng a) == (ng b))) (a.natAbs / b.natAbs))), MV.fs (nz (sgz (!((ng a) == (ng b))) (a.natAbs / b.natAbs))) none (cz (sgz (!((ng a) == (ng b))) (a.natAbs / b.natAbs)))], MV.agg [bN (ng (sgz (ng a) (a.natAbs % b.natAbs))), MV.fs (nz (sgz (ng a) (a.natAbs % b.natAbs))) none (cz (sgz (ng a) (a.natAbs % b.natAbs)))], iN 0], []) :=
  xBody_io (hard := false) hio (orc := [.br false, .call (MV.tup [MV.fs (nl (a.natAbs / b.natAbs)) none (dg (nl (a.natAbs / b.natAbs)) (a.natAbs / b.natAbs)), MV.fs (nl (a.natAbs % b.natAbs)) none (dg (nl (a.natAbs % b.natAbs)) (a.natAbs % b.natAbs))]) [], .call (iM (sgz (!((ng a) == (ng b))) (a.natAbs / b.natAbs))) [], .call (iM (sgz (ng a) (a.natAbs % b.natAbs))) [], .br true, .br false]) (by kernel_rfl) (owc h0 (owc h1 (owc h2 (owc h3 (owc h4 (ow1 h5))))))

def L_ref01_GCD_0 (a b : Int) (n5 n6 : Nat) (c5 c6 : Option Nat) (cs5 cs6 : List MV) : St := { sl := [iM a, iM b, MV.ptr 2 1 0, MV.ptr 3 1 0, MV.ptr 4 1 0, MV.fs n5 c5 cs5, MV.fs n6 c6 cs6, MV.any, MV.any, undefM, undefM] ++ rp 43 MV.any, en := [none, none, some ⟨1, [bN (ng a), MV.fs (nz a) none (cz a)], false⟩, some ⟨1, [bN (ng b), MV.fs (nz b) none (cz b)], false⟩, some ⟨1, [bN false, MV.fs 0 (some 0) []], false⟩] ++ rp 49 none, ck := 2 }

theorem r_ref01_GCD_0_0 {T : Tab} (hio : TO T) (a b : Int) (n5 n6 nq vq nr vr : Nat) (c5 c6 : Option Nat) (cs5 cs6 : List MV) (h0 : (bN (decide ((n6 : Int) > (0 : Int))) : MV) = .sc (.bool true)) (h1 : (bN (decide ((n5 : Int) > (2 : Int))) : MV) = .sc (.bool true)) (h2 : T.call fn_ref01_parts [MV.fs n5 c5 cs5, MV.fs n6 c6 cs6] = some (MV.tup [MV.fs nq none (dg nq vq), MV.fs nr none (dg nr vr)], []))  : ∃ s_, gC T fn_ref01_GCD 0 (L_ref01_GCD_0 a b n5 n6 c5 c6 cs5 cs6) = some (.normal, s_) ∧ nM fn_ref01_GCD 0 s_ = (L_ref01_GCD_0 a b n6 nr c6 none cs6 (dg nr vr)) :=
  rd_ok hio (h := true) (orc := [.br true, .br true, .auto, .call (MV.tup [MV.fs nq none (dg nq vq), MV.fs nr none (dg nr vr)]) []]) (by kernel_rfl) (owc h0 (owc h1 (ow1 h2))) (by kernel_rfl)

noncomputable def X_ref01_GCD_0_1 (a b : Int) (n5 n6 : Nat) (c5 c6 : Option Nat) (cs5 cs6 : List MV) : St := xr true fn_ref01_GCD 0 (L_ref01_GCD_0 a b n5 n6 c5 c6 cs5 cs6) [.br false, .auto]

theorem r_ref01_GCD_0_1 {T : Tab} (hio : TO T) (a b : Int) (n5 n6 : Nat) (c5 c6 : Option Nat) (cs5 cs6 : List MV) (h0 : (bN (decide ((n6 : Int) > (0 : Int))) : MV) = .sc (.bool false)) : gC T fn_ref01_GCD 0 (L_ref01_GCD_0 a b n5 n6 c5 c6 cs5 cs6) = some (.exit 0, (X_ref01_GCD_0_1 a b n5 n6 c5 c6 cs5 cs6)) :=
  ex_ok hio (h := true) (orc := [.br false, .auto]) (by kernel_rfl) (ow1 h0)

theorem r_ref01_GCD_0_2 {T : Tab} (hio : TO T) (a b : Int) (n5 n6 nq vq nr vr : Nat) (c5 c6 : Option Nat) (cs5 cs6 : List MV) (h0 : (bN (decide ((n6 : Int) > (0 : Int))) : MV) = .sc (.bool true)) (h1 : (bN (decide ((n5 : Int) > (2 : Int))) : MV) = .sc (.bool false)) (h2 : (bN (decide ((n6 : Int) > (2 : Int))) : MV) = .sc (.bool true)) (h3 : T.call fn_ref01_parts [MV.fs n5 c5 cs5, MV.fs n6 c6 cs6] = some (MV.tup [MV.fs nq none (dg nq vq), MV.fs nr none (dg nr vr)], []))  : ∃ s_, gC T fn_ref01_GCD 0 (L_ref01_GCD_0 a b n5 n6 c5 c6 cs5 cs6) = some (.normal, s_) ∧ nM fn_ref01_GCD 0 s_ = (L_ref01_GCD_0 a b n6 nr c6 none cs6 (dg nr vr)) :=
  rd_ok hio (h := true) (orc := [.br true, .br false, .br true, .call (MV.tup [MV.fs nq none (dg nq vq), MV.fs nr none (dg nr vr)]) []]) (by kernel_rfl) (owc h0 (owc h1 (owc h2 (ow1 h3)))) (by kernel_rfl)

noncomputable def X_ref01_GCD_0_3 (a b : Int) (n5 n6 : Nat) (c5 c6 : Option Nat) (cs5 cs6 : List MV) : St := xr true fn_ref01_GCD 0 (L_ref01_GCD_0 a b n5 n6 c5 c6 cs5 cs6) [.br true, .br false, .br false]

theorem r_ref01_GCD_0_3 {T : Tab} (hio : TO T) (a b : Int) (n5 n6 : Nat) (c5 c6 : Option Nat) (cs5 cs6 : List MV) (h0 : (bN (decide ((n6 : Int) > (0 : Int))) : MV) = .sc (.bool true)) (h1 : (bN (decide ((n5 : Int) > (2 : Int))) : MV) = .sc (.bool false)) (h2 : (bN (decide ((n6 : Int) > (2 : Int))) : MV) = .sc (.bool false)) : gC T fn_ref01_GCD 0 (L_ref01_GCD_0 a b n5 n6 c5 c6 cs5 cs6) = some (.exit 0, (X_ref01_GCD_0_3 a b n5 n6 c5 c6 cs5 cs6)) :=
  ex_ok hio (h := true) (orc := [.br true, .br false, .br false]) (by kernel_rfl) (owc h0 (owc h1 (ow1 h2)))

theorem p_ref01_GCD_e0a {T : Tab} (hio : TO T) (a b zr : Int) (n5 n6 : Nat) (c5 c6 : Option Nat) (cs5 cs6 : List MV) (h0 : lp T fn_ref01_GCD 0 (L_ref01_GCD_0 a b (nz a) (nz b) none none (cz a) (cz b)) (.exit 0) (X_ref01_GCD_0_1 a b n5 n6 c5 c6 cs5 cs6)) (h1 : (bN ((n6 : Int) == (0 : Int)) : MV) = .sc (.bool true)) (h2 : T.call fn_ref01_signed [bN false, MV.fs n5 c5 cs5] = some (iM zr, [])) (h3 : 1 = 1 ∧ false = false ∧ 2 = 2 ∧ 2 ≤ 2) : evalBody PG T FUEL (ioF fn_ref01_GCD) fn_ref01_GCD [iM a, iM b] = some (MV.agg [bN (ng zr), MV.fs (nz zr) none (cz zr)], []) :=
  xBody_io (hard := true) hio (orc := [.auto, .auto, .loop (.exit 0) (X_ref01_GCD_0_1 a b n5 n6 c5 c6 cs5 cs6), .br true, .call (iM zr) []]) (by kernel_rfl) (owc h0 (owc h1 (owc h2 (ow1 h3))))

def L_ref01_GCD_1e1 (a b sa sb t9h t10h : Int) (n5 n6 : Nat) (c5 c6 : Option Nat) (cs5 cs6 : List MV) : St := { sl := [iM a, iM b, MV.ptr 2 1 0, MV.ptr 3 1 0, MV.ptr 4 1 0, MV.fs n5 c5 cs5, MV.fs n6 c6 cs6, MV.any, MV.any, wN t9h, wN t10h] ++ rp 43 MV.any, en := [none, none, some ⟨1, [bN (ng a), MV.fs (nz a) none (cz a)], false⟩, some ⟨1, [bN (ng b), MV.fs (nz b) none (cz b)], false⟩, some ⟨1, [bN false, MV.fs 0 (some 0) []], false⟩] ++ rp 49 none, ck := 2 }

theorem r_ref01_GCD_1e1_0 {T : Tab} (hio : TO T) (a b sa sb t9h t10h : Int) (n5 n6 : Nat) (c5 c6 : Option Nat) (cs5 cs6 : List MV) (h0 : (bN (decide (t10h > (0 : Int))) : MV) = .sc (.bool true)) (h1 : t10h ≠ 0)  : ∃ s_, gC T fn_ref01_GCD 1 (L_ref01_GCD_1e1 a b sa sb t9h t10h n5 n6 c5 c6 cs5 cs6) = some (.normal, s_) ∧ nM fn_ref01_GCD 1 s_ = (L_ref01_GCD_1e1 a b sa sb t10h (t9h.tmod t10h) n5 n6 c5 c6 cs5 cs6) :=
  rd_ok hio (h := true) (orc := [.br true]) (by kernel_rfl) (owc h0 (ow1 h1)) (by kernel_rfl)

noncomputable def X_ref01_GCD_1e1_1 (a b sa sb t9h t10h : Int) (n5 n6 : Nat) (c5 c6 : Option Nat) (cs5 cs6 : List MV) : St := xr true fn_ref01_GCD 1 (L_ref01_GCD_1e1 a b sa sb t9h t10h n5 n6 c5 c6 cs5 cs6) [.br false]

theorem r_ref01_GCD_1e1_1 {T : Tab} (hio : TO T) (a b sa sb t9h t10h : Int) (n5 n6 : Nat) (c5 c6 : Option Nat) (cs5 cs6 : List MV) (h0 : (bN (decide (t10h > (0 : Int))) : MV) = .sc (.bool false)) : gC T fn_ref01_GCD 1 (L_ref01_GCD_1e1 a b sa sb t9h t10h n5 n6 c5 c6 cs5 cs6) = some (.exit 2, (X_ref01_GCD_1e1_1 a b sa sb t9h t10h n5 n6 c5 c6 cs5 cs6)) :=
  ex_ok hio (h := true) (orc := [.br false]) (by kernel_rfl) (ow1 h0)

theorem p_ref01_GCD_e1b {T : Tab} (hio : TO T) (a b sa sb t9h t10h zr : Int) (n5 n6 ng_ vg : Nat) (c5 c6 : Option Nat) (cs5 cs6 : List MV) (h0 : lp T fn_ref01_GCD 0 (L_ref01_GCD_0 a b (nz a) (nz b) none none (cz a) (cz b)) (.exit 0) (X_ref01_GCD_0_3 a b n5 n6 c5 c6 cs5 cs6)) (h1 : (bN ((n6 : Int) == (0 : Int)) : MV) = .sc (.bool false)) (h2 : T.call fn_ref01_short [MV.fs n5 c5 cs5] = some (wN sa, [])) (h3 : T.call fn_ref01_short [MV.fs n6 c6 cs6] = some (wN sb, [])) (h4 : lp T fn_ref01_GCD 1 (L_ref01_GCD_1e1 a b sa sb sa sb n5 n6 c5 c6 cs5 cs6) (.exit 2) (X_ref01_GCD_1e1_1 a b sa sb t9h t10h n5 n6 c5 c6 cs5 cs6)) (h5 : T.call fn_ref01_limbs [wN t9h] = some (MV.fs ng_ none (dg ng_ vg), [])) (h6 : T.call fn_ref01_signed [bN false, MV.fs ng_ none (dg ng_ vg)] = some (iM zr, [])) (h7 : 1 = 1 ∧ false = false ∧ 2 = 2 ∧ 2 ≤ 2) : evalBody PG T FUEL (ioF fn_ref01_GCD) fn_ref01_GCD [iM a, iM b] = some (MV.agg [bN (ng zr), MV.fs (nz zr) none (cz zr)], []) :=
  xBody_io (hard := true) hio (orc := [.auto, .auto, .loop (.exit 0) (X_ref01_GCD_0_3 a b n5 n6 c5 c6 cs5 cs6), .br false, .call (wN sa) [], .call (wN sb) [], .loop (.exit 2) (X_ref01_GCD_1e1_1 a b sa sb t9h t10h n5 n6 c5 c6 cs5 cs6), .call (MV.fs ng_ none (dg ng_ vg)) [], .call (iM zr) []]) (by kernel_rfl) (owc h0 (owc h1 (owc h2 (owc h3 (owc h4 (owc h5 (owc h6 (ow1 h7))))))))

end Go.Proofs.YtkeelkeoijemiaaGreat.Ev

