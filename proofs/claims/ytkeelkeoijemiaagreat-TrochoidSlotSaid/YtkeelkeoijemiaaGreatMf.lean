/- Reference integers: plus, minus, times. Reference integers, part 3: paths without loops. Reference integers: FromInt64, Sign, Cmp, Add, Neg, Sub, Mul, by. -/
import Derived.Test.YtkeelkeoijemiaaGreatMc
import Derived.Test.YtkeelkeoijemiaaGreatNj
set_option linter.unusedVariables false
set_option linter.unusedSimpArgs false
namespace Go.Proofs.YtkeelkeoijemiaaGreat.Ev
open Go Go.RowKit
set_option linter.unusedVariables false
set_option linter.unusedSimpArgs false

theorem rplus_a {q : Nat} (hq : 0 < q) {v w n m : Nat} (hv : v < BB ^ n) (hw : w < BB ^ m) (hnm : m ≤ n) (hA : n < 99999) :
    evalBody PG (TU q) FUEL (ioF fn_ref01_plus) fn_ref01_plus [.fs n none (dg n v), .fs m none (dg m w)] = some (.fs (nl (v + w)) none (dg (nl (v + w)) (v + w)), []) := by
  have hio := TU_io q
  have eB : BB = 1000000000 := rfl
  have eN : (IntKind.i64.wrap ((n : Int) + (1 : Int))).toNat = n + 1 := by rw [i64s (by omega)]; omega
  have hV : w < BB ^ n := Nat.lt_of_lt_of_le hw (Nat.pow_le_pow_right BB_pos (by omega))
  have top := crr_top hv hV
  have hsum : v + w < BB ^ (n + 1) := by
    have h1 := Nat.mul_le_mul_left (BB ^ n) (show 2 ≤ BB by decide)
    rw [Nat.pow_succ]
    omega
  obtain ⟨S, rfl, hl⟩ := loop_to (G := gC (TU q) fn_ref01_plus 0) (nm := nM fn_ref01_plus 0)
    (fun i S => S = L_ref01_plus_0a n v m w (dg (n + 1) ((v + w) % BB ^ i)) (crr v w i : Nat) (i : Nat)) n FUEL (L_ref01_plus_0a n v m w (repCells [uN 0] ((IntKind.i64.wrap ((n : Int) + (1 : Int))).toNat)) 0 0) (by
      rintro i S hi rfl
      have d1 := dgt_lt v i
      have d2 := dgt_lt w i
      have d3 := dgt_lt (v + w) i
      have d4 := crr_le v w i
      have d5 := crr_step v w i
      have d6 := crr_le v w (i + 1)
      have ew : IntKind.i64.wrap (((i : Nat) : Int) + 1) = ((i + 1 : Nat) : Int) := by rw [i64s (by omega)]; omega
      have hp := put_next (d := v + w) (show i < n + 1 by omega)
      rw [eB] at d1 d2 d3 d5
      obtain ⟨T_, hT⟩ : ∃ T_, T_ = dgt v i + dgt w i + crr v w i := ⟨_, rfl⟩
      have etm : ((T_ : Nat) : Int).tmod (1000000000 : Int) = ((dgt (v + w) i : Nat) : Int) := by
        rw [Int.tmod_eq_emod_of_nonneg (by omega)]; omega
      have etd : IntKind.u32.wrap (((T_ : Nat) : Int).tdiv (1000000000 : Int)) = ((crr v w (i + 1) : Nat) : Int) := by
        rw [Int.tdiv_eq_ediv_of_nonneg (by omega), u32s (by omega)]; omega
      by_cases hlt : i < m
      · have ex : (IntKind.u32.wrap ((IntKind.u32.wrap (((crr v w i : Nat) : Int) + ((dgt v ((i : Nat) : Int).toNat : Nat) : Int))) + ((dgt w ((i : Nat) : Int).toNat : Nat) : Int))) = ((T_ : Nat) : Int) := by rw [Int.toNat_natCast]; rw [u32s (x := ((crr v w i : Nat) : Int) + ((dgt v i : Nat) : Int)) (by omega), u32s (by omega)]; omega
        obtain ⟨s', h1, h2⟩ := r_ref01_plus_0a_0 hio n v m w (dg (n + 1) ((v + w) % BB ^ i)) (crr v w i : Nat) (i : Nat) (sc_b (decide_eq_true (by omega))) (dix (by omega)) (dgi (by omega)) (sc_b (decide_eq_true (by omega))) (dix (by omega)) (dgi (by omega)) (by decide) (by rw [eN]; omega) ⟨rfl, rfl, rfl, by rw [pos0, dg_len]; omega⟩ (by decide)
          (by rw [ex, etm, pos0, hp]; exact dg_nn _ _)
        rw [ex, etm, etd, pos0, hp, ew] at h2
        exact ⟨s', h1, h2⟩
      · have hz : dgt w i = 0 := dgt_high hw (by omega)
        have ex : (IntKind.u32.wrap (((crr v w i : Nat) : Int) + ((dgt v ((i : Nat) : Int).toNat : Nat) : Int))) = ((T_ : Nat) : Int) := by rw [Int.toNat_natCast]; rw [u32s (by omega)]; omega
        obtain ⟨s', h1, h2⟩ := r_ref01_plus_0a_2 hio n v m w (dg (n + 1) ((v + w) % BB ^ i)) (crr v w i : Nat) (i : Nat) (sc_b (decide_eq_true (by omega))) (dix (by omega)) (dgi (by omega)) (sc_b (decide_eq_false (by omega))) (by decide) (by rw [eN]; omega) ⟨rfl, rfl, rfl, by rw [pos0, dg_len]; omega⟩ (by decide)
          (by rw [ex, etm, pos0, hp]; exact dg_nn _ _)
        rw [ex, etm, etd, pos0, hp, ew] at h2
        exact ⟨s', h1, h2⟩) (by rw [eN, rep_dg, Nat.pow_zero, Nat.mod_one, crr_zero]; rfl) (by unfold FUEL; omega)
  have hx := hl _ _ (r_ref01_plus_0a_1 hio n v m w _ _ _ (sc_b (decide_eq_false (by omega)))) (by simp)
  have hp := put_next (d := v + w) (show n < n + 1 by omega)
  have epos : 0 + (n * 1) = n := by omega
  have fin : putCells (dg (n + 1) ((v + w) % BB ^ n)) (0 + (n * 1)) [uN ((crr v w n : Nat) : Int)] = dg (n + 1) (v + w) := by
    rw [epos, top, hp, Nat.mod_eq_of_lt hsum]
  refine p_ref01_plusa_x0_0 hio n v m w _ _ _ _ _ (sc_b (decide_eq_false (by omega))) (by rw [i64s (by omega)]; omega) hx (by rw [eN]; omega) ⟨rfl, rfl, rfl, by rw [dg_len]; omega⟩ ⟨rfl, by decide, by rw [fin, eN, dg_len]; omega, by rw [fin, eN, Nat.mul_one, dg_take (Nat.le_refl _)]; exact dg_pl (by omega)⟩ ?_
  rw [fin, eN, Nat.mul_one, dg_take (Nat.le_refl _)]
  exact c_ref01_trim hq hsum (by omega)

theorem rplus_b {q : Nat} (hq : 0 < q) {v w n m : Nat} (hv : v < BB ^ n) (hw : w < BB ^ m) (hnm : n < m) (hA : m < 99999) :
    evalBody PG (TU q) FUEL (ioF fn_ref01_plus) fn_ref01_plus [.fs n none (dg n v), .fs m none (dg m w)] = some (.fs (nl (v + w)) none (dg (nl (v + w)) (v + w)), []) := by
  have hio := TU_io q
  have eB : BB = 1000000000 := rfl
  have eN : (IntKind.i64.wrap ((m : Int) + (1 : Int))).toNat = m + 1 := by rw [i64s (by omega)]; omega
  have hV : v < BB ^ m := Nat.lt_of_lt_of_le hv (Nat.pow_le_pow_right BB_pos (by omega))
  have top := crr_top hV hw
  have hsum : v + w < BB ^ (m + 1) := by
    have h1 := Nat.mul_le_mul_left (BB ^ m) (show 2 ≤ BB by decide)
    rw [Nat.pow_succ]
    omega
  obtain ⟨S, rfl, hl⟩ := loop_to (G := gC (TU q) fn_ref01_plus 0) (nm := nM fn_ref01_plus 0)
    (fun i S => S = L_ref01_plus_0b n v m w (dg (m + 1) ((v + w) % BB ^ i)) (crr v w i : Nat) (i : Nat)) m FUEL (L_ref01_plus_0b n v m w (repCells [uN 0] ((IntKind.i64.wrap ((m : Int) + (1 : Int))).toNat)) 0 0) (by
      rintro i S hi rfl
      have d1 := dgt_lt v i
      have d2 := dgt_lt w i
      have d3 := dgt_lt (v + w) i
      have d4 := crr_le v w i
      have d5 := crr_step v w i
      have d6 := crr_le v w (i + 1)
      have ew : IntKind.i64.wrap (((i : Nat) : Int) + 1) = ((i + 1 : Nat) : Int) := by rw [i64s (by omega)]; omega
      have hp := put_next (d := v + w) (show i < m + 1 by omega)
      rw [eB] at d1 d2 d3 d5
      obtain ⟨T_, hT⟩ : ∃ T_, T_ = dgt v i + dgt w i + crr v w i := ⟨_, rfl⟩
      have etm : ((T_ : Nat) : Int).tmod (1000000000 : Int) = ((dgt (v + w) i : Nat) : Int) := by
        rw [Int.tmod_eq_emod_of_nonneg (by omega)]; omega
      have etd : IntKind.u32.wrap (((T_ : Nat) : Int).tdiv (1000000000 : Int)) = ((crr v w (i + 1) : Nat) : Int) := by
        rw [Int.tdiv_eq_ediv_of_nonneg (by omega), u32s (by omega)]; omega
      by_cases hlt : i < n
      · have ex : (IntKind.u32.wrap ((IntKind.u32.wrap (((crr v w i : Nat) : Int) + ((dgt w ((i : Nat) : Int).toNat : Nat) : Int))) + ((dgt v ((i : Nat) : Int).toNat : Nat) : Int))) = ((T_ : Nat) : Int) := by rw [Int.toNat_natCast]; rw [u32s (x := ((crr v w i : Nat) : Int) + ((dgt w i : Nat) : Int)) (by omega), u32s (by omega)]; omega
        obtain ⟨s', h1, h2⟩ := r_ref01_plus_0b_0 hio n v m w (dg (m + 1) ((v + w) % BB ^ i)) (crr v w i : Nat) (i : Nat) (sc_b (decide_eq_true (by omega))) (dix (by omega)) (dgi (by omega)) (sc_b (decide_eq_true (by omega))) (dix (by omega)) (dgi (by omega)) (by decide) (by rw [eN]; omega) ⟨rfl, rfl, rfl, by rw [pos0, dg_len]; omega⟩ (by decide)
          (by rw [ex, etm, pos0, hp]; exact dg_nn _ _)
        rw [ex, etm, etd, pos0, hp, ew] at h2
        exact ⟨s', h1, h2⟩
      · have hz : dgt v i = 0 := dgt_high hv (by omega)
        have ex : (IntKind.u32.wrap (((crr v w i : Nat) : Int) + ((dgt w ((i : Nat) : Int).toNat : Nat) : Int))) = ((T_ : Nat) : Int) := by rw [Int.toNat_natCast]; rw [u32s (by omega)]; omega
        obtain ⟨s', h1, h2⟩ := r_ref01_plus_0b_2 hio n v m w (dg (m + 1) ((v + w) % BB ^ i)) (crr v w i : Nat) (i : Nat) (sc_b (decide_eq_true (by omega))) (dix (by omega)) (dgi (by omega)) (sc_b (decide_eq_false (by omega))) (by decide) (by rw [eN]; omega) ⟨rfl, rfl, rfl, by rw [pos0, dg_len]; omega⟩ (by decide)
          (by rw [ex, etm, pos0, hp]; exact dg_nn _ _)
        rw [ex, etm, etd, pos0, hp, ew] at h2
        exact ⟨s', h1, h2⟩) (by rw [eN, rep_dg, Nat.pow_zero, Nat.mod_one, crr_zero]; rfl) (by unfold FUEL; omega)
  have hx := hl _ _ (r_ref01_plus_0b_1 hio n v m w _ _ _ (sc_b (decide_eq_false (by omega)))) (by simp)
  have hp := put_next (d := v + w) (show m < m + 1 by omega)
  have epos : 0 + (m * 1) = m := by omega
  have fin : putCells (dg (m + 1) ((v + w) % BB ^ m)) (0 + (m * 1)) [uN ((crr v w m : Nat) : Int)] = dg (m + 1) (v + w) := by
    rw [epos, top, hp, Nat.mod_eq_of_lt hsum]
  refine p_ref01_plusb_x0_0 hio n v m w _ _ _ _ _ (sc_b (decide_eq_true (by omega))) (by rw [i64s (by omega)]; omega) hx (by rw [eN]; omega) ⟨rfl, rfl, rfl, by rw [dg_len]; omega⟩ ⟨rfl, by decide, by rw [fin, eN, dg_len]; omega, by rw [fin, eN, Nat.mul_one, dg_take (Nat.le_refl _)]; exact dg_pl (by omega)⟩ ?_
  rw [fin, eN, Nat.mul_one, dg_take (Nat.le_refl _)]
  exact c_ref01_trim hq hsum (by omega)

theorem c_ref01_plus {q : Nat} (hq : 1 < q) {v w n m : Nat} {c d : Option Nat} (hv : v < BB ^ n) (hn : n < 99999) (hw : w < BB ^ m) (hm : m < 99999) :
    (TU q).call fn_ref01_plus [.fs n c (dg n v), .fs m d (dg m w)] = some (.fs (nl (v + w)) none (dg (nl (v + w)) (v + w)), []) := by
  refine TU_call (by omega) rfl rfl (args' := [.fs n none (dg n v), .fs m none (dg m w)]) (by simp [uncaps, uncap]) (r := .fs (nl (v + w)) none (dg (nl (v + w)) (v + w))) ?_ (by simp [uncap])
  by_cases h : m ≤ n
  · exact rplus_a (by omega) hv hw h hn
  · exact rplus_b (by omega) hv hw (by omega) hm

theorem c_ref01_minus {q : Nat} (hq : 1 < q) {v w n m : Nat} {c d : Option Nat} (hwv : w ≤ v) (hv : v < BB ^ n) (hn : n < 100000) (hw : w < BB ^ m) (hm : m < 100000) :
    (TU q).call fn_ref01_minus [.fs n c (dg n v), .fs m d (dg m w)] = some (.fs (nl (v - w)) none (dg (nl (v - w)) (v - w)), []) := by
  have hio := TU_io (q - 1)
  obtain ⟨D, hD⟩ : ∃ D, D = v - w := ⟨_, rfl⟩
  have hvD : v = w + D := by omega
  obtain ⟨S, rfl, hl⟩ := loop_to (G := gC (TU (q - 1)) fn_ref01_minus 0) (nm := nM fn_ref01_minus 0)
    (fun i S => S = L_ref01_minus_0 n v m w (dg n (D % BB ^ i)) (crr w D i : Nat) (i : Nat)) n FUEL (L_ref01_minus_0 n v m w (repCells [uN 0] n) 0 0) (by
      rintro i S hi rfl
      have d1 := dgt_lt v i
      have d2 := dgt_lt w i
      have d3 := dgt_lt D i
      have d4 := crr_le w D i
      have d5 := crr_step w D i
      rw [← hvD] at d5
      have d6 := crr_le w D (i + 1)
      have ew : IntKind.i64.wrap (((i : Nat) : Int) + 1) = ((i + 1 : Nat) : Int) := by rw [i64s (by omega)]; omega
      have eB : BB = 1000000000 := rfl
      rw [eB] at d1 d2 d3 d5
      have hp := put_next (d := D) hi
      obtain ⟨T_, hT⟩ : ∃ T_, T_ + dgt w i + crr w D i = dgt v i + 1000000000 := ⟨dgt v i + 1000000000 - crr w D i - dgt w i, by omega⟩
      by_cases hlt : i < m
      · by_cases hge : T_ ≥ 1000000000
        · have ex : (IntKind.u32.wrap ((IntKind.u32.wrap ((IntKind.u32.wrap (((dgt v ((i : Nat) : Int).toNat : Nat) : Int) + (1000000000 : Int))) - ((crr w D i : Nat) : Int))) - ((dgt w ((i : Nat) : Int).toNat : Nat) : Int))) = ((T_ : Nat) : Int) := by rw [Int.toNat_natCast, u32s (x := ((dgt v i : Nat) : Int) + 1000000000) (by omega), u32s (x := ((dgt v i : Nat) : Int) + 1000000000 - ((crr w D i : Nat) : Int)) (by omega), u32s (by omega)]; omega
          have ey : (IntKind.u32.wrap ((IntKind.u32.wrap ((IntKind.u32.wrap ((IntKind.u32.wrap (((dgt v ((i : Nat) : Int).toNat : Nat) : Int) + (1000000000 : Int))) - ((crr w D i : Nat) : Int))) - ((dgt w ((i : Nat) : Int).toNat : Nat) : Int))) - (1000000000 : Int))) = ((dgt D i : Nat) : Int) := by rw [ex, u32s (by omega)]; omega
          have ec : ((crr w D (i + 1) : Nat) : Int) = 0 := by omega
          obtain ⟨s', h1, h2⟩ := r_ref01_minus_0_0 hio n v m w (dg n (D % BB ^ i)) (crr w D i : Nat) (i : Nat) (sc_b (decide_eq_true (by omega))) (dix hi) (dgi hi) (sc_b (decide_eq_true (by omega))) (dix hlt) (dgi hlt) (sc_b (decide_eq_true (by rw [ex]; omega))) (by omega) ⟨rfl, rfl, rfl, by rw [pos0, dg_len]; omega⟩
            (by rw [ey, pos0, hp]; exact dg_nn _ _)
          rw [ey, pos0, hp, ew] at h2
          rw [ec]
          exact ⟨s', h1, h2⟩
        · have ex : (IntKind.u32.wrap ((IntKind.u32.wrap ((IntKind.u32.wrap (((dgt v ((i : Nat) : Int).toNat : Nat) : Int) + (1000000000 : Int))) - ((crr w D i : Nat) : Int))) - ((dgt w ((i : Nat) : Int).toNat : Nat) : Int))) = ((T_ : Nat) : Int) := by rw [Int.toNat_natCast, u32s (x := ((dgt v i : Nat) : Int) + 1000000000) (by omega), u32s (x := ((dgt v i : Nat) : Int) + 1000000000 - ((crr w D i : Nat) : Int)) (by omega), u32s (by omega)]; omega
          have ey : (IntKind.u32.wrap ((IntKind.u32.wrap ((IntKind.u32.wrap (((dgt v ((i : Nat) : Int).toNat : Nat) : Int) + (1000000000 : Int))) - ((crr w D i : Nat) : Int))) - ((dgt w ((i : Nat) : Int).toNat : Nat) : Int))) = ((dgt D i : Nat) : Int) := by rw [ex]; omega
          have ec : ((crr w D (i + 1) : Nat) : Int) = 1 := by omega
          obtain ⟨s', h1, h2⟩ := r_ref01_minus_0_4 hio n v m w (dg n (D % BB ^ i)) (crr w D i : Nat) (i : Nat) (sc_b (decide_eq_true (by omega))) (dix hi) (dgi hi) (sc_b (decide_eq_true (by omega))) (dix hlt) (dgi hlt) (sc_b (decide_eq_false (by rw [ex]; omega))) (by omega) ⟨rfl, rfl, rfl, by rw [pos0, dg_len]; omega⟩
            (by rw [ey, pos0, hp]; exact dg_nn _ _)
          rw [ey, pos0, hp, ew] at h2
          rw [ec]
          exact ⟨s', h1, h2⟩
      · have hz : dgt w i = 0 := dgt_high hw (by omega)
        by_cases hge : T_ ≥ 1000000000
        · have ex : (IntKind.u32.wrap ((IntKind.u32.wrap (((dgt v ((i : Nat) : Int).toNat : Nat) : Int) + (1000000000 : Int))) - ((crr w D i : Nat) : Int))) = ((T_ : Nat) : Int) := by rw [Int.toNat_natCast, u32s (x := ((dgt v i : Nat) : Int) + 1000000000) (by omega), u32s (x := ((dgt v i : Nat) : Int) + 1000000000 - ((crr w D i : Nat) : Int)) (by omega)]; omega
          have ey : (IntKind.u32.wrap ((IntKind.u32.wrap ((IntKind.u32.wrap (((dgt v ((i : Nat) : Int).toNat : Nat) : Int) + (1000000000 : Int))) - ((crr w D i : Nat) : Int))) - (1000000000 : Int))) = ((dgt D i : Nat) : Int) := by rw [ex, u32s (by omega)]; omega
          have ec : ((crr w D (i + 1) : Nat) : Int) = 0 := by omega
          obtain ⟨s', h1, h2⟩ := r_ref01_minus_0_2 hio n v m w (dg n (D % BB ^ i)) (crr w D i : Nat) (i : Nat) (sc_b (decide_eq_true (by omega))) (dix hi) (dgi hi) (sc_b (decide_eq_false (by omega))) (sc_b (decide_eq_true (by rw [ex]; omega))) (by omega) ⟨rfl, rfl, rfl, by rw [pos0, dg_len]; omega⟩
            (by rw [ey, pos0, hp]; exact dg_nn _ _)
          rw [ey, pos0, hp, ew] at h2
          rw [ec]
          exact ⟨s', h1, h2⟩
        · have ex : (IntKind.u32.wrap ((IntKind.u32.wrap (((dgt v ((i : Nat) : Int).toNat : Nat) : Int) + (1000000000 : Int))) - ((crr w D i : Nat) : Int))) = ((T_ : Nat) : Int) := by rw [Int.toNat_natCast, u32s (x := ((dgt v i : Nat) : Int) + 1000000000) (by omega), u32s (x := ((dgt v i : Nat) : Int) + 1000000000 - ((crr w D i : Nat) : Int)) (by omega)]; omega
          have ey : (IntKind.u32.wrap ((IntKind.u32.wrap (((dgt v ((i : Nat) : Int).toNat : Nat) : Int) + (1000000000 : Int))) - ((crr w D i : Nat) : Int))) = ((dgt D i : Nat) : Int) := by rw [ex]; omega
          have ec : ((crr w D (i + 1) : Nat) : Int) = 1 := by omega
          obtain ⟨s', h1, h2⟩ := r_ref01_minus_0_3 hio n v m w (dg n (D % BB ^ i)) (crr w D i : Nat) (i : Nat) (sc_b (decide_eq_true (by omega))) (dix hi) (dgi hi) (sc_b (decide_eq_false (by omega))) (sc_b (decide_eq_false (by rw [ex]; omega))) (by omega) ⟨rfl, rfl, rfl, by rw [pos0, dg_len]; omega⟩
            (by rw [ey, pos0, hp]; exact dg_nn _ _)
          rw [ey, pos0, hp, ew] at h2
          rw [ec]
          exact ⟨s', h1, h2⟩) (by
    rw [rep_dg, Nat.pow_zero, Nat.mod_one, crr_zero]; rfl) (by unfold FUEL; omega)
  have hx := hl _ _ (r_ref01_minus_0_1 hio n v m w _ _ _ (sc_b (decide_eq_false (by omega)))) (by simp)
  have hDn : D < BB ^ n := by omega
  rw [dg_mod] at hx
  rw [← hD]
  refine TU_call (by omega) rfl rfl (args' := [.fs n none (dg n v), .fs m none (dg m w)]) (by simp [uncaps, uncap]) (r := .fs (nl D) none (dg (nl D) D)) ?_ (by simp [uncap])
  refine p_ref01_minus_x0_0 hio n v m w _ _ (dg n D) _ _ ⟨by omega, by omega, by omega, by omega⟩ hx ⟨rfl, by decide, by rw [dg_len]; omega, by rw [Nat.mul_one, dg_take (Nat.le_refl _)]; exact dg_pl (by omega)⟩ ?_
  rw [Nat.mul_one, dg_take (Nat.le_refl _)]
  exact c_ref01_trim (by omega) hDn hn

/-- The inner loop of times: a digit times a number is added. -/
theorem rtimes_in {T : Tab} (hio : TO T) {n v m w i P : Nat} (hnm : n + m < 100000) (hi : i < n) (hP : P < BB ^ (i + m)) :
    ∃ A c, A + BB ^ (i + m) * c = P + BB ^ i * (dgt v i * (w % BB ^ m)) ∧ A < BB ^ (i + m) ∧ c < BB ∧
      lp T fn_ref01_times 1 (L_ref01_times_1 n v m w (dg (n + m) P) (dg (n + m) P) (i : Nat) 0 0)
        (.exit 2) (X_ref01_times_1_1 n v m w (dg (n + m) P) (dg (n + m) A) (i : Nat) (c : Nat) (m : Nat)) := by
  have hPN : P < BB ^ (n + m) := Nat.lt_of_lt_of_le hP (Nat.pow_le_pow_right BB_pos (by omega))
  have eN : (IntKind.i64.wrap ((n : Int) + (m : Int))).toNat = n + m := by rw [i64s (by omega)]; omega
  obtain ⟨S, ⟨A, c, h1, h2, h3, h4, rfl⟩, hl⟩ := loop_to (G := gC T fn_ref01_times 1) (nm := nM fn_ref01_times 1)
    (fun q S => ∃ (A c : Nat), A + BB ^ (i + q) * c = P + BB ^ i * (dgt v i * (w % BB ^ q)) ∧ A / BB ^ (i + q) = P / BB ^ (i + q) ∧ A < BB ^ (n + m) ∧ c < BB ∧
      S = L_ref01_times_1 n v m w (dg (n + m) P) (dg (n + m) A) (i : Nat) (c : Nat) (q : Nat)) m FUEL (L_ref01_times_1 n v m w (dg (n + m) P) (dg (n + m) P) (i : Nat) 0 0) (by
      rintro q S hq ⟨A, c, h1, h2, h3, h4, rfl⟩
      have d1 := dgt_lt v i
      have d2 := dgt_lt w q
      have d3 := dgt_lt A (i + q)
      have eB : BB = 1000000000 := rfl
      have hxy : dgt v i * dgt w q ≤ 999999999 * 999999999 := Nat.mul_le_mul (by omega) (by omega)
      have ewq : IntKind.i64.wrap (((i : Nat) : Int) + ((q : Nat) : Int)) = ((i + q : Nat) : Int) := by rw [i64s (by omega)]; omega
      have ew1 : IntKind.i64.wrap (((q : Nat) : Int) + 1) = ((q + 1 : Nat) : Int) := by rw [i64s (by omega)]; omega
      obtain ⟨t, ht⟩ : ∃ t, t = dgt A (i + q) + dgt v i * dgt w q + c := ⟨_, rfl⟩
      have et : IntKind.u64.wrap ((IntKind.u64.wrap (((c : Nat) : Int) + (IntKind.u64.wrap ((dgt A (i + q) : Nat) : Int)))) + (IntKind.u64.wrap ((IntKind.u64.wrap ((dgt v ((i : Nat) : Int).toNat : Nat) : Int)) * (IntKind.u64.wrap ((dgt w ((q : Nat) : Int).toNat : Nat) : Int))))) = ((t : Nat) : Int) := by
        rw [Int.toNat_natCast, Int.toNat_natCast, u64s (x := ((dgt v i : Nat) : Int)) (by omega), u64s (x := ((dgt w q : Nat) : Int)) (by omega), ← Int.natCast_mul, u64s (x := ((dgt v i * dgt w q : Nat) : Int)) (by omega), u64s (x := ((dgt A (i + q) : Nat) : Int)) (by omega),
          u64s (x := ((c : Nat) : Int) + ((dgt A (i + q) : Nat) : Int)) (by omega), u64s (by omega)]
        omega
      have etm : IntKind.u32.wrap (((t : Nat) : Int).tmod (1000000000 : Int)) = ((t % BB : Nat) : Int) := by
        rw [Int.tmod_eq_emod_of_nonneg (by omega), u32s (by omega), modB]
      have etd : IntKind.u64.wrap (((t : Nat) : Int).tdiv (1000000000 : Int)) = ((t / BB : Nat) : Int) := by
        rw [Int.tdiv_eq_ediv_of_nonneg (by omega), u64s (by omega), divB]
      obtain ⟨A', hp, hA1, hA2, hA3⟩ := put_num (p := i + q) (x := t % BB) (show i + q < n + m by omega) h3 (Nat.mod_lt _ BB_pos)
      have hix : (0 : Int) ≤ (IntKind.i64.wrap (((i : Nat) : Int) + ((q : Nat) : Int))) ∧ (IntKind.i64.wrap (((i : Nat) : Int) + ((q : Nat) : Int))) < (((IntKind.i64.wrap ((n : Int) + (m : Int))).toNat : Nat) : Int) := by rw [ewq, eN]; omega
      have epos : 0 + (((IntKind.i64.wrap (((i : Nat) : Int) + ((q : Nat) : Int))).toNat) * 1) = i + q := by rw [ewq, Int.toNat_natCast]; omega
      obtain ⟨s', e1, e2⟩ := r_ref01_times_1_0 hio n v m w (dg (n + m) P) (dg (n + m) A) (i : Nat) (c : Nat) (q : Nat) ((dgt A (i + q) : Nat) : Int) (sc_b (decide_eq_true (by omega))) hix (by rw [epos]; exact dg_at' (by omega)) (dix hi) (dgi hi) (dix hq) (dgi hq) (by decide) hix ⟨rfl, rfl, rfl, by rw [epos, dg_len]; omega⟩ (by decide)
        (by rw [et, etm, epos, hp]; exact dg_nn _ _)
      rw [et, etm, etd, epos, hp, ew1] at e2
      refine ⟨s', e1, A', t / BB, ?_, ?_, hA3, ?_, e2⟩
      · have hsp := dgt_split w q
        have hdm := Nat.mod_add_div t BB
        have hpq : BB ^ (i + (q + 1)) = BB ^ (i + q) * BB := Nat.pow_succ ..
        have hpi : BB ^ (i + q) = BB ^ i * BB ^ q := Nat.pow_add ..
        rw [hsp, hpq, Nat.mul_assoc]
        have g1 : BB ^ (i + q) * (t % BB) + BB ^ (i + q) * (BB * (t / BB)) = BB ^ (i + q) * t := by rw [← Nat.mul_add, hdm]
        have g2 : BB ^ (i + q) * t = BB ^ (i + q) * dgt A (i + q) + BB ^ (i + q) * (dgt v i * dgt w q) + BB ^ (i + q) * c := by rw [ht, Nat.mul_add, Nat.mul_add]
        have g3 : BB ^ i * (dgt v i * (w % BB ^ q + BB ^ q * dgt w q)) = BB ^ i * (dgt v i * (w % BB ^ q)) + BB ^ (i + q) * (dgt v i * dgt w q) := by
          rw [hpi, Nat.mul_add, Nat.mul_add, show BB ^ i * (dgt v i * (BB ^ q * dgt w q)) = BB ^ i * BB ^ q * (dgt v i * dgt w q) by simp only [Nat.mul_assoc, Nat.mul_left_comm]]
        rw [g3]
        omega
      · rw [← Nat.add_assoc, hA2]; exact div_up h2
      · rw [ht]
        refine (Nat.div_lt_iff_lt_mul BB_pos).2 ?_
        rw [eB]; omega) (by
      refine ⟨P, 0, ?_, rfl, hPN, BB_pos, rfl⟩
      simp [Nat.mod_one]) (by unfold FUEL; omega)
  have hA0 : A / BB ^ (i + m) = 0 := by rw [h2]; exact Nat.div_eq_of_lt hP
  exact ⟨A, c, h1, (Nat.div_eq_zero_iff_lt (BBp _)).1 hA0, h4, hl _ _ (r_ref01_times_1_1 hio n v m w (dg (n + m) P) (dg (n + m) A) (i : Nat) (c : Nat) (m : Nat) (sc_b (decide_eq_false (by omega)))) (by simp)⟩

theorem c_ref01_times {q : Nat} (hq : 1 < q) {v w n m : Nat} {c d : Option Nat} (hv : v < BB ^ n) (hw : w < BB ^ m) (hnm : n + m < 100000) :
    (TU q).call fn_ref01_times [.fs n c (dg n v), .fs m d (dg m w)] = some (.fs (nl (v * w)) none (dg (nl (v * w)) (v * w)), []) := by
  have hio := TU_io (q - 1)
  have eN : IntKind.i64.wrap ((n : Int) + (m : Int)) = ((n + m : Nat) : Int) := by rw [i64s (by omega)]; omega
  obtain ⟨S, rfl, hl⟩ := loop_to (G := gC (TU (q - 1)) fn_ref01_times 0) (nm := nM fn_ref01_times 0)
    (fun i S => S = L_ref01_times_0 n v m w (dg (n + m) (v % BB ^ i * w)) (i : Nat)) n FUEL (L_ref01_times_0 n v m w (repCells [uN 0] ((IntKind.i64.wrap ((n : Int) + (m : Int))).toNat)) 0) (by
      rintro i S hi rfl
      have hP : v % BB ^ i * w < BB ^ (i + m) := by
        rw [Nat.pow_add]
        exact Nat.mul_lt_mul_of_le_of_lt (Nat.le_of_lt (Nat.mod_lt _ (BBp i))) hw (BBp i)
      obtain ⟨A, c, h1, h2, h3, h4⟩ := rtimes_in hio (v := v) (w := w) hnm hi hP
      rw [Nat.mod_eq_of_lt hw] at h1
      have ewm : IntKind.i64.wrap (((i : Nat) : Int) + ((m : Nat) : Int)) = ((i + m : Nat) : Int) := by rw [i64s (by omega)]; omega
      have ew1 : IntKind.i64.wrap (((i : Nat) : Int) + 1) = ((i + 1 : Nat) : Int) := by rw [i64s (by omega)]; omega
      have eB : BB = 1000000000 := rfl
      have ec : IntKind.u32.wrap ((c : Nat) : Int) = ((c : Nat) : Int) := u32s (by omega)
      have hAN : A < BB ^ (n + m) := Nat.lt_of_lt_of_le h2 (Nat.pow_le_pow_right BB_pos (by omega))
      obtain ⟨A', hp, hA1, hA2, hA3⟩ := put_num (p := i + m) (x := c) (show i + m < n + m by omega) hAN h3
      have epos : 0 + (((IntKind.i64.wrap (((i : Nat) : Int) + ((m : Nat) : Int))).toNat) * 1) = i + m := by rw [ewm, Int.toNat_natCast]; omega
      have hix : (0 : Int) ≤ (IntKind.i64.wrap (((i : Nat) : Int) + ((m : Nat) : Int))) ∧ (IntKind.i64.wrap (((i : Nat) : Int) + ((m : Nat) : Int))) < (((IntKind.i64.wrap ((n : Int) + (m : Int))).toNat : Nat) : Int) := by rw [ewm, eN]; omega
      have eA : A' = v % BB ^ (i + 1) * w := by
        have hd : dgt A (i + m) = 0 := dgt_high h2 (Nat.le_refl _)
        rw [hd, Nat.mul_zero, Nat.add_zero, h1] at hA1
        rw [hA1, dgt_split, Nat.add_mul, Nat.mul_assoc]
      obtain ⟨s', e1, e2⟩ := r_ref01_times_0_0 hio n v m w (dg (n + m) (v % BB ^ i * w)) (dg (n + m) A) (i : Nat) (c : Nat) (m : Nat) (sc_b (decide_eq_true (by omega))) h4 (dg_nn _ _) hix ⟨rfl, rfl, rfl, by rw [epos, dg_len]; omega⟩ (by rw [ec, epos, hp]; exact dg_nn _ _)
      rw [ec, epos, hp, ew1, eA] at e2
      exact ⟨s', e1, e2⟩) (by rw [eN, Int.toNat_natCast, rep_dg, Nat.pow_zero, Nat.mod_one, Nat.zero_mul]; rfl) (by unfold FUEL; omega)
  rw [Nat.mod_eq_of_lt hv] at hl
  have hx := hl _ _ (r_ref01_times_0_1 hio n v m w _ _ (sc_b (decide_eq_false (by omega)))) (by simp)
  have hvw : v * w < BB ^ (n + m) := by
    rw [Nat.pow_add]
    exact Nat.mul_lt_mul_of_le_of_lt (Nat.le_of_lt hv) hw (BBp n)
  refine TU_call (by omega) rfl rfl (args' := [.fs n none (dg n v), .fs m none (dg m w)]) (by simp [uncaps, uncap]) (r := .fs (nl (v * w)) none (dg (nl (v * w)) (v * w))) ?_ (by simp [uncap])
  refine p_ref01_times_x0_0 hio n v m w _ _ _ _ (by rw [eN]; omega) hx ⟨rfl, by decide, by rw [eN, Int.toNat_natCast, dg_len]; omega, by rw [eN, Int.toNat_natCast, Nat.mul_one, dg_take (Nat.le_refl _)]; exact dg_pl (by omega)⟩ ?_
  rw [eN, Int.toNat_natCast, Nat.mul_one, dg_take (Nat.le_refl _)]
  exact c_ref01_trim (by omega) hvw (by omega)
end Go.Proofs.YtkeelkeoijemiaaGreat.Ev

namespace Go.Proofs.YtkeelkeoijemiaaGreat.Ev
open Go
set_option linter.unusedVariables false
set_option linter.unusedSimpArgs false
set_option maxRecDepth 100000

theorem p_ref01_FromInt64_0 {T : Tab} (hio : TO T) (x : Int) (h0 : (bN (decide (x < (0 : Int))) : MV) = .sc (.bool true)) (h1 : T.call fn_ref01_limbs [wN (IntKind.u64.wrap ((0 : Int) - (IntKind.u64.wrap x)))] = some (MV.fs (nl ((IntKind.u64.wrap ((0 : Int) - (IntKind.u64.wrap x))).toNat)) none (dg (nl ((IntKind.u64.wrap ((0 : Int) - (IntKind.u64.wrap x))).toNat)) ((IntKind.u64.wrap ((0 : Int) - (IntKind.u64.wrap x))).toNat)), [])) (h2 : T.call fn_ref01_signed [bN true, MV.fs (nl ((IntKind.u64.wrap ((0 : Int) - (IntKind.u64.wrap x))).toNat)) none (dg (nl ((IntKind.u64.wrap ((0 : Int) - (IntKind.u64.wrap x))).toNat)) ((IntKind.u64.wrap ((0 : Int) - (IntKind.u64.wrap x))).toNat))] = some (iM (sgz true ((IntKind.u64.wrap ((0 : Int) - (IntKind.u64.wrap x))).toNat)), [])) : evalBody PG T FUEL (ioF fn_ref01_FromInt64) fn_ref01_FromInt64 [iN x] = some (MV.agg [bN (ng (sgz true ((IntKind.u64.wrap ((0 : Int) - (IntKind.u64.wrap x))).toNat))), MV.fs (nz (sgz true ((IntKind.u64.wrap ((0 : Int) - (IntKind.u64.wrap x))).toNat))) none (cz (sgz true ((IntKind.u64.wrap ((0 : Int) - (IntKind.u64.wrap x))).toNat)))], []) :=
  xBody_io (hard := false) hio (orc := [.br true, .call (MV.fs (nl ((IntKind.u64.wrap ((0 : Int) - (IntKind.u64.wrap x))).toNat)) none (dg (nl ((IntKind.u64.wrap ((0 : Int) - (IntKind.u64.wrap x))).toNat)) ((IntKind.u64.wrap ((0 : Int) - (IntKind.u64.wrap x))).toNat))) [], .call (iM (sgz true ((IntKind.u64.wrap ((0 : Int) - (IntKind.u64.wrap x))).toNat))) []]) (by kernel_rfl) (owc h0 (owc h1 (ow1 h2)))

theorem p_ref01_FromInt64_1 {T : Tab} (hio : TO T) (x : Int) (h0 : (bN (decide (x < (0 : Int))) : MV) = .sc (.bool false)) (h1 : T.call fn_ref01_limbs [wN (IntKind.u64.wrap x)] = some (MV.fs (nl ((IntKind.u64.wrap x).toNat)) none (dg (nl ((IntKind.u64.wrap x).toNat)) ((IntKind.u64.wrap x).toNat)), [])) (h2 : T.call fn_ref01_signed [bN false, MV.fs (nl ((IntKind.u64.wrap x).toNat)) none (dg (nl ((IntKind.u64.wrap x).toNat)) ((IntKind.u64.wrap x).toNat))] = some (iM (sgz false ((IntKind.u64.wrap x).toNat)), [])) : evalBody PG T FUEL (ioF fn_ref01_FromInt64) fn_ref01_FromInt64 [iN x] = some (MV.agg [bN (ng (sgz false ((IntKind.u64.wrap x).toNat))), MV.fs (nz (sgz false ((IntKind.u64.wrap x).toNat))) none (cz (sgz false ((IntKind.u64.wrap x).toNat)))], []) :=
  xBody_io (hard := false) hio (orc := [.br false, .call (MV.fs (nl ((IntKind.u64.wrap x).toNat)) none (dg (nl ((IntKind.u64.wrap x).toNat)) ((IntKind.u64.wrap x).toNat))) [], .call (iM (sgz false ((IntKind.u64.wrap x).toNat))) []]) (by kernel_rfl) (owc h0 (owc h1 (ow1 h2)))

theorem p_ref01_Sign_0 {T : Tab} (hio : TO T) (a : Int) (h0 : (bN (((nz a : Nat) : Int) == (0 : Int)) : MV) = .sc (.bool true)) : evalBody PG T FUEL (ioF fn_ref01_Sign) fn_ref01_Sign [iM a] = some (iN 0, []) :=
  xBody_io (hard := false) hio (orc := [.br true]) (by kernel_rfl) (ow1 h0)

theorem p_ref01_Sign_1 {T : Tab} (hio : TO T) (a : Int) (h0 : (bN (((nz a : Nat) : Int) == (0 : Int)) : MV) = .sc (.bool false)) (h1 : (bN (ng a) : MV) = .sc (.bool true)) : evalBody PG T FUEL (ioF fn_ref01_Sign) fn_ref01_Sign [iM a] = some (iN (-1), []) :=
  xBody_io (hard := false) hio (orc := [.br false, .br true]) (by kernel_rfl) (owc h0 (ow1 h1))

theorem p_ref01_Sign_2 {T : Tab} (hio : TO T) (a : Int) (h0 : (bN (((nz a : Nat) : Int) == (0 : Int)) : MV) = .sc (.bool false)) (h1 : (bN (ng a) : MV) = .sc (.bool false)) : evalBody PG T FUEL (ioF fn_ref01_Sign) fn_ref01_Sign [iM a] = some (iN 1, []) :=
  xBody_io (hard := false) hio (orc := [.br false, .br false]) (by kernel_rfl) (owc h0 (ow1 h1))

theorem p_ref01_Cmp_0 {T : Tab} (hio : TO T) (a b : Int) (h0 : (bN (!((ng a) == (ng b))) : MV) = .sc (.bool true)) (h1 : (bN (ng a) : MV) = .sc (.bool true)) : evalBody PG T FUEL (ioF fn_ref01_Cmp) fn_ref01_Cmp [iM a, iM b] = some (iN (-1), []) :=
  xBody_io (hard := false) hio (orc := [.br true, .br true]) (by kernel_rfl) (owc h0 (ow1 h1))

theorem p_ref01_Cmp_1 {T : Tab} (hio : TO T) (a b : Int) (h0 : (bN (!((ng a) == (ng b))) : MV) = .sc (.bool false)) (h1 : (bN (ng a) : MV) = .sc (.bool true)) (h2 : T.call fn_ref01_compare [MV.fs (nz b) none (cz b), MV.fs (nz a) none (cz a)] = some (iN (cmpN b.natAbs a.natAbs), [])) : evalBody PG T FUEL (ioF fn_ref01_Cmp) fn_ref01_Cmp [iM a, iM b] = some (iN (cmpN b.natAbs a.natAbs), []) :=
  xBody_io (hard := false) hio (orc := [.br false, .br true, .call (iN (cmpN b.natAbs a.natAbs)) []]) (by kernel_rfl) (owc h0 (owc h1 (ow1 h2)))

theorem p_ref01_Cmp_2 {T : Tab} (hio : TO T) (a b : Int) (h0 : (bN (!((ng a) == (ng b))) : MV) = .sc (.bool false)) (h1 : (bN (ng a) : MV) = .sc (.bool false)) (h2 : T.call fn_ref01_compare [MV.fs (nz a) none (cz a), MV.fs (nz b) none (cz b)] = some (iN (cmpN a.natAbs b.natAbs), [])) : evalBody PG T FUEL (ioF fn_ref01_Cmp) fn_ref01_Cmp [iM a, iM b] = some (iN (cmpN a.natAbs b.natAbs), []) :=
  xBody_io (hard := false) hio (orc := [.br false, .br false, .call (iN (cmpN a.natAbs b.natAbs)) []]) (by kernel_rfl) (owc h0 (owc h1 (ow1 h2)))

theorem p_ref01_Cmp_3 {T : Tab} (hio : TO T) (a b : Int) (h0 : (bN (!((ng a) == (ng b))) : MV) = .sc (.bool true)) (h1 : (bN (ng a) : MV) = .sc (.bool false)) : evalBody PG T FUEL (ioF fn_ref01_Cmp) fn_ref01_Cmp [iM a, iM b] = some (iN 1, []) :=
  xBody_io (hard := false) hio (orc := [.br true, .br false]) (by kernel_rfl) (owc h0 (ow1 h1))

theorem p_ref01_Add_0 {T : Tab} (hio : TO T) (a b : Int) (h0 : (bN ((ng a) == (ng b)) : MV) = .sc (.bool true)) (h1 : T.call fn_ref01_plus [MV.fs (nz a) none (cz a), MV.fs (nz b) none (cz b)] = some (MV.fs (nl (a.natAbs + b.natAbs)) none (dg (nl (a.natAbs + b.natAbs)) (a.natAbs + b.natAbs)), [])) (h2 : T.call fn_ref01_signed [bN (ng a), MV.fs (nl (a.natAbs + b.natAbs)) none (dg (nl (a.natAbs + b.natAbs)) (a.natAbs + b.natAbs))] = some (iM (sgz (ng a) (a.natAbs + b.natAbs)), [])) : evalBody PG T FUEL (ioF fn_ref01_Add) fn_ref01_Add [iM a, iM b] = some (MV.agg [bN (ng (sgz (ng a) (a.natAbs + b.natAbs))), MV.fs (nz (sgz (ng a) (a.natAbs + b.natAbs))) none (cz (sgz (ng a) (a.natAbs + b.natAbs)))], []) :=
  xBody_io (hard := false) hio (orc := [.br true, .call (MV.fs (nl (a.natAbs + b.natAbs)) none (dg (nl (a.natAbs + b.natAbs)) (a.natAbs + b.natAbs))) [], .call (iM (sgz (ng a) (a.natAbs + b.natAbs))) []]) (by kernel_rfl) (owc h0 (owc h1 (ow1 h2)))

theorem p_ref01_Add_1 {T : Tab} (hio : TO T) (a b : Int) (h0 : (bN ((ng a) == (ng b)) : MV) = .sc (.bool false)) (h1 : T.call fn_ref01_compare [MV.fs (nz a) none (cz a), MV.fs (nz b) none (cz b)] = some (iN (cmpN a.natAbs b.natAbs), [])) (h2 : (bN (decide ((cmpN a.natAbs b.natAbs) ≥ (0 : Int))) : MV) = .sc (.bool true)) (h3 : T.call fn_ref01_minus [MV.fs (nz a) none (cz a), MV.fs (nz b) none (cz b)] = some (MV.fs (nl (a.natAbs - b.natAbs)) none (dg (nl (a.natAbs - b.natAbs)) (a.natAbs - b.natAbs)), [])) (h4 : T.call fn_ref01_signed [bN (ng a), MV.fs (nl (a.natAbs - b.natAbs)) none (dg (nl (a.natAbs - b.natAbs)) (a.natAbs - b.natAbs))] = some (iM (sgz (ng a) (a.natAbs - b.natAbs)), [])) : evalBody PG T FUEL (ioF fn_ref01_Add) fn_ref01_Add [iM a, iM b] = some (MV.agg [bN (ng (sgz (ng a) (a.natAbs - b.natAbs))), MV.fs (nz (sgz (ng a) (a.natAbs - b.natAbs))) none (cz (sgz (ng a) (a.natAbs - b.natAbs)))], []) :=
  xBody_io (hard := false) hio (orc := [.br false, .call (iN (cmpN a.natAbs b.natAbs)) [], .br true, .call (MV.fs (nl (a.natAbs - b.natAbs)) none (dg (nl (a.natAbs - b.natAbs)) (a.natAbs - b.natAbs))) [], .call (iM (sgz (ng a) (a.natAbs - b.natAbs))) []]) (by kernel_rfl) (owc h0 (owc h1 (owc h2 (owc h3 (ow1 h4)))))

theorem p_ref01_Add_2 {T : Tab} (hio : TO T) (a b : Int) (h0 : (bN ((ng a) == (ng b)) : MV) = .sc (.bool false)) (h1 : T.call fn_ref01_compare [MV.fs (nz a) none (cz a), MV.fs (nz b) none (cz b)] = some (iN (cmpN a.natAbs b.natAbs), [])) (h2 : (bN (decide ((cmpN a.natAbs b.natAbs) ≥ (0 : Int))) : MV) = .sc (.bool false)) (h3 : T.call fn_ref01_minus [MV.fs (nz b) none (cz b), MV.fs (nz a) none (cz a)] = some (MV.fs (nl (b.natAbs - a.natAbs)) none (dg (nl (b.natAbs - a.natAbs)) (b.natAbs - a.natAbs)), [])) (h4 : T.call fn_ref01_signed [bN (ng b), MV.fs (nl (b.natAbs - a.natAbs)) none (dg (nl (b.natAbs - a.natAbs)) (b.natAbs - a.natAbs))] = some (iM (sgz (ng b) (b.natAbs - a.natAbs)), [])) : evalBody PG T FUEL (ioF fn_ref01_Add) fn_ref01_Add [iM a, iM b] = some (MV.agg [bN (ng (sgz (ng b) (b.natAbs - a.natAbs))), MV.fs (nz (sgz (ng b) (b.natAbs - a.natAbs))) none (cz (sgz (ng b) (b.natAbs - a.natAbs)))], []) :=
  xBody_io (hard := false) hio (orc := [.br false, .call (iN (cmpN a.natAbs b.natAbs)) [], .br false, .call (MV.fs (nl (b.natAbs - a.natAbs)) none (dg (nl (b.natAbs - a.natAbs)) (b.natAbs - a.natAbs))) [], .call (iM (sgz (ng b) (b.natAbs - a.natAbs))) []]) (by kernel_rfl) (owc h0 (owc h1 (owc h2 (owc h3 (ow1 h4)))))

theorem p_ref01_Neg_0 {T : Tab} (hio : TO T) (a : Int) (h0 : T.call fn_ref01_signed [bN (!(ng a)), MV.fs (nz a) none (cz a)] = some (iM (sgz (!(ng a)) a.natAbs), [])) : evalBody PG T FUEL (ioF fn_ref01_Neg) fn_ref01_Neg [iM a] = some (MV.agg [bN (ng (sgz (!(ng a)) a.natAbs)), MV.fs (nz (sgz (!(ng a)) a.natAbs)) none (cz (sgz (!(ng a)) a.natAbs))], []) :=
  xBody_io (hard := false) hio (orc := [.call (iM (sgz (!(ng a)) a.natAbs)) []]) (by kernel_rfl) (ow1 h0)

theorem p_ref01_Sub_0 {T : Tab} (hio : TO T) (a b : Int) (h0 : T.call fn_ref01_Neg [MV.agg [bN (ng b), MV.fs (nz b) none (cz b)]] = some (iM (-b), [])) (h1 : T.call fn_ref01_Add [MV.agg [bN (ng a), MV.fs (nz a) none (cz a)], iM (-b)] = some (iM (a + (-b)), [])) : evalBody PG T FUEL (ioF fn_ref01_Sub) fn_ref01_Sub [iM a, iM b] = some (MV.agg [bN (ng (a + (-b))), MV.fs (nz (a + (-b))) none (cz (a + (-b)))], []) :=
  xBody_io (hard := false) hio (orc := [.call (iM (-b)) [], .call (iM (a + (-b))) []]) (by kernel_rfl) (owc h0 (ow1 h1))

theorem p_ref01_Mul_0 {T : Tab} (hio : TO T) (a b : Int) (h0 : T.call fn_ref01_times [MV.fs (nz a) none (cz a), MV.fs (nz b) none (cz b)] = some (MV.fs (nl (a.natAbs * b.natAbs)) none (dg (nl (a.natAbs * b.natAbs)) (a.natAbs * b.natAbs)), [])) (h1 : T.call fn_ref01_signed [bN (!((ng a) == (ng b))), MV.fs (nl (a.natAbs * b.natAbs)) none (dg (nl (a.natAbs * b.natAbs)) (a.natAbs * b.natAbs))] = some (iM (sgz (!((ng a) == (ng b))) (a.natAbs * b.natAbs)), [])) : evalBody PG T FUEL (ioF fn_ref01_Mul) fn_ref01_Mul [iM a, iM b] = some (MV.agg [bN (ng (sgz (!((ng a) == (ng b))) (a.natAbs * b.natAbs))), MV.fs (nz (sgz (!((ng a) == (ng b))) (a.natAbs * b.natAbs))) none (cz (sgz (!((ng a) == (ng b))) (a.natAbs * b.natAbs)))], []) :=
  xBody_io (hard := false) hio (orc := [.call (MV.fs (nl (a.natAbs * b.natAbs)) none (dg (nl (a.natAbs * b.natAbs)) (a.natAbs * b.natAbs))) [], .call (iM (sgz (!((ng a) == (ng b))) (a.natAbs * b.natAbs))) []]) (by kernel_rfl) (owc h0 (ow1 h1))

theorem p_ref01_by_0 {T : Tab} (hio : TO T) (n v q r : Nat) (g : Int) (h0 : 4 = 4 ∧ 4 ≠ 0 ∧ 1 ≤ 1 ∧ Plain ([uN g])) (h1 : T.call fn_ref01_trim [MV.fs 1 (some 1) [uN g]] = some (MV.fs q none (dg q r), [])) (h2 : T.call fn_ref01_times [MV.fs n none (dg n v), MV.fs q none (dg q r)] = some (MV.fs (nl (v * r)) none (dg (nl (v * r)) (v * r)), [])) : evalBody PG T FUEL (ioF fn_ref01_by) fn_ref01_by [MV.fs n none (dg n v), uN g] = some (MV.fs (nl (v * r)) none (dg (nl (v * r)) (v * r)), []) :=
  xBody_io (hard := true) hio (orc := [.call (MV.fs q none (dg q r)) [], .call (MV.fs (nl (v * r)) none (dg (nl (v * r)) (v * r))) []]) (by kernel_rfl) (owc h0 (owc h1 (ow1 h2)))

end Go.Proofs.YtkeelkeoijemiaaGreat.Ev

namespace Go.Proofs.YtkeelkeoijemiaaGreat.Ev
open Go Go.RowKit
set_option linter.unusedVariables false
set_option linter.unusedSimpArgs false

theorem c_ref01_FromInt64 {q : Nat} (hq : 2 < q) {x : Int} (h : -9223372036854775808 ≤ x ∧ x ≤ 9223372036854775807) : (TU q).call fn_ref01_FromInt64 [iN x] = some (iM x, []) := by
  have hio := TU_io (q - 1)
  have hs : ∀ y : Nat, y < 18446744073709551616 → nl y < 100000 := fun y hy => by
    have := nl_le (Nat.lt_of_lt_of_le hy BB3); omega
  by_cases h0 : x < 0
  · have e1 : IntKind.u64.wrap ((0 : Int) - (IntKind.u64.wrap x)) = ((x.natAbs : Nat) : Int) := by simp only [IntKind.wrap_u64]; omega
    have g := p_ref01_FromInt64_0 hio x (sc_b (decide_eq_true h0)) (by rw [e1, Int.toNat_natCast]; exact c_ref01_limbs (by omega) (by omega)) (by rw [e1, Int.toNat_natCast]; exact c_ref01_signed (by omega) (nl_lt _) (hs _ (by omega)))
    have e2 : sgz true x.natAbs = x := by unfold sgz; simp; omega
    rw [e1, Int.toNat_natCast, e2] at g
    exact TU_call (by omega) rfl rfl (args' := [iN x]) rfl g (uncap_iM x)
  · have e1 : IntKind.u64.wrap x = ((x.natAbs : Nat) : Int) := by simp only [IntKind.wrap_u64]; omega
    have g := p_ref01_FromInt64_1 hio x (sc_b (decide_eq_false h0)) (by rw [e1, Int.toNat_natCast]; exact c_ref01_limbs (by omega) (by omega)) (by rw [e1, Int.toNat_natCast]; exact c_ref01_signed (by omega) (nl_lt _) (hs _ (by omega)))
    have e2 : sgz false x.natAbs = x := by unfold sgz; simp; omega
    rw [e1, Int.toNat_natCast, e2] at g
    exact TU_call (by omega) rfl rfl (args' := [iN x]) rfl g (uncap_iM x)
theorem c_ref01_Sign {q : Nat} (hq : 0 < q) (a : Int) : (TU q).call fn_ref01_Sign [iM a] = some (iN (cmpI a 0), []) := by
  have hio := TU_io (q - 1)
  refine TU_call hq rfl rfl (args' := [iM a]) (by rw [uncaps_iM]; rfl) (r := iN (cmpI a 0)) ?_ rfl
  have hz := nz_pos (z := a)
  unfold cmpI
  by_cases h : a = 0
  · subst h
    exact p_ref01_Sign_0 hio 0 (sc_b (by decide))
  · by_cases h2 : a < 0
    · rw [if_pos h2]
      exact p_ref01_Sign_1 hio a (sc_b (by have := hz.2 h; simp; omega)) (sc_b (decide_eq_true h2))
    · rw [if_neg h2, if_pos (by omega)]
      exact p_ref01_Sign_2 hio a (sc_b (by have := hz.2 h; simp; omega)) (sc_b (decide_eq_false h2))
theorem c_ref01_Cmp {q : Nat} (hq : 1 < q) {a b : Int} (ha : nz a < 100000) (hb : nz b < 100000) : (TU q).call fn_ref01_Cmp [iM a, iM b] = some (iN (cmpI a b), []) := by
  have hio := TU_io (q - 1)
  refine TU_call (by omega) rfl rfl (args' := [iM a, iM b]) (by rw [uncaps_iM, uncaps_iM]; rfl) (r := iN (cmpI a b)) ?_ rfl
  have t1 : (TU (q - 1)).call fn_ref01_compare [.fs (nz a) none (cz a), .fs (nz b) none (cz b)] = _ := c_ref01_compare (by omega) ha hb
  have t2 : (TU (q - 1)).call fn_ref01_compare [.fs (nz b) none (cz b), .fs (nz a) none (cz a)] = _ := c_ref01_compare (by omega) hb ha
  by_cases h : a < 0 <;> by_cases h2 : b < 0
  · refine (p_ref01_Cmp_1 hio a b (sc_b (by simp [ng, h, h2])) (sc_b (decide_eq_true h)) t2).trans ?_
    congr 2
    unfold cmpN cmpI
    split <;> split <;> (try split) <;> (try split) <;> first | rfl | (exfalso; omega)
  · refine (p_ref01_Cmp_0 hio a b (sc_b (by simp [ng, h, h2])) (sc_b (decide_eq_true h))).trans ?_
    rw [cmpI, if_pos (by omega)]
  · refine (p_ref01_Cmp_3 hio a b (sc_b (by simp [ng, h, h2])) (sc_b (decide_eq_false h))).trans ?_
    rw [cmpI, if_neg (by omega), if_pos (by omega)]
  · refine (p_ref01_Cmp_2 hio a b (sc_b (by simp [ng, h, h2])) (sc_b (decide_eq_false h)) t1).trans ?_
    congr 2
    unfold cmpN cmpI
    split <;> split <;> (try split) <;> (try split) <;> first | rfl | (exfalso; omega)
theorem c_ref01_Add {q : Nat} (hq : 2 < q) {a b : Int} (ha : nz a < 50000) (hb : nz b < 50000) : (TU q).call fn_ref01_Add [iM a, iM b] = some (iM (a + b), []) := by
  have hio := TU_io (q - 1)
  have hp : nplus (nz a) (nz b) < 100000 := by unfold nplus; omega
  have hlt : a.natAbs + b.natAbs < BB ^ nplus (nz a) (nz b) := by
    have h1 : a.natAbs < BB ^ max (nz a) (nz b) := Nat.lt_of_lt_of_le (nl_lt _) (Nat.pow_le_pow_right BB_pos (Nat.le_max_left ..))
    have h2 : b.natAbs < BB ^ max (nz a) (nz b) := Nat.lt_of_lt_of_le (nl_lt _) (Nat.pow_le_pow_right BB_pos (Nat.le_max_right ..))
    unfold nplus
    rw [Nat.pow_succ]
    have := Nat.mul_le_mul_left (BB ^ max (nz a) (nz b)) (show 2 ≤ BB by decide)
    omega
  have hs_ : ∀ y : Nat, y < BB ^ nplus (nz a) (nz b) → nl y < 100000 := fun y hy => by have := nl_le hy; omega
  refine TU_call (by omega) rfl rfl (args' := [iM a, iM b]) (by rw [uncaps_iM, uncaps_iM]; rfl) (r := iM (a + b)) ?_ (uncap_iM _)
  have tc : (TU (q - 1)).call fn_ref01_compare [.fs (nz a) none (cz a), .fs (nz b) none (cz b)] = _ := c_ref01_compare (by omega) (Nat.lt_trans ha (by decide)) (Nat.lt_trans hb (by decide))
  by_cases hs : ng a = ng b
  · refine (p_ref01_Add_0 hio a b (sc_b (by simp [hs])) (by exact c_ref01_plus (by omega) (nl_lt _) (by omega) (nl_lt _) (by omega)) (by exact c_ref01_signed (by omega) (nl_lt _) (hs_ _ hlt))).trans ?_
    have : sgz (ng a) (a.natAbs + b.natAbs) = a + b := by
      unfold ng at hs ⊢
      rw [decide_eq_decide] at hs
      unfold sgz
      split <;> rename_i h <;> simp at h <;> omega
    rw [this]
  · have hs' : ¬ (a < 0 ↔ b < 0) := fun h => hs (decide_eq_decide.2 h)
    by_cases hc : a.natAbs < b.natAbs
    · refine (p_ref01_Add_2 hio a b (sc_b (by simpa using hs)) tc (sc_b (decide_eq_false (by rw [cmpN, if_pos hc]; omega))) (by exact c_ref01_minus (by omega) (by omega) (nl_lt _) (by omega) (nl_lt _) (by omega)) (by exact c_ref01_signed (by omega) (nl_lt _) (hs_ _ (by omega)))).trans ?_
      have : sgz (ng b) (b.natAbs - a.natAbs) = a + b := by
        unfold sgz ng
        split <;> rename_i h <;> simp at h <;> omega
      rw [this]
    · refine (p_ref01_Add_1 hio a b (sc_b (by simpa using hs)) tc (sc_b (decide_eq_true (by rw [cmpN, if_neg hc]; split <;> omega))) (by exact c_ref01_minus (by omega) (by omega) (nl_lt _) (by omega) (nl_lt _) (by omega)) (by exact c_ref01_signed (by omega) (nl_lt _) (hs_ _ (by omega)))).trans ?_
      have : sgz (ng a) (a.natAbs - b.natAbs) = a + b := by
        unfold sgz ng
        split <;> rename_i h <;> simp at h <;> omega
      rw [this]
theorem c_ref01_Mul {q : Nat} (hq : 2 < q) {a b : Int} (hab : nz a + nz b < 100000) : (TU q).call fn_ref01_Mul [iM a, iM b] = some (iM (a * b), []) := by
  have hio := TU_io (q - 1)
  refine TU_call (by omega) rfl rfl (args' := [iM a, iM b]) (by rw [uncaps_iM, uncaps_iM]; rfl) (r := iM (a * b)) ?_ (uncap_iM _)
  have hlt : a.natAbs * b.natAbs < BB ^ (nz a + nz b) := by
    rw [Nat.pow_add]
    exact Nat.mul_lt_mul'' (nl_lt _) (nl_lt _)
  have hle := nl_le hlt
  refine (p_ref01_Mul_0 hio a b (by exact c_ref01_times (by omega) (nl_lt _) (nl_lt _) hab) (by exact c_ref01_signed (by omega) (nl_lt _) (by omega))).trans ?_
  have : sgz (!((ng a) == (ng b))) (a.natAbs * b.natAbs) = a * b := by
    have e : a * b = sgz (!((ng a) == (ng b))) (a.natAbs * b.natAbs) := by
      conv => lhs; rw [← sgz_self a, ← sgz_self b]
      generalize a.natAbs = x
      generalize b.natAbs = y
      cases ng a <;> cases ng b <;> simp [sgz, Int.natCast_mul, Int.neg_mul, Int.mul_neg]
    exact e.symm
  rw [this]
theorem c_ref01_Neg {q : Nat} (hq : 2 < q) {a : Int} (ha : nz a < 100000) : (TU q).call fn_ref01_Neg [iM a] = some (iM (-a), []) := by
  have hio := TU_io (q - 1)
  have e : sgz (!(ng a)) a.natAbs = -a := by
    unfold sgz ng
    split <;> rename_i h <;> simp at h <;> omega
  have g := p_ref01_Neg_0 hio a (by exact c_ref01_signed (by omega) (nl_lt _) ha)
  rw [e] at g
  exact TU_call (by omega) rfl rfl (args' := [iM a]) (by rw [uncaps_iM]; rfl) g (uncap_iM _)
theorem c_ref01_Sub {q : Nat} (hq : 3 < q) {a b : Int} (ha : nz a < 50000) (hb : nz b < 50000) : (TU q).call fn_ref01_Sub [iM a, iM b] = some (iM (a - b), []) := by
  have hio := TU_io (q - 1)
  have hnb : nz (-b) = nz b := by simp [nz]
  have g := p_ref01_Sub_0 hio a b (by exact c_ref01_Neg (by omega) (by omega)) (by exact c_ref01_Add (by omega) ha (by omega))
  rw [show a - b = a + -b by omega]
  exact TU_call (by omega) rfl rfl (args' := [iM a, iM b]) (by rw [uncaps_iM, uncaps_iM]; rfl) g (uncap_iM _)
theorem c_ref01_by {q : Nat} (hq : 2 < q) {v n g : Nat} {c : Option Nat} (hv : v < BB ^ n) (hn : n < 99998) (hg : g < BB) :
    (TU q).call fn_ref01_by [.fs n c (dg n v), uN (g : Nat)] = some (.fs (nl (v * g)) none (dg (nl (v * g)) (v * g)), []) := by
  have hio := TU_io (q - 1)
  have h1 : g < BB ^ 1 := by rw [Nat.pow_one]; exact hg
  have hle := nl_le h1
  refine TU_call (by omega) rfl rfl (args' := [.fs n none (dg n v), uN (g : Nat)]) (by simp [uncaps, uncap]) (r := .fs (nl (v * g)) none (dg (nl (v * g)) (v * g))) ?_ (by simp [uncap])
  exact p_ref01_by_0 hio n v (nl g) g (g : Nat) ⟨rfl, by decide, by decide, by rw [dg_one g hg]; exact dg_pl (by omega)⟩ (by rw [dg_one g hg]; exact c_ref01_trim (by omega) h1 (by omega)) (by exact c_ref01_times (by omega) hv (nl_lt _) (by omega))
end Go.Proofs.YtkeelkeoijemiaaGreat.Ev

