/- Reference integers: GCD. Reference integers: DivMod. The reference's rationals: paths. The reference's rationals. The contracts of the fractions. Contracts by shapes: how values of Lean stand as values of the evaluator. The trochoid on whole numbers: signs, directions, ranges. -/
import Derived.Test.YtkeelkeoijemiaaGreatMn
import Derived.Test.YtkeelkeoijemiaaGreatNs
import Derived.Test.YtkeelkeoijemiaaGreatAa
import Derived.Test.YtkeelkeoijemiaaGreatMa
import Derived.KernelRfl
set_option linter.unusedVariables false
set_option linter.unusedSimpArgs false
namespace Go.Proofs.YtkeelkeoijemiaaGreat.Ev
open Go Go.RowKit
set_option linter.unusedVariables false
set_option linter.unusedSimpArgs false

theorem rgcd_e1 {T : Tab} (hio : TO T) {a b : Int} {x0 y0 : Nat} (hx0 : x0 < BB ^ 2) (hy0 : y0 < BB ^ 2) (n5 n6 : Nat) (c5 c6 : Option Nat) (cs5 cs6 : List MV) :
    lp T fn_ref01_GCD 1 (L_ref01_GCD_1e1 a b (x0 : Nat) (y0 : Nat) (x0 : Nat) (y0 : Nat) n5 n6 c5 c6 cs5 cs6) (.exit 2)
      (X_ref01_GCD_1e1_1 a b (x0 : Nat) (y0 : Nat) (Nat.gcd x0 y0 : Nat) (0 : Nat) n5 n6 c5 c6 cs5 cs6) := by
  have main := loop_meas (G := gC T fn_ref01_GCD 1) (nm := nM fn_ref01_GCD 1)
    (fun d S => ∃ (x y : Nat), Nat.gcd x y = Nat.gcd x0 y0 ∧ EI d x y ∧ S = L_ref01_GCD_1e1 a b (x0 : Nat) (y0 : Nat) (x : Nat) (y : Nat) n5 n6 c5 c6 cs5 cs6)
    (fun o S => o = .exit 2 ∧ S = X_ref01_GCD_1e1_1 a b (x0 : Nat) (y0 : Nat) (Nat.gcd x0 y0 : Nat) (0 : Nat) n5 n6 c5 c6 cs5 cs6)
    FUEL 121 (L_ref01_GCD_1e1 a b (x0 : Nat) (y0 : Nat) (x0 : Nat) (y0 : Nat) n5 n6 c5 c6 cs5 cs6) (by
      rintro d S ⟨x, y, hg, hE, rfl⟩
      by_cases hy : y = 0
      · subst hy
        rw [Nat.gcd_zero_right] at hg
        subst hg
        exact .inl ⟨_, _, r_ref01_GCD_1e1_1 hio a b _ _ _ _ n5 n6 c5 c6 cs5 cs6 (sc_b (by simp)), by simp, rfl, rfl⟩
      · obtain ⟨d', h1, h2⟩ := hE.step (Nat.pos_of_ne_zero hy)
        obtain ⟨s', e1, e2⟩ := r_ref01_GCD_1e1_0 hio a b (x0 : Nat) (y0 : Nat) (x : Nat) (y : Nat) n5 n6 c5 c6 cs5 cs6 (sc_b (decide_eq_true (by omega))) (by omega)
        have em : ((x : Nat) : Int).tmod ((y : Nat) : Int) = ((x % y : Nat) : Int) := by rw [Int.tmod_eq_emod_of_nonneg (by omega), ← Int.natCast_emod]
        rw [em] at e2
        refine .inr ⟨s', d', h1, e1, y, x % y, ?_, h2, e2⟩
        rw [← hg, Nat.gcd_comm x y, Nat.gcd_rec y x, Nat.gcd_comm]) ⟨x0, y0, rfl, EI.first hx0 hy0, rfl⟩ (by unfold FUEL; omega)
  obtain ⟨o, S, hl, ho, hS⟩ := main
  rw [ho, hS] at hl
  exact hl
theorem lt_two {x : Nat} (h : nl x ≤ 2) : x < BB ^ 2 := Nat.lt_of_lt_of_le (nl_lt x) (Nat.pow_le_pow_right BB_pos h)

theorem c_ref01_GCD {q : Nat} (hq : 4 < q) {a b : Int} (ha : nz a ≤ 8000) (hb : nz b ≤ 8000) : (TU q).call fn_ref01_GCD [iM a, iM b] = some (iM ((Nat.gcd a.natAbs b.natAbs : Nat) : Int), []) := by
  have hio := TU_io (q - 1)
  have sz : (1 = 1 ∧ false = false ∧ 2 = 2 ∧ 2 ≤ 2) := ⟨rfl, rfl, rfl, by decide⟩
  obtain ⟨K, hK⟩ : ∃ K, K = 8000 := ⟨_, rfl⟩
  rw [← hK] at ha hb
  have hA : a.natAbs < BB ^ K := Nat.lt_of_lt_of_le (nl_lt _) (Nat.pow_le_pow_right BB_pos ha)
  have hB : b.natAbs < BB ^ K := Nat.lt_of_lt_of_le (nl_lt _) (Nat.pow_le_pow_right BB_pos hb)
  have sgn : ∀ (x : Nat) (c : Option Nat), x < BB ^ K → (TU (q - 1)).call fn_ref01_signed [bN false, .fs (nl x) c (dg (nl x) x)] = some (iM ((x : Nat) : Int), []) := fun x c hx => by
    have h1 := nl_le hx
    have := c_ref01_signed (m := q - 1) (s := false) (c := c) (by omega) (nl_lt x) (by omega)
    rw [show sgz false x = ((x : Nat) : Int) from by simp [sgz]] at this
    exact this
  have lmb : ∀ x : Nat, x < BB ^ 2 → (TU (q - 1)).call fn_ref01_limbs [wN (x : Nat)] = some (.fs (nl x) none (dg (nl x) x), []) := fun x hx => by
    have : BB ^ 2 = 1000000000000000000 := by decide
    exact c_ref01_limbs (by omega) (by omega)
  have main := loop_meas (G := gC (TU (q - 1)) fn_ref01_GCD 0) (nm := nM fn_ref01_GCD 0)
    (fun d S => ∃ x y : Nat, x < BB ^ K ∧ y < BB ^ K ∧ EI d x y ∧ Nat.gcd x y = Nat.gcd a.natAbs b.natAbs ∧
      S = L_ref01_GCD_0 a b (nl x) (nl y) none none (dg (nl x) x) (dg (nl y) y))
    (fun o S => lp (TU (q - 1)) fn_ref01_GCD 0 (L_ref01_GCD_0 a b (nz a) (nz b) none none (cz a) (cz b)) o S →
      evalBody PG (TU (q - 1)) FUEL (ioF fn_ref01_GCD) fn_ref01_GCD [iM a, iM b] = some (iM ((Nat.gcd a.natAbs b.natAbs : Nat) : Int), []))
    FUEL (60 * K + 1) (L_ref01_GCD_0 a b (nz a) (nz b) none none (cz a) (cz b)) (by
      rintro d S ⟨x, y, hx, hy, hE, hg, rfl⟩
      have n5 := nl_le hx
      have n6 := nl_le hy
      by_cases h6 : y = 0
      · subst h6
        have br : (bN (decide (((nl 0 : Nat) : Int) > (0 : Int))) : MV) = .sc (.bool false) := sc_b (by rw [nl_zero]; decide)
        have br2 : (bN (((nl 0 : Nat) : Int) == (0 : Int)) : MV) = .sc (.bool true) := sc_b (by rw [nl_zero]; decide)
        have hg' : Nat.gcd a.natAbs b.natAbs = x := by rw [← hg]; exact Nat.gcd_zero_right _
        refine .inl ⟨_, _, r_ref01_GCD_0_1 hio a b _ _ _ _ _ _ br, by simp, ?_⟩
        intro hl
        rw [hg']
        exact p_ref01_GCD_e0a hio a b _ _ _ _ _ _ _ hl br2 (sgn x none hx) sz
      · have hpos := nl_pos (Nat.pos_of_ne_zero h6)
        have br : (bN (decide (((nl y : Nat) : Int) > (0 : Int))) : MV) = .sc (.bool true) := sc_b (decide_eq_true (by omega))
        have br2 : (bN (((nl y : Nat) : Int) == (0 : Int)) : MV) = .sc (.bool false) := sc_b (by simp; omega)
        have cp : (TU (q - 1)).call fn_ref01_parts [.fs (nl x) none (dg (nl x) x), .fs (nl y) none (dg (nl y) y)] = _ := c_ref01_parts (by omega) (Nat.pos_of_ne_zero h6) (by omega) (by omega)
        obtain ⟨d', h1, h2⟩ := hE.step (show 0 < y by omega)
        have hg2 : Nat.gcd y (x % y) = Nat.gcd a.natAbs b.natAbs := by
          rw [← hg, Nat.gcd_comm x, Nat.gcd_rec y x, Nat.gcd_comm]
        have hxy : x % y < BB ^ K := Nat.lt_trans (Nat.mod_lt _ (by omega)) hy
        by_cases w5 : 2 < nl x
        · obtain ⟨s', e1, e2⟩ := r_ref01_GCD_0_0 hio a b _ _ _ _ _ _ _ _ _ _ br (sc_b (decide_eq_true (by omega))) cp
          exact .inr ⟨s', d', h1, e1, _, _, hy, hxy, h2, hg2, e2⟩
        · by_cases w6 : 2 < nl y
          · obtain ⟨s', e1, e2⟩ := r_ref01_GCD_0_2 hio a b _ _ _ _ _ _ _ _ _ _ br (sc_b (decide_eq_false (by omega))) (sc_b (decide_eq_true (by omega))) cp
            exact .inr ⟨s', d', h1, e1, _, _, hy, hxy, h2, hg2, e2⟩
          · -- both small
            have lx := lt_two (show nl x ≤ 2 by omega)
            have ly := lt_two (show nl y ≤ 2 by omega)
            have sx : (TU (q - 1)).call fn_ref01_short [.fs (nl x) none (dg (nl x) x)] = _ := c_ref01_short (by omega) (nl_lt x) (by omega)
            have sy : (TU (q - 1)).call fn_ref01_short [.fs (nl y) none (dg (nl y) y)] = _ := c_ref01_short (by omega) (nl_lt y) (by omega)
            have gl : Nat.gcd x y < BB ^ 2 := by
              have := Nat.gcd_le_right x (show 0 < y by omega)
              omega
            have gK : Nat.gcd x y < BB ^ K := Nat.lt_of_le_of_lt (Nat.gcd_le_right x (show 0 < y by omega)) hy
            refine .inl ⟨_, _, r_ref01_GCD_0_3 hio a b _ _ _ _ _ _ br (sc_b (decide_eq_false (by omega))) (sc_b (decide_eq_false (by omega))), by simp, ?_⟩
            intro hl
            have hin := rgcd_e1 hio (a := a) (b := b) lx ly (nl x) (nl y) none none (dg (nl x) x) (dg (nl y) y)
            rw [← hg]
            exact p_ref01_GCD_e1b hio a b _ _ _ _ _ _ _ _ _ _ _ _ _ hl br2 sx sy hin (lmb _ gl) (sgn _ none gK) sz)
    ⟨a.natAbs, b.natAbs, hA, hB, EI.first hA hB, rfl, rfl⟩ (by unfold FUEL; omega)
  obtain ⟨o, S, hl, hQ⟩ := main
  exact TU_call (by omega) rfl rfl (args' := [iM a, iM b]) (by rw [uncaps_iM, uncaps_iM]; rfl) (hQ hl) (uncap_iM _)
end Go.Proofs.YtkeelkeoijemiaaGreat.Ev

namespace Go.Proofs.YtkeelkeoijemiaaGreat.Ev
open Go Go.RowKit
set_option linter.unusedVariables false
set_option linter.unusedSimpArgs false

theorem c_ref01_DivMod {q : Nat} (hq : 4 < q) {a b : Int} (hb : b ≠ 0) (ha : nz a < 10000) (hbz : nz b < 10000) : (TU q).call fn_ref01_DivMod [iM a, iM b] = some (.tup [iM (a.fdiv b), iM (a.fmod b), iN 0], []) := by
  have hio := TU_io (q - 1)
  have hb0 : 0 < b.natAbs := by omega
  have hbp := nz_pos.2 hb
  obtain ⟨x, hx⟩ : ∃ x, x = a.natAbs / b.natAbs := ⟨_, rfl⟩
  obtain ⟨y, hy⟩ : ∃ y, y = a.natAbs % b.natAbs := ⟨_, rfl⟩
  have hdm : b.natAbs * x + y = a.natAbs := by rw [hx, hy]; exact Nat.div_add_mod _ _
  have hyl : y < b.natAbs := by rw [hy]; exact Nat.mod_lt _ hb0
  have hxl : x ≤ a.natAbs := by rw [hx]; exact Nat.div_le_self _ _
  have hqK : nl (a.natAbs / b.natAbs) < 10000 := Nat.lt_of_le_of_lt (nl_mono (Nat.div_le_self _ _)) ha
  have hrK : nl (a.natAbs % b.natAbs) < 10000 := Nat.lt_of_le_of_lt (nl_mono (Nat.mod_le _ _)) ha
  have t1 : (TU (q - 1)).call fn_ref01_parts [.fs (nz a) none (cz a), .fs (nz b) none (cz b)] = _ := c_ref01_parts (by omega) hb0 (show nz a < 30000 by omega) (show nz b < 30000 by omega)
  have t2 : (TU (q - 1)).call fn_ref01_signed [bN (!((ng a) == (ng b))), .fs (nl (a.natAbs / b.natAbs)) none (dg (nl (a.natAbs / b.natAbs)) (a.natAbs / b.natAbs))] = _ := c_ref01_signed (by omega) (nl_lt _) (by omega)
  have t3 : (TU (q - 1)).call fn_ref01_signed [bN (ng a), .fs (nl (a.natAbs % b.natAbs)) none (dg (nl (a.natAbs % b.natAbs)) (a.natAbs % b.natAbs))] = _ := c_ref01_signed (by omega) (nl_lt _) (by omega)
  rw [← hx] at t1 t2
  rw [← hy] at t1 t3
  have br0 : (bN (((nz b : Nat) : Int) == (0 : Int)) : MV) = .sc (.bool false) := sc_b (by simp; omega)
  have fin : ∀ {u w : Int}, u = a.fdiv b → w = a.fmod b → uncap (.tup [.agg [bN (ng u), .fs (nz u) none (cz u)], .agg [bN (ng w), .fs (nz w) none (cz w)], iN 0]) = .tup [iM (a.fdiv b), iM (a.fmod b), iN 0] := by
    rintro u w rfl rfl
    simp only [uncap, uncaps, uncaps_dg, iM, iC, cz]
  have hu : uncaps [iM a, iM b] = [iM a, iM b] := by rw [uncaps_iM, uncaps_iM]; rfl
  -- the quotient and the remainder
  have uniq : ∀ {u w : Int}, w + b * u = a → (0 ≤ w ∧ w < b ∨ b < w ∧ w ≤ 0) → u = a.fdiv b ∧ w = a.fmod b := by
    intro u w h1 h2
    rcases h2 with ⟨h3, h4⟩ | ⟨h3, h4⟩
    · have := (Int.fdiv_fmod_unique (a := a) (b := b) (r := w) (q := u) (by omega)).2 ⟨h1, h3, h4⟩
      exact ⟨this.1.symm, this.2.symm⟩
    · have := (Int.fdiv_fmod_unique' (a := a) (b := b) (r := w) (q := u) (by omega)).2 ⟨h1, h3, h4⟩
      exact ⟨this.1.symm, this.2.symm⟩
  have eq0 : sgz (ng a) y + b * sgz (!((ng a) == (ng b))) x = a := by
    have hdI : ((b.natAbs : Nat) : Int) * ((x : Nat) : Int) + ((y : Nat) : Int) = ((a.natAbs : Nat) : Int) := by rw [← Int.natCast_mul, ← hdm]; push_cast; rfl
    unfold sgz
    by_cases h1 : a < 0 <;> by_cases h2 : b < 0 <;> simp only [ng, h1, h2, decide_true, decide_false] <;> simp
    · rw [show ((b.natAbs : Nat) : Int) = -b by omega, Int.neg_mul] at hdI; omega
    · rw [show ((b.natAbs : Nat) : Int) = b by omega] at hdI; rw [Int.mul_neg]; omega
    · rw [show ((b.natAbs : Nat) : Int) = -b by omega, Int.neg_mul] at hdI; rw [Int.mul_neg]; omega
    · rw [show ((b.natAbs : Nat) : Int) = b by omega] at hdI; omega
  by_cases hy0 : y = 0
  · subst hy0
    have hz : sgz (ng a) 0 = 0 := by unfold sgz; split <;> rfl
    obtain ⟨f1, f2⟩ := uniq eq0 (by rw [hz]; omega)
    refine TU_call (by omega) rfl rfl (args' := [iM a, iM b]) hu ((p_ref01_DivMod_2 hio a b br0 (by rw [← hx, ← hy]; exact t1) (by rw [← hx]; exact t2) (by rw [← hy]; exact t3) (sc_b (by rw [← hy, nl_zero]; rfl))).trans (by rw [← hx, ← hy])) (fin f1 f2)
  · have hzz : sgz (ng a) y ≠ 0 := by unfold sgz; split <;> omega
    have hzp := nz_pos.2 hzz
    have hzs : ng (sgz (ng a) y) = ng a := by
      rw [sgz_ng, decide_eq_true (Nat.pos_of_ne_zero hy0), Bool.and_true]
    by_cases hs : ng a = ng b
    · have hw : (0 ≤ sgz (ng a) y ∧ sgz (ng a) y < b ∨ b < sgz (ng a) y ∧ sgz (ng a) y ≤ 0) := by
        unfold sgz
        rw [hs]
        by_cases h2 : b < 0
        · right; simp only [ng, h2, decide_true]; simp; omega
        · left; simp only [ng, h2, decide_false]; simp; omega
      obtain ⟨f1, f2⟩ := uniq eq0 hw
      refine TU_call (by omega) rfl rfl (args' := [iM a, iM b]) hu ((p_ref01_DivMod_3 hio a b br0 (by rw [← hx, ← hy]; exact t1) (by rw [← hx]; exact t2) (by rw [← hy]; exact t3) (sc_b (by rw [← hy]; exact decide_eq_true (by have := nl_pos (Nat.pos_of_ne_zero hy0); omega))) (sc_b (by rw [hs]; simp))).trans (by rw [← hx, ← hy])) (fin f1 f2)
    · have hw : (0 ≤ sgz (ng a) y + b ∧ sgz (ng a) y + b < b ∨ b < sgz (ng a) y + b ∧ sgz (ng a) y + b ≤ 0) := by
        unfold sgz
        by_cases h1 : a < 0 <;> by_cases h2 : b < 0 <;> simp only [ng, h1, h2, decide_true, decide_false] at hs ⊢ <;> simp at hs ⊢ <;> omega
      obtain ⟨f1, f2⟩ := uniq (u := sgz (!((ng a) == (ng b))) x - 1) (w := sgz (ng a) y + b) (by rw [Int.mul_sub, Int.mul_one]; omega) hw
      have hnx : nz (sgz (!((ng a) == (ng b))) x) < 50000 := by
        have : (sgz (!((ng a) == (ng b))) x).natAbs < BB ^ nz a := by rw [sgz_abs]; exact Nat.lt_of_le_of_lt hxl (nl_lt _)
        have := nz_le this
        omega
      have hny : nz (sgz (ng a) y) < 50000 := by
        have : (sgz (ng a) y).natAbs < BB ^ nz b := by rw [sgz_abs]; exact Nat.lt_trans hyl (nl_lt _)
        have := nz_le this
        omega
      refine TU_call (by omega) rfl rfl (args' := [iM a, iM b]) hu ((p_ref01_DivMod_1 hio a b br0 (by rw [← hx, ← hy]; exact t1) (by rw [← hx]; exact t2) (by rw [← hy]; exact t3) (sc_b (by rw [← hy]; exact decide_eq_true (by have := nl_pos (Nat.pos_of_ne_zero hy0); omega))) (sc_b (by simpa using hs))
        (by exact c_ref01_FromInt64 (by omega) (by omega)) (by rw [← hx]; exact c_ref01_Sub (by omega) hnx (by decide)) (by rw [← hy]; exact c_ref01_Add (by omega) hny (by omega))).trans (by rw [← hx, ← hy])) (fin f1 f2)

end Go.Proofs.YtkeelkeoijemiaaGreat.Ev

namespace Go.Proofs.YtkeelkeoijemiaaGreat.Ev
open Go
set_option linter.unusedVariables false
set_option linter.unusedSimpArgs false
set_option maxRecDepth 100000

theorem p_ref02_unit_0 {T : Tab} (hio : TO T)  (h0 : T.call fn_ref01_FromInt64 [iN 1] = some (iM 1, [])) : evalBody PG T FUEL (ioF fn_ref02_unit) fn_ref02_unit [] = some (MV.agg [bN (ng 1), MV.fs (nz 1) none (cz 1)], []) :=
  xBody_io (hard := false) hio (orc := [.call (iM 1) []]) (by kernel_rfl) (ow1 h0)

theorem p_ref02_Of_0 {T : Tab} (hio : TO T) (a b : Int) (h0 : T.call fn_ref01_Sign [MV.agg [bN (ng b), MV.fs (nz b) none (cz b)]] = some (iN (cmpI b 0), [])) (h1 : (bN (decide ((cmpI b 0) < (0 : Int))) : MV) = .sc (.bool true)) (h2 : T.call fn_ref01_Neg [MV.agg [bN (ng a), MV.fs (nz a) none (cz a)]] = some (iM (-a), [])) (h3 : T.call fn_ref01_Neg [MV.agg [bN (ng b), MV.fs (nz b) none (cz b)]] = some (iM (-b), [])) (h4 : T.call fn_ref01_GCD [MV.agg [bN (ng (-a)), MV.fs (nz (-a)) none (cz (-a))], MV.agg [bN (ng (-b)), MV.fs (nz (-b)) none (cz (-b))]] = some (iM ((Nat.gcd ((-a).natAbs) ((-b).natAbs) : Nat) : Int), [])) (h5 : T.call fn_ref01_DivMod [MV.agg [bN (ng (-a)), MV.fs (nz (-a)) none (cz (-a))], MV.agg [bN (ng ((Nat.gcd ((-a).natAbs) ((-b).natAbs) : Nat) : Int)), MV.fs (nz ((Nat.gcd ((-a).natAbs) ((-b).natAbs) : Nat) : Int)) none (cz ((Nat.gcd ((-a).natAbs) ((-b).natAbs) : Nat) : Int))]] = some (MV.tup [iM ((-a).fdiv ((Nat.gcd ((-a).natAbs) ((-b).natAbs) : Nat) : Int)), iM ((-a).fmod ((Nat.gcd ((-a).natAbs) ((-b).natAbs) : Nat) : Int)), iN 0], [])) (h6 : T.call fn_ref01_DivMod [MV.agg [bN (ng (-b)), MV.fs (nz (-b)) none (cz (-b))], MV.agg [bN (ng ((Nat.gcd ((-a).natAbs) ((-b).natAbs) : Nat) : Int)), MV.fs (nz ((Nat.gcd ((-a).natAbs) ((-b).natAbs) : Nat) : Int)) none (cz ((Nat.gcd ((-a).natAbs) ((-b).natAbs) : Nat) : Int))]] = some (MV.tup [iM ((-b).fdiv ((Nat.gcd ((-a).natAbs) ((-b).natAbs) : Nat) : Int)), iM ((-b).fmod ((Nat.gcd ((-a).natAbs) ((-b).natAbs) : Nat) : Int)), iN 0], [])) : evalBody PG T FUEL (ioF fn_ref02_Of) fn_ref02_Of [iM a, iM b] = some (MV.agg [bN (ng ((-a).fdiv ((Nat.gcd ((-a).natAbs) ((-b).natAbs) : Nat) : Int))), MV.fs (nz ((-a).fdiv ((Nat.gcd ((-a).natAbs) ((-b).natAbs) : Nat) : Int))) none (cz ((-a).fdiv ((Nat.gcd ((-a).natAbs) ((-b).natAbs) : Nat) : Int))), bN (ng ((-b).fdiv ((Nat.gcd ((-a).natAbs) ((-b).natAbs) : Nat) : Int))), MV.fs (nz ((-b).fdiv ((Nat.gcd ((-a).natAbs) ((-b).natAbs) : Nat) : Int))) none (cz ((-b).fdiv ((Nat.gcd ((-a).natAbs) ((-b).natAbs) : Nat) : Int)))], []) :=
  xBody_io (hard := false) hio (orc := [.call (iN (cmpI b 0)) [], .br true, .call (iM (-a)) [], .call (iM (-b)) [], .call (iM ((Nat.gcd ((-a).natAbs) ((-b).natAbs) : Nat) : Int)) [], .call (MV.tup [iM ((-a).fdiv ((Nat.gcd ((-a).natAbs) ((-b).natAbs) : Nat) : Int)), iM ((-a).fmod ((Nat.gcd ((-a).natAbs) ((-b).natAbs) : Nat) : Int)), iN 0]) [], .call (MV.tup [iM ((-b).fdiv ((Nat.gcd ((-a).natAbs) ((-b).natAbs) : Nat) : Int)), iM ((-b).fmod ((Nat.gcd ((-a).natAbs) ((-b).natAbs) : Nat) : Int)), iN 0]) []]) (by kernel_rfl) (owc h0 (owc h1 (owc h2 (owc h3 (owc h4 (owc h5 (ow1 h6)))))))

theorem p_ref02_Of_1 {T : Tab} (hio : TO T) (a b : Int) (h0 : T.call fn_ref01_Sign [MV.agg [bN (ng b), MV.fs (nz b) none (cz b)]] = some (iN (cmpI b 0), [])) (h1 : (bN (decide ((cmpI b 0) < (0 : Int))) : MV) = .sc (.bool false)) (h2 : T.call fn_ref01_GCD [MV.agg [bN (ng a), MV.fs (nz a) none (cz a)], MV.agg [bN (ng b), MV.fs (nz b) none (cz b)]] = some (iM ((Nat.gcd a.natAbs b.natAbs : Nat) : Int), [])) (h3 : T.call fn_ref01_DivMod [MV.agg [bN (ng a), MV.fs (nz a) none (cz a)], MV.agg [bN (ng ((Nat.gcd a.natAbs b.natAbs : Nat) : Int)), MV.fs (nz ((Nat.gcd a.natAbs b.natAbs : Nat) : Int)) none (cz ((Nat.gcd a.natAbs b.natAbs : Nat) : Int))]] = some (MV.tup [iM (a.fdiv ((Nat.gcd a.natAbs b.natAbs : Nat) : Int)), iM (a.fmod ((Nat.gcd a.natAbs b.natAbs : Nat) : Int)), iN 0], [])) (h4 : T.call fn_ref01_DivMod [MV.agg [bN (ng b), MV.fs (nz b) none (cz b)], MV.agg [bN (ng ((Nat.gcd a.natAbs b.natAbs : Nat) : Int)), MV.fs (nz ((Nat.gcd a.natAbs b.natAbs : Nat) : Int)) none (cz ((Nat.gcd a.natAbs b.natAbs : Nat) : Int))]] = some (MV.tup [iM (b.fdiv ((Nat.gcd a.natAbs b.natAbs : Nat) : Int)), iM (b.fmod ((Nat.gcd a.natAbs b.natAbs : Nat) : Int)), iN 0], [])) : evalBody PG T FUEL (ioF fn_ref02_Of) fn_ref02_Of [iM a, iM b] = some (MV.agg [bN (ng (a.fdiv ((Nat.gcd a.natAbs b.natAbs : Nat) : Int))), MV.fs (nz (a.fdiv ((Nat.gcd a.natAbs b.natAbs : Nat) : Int))) none (cz (a.fdiv ((Nat.gcd a.natAbs b.natAbs : Nat) : Int))), bN (ng (b.fdiv ((Nat.gcd a.natAbs b.natAbs : Nat) : Int))), MV.fs (nz (b.fdiv ((Nat.gcd a.natAbs b.natAbs : Nat) : Int))) none (cz (b.fdiv ((Nat.gcd a.natAbs b.natAbs : Nat) : Int)))], []) :=
  xBody_io (hard := false) hio (orc := [.call (iN (cmpI b 0)) [], .br false, .call (iM ((Nat.gcd a.natAbs b.natAbs : Nat) : Int)) [], .call (MV.tup [iM (a.fdiv ((Nat.gcd a.natAbs b.natAbs : Nat) : Int)), iM (a.fmod ((Nat.gcd a.natAbs b.natAbs : Nat) : Int)), iN 0]) [], .call (MV.tup [iM (b.fdiv ((Nat.gcd a.natAbs b.natAbs : Nat) : Int)), iM (b.fmod ((Nat.gcd a.natAbs b.natAbs : Nat) : Int)), iN 0]) []]) (by kernel_rfl) (owc h0 (owc h1 (owc h2 (owc h3 (ow1 h4)))))

theorem p_ref02_Make_1 {T : Tab} (hio : TO T) (a b : Int) (h0 : T.call fn_ref01_Sign [MV.agg [bN (ng b), MV.fs (nz b) none (cz b)]] = some (iN (cmpI b 0), [])) (h1 : (bN ((cmpI b 0) == (0 : Int)) : MV) = .sc (.bool false)) (h2 : T.call fn_ref02_Of [MV.agg [bN (ng a), MV.fs (nz a) none (cz a)], MV.agg [bN (ng b), MV.fs (nz b) none (cz b)]] = some (rM (Rat.divInt a b), [])) : evalBody PG T FUEL (ioF fn_ref02_Make) fn_ref02_Make [iM a, iM b] = some (MV.tup [MV.agg [bN (ng (((Rat.divInt a b)).num)), MV.fs (nz (((Rat.divInt a b)).num)) none (cz (((Rat.divInt a b)).num)), bN (ng (((Rat.divInt a b).den : Nat) : Int)), MV.fs (nz (((Rat.divInt a b).den : Nat) : Int)) none (cz (((Rat.divInt a b).den : Nat) : Int))], iN 0], []) :=
  xBody_io (hard := false) hio (orc := [.call (iN (cmpI b 0)) [], .br false, .call (rM (Rat.divInt a b)) []]) (by kernel_rfl) (owc h0 (owc h1 (ow1 h2)))

theorem p_ref02_FromInt64_0 {T : Tab} (hio : TO T) (x : Int) (h0 : T.call fn_ref01_FromInt64 [iN x] = some (iM x, [])) (h1 : T.call fn_ref02_unit [] = some (iM 1, [])) : evalBody PG T FUEL (ioF fn_ref02_FromInt64) fn_ref02_FromInt64 [iN x] = some (MV.agg [bN (ng x), MV.fs (nz x) none (cz x), bN (ng 1), MV.fs (nz 1) none (cz 1)], []) :=
  xBody_io (hard := false) hio (orc := [.call (iM x) [], .call (iM 1) []]) (by kernel_rfl) (owc h0 (ow1 h1))

theorem p_ref02_Frac_0 {T : Tab} (hio : TO T) (x y : Int) (h0 : (bN (y == (0 : Int)) : MV) = .sc (.bool true)) (h1 : T.call fn_ref01_FromInt64 [iN 0] = some (iM 0, [])) (h2 : T.call fn_ref01_FromInt64 [iN 1] = some (iM 1, [])) (h3 : T.call fn_ref02_Of [iM 0, iM 1] = some (rM (Rat.divInt 0 1), [])) : evalBody PG T FUEL (ioF fn_ref02_Frac) fn_ref02_Frac [iN x, iN y] = some (MV.agg [bN (ng (((Rat.divInt 0 1)).num)), MV.fs (nz (((Rat.divInt 0 1)).num)) none (cz (((Rat.divInt 0 1)).num)), bN (ng (((Rat.divInt 0 1).den : Nat) : Int)), MV.fs (nz (((Rat.divInt 0 1).den : Nat) : Int)) none (cz (((Rat.divInt 0 1).den : Nat) : Int))], []) :=
  xBody_io (hard := false) hio (orc := [.br true, .call (iM 0) [], .call (iM 1) [], .call (rM (Rat.divInt 0 1)) []]) (by kernel_rfl) (owc h0 (owc h1 (owc h2 (ow1 h3))))

theorem p_ref02_Frac_1 {T : Tab} (hio : TO T) (x y : Int) (h0 : (bN (y == (0 : Int)) : MV) = .sc (.bool false)) (h1 : T.call fn_ref01_FromInt64 [iN x] = some (iM x, [])) (h2 : T.call fn_ref01_FromInt64 [iN y] = some (iM y, [])) (h3 : T.call fn_ref02_Of [iM x, iM y] = some (rM (Rat.divInt x y), [])) : evalBody PG T FUEL (ioF fn_ref02_Frac) fn_ref02_Frac [iN x, iN y] = some (MV.agg [bN (ng (((Rat.divInt x y)).num)), MV.fs (nz (((Rat.divInt x y)).num)) none (cz (((Rat.divInt x y)).num)), bN (ng (((Rat.divInt x y).den : Nat) : Int)), MV.fs (nz (((Rat.divInt x y).den : Nat) : Int)) none (cz (((Rat.divInt x y).den : Nat) : Int))], []) :=
  xBody_io (hard := false) hio (orc := [.br false, .call (iM x) [], .call (iM y) [], .call (rM (Rat.divInt x y)) []]) (by kernel_rfl) (owc h0 (owc h1 (owc h2 (ow1 h3))))

theorem p_ref02_Sign_0 {T : Tab} (hio : TO T) (p : Rat) (h0 : T.call fn_ref01_Sign [MV.agg [bN (ng p.num), MV.fs (nz p.num) none (cz p.num)]] = some (iN (cmpI p.num 0), [])) : evalBody PG T FUEL (ioF fn_ref02_Sign) fn_ref02_Sign [rM p] = some (iN (cmpI p.num 0), []) :=
  xBody_io (hard := false) hio (orc := [.call (iN (cmpI p.num 0)) []]) (by kernel_rfl) (ow1 h0)

theorem p_ref02_Neg_0 {T : Tab} (hio : TO T) (p : Rat) (h0 : T.call fn_ref01_Neg [MV.agg [bN (ng p.num), MV.fs (nz p.num) none (cz p.num)]] = some (iM (-p.num), [])) : evalBody PG T FUEL (ioF fn_ref02_Neg) fn_ref02_Neg [rM p] = some (MV.agg [bN (ng (-p.num)), MV.fs (nz (-p.num)) none (cz (-p.num)), bN (ng ((p.den : Nat) : Int)), MV.fs (nz ((p.den : Nat) : Int)) none (cz ((p.den : Nat) : Int))], []) :=
  xBody_io (hard := false) hio (orc := [.call (iM (-p.num)) []]) (by kernel_rfl) (ow1 h0)

theorem p_ref02_Add_0 {T : Tab} (hio : TO T) (p q : Rat) (h0 : T.call fn_ref01_Mul [MV.agg [bN (ng p.num), MV.fs (nz p.num) none (cz p.num)], MV.agg [bN (ng ((q.den : Nat) : Int)), MV.fs (nz ((q.den : Nat) : Int)) none (cz ((q.den : Nat) : Int))]] = some (iM (p.num * ((q.den : Nat) : Int)), [])) (h1 : T.call fn_ref01_Mul [MV.agg [bN (ng q.num), MV.fs (nz q.num) none (cz q.num)], MV.agg [bN (ng ((p.den : Nat) : Int)), MV.fs (nz ((p.den : Nat) : Int)) none (cz ((p.den : Nat) : Int))]] = some (iM (q.num * ((p.den : Nat) : Int)), [])) (h2 : T.call fn_ref01_Add [MV.agg [bN (ng (p.num * ((q.den : Nat) : Int))), MV.fs (nz (p.num * ((q.den : Nat) : Int))) none (cz (p.num * ((q.den : Nat) : Int)))], MV.agg [bN (ng (q.num * ((p.den : Nat) : Int))), MV.fs (nz (q.num * ((p.den : Nat) : Int))) none (cz (q.num * ((p.den : Nat) : Int)))]] = some (iM ((p.num * ((q.den : Nat) : Int)) + (q.num * ((p.den : Nat) : Int))), [])) (h3 : T.call fn_ref01_Mul [MV.agg [bN (ng ((p.den : Nat) : Int)), MV.fs (nz ((p.den : Nat) : Int)) none (cz ((p.den : Nat) : Int))], MV.agg [bN (ng ((q.den : Nat) : Int)), MV.fs (nz ((q.den : Nat) : Int)) none (cz ((q.den : Nat) : Int))]] = some (iM (((p.den : Nat) : Int) * ((q.den : Nat) : Int)), [])) (h4 : T.call fn_ref02_Of [iM ((p.num * ((q.den : Nat) : Int)) + (q.num * ((p.den : Nat) : Int))), iM (((p.den : Nat) : Int) * ((q.den : Nat) : Int))] = some (rM (Rat.divInt ((p.num * ((q.den : Nat) : Int)) + (q.num * ((p.den : Nat) : Int))) (((p.den : Nat) : Int) * ((q.den : Nat) : Int))), [])) : evalBody PG T FUEL (ioF fn_ref02_Add) fn_ref02_Add [rM p, rM q] = some (MV.agg [bN (ng (((Rat.divInt ((p.num * ((q.den : Nat) : Int)) + (q.num * ((p.den : Nat) : Int))) (((p.den : Nat) : Int) * ((q.den : Nat) : Int)))).num)), MV.fs (nz (((Rat.divInt ((p.num * ((q.den : Nat) : Int)) + (q.num * ((p.den : Nat) : Int))) (((p.den : Nat) : Int) * ((q.den : Nat) : Int)))).num)) none (cz (((Rat.divInt ((p.num * ((q.den : Nat) : Int)) + (q.num * ((p.den : Nat) : Int))) (((p.den : Nat) : Int) * ((q.den : Nat) : Int)))).num)), bN (ng (((Rat.divInt ((p.num * ((q.den : Nat) : Int)) + (q.num * ((p.den : Nat) : Int))) (((p.den : Nat) : Int) * ((q.den : Nat) : Int))).den : Nat) : Int)), MV.fs (nz (((Rat.divInt ((p.num * ((q.den : Nat) : Int)) + (q.num * ((p.den : Nat) : Int))) (((p.den : Nat) : Int) * ((q.den : Nat) : Int))).den : Nat) : Int)) none (cz (((Rat.divInt ((p.num * ((q.den : Nat) : Int)) + (q.num * ((p.den : Nat) : Int))) (((p.den : Nat) : Int) * ((q.den : Nat) : Int))).den : Nat) : Int))], []) :=
  xBody_io (hard := false) hio (orc := [.call (iM (p.num * ((q.den : Nat) : Int))) [], .call (iM (q.num * ((p.den : Nat) : Int))) [], .call (iM ((p.num * ((q.den : Nat) : Int)) + (q.num * ((p.den : Nat) : Int)))) [], .call (iM (((p.den : Nat) : Int) * ((q.den : Nat) : Int))) [], .call (rM (Rat.divInt ((p.num * ((q.den : Nat) : Int)) + (q.num * ((p.den : Nat) : Int))) (((p.den : Nat) : Int) * ((q.den : Nat) : Int)))) []]) (by kernel_rfl) (owc h0 (owc h1 (owc h2 (owc h3 (ow1 h4)))))

theorem p_ref02_Sub_0 {T : Tab} (hio : TO T) (p q : Rat) (h0 : T.call fn_ref02_Neg [MV.agg [bN (ng q.num), MV.fs (nz q.num) none (cz q.num), bN (ng ((q.den : Nat) : Int)), MV.fs (nz ((q.den : Nat) : Int)) none (cz ((q.den : Nat) : Int))]] = some (rM (-q), [])) (h1 : T.call fn_ref02_Add [MV.agg [bN (ng p.num), MV.fs (nz p.num) none (cz p.num), bN (ng ((p.den : Nat) : Int)), MV.fs (nz ((p.den : Nat) : Int)) none (cz ((p.den : Nat) : Int))], rM (-q)] = some (rM (p + (-q)), [])) : evalBody PG T FUEL (ioF fn_ref02_Sub) fn_ref02_Sub [rM p, rM q] = some (MV.agg [bN (ng (((p + (-q))).num)), MV.fs (nz (((p + (-q))).num)) none (cz (((p + (-q))).num)), bN (ng (((p + (-q)).den : Nat) : Int)), MV.fs (nz (((p + (-q)).den : Nat) : Int)) none (cz (((p + (-q)).den : Nat) : Int))], []) :=
  xBody_io (hard := false) hio (orc := [.call (rM (-q)) [], .call (rM (p + (-q))) []]) (by kernel_rfl) (owc h0 (ow1 h1))

theorem p_ref02_Cmp_0 {T : Tab} (hio : TO T) (p q : Rat) (h0 : T.call fn_ref01_Mul [MV.agg [bN (ng p.num), MV.fs (nz p.num) none (cz p.num)], MV.agg [bN (ng ((q.den : Nat) : Int)), MV.fs (nz ((q.den : Nat) : Int)) none (cz ((q.den : Nat) : Int))]] = some (iM (p.num * ((q.den : Nat) : Int)), [])) (h1 : T.call fn_ref01_Mul [MV.agg [bN (ng q.num), MV.fs (nz q.num) none (cz q.num)], MV.agg [bN (ng ((p.den : Nat) : Int)), MV.fs (nz ((p.den : Nat) : Int)) none (cz ((p.den : Nat) : Int))]] = some (iM (q.num * ((p.den : Nat) : Int)), [])) (h2 : T.call fn_ref01_Cmp [iM (p.num * ((q.den : Nat) : Int)), iM (q.num * ((p.den : Nat) : Int))] = some (iN (cmpI (p.num * ((q.den : Nat) : Int)) (q.num * ((p.den : Nat) : Int))), [])) : evalBody PG T FUEL (ioF fn_ref02_Cmp) fn_ref02_Cmp [rM p, rM q] = some (iN (cmpI (p.num * ((q.den : Nat) : Int)) (q.num * ((p.den : Nat) : Int))), []) :=
  xBody_io (hard := false) hio (orc := [.call (iM (p.num * ((q.den : Nat) : Int))) [], .call (iM (q.num * ((p.den : Nat) : Int))) [], .call (iN (cmpI (p.num * ((q.den : Nat) : Int)) (q.num * ((p.den : Nat) : Int)))) []]) (by kernel_rfl) (owc h0 (owc h1 (ow1 h2)))

theorem p_ref02_Mul_0 {T : Tab} (hio : TO T) (p q : Rat) (h0 : T.call fn_ref01_Mul [MV.agg [bN (ng p.num), MV.fs (nz p.num) none (cz p.num)], MV.agg [bN (ng q.num), MV.fs (nz q.num) none (cz q.num)]] = some (iM (p.num * q.num), [])) (h1 : T.call fn_ref01_Mul [MV.agg [bN (ng ((p.den : Nat) : Int)), MV.fs (nz ((p.den : Nat) : Int)) none (cz ((p.den : Nat) : Int))], MV.agg [bN (ng ((q.den : Nat) : Int)), MV.fs (nz ((q.den : Nat) : Int)) none (cz ((q.den : Nat) : Int))]] = some (iM (((p.den : Nat) : Int) * ((q.den : Nat) : Int)), [])) (h2 : T.call fn_ref02_Of [iM (p.num * q.num), iM (((p.den : Nat) : Int) * ((q.den : Nat) : Int))] = some (rM (Rat.divInt (p.num * q.num) (((p.den : Nat) : Int) * ((q.den : Nat) : Int))), [])) : evalBody PG T FUEL (ioF fn_ref02_Mul) fn_ref02_Mul [rM p, rM q] = some (MV.agg [bN (ng (((Rat.divInt (p.num * q.num) (((p.den : Nat) : Int) * ((q.den : Nat) : Int)))).num)), MV.fs (nz (((Rat.divInt (p.num * q.num) (((p.den : Nat) : Int) * ((q.den : Nat) : Int)))).num)) none (cz (((Rat.divInt (p.num * q.num) (((p.den : Nat) : Int) * ((q.den : Nat) : Int)))).num)), bN (ng (((Rat.divInt (p.num * q.num) (((p.den : Nat) : Int) * ((q.den : Nat) : Int))).den : Nat) : Int)), MV.fs (nz (((Rat.divInt (p.num * q.num) (((p.den : Nat) : Int) * ((q.den : Nat) : Int))).den : Nat) : Int)) none (cz (((Rat.divInt (p.num * q.num) (((p.den : Nat) : Int) * ((q.den : Nat) : Int))).den : Nat) : Int))], []) :=
  xBody_io (hard := false) hio (orc := [.call (iM (p.num * q.num)) [], .call (iM (((p.den : Nat) : Int) * ((q.den : Nat) : Int))) [], .call (rM (Rat.divInt (p.num * q.num) (((p.den : Nat) : Int) * ((q.den : Nat) : Int)))) []]) (by kernel_rfl) (owc h0 (owc h1 (ow1 h2)))

theorem p_ref02_Div_0 {T : Tab} (hio : TO T) (p q : Rat) (h0 : T.call fn_ref01_Mul [MV.agg [bN (ng p.num), MV.fs (nz p.num) none (cz p.num)], MV.agg [bN (ng ((q.den : Nat) : Int)), MV.fs (nz ((q.den : Nat) : Int)) none (cz ((q.den : Nat) : Int))]] = some (iM (p.num * ((q.den : Nat) : Int)), [])) (h1 : T.call fn_ref01_Mul [MV.agg [bN (ng ((p.den : Nat) : Int)), MV.fs (nz ((p.den : Nat) : Int)) none (cz ((p.den : Nat) : Int))], MV.agg [bN (ng q.num), MV.fs (nz q.num) none (cz q.num)]] = some (iM (((p.den : Nat) : Int) * q.num), [])) (h2 : T.call fn_ref02_Make [iM (p.num * ((q.den : Nat) : Int)), iM (((p.den : Nat) : Int) * q.num)] = some (MV.tup [rM (Rat.divInt (p.num * ((q.den : Nat) : Int)) (((p.den : Nat) : Int) * q.num)), iN 0], [])) : evalBody PG T FUEL (ioF fn_ref02_Div) fn_ref02_Div [rM p, rM q] = some (MV.tup [MV.agg [bN (ng (((Rat.divInt (p.num * ((q.den : Nat) : Int)) (((p.den : Nat) : Int) * q.num))).num)), MV.fs (nz (((Rat.divInt (p.num * ((q.den : Nat) : Int)) (((p.den : Nat) : Int) * q.num))).num)) none (cz (((Rat.divInt (p.num * ((q.den : Nat) : Int)) (((p.den : Nat) : Int) * q.num))).num)), bN (ng (((Rat.divInt (p.num * ((q.den : Nat) : Int)) (((p.den : Nat) : Int) * q.num)).den : Nat) : Int)), MV.fs (nz (((Rat.divInt (p.num * ((q.den : Nat) : Int)) (((p.den : Nat) : Int) * q.num)).den : Nat) : Int)) none (cz (((Rat.divInt (p.num * ((q.den : Nat) : Int)) (((p.den : Nat) : Int) * q.num)).den : Nat) : Int))], iN 0], []) :=
  xBody_io (hard := false) hio (orc := [.call (iM (p.num * ((q.den : Nat) : Int))) [], .call (iM (((p.den : Nat) : Int) * q.num)) [], .call (MV.tup [rM (Rat.divInt (p.num * ((q.den : Nat) : Int)) (((p.den : Nat) : Int) * q.num)), iN 0]) []]) (by kernel_rfl) (owc h0 (owc h1 (ow1 h2)))

theorem p_ref02_Over_0 {T : Tab} (hio : TO T) (p q : Rat) (h0 : T.call fn_ref02_Div [MV.agg [bN (ng p.num), MV.fs (nz p.num) none (cz p.num), bN (ng ((p.den : Nat) : Int)), MV.fs (nz ((p.den : Nat) : Int)) none (cz ((p.den : Nat) : Int))], MV.agg [bN (ng q.num), MV.fs (nz q.num) none (cz q.num), bN (ng ((q.den : Nat) : Int)), MV.fs (nz ((q.den : Nat) : Int)) none (cz ((q.den : Nat) : Int))]] = some (MV.tup [rM (p / q), iN 0], [])) : evalBody PG T FUEL (ioF fn_ref02_Over) fn_ref02_Over [rM p, rM q] = some (MV.agg [bN (ng (((p / q)).num)), MV.fs (nz (((p / q)).num)) none (cz (((p / q)).num)), bN (ng (((p / q).den : Nat) : Int)), MV.fs (nz (((p / q).den : Nat) : Int)) none (cz (((p / q).den : Nat) : Int))], []) :=
  xBody_io (hard := false) hio (orc := [.call (MV.tup [rM (p / q), iN 0]) []]) (by kernel_rfl) (ow1 h0)

theorem p_ref02_Square_0 {T : Tab} (hio : TO T) (p : Rat) (h0 : T.call fn_ref02_Mul [MV.agg [bN (ng p.num), MV.fs (nz p.num) none (cz p.num), bN (ng ((p.den : Nat) : Int)), MV.fs (nz ((p.den : Nat) : Int)) none (cz ((p.den : Nat) : Int))], MV.agg [bN (ng p.num), MV.fs (nz p.num) none (cz p.num), bN (ng ((p.den : Nat) : Int)), MV.fs (nz ((p.den : Nat) : Int)) none (cz ((p.den : Nat) : Int))]] = some (rM (p * p), [])) : evalBody PG T FUEL (ioF fn_ref02_Square) fn_ref02_Square [rM p] = some (MV.agg [bN (ng (((p * p)).num)), MV.fs (nz (((p * p)).num)) none (cz (((p * p)).num)), bN (ng (((p * p).den : Nat) : Int)), MV.fs (nz (((p * p).den : Nat) : Int)) none (cz (((p * p).den : Nat) : Int))], []) :=
  xBody_io (hard := false) hio (orc := [.call (rM (p * p)) []]) (by kernel_rfl) (ow1 h0)

end Go.Proofs.YtkeelkeoijemiaaGreat.Ev

namespace Go.Proofs.YtkeelkeoijemiaaGreat.Ev
open Go Go.RowKit
set_option linter.unusedVariables false
set_option linter.unusedSimpArgs false

theorem c_ref02_unit {m : Nat} (hm : 3 < m) : (TU m).call fn_ref02_unit [] = some (iM 1, []) :=
  TU_call (by omega) rfl rfl (args' := []) rfl (p_ref02_unit_0 (TU_io _) (by exact c_ref01_FromInt64 (by omega) (by omega))) (uncap_iM 1)
theorem c_ref02_FromInt64 {m : Nat} (hm : 4 < m) {x : Int} (h : -9223372036854775808 ≤ x ∧ x ≤ 9223372036854775807) : (TU m).call fn_ref02_FromInt64 [iN x] = some (rM (x : Rat), []) := by
  refine TU_call (by omega) rfl rfl (args' := [iN x]) rfl (p_ref02_FromInt64_0 (TU_io _) x (by exact c_ref01_FromInt64 (by omega) h) (by exact c_ref02_unit (by omega))) ?_
  rw [rM_of (q := (x : Rat)) (Rat.num_intCast x).symm (by rw [Rat.den_intCast]; rfl)]
  exact uncap_rM _
theorem c_ref02_Of {m : Nat} (hm : 5 < m) {a b : Int} (hb : b ≠ 0) (ha : nz a ≤ 8000) (hbz : nz b ≤ 8000) : (TU m).call fn_ref02_Of [iM a, iM b] = some (rM (Rat.divInt a b), []) := by
  have hio := TU_io (m - 1)
  have hu : uncaps [iM a, iM b] = [iM a, iM b] := by rw [uncaps_iM, uncaps_iM]; rfl
  have sgn : (TU (m - 1)).call fn_ref01_Sign [iM b] = some (iN (cmpI b 0), []) := c_ref01_Sign (by omega) b
  have main : ∀ x y : Int, 0 < y → nz x ≤ 8000 → nz y ≤ 8000 →
      (TU (m - 1)).call fn_ref01_GCD [iM x, iM y] = some (iM ((Nat.gcd x.natAbs y.natAbs : Nat) : Int), []) ∧
      (TU (m - 1)).call fn_ref01_DivMod [iM x, iM ((Nat.gcd x.natAbs y.natAbs : Nat) : Int)] = some (.tup [iM (x.fdiv ((Nat.gcd x.natAbs y.natAbs : Nat) : Int)), iM (x.fmod ((Nat.gcd x.natAbs y.natAbs : Nat) : Int)), iN 0], []) ∧
      (TU (m - 1)).call fn_ref01_DivMod [iM y, iM ((Nat.gcd x.natAbs y.natAbs : Nat) : Int)] = some (.tup [iM (y.fdiv ((Nat.gcd x.natAbs y.natAbs : Nat) : Int)), iM (y.fmod ((Nat.gcd x.natAbs y.natAbs : Nat) : Int)), iN 0], []) := by
    intro x y hy hx1 hy1
    have h1 := nz_gcd_le x y (by omega)
    have h0 : ((Nat.gcd x.natAbs y.natAbs : Nat) : Int) ≠ 0 := by have := Nat.gcd_pos_of_pos_right x.natAbs (show 0 < y.natAbs by omega); omega
    exact ⟨c_ref01_GCD (by omega) hx1 hy1, c_ref01_DivMod (by omega) h0 (by omega) (by omega), c_ref01_DivMod (by omega) h0 (by omega) (by omega)⟩
  by_cases hneg : b < 0
  · have br : (bN (decide ((cmpI b 0) < (0 : Int))) : MV) = .sc (.bool true) := sc_b (decide_eq_true (by rw [cmpI, if_pos hneg]; omega))
    have na : (TU (m - 1)).call fn_ref01_Neg [iM a] = some (iM (-a), []) := c_ref01_Neg (by omega) (by omega)
    have nb : (TU (m - 1)).call fn_ref01_Neg [iM b] = some (iM (-b), []) := c_ref01_Neg (by omega) (by omega)
    obtain ⟨g1, g2, g3⟩ := main (-a) (-b) (by omega) (by rw [nz_neg]; exact ha) (by rw [nz_neg]; exact hbz)
    obtain ⟨e1, e2⟩ := reduce_parts (a := -a) (b := -b) (by omega)
    rw [divInt_neg_neg a b hb] at e1 e2
    refine TU_call (by omega) rfl rfl (args' := [iM a, iM b]) hu (p_ref02_Of_0 hio a b sgn br na nb g1 g2 g3) ?_
    rw [rM_of e1 e2]
    exact uncap_rM _
  · have br : (bN (decide ((cmpI b 0) < (0 : Int))) : MV) = .sc (.bool false) := sc_b (decide_eq_false (by rw [cmpI, if_neg hneg]; split <;> omega))
    obtain ⟨g1, g2, g3⟩ := main a b (by omega) ha hbz
    obtain ⟨e1, e2⟩ := reduce_parts (a := a) (b := b) (by omega)
    refine TU_call (by omega) rfl rfl (args' := [iM a, iM b]) hu (p_ref02_Of_1 hio a b sgn br g1 g2 g3) ?_
    rw [rM_of e1 e2]
    exact uncap_rM _
theorem c_ref02_Make {m : Nat} (hm : 6 < m) {a b : Int} (hb : b ≠ 0) (ha : nz a ≤ 8000) (hbz : nz b ≤ 8000) : (TU m).call fn_ref02_Make [iM a, iM b] = some (.tup [rM (Rat.divInt a b), iN 0], []) := by
  have hc : cmpI b 0 ≠ 0 := by unfold cmpI; split <;> (try split) <;> omega
  have g := p_ref02_Make_1 (TU_io (m - 1)) a b (by exact c_ref01_Sign (by omega) b) (sc_b (by simpa using hc)) (by exact c_ref02_Of (by omega) hb ha hbz)
  exact TU_call (by omega) rfl rfl (args' := [iM a, iM b]) (by rw [uncaps_iM, uncaps_iM]; rfl) g (uncap_tupR _ _)
theorem c_ref02_Frac {m : Nat} (hm : 6 < m) {x y : Int} (hx : -9223372036854775808 ≤ x ∧ x ≤ 9223372036854775807) (hy : -9223372036854775808 ≤ y ∧ y ≤ 9223372036854775807) : (TU m).call fn_ref02_Frac [iN x, iN y] = some (rM (Rat.divInt x y), []) := by
  have hio := TU_io (m - 1)
  by_cases h : y = 0
  · subst h
    have g := p_ref02_Frac_0 hio x 0 (sc_b rfl) (by exact c_ref01_FromInt64 (by omega) (by omega)) (by exact c_ref01_FromInt64 (by omega) (by omega)) (by exact c_ref02_Of (by omega) (by omega) (by decide) (by decide))
    rw [show Rat.divInt x 0 = Rat.divInt 0 1 by rw [Rat.divInt_zero, Rat.zero_divInt]]
    exact TU_call (by omega) rfl rfl (args' := [iN x, iN 0]) rfl g (uncap_rM _)
  · have g := p_ref02_Frac_1 hio x y (sc_b (by simpa using h)) (by exact c_ref01_FromInt64 (by omega) hx) (by exact c_ref01_FromInt64 (by omega) hy) (by exact c_ref02_Of (by omega) h (by have := nz_i64 hx; omega) (by have := nz_i64 hy; omega))
    exact TU_call (by omega) rfl rfl (args' := [iN x, iN y]) rfl g (uncap_rM _)
theorem c_ref02_Sign {m : Nat} (hm : 1 < m) (p : Rat) : (TU m).call fn_ref02_Sign [rM p] = some (iN (cmpI p.num 0), []) :=
  TU_call (by omega) rfl rfl (args' := [rM p]) (by rw [uncaps_rM]; rfl) (p_ref02_Sign_0 (TU_io _) p (by exact c_ref01_Sign (by omega) _)) rfl
theorem c_ref02_Neg {m : Nat} (hm : 3 < m) {p : Rat} {j : Nat} (hp : Sz j p) (hj : j < 100000) : (TU m).call fn_ref02_Neg [rM p] = some (rM (-p), []) := by
  have := hp.n
  refine TU_call (by omega) rfl rfl (args' := [rM p]) (by rw [uncaps_rM]; rfl) (p_ref02_Neg_0 (TU_io _) p (by exact c_ref01_Neg (by omega) (by omega))) ?_
  rw [rM_of (q := -p) (Rat.neg_num p).symm (by rw [Rat.neg_den])]
  exact uncap_rM _
theorem c_ref02_Cmp {m : Nat} (hm : 3 < m) {p q : Rat} {j k : Nat} (hp : Sz j p) (hq : Sz k q) (hjk : j + k < 50000) : (TU m).call fn_ref02_Cmp [rM p, rM q] = some (iN (cmpQ p q), []) := by
  have hio := TU_io (m - 1)
  have := hp.n; have := hp.d; have := hq.n; have := hq.d
  have h1 := nz_mul p.num ((q.den : Nat) : Int)
  have h2 := nz_mul q.num ((p.den : Nat) : Int)
  refine TU_call (by omega) rfl rfl (args' := [rM p, rM q]) (by rw [uncaps_rM, uncaps_rM]; rfl) (r := iN (cmpQ p q)) ?_ rfl
  rw [cmpQ_cross]
  exact p_ref02_Cmp_0 hio p q (by exact c_ref01_Mul (by omega) (by omega)) (by exact c_ref01_Mul (by omega) (by omega)) (by exact c_ref01_Cmp (by omega) (by omega) (by omega))
theorem c_ref02_Add {m : Nat} (hm : 6 < m) {p q : Rat} {j k : Nat} (hp : Sz j p) (hq : Sz k q) (hjk : 2 * j + 2 * k < 8000) : (TU m).call fn_ref02_Add [rM p, rM q] = some (rM (p + q), []) := by
  have hio := TU_io (m - 1)
  have := hp.n; have := hp.d; have := hq.n; have := hq.d
  have hu : uncaps [rM p, rM q] = [rM p, rM q] := by rw [uncaps_rM, uncaps_rM]; rfl
  have h1 := nz_add (p.num * ((q.den : Nat) : Int)) (q.num * ((p.den : Nat) : Int))
  have h2 := nz_mul p.num ((q.den : Nat) : Int)
  have h3 := nz_mul q.num ((p.den : Nat) : Int)
  have h4 := nz_mul ((p.den : Nat) : Int) ((q.den : Nat) : Int)
  have g := p_ref02_Add_0 hio p q (by exact c_ref01_Mul (by omega) (by omega)) (by exact c_ref01_Mul (by omega) (by omega)) (by exact c_ref01_Add (by omega) (by omega) (by omega)) (by exact c_ref01_Mul (by omega) (by omega)) (by exact c_ref02_Of (by omega) (Int.mul_ne_zero (den_ne p) (den_ne q)) (by omega) (by omega))
  rw [add_divInt p q]
  exact TU_call (by omega) rfl rfl (args' := [rM p, rM q]) hu g (uncap_rM _)
theorem c_ref02_Sub {m : Nat} (hm : 7 < m) {p q : Rat} {j k : Nat} (hp : Sz j p) (hq : Sz k q) (hjk : 2 * j + 2 * k < 8000) : (TU m).call fn_ref02_Sub [rM p, rM q] = some (rM (p - q), []) := by
  have g := p_ref02_Sub_0 (TU_io (m - 1)) p q (by exact c_ref02_Neg (by omega) hq (by omega)) (by exact c_ref02_Add (by omega) hp hq.neg hjk)
  rw [Rat.sub_eq_add_neg]
  exact TU_call (by omega) rfl rfl (args' := [rM p, rM q]) (by rw [uncaps_rM, uncaps_rM]; rfl) g (uncap_rM _)
theorem c_ref02_Mul {m : Nat} (hm : 6 < m) {p q : Rat} {j k : Nat} (hp : Sz j p) (hq : Sz k q) (hjk : j + k < 8000) : (TU m).call fn_ref02_Mul [rM p, rM q] = some (rM (p * q), []) := by
  have := hp.n; have := hp.d; have := hq.n; have := hq.d
  have h2 := nz_mul p.num q.num
  have h4 := nz_mul ((p.den : Nat) : Int) ((q.den : Nat) : Int)
  have g := p_ref02_Mul_0 (TU_io (m - 1)) p q (by exact c_ref01_Mul (by omega) (by omega)) (by exact c_ref01_Mul (by omega) (by omega)) (by exact c_ref02_Of (by omega) (Int.mul_ne_zero (den_ne p) (den_ne q)) (by omega) (by omega))
  rw [mul_divInt p q]
  exact TU_call (by omega) rfl rfl (args' := [rM p, rM q]) (by rw [uncaps_rM, uncaps_rM]; rfl) g (uncap_rM _)
theorem c_ref02_Div {m : Nat} (hm : 7 < m) {p q : Rat} {j k : Nat} (hp : Sz j p) (hq : Sz k q) (hjk : j + k < 8000) (h0 : q ≠ 0) : (TU m).call fn_ref02_Div [rM p, rM q] = some (.tup [rM (p / q), iN 0], []) := by
  have := hp.n; have := hp.d; have := hq.n; have := hq.d
  have h2 := nz_mul p.num ((q.den : Nat) : Int)
  have h4 := nz_mul ((p.den : Nat) : Int) q.num
  have g := p_ref02_Div_0 (TU_io (m - 1)) p q (by exact c_ref01_Mul (by omega) (by omega)) (by exact c_ref01_Mul (by omega) (by omega)) (by exact c_ref02_Make (by omega) (Int.mul_ne_zero (den_ne p) (num_ne h0)) (by omega) (by omega))
  rw [div_divInt p q]
  exact TU_call (by omega) rfl rfl (args' := [rM p, rM q]) (by rw [uncaps_rM, uncaps_rM]; rfl) g (uncap_tupR _ _)
theorem c_ref02_Over {m : Nat} (hm : 8 < m) {p q : Rat} {j k : Nat} (hp : Sz j p) (hq : Sz k q) (hjk : j + k < 8000) (h0 : q ≠ 0) : (TU m).call fn_ref02_Over [rM p, rM q] = some (rM (p / q), []) := by
  have g := p_ref02_Over_0 (TU_io (m - 1)) p q (by exact c_ref02_Div (by omega) hp hq hjk h0)
  exact TU_call (by omega) rfl rfl (args' := [rM p, rM q]) (by rw [uncaps_rM, uncaps_rM]; rfl) g (uncap_rM _)
theorem c_ref02_Square {m : Nat} (hm : 7 < m) {p : Rat} {j : Nat} (hp : Sz j p) (hj : j < 4000) : (TU m).call fn_ref02_Square [rM p] = some (rM (p * p), []) := by
  have g := p_ref02_Square_0 (TU_io (m - 1)) p (by exact c_ref02_Mul (by omega) hp hp (by omega))
  exact TU_call (by omega) rfl rfl (args' := [rM p]) (by rw [uncaps_rM]; rfl) g (uncap_rM _)
end Go.Proofs.YtkeelkeoijemiaaGreat.Ev

namespace Go.Proofs.YtkeelkeoijemiaaGreat.Ev
open Go Go.RowKit
set_option linter.unusedVariables false
set_option linter.unusedSimpArgs false

abbrev iA (x : Int) : AV := .sc (.int .i64 x)
abbrev bA (b : Bool) : AV := .sc (.bool b)
abbrev In64 (n : Int) : Prop := -9223372036854775808 ≤ n ∧ n ≤ 9223372036854775807

theorem nz_add1 {a b : Int} {k : Nat} (ha : nz a ≤ k) (hb : nz b ≤ k) : nz (a + b) ≤ k + 1 := by
  refine nz_le ?_
  have h1 := Int.natAbs_add_le a b
  have h2 : a.natAbs < BB ^ k := Nat.lt_of_lt_of_le (nl_lt _) (Nat.pow_le_pow_right BB_pos ha)
  have h3 : b.natAbs < BB ^ k := Nat.lt_of_lt_of_le (nl_lt _) (Nat.pow_le_pow_right BB_pos hb)
  have h4 := Nat.mul_le_mul_left (BB ^ k) (show 2 ≤ BB by decide)
  rw [Nat.pow_succ]
  omega
theorem Sz.add1 {j k : Nat} {p q : Rat} (hp : Sz j p) (hq : Sz k q) : Sz (j + k + 1) (p + q) := by
  rw [add_divInt]
  have h2 := nz_mul p.num ((q.den : Nat) : Int)
  have h3 := nz_mul q.num ((p.den : Nat) : Int)
  have h4 := nz_mul ((p.den : Nat) : Int) ((q.den : Nat) : Int)
  have := hp.n; have := hp.d; have := hq.n; have := hq.d
  exact Sz.divInt (nz_add1 (by omega) (by omega)) (by omega) (Int.mul_ne_zero (den_ne p) (den_ne q))
theorem Sz.sub1 {j k : Nat} {p q : Rat} (hp : Sz j p) (hq : Sz k q) : Sz (j + k + 1) (p - q) := by
  rw [Rat.sub_eq_add_neg]; exact hp.add1 hq.neg

/-- Functions of fractions and numbers, by what they answer. -/
def run1 (C : Nat → Rat → Bool) (g : Nat → Rat → AV) : List AV → List (Bool × AV)
  | [.q i x] => [(C i x, g i x)]
  | _ => []
def run2 (C : Nat → Nat → Rat → Rat → Bool) (g : Nat → Nat → Rat → Rat → AV) : List AV → List (Bool × AV)
  | [.q i x, .q j y] => [(C i j x y, g i j x y)]
  | _ => []
def runI (C : Int → Bool) (g : Int → AV) : List AV → List (Bool × AV)
  | [.sc (.int .i64 x)] => [(C x, g x)]
  | _ => []
def runI2 (C : Int → Int → Bool) (g : Int → Int → AV) : List AV → List (Bool × AV)
  | [.sc (.int .i64 x), .sc (.int .i64 y)] => [(C x y, g x y)]
  | _ => []
def c1 (f lv : Nat) (C : Nat → Rat → Bool) (g : Nat → Rat → AV) (h : ∀ n, lv ≤ n → ∀ i x, C i x = true → Sz i x → ∃ m, (TU n).call f [rM x] = some (m, []) ∧ Rel (g i x) m) : Ctr :=
  ⟨f, run1 C g, lv, fun n hn args r ms h' hr => by
    unfold run1 at h'
    split at h'
    · simp only [List.mem_singleton, Prod.mk.injEq] at h'
      obtain ⟨m, l, rfl, ⟨rfl, h1⟩, rfl⟩ := hr
      rw [h'.2]; exact h n hn _ _ h'.1.symm h1
    · cases h'⟩
def c2 (f lv : Nat) (C : Nat → Nat → Rat → Rat → Bool) (g : Nat → Nat → Rat → Rat → AV) (h : ∀ n, lv ≤ n → ∀ i j x y, C i j x y = true → Sz i x → Sz j y → ∃ m, (TU n).call f [rM x, rM y] = some (m, []) ∧ Rel (g i j x y) m) : Ctr :=
  ⟨f, run2 C g, lv, fun n hn args r ms h' hr => by
    unfold run2 at h'
    split at h'
    · simp only [List.mem_singleton, Prod.mk.injEq] at h'
      obtain ⟨m, l, rfl, ⟨rfl, h1⟩, m2, l2, rfl, ⟨rfl, h2⟩, rfl⟩ := hr
      rw [h'.2]; exact h n hn _ _ _ _ h'.1.symm h1 h2
    · cases h'⟩
def cI (f lv : Nat) (C : Int → Bool) (g : Int → AV) (h : ∀ n, lv ≤ n → ∀ x, C x = true → ∃ m, (TU n).call f [iN x] = some (m, []) ∧ Rel (g x) m) : Ctr :=
  ⟨f, runI C g, lv, fun n hn args r ms h' hr => by
    unfold runI at h'
    split at h'
    · simp only [List.mem_singleton, Prod.mk.injEq] at h'
      obtain ⟨m, l, rfl, rfl, rfl⟩ := hr
      rw [h'.2]; exact h n hn _ h'.1.symm
    · cases h'⟩
def cI2 (f lv : Nat) (C : Int → Int → Bool) (g : Int → Int → AV) (h : ∀ n, lv ≤ n → ∀ x y, C x y = true → ∃ m, (TU n).call f [iN x, iN y] = some (m, []) ∧ Rel (g x y) m) : Ctr :=
  ⟨f, runI2 C g, lv, fun n hn args r ms h' hr => by
    unfold runI2 at h'
    split at h'
    · simp only [List.mem_singleton, Prod.mk.injEq] at h'
      obtain ⟨m, l, rfl, rfl, m2, l2, rfl, rfl, rfl⟩ := hr
      rw [h'.2]; exact h n hn _ _ h'.1.symm
    · cases h'⟩

def k_Add : Ctr := c2 fn_rational_Add 8 (fun i j _ _ => decide (2 * i + 2 * j < 8000)) (fun i j x y => .q (i + j + 1) (x + y)) fun n hn i j x y hc h1 h2 => ⟨_, c_rational_Add (by omega) h1 h2 (of_decide_eq_true hc), rfl, h1.add1 h2⟩
def k_Sub : Ctr := c2 fn_rational_Sub 9 (fun i j _ _ => decide (2 * i + 2 * j < 8000)) (fun i j x y => .q (i + j + 1) (x - y)) fun n hn i j x y hc h1 h2 => ⟨_, c_rational_Sub (by omega) h1 h2 (of_decide_eq_true hc), rfl, h1.sub1 h2⟩
def k_Mul : Ctr := c2 fn_rational_Mul 8 (fun i j _ _ => decide (i + j < 8000)) (fun i j x y => .q (i + j) (x * y)) fun n hn i j x y hc h1 h2 => ⟨_, c_rational_Mul (by omega) h1 h2 (of_decide_eq_true hc), rfl, h1.mul h2⟩
def k_Cmp : Ctr := c2 fn_rational_Cmp 6 (fun i j _ _ => decide (i + j < 50000)) (fun i j x y => iA (cmpQ x y)) fun n hn i j x y hc h1 h2 => ⟨_, c_rational_Cmp (by omega) h1 h2 (of_decide_eq_true hc), rfl⟩
def k_Neg : Ctr := c1 fn_rational_Neg 3 (fun i _ => decide (i < 100000)) (fun i x => .q i (-x)) fun n hn i x hc h1 => ⟨_, c_rational_Neg (by omega) h1 (of_decide_eq_true hc), rfl, h1.neg⟩
def k_Sign : Ctr := c1 fn_rational_Sign 2 (fun _ _ => true) (fun i x => iA (cmpI x.num 0)) fun n hn i x hc h1 => ⟨_, c_rational_Sign (by omega) x, rfl⟩
def k_From : Ctr := cI fn_rational_FromInt64 5 (fun x => decide (In64 x)) (fun x => .q 3 (x : Rat)) fun n hn x hc => ⟨_, c_rational_FromInt64 (by omega) (of_decide_eq_true hc), rfl, Sz.i64 (of_decide_eq_true hc)⟩
def runDiv : List AV → List (Bool × AV)
  | [.q i x, .q j y] => [(decide (i + j < 8000) && decide (y ≠ 0), .tup [.q (i + j) (x / y), iA 0]), (decide (y = 0), .tup [.any, iA 6])]
  | _ => []
def k_Div : Ctr := ⟨fn_rational_Div, runDiv, 8, fun n hn args r ms h hr => by
  unfold runDiv at h
  split at h
  · obtain ⟨m, l, rfl, ⟨rfl, h1⟩, m2, l2, rfl, ⟨rfl, h2⟩, rfl⟩ := hr
    simp only [List.mem_cons, Prod.mk.injEq, List.not_mem_nil, or_false] at h
    rcases h with ⟨hc, rfl⟩ | ⟨hc, rfl⟩
    · obtain ⟨h3, h4⟩ := Bool.and_eq_true_iff.1 hc.symm
      have h3 := of_decide_eq_true h3
      have h4 := of_decide_eq_true h4
      exact ⟨_, c_rational_Div (by omega) h1 h2 h3 h4, _, rfl, _, _, rfl, ⟨rfl, h1.div h2 h4⟩, _, _, rfl, rfl, rfl⟩
    · have h4 := of_decide_eq_true hc.symm
      subst h4
      exact ⟨_, c_rational_Div0 (by omega), _, rfl, _, _, rfl, trivial, _, _, rfl, rfl, rfl⟩
  · cases h⟩
/-- The program's fractions. -/
def kQ : List Ctr := [k_Add, k_Sub, k_Mul, k_Cmp, k_Neg, k_Sign, k_From, k_Div]

def r_Add : Ctr := c2 fn_ref02_Add 7 (fun i j _ _ => decide (2 * i + 2 * j < 8000)) (fun i j x y => .q (i + j + 1) (x + y)) fun n hn i j x y hc h1 h2 => ⟨_, c_ref02_Add (by omega) h1 h2 (of_decide_eq_true hc), rfl, h1.add1 h2⟩
def r_Sub : Ctr := c2 fn_ref02_Sub 8 (fun i j _ _ => decide (2 * i + 2 * j < 8000)) (fun i j x y => .q (i + j + 1) (x - y)) fun n hn i j x y hc h1 h2 => ⟨_, c_ref02_Sub (by omega) h1 h2 (of_decide_eq_true hc), rfl, h1.sub1 h2⟩
def r_Mul : Ctr := c2 fn_ref02_Mul 7 (fun i j _ _ => decide (i + j < 8000)) (fun i j x y => .q (i + j) (x * y)) fun n hn i j x y hc h1 h2 => ⟨_, c_ref02_Mul (by omega) h1 h2 (of_decide_eq_true hc), rfl, h1.mul h2⟩
def r_Cmp : Ctr := c2 fn_ref02_Cmp 4 (fun i j _ _ => decide (i + j < 50000)) (fun i j x y => iA (cmpQ x y)) fun n hn i j x y hc h1 h2 => ⟨_, c_ref02_Cmp (by omega) h1 h2 (of_decide_eq_true hc), rfl⟩
def r_Neg : Ctr := c1 fn_ref02_Neg 4 (fun i _ => decide (i < 100000)) (fun i x => .q i (-x)) fun n hn i x hc h1 => ⟨_, c_ref02_Neg (by omega) h1 (of_decide_eq_true hc), rfl, h1.neg⟩
def r_Sign : Ctr := c1 fn_ref02_Sign 2 (fun _ _ => true) (fun i x => iA (cmpI x.num 0)) fun n hn i x hc h1 => ⟨_, c_ref02_Sign (by omega) x, rfl⟩
def r_Square : Ctr := c1 fn_ref02_Square 8 (fun i _ => decide (i < 4000)) (fun i x => .q (i + i) (x * x)) fun n hn i x hc h1 => ⟨_, c_ref02_Square (by omega) h1 (of_decide_eq_true hc), rfl, h1.mul h1⟩
def r_From : Ctr := cI fn_ref02_FromInt64 5 (fun x => decide (In64 x)) (fun x => .q 3 (x : Rat)) fun n hn x hc => ⟨_, c_ref02_FromInt64 (by omega) (of_decide_eq_true hc), rfl, Sz.i64 (of_decide_eq_true hc)⟩
theorem Sz.frac {x y : Int} (hx : In64 x) (hy : In64 y) : Sz 3 (Rat.divInt x y) := by
  by_cases h : y = 0
  · subst h
    rw [show Rat.divInt x 0 = Rat.divInt 0 1 by rw [Rat.divInt_zero, Rat.zero_divInt]]
    exact Sz.divInt (by decide) (by decide) (by decide)
  · exact Sz.divInt (nz_i64 hx) (nz_i64 hy) h
def r_Frac : Ctr := cI2 fn_ref02_Frac 7 (fun x y => decide (In64 x ∧ In64 y)) (fun x y => .q 3 (Rat.divInt x y)) fun n hn x y hc => ⟨_, c_ref02_Frac (by omega) (of_decide_eq_true hc).1 (of_decide_eq_true hc).2, rfl, Sz.frac (of_decide_eq_true hc).1 (of_decide_eq_true hc).2⟩
def r_Over : Ctr := c2 fn_ref02_Over 9 (fun i j _ y => decide (i + j < 8000) && decide (y ≠ 0)) (fun i j x y => .q (i + j) (x / y)) fun n hn i j x y hc h1 h2 => ⟨_, c_ref02_Over (by omega) h1 h2 (of_decide_eq_true (Bool.and_eq_true_iff.1 hc).1) (of_decide_eq_true (Bool.and_eq_true_iff.1 hc).2), rfl, h1.div h2 (of_decide_eq_true (Bool.and_eq_true_iff.1 hc).2)⟩
/-- The reference's fractions. -/
def kR : List Ctr := [r_Add, r_Sub, r_Mul, r_Cmp, r_Neg, r_Sign, r_Square, r_From, r_Frac, r_Over]
end Go.Proofs.YtkeelkeoijemiaaGreat.Ev

namespace Go.Proofs.YtkeelkeoijemiaaGreat.Ev
open Go Go.RowKit
set_option linter.unusedVariables false
set_option linter.unusedSimpArgs false

/-- A shape: read off a value; what is read holds of it. -/
structure Shp (α : Type) where
  dec : AV → Option α
  enc : α → AV
  ok : ∀ a x, dec a = some x → (∀ m, Rel (uncapA a) m → Rel (enc x) m) ∧ ∀ c, RelC [uncapA a] c → RelC [enc x] c
structure Shps (α : Type) where
  dec : List AV → Option α
  enc : α → List AV
  ok : ∀ a x, dec a = some x → (∀ m, RelT (uncapAs a) m → RelT (enc x) m) ∧ ∀ c, RelC (uncapAs a) c → RelC (enc x) c
theorem cell1 {a b : AV} (ha : isPart a = false) (hb : isPart b = false) (h : ∀ m, Rel a m → Rel b m) : ∀ c, RelC [a] c → RelC [b] c := by
  intro c hc
  obtain ⟨m, r, rfl, h1, h2⟩ := (relC_cons ha).1 hc
  exact (relC_cons hb).2 ⟨m, r, rfl, h m h1, h2⟩
def sK (k : IntKind) : Shp Int where
  dec | .sc (.int k' x) => if k' = k then some x else none
      | _ => none
  enc x := .sc (.int k x)
  ok a x h := by
    split at h
    · split at h
      · rename_i hk; subst hk; cases h; exact ⟨fun _ h => h, fun _ h => h⟩
      · cases h
    · cases h
abbrev sI : Shp Int := sK .i64
/-- A fraction of at most so many limbs. -/
def sQ (K : Nat) : Shp Rat where
  dec | .q i x => if i ≤ K then some x else none
      | _ => none
  enc x := .q K x
  ok a x h := by
    split at h
    · split at h
      · rename_i hk
        cases h
        refine ⟨fun m h => ⟨h.1, h.2.mono hk⟩, fun c h => ?_⟩
        obtain ⟨r, e, h1, h2⟩ := h
        exact ⟨r, e, h1.mono hk, h2⟩
      · cases h
    · cases h
def sArr (sh : List Kd) : Shp (Nat × Fam) where
  dec | .arr _ sh' n F => if sh' = sh then some (n, F) else none
      | _ => none
  enc x := .arr none sh x.1 x.2
  ok a x h := by
    split at h
    · split at h
      · rename_i hk; subst hk; cases h; exact ⟨fun _ h => h, fun _ h => h⟩
      · cases h
    · cases h
def sN : Shps Unit where
  dec | [] => some ()
      | _ => none
  enc _ := []
  ok a x h := by
    split at h
    · exact ⟨fun _ h => h, fun _ h => h⟩
    · cases h
def sC {α β : Type} (s : Shp α) (L : Shps β) : Shps (α × β) where
  dec | a :: r => match s.dec a, L.dec r with
        | some x, some y => some (x, y)
        | _, _ => none
      | [] => none
  enc x := s.enc x.1 :: L.enc x.2
  ok a x h := by
    split at h
    · rename_i a r
      split at h
      · rename_i y z h1 h2
        cases h
        obtain ⟨s1, s2⟩ := s.ok a y h1
        obtain ⟨l1, l2⟩ := L.ok r z h2
        refine ⟨fun m h => ?_, fun c h => ?_⟩
        · obtain ⟨m, t, rfl, h3, h4⟩ := h
          exact ⟨m, t, rfl, s1 m h3, l1 t h4⟩
        · obtain ⟨d, t, rfl, h3, h4, _⟩ := relC_cases h
          exact relC_app1 (s2 d h4) (l2 t h3)
      · cases h
    · cases h
/-- A struct. -/
def sA {α : Type} (L : Shps α) : Shp α where
  dec | .agg cs => L.dec cs
      | _ => none
  enc x := .agg (L.enc x)
  ok a x h := by
    split at h
    · rename_i cs
      have h1 : ∀ m, Rel (uncapA (.agg cs)) m → Rel (.agg (L.enc x)) m := fun m hm => by
        obtain ⟨ms, rfl, h2⟩ := hm
        exact ⟨ms, rfl, (L.ok cs x h).2 ms h2⟩
      exact ⟨h1, cell1 rfl rfl h1⟩
    · cases h
abbrev s1 {α : Type} (a : Shp α) : Shps (α × Unit) := sC a sN
abbrev s2 {α β : Type} (a : Shp α) (b : Shp β) : Shps (α × β × Unit) := sC a (s1 b)
abbrev s3 {α β γ : Type} (a : Shp α) (b : Shp β) (c : Shp γ) : Shps (α × β × γ × Unit) := sC a (s2 b c)
abbrev s4 {α β γ δ : Type} (a : Shp α) (b : Shp β) (c : Shp γ) (d : Shp δ) : Shps (α × β × γ × δ × Unit) := sC a (s3 b c d)
abbrev s5 {α β γ δ ε : Type} (a : Shp α) (b : Shp β) (c : Shp γ) (d : Shp δ) (e : Shp ε) : Shps (α × β × γ × δ × ε × Unit) := sC a (s4 b c d e)

/-- A contract by shapes. -/
def mkT {α : Type} (l : List Ctr) (d f : Nat) (A : Shps α) (run : α → List (Bool × AV)) (hio : ioF f = []) (hk : kpF f = false) {sp : Nat → Option LSpec} (hsp : SpecOK (hC l d) f sp)
    (h : ∀ x r, (true, r) ∈ run x → ∃ r', bdA l d f sp (A.enc x) some = some r' ∧ ∀ m, Rel (uncapA r') m → Rel r m) : Ctr :=
  ⟨f, fun args => match A.dec args with | some x => run x | none => [], tabL l + d + 1, ctr_ok hsp hio hk fun args r hr => by
    split at hr
    · rename_i x hx
      obtain ⟨r', h1, h2⟩ := h x r hr
      exact ⟨_, r', (A.ok args x hx).1, h1, h2⟩
    · cases hr⟩
/-- One answer, under a condition. -/
def mk1 {α : Type} (l : List Ctr) (d f : Nat) (A : Shps α) (C : α → Bool) (g : α → AV) (hio : ioF f = []) (hk : kpF f = false) (hu : ∀ x, uncapA (g x) = g x)
    (h : ∀ x, C x = true → bdA l d f noSp (A.enc x) some = some (g x)) : Ctr :=
  mkT l d f A (fun x => [(C x, g x)]) hio hk noSp_ok fun x r hr => by
    simp only [List.mem_singleton, Prod.mk.injEq] at hr
    obtain ⟨h1, rfl⟩ := hr
    exact ⟨_, h x h1.symm, fun m hm => by rw [hu] at hm; exact hm⟩
end Go.Proofs.YtkeelkeoijemiaaGreat.Ev

namespace Go.Proofs.YtkeelkeoijemiaaGreat.Ev
open Go
set_option linter.unusedVariables false
set_option linter.unusedSimpArgs false

def cmp3 (a b : Int) : Int := if a > b then 1 else if a < b then -1 else 0
def farb (a : Int) : Bool := decide (a > 10000000) || decide (a < -10000000)
/-- A position. -/
abbrev sG : Shp (Int × Int × Unit) := sA (s2 sI sI)
abbrev pA (x y : Int) : AV := .agg [iA x, iA y]

theorem cond_dec {α : Type} (p : Prop) [Decidable p] (a b : α) : cond (decide p) a b = if p then a else b := by by_cases h : p <;> simp [h]

noncomputable def k_compare : Ctr := mk1 [] 0 fn_trochoid_compare (s2 sI sI) (fun _ => true) (fun (x, y, _) => iA (cmp3 x y)) rfl rfl (fun _ => rfl) fun ⟨a, b, _⟩ _ => by
  refine Eq.trans (b := cond (decide (a > b)) (some (iA 1)) (cond (decide (a < b)) (some (iA (-1))) (some (iA 0)))) (by kernel_rfl) ?_
  simp only [cond_dec, cmp3]; repeat' split
  all_goals rfl
noncomputable def k_side : Ctr := mk1 [] 0 fn_ref34_side (s2 sI sI) (fun _ => true) (fun (x, y, _) => iA (cmp3 y x)) rfl rfl (fun _ => rfl) fun ⟨a, b, _⟩ _ => by
  refine Eq.trans (b := cond (decide (a < b)) (some (iA 1)) (cond (decide (a > b)) (some (iA (-1))) (some (iA 0)))) (by kernel_rfl) ?_
  simp only [cond_dec, cmp3, gt_iff_lt]; repeat' split
  all_goals rfl
noncomputable def k_far : Ctr := mk1 [] 0 fn_ref34_far (s1 sI) (fun _ => true) (fun (x, _) => bA (farb x)) rfl rfl (fun _ => rfl) fun ⟨a, _⟩ _ => by
  refine Eq.trans (b := cond (decide (a > 10000000)) (some (bA true)) (some (bA (decide (a < -10000000))))) (by kernel_rfl) ?_
  dsimp only [farb]; cases decide (a > 10000000) <;> rfl
noncomputable def k_grid1 : Ctr := mk1 [] 0 fn_trochoid_grid_1 (s1 sI) (fun _ => true) (fun (x, _) => bA (farb x)) rfl rfl (fun _ => rfl) fun ⟨a, _⟩ _ => by
  refine Eq.trans (b := cond (decide (a > 10000000)) (some (bA true)) (some (bA (decide (a < -10000000))))) (by kernel_rfl) ?_
  dsimp only [farb]; cases decide (a > 10000000) <;> rfl
def okr (ax ay bx by_ : Int) : Bool := !((cmp3 bx ax == 0) == (cmp3 by_ ay == 0))
noncomputable def k_Direction : Ctr := mk1 [k_side] 0 fn_ref34_Direction (s2 sG sG) (fun _ => true) (fun ((ax, ay, _), (bx, by_, _), _) => .tup [pA (cmp3 bx ax) (cmp3 by_ ay), bA (okr ax ay bx by_)]) rfl rfl (fun _ => rfl) fun ⟨⟨ax, ay, _⟩, ⟨bx, by_, _⟩, _⟩ _ => by
  kernel_rfl
abbrev W (x : Int) : Int := IntKind.i64.wrap x
/-- Is a position, or one beside it, out of range? -/
def outb (x y r : Int) : Bool := farb x || farb y || farb r || farb (W (x + r)) || farb (W (x - r)) || farb (W (y + r)) || farb (W (y - r))
noncomputable def k_out : Ctr := mk1 [k_far] 0 fn_ref34_out (s2 sG sI) (fun _ => true) (fun ((x, y, _), r, _) => bA (outb x y r)) rfl rfl (fun _ => rfl) fun ⟨⟨x, y, _⟩, r, _⟩ _ => by
  refine Eq.trans (b := cond (farb x) (some (bA true)) (cond (farb y) (some (bA true)) (cond (farb r) (some (bA true)) (cond (farb (W (x + r))) (some (bA true)) (cond (farb (W (x - r))) (some (bA true)) (cond (farb (W (y + r))) (some (bA true)) (some (bA (farb (W (y - r))))))))))) (by kernel_rfl) ?_
  dsimp only [outb]; cases farb x <;> cases farb y <;> cases farb r <;> cases farb (W (x + r)) <;> cases farb (W (x - r)) <;> cases farb (W (y + r)) <;> rfl
def chk (ax ay bx by_ r z : Int) : Int := if okr ax ay bx by_ = false then 1 else if (outb ax ay r || outb bx by_ r || farb z) = true then 11 else 0
noncomputable def k_check : Ctr := mk1 [k_out, k_far, k_Direction] 0 fn_ref34_check (s4 sG sG sI sI) (fun _ => true) (fun ((ax, ay, _), (bx, by_, _), r, z, _) => iA (chk ax ay bx by_ r z)) rfl rfl (fun _ => rfl) fun ⟨⟨ax, ay, _⟩, ⟨bx, by_, _⟩, r, z, _⟩ _ => by
  refine Eq.trans (b := cond (!okr ax ay bx by_) (some (iA 1)) (cond (outb ax ay r) (some (iA 11)) (cond (outb bx by_ r) (some (iA 11)) (cond (farb z) (some (iA 11)) (some (iA 0)))))) (by kernel_rfl) ?_
  dsimp only [chk]; cases okr ax ay bx by_ <;> cases outb ax ay r <;> cases outb bx by_ r <;> cases farb z <;> rfl
end Go.Proofs.YtkeelkeoijemiaaGreat.Ev

