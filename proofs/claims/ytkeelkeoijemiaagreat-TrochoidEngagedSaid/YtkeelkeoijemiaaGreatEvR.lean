/- Engaged of the program. Engaged of the reference. The examples; the law TrochoidEngaged: paths. The examples hold; the law TrochoidEngaged. A law's row: structs of numbers as arguments. -/
import Derived.Test.YtkeelkeoijemiaaGreatGi
import Derived.Test.YtkeelkeoijemiaaGreatNa
import Derived.WalkKit
import Derived.ProofKit
import Derived.OpenShut
import Derived.ShutString
import Derived.ChangeOld
import Derived.Below
import Derived.SizedLaws
import Derived.Carry
set_option linter.unusedVariables false
set_option linter.unusedSimpArgs false
namespace Go.Proofs.YtkeelkeoijemiaaGreat.Ev
open Go Go.RowKit
set_option linter.unusedVariables false
set_option linter.unusedSimpArgs false
set_option maxRecDepth 100000

@[simp] theorem uncaps_flat : ∀ l : List (Int × Int), uncaps (flat l) = flat l
  | [] => rfl
  | p :: l => by simp [flat, uncaps, uncap, uncaps_flat l]

open Classical in
theorem c_trochoid_Engaged {m : Nat} (hm : 16 < m) {l : List (Int × Int)} {r t : Int} {q : Rat} {c : Option Nat} (hll : l.length < 100000) (hq : Sz 3 q) :
    (TU m).call fn_trochoid_Engaged [.fs l.length c (flat l), iN r, iN t, rM q] = some (bN (decide (engP l r t q)), []) := by
  have hio := TU_io (m - 1)
  refine TU_call (by omega) rfl rfl (args' := [.fs l.length none (flat l), iN r, iN t, rM q]) (by simp [uncaps, uncap, rM, rC, iC, cz]) (r := bN (decide (engP l r t q))) ?_ rfl
  by_cases h1 : r < 1
  · rw [decide_eq_false (fun h : engP l r t q => absurd h.1 (by omega))]
    exact p_trochoid_Engaged_x0_0 hio r t q l (sc_b (decide_eq_true h1))
  by_cases h2 : r > t
  · rw [decide_eq_false (fun h : engP l r t q => absurd h.2.1 (by omega))]
    exact p_trochoid_Engaged_x0_1 hio r t q l (sc_b (decide_eq_false h1)) (sc_b (decide_eq_true h2))
  by_cases h3 : t > 10000000
  · rw [decide_eq_false (fun h : engP l r t q => absurd h.2.2.1 (by omega))]
    exact p_trochoid_Engaged_x0_2 hio r t q l (sc_b (decide_eq_false h1)) (sc_b (decide_eq_false h2)) (sc_b (decide_eq_true h3))
  by_cases hc : cosB q = true
  case neg =>
    rw [decide_eq_false (fun h : engP l r t q => absurd h.2.2.2.1 hc)]
    exact p_trochoid_Engaged_x0_3 hio r t q l (sc_b (decide_eq_false h1)) (sc_b (decide_eq_false h2)) (sc_b (decide_eq_false h3)) (by exact c_trochoid_cosine (by omega) hq (by omega)) (sc_b (by simpa using hc))
  by_cases hn : l.length < 2
  · rw [decide_eq_true (show engP l r t q from ⟨by omega, by omega, by omega, hc, fun h => by omega⟩)]
    exact p_trochoid_Engaged_x0_4 hio r t q l (sc_b (decide_eq_false h1)) (sc_b (decide_eq_false h2)) (sc_b (decide_eq_false h3)) (by exact c_trochoid_cosine (by omega) hq (by omega)) (sc_b (by rw [hc]; rfl)) (sc_b (decide_eq_true (by omega)))
  have hne : flat l ≠ [] := flat_ne (by omega)
  have hn2 : 2 ≤ l.length := by omega
  obtain ⟨J, hJ⟩ : ∃ J, J = jI [dir1 (px l 0) (px l 1), dir1 (py l 0) (py l 1)] := ⟨_, rfl⟩
  obtain ⟨JB, hJB⟩ : ∃ JB, JB = jB [okd (px l 0) (py l 0) (px l 1) (py l 1)] := ⟨_, rfl⟩
  have hJ2 : J 0 = dir1 (px l 0) (px l 1) := by rw [hJ]; rfl
  have hJ3 : J 1 = dir1 (py l 0) (py l 1) := by rw [hJ]; rfl
  have hB1 : JB 0 = okd (px l 0) (py l 0) (px l 1) (py l 1) := by rw [hJB]; rfl
  have main := loop_meas (G := gC (TU (m - 1)) fn_trochoid_Engaged 0) (nm := nM fn_trochoid_Engaged 0)
    (fun d S => ∃ k : Nat, d = l.length - k ∧ k ≤ l.length ∧ (0 < k → okd (px l 0) (py l 0) (px l 1) (py l 1) = true) ∧ (∀ i, i < k → smA l i) ∧ (∀ i, i + 1 < k → wayA l r i) ∧ S = L_trochoid_Engaged_0 r t (gre l (k - 1)) ((k : Nat) : Int) q l J JB)
    (fun o S => lp (TU (m - 1)) fn_trochoid_Engaged 0 (L_trochoid_Engaged_0 r t 0 0 q l J JB) o S →
      evalBody PG (TU (m - 1)) FUEL (ioF fn_trochoid_Engaged) fn_trochoid_Engaged [.fs l.length none (flat l), iN r, iN t, rM q] = some (bN (decide (engP l r t q)), []))
    FUEL l.length (L_trochoid_Engaged_0 r t 0 0 q l J JB) (by
      rintro d S ⟨k, rfl, hk, hk0, hsm, hwy, rfl⟩
      by_cases hkn : k = l.length
      · -- all are let pass
        have hkk : 2 ≤ k := by omega
        have hok0 := hk0 (by omega)
        have hsA : ∀ i, i < l.length → smA l i := fun i hi => hsm i (by omega)
        have hwA : ∀ i, i + 1 < l.length → wayA l r i := fun i hi => hwy i (by omega)
        obtain ⟨g0, g1, g2⟩ := way_rts (l := l) (r := r) (t := t) (i := 0) (by omega) (by omega) (by omega) (hwA 0 (by omega)) (hsA 0 (by omega)) (hsA 1 (by omega))
        obtain ⟨i0, hi0, eg⟩ := gre_is l (k - 1) (by omega) (by omega)
        obtain ⟨g3, g4, g5⟩ := way_rts (l := l) (r := r) (t := t) (i := i0) (by omega) (by omega) (by omega) (hwA i0 (by omega)) (hsA i0 (by omega)) (hsA (i0 + 1) (by omega))
        have hbd : (TU (m - 1)).call fn_trochoid_bounded [iN (gre l (k - 1)), iN r, iN t, rM q] = some (bN (decide (EnP (alQ r t (gre l (k - 1))) q)), []) := c_trochoid_bounded (by omega) (by omega) (by omega) (by omega) (by omega) (by omega) (by omega) hq hc
        refine .inl ⟨_, _, r_trochoid_Engaged_0_1 hio r t (gre l (k - 1)) ((k : Nat) : Int) q l J JB (sc_b (decide_eq_false (by omega))), by simp, ?_⟩
        intro hl
        refine (p_trochoid_Engaged_x1_0 hio r t (gre l (k - 1)) ((k : Nat) : Int) q l J JB _ (sc_b (decide_eq_false (by omega))) (sc_b (decide_eq_false (by omega))) (sc_b (decide_eq_false (by omega))) (by exact c_trochoid_cosine (by omega) hq (by omega)) (sc_b (by rw [hc]; rfl)) (sc_b (decide_eq_false (by omega))) ⟨by omega, by omega, hne⟩ (by exact fl2 (l := l) (k := 0) (by omega)) ⟨by omega, by omega, hne⟩ (by exact fl2 (l := l) (k := 1) (by omega)) (by exact c_trochoid_direction (by omega) ..) ⟨rfl, rfl, rfl, by decide⟩ (by rw [hJ, hJB] at hl; rw [hJ, hJB]; exact hl) hbd).trans ?_
        have : EnP (alQ r t (gre l (k - 1))) q ↔ engP l r t q := by
          constructor
          · intro hE
            refine ⟨by omega, by omega, by omega, hc, fun _ => ⟨hsA, fun i hi => ⟨hwA i hi, hE.mono ?_⟩⟩⟩
            obtain ⟨f3, f4, f5⟩ := way_rts (l := l) (r := r) (t := t) (i := i) (by omega) (by omega) (by omega) (hwA i hi) (hsA i (by omega)) (hsA (i + 1) hi)
            exact alQ_mono (by omega) (by omega) (by omega) (gre_ge l (k - 1) i (by omega)) (by omega)
          · intro hE
            have := (hE.2.2.2.2 hn2).2 i0 (by omega)
            rw [eg]
            exact this.2
        rw [decide_eq_decide.2 this]
      · by_cases ok0 : okd (px l 0) (py l 0) (px l 1) (py l 1) = true
        case neg =>
          have ok0 : okd (px l 0) (py l 0) (px l 1) (py l 1) = false := by simpa using ok0
          refine .inl ⟨_, _, r_trochoid_Engaged_0_0 hio r t (gre l (k - 1)) ((k : Nat) : Int) q l J JB (sc_b (decide_eq_true (by omega))) ⟨by omega, by omega, hne⟩ (by exact fl2 (by omega)) ⟨rfl, rfl, rfl, by decide⟩ (sc_b (by rw [hB1, ok0]; rfl)), by simp, ?_⟩
          intro hl
          refine (p_trochoid_Engaged_x0_5 hio r t (gre l (k - 1)) ((k : Nat) : Int) q l J JB (sc_b (decide_eq_false (by omega))) (sc_b (decide_eq_false (by omega))) (sc_b (decide_eq_false (by omega))) (by exact c_trochoid_cosine (by omega) hq (by omega)) (sc_b (by rw [hc]; rfl)) (sc_b (decide_eq_false (by omega))) ⟨by omega, by omega, hne⟩ (by exact fl2 (l := l) (k := 0) (by omega)) ⟨by omega, by omega, hne⟩ (by exact fl2 (l := l) (k := 1) (by omega)) (by exact c_trochoid_direction (by omega) ..) ⟨rfl, rfl, rfl, by decide⟩ (by rw [hJ, hJB] at hl; rw [hJ, hJB]; exact hl)).trans ?_
          rw [decide_eq_false (fun h : engP l r t q => absurd ((h.2.2.2.2 hn2).2 0 (by omega)).1.1 (by rw [okd_okr] at ok0; simp [okW, ok0]))]
        by_cases hany : any2 (px l k) (py l k) = true
        · refine .inl ⟨_, _, r_trochoid_Engaged_0_2 hio r t (gre l (k - 1)) ((k : Nat) : Int) q l J JB (sc_b (decide_eq_true (by omega))) ⟨by omega, by omega, hne⟩ (by exact fl2 (by omega)) ⟨rfl, rfl, rfl, by decide⟩ (sc_b (by rw [hB1, ok0]; rfl)) ⟨rfl, by decide, by decide, ((Leaves.nil.cons rfl).cons rfl).plain (by simp)⟩ (by exact c_trochoid_grid_n2 (by omega) ..) (sc_b (by rw [Int.toNat_natCast, hany]; rfl)), by simp, ?_⟩
          intro hl
          refine (p_trochoid_Engaged_x2_0 hio r t (gre l (k - 1)) ((k : Nat) : Int) q l J JB (sc_b (decide_eq_false (by omega))) (sc_b (decide_eq_false (by omega))) (sc_b (decide_eq_false (by omega))) (by exact c_trochoid_cosine (by omega) hq (by omega)) (sc_b (by rw [hc]; rfl)) (sc_b (decide_eq_false (by omega))) ⟨by omega, by omega, hne⟩ (by exact fl2 (l := l) (k := 0) (by omega)) ⟨by omega, by omega, hne⟩ (by exact fl2 (l := l) (k := 1) (by omega)) (by exact c_trochoid_direction (by omega) ..) ⟨rfl, rfl, rfl, by decide⟩ (by rw [hJ, hJB] at hl; rw [hJ, hJB]; exact hl)).trans ?_
          rw [decide_eq_false (fun h : engP l r t q => absurd (any2_sm.2 ((h.2.2.2.2 hn2).1 k (by omega))) (by rw [hany]; decide))]
        have hany : any2 (px l k) (py l k) = false := by simpa using hany
        have hsk : smA l k := any2_sm.1 hany
        have ewk : IntKind.i64.wrap (((k : Nat) : Int) + (1 : Int)) = ((k + 1 : Nat) : Int) := by rw [i64s (by omega)]; omega
        have hsm' : ∀ i, i < k + 1 → smA l i := fun i hi => by
          by_cases h : i = k
          · subst h; exact hsk
          · exact hsm i (by omega)
        by_cases hk1 : k = 0
        · subst hk1
          obtain ⟨s', e1, e2⟩ := r_trochoid_Engaged_0_3 hio r t (gre l (0 - 1)) ((0 : Nat) : Int) q l J JB (sc_b (decide_eq_true (by omega))) ⟨by omega, by omega, hne⟩ (by exact fl2 (by omega)) ⟨rfl, rfl, rfl, by decide⟩ (sc_b (by rw [hB1, ok0]; rfl)) ⟨rfl, by decide, by decide, ((Leaves.nil.cons rfl).cons rfl).plain (by simp)⟩ (by exact c_trochoid_grid_n2 (by omega) ..) (sc_b (by rw [Int.toNat_natCast, hany]; rfl)) (sc_b (by simp))
          rw [ewk] at e2
          exact .inr ⟨s', l.length - 1, by omega, e1, 1, rfl, by omega, fun _ => ok0, hsm', fun i hi => by omega, e2⟩
        obtain ⟨i, rfl⟩ : ∃ i, k = i + 1 := ⟨k - 1, by omega⟩
        rw [show i + 1 - 1 = i by omega]
        have eW : IntKind.i64.wrap (((i + 1 : Nat) : Int) - (1 : Int)) = ((i : Nat) : Int) := by rw [i64s (by omega)]; omega
        have eP : (IntKind.i64.wrap (((i + 1 : Nat) : Int) - (1 : Int))).toNat = i := by rw [eW, Int.toNat_natCast]
        by_cases hok : okr (px l i) (py l i) (px l (i + 1)) (py l (i + 1)) = true
        case neg =>
          have hok : okr (px l i) (py l i) (px l (i + 1)) (py l (i + 1)) = false := by simpa using hok
          refine .inl ⟨_, _, r_trochoid_Engaged_0_4 hio r t (gre l i) ((i + 1 : Nat) : Int) q l J JB (sc_b (decide_eq_true (by omega))) ⟨by omega, by omega, hne⟩ (by exact fl2 (by omega)) ⟨rfl, rfl, rfl, by decide⟩ (sc_b (by rw [hB1, ok0]; rfl)) ⟨rfl, by decide, by decide, ((Leaves.nil.cons rfl).cons rfl).plain (by simp)⟩ (by exact c_trochoid_grid_n2 (by omega) ..) (sc_b (by rw [Int.toNat_natCast, hany]; rfl)) (sc_b (by simp; omega)) ⟨by rw [eW]; omega, by rw [eW]; omega, hne⟩ (by rw [eP]; exact fl2 (by omega)) (by exact c_trochoid_direction (by omega) ..) ⟨rfl, rfl, rfl, by decide⟩ ⟨by rw [eW]; omega, by rw [eW]; omega, hne⟩ (by rw [eP]; exact flx (by omega)) ⟨by rw [eW]; omega, by rw [eW]; omega, hne⟩ (by rw [eP]; exact flx (by omega)) ⟨by rw [eW]; omega, by rw [eW]; omega, hne⟩ (by rw [eP]; exact fly (by omega)) ⟨by rw [eW]; omega, by rw [eW]; omega, hne⟩ (by rw [eP]; exact fly (by omega)) (sc_b (by rw [eP, Int.toNat_natCast, okd_okr]; rw [hok]; rfl)), by simp, ?_⟩
          intro hl
          refine (p_trochoid_Engaged_x3_0 hio r t (gre l i) ((i + 1 : Nat) : Int) q l J JB (sc_b (decide_eq_false (by omega))) (sc_b (decide_eq_false (by omega))) (sc_b (decide_eq_false (by omega))) (by exact c_trochoid_cosine (by omega) hq (by omega)) (sc_b (by rw [hc]; rfl)) (sc_b (decide_eq_false (by omega))) ⟨by omega, by omega, hne⟩ (by exact fl2 (l := l) (k := 0) (by omega)) ⟨by omega, by omega, hne⟩ (by exact fl2 (l := l) (k := 1) (by omega)) (by exact c_trochoid_direction (by omega) ..) ⟨rfl, rfl, rfl, by decide⟩ (by rw [hJ, hJB] at hl; rw [hJ, hJB]; exact hl)).trans ?_
          rw [decide_eq_false (fun h : engP l r t q => absurd ((h.2.2.2.2 hn2).2 i (by omega)).1.1 (by simp [okW, hok]))]
        by_cases hdir : ((cmp3 (px l (i + 1)) (px l i) == cmp3 (px l 1) (px l 0)) && ((cmp3 (py l (i + 1)) (py l i) == cmp3 (py l 1) (py l 0)) && true)) = true
        case neg =>
          have hdirP := hdir
          rw [dir_bb] at hdirP
          have hdir : ((cmp3 (px l (i + 1)) (px l i) == cmp3 (px l 1) (px l 0)) && ((cmp3 (py l (i + 1)) (py l i) == cmp3 (py l 1) (py l 0)) && true)) = false := Bool.eq_false_iff.2 hdir
          refine .inl ⟨_, _, r_trochoid_Engaged_0_5 hio r t (gre l i) ((i + 1 : Nat) : Int) q l J JB (sc_b (decide_eq_true (by omega))) ⟨by omega, by omega, hne⟩ (by exact fl2 (by omega)) ⟨rfl, rfl, rfl, by decide⟩ (sc_b (by rw [hB1, ok0]; rfl)) ⟨rfl, by decide, by decide, ((Leaves.nil.cons rfl).cons rfl).plain (by simp)⟩ (by exact c_trochoid_grid_n2 (by omega) ..) (sc_b (by rw [Int.toNat_natCast, hany]; rfl)) (sc_b (by simp; omega)) ⟨by rw [eW]; omega, by rw [eW]; omega, hne⟩ (by rw [eP]; exact fl2 (by omega)) (by exact c_trochoid_direction (by omega) ..) ⟨rfl, rfl, rfl, by decide⟩ ⟨by rw [eW]; omega, by rw [eW]; omega, hne⟩ (by rw [eP]; exact flx (by omega)) ⟨by rw [eW]; omega, by rw [eW]; omega, hne⟩ (by rw [eP]; exact flx (by omega)) ⟨by rw [eW]; omega, by rw [eW]; omega, hne⟩ (by rw [eP]; exact fly (by omega)) ⟨by rw [eW]; omega, by rw [eW]; omega, hne⟩ (by rw [eP]; exact fly (by omega)) (sc_b (by rw [eP, Int.toNat_natCast, okd_okr]; rw [hok]; rfl)) (sc_b (by rw [hJ2, hJ3, eP, Int.toNat_natCast]; simp only [dir1_cmp]; rw [hdir]; rfl)), by simp, ?_⟩
          intro hl
          refine (p_trochoid_Engaged_x4_0 hio r t (gre l i) ((i + 1 : Nat) : Int) q l J JB (sc_b (decide_eq_false (by omega))) (sc_b (decide_eq_false (by omega))) (sc_b (decide_eq_false (by omega))) (by exact c_trochoid_cosine (by omega) hq (by omega)) (sc_b (by rw [hc]; rfl)) (sc_b (decide_eq_false (by omega))) ⟨by omega, by omega, hne⟩ (by exact fl2 (l := l) (k := 0) (by omega)) ⟨by omega, by omega, hne⟩ (by exact fl2 (l := l) (k := 1) (by omega)) (by exact c_trochoid_direction (by omega) ..) ⟨rfl, rfl, rfl, by decide⟩ (by rw [hJ, hJB] at hl; rw [hJ, hJB]; exact hl)).trans ?_
          rw [decide_eq_false (fun h : engP l r t q => absurd ((h.2.2.2.2 hn2).2 i (by omega)).1.2.1 hdirP)]
        have si := hsm i (by omega)
        have e4 : gmax (gmax (gmax (IntKind.i64.wrap ((px l (i + 1)) - (px l i))) (IntKind.i64.wrap ((px l i) - (px l (i + 1))))) (IntKind.i64.wrap ((py l (i + 1)) - (py l i)))) (IntKind.i64.wrap ((py l i) - (py l (i + 1)))) = stp l i := len4_way hok si.1 si.2 hsk.1 hsk.2
        by_cases hst : stp l i > r
        · refine .inl ⟨_, _, r_trochoid_Engaged_0_6 hio r t (gre l i) ((i + 1 : Nat) : Int) q l J JB (sc_b (decide_eq_true (by omega))) ⟨by omega, by omega, hne⟩ (by exact fl2 (by omega)) ⟨rfl, rfl, rfl, by decide⟩ (sc_b (by rw [hB1, ok0]; rfl)) ⟨rfl, by decide, by decide, ((Leaves.nil.cons rfl).cons rfl).plain (by simp)⟩ (by exact c_trochoid_grid_n2 (by omega) ..) (sc_b (by rw [Int.toNat_natCast, hany]; rfl)) (sc_b (by simp; omega)) ⟨by rw [eW]; omega, by rw [eW]; omega, hne⟩ (by rw [eP]; exact fl2 (by omega)) (by exact c_trochoid_direction (by omega) ..) ⟨rfl, rfl, rfl, by decide⟩ ⟨by rw [eW]; omega, by rw [eW]; omega, hne⟩ (by rw [eP]; exact flx (by omega)) ⟨by rw [eW]; omega, by rw [eW]; omega, hne⟩ (by rw [eP]; exact flx (by omega)) ⟨by rw [eW]; omega, by rw [eW]; omega, hne⟩ (by rw [eP]; exact fly (by omega)) ⟨by rw [eW]; omega, by rw [eW]; omega, hne⟩ (by rw [eP]; exact fly (by omega)) (sc_b (by rw [eP, Int.toNat_natCast, okd_okr]; rw [hok]; rfl)) (sc_b (by rw [hJ2, hJ3, eP, Int.toNat_natCast]; simp only [dir1_cmp]; rw [hdir]; rfl)) (sc_b (decide_eq_true (by rw [eP, Int.toNat_natCast, e4]; omega))), by simp, ?_⟩
          intro hl
          refine (p_trochoid_Engaged_x5_0 hio r t (gre l i) ((i + 1 : Nat) : Int) q l J JB (sc_b (decide_eq_false (by omega))) (sc_b (decide_eq_false (by omega))) (sc_b (decide_eq_false (by omega))) (by exact c_trochoid_cosine (by omega) hq (by omega)) (sc_b (by rw [hc]; rfl)) (sc_b (decide_eq_false (by omega))) ⟨by omega, by omega, hne⟩ (by exact fl2 (l := l) (k := 0) (by omega)) ⟨by omega, by omega, hne⟩ (by exact fl2 (l := l) (k := 1) (by omega)) (by exact c_trochoid_direction (by omega) ..) ⟨rfl, rfl, rfl, by decide⟩ (by rw [hJ, hJB] at hl; rw [hJ, hJB]; exact hl)).trans ?_
          rw [decide_eq_false (fun h : engP l r t q => absurd ((h.2.2.2.2 hn2).2 i (by omega)).1.2.2 (by omega))]
        have hw : wayA l r i := ⟨hok, dir_bb.1 hdir, by omega⟩
        obtain ⟨s', e1, e2⟩ := r_trochoid_Engaged_0_7 hio r t (gre l i) ((i + 1 : Nat) : Int) q l J JB (sc_b (decide_eq_true (by omega))) ⟨by omega, by omega, hne⟩ (by exact fl2 (by omega)) ⟨rfl, rfl, rfl, by decide⟩ (sc_b (by rw [hB1, ok0]; rfl)) ⟨rfl, by decide, by decide, ((Leaves.nil.cons rfl).cons rfl).plain (by simp)⟩ (by exact c_trochoid_grid_n2 (by omega) ..) (sc_b (by rw [Int.toNat_natCast, hany]; rfl)) (sc_b (by simp; omega)) ⟨by rw [eW]; omega, by rw [eW]; omega, hne⟩ (by rw [eP]; exact fl2 (by omega)) (by exact c_trochoid_direction (by omega) ..) ⟨rfl, rfl, rfl, by decide⟩ ⟨by rw [eW]; omega, by rw [eW]; omega, hne⟩ (by rw [eP]; exact flx (by omega)) ⟨by rw [eW]; omega, by rw [eW]; omega, hne⟩ (by rw [eP]; exact flx (by omega)) ⟨by rw [eW]; omega, by rw [eW]; omega, hne⟩ (by rw [eP]; exact fly (by omega)) ⟨by rw [eW]; omega, by rw [eW]; omega, hne⟩ (by rw [eP]; exact fly (by omega)) (sc_b (by rw [eP, Int.toNat_natCast, okd_okr]; rw [hok]; rfl)) (sc_b (by rw [hJ2, hJ3, eP, Int.toNat_natCast]; simp only [dir1_cmp]; rw [hdir]; rfl)) (sc_b (decide_eq_false (by rw [eP, Int.toNat_natCast, e4]; omega)))
        rw [ewk, eP, Int.toNat_natCast, e4] at e2
        have eg : gmax (gre l i) (stp l i) = gre l (i + 1) := by
          rw [gmax_max]
          show max (gre l i) (stp l i) = if gre l i < stp l i then stp l i else gre l i
          split <;> omega
        rw [eg] at e2
        refine .inr ⟨s', l.length - (i + 1 + 1), by omega, e1, i + 1 + 1, rfl, by omega, fun _ => ok0, hsm', fun i' hi' => ?_, e2⟩
        by_cases h : i' = i
        · subst h; exact hw
        · exact hwy i' (by omega))
    ⟨0, rfl, by omega, fun h => by omega, fun i hi => by omega, fun i hi => by omega, rfl⟩ (by unfold FUEL; omega)
  obtain ⟨o, S, hl, hQ⟩ := main
  exact hQ hl
end Go.Proofs.YtkeelkeoijemiaaGreat.Ev

namespace Go.Proofs.YtkeelkeoijemiaaGreat.Ev
open Go Go.RowKit
set_option linter.unusedVariables false
set_option linter.unusedSimpArgs false
set_option maxRecDepth 100000

open Classical in
theorem ref_loop2 {mm : Nat} (hm : 10 < mm) {l : List (Int × Int)} {r t : Int} {q : Rat} (hll : l.length < 100000) (hq : Sz 3 q) (hs : sizb r t = true) (hc : cosB q = true) (hsA : 2 ≤ l.length → ∀ i, i < l.length → smA l i) (t9 : Int)
    (hl : lp (TU mm) fn_ref34_Engaged 0 (L_ref34_Engaged_0 r t 0 q l) (.exit 0) (X_ref34_Engaged_0_1 r t t9 q l)) :
    evalBody PG (TU mm) FUEL (ioF fn_ref34_Engaged) fn_ref34_Engaged [.fs l.length none (flat l), iN r, iN t, rM q] = some (bN (decide (engP l r t q)), []) := by
  have hio := TU_io mm
  have hsz : 1 ≤ r ∧ r ≤ t ∧ t ≤ 10000000 := by
    unfold sizb at hs
    simp at hs
    omega
  have main := loop_meas (G := gC (TU mm) fn_ref34_Engaged 1) (nm := nM fn_ref34_Engaged 1)
    (fun d S => ∃ k : Nat, d = l.length - k ∧ 1 ≤ k ∧ (∀ i, i + 1 < l.length → i + 1 < k → wayA l r i ∧ EnP (alQ r t (stp l i)) q) ∧ S = L_ref34_Engaged_1x1 r t t9 ((k : Nat) : Int) q l)
    (fun o S => lp (TU mm) fn_ref34_Engaged 1 (L_ref34_Engaged_1x1 r t t9 1 q l) o S →
      evalBody PG (TU mm) FUEL (ioF fn_ref34_Engaged) fn_ref34_Engaged [.fs l.length none (flat l), iN r, iN t, rM q] = some (bN (decide (engP l r t q)), []))
    FUEL (l.length - 1) (L_ref34_Engaged_1x1 r t t9 1 q l) (by
      rintro d S ⟨k, rfl, hk1, hwy, rfl⟩
      by_cases hkn : l.length ≤ k
      · refine .inl ⟨_, _, r_ref34_Engaged_1x1_1 hio r t t9 ((k : Nat) : Int) q l (sc_b (decide_eq_false (by omega))), by simp, ?_⟩
        intro hl2
        refine (p_ref34_Engaged_x1_3 hio r t t9 ((k : Nat) : Int) q l (by exact c_ref34_sizes (by omega) ..) (sc_b (by rw [hs]; rfl)) (by exact c_ref34_cosine (by omega) hq (by omega)) (sc_b (by rw [hc]; rfl)) hl hl2).trans ?_
        rw [decide_eq_true (show engP l r t q from ⟨hsz.1, hsz.2.1, hsz.2.2, hc, fun h2 => ⟨hsA h2, fun i hi => hwy i hi (by omega)⟩⟩)]
      obtain ⟨i, rfl⟩ : ∃ i, k = i + 1 := ⟨k - 1, by omega⟩
      have hn2 : 2 ≤ l.length := by omega
      have hne : flat l ≠ [] := flat_ne (by omega)
      have eW : IntKind.i64.wrap (((i + 1 : Nat) : Int) - (1 : Int)) = ((i : Nat) : Int) := by rw [i64s (by omega)]; omega
      have eP : (IntKind.i64.wrap (((i + 1 : Nat) : Int) - (1 : Int))).toNat = i := by rw [eW, Int.toNat_natCast]
      have ewk : IntKind.i64.wrap (((i + 1 : Nat) : Int) + (1 : Int)) = ((i + 1 + 1 : Nat) : Int) := by rw [i64s (by omega)]; omega
      by_cases hok : okr (px l i) (py l i) (px l (i + 1)) (py l (i + 1)) = true
      case neg =>
        have hok : okr (px l i) (py l i) (px l (i + 1)) (py l (i + 1)) = false := by simpa using hok
        refine .inl ⟨_, _, r_ref34_Engaged_1x1_0 hio r t t9 ((i + 1 : Nat) : Int) q l (sc_b (decide_eq_true (by omega))) ⟨by rw [eW]; omega, by rw [eW]; omega, hne⟩ (by rw [eP]; exact fl2 (by omega)) ⟨by omega, by omega, hne⟩ (by exact fl2 (by omega)) (by exact c_ref34_Direction (by omega) ..) ⟨rfl, rfl, rfl, by decide⟩ ⟨by omega, by omega, hne⟩ (by exact fl2 (l := l) (k := 0) (by omega)) ⟨by omega, by omega, hne⟩ (by exact fl2 (l := l) (k := 1) (by omega)) (by exact c_ref34_Direction (by omega) ..) ⟨rfl, rfl, rfl, by decide⟩ ⟨by omega, by omega, hne⟩ (by exact flx (by omega)) ⟨by rw [eW]; omega, by rw [eW]; omega, hne⟩ (by rw [eP]; exact flx (by omega)) ⟨by omega, by omega, hne⟩ (by exact fly (by omega)) ⟨by rw [eW]; omega, by rw [eW]; omega, hne⟩ (by rw [eP]; exact fly (by omega)) (sc_b (by rw [eP, Int.toNat_natCast]; rw [hok]; rfl)), by simp, ?_⟩
        intro hl2
        refine (p_ref34_Engaged_x1_2 hio r t t9 ((i + 1 : Nat) : Int) q l (by exact c_ref34_sizes (by omega) ..) (sc_b (by rw [hs]; rfl)) (by exact c_ref34_cosine (by omega) hq (by omega)) (sc_b (by rw [hc]; rfl)) hl hl2).trans ?_
        rw [decide_eq_false (fun h : engP l r t q => absurd ((h.2.2.2.2 hn2).2 i (by omega)).1.1 (by simp [okW, hok]))]
      by_cases hdir : ((cmp3 (px l (i + 1)) (px l i) == cmp3 (px l 1) (px l 0)) && ((cmp3 (py l (i + 1)) (py l i) == cmp3 (py l 1) (py l 0)) && true)) = true
      case neg =>
        have hdirP := hdir
        rw [dir_bb] at hdirP
        have hdir : ((cmp3 (px l (i + 1)) (px l i) == cmp3 (px l 1) (px l 0)) && ((cmp3 (py l (i + 1)) (py l i) == cmp3 (py l 1) (py l 0)) && true)) = false := Bool.eq_false_iff.2 hdir
        refine .inl ⟨_, _, r_ref34_Engaged_1x1_2 hio r t t9 ((i + 1 : Nat) : Int) q l (sc_b (decide_eq_true (by omega))) ⟨by rw [eW]; omega, by rw [eW]; omega, hne⟩ (by rw [eP]; exact fl2 (by omega)) ⟨by omega, by omega, hne⟩ (by exact fl2 (by omega)) (by exact c_ref34_Direction (by omega) ..) ⟨rfl, rfl, rfl, by decide⟩ ⟨by omega, by omega, hne⟩ (by exact fl2 (l := l) (k := 0) (by omega)) ⟨by omega, by omega, hne⟩ (by exact fl2 (l := l) (k := 1) (by omega)) (by exact c_ref34_Direction (by omega) ..) ⟨rfl, rfl, rfl, by decide⟩ ⟨by omega, by omega, hne⟩ (by exact flx (by omega)) ⟨by rw [eW]; omega, by rw [eW]; omega, hne⟩ (by rw [eP]; exact flx (by omega)) ⟨by omega, by omega, hne⟩ (by exact fly (by omega)) ⟨by rw [eW]; omega, by rw [eW]; omega, hne⟩ (by rw [eP]; exact fly (by omega)) (sc_b (by rw [eP, Int.toNat_natCast]; rw [hok]; rfl)) (sc_b (by rw [eP, Int.toNat_natCast, hdir]; rfl)), by simp, ?_⟩
        intro hl2
        refine (p_ref34_Engaged_x1_4 hio r t t9 ((i + 1 : Nat) : Int) q l (by exact c_ref34_sizes (by omega) ..) (sc_b (by rw [hs]; rfl)) (by exact c_ref34_cosine (by omega) hq (by omega)) (sc_b (by rw [hc]; rfl)) hl hl2).trans ?_
        rw [decide_eq_false (fun h : engP l r t q => absurd ((h.2.2.2.2 hn2).2 i (by omega)).1.2.1 hdirP)]
      have si := hsA hn2 i (by omega)
      have sk := hsA hn2 (i + 1) (by omega)
      have e4 : IntKind.i64.wrap (IntKind.i64.wrap (IntKind.i64.wrap ((px l (i + 1)) - (px l i)) * cmp3 (px l (i + 1)) (px l i)) + IntKind.i64.wrap (IntKind.i64.wrap ((py l (i + 1)) - (py l i)) * cmp3 (py l (i + 1)) (py l i))) = stp l i := lenR_way hok si.1 si.2 sk.1 sk.2
      by_cases hst : stp l i > r
      · refine .inl ⟨_, _, r_ref34_Engaged_1x1_3 hio r t t9 ((i + 1 : Nat) : Int) q l (sc_b (decide_eq_true (by omega))) ⟨by rw [eW]; omega, by rw [eW]; omega, hne⟩ (by rw [eP]; exact fl2 (by omega)) ⟨by omega, by omega, hne⟩ (by exact fl2 (by omega)) (by exact c_ref34_Direction (by omega) ..) ⟨rfl, rfl, rfl, by decide⟩ ⟨by omega, by omega, hne⟩ (by exact fl2 (l := l) (k := 0) (by omega)) ⟨by omega, by omega, hne⟩ (by exact fl2 (l := l) (k := 1) (by omega)) (by exact c_ref34_Direction (by omega) ..) ⟨rfl, rfl, rfl, by decide⟩ ⟨by omega, by omega, hne⟩ (by exact flx (by omega)) ⟨by rw [eW]; omega, by rw [eW]; omega, hne⟩ (by rw [eP]; exact flx (by omega)) ⟨by omega, by omega, hne⟩ (by exact fly (by omega)) ⟨by rw [eW]; omega, by rw [eW]; omega, hne⟩ (by rw [eP]; exact fly (by omega)) (sc_b (by rw [eP, Int.toNat_natCast]; rw [hok]; rfl)) (sc_b (by rw [eP, Int.toNat_natCast, hdir]; rfl)) (sc_b (decide_eq_true (by rw [eP, Int.toNat_natCast, e4]; omega))), by simp, ?_⟩
        intro hl2
        refine (p_ref34_Engaged_x1_5 hio r t t9 ((i + 1 : Nat) : Int) q l (by exact c_ref34_sizes (by omega) ..) (sc_b (by rw [hs]; rfl)) (by exact c_ref34_cosine (by omega) hq (by omega)) (sc_b (by rw [hc]; rfl)) hl hl2).trans ?_
        rw [decide_eq_false (fun h : engP l r t q => absurd ((h.2.2.2.2 hn2).2 i (by omega)).1.2.2 (by omega))]
      have hw : wayA l r i := ⟨hok, dir_bb.1 hdir, by omega⟩
      obtain ⟨hrts, _, _⟩ := way_rts (l := l) (r := r) (t := t) (i := i) hsz.1 hsz.2.1 hsz.2.2 hw si sk
      by_cases hpa : paB r t (stp l i) q = true
      case neg =>
        have hpa' := hpa
        rw [paB_iff] at hpa'
        have hpa : paB r t (stp l i) q = false := by simpa using hpa
        refine .inl ⟨_, _, r_ref34_Engaged_1x1_4 hio r t t9 ((i + 1 : Nat) : Int) q l (sc_b (decide_eq_true (by omega))) ⟨by rw [eW]; omega, by rw [eW]; omega, hne⟩ (by rw [eP]; exact fl2 (by omega)) ⟨by omega, by omega, hne⟩ (by exact fl2 (by omega)) (by exact c_ref34_Direction (by omega) ..) ⟨rfl, rfl, rfl, by decide⟩ ⟨by omega, by omega, hne⟩ (by exact fl2 (l := l) (k := 0) (by omega)) ⟨by omega, by omega, hne⟩ (by exact fl2 (l := l) (k := 1) (by omega)) (by exact c_ref34_Direction (by omega) ..) ⟨rfl, rfl, rfl, by decide⟩ ⟨by omega, by omega, hne⟩ (by exact flx (by omega)) ⟨by rw [eW]; omega, by rw [eW]; omega, hne⟩ (by rw [eP]; exact flx (by omega)) ⟨by omega, by omega, hne⟩ (by exact fly (by omega)) ⟨by rw [eW]; omega, by rw [eW]; omega, hne⟩ (by rw [eP]; exact fly (by omega)) (sc_b (by rw [eP, Int.toNat_natCast]; rw [hok]; rfl)) (sc_b (by rw [eP, Int.toNat_natCast, hdir]; rfl)) (sc_b (decide_eq_false (by rw [eP, Int.toNat_natCast, e4]; omega))) (by rw [eP, Int.toNat_natCast, e4]; exact c_ref34_Pair (by omega) hrts hq) (sc_b (by rw [eP, Int.toNat_natCast, e4, hpa]; rfl)), by simp, ?_⟩
        intro hl2
        refine (p_ref34_Engaged_x1_6 hio r t t9 ((i + 1 : Nat) : Int) q l (by exact c_ref34_sizes (by omega) ..) (sc_b (by rw [hs]; rfl)) (by exact c_ref34_cosine (by omega) hq (by omega)) (sc_b (by rw [hc]; rfl)) hl hl2).trans ?_
        rw [decide_eq_false (fun h : engP l r t q => hpa' ((h.2.2.2.2 hn2).2 i (by omega)).2)]
      obtain ⟨s', e1, e2⟩ := r_ref34_Engaged_1x1_5 hio r t t9 ((i + 1 : Nat) : Int) q l (sc_b (decide_eq_true (by omega))) ⟨by rw [eW]; omega, by rw [eW]; omega, hne⟩ (by rw [eP]; exact fl2 (by omega)) ⟨by omega, by omega, hne⟩ (by exact fl2 (by omega)) (by exact c_ref34_Direction (by omega) ..) ⟨rfl, rfl, rfl, by decide⟩ ⟨by omega, by omega, hne⟩ (by exact fl2 (l := l) (k := 0) (by omega)) ⟨by omega, by omega, hne⟩ (by exact fl2 (l := l) (k := 1) (by omega)) (by exact c_ref34_Direction (by omega) ..) ⟨rfl, rfl, rfl, by decide⟩ ⟨by omega, by omega, hne⟩ (by exact flx (by omega)) ⟨by rw [eW]; omega, by rw [eW]; omega, hne⟩ (by rw [eP]; exact flx (by omega)) ⟨by omega, by omega, hne⟩ (by exact fly (by omega)) ⟨by rw [eW]; omega, by rw [eW]; omega, hne⟩ (by rw [eP]; exact fly (by omega)) (sc_b (by rw [eP, Int.toNat_natCast]; rw [hok]; rfl)) (sc_b (by rw [eP, Int.toNat_natCast, hdir]; rfl)) (sc_b (decide_eq_false (by rw [eP, Int.toNat_natCast, e4]; omega))) (by rw [eP, Int.toNat_natCast, e4]; exact c_ref34_Pair (by omega) hrts hq) (sc_b (by rw [eP, Int.toNat_natCast, e4, hpa]; rfl))
      rw [ewk] at e2
      refine .inr ⟨s', l.length - (i + 1 + 1), by omega, e1, i + 1 + 1, rfl, by omega, fun i' h1 h2 => ?_, e2⟩
      by_cases h : i' = i
      · subst h; exact ⟨hw, paB_iff.1 hpa⟩
      · exact hwy i' h1 (by omega))
    ⟨1, by omega, by omega, fun i h1 h2 => by omega, rfl⟩ (by unfold FUEL; omega)
  obtain ⟨o, S, hl2, hQ⟩ := main
  exact hQ hl2
open Classical in
theorem c_ref34_Engaged {m : Nat} (hm : 11 < m) {l : List (Int × Int)} {r t : Int} {q : Rat} {c : Option Nat} (hll : l.length < 100000) (hq : Sz 3 q) :
    (TU m).call fn_ref34_Engaged [.fs l.length c (flat l), iN r, iN t, rM q] = some (bN (decide (engP l r t q)), []) := by
  have hio := TU_io (m - 1)
  refine TU_call (by omega) rfl rfl (args' := [.fs l.length none (flat l), iN r, iN t, rM q]) (by simp [uncaps, uncap, rM, rC, iC, cz]) (r := bN (decide (engP l r t q))) ?_ rfl
  by_cases hs : sizb r t = true
  case neg =>
    rw [decide_eq_false (fun h : engP l r t q => hs (by have := h.1; have := h.2.1; have := h.2.2.1; unfold sizb; simp; omega))]
    exact p_ref34_Engaged_x0_0 hio r t q l (by exact c_ref34_sizes (by omega) ..) (sc_b (by simpa using hs))
  by_cases hc : cosB q = true
  case neg =>
    rw [decide_eq_false (fun h : engP l r t q => hc h.2.2.2.1)]
    exact p_ref34_Engaged_x0_1 hio r t q l (by exact c_ref34_sizes (by omega) ..) (sc_b (by rw [hs]; rfl)) (by exact c_ref34_cosine (by omega) hq (by omega)) (sc_b (by simpa using hc))
  have hsz : 1 ≤ r ∧ r ≤ t ∧ t ≤ 10000000 := by
    have hs' := hs
    unfold sizb at hs'
    simp at hs'
    omega
  have main := loop_meas (G := gC (TU (m - 1)) fn_ref34_Engaged 0) (nm := nM fn_ref34_Engaged 0)
    (fun d S => ∃ k : Nat, d = l.length - k ∧ k ≤ l.length ∧ (0 < k → 2 ≤ l.length) ∧ (∀ i, i < k → smA l i) ∧ S = L_ref34_Engaged_0 r t ((k : Nat) : Int) q l)
    (fun o S => lp (TU (m - 1)) fn_ref34_Engaged 0 (L_ref34_Engaged_0 r t 0 q l) o S →
      evalBody PG (TU (m - 1)) FUEL (ioF fn_ref34_Engaged) fn_ref34_Engaged [.fs l.length none (flat l), iN r, iN t, rM q] = some (bN (decide (engP l r t q)), []))
    FUEL l.length (L_ref34_Engaged_0 r t 0 q l) (by
      rintro d S ⟨k, rfl, hk, hk0, hsm, rfl⟩
      by_cases hkn : k = l.length
      · refine .inl ⟨_, _, r_ref34_Engaged_0_1 hio r t ((k : Nat) : Int) q l (sc_b (decide_eq_false (by omega))), by simp, ?_⟩
        intro hl
        exact ref_loop2 (by omega) hll hq hs hc (fun _ i hi => hsm i (by omega)) _ hl
      have hne : flat l ≠ [] := flat_ne (by omega)
      by_cases hn1 : l.length ≤ 1
      · refine .inl ⟨_, _, r_ref34_Engaged_0_2 hio r t ((k : Nat) : Int) q l (sc_b (decide_eq_true (by omega))) (sc_b (decide_eq_false (by omega))), by simp, ?_⟩
        intro hl
        obtain ⟨S, rfl, hlz⟩ := loop_to (G := gC (TU (m - 1)) fn_ref34_Engaged 1) (nm := nM fn_ref34_Engaged 1) (fun _ S => S = L_ref34_Engaged_1x2 r t ((k : Nat) : Int) 1 q l) 0 FUEL (L_ref34_Engaged_1x2 r t ((k : Nat) : Int) 1 q l) (by intro k s hk; omega) rfl (by unfold FUEL; omega)
        have hl2 := hlz _ _ (r_ref34_Engaged_1x2_1 hio r t ((k : Nat) : Int) 1 q l (sc_b (decide_eq_false (by omega)))) (by simp)
        refine (p_ref34_Engaged_x2_3 hio r t ((k : Nat) : Int) 1 q l (by exact c_ref34_sizes (by omega) ..) (sc_b (by rw [hs]; rfl)) (by exact c_ref34_cosine (by omega) hq (by omega)) (sc_b (by rw [hc]; rfl)) hl hl2).trans ?_
        rw [decide_eq_true (show engP l r t q from ⟨hsz.1, hsz.2.1, hsz.2.2, hc, fun h2 => by omega⟩)]
      by_cases hout : outb (px l k) (py l k) 0 = true
      · refine .inl ⟨_, _, r_ref34_Engaged_0_0 hio r t ((k : Nat) : Int) q l (sc_b (decide_eq_true (by omega))) (sc_b (decide_eq_true (by omega))) ⟨by omega, by omega, hne⟩ (by exact fl2 (by omega)) (by exact c_ref34_out (by omega) ..) (sc_b (by rw [Int.toNat_natCast]; exact hout)), by simp, ?_⟩
        intro hl
        refine (p_ref34_Engaged_x0_2 hio r t ((k : Nat) : Int) q l (by exact c_ref34_sizes (by omega) ..) (sc_b (by rw [hs]; rfl)) (by exact c_ref34_cosine (by omega) hq (by omega)) (sc_b (by rw [hc]; rfl)) hl).trans ?_
        rw [decide_eq_false (fun h : engP l r t q => absurd (outb_sm.2 ((h.2.2.2.2 (by omega)).1 k (by omega))) (by rw [hout]; decide))]
      have hout : outb (px l k) (py l k) 0 = false := by simpa using hout
      have ewk : IntKind.i64.wrap (((k : Nat) : Int) + (1 : Int)) = ((k + 1 : Nat) : Int) := by rw [i64s (by omega)]; omega
      obtain ⟨s', e1, e2⟩ := r_ref34_Engaged_0_3 hio r t ((k : Nat) : Int) q l (sc_b (decide_eq_true (by omega))) (sc_b (decide_eq_true (by omega))) ⟨by omega, by omega, hne⟩ (by exact fl2 (by omega)) (by exact c_ref34_out (by omega) ..) (sc_b (by rw [Int.toNat_natCast]; exact hout))
      rw [ewk] at e2
      refine .inr ⟨s', l.length - (k + 1), by omega, e1, k + 1, rfl, by omega, fun _ => by omega, fun i hi => ?_, e2⟩
      by_cases h : i = k
      · subst h; exact outb_sm.1 hout
      · exact hsm i (by omega))
    ⟨0, rfl, by omega, fun h => by omega, fun i hi => by omega, rfl⟩ (by unfold FUEL; omega)
  obtain ⟨o, S, hl, hQ⟩ := main
  exact hQ hl
end Go.Proofs.YtkeelkeoijemiaaGreat.Ev

namespace Go.Proofs.YtkeelkeoijemiaaGreat.Ev
open Go
set_option linter.unusedVariables false
set_option linter.unusedSimpArgs false
set_option maxRecDepth 100000

theorem p_law34_awake_0 {T : Tab} (hio : TO T) (mv7 : List MV) (h0 : T.call fn_trochoid_Centers [MV.agg [iN 0, iN 0], MV.agg [iN 0, iN 25], iN 10] = some (MV.tup [MV.fs 4 none [iN 0, iN 0, iN 0, iN 10, iN 0, iN 20, iN 0, iN 25], iN 0], [])) (h1 : T.call fn_trochoid_Path [MV.agg [iN 0, iN 0], MV.agg [iN 0, iN 25], iN 10, iN 10, iN 0, iN 7] = some (MV.tup [MV.fs 7 none mv7, iN 0], [])) (h2 : T.call fn_trochoid_Start [MV.agg [iN 0, iN 0], MV.agg [iN 0, iN 25], iN 10, iN 0] = some (MV.tup [MV.agg [iN 0, iN (-10), iN 0], iN 0], [])) (h3 : T.call fn_ref34_Same [MV.fs 4 none [iN 0, iN 0, iN 0, iN 10, iN 0, iN 20, iN 0, iN 25], MV.fs 4 (some 4) [iN 0, iN 0, iN 0, iN 10, iN 0, iN 20, iN 0, iN 25]] = some (bN true, [])) (h4 : (bN (((0 : Int) == (0 : Int)) && (((-10 : Int) == (-10 : Int)) && (((0 : Int) == (0 : Int)) && true))) : MV) = .sc (.bool true)) (h5 : T.call fn_law34_num [iN 0] = some (rM (qI 0), [])) (h6 : T.call fn_trochoid_Engaged [MV.fs 2 (some 2) [iN 0, iN 0, iN 100, iN 0], iN 1000, iN 3000, rM (qI 0)] = some (bN true, [])) (h7 : T.call fn_law34_num [iN 0] = some (rM (qI 0), [])) (h8 : T.call fn_trochoid_Engaged [MV.fs 2 (some 2) [iN 0, iN 0, iN 1000, iN 0], iN 1000, iN 3000, rM (qI 0)] = some (bN false, [])) : evalBody PG T FUEL (ioF fn_law34_awake) fn_law34_awake [] = some (bN true, []) :=
  xBody_io (hard := false) hio (orc := [.call (MV.tup [MV.fs 4 none [iN 0, iN 0, iN 0, iN 10, iN 0, iN 20, iN 0, iN 25], iN 0]) [], .call (MV.tup [MV.fs 7 none mv7, iN 0]) [], .call (MV.tup [MV.agg [iN 0, iN (-10), iN 0], iN 0]) [], .auto, .call (bN true) [], .auto, .auto, .auto, .auto, .br true, .call (rM (qI 0)) [], .call (bN true) [], .auto, .call (rM (qI 0)) [], .call (bN false) []]) (by kernel_rfl) (owc h0 (owc h1 (owc h2 (owc h3 (owc h4 (owc h5 (owc h6 (owc h7 (ow1 h8)))))))))

theorem p_law34_TrochoidEngaged_0 {T : Tab} (hio : TO T) (r t c0 c1 : Int) (q : Rat) (b1 b2 : Bool) (l : List (Int × Int)) (h0 : T.call fn_ref02_Frac [iN c0, iN c1] = some (rM q, [])) (h1 : T.call fn_law34_awake [] = some (bN true, [])) (h2 : (bN (decide (((l.length : Nat) : Int) > (20 : Int))) : MV) = .sc (.bool true)) (h3 : T.call fn_law34_awake [] = some (bN true, [])) : evalBody PG T FUEL (ioF fn_law34_TrochoidEngaged) fn_law34_TrochoidEngaged [MV.fs l.length none (flat l), MV.agg [iN r, iN t], MV.agg [iN c0, iN c1]] = some (bN true, []) :=
  xBody_io (hard := false) hio (orc := [.call (rM q) [], .call (bN true) [], .auto, .br true, .call (bN true) []]) (by kernel_rfl) (owc h0 (owc h1 (owc h2 (ow1 h3))))

theorem p_law34_TrochoidEngaged_1 {T : Tab} (hio : TO T) (r t c0 c1 : Int) (q : Rat) (b1 b2 : Bool) (l : List (Int × Int)) (h0 : T.call fn_ref02_Frac [iN c0, iN c1] = some (rM q, [])) (h1 : T.call fn_law34_awake [] = some (bN true, [])) (h2 : (bN (decide (((l.length : Nat) : Int) > (20 : Int))) : MV) = .sc (.bool false)) (h3 : T.call fn_trochoid_Engaged [MV.fs l.length none (flat l), iN r, iN t, MV.agg [bN (ng q.num), MV.fs (nz q.num) none (cz q.num), bN (ng ((q.den : Nat) : Int)), MV.fs (nz ((q.den : Nat) : Int)) none (cz ((q.den : Nat) : Int))]] = some (bN b1, [])) (h4 : T.call fn_ref34_Engaged [MV.fs l.length none (flat l), iN r, iN t, MV.agg [bN (ng q.num), MV.fs (nz q.num) none (cz q.num), bN (ng ((q.den : Nat) : Int)), MV.fs (nz ((q.den : Nat) : Int)) none (cz ((q.den : Nat) : Int))]] = some (bN b2, [])) : evalBody PG T FUEL (ioF fn_law34_TrochoidEngaged) fn_law34_TrochoidEngaged [MV.fs l.length none (flat l), MV.agg [iN r, iN t], MV.agg [iN c0, iN c1]] = some (bN (b1 == b2), []) :=
  xBody_io (hard := false) hio (orc := [.call (rM q) [], .call (bN true) [], .auto, .br false, .call (bN b1) [], .call (bN b2) []]) (by kernel_rfl) (owc h0 (owc h1 (owc h2 (owc h3 (ow1 h4)))))

end Go.Proofs.YtkeelkeoijemiaaGreat.Ev

namespace Go.Proofs.YtkeelkeoijemiaaGreat.Ev
open Go Go.RowKit
set_option linter.unusedVariables false
set_option linter.unusedSimpArgs false
set_option maxRecDepth 100000

theorem ex_C : (TU 17).call fn_trochoid_Centers [.agg [iN 0, iN 0], .agg [iN 0, iN 25], iN 10] = some (.tup [.fs 4 none [iN 0, iN 0, iN 0, iN 10, iN 0, iN 20, iN 0, iN 25], iN 0], []) := by kernel_rfl
theorem ex_P : ∃ mv7, (TU 17).call fn_trochoid_Path [.agg [iN 0, iN 0], .agg [iN 0, iN 25], iN 10, iN 10, iN 0, iN 7] = some (.tup [.fs 7 none mv7, iN 0], []) :=
  ⟨[iN 4, iN 0, iN (-10), iN 0, iN 0, iN 0, iN 7, iN 2, iN 0, iN 0, iN 0, iN 0, iN 0, iN 7, iN 4, iN 0, iN 0, iN 0, iN 0, iN 10, iN 7, iN 2, iN 0, iN 10, iN 0, iN 0, iN 0, iN 7, iN 4, iN 0, iN 10, iN 0, iN 0, iN 20, iN 7, iN 2, iN 0, iN 15, iN 0, iN 0, iN 0, iN 7, iN 4, iN 0, iN 15, iN 0, iN 0, iN 25, iN 7], by kernel_rfl⟩
theorem ex_S : (TU 17).call fn_trochoid_Start [.agg [iN 0, iN 0], .agg [iN 0, iN 25], iN 10, iN 0] = some (.tup [.agg [iN 0, iN (-10), iN 0], iN 0], []) := by kernel_rfl
theorem ex_Same (c d : Option Nat) : (TU 17).call fn_ref34_Same [.fs 4 c [iN 0, iN 0, iN 0, iN 10, iN 0, iN 20, iN 0, iN 25], .fs 4 d [iN 0, iN 0, iN 0, iN 10, iN 0, iN 20, iN 0, iN 25]] = some (bN true, []) := by kernel_rfl

theorem eng_ex1 : engP [(0, 0), (100, 0)] 1000 3000 (qI 0) := by
  refine ⟨by decide, by decide, by decide, by decide +kernel, fun _ => ⟨fun i hi => ?_, fun i hi => ?_⟩⟩
  · have : i = 0 ∨ i = 1 := by simp at hi; omega
    rcases this with rfl | rfl <;> exact ⟨by unfold Small; decide, by unfold Small; decide⟩
  · have : i = 0 := by simp at hi; omega
    subst this
    exact ⟨⟨by decide, ⟨by decide, by decide⟩, by decide⟩, by decide +kernel, by decide +kernel⟩
theorem eng_ex2 : ¬ engP [(0, 0), (1000, 0)] 1000 3000 (qI 0) := by
  intro h
  have h1 := ((h.2.2.2.2 (by decide)).2 0 (by decide)).2.2
  revert h1
  decide +kernel
theorem awake_of {m : Nat} (hm : 0 < m) {mv7 : List MV} (h0 : (TU (m - 1)).call fn_trochoid_Centers [MV.agg [iN 0, iN 0], MV.agg [iN 0, iN 25], iN 10] = some (MV.tup [MV.fs 4 none [iN 0, iN 0, iN 0, iN 10, iN 0, iN 20, iN 0, iN 25], iN 0], [])) (h1 : (TU (m - 1)).call fn_trochoid_Path [MV.agg [iN 0, iN 0], MV.agg [iN 0, iN 25], iN 10, iN 10, iN 0, iN 7] = some (MV.tup [MV.fs 7 none mv7, iN 0], [])) (h2 : (TU (m - 1)).call fn_trochoid_Start [MV.agg [iN 0, iN 0], MV.agg [iN 0, iN 25], iN 10, iN 0] = some (MV.tup [MV.agg [iN 0, iN (-10), iN 0], iN 0], []))
    (h3 : (TU (m - 1)).call fn_ref34_Same [MV.fs 4 none [iN 0, iN 0, iN 0, iN 10, iN 0, iN 20, iN 0, iN 25], MV.fs 4 (some 4) [iN 0, iN 0, iN 0, iN 10, iN 0, iN 20, iN 0, iN 25]] = some (bN true, [])) (h5 : (TU (m - 1)).call fn_law34_num [iN 0] = some (rM (qI 0), [])) (h6 : (TU (m - 1)).call fn_trochoid_Engaged [MV.fs 2 (some 2) [iN 0, iN 0, iN 100, iN 0], iN 1000, iN 3000, rM (qI 0)] = some (bN true, [])) (h8 : (TU (m - 1)).call fn_trochoid_Engaged [MV.fs 2 (some 2) [iN 0, iN 0, iN 1000, iN 0], iN 1000, iN 3000, rM (qI 0)] = some (bN false, [])) :
    (TU m).call fn_law34_awake [] = some (bN true, []) :=
  TU_call hm rfl rfl (args' := []) rfl (p_law34_awake_0 (TU_io _) mv7 h0 h1 h2 h3 (sc_b (by decide)) h5 h6 h5 h8) rfl
attribute [local irreducible] TU
open Classical in
theorem c_law34_awake : (TU 18).call fn_law34_awake [] = some (bN true, []) := by
  obtain ⟨mv7, hP⟩ := ex_P
  have i0 : (-9223372036854775808 : Int) ≤ 0 ∧ (0 : Int) ≤ 9223372036854775807 := by decide
  have e1 : (TU 17).call fn_trochoid_Engaged [.fs 2 (some 2) [iN 0, iN 0, iN 100, iN 0], iN 1000, iN 3000, rM (qI 0)] = some (bN true, []) := by
    have := c_trochoid_Engaged (m := 17) (by omega) (l := [(0, 0), (100, 0)]) (r := 1000) (t := 3000) (q := qI 0) (c := some 2) (by decide) (S3 i0)
    rw [decide_eq_true eng_ex1, show flat [((0 : Int), (0 : Int)), (100, 0)] = [iN 0, iN 0, iN 100, iN 0] from rfl, show ([((0 : Int), (0 : Int)), (100, 0)] : List (Int × Int)).length = 2 from rfl] at this
    exact this
  have e2 : (TU 17).call fn_trochoid_Engaged [.fs 2 (some 2) [iN 0, iN 0, iN 1000, iN 0], iN 1000, iN 3000, rM (qI 0)] = some (bN false, []) := by
    have := c_trochoid_Engaged (m := 17) (by omega) (l := [(0, 0), (1000, 0)]) (r := 1000) (t := 3000) (q := qI 0) (c := some 2) (by decide) (S3 i0)
    rw [decide_eq_false eng_ex2, show flat [((0 : Int), (0 : Int)), (1000, 0)] = [iN 0, iN 0, iN 1000, iN 0] from rfl, show ([((0 : Int), (0 : Int)), (1000, 0)] : List (Int × Int)).length = 2 from rfl] at this
    exact this
  have n0 : (TU 17).call fn_law34_num [iN 0] = some (rM (qI 0), []) := c_law34_num (by omega) i0
  exact awake_of (m := 18) (by omega) ex_C hP ex_S (ex_Same none (some 4)) n0 e1 e2
theorem Sz.frac {x y : Int} (hx : -9223372036854775808 ≤ x ∧ x ≤ 9223372036854775807) (hy : -9223372036854775808 ≤ y ∧ y ≤ 9223372036854775807) : Sz 3 (Rat.divInt x y) := by
  by_cases h : y = 0
  · subst h
    rw [Rat.divInt_zero]
    exact ⟨by decide, by decide⟩
  · exact Sz.divInt (nz_i64 hx) (nz_i64 hy) h
open Classical in
/-- The law TrochoidEngaged. -/
theorem law_Engaged {l : List (Int × Int)} {r t c0 c1 : Int} {c : Option Nat} (h0 : -9223372036854775808 ≤ c0 ∧ c0 ≤ 9223372036854775807) (h1 : -9223372036854775808 ≤ c1 ∧ c1 ≤ 9223372036854775807) :
    (TU 19).call fn_law34_TrochoidEngaged [.fs l.length c (flat l), .agg [iN r, iN t], .agg [iN c0, iN c1]] = some (bN true, []) := by
  have hio := TU_io 18
  have hq := Sz.frac h0 h1
  have hf : (TU 18).call fn_ref02_Frac [iN c0, iN c1] = some (rM (Rat.divInt c0 c1), []) := c_ref02_Frac (by omega) h0 h1
  refine TU_call (by omega) rfl rfl (args' := [.fs l.length none (flat l), .agg [iN r, iN t], .agg [iN c0, iN c1]]) (by simp [uncaps, uncap]) (r := bN true) ?_ rfl
  by_cases hl : l.length > 20
  · exact p_law34_TrochoidEngaged_0 hio r t c0 c1 _ true true l hf c_law34_awake (sc_b (decide_eq_true (by omega))) c_law34_awake
  · refine (p_law34_TrochoidEngaged_1 hio r t c0 c1 _ _ _ l hf c_law34_awake (sc_b (decide_eq_false (by omega))) (by exact c_trochoid_Engaged (by omega) (by omega) hq) (by exact c_ref34_Engaged (by omega) (by omega) hq)).trans ?_
    rw [beq_self_eq_true]
end Go.Proofs.YtkeelkeoijemiaaGreat.Ev

namespace Go.Proofs.YtkeelkeoijemiaaGreat.Ev
open Go Go.RowKit

variable {P : Program} {w : World} {r : Reach} {base : Nat}

/-- The cells of a struct or an array, as they are handed in. -/
theorem okWide_cells {t : TypeId} {v : Value} (hu : (match P.underlying t with | some (.struct _) | some (.array _ _) => true | _ => false) = true) (h : Value.okWide P w r base t v) {n : Nat} {ts : List TypeId} (hn : P.cellsOf t = n)
    (hts : P.cellTypes P.depth t = some ts) : ∃ cs : List Value, v = .agg ⟨cs⟩ ∧ cs.length = n ∧ ∀ i x, cs[i]? = some x → ∃ u, ts[i % ts.length]? = some u ∧ Cell.okWide P w r base u x := by
  unfold Value.okWide at h
  have main : (∃ cs, v = .agg cs ∧ cs.size = P.cellsOf t ∧ Row.okWide P w r base t cs) → ∃ cs : List Value, v = .agg ⟨cs⟩ ∧ cs.length = n ∧ ∀ i x, cs[i]? = some x → ∃ u, ts[i % ts.length]? = some u ∧ Cell.okWide P w r base u x := fun ⟨⟨cs⟩, e, hs, ts', h1, _, h3⟩ => by
    rw [hts] at h1
    cases h1
    exact ⟨cs, e, by rw [← hn]; simpa using hs, fun i x hx => h3 i x (by simpa using hx)⟩
  split at h
  · exact main h
  · exact main h
  · rename_i h1 h2
    exfalso
    split at hu
    · rename_i fs hf; exact h1 _ hf
    · rename_i a b hf; exact h2 _ _ hf
    · cases hu
theorem okWide_int {t : TypeId} {k : IntKind} {v : Value} (hu : P.underlying t = some (.int k)) (h : Cell.okWide P w r base t v) : ∃ n, v = .int k n ∧ k.has n := by
  unfold Cell.okWide Cell.ok at h
  rw [hu] at h
  cases v <;> simp at h
  rename_i k' n
  obtain ⟨rfl, h⟩ := h
  exact ⟨n, rfl, h⟩
theorem VRs_sc {ok : Nat → Prop} {R : Nat → Nat → Option (Nat × Nat)} (l : List Value) : VRs w ok R (l.map .sc) l := by
  have := VRs.map_of (w := w) (ok := ok) (R := R) (f := MV.sc) (g := id) l fun x _ => rfl
  simpa using this
end Go.Proofs.YtkeelkeoijemiaaGreat.Ev

