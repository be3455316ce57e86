/- The reference's rationals. The trochoid on whole numbers: what its functions without loops answer. -/
import Derived.Test.YtkeelkeoijemiaaGreatMq
import Derived.Test.YtkeelkeoijemiaaGreatNa
set_option linter.unusedVariables false
set_option linter.unusedSimpArgs false
namespace Go.Proofs.YtkeelkeoijemiaaGreat.Ev
open Go Go.RowKit
set_option linter.unusedVariables false
set_option linter.unusedSimpArgs false

theorem c_ref02_unit {m : Nat} (hm : 3 < m) : (TU m).call fn_ref02_unit [] = some (iM 1, []) :=
  TU_call (by omega) rfl rfl (args' := []) rfl (p_ref02_unit_0 (TU_io _) (by exact c_ref01_FromInt64 (by omega) (by omega))) (uncap_iM 1)
theorem c_ref02_FromInt64 {m : Nat} (hm : 4 < m) {x : Int} (h : -9223372036854775808 ≤ x ∧ x ≤ 9223372036854775807) : (TU m).call fn_ref02_FromInt64 [iN x] = some (rM (x : Rat), []) := by
  refine TU_call (by omega) rfl rfl (args' := [iN x]) rfl (p_ref02_FromInt64_0 (TU_io _) x (by exact c_ref01_FromInt64 (by omega) h) (by exact c_ref02_unit (by omega))) ?_
  rw [rM_of (q := (x : Rat)) (Rat.num_intCast x).symm (by rw [Rat.den_intCast]; rfl)]
  exact uncap_rM _
theorem c_ref02_Of {m : Nat} (hm : 5 < m) {a b : Int} (hb : b ≠ 0) (ha : nz a ≤ 8000) (hbz : nz b ≤ 8000) : (TU m).call fn_ref02_Of [iM a, iM b] = some (rM (Rat.divInt a b), []) := by
  have hio := TU_io (m - 1)
  have hu : uncaps [iM a, iM b] = [iM a, iM b] := by rw [uncaps_iM, uncaps_iM]; rfl
  have sgn : (TU (m - 1)).call fn_ref01_Sign [iM b] = some (iN (cmpI b 0), []) := c_ref01_Sign (by omega) b
  have main : ∀ x y : Int, 0 < y → nz x ≤ 8000 → nz y ≤ 8000 →
      (TU (m - 1)).call fn_ref01_GCD [iM x, iM y] = some (iM ((Nat.gcd x.natAbs y.natAbs : Nat) : Int), []) ∧
      (TU (m - 1)).call fn_ref01_DivMod [iM x, iM ((Nat.gcd x.natAbs y.natAbs : Nat) : Int)] = some (.tup [iM (x.fdiv ((Nat.gcd x.natAbs y.natAbs : Nat) : Int)), iM (x.fmod ((Nat.gcd x.natAbs y.natAbs : Nat) : Int)), iN 0], []) ∧
      (TU (m - 1)).call fn_ref01_DivMod [iM y, iM ((Nat.gcd x.natAbs y.natAbs : Nat) : Int)] = some (.tup [iM (y.fdiv ((Nat.gcd x.natAbs y.natAbs : Nat) : Int)), iM (y.fmod ((Nat.gcd x.natAbs y.natAbs : Nat) : Int)), iN 0], []) := by
    intro x y hy hx1 hy1
    have h1 := nz_gcd_le x y (by omega)
    have h0 : ((Nat.gcd x.natAbs y.natAbs : Nat) : Int) ≠ 0 := by have := Nat.gcd_pos_of_pos_right x.natAbs (show 0 < y.natAbs by omega); omega
    exact ⟨c_ref01_GCD (by omega) hx1 hy1, c_ref01_DivMod (by omega) h0 (by omega) (by omega), c_ref01_DivMod (by omega) h0 (by omega) (by omega)⟩
  by_cases hneg : b < 0
  · have br : (bN (decide ((cmpI b 0) < (0 : Int))) : MV) = .sc (.bool true) := sc_b (decide_eq_true (by rw [cmpI, if_pos hneg]; omega))
    have na : (TU (m - 1)).call fn_ref01_Neg [iM a] = some (iM (-a), []) := c_ref01_Neg (by omega) (by omega)
    have nb : (TU (m - 1)).call fn_ref01_Neg [iM b] = some (iM (-b), []) := c_ref01_Neg (by omega) (by omega)
    obtain ⟨g1, g2, g3⟩ := main (-a) (-b) (by omega) (by rw [nz_neg]; exact ha) (by rw [nz_neg]; exact hbz)
    obtain ⟨e1, e2⟩ := reduce_parts (a := -a) (b := -b) (by omega)
    rw [divInt_neg_neg a b hb] at e1 e2
    refine TU_call (by omega) rfl rfl (args' := [iM a, iM b]) hu (p_ref02_Of_0 hio a b sgn br na nb g1 g2 g3) ?_
    rw [rM_of e1 e2]
    exact uncap_rM _
  · have br : (bN (decide ((cmpI b 0) < (0 : Int))) : MV) = .sc (.bool false) := sc_b (decide_eq_false (by rw [cmpI, if_neg hneg]; split <;> omega))
    obtain ⟨g1, g2, g3⟩ := main a b (by omega) ha hbz
    obtain ⟨e1, e2⟩ := reduce_parts (a := a) (b := b) (by omega)
    refine TU_call (by omega) rfl rfl (args' := [iM a, iM b]) hu (p_ref02_Of_1 hio a b sgn br g1 g2 g3) ?_
    rw [rM_of e1 e2]
    exact uncap_rM _
theorem c_ref02_Make {m : Nat} (hm : 6 < m) {a b : Int} (hb : b ≠ 0) (ha : nz a ≤ 8000) (hbz : nz b ≤ 8000) : (TU m).call fn_ref02_Make [iM a, iM b] = some (.tup [rM (Rat.divInt a b), iN 0], []) := by
  have hc : cmpI b 0 ≠ 0 := by unfold cmpI; split <;> (try split) <;> omega
  have g := p_ref02_Make_1 (TU_io (m - 1)) a b (by exact c_ref01_Sign (by omega) b) (sc_b (by simpa using hc)) (by exact c_ref02_Of (by omega) hb ha hbz)
  exact TU_call (by omega) rfl rfl (args' := [iM a, iM b]) (by rw [uncaps_iM, uncaps_iM]; rfl) g (uncap_tupR _ _)
theorem c_ref02_Frac {m : Nat} (hm : 6 < m) {x y : Int} (hx : -9223372036854775808 ≤ x ∧ x ≤ 9223372036854775807) (hy : -9223372036854775808 ≤ y ∧ y ≤ 9223372036854775807) : (TU m).call fn_ref02_Frac [iN x, iN y] = some (rM (Rat.divInt x y), []) := by
  have hio := TU_io (m - 1)
  by_cases h : y = 0
  · subst h
    have g := p_ref02_Frac_0 hio x 0 (sc_b rfl) (by exact c_ref01_FromInt64 (by omega) (by omega)) (by exact c_ref01_FromInt64 (by omega) (by omega)) (by exact c_ref02_Of (by omega) (by omega) (by decide) (by decide))
    rw [show Rat.divInt x 0 = Rat.divInt 0 1 by rw [Rat.divInt_zero, Rat.zero_divInt]]
    exact TU_call (by omega) rfl rfl (args' := [iN x, iN 0]) rfl g (uncap_rM _)
  · have g := p_ref02_Frac_1 hio x y (sc_b (by simpa using h)) (by exact c_ref01_FromInt64 (by omega) hx) (by exact c_ref01_FromInt64 (by omega) hy) (by exact c_ref02_Of (by omega) h (by have := nz_i64 hx; omega) (by have := nz_i64 hy; omega))
    exact TU_call (by omega) rfl rfl (args' := [iN x, iN y]) rfl g (uncap_rM _)
theorem c_ref02_Sign {m : Nat} (hm : 1 < m) (p : Rat) : (TU m).call fn_ref02_Sign [rM p] = some (iN (cmpI p.num 0), []) :=
  TU_call (by omega) rfl rfl (args' := [rM p]) (by rw [uncaps_rM]; rfl) (p_ref02_Sign_0 (TU_io _) p (by exact c_ref01_Sign (by omega) _)) rfl
theorem c_ref02_Neg {m : Nat} (hm : 3 < m) {p : Rat} {j : Nat} (hp : Sz j p) (hj : j < 100000) : (TU m).call fn_ref02_Neg [rM p] = some (rM (-p), []) := by
  have := hp.n
  refine TU_call (by omega) rfl rfl (args' := [rM p]) (by rw [uncaps_rM]; rfl) (p_ref02_Neg_0 (TU_io _) p (by exact c_ref01_Neg (by omega) (by omega))) ?_
  rw [rM_of (q := -p) (Rat.neg_num p).symm (by rw [Rat.neg_den])]
  exact uncap_rM _
theorem c_ref02_Cmp {m : Nat} (hm : 3 < m) {p q : Rat} {j k : Nat} (hp : Sz j p) (hq : Sz k q) (hjk : j + k < 50000) : (TU m).call fn_ref02_Cmp [rM p, rM q] = some (iN (cmpQ p q), []) := by
  have hio := TU_io (m - 1)
  have := hp.n; have := hp.d; have := hq.n; have := hq.d
  have h1 := nz_mul p.num ((q.den : Nat) : Int)
  have h2 := nz_mul q.num ((p.den : Nat) : Int)
  refine TU_call (by omega) rfl rfl (args' := [rM p, rM q]) (by rw [uncaps_rM, uncaps_rM]; rfl) (r := iN (cmpQ p q)) ?_ rfl
  rw [cmpQ_cross]
  exact p_ref02_Cmp_0 hio p q (by exact c_ref01_Mul (by omega) (by omega)) (by exact c_ref01_Mul (by omega) (by omega)) (by exact c_ref01_Cmp (by omega) (by omega) (by omega))
theorem c_ref02_Add {m : Nat} (hm : 6 < m) {p q : Rat} {j k : Nat} (hp : Sz j p) (hq : Sz k q) (hjk : 2 * j + 2 * k < 8000) : (TU m).call fn_ref02_Add [rM p, rM q] = some (rM (p + q), []) := by
  have hio := TU_io (m - 1)
  have := hp.n; have := hp.d; have := hq.n; have := hq.d
  have hu : uncaps [rM p, rM q] = [rM p, rM q] := by rw [uncaps_rM, uncaps_rM]; rfl
  have h1 := nz_add (p.num * ((q.den : Nat) : Int)) (q.num * ((p.den : Nat) : Int))
  have h2 := nz_mul p.num ((q.den : Nat) : Int)
  have h3 := nz_mul q.num ((p.den : Nat) : Int)
  have h4 := nz_mul ((p.den : Nat) : Int) ((q.den : Nat) : Int)
  have g := p_ref02_Add_0 hio p q (by exact c_ref01_Mul (by omega) (by omega)) (by exact c_ref01_Mul (by omega) (by omega)) (by exact c_ref01_Add (by omega) (by omega) (by omega)) (by exact c_ref01_Mul (by omega) (by omega)) (by exact c_ref02_Of (by omega) (Int.mul_ne_zero (den_ne p) (den_ne q)) (by omega) (by omega))
  rw [add_divInt p q]
  exact TU_call (by omega) rfl rfl (args' := [rM p, rM q]) hu g (uncap_rM _)
theorem c_ref02_Sub {m : Nat} (hm : 7 < m) {p q : Rat} {j k : Nat} (hp : Sz j p) (hq : Sz k q) (hjk : 2 * j + 2 * k < 8000) : (TU m).call fn_ref02_Sub [rM p, rM q] = some (rM (p - q), []) := by
  have g := p_ref02_Sub_0 (TU_io (m - 1)) p q (by exact c_ref02_Neg (by omega) hq (by omega)) (by exact c_ref02_Add (by omega) hp hq.neg hjk)
  rw [Rat.sub_eq_add_neg]
  exact TU_call (by omega) rfl rfl (args' := [rM p, rM q]) (by rw [uncaps_rM, uncaps_rM]; rfl) g (uncap_rM _)
theorem c_ref02_Mul {m : Nat} (hm : 6 < m) {p q : Rat} {j k : Nat} (hp : Sz j p) (hq : Sz k q) (hjk : j + k < 8000) : (TU m).call fn_ref02_Mul [rM p, rM q] = some (rM (p * q), []) := by
  have := hp.n; have := hp.d; have := hq.n; have := hq.d
  have h2 := nz_mul p.num q.num
  have h4 := nz_mul ((p.den : Nat) : Int) ((q.den : Nat) : Int)
  have g := p_ref02_Mul_0 (TU_io (m - 1)) p q (by exact c_ref01_Mul (by omega) (by omega)) (by exact c_ref01_Mul (by omega) (by omega)) (by exact c_ref02_Of (by omega) (Int.mul_ne_zero (den_ne p) (den_ne q)) (by omega) (by omega))
  rw [mul_divInt p q]
  exact TU_call (by omega) rfl rfl (args' := [rM p, rM q]) (by rw [uncaps_rM, uncaps_rM]; rfl) g (uncap_rM _)
theorem c_ref02_Div {m : Nat} (hm : 7 < m) {p q : Rat} {j k : Nat} (hp : Sz j p) (hq : Sz k q) (hjk : j + k < 8000) (h0 : q ≠ 0) : (TU m).call fn_ref02_Div [rM p, rM q] = some (.tup [rM (p / q), iN 0], []) := by
  have := hp.n; have := hp.d; have := hq.n; have := hq.d
  have h2 := nz_mul p.num ((q.den : Nat) : Int)
  have h4 := nz_mul ((p.den : Nat) : Int) q.num
  have g := p_ref02_Div_0 (TU_io (m - 1)) p q (by exact c_ref01_Mul (by omega) (by omega)) (by exact c_ref01_Mul (by omega) (by omega)) (by exact c_ref02_Make (by omega) (Int.mul_ne_zero (den_ne p) (num_ne h0)) (by omega) (by omega))
  rw [div_divInt p q]
  exact TU_call (by omega) rfl rfl (args' := [rM p, rM q]) (by rw [uncaps_rM, uncaps_rM]; rfl) g (uncap_tupR _ _)
theorem c_ref02_Over {m : Nat} (hm : 8 < m) {p q : Rat} {j k : Nat} (hp : Sz j p) (hq : Sz k q) (hjk : j + k < 8000) (h0 : q ≠ 0) : (TU m).call fn_ref02_Over [rM p, rM q] = some (rM (p / q), []) := by
  have g := p_ref02_Over_0 (TU_io (m - 1)) p q (by exact c_ref02_Div (by omega) hp hq hjk h0)
  exact TU_call (by omega) rfl rfl (args' := [rM p, rM q]) (by rw [uncaps_rM, uncaps_rM]; rfl) g (uncap_rM _)
theorem c_ref02_Square {m : Nat} (hm : 7 < m) {p : Rat} {j : Nat} (hp : Sz j p) (hj : j < 4000) : (TU m).call fn_ref02_Square [rM p] = some (rM (p * p), []) := by
  have g := p_ref02_Square_0 (TU_io (m - 1)) p (by exact c_ref02_Mul (by omega) hp hp (by omega))
  exact TU_call (by omega) rfl rfl (args' := [rM p]) (by rw [uncaps_rM]; rfl) g (uncap_rM _)
end Go.Proofs.YtkeelkeoijemiaaGreat.Ev

namespace Go.Proofs.YtkeelkeoijemiaaGreat.Ev
open Go
set_option linter.unusedVariables false
set_option linter.unusedSimpArgs false
set_option maxRecDepth 100000

def cmp3 (a b : Int) : Int := if a > b then 1 else if a < b then -1 else 0
def dir1 (a b : Int) : Int := gmin 1 (gmax (-1) (cmp3 b a))
def okd (ax ay bx by_ : Int) : Bool := !((dir1 ax bx == 0) == (dir1 ay by_ == 0))
def okr (ax ay bx by_ : Int) : Bool := !((cmp3 bx ax == 0) == (cmp3 by_ ay == 0))
def farb (a : Int) : Bool := decide (a > 10000000) || decide (a < -10000000)
def outb (x y r : Int) : Bool := farb x || farb y || farb r || farb (IntKind.i64.wrap (x + r)) || farb (IntKind.i64.wrap (x - r)) || farb (IntKind.i64.wrap (y + r)) || farb (IntKind.i64.wrap (y - r))
def sizb (r t : Int) : Bool := decide (r ≥ 1) && decide (r ≤ t) && decide (t ≤ 10000000)
def idx2 (x y : Int) : Int := if farb x = true then 0 else if farb y = true then 1 else -1
def any2 (x y : Int) : Bool := farb x || farb y
theorem any_idx2 (x y : Int) : decide (idx2 x y ≥ 0) = any2 x y := by
  unfold idx2 any2
  cases h0 : farb x <;> cases h1 : farb y <;> simp [*]
theorem p_trochoid_sign_0 {T : Tab} (hio : TO T) (a : Int)  : evalBody PG T FUEL (ioF fn_trochoid_sign) fn_trochoid_sign [iN a] = some (iN (gmin (1 : Int) (gmax (-1 : Int) a)), []) :=
  xBody_io (hard := false) hio (orc := []) (by kernel_rfl) ow0

theorem c_trochoid_sign {m : Nat} (hm : 0 < m) (a : Int) : (TU m).call fn_trochoid_sign [iN a] = some (.sc (.int .i64 (gmin 1 (gmax (-1) a))), []) := by
  refine TU_call (by omega) rfl rfl (args' := [iN a]) (by simp [uncaps, uncap]) (r := .sc (.int .i64 (gmin 1 (gmax (-1) a)))) ?_ (by simp [uncap, uncaps])
  refine (p_trochoid_sign_0 (TU_io _) _).trans ?_
  first | rfl | (simp_all; done) | (simp_all; (repeat (first | split | intro _)) <;> omega)

theorem p_trochoid_compare_0 {T : Tab} (hio : TO T) (a b : Int) (h0 : (bN (decide (a > b)) : MV) = .sc (.bool true)) : evalBody PG T FUEL (ioF fn_trochoid_compare) fn_trochoid_compare [iN a, iN b] = some (iN 1, []) :=
  xBody_io (hard := false) hio (orc := [.br true]) (by kernel_rfl) (ow1 h0)

theorem p_trochoid_compare_1 {T : Tab} (hio : TO T) (a b : Int) (h0 : (bN (decide (a > b)) : MV) = .sc (.bool false)) (h1 : (bN (decide (a < b)) : MV) = .sc (.bool true)) : evalBody PG T FUEL (ioF fn_trochoid_compare) fn_trochoid_compare [iN a, iN b] = some (iN (-1), []) :=
  xBody_io (hard := false) hio (orc := [.br false, .br true]) (by kernel_rfl) (owc h0 (ow1 h1))

theorem p_trochoid_compare_2 {T : Tab} (hio : TO T) (a b : Int) (h0 : (bN (decide (a > b)) : MV) = .sc (.bool false)) (h1 : (bN (decide (a < b)) : MV) = .sc (.bool false)) : evalBody PG T FUEL (ioF fn_trochoid_compare) fn_trochoid_compare [iN a, iN b] = some (iN 0, []) :=
  xBody_io (hard := false) hio (orc := [.br false, .br false]) (by kernel_rfl) (owc h0 (ow1 h1))

theorem c_trochoid_compare {m : Nat} (hm : 0 < m) (a b : Int) : (TU m).call fn_trochoid_compare [iN a, iN b] = some (.sc (.int .i64 (cmp3 a b)), []) := by
  refine TU_call (by omega) rfl rfl (args' := [iN a, iN b]) (by simp [uncaps, uncap]) (r := .sc (.int .i64 (cmp3 a b))) ?_ (by simp [uncap, uncaps])
  cases b0 : (decide (a > b)) with
  | true =>
    refine (p_trochoid_compare_0 (TU_io _) _ _ (by rw [b0])).trans ?_
    first | rfl | (simp_all [cmp3]; done) | (simp_all [cmp3]; (repeat (first | split | intro _)) <;> omega)
  | false =>
    cases b1 : (decide (a < b)) with
    | true =>
      refine (p_trochoid_compare_1 (TU_io _) _ _ (by rw [b0]) (by rw [b1])).trans ?_
      first | rfl | (simp_all [cmp3]; done) | (simp_all [cmp3]; (repeat (first | split | intro _)) <;> omega)
    | false =>
      refine (p_trochoid_compare_2 (TU_io _) _ _ (by rw [b0]) (by rw [b1])).trans ?_
      first | rfl | (simp_all [cmp3]; done) | (simp_all [cmp3]; (repeat (first | split | intro _)) <;> omega)

theorem p_trochoid_direction_0 {T : Tab} (hio : TO T) (ax ay bx by_ : Int) (h0 : T.call fn_trochoid_compare [iN bx, iN ax] = some (iN (cmp3 bx ax), [])) (h1 : T.call fn_trochoid_sign [iN (cmp3 bx ax)] = some (iN (gmin 1 (gmax (-1) (cmp3 bx ax))), [])) (h2 : T.call fn_trochoid_compare [iN by_, iN ay] = some (iN (cmp3 by_ ay), [])) (h3 : T.call fn_trochoid_sign [iN (cmp3 by_ ay)] = some (iN (gmin 1 (gmax (-1) (cmp3 by_ ay))), [])) : evalBody PG T FUEL (ioF fn_trochoid_direction) fn_trochoid_direction [MV.agg [iN ax, iN ay], MV.agg [iN bx, iN by_]] = some (MV.tup [MV.agg [iN (gmin 1 (gmax (-1) (cmp3 bx ax))), iN (gmin 1 (gmax (-1) (cmp3 by_ ay)))], bN (!(((gmin 1 (gmax (-1) (cmp3 bx ax))) == (0 : Int)) == ((gmin 1 (gmax (-1) (cmp3 by_ ay))) == (0 : Int))))], []) :=
  xBody_io (hard := false) hio (orc := [.call (iN (cmp3 bx ax)) [], .call (iN (gmin 1 (gmax (-1) (cmp3 bx ax)))) [], .call (iN (cmp3 by_ ay)) [], .call (iN (gmin 1 (gmax (-1) (cmp3 by_ ay)))) []]) (by kernel_rfl) (owc h0 (owc h1 (owc h2 (ow1 h3))))

theorem c_trochoid_direction {m : Nat} (hm : 1 < m) (ax ay bx by_ : Int) : (TU m).call fn_trochoid_direction [MV.agg [iN ax, iN ay], MV.agg [iN bx, iN by_]] = some (.tup [.agg [.sc (.int .i64 (dir1 ax bx)), .sc (.int .i64 (dir1 ay by_))], .sc (.bool (okd ax ay bx by_))], []) := by
  refine TU_call (by omega) rfl rfl (args' := [MV.agg [iN ax, iN ay], MV.agg [iN bx, iN by_]]) (by simp [uncaps, uncap]) (r := .tup [.agg [.sc (.int .i64 (dir1 ax bx)), .sc (.int .i64 (dir1 ay by_))], .sc (.bool (okd ax ay bx by_))]) ?_ (by simp [uncap, uncaps])
  refine (p_trochoid_direction_0 (TU_io _) _ _ _ _ (by exact c_trochoid_compare (by omega) ..) (by exact c_trochoid_sign (by omega) ..) (by exact c_trochoid_compare (by omega) ..) (by exact c_trochoid_sign (by omega) ..)).trans ?_
  first | rfl | (simp_all [dir1, okd]; done) | (simp_all [dir1, okd]; (repeat (first | split | intro _)) <;> omega)

theorem p_trochoid_grid_1_0 {T : Tab} (hio : TO T) (a : Int) (h0 : (bN (decide (a > (10000000 : Int))) : MV) = .sc (.bool true)) : evalBody PG T FUEL (ioF fn_trochoid_grid_1) fn_trochoid_grid_1 [iN a] = some (bN true, []) :=
  xBody_io (hard := false) hio (orc := [.br true]) (by kernel_rfl) (ow1 h0)

theorem p_trochoid_grid_1_1 {T : Tab} (hio : TO T) (a : Int) (h0 : (bN (decide (a > (10000000 : Int))) : MV) = .sc (.bool false)) : evalBody PG T FUEL (ioF fn_trochoid_grid_1) fn_trochoid_grid_1 [iN a] = some (bN (decide (a < (-10000000 : Int))), []) :=
  xBody_io (hard := false) hio (orc := [.br false]) (by kernel_rfl) (ow1 h0)

theorem c_trochoid_grid_1 {m : Nat} (hm : 0 < m) (a : Int) : (TU m).call fn_trochoid_grid_1 [iN a] = some (.sc (.bool (farb a)), []) := by
  refine TU_call (by omega) rfl rfl (args' := [iN a]) (by simp [uncaps, uncap]) (r := .sc (.bool (farb a))) ?_ (by simp [uncap, uncaps])
  cases b0 : (decide (a > (10000000 : Int))) with
  | true =>
    refine (p_trochoid_grid_1_0 (TU_io _) _ (by rw [b0])).trans ?_
    first | rfl | (simp_all [farb]; done) | (simp_all [farb]; (repeat (first | split | intro _)) <;> omega)
  | false =>
    refine (p_trochoid_grid_1_1 (TU_io _) _ (by rw [b0])).trans ?_
    first | rfl | (simp_all [farb]; done) | (simp_all [farb]; (repeat (first | split | intro _)) <;> omega)

theorem p_ref34_far_0 {T : Tab} (hio : TO T) (a : Int) (h0 : (bN (decide (a > (10000000 : Int))) : MV) = .sc (.bool true)) : evalBody PG T FUEL (ioF fn_ref34_far) fn_ref34_far [iN a] = some (bN true, []) :=
  xBody_io (hard := false) hio (orc := [.br true]) (by kernel_rfl) (ow1 h0)

theorem p_ref34_far_1 {T : Tab} (hio : TO T) (a : Int) (h0 : (bN (decide (a > (10000000 : Int))) : MV) = .sc (.bool false)) : evalBody PG T FUEL (ioF fn_ref34_far) fn_ref34_far [iN a] = some (bN (decide (a < (-10000000 : Int))), []) :=
  xBody_io (hard := false) hio (orc := [.br false]) (by kernel_rfl) (ow1 h0)

theorem c_ref34_far {m : Nat} (hm : 0 < m) (a : Int) : (TU m).call fn_ref34_far [iN a] = some (.sc (.bool (farb a)), []) := by
  refine TU_call (by omega) rfl rfl (args' := [iN a]) (by simp [uncaps, uncap]) (r := .sc (.bool (farb a))) ?_ (by simp [uncap, uncaps])
  cases b0 : (decide (a > (10000000 : Int))) with
  | true =>
    refine (p_ref34_far_0 (TU_io _) _ (by rw [b0])).trans ?_
    first | rfl | (simp_all [farb]; done) | (simp_all [farb]; (repeat (first | split | intro _)) <;> omega)
  | false =>
    refine (p_ref34_far_1 (TU_io _) _ (by rw [b0])).trans ?_
    first | rfl | (simp_all [farb]; done) | (simp_all [farb]; (repeat (first | split | intro _)) <;> omega)

theorem p_ref34_side_0 {T : Tab} (hio : TO T) (a b : Int) (h0 : (bN (decide (a < b)) : MV) = .sc (.bool true)) : evalBody PG T FUEL (ioF fn_ref34_side) fn_ref34_side [iN a, iN b] = some (iN 1, []) :=
  xBody_io (hard := false) hio (orc := [.br true]) (by kernel_rfl) (ow1 h0)

theorem p_ref34_side_1 {T : Tab} (hio : TO T) (a b : Int) (h0 : (bN (decide (a < b)) : MV) = .sc (.bool false)) (h1 : (bN (decide (a > b)) : MV) = .sc (.bool true)) : evalBody PG T FUEL (ioF fn_ref34_side) fn_ref34_side [iN a, iN b] = some (iN (-1), []) :=
  xBody_io (hard := false) hio (orc := [.br false, .br true]) (by kernel_rfl) (owc h0 (ow1 h1))

theorem p_ref34_side_2 {T : Tab} (hio : TO T) (a b : Int) (h0 : (bN (decide (a < b)) : MV) = .sc (.bool false)) (h1 : (bN (decide (a > b)) : MV) = .sc (.bool false)) : evalBody PG T FUEL (ioF fn_ref34_side) fn_ref34_side [iN a, iN b] = some (iN 0, []) :=
  xBody_io (hard := false) hio (orc := [.br false, .br false]) (by kernel_rfl) (owc h0 (ow1 h1))

theorem c_ref34_side {m : Nat} (hm : 0 < m) (a b : Int) : (TU m).call fn_ref34_side [iN a, iN b] = some (.sc (.int .i64 (cmp3 b a)), []) := by
  refine TU_call (by omega) rfl rfl (args' := [iN a, iN b]) (by simp [uncaps, uncap]) (r := .sc (.int .i64 (cmp3 b a))) ?_ (by simp [uncap, uncaps])
  cases b0 : (decide (a < b)) with
  | true =>
    refine (p_ref34_side_0 (TU_io _) _ _ (by rw [b0])).trans ?_
    first | rfl | (simp_all [cmp3]; done) | (simp_all [cmp3]; (repeat (first | split | intro _)) <;> omega)
  | false =>
    cases b1 : (decide (a > b)) with
    | true =>
      refine (p_ref34_side_1 (TU_io _) _ _ (by rw [b0]) (by rw [b1])).trans ?_
      first | rfl | (simp_all [cmp3]; done) | (simp_all [cmp3]; (repeat (first | split | intro _)) <;> omega)
    | false =>
      refine (p_ref34_side_2 (TU_io _) _ _ (by rw [b0]) (by rw [b1])).trans ?_
      first | rfl | (simp_all [cmp3]; done) | (simp_all [cmp3]; (repeat (first | split | intro _)) <;> omega)

theorem p_ref34_Direction_0 {T : Tab} (hio : TO T) (ax ay bx by_ : Int) (h0 : T.call fn_ref34_side [iN ax, iN bx] = some (iN (cmp3 bx ax), [])) (h1 : T.call fn_ref34_side [iN ay, iN by_] = some (iN (cmp3 by_ ay), [])) : evalBody PG T FUEL (ioF fn_ref34_Direction) fn_ref34_Direction [MV.agg [iN ax, iN ay], MV.agg [iN bx, iN by_]] = some (MV.tup [MV.agg [iN (cmp3 bx ax), iN (cmp3 by_ ay)], bN (!(((cmp3 bx ax) == (0 : Int)) == ((cmp3 by_ ay) == (0 : Int))))], []) :=
  xBody_io (hard := false) hio (orc := [.call (iN (cmp3 bx ax)) [], .call (iN (cmp3 by_ ay)) []]) (by kernel_rfl) (owc h0 (ow1 h1))

theorem c_ref34_Direction {m : Nat} (hm : 1 < m) (ax ay bx by_ : Int) : (TU m).call fn_ref34_Direction [MV.agg [iN ax, iN ay], MV.agg [iN bx, iN by_]] = some (.tup [.agg [.sc (.int .i64 (cmp3 bx ax)), .sc (.int .i64 (cmp3 by_ ay))], .sc (.bool (okr ax ay bx by_))], []) := by
  refine TU_call (by omega) rfl rfl (args' := [MV.agg [iN ax, iN ay], MV.agg [iN bx, iN by_]]) (by simp [uncaps, uncap]) (r := .tup [.agg [.sc (.int .i64 (cmp3 bx ax)), .sc (.int .i64 (cmp3 by_ ay))], .sc (.bool (okr ax ay bx by_))]) ?_ (by simp [uncap, uncaps])
  refine (p_ref34_Direction_0 (TU_io _) _ _ _ _ (by exact c_ref34_side (by omega) ..) (by exact c_ref34_side (by omega) ..)).trans ?_
  first | rfl | (simp_all [okr]; done) | (simp_all [okr]; (repeat (first | split | intro _)) <;> omega)

theorem p_ref34_out_0 {T : Tab} (hio : TO T) (x y r : Int) (h0 : T.call fn_ref34_far [iN x] = some (bN (farb x), [])) (h1 : (bN (farb x) : MV) = .sc (.bool true)) : evalBody PG T FUEL (ioF fn_ref34_out) fn_ref34_out [MV.agg [iN x, iN y], iN r] = some (bN true, []) :=
  xBody_io (hard := false) hio (orc := [.call (bN (farb x)) [], .br true, .auto, .auto]) (by kernel_rfl) (owc h0 (ow1 h1))

theorem p_ref34_out_1 {T : Tab} (hio : TO T) (x y r : Int) (h0 : T.call fn_ref34_far [iN x] = some (bN (farb x), [])) (h1 : (bN (farb x) : MV) = .sc (.bool false)) (h2 : T.call fn_ref34_far [iN y] = some (bN (farb y), [])) (h3 : (bN (farb y) : MV) = .sc (.bool true)) : evalBody PG T FUEL (ioF fn_ref34_out) fn_ref34_out [MV.agg [iN x, iN y], iN r] = some (bN true, []) :=
  xBody_io (hard := false) hio (orc := [.call (bN (farb x)) [], .br false, .call (bN (farb y)) [], .br true, .auto]) (by kernel_rfl) (owc h0 (owc h1 (owc h2 (ow1 h3))))

theorem p_ref34_out_2 {T : Tab} (hio : TO T) (x y r : Int) (h0 : T.call fn_ref34_far [iN x] = some (bN (farb x), [])) (h1 : (bN (farb x) : MV) = .sc (.bool false)) (h2 : T.call fn_ref34_far [iN y] = some (bN (farb y), [])) (h3 : (bN (farb y) : MV) = .sc (.bool false)) (h4 : T.call fn_ref34_far [iN r] = some (bN (farb r), [])) (h5 : (bN (farb r) : MV) = .sc (.bool true)) : evalBody PG T FUEL (ioF fn_ref34_out) fn_ref34_out [MV.agg [iN x, iN y], iN r] = some (bN true, []) :=
  xBody_io (hard := false) hio (orc := [.call (bN (farb x)) [], .br false, .call (bN (farb y)) [], .br false, .call (bN (farb r)) [], .br true]) (by kernel_rfl) (owc h0 (owc h1 (owc h2 (owc h3 (owc h4 (ow1 h5))))))

theorem p_ref34_out_3 {T : Tab} (hio : TO T) (x y r : Int) (h0 : T.call fn_ref34_far [iN x] = some (bN (farb x), [])) (h1 : (bN (farb x) : MV) = .sc (.bool false)) (h2 : T.call fn_ref34_far [iN y] = some (bN (farb y), [])) (h3 : (bN (farb y) : MV) = .sc (.bool false)) (h4 : T.call fn_ref34_far [iN r] = some (bN (farb r), [])) (h5 : (bN (farb r) : MV) = .sc (.bool false)) (h6 : T.call fn_ref34_far [iN (IntKind.i64.wrap (x + r))] = some (bN (farb (IntKind.i64.wrap (x + r))), [])) (h7 : (bN (farb (IntKind.i64.wrap (x + r))) : MV) = .sc (.bool true)) : evalBody PG T FUEL (ioF fn_ref34_out) fn_ref34_out [MV.agg [iN x, iN y], iN r] = some (bN true, []) :=
  xBody_io (hard := false) hio (orc := [.call (bN (farb x)) [], .br false, .call (bN (farb y)) [], .br false, .call (bN (farb r)) [], .br false, .call (bN (farb (IntKind.i64.wrap (x + r)))) [], .br true, .auto, .auto]) (by kernel_rfl) (owc h0 (owc h1 (owc h2 (owc h3 (owc h4 (owc h5 (owc h6 (ow1 h7))))))))

theorem p_ref34_out_4 {T : Tab} (hio : TO T) (x y r : Int) (h0 : T.call fn_ref34_far [iN x] = some (bN (farb x), [])) (h1 : (bN (farb x) : MV) = .sc (.bool false)) (h2 : T.call fn_ref34_far [iN y] = some (bN (farb y), [])) (h3 : (bN (farb y) : MV) = .sc (.bool false)) (h4 : T.call fn_ref34_far [iN r] = some (bN (farb r), [])) (h5 : (bN (farb r) : MV) = .sc (.bool false)) (h6 : T.call fn_ref34_far [iN (IntKind.i64.wrap (x + r))] = some (bN (farb (IntKind.i64.wrap (x + r))), [])) (h7 : (bN (farb (IntKind.i64.wrap (x + r))) : MV) = .sc (.bool false)) (h8 : T.call fn_ref34_far [iN (IntKind.i64.wrap (x - r))] = some (bN (farb (IntKind.i64.wrap (x - r))), [])) (h9 : (bN (farb (IntKind.i64.wrap (x - r))) : MV) = .sc (.bool true)) : evalBody PG T FUEL (ioF fn_ref34_out) fn_ref34_out [MV.agg [iN x, iN y], iN r] = some (bN true, []) :=
  xBody_io (hard := false) hio (orc := [.call (bN (farb x)) [], .br false, .call (bN (farb y)) [], .br false, .call (bN (farb r)) [], .br false, .call (bN (farb (IntKind.i64.wrap (x + r)))) [], .br false, .call (bN (farb (IntKind.i64.wrap (x - r)))) [], .br true, .auto]) (by kernel_rfl) (owc h0 (owc h1 (owc h2 (owc h3 (owc h4 (owc h5 (owc h6 (owc h7 (owc h8 (ow1 h9))))))))))

theorem p_ref34_out_5 {T : Tab} (hio : TO T) (x y r : Int) (h0 : T.call fn_ref34_far [iN x] = some (bN (farb x), [])) (h1 : (bN (farb x) : MV) = .sc (.bool false)) (h2 : T.call fn_ref34_far [iN y] = some (bN (farb y), [])) (h3 : (bN (farb y) : MV) = .sc (.bool false)) (h4 : T.call fn_ref34_far [iN r] = some (bN (farb r), [])) (h5 : (bN (farb r) : MV) = .sc (.bool false)) (h6 : T.call fn_ref34_far [iN (IntKind.i64.wrap (x + r))] = some (bN (farb (IntKind.i64.wrap (x + r))), [])) (h7 : (bN (farb (IntKind.i64.wrap (x + r))) : MV) = .sc (.bool false)) (h8 : T.call fn_ref34_far [iN (IntKind.i64.wrap (x - r))] = some (bN (farb (IntKind.i64.wrap (x - r))), [])) (h9 : (bN (farb (IntKind.i64.wrap (x - r))) : MV) = .sc (.bool false)) (h10 : T.call fn_ref34_far [iN (IntKind.i64.wrap (y + r))] = some (bN (farb (IntKind.i64.wrap (y + r))), [])) (h11 : (bN (farb (IntKind.i64.wrap (y + r))) : MV) = .sc (.bool true)) : evalBody PG T FUEL (ioF fn_ref34_out) fn_ref34_out [MV.agg [iN x, iN y], iN r] = some (bN true, []) :=
  xBody_io (hard := false) hio (orc := [.call (bN (farb x)) [], .br false, .call (bN (farb y)) [], .br false, .call (bN (farb r)) [], .br false, .call (bN (farb (IntKind.i64.wrap (x + r)))) [], .br false, .call (bN (farb (IntKind.i64.wrap (x - r)))) [], .br false, .call (bN (farb (IntKind.i64.wrap (y + r)))) [], .br true]) (by kernel_rfl) (owc h0 (owc h1 (owc h2 (owc h3 (owc h4 (owc h5 (owc h6 (owc h7 (owc h8 (owc h9 (owc h10 (ow1 h11))))))))))))

theorem p_ref34_out_6 {T : Tab} (hio : TO T) (x y r : Int) (h0 : T.call fn_ref34_far [iN x] = some (bN (farb x), [])) (h1 : (bN (farb x) : MV) = .sc (.bool false)) (h2 : T.call fn_ref34_far [iN y] = some (bN (farb y), [])) (h3 : (bN (farb y) : MV) = .sc (.bool false)) (h4 : T.call fn_ref34_far [iN r] = some (bN (farb r), [])) (h5 : (bN (farb r) : MV) = .sc (.bool false)) (h6 : T.call fn_ref34_far [iN (IntKind.i64.wrap (x + r))] = some (bN (farb (IntKind.i64.wrap (x + r))), [])) (h7 : (bN (farb (IntKind.i64.wrap (x + r))) : MV) = .sc (.bool false)) (h8 : T.call fn_ref34_far [iN (IntKind.i64.wrap (x - r))] = some (bN (farb (IntKind.i64.wrap (x - r))), [])) (h9 : (bN (farb (IntKind.i64.wrap (x - r))) : MV) = .sc (.bool false)) (h10 : T.call fn_ref34_far [iN (IntKind.i64.wrap (y + r))] = some (bN (farb (IntKind.i64.wrap (y + r))), [])) (h11 : (bN (farb (IntKind.i64.wrap (y + r))) : MV) = .sc (.bool false)) (h12 : T.call fn_ref34_far [iN (IntKind.i64.wrap (y - r))] = some (bN (farb (IntKind.i64.wrap (y - r))), [])) : evalBody PG T FUEL (ioF fn_ref34_out) fn_ref34_out [MV.agg [iN x, iN y], iN r] = some (bN (farb (IntKind.i64.wrap (y - r))), []) :=
  xBody_io (hard := false) hio (orc := [.call (bN (farb x)) [], .br false, .call (bN (farb y)) [], .br false, .call (bN (farb r)) [], .br false, .call (bN (farb (IntKind.i64.wrap (x + r)))) [], .br false, .call (bN (farb (IntKind.i64.wrap (x - r)))) [], .br false, .call (bN (farb (IntKind.i64.wrap (y + r)))) [], .br false, .call (bN (farb (IntKind.i64.wrap (y - r)))) []]) (by kernel_rfl) (owc h0 (owc h1 (owc h2 (owc h3 (owc h4 (owc h5 (owc h6 (owc h7 (owc h8 (owc h9 (owc h10 (owc h11 (ow1 h12)))))))))))))

theorem c_ref34_out {m : Nat} (hm : 1 < m) (x y r : Int) : (TU m).call fn_ref34_out [MV.agg [iN x, iN y], iN r] = some (.sc (.bool (outb x y r)), []) := by
  refine TU_call (by omega) rfl rfl (args' := [MV.agg [iN x, iN y], iN r]) (by simp [uncaps, uncap]) (r := .sc (.bool (outb x y r))) ?_ (by simp [uncap, uncaps])
  cases b0 : (farb x) with
  | true =>
    refine (p_ref34_out_0 (TU_io _) _ _ _ (by exact c_ref34_far (by omega) ..) (by rw [b0])).trans ?_
    first | rfl | (simp_all [outb]; done) | (simp_all [outb]; (repeat (first | split | intro _)) <;> omega)
  | false =>
    cases b1 : (farb y) with
    | true =>
      refine (p_ref34_out_1 (TU_io _) _ _ _ (by exact c_ref34_far (by omega) ..) (by rw [b0]) (by exact c_ref34_far (by omega) ..) (by rw [b1])).trans ?_
      first | rfl | (simp_all [outb]; done) | (simp_all [outb]; (repeat (first | split | intro _)) <;> omega)
    | false =>
      cases b2 : (farb r) with
      | true =>
        refine (p_ref34_out_2 (TU_io _) _ _ _ (by exact c_ref34_far (by omega) ..) (by rw [b0]) (by exact c_ref34_far (by omega) ..) (by rw [b1]) (by exact c_ref34_far (by omega) ..) (by rw [b2])).trans ?_
        first | rfl | (simp_all [outb]; done) | (simp_all [outb]; (repeat (first | split | intro _)) <;> omega)
      | false =>
        cases b3 : (farb (IntKind.i64.wrap (x + r))) with
        | true =>
          refine (p_ref34_out_3 (TU_io _) _ _ _ (by exact c_ref34_far (by omega) ..) (by rw [b0]) (by exact c_ref34_far (by omega) ..) (by rw [b1]) (by exact c_ref34_far (by omega) ..) (by rw [b2]) (by exact c_ref34_far (by omega) ..) (by rw [b3])).trans ?_
          first | rfl | (simp_all [outb]; done) | (simp_all [outb]; (repeat (first | split | intro _)) <;> omega)
        | false =>
          cases b4 : (farb (IntKind.i64.wrap (x - r))) with
          | true =>
            refine (p_ref34_out_4 (TU_io _) _ _ _ (by exact c_ref34_far (by omega) ..) (by rw [b0]) (by exact c_ref34_far (by omega) ..) (by rw [b1]) (by exact c_ref34_far (by omega) ..) (by rw [b2]) (by exact c_ref34_far (by omega) ..) (by rw [b3]) (by exact c_ref34_far (by omega) ..) (by rw [b4])).trans ?_
            first | rfl | (simp_all [outb]; done) | (simp_all [outb]; (repeat (first | split | intro _)) <;> omega)
          | false =>
            cases b5 : (farb (IntKind.i64.wrap (y + r))) with
            | true =>
              refine (p_ref34_out_5 (TU_io _) _ _ _ (by exact c_ref34_far (by omega) ..) (by rw [b0]) (by exact c_ref34_far (by omega) ..) (by rw [b1]) (by exact c_ref34_far (by omega) ..) (by rw [b2]) (by exact c_ref34_far (by omega) ..) (by rw [b3]) (by exact c_ref34_far (by omega) ..) (by rw [b4]) (by exact c_ref34_far (by omega) ..) (by rw [b5])).trans ?_
              first | rfl | (simp_all [outb]; done) | (simp_all [outb]; (repeat (first | split | intro _)) <;> omega)
            | false =>
              refine (p_ref34_out_6 (TU_io _) _ _ _ (by exact c_ref34_far (by omega) ..) (by rw [b0]) (by exact c_ref34_far (by omega) ..) (by rw [b1]) (by exact c_ref34_far (by omega) ..) (by rw [b2]) (by exact c_ref34_far (by omega) ..) (by rw [b3]) (by exact c_ref34_far (by omega) ..) (by rw [b4]) (by exact c_ref34_far (by omega) ..) (by rw [b5]) (by exact c_ref34_far (by omega) ..)).trans ?_
              first | rfl | (simp_all [outb]; done) | (simp_all [outb]; (repeat (first | split | intro _)) <;> omega)

theorem p_ref34_sizes_0 {T : Tab} (hio : TO T) (r t : Int) (h0 : (bN (decide (r ≥ (1 : Int))) : MV) = .sc (.bool true)) (h1 : (bN (decide (r ≤ t)) : MV) = .sc (.bool true)) : evalBody PG T FUEL (ioF fn_ref34_sizes) fn_ref34_sizes [iN r, iN t] = some (bN (decide (t ≤ (10000000 : Int))), []) :=
  xBody_io (hard := false) hio (orc := [.br true, .br true]) (by kernel_rfl) (owc h0 (ow1 h1))

theorem p_ref34_sizes_1 {T : Tab} (hio : TO T) (r t : Int) (h0 : (bN (decide (r ≥ (1 : Int))) : MV) = .sc (.bool false)) : evalBody PG T FUEL (ioF fn_ref34_sizes) fn_ref34_sizes [iN r, iN t] = some (bN false, []) :=
  xBody_io (hard := false) hio (orc := [.br false, .auto]) (by kernel_rfl) (ow1 h0)

theorem p_ref34_sizes_2 {T : Tab} (hio : TO T) (r t : Int) (h0 : (bN (decide (r ≥ (1 : Int))) : MV) = .sc (.bool true)) (h1 : (bN (decide (r ≤ t)) : MV) = .sc (.bool false)) : evalBody PG T FUEL (ioF fn_ref34_sizes) fn_ref34_sizes [iN r, iN t] = some (bN false, []) :=
  xBody_io (hard := false) hio (orc := [.br true, .br false]) (by kernel_rfl) (owc h0 (ow1 h1))

theorem c_ref34_sizes {m : Nat} (hm : 0 < m) (r t : Int) : (TU m).call fn_ref34_sizes [iN r, iN t] = some (.sc (.bool (sizb r t)), []) := by
  refine TU_call (by omega) rfl rfl (args' := [iN r, iN t]) (by simp [uncaps, uncap]) (r := .sc (.bool (sizb r t))) ?_ (by simp [uncap, uncaps])
  cases b0 : (decide (r ≥ (1 : Int))) with
  | true =>
    cases b1 : (decide (r ≤ t)) with
    | true =>
      refine (p_ref34_sizes_0 (TU_io _) _ _ (by rw [b0]) (by rw [b1])).trans ?_
      first | rfl | (simp_all [sizb]; done) | (simp_all [sizb]; (repeat (first | split | intro _)) <;> omega)
    | false =>
      refine (p_ref34_sizes_2 (TU_io _) _ _ (by rw [b0]) (by rw [b1])).trans ?_
      first | rfl | (simp_all [sizb]; done) | (simp_all [sizb]; (repeat (first | split | intro _)) <;> omega)
  | false =>
    refine (p_ref34_sizes_1 (TU_io _) _ _ (by rw [b0])).trans ?_
    first | rfl | (simp_all [sizb]; done) | (simp_all [sizb]; (repeat (first | split | intro _)) <;> omega)

theorem p_slices_IndexFunc_int64_n2_0 {T : Tab} (hio : TO T) (x y : Int) (h0 : (0 : Int) ≤ (0 : Int) ∧ (0 : Int) < ((2 : Nat) : Int) ∧ ([iN x, iN y] : List MV) ≠ []) (h1 : T.call fn_trochoid_grid_1 [iN x] = some (bN (farb x), [])) (h2 : (bN (farb x) : MV) = .sc (.bool true)) : evalBody PG T FUEL (ioF fn_slices_IndexFunc_int64) fn_slices_IndexFunc_int64 [MV.fs 2 none [iN x, iN y], MV.fn fn_trochoid_grid_1 []] = some (iN 0, []) :=
  xBody_io (hard := false) hio (orc := [.auto, .auto, .auto, .call (bN (farb x)) [], .br true]) (by kernel_rfl) (owc h0 (owc h1 (ow1 h2)))

theorem p_slices_IndexFunc_int64_n2_1 {T : Tab} (hio : TO T) (x y : Int) (h0 : (0 : Int) ≤ (0 : Int) ∧ (0 : Int) < ((2 : Nat) : Int) ∧ ([iN x, iN y] : List MV) ≠ []) (h1 : T.call fn_trochoid_grid_1 [iN x] = some (bN (farb x), [])) (h2 : (bN (farb x) : MV) = .sc (.bool false)) (h3 : (0 : Int) ≤ (1 : Int) ∧ (1 : Int) < ((2 : Nat) : Int) ∧ ([iN x, iN y] : List MV) ≠ []) (h4 : T.call fn_trochoid_grid_1 [iN y] = some (bN (farb y), [])) (h5 : (bN (farb y) : MV) = .sc (.bool true)) : evalBody PG T FUEL (ioF fn_slices_IndexFunc_int64) fn_slices_IndexFunc_int64 [MV.fs 2 none [iN x, iN y], MV.fn fn_trochoid_grid_1 []] = some (iN 1, []) :=
  xBody_io (hard := false) hio (orc := [.auto, .auto, .auto, .call (bN (farb x)) [], .br false, .auto, .auto, .call (bN (farb y)) [], .br true]) (by kernel_rfl) (owc h0 (owc h1 (owc h2 (owc h3 (owc h4 (ow1 h5))))))

theorem p_slices_IndexFunc_int64_n2_2 {T : Tab} (hio : TO T) (x y : Int) (h0 : (0 : Int) ≤ (0 : Int) ∧ (0 : Int) < ((2 : Nat) : Int) ∧ ([iN x, iN y] : List MV) ≠ []) (h1 : T.call fn_trochoid_grid_1 [iN x] = some (bN (farb x), [])) (h2 : (bN (farb x) : MV) = .sc (.bool false)) (h3 : (0 : Int) ≤ (1 : Int) ∧ (1 : Int) < ((2 : Nat) : Int) ∧ ([iN x, iN y] : List MV) ≠ []) (h4 : T.call fn_trochoid_grid_1 [iN y] = some (bN (farb y), [])) (h5 : (bN (farb y) : MV) = .sc (.bool false)) : evalBody PG T FUEL (ioF fn_slices_IndexFunc_int64) fn_slices_IndexFunc_int64 [MV.fs 2 none [iN x, iN y], MV.fn fn_trochoid_grid_1 []] = some (iN (-1), []) :=
  xBody_io (hard := false) hio (orc := [.auto, .auto, .auto, .call (bN (farb x)) [], .br false, .auto, .auto, .call (bN (farb y)) [], .br false, .auto]) (by kernel_rfl) (owc h0 (owc h1 (owc h2 (owc h3 (owc h4 (ow1 h5))))))

theorem c_slices_IndexFunc_int64_n2 {m : Nat} (hm : 1 < m) (x y : Int) (c : Option Nat) : (TU m).call fn_slices_IndexFunc_int64 [MV.fs 2 c [iN x, iN y], MV.fn fn_trochoid_grid_1 []] = some (.sc (.int .i64 (idx2 x y)), []) := by
  refine TU_call (by omega) rfl rfl (args' := [MV.fs 2 none [iN x, iN y], MV.fn fn_trochoid_grid_1 []]) (by simp [uncaps, uncap]) (r := .sc (.int .i64 (idx2 x y))) ?_ (by simp [uncap, uncaps])
  cases b0 : (farb x) with
  | true =>
    refine (p_slices_IndexFunc_int64_n2_0 (TU_io _) _ _ (by simp) (by exact c_trochoid_grid_1 (by omega) ..) (by rw [b0])).trans ?_
    first | rfl | (simp_all [idx2]; done) | (simp_all [idx2]; (repeat (first | split | intro _)) <;> omega)
  | false =>
    cases b1 : (farb y) with
    | true =>
      refine (p_slices_IndexFunc_int64_n2_1 (TU_io _) _ _ (by simp) (by exact c_trochoid_grid_1 (by omega) ..) (by rw [b0]) (by simp) (by exact c_trochoid_grid_1 (by omega) ..) (by rw [b1])).trans ?_
      first | rfl | (simp_all [idx2]; done) | (simp_all [idx2]; (repeat (first | split | intro _)) <;> omega)
    | false =>
      refine (p_slices_IndexFunc_int64_n2_2 (TU_io _) _ _ (by simp) (by exact c_trochoid_grid_1 (by omega) ..) (by rw [b0]) (by simp) (by exact c_trochoid_grid_1 (by omega) ..) (by rw [b1])).trans ?_
      first | rfl | (simp_all [idx2]; done) | (simp_all [idx2]; (repeat (first | split | intro _)) <;> omega)

theorem p_slices_ContainsFunc_int64_n2_0 {T : Tab} (hio : TO T) (x y : Int) (h0 : T.call fn_slices_IndexFunc_int64 [MV.fs 2 none [iN x, iN y], MV.fn fn_trochoid_grid_1 []] = some (iN (idx2 x y), [])) : evalBody PG T FUEL (ioF fn_slices_ContainsFunc_int64) fn_slices_ContainsFunc_int64 [MV.fs 2 none [iN x, iN y], MV.fn fn_trochoid_grid_1 []] = some (bN (decide ((idx2 x y) ≥ (0 : Int))), []) :=
  xBody_io (hard := false) hio (orc := [.call (iN (idx2 x y)) []]) (by kernel_rfl) (ow1 h0)

theorem c_slices_ContainsFunc_int64_n2 {m : Nat} (hm : 2 < m) (x y : Int) (c : Option Nat) : (TU m).call fn_slices_ContainsFunc_int64 [MV.fs 2 c [iN x, iN y], MV.fn fn_trochoid_grid_1 []] = some (.sc (.bool (any2 x y)), []) := by
  refine TU_call (by omega) rfl rfl (args' := [MV.fs 2 none [iN x, iN y], MV.fn fn_trochoid_grid_1 []]) (by simp [uncaps, uncap]) (r := .sc (.bool (any2 x y))) ?_ (by simp [uncap, uncaps])
  refine (p_slices_ContainsFunc_int64_n2_0 (TU_io _) _ _ (by exact c_slices_IndexFunc_int64_n2 (by omega) ..)).trans ?_
  first | rfl | (simp_all [any_idx2]; done) | (simp_all [any_idx2]; (repeat (first | split | intro _)) <;> omega)

theorem p_trochoid_grid_n2_0 {T : Tab} (hio : TO T) (x y : Int) (h0 : T.call fn_slices_ContainsFunc_int64 [MV.fs 2 none [iN x, iN y], MV.fn fn_trochoid_grid_1 []] = some (bN (any2 x y), [])) : evalBody PG T FUEL (ioF fn_trochoid_grid) fn_trochoid_grid [MV.fs 2 none [iN x, iN y]] = some (bN (!(any2 x y)), []) :=
  xBody_io (hard := false) hio (orc := [.call (bN (any2 x y)) []]) (by kernel_rfl) (ow1 h0)

theorem c_trochoid_grid_n2 {m : Nat} (hm : 3 < m) (x y : Int) (c : Option Nat) : (TU m).call fn_trochoid_grid [MV.fs 2 c [iN x, iN y]] = some (.sc (.bool (!any2 x y)), []) := by
  refine TU_call (by omega) rfl rfl (args' := [MV.fs 2 none [iN x, iN y]]) (by simp [uncaps, uncap]) (r := .sc (.bool (!any2 x y))) ?_ (by simp [uncap, uncaps])
  refine (p_trochoid_grid_n2_0 (TU_io _) _ _ (by exact c_slices_ContainsFunc_int64_n2 (by omega) ..)).trans ?_
  first | rfl | (simp_all; done) | (simp_all; (repeat (first | split | intro _)) <;> omega)

end Go.Proofs.YtkeelkeoijemiaaGreat.Ev

