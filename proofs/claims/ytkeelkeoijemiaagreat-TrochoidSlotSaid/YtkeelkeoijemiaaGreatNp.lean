/- Long division: the quotient's digit is guessed. Long division: the quotient, digit by digit. Long division: what divide answers; words. -/
import Derived.Test.YtkeelkeoijemiaaGreatNl
set_option linter.unusedVariables false
set_option linter.unusedSimpArgs false
namespace Go.Proofs.YtkeelkeoijemiaaGreat.Ev
open Go Go.RowKit
set_option linter.unusedVariables false
set_option linter.unusedSimpArgs false

/-- A loop that ends, by a measure. -/
theorem loop_meas {G : St → Option (Out × St)} {nm : St → St} (Inv : Nat → St → Prop) (Q : Out → St → Prop) : ∀ (n k : Nat) (S : St),
    (∀ k s, Inv k s → (∃ o s', G s = some (o, s') ∧ o ≠ .normal ∧ Q o s') ∨ ∃ s' k', k' < k ∧ G s = some (.normal, s') ∧ Inv k' (nm s')) → Inv k S → k < n → ∃ o s', headLoop G nm n S = some (o, s') ∧ Q o s'
  | 0, k, S, _, _, h => by omega
  | n + 1, k, S, hs, h0, hn => by
    rcases hs k S h0 with ⟨o, s', h1, h2, h3⟩ | ⟨s', k', h1, h2, h3⟩
    · refine ⟨o, s', ?_, h3⟩
      simp only [headLoop, h1]
      cases o with
      | normal => exact absurd rfl h2
      | exit i => rfl
      | ret => rfl
    · obtain ⟨o, t, h4, h5⟩ := loop_meas Inv Q n k' (nm s') hs h3 (by omega)
      refine ⟨o, t, ?_, h5⟩
      simp only [headLoop, h2]
      exact h4

/-- A number by its limbs from some place up. -/
theorem hi_of (V q : Nat) {a : Nat} (h : V / BB ^ q = a) : a * BB ^ q ≤ V ∧ V < (a + 1) * BB ^ q := by
  subst h
  have hp := BBp q
  exact ⟨Nat.div_mul_le_self _ _, (Nat.div_lt_iff_lt_mul hp).1 (Nat.lt_succ_self _)⟩

section
variable {U V q v1 v2 top u3 : Nat}
/-- The guess is too great. -/
theorem guess_big {g rest : Nat} (hV : (v1 * BB + v2) * BB ^ q ≤ V) (hU : U < (top * BB + u3 + 1) * BB ^ q) (hg : g * v1 + rest = top) (h : rest * BB + u3 < g * v2) : U / V < g := by
  have h1 : top * BB + u3 + 1 ≤ g * (v1 * BB + v2) := by
    have : g * (v1 * BB + v2) = g * v1 * BB + g * v2 := by rw [Nat.mul_add, Nat.mul_assoc]
    rw [this, ← hg, Nat.add_mul]; omega
  have h2 : (top * BB + u3 + 1) * BB ^ q ≤ g * V := by
    calc (top * BB + u3 + 1) * BB ^ q ≤ g * (v1 * BB + v2) * BB ^ q := Nat.mul_le_mul_right _ h1
      _ = g * ((v1 * BB + v2) * BB ^ q) := Nat.mul_assoc ..
      _ ≤ g * V := Nat.mul_le_mul_left _ hV
  by_cases hV0 : V = 0
  · subst hV0; rw [Nat.mul_zero] at h2; omega
  · exact (Nat.div_lt_iff_lt_mul (Nat.pos_of_ne_zero hV0)).2 (by omega)
/-- The guess is at most one too great. -/
theorem guess_near {g rest : Nat} (hV : V < (v1 * BB + v2 + 1) * BB ^ q) (hV1 : BB * BB ^ q ≤ V) (hU : (top * BB + u3) * BB ^ q ≤ U) (hg : g * v1 + rest = top) (h : g * v2 ≤ rest * BB + u3) (hgB : g ≤ BB) : g ≤ U / V + 1 := by
  have hV0 : 0 < V := Nat.lt_of_lt_of_le (Nat.mul_pos BB_pos (BBp q)) hV1
  have h1 : g * (v1 * BB + v2) ≤ top * BB + u3 := by
    have : g * (v1 * BB + v2) = g * v1 * BB + g * v2 := by rw [Nat.mul_add, Nat.mul_assoc]
    rw [this, ← hg, Nat.add_mul]; omega
  cases g with
  | zero => exact Nat.zero_le _
  | succ g =>
    refine Nat.succ_le_succ ((Nat.le_div_iff_mul_le hV0).2 ?_)
    have h2 : (g + 1) * V ≤ (g + 1) * ((v1 * BB + v2 + 1) * BB ^ q) := Nat.mul_le_mul_left _ (Nat.le_of_lt hV)
    have h3 : (g + 1) * ((v1 * BB + v2 + 1) * BB ^ q) = (g + 1) * (v1 * BB + v2) * BB ^ q + (g + 1) * BB ^ q := by
      rw [← Nat.mul_assoc, Nat.mul_add, Nat.mul_one, Nat.add_mul]
    have h4 : (g + 1) * (v1 * BB + v2) * BB ^ q ≤ (top * BB + u3) * BB ^ q := Nat.mul_le_mul_right _ h1
    have h5 : (g + 1) * BB ^ q ≤ BB * BB ^ q := Nat.mul_le_mul_right _ hgB
    rw [Nat.add_mul, Nat.one_mul] at h2
    omega
theorem guess_first (hV : (v1 * BB + v2) * BB ^ q ≤ V) (hU : U < (top * BB + u3 + 1) * BB ^ q) (hu3 : u3 < BB) (hv1 : 0 < v1) (hV0 : 0 < V) : U / V ≤ top / v1 := by
  refine (Nat.le_div_iff_mul_le hv1).2 ?_
  have h1 : U / V * V ≤ U := Nat.div_mul_le_self _ _
  have h2 : U / V * ((v1 * BB + v2) * BB ^ q) ≤ U / V * V := Nat.mul_le_mul_left _ hV
  have h3 : U / V * (v1 * BB + v2) < top * BB + u3 + 1 := by
    apply Nat.lt_of_mul_lt_mul_right (a := BB ^ q)
    rw [Nat.mul_assoc]; omega
  have h4 : U / V * v1 * BB ≤ U / V * (v1 * BB + v2) := by rw [Nat.mul_assoc]; exact Nat.mul_le_mul_left _ (Nat.le_add_right _ _)
  have h5 : U / V * v1 * BB < (top + 1) * BB := by rw [Nat.add_mul, Nat.one_mul]; omega
  have := Nat.lt_of_mul_lt_mul_right h5
  omega
end

/-- What is known when the digit is guessed. -/
structure Gs (V Uk q v1 v2 top u3 : Nat) : Prop where
  q2 : 2 ≤ q
  vlo : (v1 * BB + v2) * BB ^ (q - 2) ≤ V
  vhi : V < (v1 * BB + v2 + 1) * BB ^ (q - 2)
  v1g : 1200 ≤ v1
  v1l : v1 < BB
  v2l : v2 < BB
  ulo : (top * BB + u3) * BB ^ (q - 2) ≤ Uk
  uhi : Uk < (top * BB + u3 + 1) * BB ^ (q - 2)
  u3l : u3 < BB
  UV : Uk < V * BB
theorem Gs.top {V Uk q v1 v2 top u3 : Nat} (h : Gs V Uk q v1 v2 top u3) : top ≤ v1 * BB + BB - 1 := by
  have hp := BBp (q - 2)
  have h1 : (top * BB + u3) * BB ^ (q - 2) < (v1 * BB + v2 + 1) * BB * BB ^ (q - 2) := by
    have h2 : V * BB < (v1 * BB + v2 + 1) * BB ^ (q - 2) * BB := Nat.mul_lt_mul_of_pos_right h.vhi BB_pos
    have h3 : (v1 * BB + v2 + 1) * BB ^ (q - 2) * BB = (v1 * BB + v2 + 1) * BB * BB ^ (q - 2) := by rw [Nat.mul_assoc, Nat.mul_comm (BB ^ (q - 2)), ← Nat.mul_assoc]
    have := h.ulo
    have := h.UV
    omega
  have h4 := Nat.lt_of_mul_lt_mul_right h1
  have h5 : top * BB < (v1 * BB + v2 + 1) * BB := by omega
  have h6 := Nat.lt_of_mul_lt_mul_right h5
  have := h.v2l
  omega
theorem Gs.v1B {V Uk q v1 v2 top u3 : Nat} (h : Gs V Uk q v1 v2 top u3) : BB * BB ^ (q - 2) ≤ V := by
  refine Nat.le_trans (Nat.mul_le_mul_right _ ?_) h.vlo
  have := Nat.mul_le_mul_right BB h.v1g
  have eB : BB = 1000000000 := rfl
  omega

theorem guess_loop {T : Tab} (hio : TO T) {n v m w p q la A lb Bv V t R k Qn x0 x1 : Nat} {cc : Int} (cs63 : List MV) (hn63 : NoNames cs63) (j : Nat → Int)
    (hq : q < 100000) (hk : k + q < la + 1) (hla : la < 100000) (hR : R < BB ^ (la + 1)) (hVq : V < BB ^ q)
    (hx0 : x0 = dgt R (k + q)) (hx1 : x1 = dgt R (k + q - 1)) (hg : Gs V t q (dgt V (q - 1)) (dgt V (q - 2)) (x0 * BB + x1) (dgt R (k + q - 2))) :
    ∃ (g : Nat) (kk : Nat → Int), g < BB ∧ t / V ≤ g ∧ g ≤ t / V + 1 ∧ kk 0 = j 0 ∧
      ((∃ t13 t14, IntKind.u64.wrap (t13 - (1 : Int)) = ((g : Nat) : Int) ∧ lp T fn_integer_divide 1 (L_integer_divide_1 n v m w p q la A lb Bv V cc (k : Nat) (x0 : Nat) (x1 : Nat) (IntKind.u64.wrap ((IntKind.u64.wrap ((IntKind.u64.wrap ((IntKind.u64.wrap ((x0 : Nat) : Int)) * (1000000000 : Int))) + (IntKind.u64.wrap ((x1 : Nat) : Int)))).tdiv (IntKind.u64.wrap ((dgt V ((IntKind.i64.wrap (((q : Nat) : Int) - (1 : Int))).toNat) : Nat) : Int)))) ((IntKind.u64.wrap ((IntKind.u64.wrap ((IntKind.u64.wrap ((x0 : Nat) : Int)) * (1000000000 : Int))) + (IntKind.u64.wrap ((x1 : Nat) : Int)))).tmod (IntKind.u64.wrap ((dgt V ((IntKind.i64.wrap (((q : Nat) : Int) - (1 : Int))).toNat) : Nat) : Int))) (dg (la + 1) R) cs63 j (jI [j 0, IntKind.u64.wrap ((IntKind.u64.wrap ((IntKind.u64.wrap ((x0 : Nat) : Int)) * (1000000000 : Int))) + (IntKind.u64.wrap ((x1 : Nat) : Int)))])) (.exit 2) (X_integer_divide_1_0 n v m w p q la A lb Bv V cc (k : Nat) (x0 : Nat) (x1 : Nat) t13 t14 (dg (la + 1) R) cs63 j kk)) ∨
       (∃ t13 t14 y0, IntKind.u64.wrap (t13 - (1 : Int)) = ((g : Nat) : Int) ∧ lp T fn_integer_divide 1 (L_integer_divide_1 n v m w p q la A lb Bv V cc (k : Nat) (x0 : Nat) (x1 : Nat) (IntKind.u64.wrap ((IntKind.u64.wrap ((IntKind.u64.wrap ((IntKind.u64.wrap ((x0 : Nat) : Int)) * (1000000000 : Int))) + (IntKind.u64.wrap ((x1 : Nat) : Int)))).tdiv (IntKind.u64.wrap ((dgt V ((IntKind.i64.wrap (((q : Nat) : Int) - (1 : Int))).toNat) : Nat) : Int)))) ((IntKind.u64.wrap ((IntKind.u64.wrap ((IntKind.u64.wrap ((x0 : Nat) : Int)) * (1000000000 : Int))) + (IntKind.u64.wrap ((x1 : Nat) : Int)))).tmod (IntKind.u64.wrap ((dgt V ((IntKind.i64.wrap (((q : Nat) : Int) - (1 : Int))).toNat) : Nat) : Int))) (dg (la + 1) R) cs63 j (jI [j 0, IntKind.u64.wrap ((IntKind.u64.wrap ((IntKind.u64.wrap ((x0 : Nat) : Int)) * (1000000000 : Int))) + (IntKind.u64.wrap ((x1 : Nat) : Int)))])) (.exit 2) (X_integer_divide_1_1 n v m w p q la A lb Bv V cc (k : Nat) (x0 : Nat) (x1 : Nat) t13 t14 y0 (dg (la + 1) R) cs63 j kk)) ∨
       (∃ t14 y0, lp T fn_integer_divide 1 (L_integer_divide_1 n v m w p q la A lb Bv V cc (k : Nat) (x0 : Nat) (x1 : Nat) (IntKind.u64.wrap ((IntKind.u64.wrap ((IntKind.u64.wrap ((IntKind.u64.wrap ((x0 : Nat) : Int)) * (1000000000 : Int))) + (IntKind.u64.wrap ((x1 : Nat) : Int)))).tdiv (IntKind.u64.wrap ((dgt V ((IntKind.i64.wrap (((q : Nat) : Int) - (1 : Int))).toNat) : Nat) : Int)))) ((IntKind.u64.wrap ((IntKind.u64.wrap ((IntKind.u64.wrap ((x0 : Nat) : Int)) * (1000000000 : Int))) + (IntKind.u64.wrap ((x1 : Nat) : Int)))).tmod (IntKind.u64.wrap ((dgt V ((IntKind.i64.wrap (((q : Nat) : Int) - (1 : Int))).toNat) : Nat) : Int))) (dg (la + 1) R) cs63 j (jI [j 0, IntKind.u64.wrap ((IntKind.u64.wrap ((IntKind.u64.wrap ((x0 : Nat) : Int)) * (1000000000 : Int))) + (IntKind.u64.wrap ((x1 : Nat) : Int)))])) (.exit 2) (X_integer_divide_1_2 n v m w p q la A lb Bv V cc (k : Nat) (x0 : Nat) (x1 : Nat) (g : Nat) t14 y0 (dg (la + 1) R) cs63 j kk))) := by
  have eB : BB = 1000000000 := rfl
  have hq2 := hg.q2
  have htop := hg.top
  have hv1g := hg.v1g
  have hv1l := hg.v1l
  have hv2l := hg.v2l
  have hu3 := hg.u3l
  have hV0 : 0 < V := Nat.lt_of_lt_of_le (Nat.mul_pos BB_pos (BBp _)) hg.v1B
  have hQB : t / V < BB := (Nat.div_lt_iff_lt_mul hV0).2 (by rw [Nat.mul_comm]; exact hg.UV)
  obtain ⟨Q, hQ⟩ : ∃ Q, Q = t / V := ⟨_, rfl⟩
  obtain ⟨v1, hv1⟩ : ∃ v1, v1 = dgt V (q - 1) := ⟨_, rfl⟩
  obtain ⟨v2, hv2⟩ : ∃ v2, v2 = dgt V (q - 2) := ⟨_, rfl⟩
  obtain ⟨u3, hu3e⟩ : ∃ u3, u3 = dgt R (k + q - 2) := ⟨_, rfl⟩
  obtain ⟨top, htope⟩ : ∃ top, top = x0 * BB + x1 := ⟨_, rfl⟩
  rw [← hv1, ← hv2, ← hu3e, ← htope] at hg
  rw [← hv1] at htop hv1g hv1l
  rw [← hv2] at hv2l
  rw [← hu3e] at hu3
  rw [← htope] at htop
  rw [← hQ] at hQB ⊢
  have hx0l : x0 < BB := by rw [hx0]; exact dgt_lt _ _
  have hx1l : x1 < BB := by rw [hx1]; exact dgt_lt _ _
  have hv1B : v1 * BB ≤ 999999999 * 1000000000 := Nat.mul_le_mul (by omega) (by omega)
  have e1 : IntKind.i64.wrap (((q : Nat) : Int) - (1 : Int)) = ((q - 1 : Nat) : Int) := by rw [i64s (by omega)]; omega
  have e2 : IntKind.i64.wrap (((q : Nat) : Int) - (2 : Int)) = ((q - 2 : Nat) : Int) := by rw [i64s (by omega)]; omega
  have e3 : IntKind.i64.wrap ((IntKind.i64.wrap (((k : Nat) : Int) + ((q : Nat) : Int))) - (2 : Int)) = ((k + q - 2 : Nat) : Int) := by rw [i64s (x := ((k : Nat) : Int) + ((q : Nat) : Int)) (by omega), i64s (by omega)]; omega
  have ev1 : IntKind.u64.wrap ((dgt V ((IntKind.i64.wrap (((q : Nat) : Int) - (1 : Int))).toNat) : Nat) : Int) = ((v1 : Nat) : Int) := by rw [e1, Int.toNat_natCast, ← hv1, u64s (by omega)]
  have ev2 : IntKind.u64.wrap ((dgt V ((IntKind.i64.wrap (((q : Nat) : Int) - (2 : Int))).toNat) : Nat) : Int) = ((v2 : Nat) : Int) := by rw [e2, Int.toNat_natCast, ← hv2, u64s (by omega)]
  have etop : IntKind.u64.wrap ((IntKind.u64.wrap ((IntKind.u64.wrap ((x0 : Nat) : Int)) * (1000000000 : Int))) + (IntKind.u64.wrap ((x1 : Nat) : Int))) = ((top : Nat) : Int) := by
    have hx0B : x0 * BB ≤ 999999999 * 1000000000 := Nat.mul_le_mul (by omega) (by omega)
    rw [u64s (x := ((x0 : Nat) : Int)) (by omega), u64s (x := ((x1 : Nat) : Int)) (by omega), u64s (x := ((x0 : Nat) : Int) * 1000000000) (by omega), u64s (by omega), htope, eB]; omega
  have ix1 : (0 : Int) ≤ (IntKind.i64.wrap (((q : Nat) : Int) - (1 : Int))) ∧ (IntKind.i64.wrap (((q : Nat) : Int) - (1 : Int))) < ((q : Nat) : Int) ∧ ((dg q V) : List MV) ≠ [] := by rw [e1]; exact dix (by omega)
  have ix2 : (0 : Int) ≤ (IntKind.i64.wrap (((q : Nat) : Int) - (2 : Int))) ∧ (IntKind.i64.wrap (((q : Nat) : Int) - (2 : Int))) < ((q : Nat) : Int) ∧ ((dg q V) : List MV) ≠ [] := by rw [e2]; exact dix (by omega)
  have rd1 : takeAs false 1 ((dg q V).drop (((IntKind.i64.wrap (((q : Nat) : Int) - (1 : Int))).toNat) * 1)) = some (uN ((dgt V ((IntKind.i64.wrap (((q : Nat) : Int) - (1 : Int))).toNat) : Nat) : Int)) := by rw [e1]; exact dgi (by omega)
  have rd2 : takeAs false 1 ((dg q V).drop (((IntKind.i64.wrap (((q : Nat) : Int) - (2 : Int))).toNat) * 1)) = some (uN ((dgt V ((IntKind.i64.wrap (((q : Nat) : Int) - (2 : Int))).toNat) : Nat) : Int)) := by rw [e2]; exact dgi (by omega)
  have ix3 : (0 : Int) ≤ (IntKind.i64.wrap ((IntKind.i64.wrap (((k : Nat) : Int) + ((q : Nat) : Int))) - (2 : Int))) ∧ (IntKind.i64.wrap ((IntKind.i64.wrap (((k : Nat) : Int) + ((q : Nat) : Int))) - (2 : Int))) < ((la + 1 : Nat) : Int) := by rw [e3]; omega
  have rd3 : takeAs false 1 ((dg (la + 1) R).drop (0 + (((IntKind.i64.wrap ((IntKind.i64.wrap (((k : Nat) : Int) + ((q : Nat) : Int))) - (2 : Int))).toNat) * 1))) = some (uN ((u3 : Nat) : Int)) := by rw [e3, pos0, dg_at' (by omega), hu3e]
  have hB1 : ∀ x : Nat, x < BB → x * BB ≤ 999999999 * 1000000000 := fun x hx => Nat.mul_le_mul (by omega) (by omega)
  have main := loop_meas (G := gC T fn_integer_divide 1) (nm := nM fn_integer_divide 1)
    (fun d S => ∃ g rest : Nat, ∃ (kk : Nat → Int), g * v1 + rest = top ∧ rest < BB ∧ Q ≤ g ∧ g ≤ 2 * BB ∧ BB ≤ rest + d * v1 ∧ kk 0 = j 0 ∧
      S = L_integer_divide_1 n v m w p q la A lb Bv V cc (k : Nat) (x0 : Nat) (x1 : Nat) (g : Nat) (rest : Nat) (dg (la + 1) R) cs63 j kk)
    (fun o S => o = .exit 2 ∧ ∃ g : Nat, ∃ (kk : Nat → Int), g < BB ∧ Q ≤ g ∧ g ≤ Q + 1 ∧ kk 0 = j 0 ∧
      ((∃ t13 t14, IntKind.u64.wrap (t13 - (1 : Int)) = ((g : Nat) : Int) ∧ S = X_integer_divide_1_0 n v m w p q la A lb Bv V cc (k : Nat) (x0 : Nat) (x1 : Nat) t13 t14 (dg (la + 1) R) cs63 j kk) ∨
       (∃ t13 t14 y0, IntKind.u64.wrap (t13 - (1 : Int)) = ((g : Nat) : Int) ∧ S = X_integer_divide_1_1 n v m w p q la A lb Bv V cc (k : Nat) (x0 : Nat) (x1 : Nat) t13 t14 y0 (dg (la + 1) R) cs63 j kk) ∨
       (∃ t14 y0, S = X_integer_divide_1_2 n v m w p q la A lb Bv V cc (k : Nat) (x0 : Nat) (x1 : Nat) (g : Nat) t14 y0 (dg (la + 1) R) cs63 j kk)))
    FUEL 900000 (L_integer_divide_1 n v m w p q la A lb Bv V cc (k : Nat) (x0 : Nat) (x1 : Nat) (IntKind.u64.wrap ((IntKind.u64.wrap ((IntKind.u64.wrap ((IntKind.u64.wrap ((x0 : Nat) : Int)) * (1000000000 : Int))) + (IntKind.u64.wrap ((x1 : Nat) : Int)))).tdiv (IntKind.u64.wrap ((dgt V ((IntKind.i64.wrap (((q : Nat) : Int) - (1 : Int))).toNat) : Nat) : Int)))) ((IntKind.u64.wrap ((IntKind.u64.wrap ((IntKind.u64.wrap ((x0 : Nat) : Int)) * (1000000000 : Int))) + (IntKind.u64.wrap ((x1 : Nat) : Int)))).tmod (IntKind.u64.wrap ((dgt V ((IntKind.i64.wrap (((q : Nat) : Int) - (1 : Int))).toNat) : Nat) : Int))) (dg (la + 1) R) cs63 j (jI [j 0, IntKind.u64.wrap ((IntKind.u64.wrap ((IntKind.u64.wrap ((x0 : Nat) : Int)) * (1000000000 : Int))) + (IntKind.u64.wrap ((x1 : Nat) : Int)))])) (by
      rintro d S ⟨g, rest, kk, h1, h2, h3, h4, h5, hkk, rfl⟩
      have hgv : g * v1 ≤ top := by omega
      have er : IntKind.u64.wrap (((rest : Nat) : Int) + ((v1 : Nat) : Int)) = ((rest + v1 : Nat) : Int) := by rw [u64s (by omega)]; omega
      have eg : 0 < g → IntKind.u64.wrap (((g : Nat) : Int) - (1 : Int)) = ((g - 1 : Nat) : Int) := fun h => by rw [u64s (by omega)]; omega
      have step : 0 < g → (g - 1) * v1 + (rest + v1) = top := fun h => by
        obtain ⟨g', rfl⟩ : ∃ g', g = g' + 1 := ⟨g - 1, by omega⟩
        rw [Nat.add_mul, Nat.one_mul] at h1
        rw [Nat.add_sub_cancel]; omega
      have hnn := dg_nn (la + 1) R
      -- the guess behind the break
      have brk : 0 < g → Q ≤ g - 1 → BB ≤ rest + v1 → g - 1 < BB ∧ g - 1 ≤ Q + 1 := fun h hQg hbr => by
        have hst := step h
        have hlt : g - 1 < BB := by
          apply Nat.lt_of_not_le
          intro hge
          have := Nat.mul_le_mul_right v1 hge
          rw [Nat.mul_comm BB v1] at this
          omega
        refine ⟨hlt, ?_⟩
        rw [hQ]
        refine guess_near (rest := rest + v1) hg.vhi hg.v1B hg.ulo hst ?_ (by omega)
        have h6 : (g - 1) * v2 ≤ BB * BB := Nat.mul_le_mul (by omega) (by omega)
        have h7 : BB * BB ≤ (rest + v1) * BB := Nat.mul_le_mul_right _ hbr
        omega
      have cont : ¬ BB ≤ rest + v1 → 0 < d ∧ BB ≤ rest + v1 + (d - 1) * v1 := fun h => by
        have hd : 0 < d := by
          apply Nat.pos_of_ne_zero
          rintro rfl
          rw [Nat.zero_mul] at h5; omega
        obtain ⟨d', rfl⟩ : ∃ d', d = d' + 1 := ⟨d - 1, by omega⟩
        rw [Nat.add_mul, Nat.one_mul] at h5
        rw [Nat.add_sub_cancel]
        exact ⟨hd, by omega⟩
      by_cases hgB : BB ≤ g
      · by_cases hbr : BB ≤ rest + v1
        · obtain ⟨b1, b2⟩ := brk (by omega) (by omega) hbr
          refine .inl ⟨_, _, r_integer_divide_1_0 hio n v m w p q la A lb Bv V cc _ _ _ (g : Nat) (rest : Nat) _ _ j kk (sc_b (decide_eq_true (by omega))) ix1 rd1 (sc_b (decide_eq_true (by rw [ev1, er]; omega))), by simp, rfl, g - 1, kk, b1, by omega, b2, hkk, .inl ⟨_, _, eg (by omega), rfl⟩⟩
        · obtain ⟨c1, c2⟩ := cont hbr
          obtain ⟨s', g1, g2⟩ := r_integer_divide_1_4 hio n v m w p q la A lb Bv V cc (k : Nat) (x0 : Nat) (x1 : Nat) (g : Nat) (rest : Nat) (dg (la + 1) R) cs63 j kk (sc_b (decide_eq_true (by omega))) ix1 rd1 (sc_b (decide_eq_false (by rw [ev1, er]; omega))) hnn hn63
          rw [ev1, er, eg (by omega)] at g2
          exact .inr ⟨s', d - 1, by omega, g1, g - 1, rest + v1, kk, step (by omega), by omega, by omega, by omega, c2, hkk, g2⟩
      · have egv : IntKind.u64.wrap (((g : Nat) : Int) * ((v2 : Nat) : Int)) = ((g * v2 : Nat) : Int) := by
          have : g * v2 ≤ 1000000000 * 1000000000 := Nat.mul_le_mul (by omega) (by omega)
          rw [← Int.natCast_mul, u64s (by omega)]
        have ery : IntKind.u64.wrap ((IntKind.u64.wrap (((rest : Nat) : Int) * (1000000000 : Int))) + (IntKind.u64.wrap ((u3 : Nat) : Int))) = ((rest * BB + u3 : Nat) : Int) := by
          have := hB1 rest h2
          rw [u64s (x := ((u3 : Nat) : Int)) (by omega), u64s (x := ((rest : Nat) : Int) * 1000000000) (by rw [eB] at this; omega), u64s (by rw [eB] at this; omega), eB]; omega
        by_cases htest : rest * BB + u3 < g * v2
        · have hbig : Q < g := by rw [hQ]; exact guess_big hg.vlo hg.uhi h1 htest
          by_cases hbr : BB ≤ rest + v1
          · obtain ⟨b1, b2⟩ := brk (by omega) (by omega) hbr
            refine .inl ⟨_, _, r_integer_divide_1_1 hio n v m w p q la A lb Bv V cc _ _ _ (g : Nat) (rest : Nat) (u3 : Nat) _ _ j kk (sc_b (decide_eq_false (by omega))) ix2 rd2 ix3 rd3 (sc_b (decide_eq_true (by rw [ev2, egv, ery]; omega))) ix1 rd1 (sc_b (decide_eq_true (by rw [ev1, er]; omega))), by simp, rfl, g - 1, kk, b1, by omega, b2, hkk, .inr (.inl ⟨_, _, _, eg (by omega), rfl⟩)⟩
          · obtain ⟨c1, c2⟩ := cont hbr
            obtain ⟨s', g1, g2⟩ := r_integer_divide_1_3 hio n v m w p q la A lb Bv V cc (k : Nat) (x0 : Nat) (x1 : Nat) (g : Nat) (rest : Nat) (u3 : Nat) (dg (la + 1) R) cs63 j kk (sc_b (decide_eq_false (by omega))) ix2 rd2 ix3 rd3 (sc_b (decide_eq_true (by rw [ev2, egv, ery]; omega))) ix1 rd1 (sc_b (decide_eq_false (by rw [ev1, er]; omega))) hnn hn63
            rw [ev1, er, eg (by omega)] at g2
            exact .inr ⟨s', d - 1, by omega, g1, g - 1, rest + v1, kk, step (by omega), by omega, by omega, by omega, c2, hkk, g2⟩
        · refine .inl ⟨_, _, r_integer_divide_1_2 hio n v m w p q la A lb Bv V cc _ _ _ (g : Nat) (rest : Nat) (u3 : Nat) _ _ j kk (sc_b (decide_eq_false (by omega))) ix2 rd2 ix3 rd3 (sc_b (decide_eq_false (by rw [ev2, egv, ery]; omega))), by simp, rfl, g, kk, by omega, h3, ?_, hkk, .inr (.inr ⟨_, _, rfl⟩)⟩
          rw [hQ]
          exact guess_near hg.vhi hg.v1B hg.ulo h1 (by omega) (by omega)) (by
      have hle : top / v1 ≤ 2 * BB := by
        refine Nat.div_le_of_le_mul ?_
        have := Nat.mul_le_mul_right (2 * BB) hv1g
        have h8 : v1 * (2 * BB) = v1 * BB + v1 * BB := by rw [Nat.two_mul, Nat.mul_add]
        have h9 := Nat.mul_le_mul_right BB hv1g
        omega
      have ed : IntKind.u64.wrap (((top : Nat) : Int).tdiv ((v1 : Nat) : Int)) = ((top / v1 : Nat) : Int) := by
        rw [Int.tdiv_eq_ediv_of_nonneg (by omega), ← Int.natCast_ediv]
        generalize top / v1 = y at hle ⊢
        exact u64s (by omega)
      have em : ((top : Nat) : Int).tmod ((v1 : Nat) : Int) = ((top % v1 : Nat) : Int) := by
        rw [Int.tmod_eq_emod_of_nonneg (by omega), ← Int.natCast_emod]
      rw [ev1, etop, ed, em]
      have hml := Nat.mod_lt top (show 0 < v1 by omega)
      refine ⟨top / v1, top % v1, _, Nat.div_add_mod' _ _, by omega, ?_, hle, ?_, ?_, rfl⟩
      rotate_left 2
      · rfl
      · rw [hQ]
        exact guess_first hg.vlo hg.uhi hu3 (by omega) hV0
      · have := Nat.mul_le_mul_left 900000 hv1g
        omega) (by unfold FUEL; omega)
  obtain ⟨o, S, hl, rfl, g, kk, b1, b2, b3, hkk, hS⟩ := main
  refine ⟨g, kk, b1, b2, b3, hkk, ?_⟩
  rcases hS with ⟨t13, t14, h1, hS⟩ | ⟨t13, t14, y0, h1, hS⟩ | ⟨t14, y0, hS⟩ <;> rw [hS] at hl
  · exact .inl ⟨t13, t14, h1, hl⟩
  · exact .inr (.inl ⟨t13, t14, y0, h1, hl⟩)
  · exact .inr (.inr ⟨t14, y0, hl⟩)
end Go.Proofs.YtkeelkeoijemiaaGreat.Ev

namespace Go.Proofs.YtkeelkeoijemiaaGreat.Ev
open Go Go.RowKit
set_option linter.unusedVariables false
set_option linter.unusedSimpArgs false

/-- Limbs from some place up. -/
theorem two_limbs (x p : Nat) : x / BB ^ p = x / BB ^ (p + 1) * BB + dgt x p := by
  rw [Nat.pow_succ, ← Nat.div_div_eq_div_mul]; unfold dgt
  exact (Nat.div_add_mod' _ _).symm
theorem top_limb {x p : Nat} (h : x < BB ^ (p + 1)) : x / BB ^ p = dgt x p := by
  have := two_limbs x p
  rw [Nat.div_eq_of_lt h, Nat.zero_mul, Nat.zero_add] at this
  exact this
theorem gs_of {V R q k : Nat} (hq2 : 2 ≤ q) (hVq : V < BB ^ q) (hv1 : 1200 ≤ dgt V (q - 1)) (hRV : R < V * BB ^ (k + 1)) :
    Gs V (R / BB ^ k) q (dgt V (q - 1)) (dgt V (q - 2)) (dgt R (k + q) * BB + dgt R (k + q - 1)) (dgt R (k + q - 2)) := by
  have eV : V / BB ^ (q - 2) = dgt V (q - 1) * BB + dgt V (q - 2) := by
    rw [two_limbs V (q - 2), show q - 2 + 1 = q - 1 by omega, top_limb (p := q - 1) (by rw [show q - 1 + 1 = q by omega]; exact hVq)]
  have hRq : R < BB ^ (k + q + 1) := by
    have h1 : V * BB ^ (k + 1) < BB ^ q * BB ^ (k + 1) := Nat.mul_lt_mul_of_pos_right hVq (BBp _)
    rw [← Nat.pow_add, show q + (k + 1) = k + q + 1 by omega] at h1
    omega
  have eR : R / BB ^ k / BB ^ (q - 2) = (dgt R (k + q) * BB + dgt R (k + q - 1)) * BB + dgt R (k + q - 2) := by
    rw [Nat.div_div_eq_div_mul, ← Nat.pow_add, show k + (q - 2) = k + q - 2 by omega, two_limbs R (k + q - 2), show k + q - 2 + 1 = k + q - 1 by omega, two_limbs R (k + q - 1), show k + q - 1 + 1 = k + q by omega, top_limb hRq]
  obtain ⟨v1, v2⟩ := hi_of V (q - 2) eV
  obtain ⟨u1, u2⟩ := hi_of (R / BB ^ k) (q - 2) eR
  refine ⟨hq2, v1, v2, hv1, dgt_lt _ _, dgt_lt _ _, u1, u2, dgt_lt _ _, ?_⟩
  refine (Nat.div_lt_iff_lt_mul (BBp k)).2 ?_
  rw [Nat.mul_assoc, ← Nat.pow_succ']
  exact hRV

theorem div_round {mm : Nat} (hm : 0 < mm) {n v m w p q la A lb Bv V R k Qn M : Nat} {cc : Int} (j : Nat → Int)
    (hq2 : 2 ≤ q) (hq : q < 50000) (hla : la < 50000) (hM : M = la + 1 - q) (hkM : k < M) (hVq : V < BB ^ q) (hv1 : 1200 ≤ dgt V (q - 1))
    (hRV : R < V * BB ^ (k + 1)) (hR : R < BB ^ (la + 1)) (hQn : Qn < BB ^ M) (hQk : Qn % BB ^ (k + 1) = 0) :
    ∃ (s_ : St) (R' Qn' : Nat) (j' : Nat → Int), gC (TU mm) fn_integer_divide 0 (L_integer_divide_0 n v m w p q la A lb Bv V cc (k : Nat) (dg (la + 1) R) (dg M Qn) j) = some (.normal, s_) ∧
      V * Qn' + R' = V * Qn + R ∧ R' < V * BB ^ k ∧ R' < BB ^ (la + 1) ∧ Qn' < BB ^ M ∧ Qn' % BB ^ k = 0 ∧ j' 0 = j 0 ∧
      nM fn_integer_divide 0 s_ = L_integer_divide_0 n v m w p q la A lb Bv V cc (((k : Nat) : Int) - 1) (dg (la + 1) R') (dg M Qn') j' := by
  have hio := TU_io mm
  have eB : BB = 1000000000 := rfl
  have hG := gs_of hq2 hVq hv1 hRV
  have hV0 : 0 < V := Nat.lt_of_lt_of_le (Nat.mul_pos BB_pos (BBp _)) hG.v1B
  obtain ⟨U, hU⟩ : ∃ U, U = R / BB ^ k := ⟨_, rfl⟩
  rw [← hU] at hG
  have hUV := hG.UV
  have hQB : U / V < BB := (Nat.div_lt_iff_lt_mul hV0).2 (by rw [Nat.mul_comm]; exact hUV)
  have hUq : U < BB ^ (q + 1) := by
    rw [Nat.pow_succ]
    exact Nat.lt_of_lt_of_le hUV (Nat.mul_le_mul_right _ (Nat.le_of_lt hVq))
  have ekq : IntKind.i64.wrap (((k : Nat) : Int) + ((q : Nat) : Int)) = ((k + q : Nat) : Int) := by rw [i64s (by omega)]; omega
  have ekq1 : IntKind.i64.wrap (((k + q : Nat) : Int) - (1 : Int)) = ((k + q - 1 : Nat) : Int) := by rw [i64s (by omega)]; omega
  have ekq2 : IntKind.i64.wrap (((k + q : Nat) : Int) + (1 : Int)) = ((k + q + 1 : Nat) : Int) := by rw [i64s (by omega)]; omega
  have eM : IntKind.i64.wrap (((la + 1 : Nat) : Int) - (q : Int)) = ((M : Nat) : Int) := by rw [i64s (by omega)]; omega
  have ekm : IntKind.i64.wrap (((k : Nat) : Int) - (1 : Int)) = ((k : Nat) : Int) - 1 := i64s (by omega)
  have e1 : IntKind.i64.wrap (((q : Nat) : Int) - (1 : Int)) = ((q - 1 : Nat) : Int) := by rw [i64s (by omega)]; omega
  have esz : ((((IntKind.i64.wrap ((IntKind.i64.wrap (((k : Nat) : Int) + ((q : Nat) : Int))) + (1 : Int))).toNat) - ((k : Nat) : Int).toNat) * 1) = q + 1 := by rw [ekq, ekq2, Int.toNat_natCast, Int.toNat_natCast]; omega
  have esz0 : (((IntKind.i64.wrap ((IntKind.i64.wrap (((k : Nat) : Int) + ((q : Nat) : Int))) + (1 : Int))).toNat) - ((k : Nat) : Int).toNat) = q + 1 := by rw [ekq, ekq2, Int.toNat_natCast, Int.toNat_natCast]; omega
  have epos := pos0 k
  have eslice : ((dg (la + 1) R).drop (0 + (((k : Nat) : Int).toNat * 1))).take ((((IntKind.i64.wrap ((IntKind.i64.wrap (((k : Nat) : Int) + ((q : Nat) : Int))) + (1 : Int))).toNat) - ((k : Nat) : Int).toNat) * 1) = dg (q + 1) U := by
    rw [epos, esz, dg_drop (by omega), dg_take (by omega), hU]
  have bareU : bare (dg (q + 1) U) = true := (dg_leaves _ _).bare (by rw [dg_len]; omega)
  have ixa : (0 : Int) ≤ (IntKind.i64.wrap (((k : Nat) : Int) + ((q : Nat) : Int))) ∧ (IntKind.i64.wrap (((k : Nat) : Int) + ((q : Nat) : Int))) < ((la + 1 : Nat) : Int) := by rw [ekq]; omega
  have rda : takeAs false 1 ((dg (la + 1) R).drop (0 + (((IntKind.i64.wrap (((k : Nat) : Int) + ((q : Nat) : Int))).toNat) * 1))) = some (uN ((dgt R (k + q) : Nat) : Int)) := by rw [ekq, pos0, dg_at' (by omega)]
  have ixb : (0 : Int) ≤ (IntKind.i64.wrap ((IntKind.i64.wrap (((k : Nat) : Int) + ((q : Nat) : Int))) - (1 : Int))) ∧ (IntKind.i64.wrap ((IntKind.i64.wrap (((k : Nat) : Int) + ((q : Nat) : Int))) - (1 : Int))) < ((la + 1 : Nat) : Int) := by rw [ekq, ekq1]; omega
  have rdb : takeAs false 1 ((dg (la + 1) R).drop (0 + (((IntKind.i64.wrap ((IntKind.i64.wrap (((k : Nat) : Int) + ((q : Nat) : Int))) - (1 : Int))).toNat) * 1))) = some (uN ((dgt R (k + q - 1) : Nat) : Int)) := by rw [ekq, ekq1, pos0, dg_at' (by omega)]
  have ix1 : (0 : Int) ≤ (IntKind.i64.wrap (((q : Nat) : Int) - (1 : Int))) ∧ (IntKind.i64.wrap (((q : Nat) : Int) - (1 : Int))) < ((q : Nat) : Int) ∧ ((dg q V) : List MV) ≠ [] := by rw [e1]; exact dix (by omega)
  have rd1 : takeAs false 1 ((dg q V).drop (((IntKind.i64.wrap (((q : Nat) : Int) - (1 : Int))).toNat) * 1)) = some (uN ((dgt V ((IntKind.i64.wrap (((q : Nat) : Int) - (1 : Int))).toNat) : Nat) : Int)) := by rw [e1]; exact dgi (by omega)
  have hv0 : IntKind.u64.wrap ((dgt V ((IntKind.i64.wrap (((q : Nat) : Int) - (1 : Int))).toNat) : Nat) : Int) ≠ 0 := by
    have := dgt_lt V (q - 1)
    rw [e1, Int.toNat_natCast, u64s (by omega)]; omega
  have bn1 : (0 : Int) ≤ (IntKind.i64.wrap ((IntKind.i64.wrap (((k : Nat) : Int) + ((q : Nat) : Int))) + (1 : Int))) ∧ (IntKind.i64.wrap ((IntKind.i64.wrap (((k : Nat) : Int) + ((q : Nat) : Int))) + (1 : Int))) ≤ ((la + 1 : Nat) : Int) := by rw [ekq, ekq2]; omega
  have bn2 : (0 : Int) ≤ ((k : Nat) : Int) ∧ ((k : Nat) : Int) ≤ (((IntKind.i64.wrap ((IntKind.i64.wrap (((k : Nat) : Int) + ((q : Nat) : Int))) + (1 : Int))).toNat : Nat) : Int) := by rw [ekq, ekq2]; omega
  have bn3 : ((IntKind.i64.wrap ((IntKind.i64.wrap (((k : Nat) : Int) + ((q : Nat) : Int))) + (1 : Int))).toNat) ≠ ((k : Nat) : Int).toNat := by rw [ekq, ekq2]; omega
  have bn4 : (0 : Int) ≤ ((k : Nat) : Int) ∧ ((k : Nat) : Int) < (((IntKind.i64.wrap (((la + 1 : Nat) : Int) - (q : Int))).toNat : Nat) : Int) := by rw [eM]; omega
  obtain ⟨Qd, hQd⟩ : ∃ Qd, Qd = U / V := ⟨_, rfl⟩
  obtain ⟨g, kk, g1, g2, g3, hkk, hcase⟩ := guess_loop hio (n := n) (v := v) (m := m) (w := w) (p := p) (A := A) (lb := lb) (Bv := Bv) (Qn := Qn) (cc := cc) (dg M Qn) (dg_nn _ _) j (by omega) (show k + q < la + 1 by omega) (by omega) hR hVq rfl rfl hG
  rw [← hQd] at g2 g3 hQB
  have hPq : V * g < BB ^ (q + 1) := by
    have h1 : V * g ≤ V * BB := Nat.mul_le_mul_left _ (by omega)
    rw [Nat.pow_succ]
    have h2 : V * BB < BB ^ q * BB := Nat.mul_lt_mul_of_pos_right hVq BB_pos
    omega
  have hRk : R / BB ^ (k + (q + 1)) = 0 := by
    rw [Nat.pow_add, ← Nat.div_div_eq_div_mul, ← hU]
    exact Nat.div_eq_of_lt hUq
  have putU : ∀ {x : Nat}, x < BB ^ (q + 1) → putCells (dg (la + 1) R) k (dg (q + 1) x) = dg (la + 1) (R % BB ^ k + BB ^ k * x) := fun {x} hx => by
    rw [dg_put (by omega) hR hx, hRk, Nat.mul_zero, Nat.add_zero x]
  have hmodU : U % V < V := Nat.mod_lt _ hV0
  have bound : ∀ {x : Nat}, x < BB ^ (q + 1) → R % BB ^ k + BB ^ k * x < BB ^ (la + 1) := fun {x} hx => by
    have h1 := Nat.mod_lt R (BBp k)
    have h2 := Nat.mul_le_mul_left (BB ^ k) (show x + 1 ≤ BB ^ (q + 1) from hx)
    rw [← Nat.pow_add, Nat.mul_add, Nat.mul_one] at h2
    have h3 : BB ^ (k + (q + 1)) ≤ BB ^ (la + 1) := Nat.pow_le_pow_right BB_pos (by omega)
    omega
  have hmq : U % V < BB ^ (q + 1) := Nat.lt_of_le_of_lt (Nat.mod_le _ _) hUq
  have putU2 : putCells (dg (la + 1) (R % BB ^ k + BB ^ k * subN (q + 1) U (V * g))) k (dg (q + 1) (U % V)) = dg (la + 1) (R % BB ^ k + BB ^ k * (U % V)) := by
    have hs : subN (q + 1) U (V * g) < BB ^ (q + 1) := dff_lt _ _ _
    rw [dg_put (by omega) (bound hs) hmq]
    have hz : (R % BB ^ k + BB ^ k * subN (q + 1) U (V * g)) / BB ^ (k + (q + 1)) = 0 := by
      rw [Nat.pow_add BB k (q + 1), ← Nat.div_div_eq_div_mul, Nat.add_mul_div_left _ _ (BBp k), Nat.div_eq_of_lt (Nat.mod_lt _ (BBp k)), Nat.zero_add, Nat.div_eq_of_lt hs]
    rw [hz, Nat.add_mul_mod_self_left, Nat.mod_mod, Nat.mul_zero, Nat.add_zero (U % V)]
  obtain ⟨Q', hput, hQ0, hQ9, hQl⟩ := put_num (p := k) (x := Qd) hkM hQn hQB
  have hdk : dgt Qn k = 0 := by
    unfold dgt
    have h1 := Nat.mod_add_div Qn (BB ^ (k + 1))
    rw [hQk, Nat.zero_add] at h1
    rw [← h1, Nat.pow_succ, Nat.mul_assoc, Nat.mul_div_cancel_left _ (BBp k), Nat.mul_mod_right]
  rw [hdk, Nat.mul_zero, Nat.add_zero] at hQ0
  have hinv : V * Q' + (R % BB ^ k + BB ^ k * (U % V)) = V * Qn + R := by
    have h1 := Nat.mod_add_div R (BB ^ k)
    rw [← hU] at h1
    have h2 := Nat.div_add_mod U V
    rw [← hQd] at h2
    have h3 : BB ^ k * U = BB ^ k * (V * Qd) + BB ^ k * (U % V) := by rw [← Nat.mul_add, h2]
    rw [hQ0, Nat.mul_add, Nat.mul_left_comm V]
    generalize R % BB ^ k = x at *
    omega
  have hR' : R % BB ^ k + BB ^ k * (U % V) < V * BB ^ k := by
    have h1 := Nat.mod_lt R (BBp k)
    have h2 := Nat.mul_le_mul_left (BB ^ k) (show U % V + 1 ≤ V from hmodU)
    rw [Nat.mul_add, Nat.mul_one, Nat.mul_comm _ V] at h2
    omega
  have hR1 := bound hmq
  have hQ1 := hQl
  have hQ2 : Q' % BB ^ k = 0 := by
    rw [hQ0, Nat.add_mul_mod_self_left]
    have h1 := Nat.mod_mul_right_mod Qn (BB ^ k) BB
    rw [← Nat.pow_succ, hQk, Nat.zero_mod] at h1
    exact h1.symm
  have callS := c_integer_subtract (q := mm) (u := U) (w := V) (n := q + 1) (m := q) (g := g) (d := none) hm hUq hVq (by omega) (by omega) (by omega) (by omega)
  rcases hcase with ⟨t13, t14, hg13, hl⟩ | ⟨t13, t14, y0, hg13, hl⟩ | ⟨t14, y0, hl⟩
  · by_cases hb : U < V * g
    · -- too great by one
      have hneg : U < V * g := hb
      have hgQ : g = Qd + 1 := by
        apply Nat.le_antisymm g3
        apply Nat.lt_of_not_le
        intro h
        have h2 : V * g ≤ V * Qd := Nat.mul_le_mul_left _ h
        have := Nat.mul_div_le U V
        rw [← hQd] at this
        omega
      have eG : IntKind.u32.wrap (IntKind.u64.wrap ((IntKind.u64.wrap (t13 - (1 : Int))) - (1 : Int))) = ((Qd : Nat) : Int) := by rw [hg13]; rw [u64s (by omega), u32s (by omega)]; omega
      have hp1 : putCells (dg (la + 1) R) k (dg (q + 1) (subN (q + 1) U (V * g))) = dg (la + 1) (R % BB ^ k + BB ^ k * subN (q + 1) U (V * g)) := putU (dff_lt _ _ _)
      have esl2 : ((putCells (dg (la + 1) R) k (dg (q + 1) (subN (q + 1) U (V * g)))).drop k).take (q + 1) = dg (q + 1) (subN (q + 1) U (V * g)) := by
        rw [hp1, dg_drop (by omega), dg_take (by omega), Nat.add_mul_div_left _ _ (BBp k), Nat.div_eq_of_lt (Nat.mod_lt _ (BBp k)), Nat.zero_add]
      have hres : (subN (q + 1) U (V * g) + V) % BB ^ (q + 1) = U % V := by
        have h1 := dff_eq U (V * g) (q + 1)
        rw [Nat.mod_eq_of_lt hUq, Nat.mod_eq_of_lt hPq] at h1
        have h2 : brw U (V * g) (q + 1) = 1 := by unfold brw; rw [Nat.mod_eq_of_lt hUq, Nat.mod_eq_of_lt hPq, if_pos hneg]
        rw [h2, Nat.mul_one] at h1
        have h3 := Nat.div_add_mod U V
        rw [← hQd] at h3
        have h4 : V * g = V * Qd + V := by rw [hgQ, Nat.mul_add, Nat.mul_one]
        have h5 : subN (q + 1) U (V * g) + V = U % V + BB ^ (q + 1) := by
          show dff U (V * g) (q + 1) + V = _
          generalize U % V = x at *
          omega
        rw [h5, Nat.add_mod_right, Nat.mod_eq_of_lt]
        exact Nat.lt_of_le_of_lt (Nat.mod_le _ _) hUq
      have callR := c_integer_restore (q := mm) (u := subN (q + 1) U (V * g)) (w := V) (n := q + 1) (m := q) (d := none) hm (dff_lt _ _ _) hVq (by omega) (by omega)
      rw [hres] at callR
      obtain ⟨s', e1, e2⟩ := r_integer_divide_0_0 hio n v m w p q la A lb Bv V cc (k : Nat) (dgt R (k + q) : Nat) (dgt R (k + q - 1) : Nat) t13 t14 (dg (la + 1) R) (dg M Qn) (dg (q + 1) (subN (q + 1) U (V * g))) (dg (q + 1) (U % V)) j kk (decide (U < V * g)) (sc_b (decide_eq_true (by omega))) ixa rda ixb rdb ix1 rd1 hv0 ix1 rd1 hv0 hl (dg_nn _ _) (dg_nn _ _) bn1 bn2 bn3 ⟨rfl, rfl, by rw [epos, esz, dg_len]; omega, by rw [eslice]; exact bareU⟩ (by rw [eslice, esz0]; rw [hg13]; exact callS) (by rw [dg_len, esz]) (sc_b (decide_eq_true hneg)) bn1 bn2 bn3 ⟨rfl, rfl, by rw [pos0, hp1, dg_len, esz]; omega, by rw [pos0, esz, esl2]; exact (dg_leaves _ _).bare (by rw [dg_len]; omega)⟩ (by rw [pos0, esz, esl2, esz0]; exact callR) (by rw [dg_len, esz]) bn4 ⟨rfl, rfl, rfl, by rw [pos0, dg_len]; omega⟩
        (by rw [pos0, hp1, putU2]; exact dg_nn _ _) (by rw [eG, pos0, hput]; exact dg_nn _ _)
      rw [eG, pos0, hp1, putU2, hput, ekm] at e2
      exact ⟨s', _, _, _, e1, hinv, hR', hR1, hQ1, hQ2, by exact hkk, e2⟩
    · -- right
      have hnn : ¬ U < V * g := hb
      have hgQ : g = Qd := by
        apply Nat.le_antisymm ?_ g2
        rw [hQd]
        refine (Nat.le_div_iff_mul_le hV0).2 ?_
        rw [Nat.mul_comm]; omega
      have eG : IntKind.u32.wrap (IntKind.u64.wrap (t13 - (1 : Int))) = ((Qd : Nat) : Int) := by rw [hg13]; rw [u32s (by omega)]; omega
      have hsub : subN (q + 1) U (V * g) = U % V := by
        have h1 := dff_eq U (V * g) (q + 1)
        rw [Nat.mod_eq_of_lt hUq, Nat.mod_eq_of_lt (show V * g < BB ^ (q + 1) by omega)] at h1
        have h2 : brw U (V * g) (q + 1) = 0 := by unfold brw; rw [Nat.mod_eq_of_lt hUq, Nat.mod_eq_of_lt (show V * g < BB ^ (q + 1) by omega), if_neg hnn]
        rw [h2, Nat.mul_zero, Nat.add_zero] at h1
        have h3 := Nat.div_add_mod U V
        rw [← hQd, ← hgQ] at h3
        show dff U (V * g) (q + 1) = _
        generalize U % V = x at *
        omega
      have hp1 : putCells (dg (la + 1) R) k (dg (q + 1) (subN (q + 1) U (V * g))) = dg (la + 1) (R % BB ^ k + BB ^ k * (U % V)) := by rw [hsub, putU hmq]
      obtain ⟨s', e1, e2⟩ := r_integer_divide_0_6 hio n v m w p q la A lb Bv V cc (k : Nat) (dgt R (k + q) : Nat) (dgt R (k + q - 1) : Nat) t13 t14 (dg (la + 1) R) (dg M Qn) (dg (q + 1) (subN (q + 1) U (V * g))) j kk (decide (U < V * g)) (sc_b (decide_eq_true (by omega))) ixa rda ixb rdb ix1 rd1 hv0 ix1 rd1 hv0 hl (dg_nn _ _) (dg_nn _ _) bn1 bn2 bn3 ⟨rfl, rfl, by rw [epos, esz, dg_len]; omega, by rw [eslice]; exact bareU⟩ (by rw [eslice, esz0]; rw [hg13]; exact callS) (by rw [dg_len, esz]) (sc_b (decide_eq_false hnn)) bn4 ⟨rfl, rfl, rfl, by rw [pos0, dg_len]; omega⟩ (by rw [pos0, hp1]; exact dg_nn _ _) (by rw [eG, pos0, hput]; exact dg_nn _ _)
      rw [eG, pos0, hp1, hput, ekm] at e2
      exact ⟨s', _, _, _, e1, hinv, hR', hR1, hQ1, hQ2, by exact hkk, e2⟩
  · by_cases hb : U < V * g
    · -- too great by one
      have hneg : U < V * g := hb
      have hgQ : g = Qd + 1 := by
        apply Nat.le_antisymm g3
        apply Nat.lt_of_not_le
        intro h
        have h2 : V * g ≤ V * Qd := Nat.mul_le_mul_left _ h
        have := Nat.mul_div_le U V
        rw [← hQd] at this
        omega
      have eG : IntKind.u32.wrap (IntKind.u64.wrap ((IntKind.u64.wrap (t13 - (1 : Int))) - (1 : Int))) = ((Qd : Nat) : Int) := by rw [hg13]; rw [u64s (by omega), u32s (by omega)]; omega
      have hp1 : putCells (dg (la + 1) R) k (dg (q + 1) (subN (q + 1) U (V * g))) = dg (la + 1) (R % BB ^ k + BB ^ k * subN (q + 1) U (V * g)) := putU (dff_lt _ _ _)
      have esl2 : ((putCells (dg (la + 1) R) k (dg (q + 1) (subN (q + 1) U (V * g)))).drop k).take (q + 1) = dg (q + 1) (subN (q + 1) U (V * g)) := by
        rw [hp1, dg_drop (by omega), dg_take (by omega), Nat.add_mul_div_left _ _ (BBp k), Nat.div_eq_of_lt (Nat.mod_lt _ (BBp k)), Nat.zero_add]
      have hres : (subN (q + 1) U (V * g) + V) % BB ^ (q + 1) = U % V := by
        have h1 := dff_eq U (V * g) (q + 1)
        rw [Nat.mod_eq_of_lt hUq, Nat.mod_eq_of_lt hPq] at h1
        have h2 : brw U (V * g) (q + 1) = 1 := by unfold brw; rw [Nat.mod_eq_of_lt hUq, Nat.mod_eq_of_lt hPq, if_pos hneg]
        rw [h2, Nat.mul_one] at h1
        have h3 := Nat.div_add_mod U V
        rw [← hQd] at h3
        have h4 : V * g = V * Qd + V := by rw [hgQ, Nat.mul_add, Nat.mul_one]
        have h5 : subN (q + 1) U (V * g) + V = U % V + BB ^ (q + 1) := by
          show dff U (V * g) (q + 1) + V = _
          generalize U % V = x at *
          omega
        rw [h5, Nat.add_mod_right, Nat.mod_eq_of_lt]
        exact Nat.lt_of_le_of_lt (Nat.mod_le _ _) hUq
      have callR := c_integer_restore (q := mm) (u := subN (q + 1) U (V * g)) (w := V) (n := q + 1) (m := q) (d := none) hm (dff_lt _ _ _) hVq (by omega) (by omega)
      rw [hres] at callR
      obtain ⟨s', e1, e2⟩ := r_integer_divide_0_2 hio n v m w p q la A lb Bv V cc (k : Nat) (dgt R (k + q) : Nat) (dgt R (k + q - 1) : Nat) t13 t14 y0 (dg (la + 1) R) (dg M Qn) (dg (q + 1) (subN (q + 1) U (V * g))) (dg (q + 1) (U % V)) j kk (decide (U < V * g)) (sc_b (decide_eq_true (by omega))) ixa rda ixb rdb ix1 rd1 hv0 ix1 rd1 hv0 hl (dg_nn _ _) (dg_nn _ _) bn1 bn2 bn3 ⟨rfl, rfl, by rw [epos, esz, dg_len]; omega, by rw [eslice]; exact bareU⟩ (by rw [eslice, esz0]; rw [hg13]; exact callS) (by rw [dg_len, esz]) (sc_b (decide_eq_true hneg)) bn1 bn2 bn3 ⟨rfl, rfl, by rw [pos0, hp1, dg_len, esz]; omega, by rw [pos0, esz, esl2]; exact (dg_leaves _ _).bare (by rw [dg_len]; omega)⟩ (by rw [pos0, esz, esl2, esz0]; exact callR) (by rw [dg_len, esz]) bn4 ⟨rfl, rfl, rfl, by rw [pos0, dg_len]; omega⟩
        (by rw [pos0, hp1, putU2]; exact dg_nn _ _) (by rw [eG, pos0, hput]; exact dg_nn _ _)
      rw [eG, pos0, hp1, putU2, hput, ekm] at e2
      exact ⟨s', _, _, _, e1, hinv, hR', hR1, hQ1, hQ2, by exact hkk, e2⟩
    · -- right
      have hnn : ¬ U < V * g := hb
      have hgQ : g = Qd := by
        apply Nat.le_antisymm ?_ g2
        rw [hQd]
        refine (Nat.le_div_iff_mul_le hV0).2 ?_
        rw [Nat.mul_comm]; omega
      have eG : IntKind.u32.wrap (IntKind.u64.wrap (t13 - (1 : Int))) = ((Qd : Nat) : Int) := by rw [hg13]; rw [u32s (by omega)]; omega
      have hsub : subN (q + 1) U (V * g) = U % V := by
        have h1 := dff_eq U (V * g) (q + 1)
        rw [Nat.mod_eq_of_lt hUq, Nat.mod_eq_of_lt (show V * g < BB ^ (q + 1) by omega)] at h1
        have h2 : brw U (V * g) (q + 1) = 0 := by unfold brw; rw [Nat.mod_eq_of_lt hUq, Nat.mod_eq_of_lt (show V * g < BB ^ (q + 1) by omega), if_neg hnn]
        rw [h2, Nat.mul_zero, Nat.add_zero] at h1
        have h3 := Nat.div_add_mod U V
        rw [← hQd, ← hgQ] at h3
        show dff U (V * g) (q + 1) = _
        generalize U % V = x at *
        omega
      have hp1 : putCells (dg (la + 1) R) k (dg (q + 1) (subN (q + 1) U (V * g))) = dg (la + 1) (R % BB ^ k + BB ^ k * (U % V)) := by rw [hsub, putU hmq]
      obtain ⟨s', e1, e2⟩ := r_integer_divide_0_5 hio n v m w p q la A lb Bv V cc (k : Nat) (dgt R (k + q) : Nat) (dgt R (k + q - 1) : Nat) t13 t14 y0 (dg (la + 1) R) (dg M Qn) (dg (q + 1) (subN (q + 1) U (V * g))) j kk (decide (U < V * g)) (sc_b (decide_eq_true (by omega))) ixa rda ixb rdb ix1 rd1 hv0 ix1 rd1 hv0 hl (dg_nn _ _) (dg_nn _ _) bn1 bn2 bn3 ⟨rfl, rfl, by rw [epos, esz, dg_len]; omega, by rw [eslice]; exact bareU⟩ (by rw [eslice, esz0]; rw [hg13]; exact callS) (by rw [dg_len, esz]) (sc_b (decide_eq_false hnn)) bn4 ⟨rfl, rfl, rfl, by rw [pos0, dg_len]; omega⟩ (by rw [pos0, hp1]; exact dg_nn _ _) (by rw [eG, pos0, hput]; exact dg_nn _ _)
      rw [eG, pos0, hp1, hput, ekm] at e2
      exact ⟨s', _, _, _, e1, hinv, hR', hR1, hQ1, hQ2, by exact hkk, e2⟩
  · by_cases hb : U < V * g
    · -- too great by one
      have hneg : U < V * g := hb
      have hgQ : g = Qd + 1 := by
        apply Nat.le_antisymm g3
        apply Nat.lt_of_not_le
        intro h
        have h2 : V * g ≤ V * Qd := Nat.mul_le_mul_left _ h
        have := Nat.mul_div_le U V
        rw [← hQd] at this
        omega
      have eG : IntKind.u32.wrap (IntKind.u64.wrap (((g : Nat) : Int) - (1 : Int))) = ((Qd : Nat) : Int) := by rw [u64s (by omega), u32s (by omega)]; omega
      have hp1 : putCells (dg (la + 1) R) k (dg (q + 1) (subN (q + 1) U (V * g))) = dg (la + 1) (R % BB ^ k + BB ^ k * subN (q + 1) U (V * g)) := putU (dff_lt _ _ _)
      have esl2 : ((putCells (dg (la + 1) R) k (dg (q + 1) (subN (q + 1) U (V * g)))).drop k).take (q + 1) = dg (q + 1) (subN (q + 1) U (V * g)) := by
        rw [hp1, dg_drop (by omega), dg_take (by omega), Nat.add_mul_div_left _ _ (BBp k), Nat.div_eq_of_lt (Nat.mod_lt _ (BBp k)), Nat.zero_add]
      have hres : (subN (q + 1) U (V * g) + V) % BB ^ (q + 1) = U % V := by
        have h1 := dff_eq U (V * g) (q + 1)
        rw [Nat.mod_eq_of_lt hUq, Nat.mod_eq_of_lt hPq] at h1
        have h2 : brw U (V * g) (q + 1) = 1 := by unfold brw; rw [Nat.mod_eq_of_lt hUq, Nat.mod_eq_of_lt hPq, if_pos hneg]
        rw [h2, Nat.mul_one] at h1
        have h3 := Nat.div_add_mod U V
        rw [← hQd] at h3
        have h4 : V * g = V * Qd + V := by rw [hgQ, Nat.mul_add, Nat.mul_one]
        have h5 : subN (q + 1) U (V * g) + V = U % V + BB ^ (q + 1) := by
          show dff U (V * g) (q + 1) + V = _
          generalize U % V = x at *
          omega
        rw [h5, Nat.add_mod_right, Nat.mod_eq_of_lt]
        exact Nat.lt_of_le_of_lt (Nat.mod_le _ _) hUq
      have callR := c_integer_restore (q := mm) (u := subN (q + 1) U (V * g)) (w := V) (n := q + 1) (m := q) (d := none) hm (dff_lt _ _ _) hVq (by omega) (by omega)
      rw [hres] at callR
      obtain ⟨s', e1, e2⟩ := r_integer_divide_0_3 hio n v m w p q la A lb Bv V cc (k : Nat) (dgt R (k + q) : Nat) (dgt R (k + q - 1) : Nat) ((g : Nat) : Int) t14 y0 (dg (la + 1) R) (dg M Qn) (dg (q + 1) (subN (q + 1) U (V * g))) (dg (q + 1) (U % V)) j kk (decide (U < V * g)) (sc_b (decide_eq_true (by omega))) ixa rda ixb rdb ix1 rd1 hv0 ix1 rd1 hv0 hl (dg_nn _ _) (dg_nn _ _) bn1 bn2 bn3 ⟨rfl, rfl, by rw [epos, esz, dg_len]; omega, by rw [eslice]; exact bareU⟩ (by rw [eslice, esz0]; exact callS) (by rw [dg_len, esz]) (sc_b (decide_eq_true hneg)) bn1 bn2 bn3 ⟨rfl, rfl, by rw [pos0, hp1, dg_len, esz]; omega, by rw [pos0, esz, esl2]; exact (dg_leaves _ _).bare (by rw [dg_len]; omega)⟩ (by rw [pos0, esz, esl2, esz0]; exact callR) (by rw [dg_len, esz]) bn4 ⟨rfl, rfl, rfl, by rw [pos0, dg_len]; omega⟩
        (by rw [pos0, hp1, putU2]; exact dg_nn _ _) (by rw [eG, pos0, hput]; exact dg_nn _ _)
      rw [eG, pos0, hp1, putU2, hput, ekm] at e2
      exact ⟨s', _, _, _, e1, hinv, hR', hR1, hQ1, hQ2, by exact hkk, e2⟩
    · -- right
      have hnn : ¬ U < V * g := hb
      have hgQ : g = Qd := by
        apply Nat.le_antisymm ?_ g2
        rw [hQd]
        refine (Nat.le_div_iff_mul_le hV0).2 ?_
        rw [Nat.mul_comm]; omega
      have eG : IntKind.u32.wrap ((g : Nat) : Int) = ((Qd : Nat) : Int) := by rw [u32s (by omega)]; omega
      have hsub : subN (q + 1) U (V * g) = U % V := by
        have h1 := dff_eq U (V * g) (q + 1)
        rw [Nat.mod_eq_of_lt hUq, Nat.mod_eq_of_lt (show V * g < BB ^ (q + 1) by omega)] at h1
        have h2 : brw U (V * g) (q + 1) = 0 := by unfold brw; rw [Nat.mod_eq_of_lt hUq, Nat.mod_eq_of_lt (show V * g < BB ^ (q + 1) by omega), if_neg hnn]
        rw [h2, Nat.mul_zero, Nat.add_zero] at h1
        have h3 := Nat.div_add_mod U V
        rw [← hQd, ← hgQ] at h3
        show dff U (V * g) (q + 1) = _
        generalize U % V = x at *
        omega
      have hp1 : putCells (dg (la + 1) R) k (dg (q + 1) (subN (q + 1) U (V * g))) = dg (la + 1) (R % BB ^ k + BB ^ k * (U % V)) := by rw [hsub, putU hmq]
      obtain ⟨s', e1, e2⟩ := r_integer_divide_0_4 hio n v m w p q la A lb Bv V cc (k : Nat) (dgt R (k + q) : Nat) (dgt R (k + q - 1) : Nat) ((g : Nat) : Int) t14 y0 (dg (la + 1) R) (dg M Qn) (dg (q + 1) (subN (q + 1) U (V * g))) j kk (decide (U < V * g)) (sc_b (decide_eq_true (by omega))) ixa rda ixb rdb ix1 rd1 hv0 ix1 rd1 hv0 hl (dg_nn _ _) (dg_nn _ _) bn1 bn2 bn3 ⟨rfl, rfl, by rw [epos, esz, dg_len]; omega, by rw [eslice]; exact bareU⟩ (by rw [eslice, esz0]; exact callS) (by rw [dg_len, esz]) (sc_b (decide_eq_false hnn)) bn4 ⟨rfl, rfl, rfl, by rw [pos0, dg_len]; omega⟩ (by rw [pos0, hp1]; exact dg_nn _ _) (by rw [eG, pos0, hput]; exact dg_nn _ _)
      rw [eG, pos0, hp1, hput, ekm] at e2
      exact ⟨s', _, _, _, e1, hinv, hR', hR1, hQ1, hQ2, by exact hkk, e2⟩
end Go.Proofs.YtkeelkeoijemiaaGreat.Ev

namespace Go.Proofs.YtkeelkeoijemiaaGreat.Ev
open Go Go.RowKit
set_option linter.unusedVariables false
set_option linter.unusedSimpArgs false

/-- How many limbs the quotient and the remainder have, as divide answers them. -/
def lqD (v w : Nat) : Nat := if nl w = 1 then nl v else if v < w then 0 else nl v + 2 - nl w
def lrD (v w : Nat) : Nat := if nl w = 1 then 1 else if v < w then nl v else nl (v % w * (BB / (dgt w (nl w - 1) + 1)))

/-- The factor that makes the divisor's first limb great. -/
theorem scale_facts {w : Nat} (hw : 0 < w) : ∃ s, s = BB / (dgt w (nl w - 1) + 1) ∧ 0 < s ∧ s < BB ∧ w * s < BB ^ nl w ∧ BB ^ (nl w - 1) ≤ w * s ∧ 1200 ≤ dgt (w * s) (nl w - 1) := by
  have eB : BB = 1000000000 := rfl
  have hq := nl_pos hw
  obtain ⟨b, hb⟩ : ∃ b, b = dgt w (nl w - 1) := ⟨_, rfl⟩
  obtain ⟨s, hs⟩ : ∃ s, s = BB / (b + 1) := ⟨_, rfl⟩
  have hb0 : b ≠ 0 := by rw [hb]; exact dgt_top hw
  have hbB : b < BB := by rw [hb]; exact dgt_lt _ _
  have hs0 : 0 < s := by rw [hs]; exact Nat.div_pos (by omega) (by omega)
  have hsb : (b + 1) * s ≤ BB := by rw [hs]; exact Nat.mul_div_le _ _
  have hp := BBp (nl w - 1)
  have htop : w / BB ^ (nl w - 1) = b := by rw [hb]; exact top_limb (by rw [show nl w - 1 + 1 = nl w by omega]; exact nl_lt w)
  obtain ⟨h1, h2⟩ := hi_of w (nl w - 1) htop
  have hsB : s < BB := by
    have h3 : 2 * s ≤ (b + 1) * s := Nat.mul_le_mul_right _ (by omega)
    omega
  have hlt : w * s < BB ^ nl w := by
    have h3 : w * s < (b + 1) * BB ^ (nl w - 1) * s := Nat.mul_lt_mul_of_pos_right h2 hs0
    have h4 : (b + 1) * BB ^ (nl w - 1) * s = (b + 1) * s * BB ^ (nl w - 1) := by rw [Nat.mul_assoc, Nat.mul_comm (BB ^ _), ← Nat.mul_assoc]
    have h5 : (b + 1) * s * BB ^ (nl w - 1) ≤ BB * BB ^ (nl w - 1) := Nat.mul_le_mul_right _ hsb
    have h6 : BB * BB ^ (nl w - 1) = BB ^ nl w := by rw [← Nat.pow_succ']; congr 1; omega
    omega
  refine ⟨s, by rw [hs, hb], hs0, hsB, hlt, ?_, ?_⟩
  · have h3 : w * 1 ≤ w * s := Nat.mul_le_mul_left _ hs0
    have h4 := nl_low hw
    omega
  · have e1 : dgt (w * s) (nl w - 1) = w * s / BB ^ (nl w - 1) := (top_limb (by rw [show nl w - 1 + 1 = nl w by omega]; exact hlt)).symm
    rw [e1]
    refine (Nat.le_div_iff_mul_le hp).2 ?_
    have h3 : b * s * BB ^ (nl w - 1) ≤ w * s := by
      rw [Nat.mul_right_comm]; exact Nat.mul_le_mul_right _ h1
    have h4 : 1200 ≤ b * s := by
      by_cases hb1 : 1200 ≤ b
      · exact Nat.le_trans hb1 (Nat.le_mul_of_pos_right _ hs0)
      · have h5 : BB / 1200 ≤ s := by rw [hs]; exact Nat.div_le_div_left (by omega) (by omega)
        have h6 : BB / 1200 = 833333 := by decide
        exact Nat.le_trans (by omega) (Nat.le_mul_of_pos_left _ (Nat.pos_of_ne_zero hb0))
    exact Nat.le_trans (Nat.mul_le_mul_right _ h4) h3

theorem c_integer_divide {mm : Nat} (hm : 2 < mm) {v w n m : Nat} {c d : Option Nat} (hv : v < BB ^ n) (hw : w < BB ^ m) (hw0 : 0 < w) (hn : n < 40000) (hmm : m < 40000) :
    (TU mm).call fn_integer_divide [.fs n c (dg n v), .fs m d (dg m w)] = some (.tup [.fs (lqD v w) none (dg (lqD v w) (v / w)), .fs (lrD v w) none (dg (lrD v w) (v % w))], []) := by
  have hio := TU_io (mm - 1)
  have eB : BB = 1000000000 := rfl
  have hnv := nl_le hv
  have hnw := nl_le hw
  have hq := nl_pos hw0
  have t1 : (TU (mm - 1)).call fn_integer_trim [.fs n none (dg n v)] = _ := c_integer_trim (by omega) hv (by omega)
  have t2 : (TU (mm - 1)).call fn_integer_trim [.fs m none (dg m w)] = _ := c_integer_trim (by omega) hw (by omega)
  have hu : uncaps [.fs n c (dg n v), .fs m d (dg m w)] = [.fs n none (dg n v), .fs m none (dg m w)] := by simp [uncaps, uncap]
  by_cases hq1 : nl w = 1
  · have hwB : w < BB := by have := nl_lt w; rw [hq1, Nat.pow_one] at this; exact this
    have hd : dgt w 0 = w := by unfold dgt; rw [Nat.pow_zero, Nat.div_one, Nat.mod_eq_of_lt hwB]
    have t3 : (TU (mm - 1)).call fn_integer_byWord [.fs (nl v) none (dg (nl v) v), uN ((dgt w 0 : Nat) : Int)] = some (.tup [.fs (nl v) none (dg (nl v) (v / w)), .fs 1 none (dg 1 (v % w))], []) := by
      rw [hd]; exact c_integer_byWord (by omega) (nl_lt v) (by omega) hw0 (by omega)
    refine TU_call (by omega) rfl rfl (args' := [.fs n none (dg n v), .fs m none (dg m w)]) hu (p_integer_divide_w hio n v m w (nl v) (nl w) _ _ _ _ t1 t2 (sc_b (by rw [hq1]; rfl)) ⟨by omega, by omega, dg_ne hq⟩ (by have := dg_at (n := nl w) (v := w) (i := 0) hq; simpa using this) t3) ?_
    unfold lqD lrD
    rw [if_pos hq1, if_pos hq1]
    simp [uncap, uncaps]
  · have t3 : (TU (mm - 1)).call fn_integer_compare [.fs (nl v) none (dg (nl v) v), .fs (nl w) none (dg (nl w) w)] = _ := c_integer_compare (by omega) (nl_lt v) (by omega) (nl_lt w) (by omega)
    have hq1' : (bN (((nl w : Nat) : Int) == (1 : Int)) : MV) = .sc (.bool false) := sc_b (by simp; omega)
    by_cases hvw : v < w
    · have hc : (bN (decide (cmpN v w < (0 : Int))) : MV) = .sc (.bool true) := sc_b (decide_eq_true (by rw [cmpN, if_pos hvw]; omega))
      have e1 : lqD v w = 0 := by unfold lqD; rw [if_neg hq1, if_pos hvw]
      have e2 : lrD v w = nl v := by unfold lrD; rw [if_neg hq1, if_pos hvw]
      rw [e1, e2, Nat.mod_eq_of_lt hvw]
      by_cases hv0 : v = 0
      · subst hv0
        refine TU_call (by omega) rfl rfl (args' := [.fs n none (dg n 0), .fs m none (dg m w)]) hu (p_integer_divide_s1 hio n 0 m w (nl 0) (nl w) _ t1 t2 hq1' t3 hc ⟨by rw [dg_len]; omega, (dg_leaves _ _).cellOk, by decide⟩) ?_
        rfl
      · have hp := nl_pos (Nat.pos_of_ne_zero hv0)
        have e0 : 0 + nl v = nl v := Nat.zero_add _
        have et : (dg (nl v) v).take ((0 + nl v) * 1) = dg (nl v) v := by rw [e0, Nat.mul_one]; exact dg_take (Nat.le_refl _)
        refine TU_call (by omega) rfl rfl (args' := [.fs n none (dg n v), .fs m none (dg m w)]) hu (p_integer_divide_s0 hio n v m w (nl v) (nl w) _ t1 t2 hq1' t3 hc ⟨by rw [dg_len]; omega, (dg_leaves _ _).cellOk, by omega, rfl, by omega⟩ ⟨rfl, by decide, by rw [dg_len]; omega, by rw [et]; exact dg_pl (by omega)⟩) ?_
        rw [et, e0]
        simp [uncap, uncaps, dg]
    · have hc : (bN (decide (cmpN v w < (0 : Int))) : MV) = .sc (.bool false) := sc_b (decide_eq_false (by rw [cmpN, if_neg hvw]; split <;> omega))
      have hle : w ≤ v := by omega
      have hpq : nl w ≤ nl v := nl_mono hle
      obtain ⟨s, hs, hs0, hsB, hV1, hV2, hV3⟩ := scale_facts hw0
      obtain ⟨q, hqe⟩ : ∃ q, q = nl w := ⟨_, rfl⟩
      obtain ⟨p, hpe⟩ : ∃ p, p = nl v := ⟨_, rfl⟩
      obtain ⟨V, hVe⟩ : ∃ V, V = w * s := ⟨_, rfl⟩
      obtain ⟨A, hAe⟩ : ∃ A, A = v * s := ⟨_, rfl⟩
      obtain ⟨M, hMe⟩ : ∃ M, M = p + 2 - q := ⟨_, rfl⟩
      rw [← hqe] at t2 t3 hq1' hV1 hV2 hV3 hs hq hnw hpq
      rw [← hpe] at t1 t3 hnv hpq
      rw [← hVe] at hV1 hV2 hV3
      have hdl := dgt_lt w (q - 1)
      have eq1 : IntKind.i64.wrap (((q : Nat) : Int) - (1 : Int)) = ((q - 1 : Nat) : Int) := by rw [i64s (by omega)]; omega
      have esc : IntKind.u32.wrap (IntKind.u64.wrap ((1000000000 : Int).tdiv (IntKind.u64.wrap ((IntKind.u64.wrap ((dgt w ((IntKind.i64.wrap (((q : Nat) : Int) - (1 : Int))).toNat) : Nat) : Int)) + (1 : Int))))) = ((s : Nat) : Int) := by
        rw [eq1, Int.toNat_natCast, u64s (x := ((dgt w (q - 1) : Nat) : Int)) (by omega), u64s (x := ((dgt w (q - 1) : Nat) : Int) + 1) (by omega), Int.tdiv_eq_ediv_of_nonneg (by omega),
          show (1000000000 : Int) / (((dgt w (q - 1) : Nat) : Int) + 1) = ((s : Nat) : Int) by rw [hs, eB, Int.natCast_ediv]; rfl, u64s (by omega), u32s (by omega)]
      have hA : A < BB ^ (p + 1) := by
        rw [hAe, Nat.pow_succ]
        exact Nat.mul_lt_mul'' (by rw [hpe]; exact nl_lt v) hsB
      have t4 : (TU (mm - 1)).call fn_integer_times [.fs p none (dg p v), .fs 1 (some 1) [uN (s : Nat)]] = some (.fs (p + 1) (some (p + 1)) (dg (p + 1) A), []) := by
        rw [dg_one s hsB, hAe]
        exact c_integer_times (by omega) (by rw [hpe]; exact nl_lt v) (by rw [Nat.pow_one]; exact hsB) (by omega)
      have t5 : (TU (mm - 1)).call fn_integer_times [.fs q none (dg q w), .fs 1 (some 1) [uN (s : Nat)]] = some (.fs (q + 1) (some (q + 1)) (dg (q + 1) V), []) := by
        rw [dg_one s hsB, hVe]
        exact c_integer_times (by omega) (by rw [hqe]; exact nl_lt w) (by rw [Nat.pow_one]; exact hsB) (by omega)
      have hnlV : nl V = q := by
        have := nl_eq (v := V) (n := q - 1) (by rw [show q - 1 + 1 = q by omega]; exact hV1) hV2
        omega
      have t6 : (TU (mm - 1)).call fn_integer_trim [.fs (q + 1) (some (q + 1)) (dg (q + 1) V)] = some (.fs q none (dg q V), []) := by
        have := c_integer_trim (m := mm - 1) (by omega) (v := V) (k := q + 1) (c := some (q + 1)) (Nat.lt_of_lt_of_le hV1 (Nat.pow_le_pow_right BB_pos (by omega))) (by omega)
        rw [hnlV] at this
        exact this
      have hq2 : 2 ≤ q := by omega
      have eMi : IntKind.i64.wrap (((p + 1 + 1 : Nat) : Int) - ((q : Nat) : Int)) = ((M : Nat) : Int) := by rw [i64s (by omega)]; omega
      have eMi1 : IntKind.i64.wrap (((M : Nat) : Int) - (1 : Int)) = ((M : Nat) : Int) - 1 := i64s (by omega)
      have hcat : dg (p + 1) A ++ [uN 0] = dg (p + 1 + 1) A := by
        have : dgt A (p + 1) = 0 := dgt_high hA (Nat.le_refl _)
        show dg (p + 1) A ++ [uN 0] = dg (p + 1) A ++ [uN ((dgt A (p + 1) : Nat) : Int)]
        rw [this]; rfl
      have hV0 : 0 < V := Nat.lt_of_lt_of_le (BBp _) hV2
      have hAV : A < V * BB ^ M := by
        have h1 : BB ^ (q - 1) * BB ^ M ≤ V * BB ^ M := Nat.mul_le_mul_right _ hV2
        rw [← Nat.pow_add, show q - 1 + M = p + 1 by omega] at h1
        omega
      obtain ⟨S, ⟨R, Qn, j, i1, i2, i3, i4, i5, i6, rfl⟩, hl⟩ := loop_to (G := gC (TU (mm - 1)) fn_integer_divide 0) (nm := nM fn_integer_divide 0)
        (fun i S => ∃ (R Qn : Nat) (j : Nat → Int), V * Qn + R = A ∧ R < V * BB ^ (M - i) ∧ R < BB ^ (p + 1 + 1) ∧ Qn < BB ^ M ∧ Qn % BB ^ (M - i) = 0 ∧ j 0 = ((s : Nat) : Int) ∧
          S = L_integer_divide_0 n v m w p q (p + 1) A (q + 1) V V (cmpN v w) (((M - i : Nat) : Int) - 1) (dg (p + 1 + 1) R) (dg M Qn) j) M FUEL (L_integer_divide_0 n v m w p q (p + 1) A (q + 1) V V (cmpN v w) (IntKind.i64.wrap ((IntKind.i64.wrap ((((p + 1) + 1 : Nat) : Int) - (q : Int))) - (1 : Int))) ((dg (p + 1) A) ++ ([uN 0])) (repCells [uN 0] ((IntKind.i64.wrap ((((p + 1) + 1 : Nat) : Int) - (q : Int))).toNat)) (jI [IntKind.u32.wrap (IntKind.u64.wrap ((1000000000 : Int).tdiv (IntKind.u64.wrap ((IntKind.u64.wrap ((dgt w ((IntKind.i64.wrap ((q : Int) - (1 : Int))).toNat) : Nat) : Int)) + (1 : Int)))))])) (by
          rintro i S hi ⟨R, Qn, j, i1, i2, i3, i4, i5, i6, rfl⟩
          obtain ⟨k, hk⟩ : ∃ k, k = M - (i + 1) := ⟨_, rfl⟩
          have hk1 : M - i = k + 1 := by omega
          rw [hk1] at i2 i5 ⊢
          rw [← hk, show (((k + 1 : Nat) : Int) - 1) = ((k : Nat) : Int) by omega]
          obtain ⟨s', R', Qn', j', r1, r2, r3, r4, r5, r6, r7, r8⟩ := div_round (mm := mm - 1) (by omega) (n := n) (v := v) (m := m) (w := w) (p := p) (A := A) (lb := q + 1) (Bv := V) (cc := cmpN v w) j hq2 (by omega) (by omega) (show M = p + 1 + 1 - q by omega) (show k < M by omega) hV1 hV3 i2 i3 i4 i5
          exact ⟨s', r1, R', Qn', j', by omega, r3, r4, r5, r6, by rw [r7]; exact i6, r8⟩) (by
          rw [eMi, Int.toNat_natCast, rep_dg, hcat, eMi1, esc]
          refine ⟨A, 0, _, by omega, hAV, Nat.lt_of_lt_of_le hA (Nat.pow_le_pow_right BB_pos (by omega)), BBp M, Nat.zero_mod _, ?_, rfl⟩
          rfl) (by unfold FUEL; omega)
      rw [Nat.sub_self] at i2 i5 hl
      rw [Nat.pow_zero, Nat.mul_one] at i2
      have hx := hl _ _ (r_integer_divide_0_1 hio n v m w p q (p + 1) A (q + 1) V V (cmpN v w) _ _ _ j (sc_b (decide_eq_false (by omega)))) (by simp)
      have hQ : Qn = v / w := by
        have h1 : A / V = Qn := by rw [← i1, Nat.mul_add_div hV0, Nat.div_eq_of_lt i2, Nat.add_zero]
        rw [← h1, hAe, hVe, Nat.mul_div_mul_right _ _ hs0]
      have hRe : R = v % w * s := by
        have h1 : A % V = R := by rw [← i1, Nat.mul_add_mod, Nat.mod_eq_of_lt i2]
        rw [← h1, hAe, hVe, Nat.mul_mod_mul_right]
      have hRq : R < BB ^ q := by omega
      have etk : (dg (p + 1 + 1) R).take (q * 1) = dg q R := by rw [Nat.mul_one, dg_take (by omega)]
      have t7 : (TU (mm - 1)).call fn_integer_trim [.fs q none ((dg (p + 1 + 1) R).take (q * 1))] = some (.fs (nl R) none (dg (nl R) R), []) := by
        rw [etk]
        exact c_integer_trim (by omega) hRq (by omega)
      have hnlR := nl_le hRq
      have t8 : (TU (mm - 1)).call fn_integer_byWord [.fs (nl R) none (dg (nl R) R), uN (j 0)] = some (.tup [.fs (nl R) none (dg (nl R) (R / s)), .fs 1 none (dg 1 (R % s))], []) := by
        rw [i6]; exact c_integer_byWord (by omega) (nl_lt R) (by omega) hs0 (by omega)
      have hm0 : IntKind.u64.wrap ((IntKind.u64.wrap ((dgt w ((IntKind.i64.wrap (((q : Nat) : Int) - (1 : Int))).toNat) : Nat) : Int)) + (1 : Int)) ≠ 0 := by
        rw [eq1, Int.toNat_natCast, u64s (x := ((dgt w (q - 1) : Nat) : Int)) (by omega), u64s (by omega)]; omega
      have pl1 : Plain [uN ((s : Nat) : Int)] := (Leaves.nil.cons rfl).plain (by simp)
      refine TU_call (by omega) rfl rfl (args' := [.fs n none (dg n v), .fs m none (dg m w)]) hu (p_integer_divide_l hio n v m w p q (p + 1) A (q + 1) V V (nl R) R _ _ _ _ _ _ _ _ j t1 t2 hq1' t3 hc (by rw [eq1]; exact dix (by omega)) (by rw [eq1]; exact dgi (by omega)) hm0 ⟨rfl, by decide, by decide, by rw [esc]; exact pl1⟩ (by rw [esc]; exact t4)
        ⟨rfl, rfl, by omega, by rw [dg_len]; omega, by omega⟩ ⟨rfl, by decide, by decide, by rw [esc]; exact pl1⟩ (by rw [esc]; exact t5) t6 (by rw [eMi]; omega) hx (by rw [hcat]; exact dg_nn _ _) (by omega) (by omega) ⟨rfl, by decide, by rw [dg_len]; omega, by rw [etk]; exact dg_pl (by omega)⟩ t7 t8 ⟨rfl, by decide, by rw [eMi, dg_len]; omega, by rw [eMi, Int.toNat_natCast, Nat.mul_one, dg_take (Nat.le_refl _)]; exact dg_pl (by omega)⟩) ?_
      have e1 : lqD v w = M := by unfold lqD; rw [if_neg hq1, if_neg hvw]; omega
      have e2 : lrD v w = nl R := by unfold lrD; rw [if_neg hq1, if_neg hvw, hRe, hs, hqe]
      rw [e1, e2, eMi, Int.toNat_natCast, Nat.mul_one, dg_take (Nat.le_refl _), hQ]
      have e3 : R / s = v % w := by rw [hRe, Nat.mul_div_cancel _ hs0]
      rw [e3]
      simp [uncap, uncaps]

/-- A number of at most two limbs. -/
def wrdN (z : Int) : Nat := if nz z ≤ 2 then z.natAbs else 0
def wrdB (z : Int) : Bool := decide (nz z ≤ 2)
theorem c_integer_word {q : Nat} (hq : 0 < q) (a : Int) : (TU q).call fn_integer_word [iM a] = some (.tup [wN (wrdN a : Nat), bN (wrdB a)], []) := by
  have hio := TU_io (q - 1)
  have eB : BB = 1000000000 := rfl
  obtain ⟨v, hv⟩ : ∃ v, v = a.natAbs := ⟨_, rfl⟩
  obtain ⟨n, hn⟩ : ∃ n, n = nz a := ⟨_, rfl⟩
  have hvn : v < BB ^ n := by rw [hv, hn]; exact nl_lt _
  have hr : uncap (.tup [wN (wrdN a : Nat), bN (wrdB a)]) = .tup [wN (wrdN a : Nat), bN (wrdB a)] := rfl
  have hM : iM a = .agg [bN (ng a), .fs n none (dg n v)] := by rw [hn, hv]
  refine TU_call hq rfl rfl (args' := [iM a]) (by rw [uncaps_iM]; rfl) (r := .tup [wN (wrdN a : Nat), bN (wrdB a)]) ?_ hr
  rw [hM]
  unfold wrdN wrdB
  rw [← hn, ← hv]
  have d0 := dgt_lt v 0
  have d1 := dgt_lt v 1
  by_cases h0 : n = 0
  · subst h0
    have : v = 0 := by simpa using hvn
    subst this
    exact p_integer_word_n_0 hio (ng a) 0 0 (sc_b rfl)
  · have b0 : (bN (((n : Nat) : Int) == (0 : Int)) : MV) = .sc (.bool false) := sc_b (by simp; omega)
    by_cases h1 : n = 1
    · subst h1
      have e : dgt v 0 = v := by unfold dgt; rw [Nat.pow_zero, Nat.div_one, Nat.mod_eq_of_lt (by rw [Nat.pow_one] at hvn; exact hvn)]
      refine (p_integer_word_n_1 hio (ng a) 1 v b0 (sc_b rfl) ⟨by omega, by omega, dg_ne (by omega)⟩ (by have := dg_at (n := 1) (v := v) (i := 0) (by omega); simpa using this)).trans ?_
      rw [u64s (by omega), e]; rfl
    · have b1 : (bN (((n : Nat) : Int) == (1 : Int)) : MV) = .sc (.bool false) := sc_b (by simp; omega)
      by_cases h2 : n = 2
      · subst h2
        have e : v = dgt v 1 * BB + dgt v 0 := by
          have h3 := two_limbs v 0
          rw [Nat.pow_zero, Nat.div_one, top_limb (p := 1) hvn] at h3
          exact h3
        have hb : dgt v 1 * BB ≤ 999999999 * 1000000000 := Nat.mul_le_mul (by omega) (by omega)
        refine (p_integer_word_n_2 hio (ng a) 2 v b0 b1 (sc_b rfl) ⟨by omega, by omega, dg_ne (by omega)⟩ (by have := dg_at (n := 2) (v := v) (i := 1) (by omega); simpa using this) ⟨by omega, by omega, dg_ne (by omega)⟩ (by have := dg_at (n := 2) (v := v) (i := 0) (by omega); simpa using this)).trans ?_
        have e2 : IntKind.u64.wrap ((IntKind.u64.wrap ((IntKind.u64.wrap ((dgt v 1 : Nat) : Int)) * (1000000000 : Int))) + (IntKind.u64.wrap ((dgt v 0 : Nat) : Int))) = ((v : Nat) : Int) := by
          rw [u64s (x := ((dgt v 1 : Nat) : Int)) (by omega), u64s (x := ((dgt v 0 : Nat) : Int)) (by omega), u64s (x := ((dgt v 1 : Nat) : Int) * 1000000000) (by omega), u64s (by omega)]
          rw [eB] at e; omega
        rw [e2]; rfl
      · have b2 : (bN (((n : Nat) : Int) == (2 : Int)) : MV) = .sc (.bool false) := sc_b (by simp; omega)
        refine (p_integer_word_n_3 hio (ng a) n v b0 b1 b2).trans ?_
        rw [if_neg (by omega), decide_eq_false (by omega)]; rfl
end Go.Proofs.YtkeelkeoijemiaaGreat.Ev

