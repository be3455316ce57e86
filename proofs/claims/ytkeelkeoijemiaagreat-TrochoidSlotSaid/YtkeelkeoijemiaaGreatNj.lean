/- Integers, part 2: times, byWord: states, rounds, paths. Limbs of the integers: times, byWord. Integers: byWord, split, FromInt64, word, Sign, Cmp, Add, Sub, Neg, Mul. Integers, part 4: subtract, restore: states, rounds, paths. -/
import Derived.Test.YtkeelkeoijemiaaGreatNg
set_option linter.unusedVariables false
set_option linter.unusedSimpArgs false
namespace Go.Proofs.YtkeelkeoijemiaaGreat.Ev
open Go
set_option linter.unusedVariables false
set_option linter.unusedSimpArgs false
set_option maxRecDepth 100000

def L_integer_times_0 (n v m w : Nat) (cs17 : List MV) (t20 : Int) : St := { sl := [MV.fs n none (dg n v), MV.fs m none (dg m w), undefM, undefM, MV.fs 0 (some 0) [], MV.row 17 1 0 ((IntKind.i64.wrap ((n : Int) + (m : Int))).toNat) (some ((IntKind.i64.wrap ((n : Int) + (m : Int))).toNat)) 1] ++ rp 12 MV.any ++ [MV.fs n none (dg n v), iN (n : Int), iN t20] ++ rp 47 MV.any, en := rp 17 none ++ [some ⟨1, cs17, false⟩] ++ rp 50 none, ck := 2 }

noncomputable def I_integer_times_0 (n v m w : Nat) : St := xe true fn_integer_times [MV.fs n none (dg n v), MV.fs m none (dg m w)] [MV.fs n none (dg n v), MV.fs m none (dg m w)] [.halt]

theorem i_integer_times_0 (n v m w : Nat)  : nM fn_integer_times 0 (I_integer_times_0 n v m w) = (L_integer_times_0 n v m w (repCells [uN 0] ((IntKind.i64.wrap ((n : Int) + (m : Int))).toNat)) 0) :=
  nm_fill (w := WF fn_integer_times (bodyOf PG fn_integer_times 0)) (S := (I_integer_times_0 n v m w)) (q0 := 17) (c0 := repCells [uN 0] ((IntKind.i64.wrap ((n : Int) + (m : Int))).toNat)) (n0 := (L_integer_times_0 n v m w ([]) 0)) (by kernel_rfl) (by kernel_rfl) (by kernel_rfl) (rep_nn _)

def L_integer_times_1 (n v m w : Nat) (cs17 cs17k : List MV) (t20 t8k t27k : Int) (k : Nat → Int) : St := { sl := [MV.fs n none (dg n v), MV.fs m none (dg m w), undefM, undefM, MV.fs 0 (some 0) [], MV.row 17 1 0 ((IntKind.i64.wrap ((n : Int) + (m : Int))).toNat) (some ((IntKind.i64.wrap ((n : Int) + (m : Int))).toNat)) 1, iN t20, uN (k 0), wN t8k] ++ rp 9 MV.any ++ [MV.fs n none (dg n v), iN (n : Int), iN t20] ++ rp 4 MV.any ++ [MV.fs m none (dg m w), iN (m : Int), iN t27k] ++ rp 40 MV.any, en := rp 17 none ++ [some ⟨1, cs17k, false⟩] ++ rp 50 none, ck := 2 }

noncomputable def I_integer_times_1 (n v m w : Nat) (cs17 : List MV) (t20 : Int) : St := xr true fn_integer_times 0 (L_integer_times_0 n v m w cs17 t20) [.br true, .val (uN ((dgt v t20.toNat : Nat) : Int)), .halt]

theorem i_integer_times_1 (n v m w : Nat) (cs17 : List MV) (t20 : Int) (hn17 : NoNames cs17) : nM fn_integer_times 1 (I_integer_times_1 n v m w cs17 t20) = (L_integer_times_1 n v m w cs17 cs17 t20 0 0 (jI [((dgt v t20.toNat : Nat) : Int)])) :=
  nm_fill (w := WF fn_integer_times (bodyOf PG fn_integer_times 1)) (S := (I_integer_times_1 n v m w cs17 t20)) (q0 := 17) (c0 := cs17) (n0 := (L_integer_times_1 n v m w cs17 ([]) t20 0 0 (jI [((dgt v t20.toNat : Nat) : Int)]))) (by kernel_rfl) (by kernel_rfl) (by kernel_rfl) hn17

theorem r_integer_times_1_0 {T : Tab} (hio : TO T) (n v m w : Nat) (cs17 cs17k : List MV) (t20 t8k t27k x0 : Int) (k : Nat → Int) (h0 : (bN (decide (t27k < (m : Int))) : MV) = .sc (.bool true)) (h1 : (0 : Int) ≤ t27k ∧ t27k < ((m : Nat) : Int) ∧ ((dg m w) : List MV) ≠ []) (h2 : takeAs false 1 ((dg m w).drop (t27k.toNat * 1)) = some (uN ((dgt w t27k.toNat : Nat) : Int))) (h3 : (0 : Int) ≤ (IntKind.i64.wrap (t20 + t27k)) ∧ (IntKind.i64.wrap (t20 + t27k)) < (((IntKind.i64.wrap ((n : Int) + (m : Int))).toNat : Nat) : Int)) (h4 : takeAs false 1 (cs17k.drop (0 + (((IntKind.i64.wrap (t20 + t27k)).toNat) * 1))) = some (uN x0)) (h5 : (1000000000 : Int) ≠ 0) (h6 : (1000000000 : Int) ≠ 0) (h7 : (0 : Int) ≤ (IntKind.i64.wrap (t20 + t27k)) ∧ (IntKind.i64.wrap (t20 + t27k)) < (((IntKind.i64.wrap ((n : Int) + (m : Int))).toNat : Nat) : Int)) (h8 : 1 = 1 ∧ false = false ∧ 1 = 1 ∧ (0 + (((IntKind.i64.wrap (t20 + t27k)).toNat) * 1)) + 1 ≤ cs17k.length) (hn17 : NoNames (putCells cs17k (0 + (((IntKind.i64.wrap (t20 + t27k)).toNat) * 1)) [uN (IntKind.u32.wrap ((IntKind.u64.wrap ((IntKind.u64.wrap ((IntKind.u64.wrap x0) + (IntKind.u64.wrap ((IntKind.u64.wrap (k 0)) * (IntKind.u64.wrap ((dgt w t27k.toNat : Nat) : Int)))))) + t8k)).tmod (1000000000 : Int)))])) : ∃ s_, gC T fn_integer_times 1 (L_integer_times_1 n v m w cs17 cs17k t20 t8k t27k k) = some (.normal, s_) ∧ nM fn_integer_times 1 s_ = (L_integer_times_1 n v m w cs17 (putCells cs17k (0 + (((IntKind.i64.wrap (t20 + t27k)).toNat) * 1)) [uN (IntKind.u32.wrap ((IntKind.u64.wrap ((IntKind.u64.wrap ((IntKind.u64.wrap x0) + (IntKind.u64.wrap ((IntKind.u64.wrap (k 0)) * (IntKind.u64.wrap ((dgt w t27k.toNat : Nat) : Int)))))) + t8k)).tmod (1000000000 : Int)))]) t20 (IntKind.u64.wrap ((IntKind.u64.wrap ((IntKind.u64.wrap ((IntKind.u64.wrap x0) + (IntKind.u64.wrap ((IntKind.u64.wrap (k 0)) * (IntKind.u64.wrap ((dgt w t27k.toNat : Nat) : Int)))))) + t8k)).tdiv (1000000000 : Int))) (IntKind.i64.wrap (t27k + (1 : Int))) k) :=
  rd_fill hio (h := true) (orc := [.br true, .val (uN ((dgt w t27k.toNat : Nat) : Int)), .val (uN x0)]) (q0 := 17) (c0 := putCells cs17k (0 + (((IntKind.i64.wrap (t20 + t27k)).toNat) * 1)) [uN (IntKind.u32.wrap ((IntKind.u64.wrap ((IntKind.u64.wrap ((IntKind.u64.wrap x0) + (IntKind.u64.wrap ((IntKind.u64.wrap (k 0)) * (IntKind.u64.wrap ((dgt w t27k.toNat : Nat) : Int)))))) + t8k)).tmod (1000000000 : Int)))]) (n0 := (L_integer_times_1 n v m w cs17 ([]) t20 (IntKind.u64.wrap ((IntKind.u64.wrap ((IntKind.u64.wrap ((IntKind.u64.wrap x0) + (IntKind.u64.wrap ((IntKind.u64.wrap (k 0)) * (IntKind.u64.wrap ((dgt w t27k.toNat : Nat) : Int)))))) + t8k)).tdiv (1000000000 : Int))) (IntKind.i64.wrap (t27k + (1 : Int))) k)) (by kernel_rfl) (owc h0 (owc h1 (owc h2 (owc h3 (owc h4 (owc h5 (owc h6 (owc h7 (ow1 h8))))))))) (by kernel_rfl) (by kernel_rfl) (by kernel_rfl) hn17

noncomputable def X_integer_times_1_1 (n v m w : Nat) (cs17 cs17k : List MV) (t20 t8k t27k : Int) (k : Nat → Int) : St := xr true fn_integer_times 1 (L_integer_times_1 n v m w cs17 cs17k t20 t8k t27k k) [.br false]

theorem r_integer_times_1_1 {T : Tab} (hio : TO T) (n v m w : Nat) (cs17 cs17k : List MV) (t20 t8k t27k : Int) (k : Nat → Int) (h0 : (bN (decide (t27k < (m : Int))) : MV) = .sc (.bool false)) : gC T fn_integer_times 1 (L_integer_times_1 n v m w cs17 cs17k t20 t8k t27k k) = some (.exit 2, (X_integer_times_1_1 n v m w cs17 cs17k t20 t8k t27k k)) :=
  ex_ok hio (h := true) (orc := [.br false]) (by kernel_rfl) (ow1 h0)

theorem r_integer_times_0_0 {T : Tab} (hio : TO T) (n v m w : Nat) (cs17 cs17k : List MV) (t20 t8k t27k : Int) (k : Nat → Int) (h0 : (bN (decide (t20 < (n : Int))) : MV) = .sc (.bool true)) (h1 : (0 : Int) ≤ t20 ∧ t20 < ((n : Nat) : Int) ∧ ((dg n v) : List MV) ≠ []) (h2 : takeAs false 1 ((dg n v).drop (t20.toNat * 1)) = some (uN ((dgt v t20.toNat : Nat) : Int))) (h3 : lp T fn_integer_times 1 (L_integer_times_1 n v m w cs17 cs17 t20 0 0 (jI [((dgt v t20.toNat : Nat) : Int)])) (.exit 2) (X_integer_times_1_1 n v m w cs17 cs17k t20 t8k t27k k)) (hm17 : NoNames cs17) (h4 : (0 : Int) ≤ (IntKind.i64.wrap (t20 + (m : Int))) ∧ (IntKind.i64.wrap (t20 + (m : Int))) < (((IntKind.i64.wrap ((n : Int) + (m : Int))).toNat : Nat) : Int)) (h5 : 1 = 1 ∧ false = false ∧ 1 = 1 ∧ (0 + (((IntKind.i64.wrap (t20 + (m : Int))).toNat) * 1)) + 1 ≤ cs17k.length) (hn17 : NoNames (putCells cs17k (0 + (((IntKind.i64.wrap (t20 + (m : Int))).toNat) * 1)) [uN (IntKind.u32.wrap t8k)])) : ∃ s_, gC T fn_integer_times 0 (L_integer_times_0 n v m w cs17 t20) = some (.normal, s_) ∧ nM fn_integer_times 0 s_ = (L_integer_times_0 n v m w (putCells cs17k (0 + (((IntKind.i64.wrap (t20 + (m : Int))).toNat) * 1)) [uN (IntKind.u32.wrap t8k)]) (IntKind.i64.wrap (t20 + (1 : Int)))) :=
  rd_fill hio (h := true) (orc := [.br true, .val (uN ((dgt v t20.toNat : Nat) : Int)), .loop (.exit 2) (X_integer_times_1_1 n v m w cs17 cs17k t20 t8k t27k k)]) (q0 := 17) (c0 := putCells cs17k (0 + (((IntKind.i64.wrap (t20 + (m : Int))).toNat) * 1)) [uN (IntKind.u32.wrap t8k)]) (n0 := (L_integer_times_0 n v m w ([]) (IntKind.i64.wrap (t20 + (1 : Int))))) (by kernel_rfl) (owc h0 (owc h1 (owc h2 (owc (lpI (i_integer_times_1 n v m w cs17 t20 hm17) h3) (owc h4 (ow1 h5)))))) (by kernel_rfl) (by kernel_rfl) (by kernel_rfl) hn17

noncomputable def X_integer_times_0_1 (n v m w : Nat) (cs17 : List MV) (t20 : Int) : St := xr true fn_integer_times 0 (L_integer_times_0 n v m w cs17 t20) [.br false]

theorem r_integer_times_0_1 {T : Tab} (hio : TO T) (n v m w : Nat) (cs17 : List MV) (t20 : Int) (h0 : (bN (decide (t20 < (n : Int))) : MV) = .sc (.bool false)) : gC T fn_integer_times 0 (L_integer_times_0 n v m w cs17 t20) = some (.exit 0, (X_integer_times_0_1 n v m w cs17 t20)) :=
  ex_ok hio (h := true) (orc := [.br false]) (by kernel_rfl) (ow1 h0)

theorem p_integer_times_x0_0 {T : Tab} (hio : TO T) (n v m w : Nat) (cs17 : List MV) (t20 : Int) (h0 : (0 : Int) ≤ (IntKind.i64.wrap ((n : Int) + (m : Int))) ∧ (IntKind.i64.wrap ((n : Int) + (m : Int))) ≤ (IntKind.i64.wrap ((n : Int) + (m : Int))) ∧ ((4 : Nat) : Int) * (IntKind.i64.wrap ((n : Int) + (m : Int))) ≤ 281474976710656 ∧ (IntKind.i64.wrap ((n : Int) + (m : Int))) ≤ 4611686018427387904) (h1 : lp T fn_integer_times 0 (L_integer_times_0 n v m w (repCells [uN 0] ((IntKind.i64.wrap ((n : Int) + (m : Int))).toNat)) 0) (.exit 0) (X_integer_times_0_1 n v m w cs17 t20)) (h2 : 1 = 1 ∧ 1 ≠ 0 ∧ 0 + (((IntKind.i64.wrap ((n : Int) + (m : Int))).toNat) * 1) ≤ cs17.length ∧ Plain (cs17.take (((IntKind.i64.wrap ((n : Int) + (m : Int))).toNat) * 1))) : evalBody PG T FUEL (ioF fn_integer_times) fn_integer_times [MV.fs n none (dg n v), MV.fs m none (dg m w)] = some (MV.fs ((IntKind.i64.wrap ((n : Int) + (m : Int))).toNat) (some ((IntKind.i64.wrap ((n : Int) + (m : Int))).toNat)) (cs17.take (((IntKind.i64.wrap ((n : Int) + (m : Int))).toNat) * 1)), []) :=
  xBody_io (hard := true) hio (orc := [.loop (.exit 0) (X_integer_times_0_1 n v m w cs17 t20)]) (by kernel_rfl) (owc h0 (owc (lpI (i_integer_times_0 n v m w) h1) (ow1 h2)))

def L_integer_byWord_0 (n v : Nat) (b t7 t8 : Int) (cs12 : List MV) : St := { sl := [MV.fs n none (dg n v), uN b, undefM, undefM, MV.fs 0 (some 0) [], MV.fs 0 (some 0) [], MV.row 12 1 0 n (some n) 1, wN t7, iN t8] ++ rp 35 MV.any, en := rp 12 none ++ [some ⟨1, cs12, false⟩] ++ rp 31 none, ck := 2 }

noncomputable def I_integer_byWord_0 (n v : Nat) (b : Int) : St := xe true fn_integer_byWord [MV.fs n none (dg n v), uN b] [MV.fs n none (dg n v), uN b] [.halt]

theorem i_integer_byWord_0 (n v : Nat) (b : Int)  : nM fn_integer_byWord 0 (I_integer_byWord_0 n v b) = (L_integer_byWord_0 n v b 0 (IntKind.i64.wrap ((n : Int) - (1 : Int))) (repCells [uN 0] n)) :=
  nm_fill (w := WF fn_integer_byWord (bodyOf PG fn_integer_byWord 0)) (S := (I_integer_byWord_0 n v b)) (q0 := 12) (c0 := repCells [uN 0] n) (n0 := (L_integer_byWord_0 n v b 0 (IntKind.i64.wrap ((n : Int) - (1 : Int))) ([]))) (by kernel_rfl) (by kernel_rfl) (by kernel_rfl) (rep_nn _)

theorem r_integer_byWord_0_0 {T : Tab} (hio : TO T) (n v : Nat) (b t7 t8 : Int) (cs12 : List MV) (h0 : (bN (decide (t8 ≥ (0 : Int))) : MV) = .sc (.bool true)) (h1 : (0 : Int) ≤ t8 ∧ t8 < ((n : Nat) : Int) ∧ ((dg n v) : List MV) ≠ []) (h2 : takeAs false 1 ((dg n v).drop (t8.toNat * 1)) = some (uN ((dgt v t8.toNat : Nat) : Int))) (h3 : (IntKind.u64.wrap b) ≠ 0) (h4 : (IntKind.u64.wrap b) ≠ 0) (h5 : (0 : Int) ≤ t8 ∧ t8 < ((n : Nat) : Int)) (h6 : 1 = 1 ∧ false = false ∧ 1 = 1 ∧ (0 + (t8.toNat * 1)) + 1 ≤ cs12.length) (hn12 : NoNames (putCells cs12 (0 + (t8.toNat * 1)) [uN (IntKind.u32.wrap (IntKind.u64.wrap ((IntKind.u64.wrap ((IntKind.u64.wrap (t7 * (1000000000 : Int))) + (IntKind.u64.wrap ((dgt v t8.toNat : Nat) : Int)))).tdiv (IntKind.u64.wrap b))))])) : ∃ s_, gC T fn_integer_byWord 0 (L_integer_byWord_0 n v b t7 t8 cs12) = some (.normal, s_) ∧ nM fn_integer_byWord 0 s_ = (L_integer_byWord_0 n v b ((IntKind.u64.wrap ((IntKind.u64.wrap (t7 * (1000000000 : Int))) + (IntKind.u64.wrap ((dgt v t8.toNat : Nat) : Int)))).tmod (IntKind.u64.wrap b)) (IntKind.i64.wrap (t8 - (1 : Int))) (putCells cs12 (0 + (t8.toNat * 1)) [uN (IntKind.u32.wrap (IntKind.u64.wrap ((IntKind.u64.wrap ((IntKind.u64.wrap (t7 * (1000000000 : Int))) + (IntKind.u64.wrap ((dgt v t8.toNat : Nat) : Int)))).tdiv (IntKind.u64.wrap b))))])) :=
  rd_fill hio (h := true) (orc := [.br true, .val (uN ((dgt v t8.toNat : Nat) : Int))]) (q0 := 12) (c0 := putCells cs12 (0 + (t8.toNat * 1)) [uN (IntKind.u32.wrap (IntKind.u64.wrap ((IntKind.u64.wrap ((IntKind.u64.wrap (t7 * (1000000000 : Int))) + (IntKind.u64.wrap ((dgt v t8.toNat : Nat) : Int)))).tdiv (IntKind.u64.wrap b))))]) (n0 := (L_integer_byWord_0 n v b ((IntKind.u64.wrap ((IntKind.u64.wrap (t7 * (1000000000 : Int))) + (IntKind.u64.wrap ((dgt v t8.toNat : Nat) : Int)))).tmod (IntKind.u64.wrap b)) (IntKind.i64.wrap (t8 - (1 : Int))) ([]))) (by kernel_rfl) (owc h0 (owc h1 (owc h2 (owc h3 (owc h4 (owc h5 (ow1 h6))))))) (by kernel_rfl) (by kernel_rfl) (by kernel_rfl) hn12

noncomputable def X_integer_byWord_0_1 (n v : Nat) (b t7 t8 : Int) (cs12 : List MV) : St := xr true fn_integer_byWord 0 (L_integer_byWord_0 n v b t7 t8 cs12) [.br false]

theorem r_integer_byWord_0_1 {T : Tab} (hio : TO T) (n v : Nat) (b t7 t8 : Int) (cs12 : List MV) (h0 : (bN (decide (t8 ≥ (0 : Int))) : MV) = .sc (.bool false)) : gC T fn_integer_byWord 0 (L_integer_byWord_0 n v b t7 t8 cs12) = some (.exit 0, (X_integer_byWord_0_1 n v b t7 t8 cs12)) :=
  ex_ok hio (h := true) (orc := [.br false]) (by kernel_rfl) (ow1 h0)

theorem p_integer_byWord_x0_0 {T : Tab} (hio : TO T) (n v : Nat) (b t7 t8 : Int) (cs12 : List MV) (h0 : (0 : Int) ≤ (n : Int) ∧ (n : Int) ≤ (n : Int) ∧ ((4 : Nat) : Int) * (n : Int) ≤ 281474976710656 ∧ (n : Int) ≤ 4611686018427387904) (h1 : lp T fn_integer_byWord 0 (L_integer_byWord_0 n v b 0 (IntKind.i64.wrap ((n : Int) - (1 : Int))) (repCells [uN 0] n)) (.exit 0) (X_integer_byWord_0_1 n v b t7 t8 cs12)) (h2 : 1 = 1 ∧ 1 ≠ 0 ∧ 0 + (n * 1) ≤ cs12.length ∧ Plain (cs12.take (n * 1))) (h3 : 7 = 7 ∧ 7 ≠ 0 ∧ 1 ≤ 1 ∧ Plain ([uN (IntKind.u32.wrap t7)])) : evalBody PG T FUEL (ioF fn_integer_byWord) fn_integer_byWord [MV.fs n none (dg n v), uN b] = some (MV.tup [MV.fs n (some n) (cs12.take (n * 1)), MV.fs 1 (some 1) [uN (IntKind.u32.wrap t7)]], []) :=
  xBody_io (hard := true) hio (orc := [.loop (.exit 0) (X_integer_byWord_0_1 n v b t7 t8 cs12)]) (by kernel_rfl) (owc h0 (owc (lpI (i_integer_byWord_0 n v b) h1) (owc h2 (ow1 h3))))

end Go.Proofs.YtkeelkeoijemiaaGreat.Ev

namespace Go.Proofs.YtkeelkeoijemiaaGreat.Ev
open Go Go.RowKit
set_option linter.unusedVariables false
set_option linter.unusedSimpArgs false

theorem put_num {N A p x : Nat} (hp : p < N) (hA : A < BB ^ N) (hx : x < BB) :
    ∃ A', putCells (dg N A) p [uN (x : Nat)] = dg N A' ∧ A' + BB ^ p * dgt A p = A + BB ^ p * x ∧ A' / BB ^ (p + 1) = A / BB ^ (p + 1) ∧ A' < BB ^ N := by
  have hpow := BBp p
  have hm := Nat.mod_lt A hpow
  refine ⟨A % BB ^ p + BB ^ p * (x + BB * (A / BB ^ (p + 1))), dg_put1 hp hA hx, ?_, ?_, ?_⟩
  · have e1 : A = A % BB ^ p + BB ^ p * (dgt A p + BB * (A / BB ^ (p + 1))) := by
      have h1 := (Nat.mod_add_div A (BB ^ p)).symm
      have h2 : A / BB ^ p = dgt A p + BB * (A / BB ^ (p + 1)) := by
        unfold dgt
        rw [Nat.pow_succ, ← Nat.div_div_eq_div_mul]
        exact (Nat.mod_add_div _ _).symm
      rw [← h2]; exact h1
    rw [Nat.mul_add] at e1 ⊢
    omega
  · have h1 : (A % BB ^ p + BB ^ p * (x + BB * (A / BB ^ (p + 1)))) / BB ^ p = x + BB * (A / BB ^ (p + 1)) := by
      rw [Nat.add_mul_div_left _ _ hpow, Nat.div_eq_of_lt hm, Nat.zero_add]
    rw [Nat.pow_succ, ← Nat.div_div_eq_div_mul, ← Nat.pow_succ, h1, Nat.add_mul_div_left _ _ BB_pos, Nat.div_eq_of_lt hx, Nat.zero_add]
  · have h3 : A / BB ^ (p + 1) < BB ^ (N - (p + 1)) := (Nat.div_lt_iff_lt_mul (BBp _)).2 (by rw [← Nat.pow_add, Nat.sub_add_cancel (by omega)]; exact hA)
    have h4 : x + BB * (A / BB ^ (p + 1)) < BB ^ (N - p) := by
      have hpN : BB ^ (N - p) = BB * BB ^ (N - (p + 1)) := by rw [← Nat.pow_succ']; congr 1; omega
      rw [hpN]
      have : BB * (A / BB ^ (p + 1) + 1) ≤ BB * BB ^ (N - (p + 1)) := Nat.mul_le_mul_left _ h3
      rw [Nat.mul_add] at this
      omega
    have h5 : BB ^ p * (x + BB * (A / BB ^ (p + 1)) + 1) ≤ BB ^ p * BB ^ (N - p) := Nat.mul_le_mul_left _ h4
    rw [← Nat.pow_add, Nat.add_sub_of_le (by omega), Nat.mul_add (BB ^ p) _ 1] at h5
    omega

theorem modB (t : Nat) : ((t : Nat) : Int) % 1000000000 = ((t % BB : Nat) : Int) := by show _ = ((t % 1000000000 : Nat) : Int); omega
theorem divB (t : Nat) : ((t : Nat) : Int) / 1000000000 = ((t / BB : Nat) : Int) := by show _ = ((t / 1000000000 : Nat) : Int); omega
theorem div_up {A P p : Nat} (h : A / BB ^ p = P / BB ^ p) : A / BB ^ (p + 1) = P / BB ^ (p + 1) := by
  rw [Nat.pow_succ, ← Nat.div_div_eq_div_mul, ← Nat.div_div_eq_div_mul, h]

/-- The inner loop of times: a digit times a number is added. -/
theorem times_in {T : Tab} (hio : TO T) {n v m w i P : Nat} (hnm : n + m < 100000) (hi : i < n) (hP : P < BB ^ (i + m)) :
    ∃ A c, A + BB ^ (i + m) * c = P + BB ^ i * (dgt v i * (w % BB ^ m)) ∧ A < BB ^ (i + m) ∧ c < BB ∧
      lp T fn_integer_times 1 (L_integer_times_1 n v m w (dg (n + m) P) (dg (n + m) P) (i : Nat) 0 0 (jI [((dgt v ((i : Nat) : Int).toNat : Nat) : Int)]))
        (.exit 2) (X_integer_times_1_1 n v m w (dg (n + m) P) (dg (n + m) A) (i : Nat) (c : Nat) (m : Nat) (jI [((dgt v ((i : Nat) : Int).toNat : Nat) : Int)])) := by
  obtain ⟨k, hk⟩ : ∃ k, k = jI [((dgt v ((i : Nat) : Int).toNat : Nat) : Int)] := ⟨_, rfl⟩
  have hk0 : k 0 = ((dgt v i : Nat) : Int) := by rw [hk, Int.toNat_natCast]; rfl
  rw [← hk]
  have hPN : P < BB ^ (n + m) := Nat.lt_of_lt_of_le hP (Nat.pow_le_pow_right BB_pos (by omega))
  have eN : (IntKind.i64.wrap ((n : Int) + (m : Int))).toNat = n + m := by rw [i64s (by omega)]; omega
  obtain ⟨S, ⟨A, c, h1, h2, h3, h4, rfl⟩, hl⟩ := loop_to (G := gC T fn_integer_times 1) (nm := nM fn_integer_times 1)
    (fun q S => ∃ (A c : Nat), A + BB ^ (i + q) * c = P + BB ^ i * (dgt v i * (w % BB ^ q)) ∧ A / BB ^ (i + q) = P / BB ^ (i + q) ∧ A < BB ^ (n + m) ∧ c < BB ∧
      S = L_integer_times_1 n v m w (dg (n + m) P) (dg (n + m) A) (i : Nat) (c : Nat) (q : Nat) k) m FUEL (L_integer_times_1 n v m w (dg (n + m) P) (dg (n + m) P) (i : Nat) 0 0 k) (by
      rintro q S hq ⟨A, c, h1, h2, h3, h4, rfl⟩
      have d1 := dgt_lt v i
      have d2 := dgt_lt w q
      have d3 := dgt_lt A (i + q)
      have eB : BB = 1000000000 := rfl
      have hxy : dgt v i * dgt w q ≤ 999999999 * 999999999 := Nat.mul_le_mul (by omega) (by omega)
      have ewq : IntKind.i64.wrap (((i : Nat) : Int) + ((q : Nat) : Int)) = ((i + q : Nat) : Int) := by rw [i64s (by omega)]; omega
      have ew1 : IntKind.i64.wrap (((q : Nat) : Int) + 1) = ((q + 1 : Nat) : Int) := by rw [i64s (by omega)]; omega
      obtain ⟨t, ht⟩ : ∃ t, t = dgt A (i + q) + dgt v i * dgt w q + c := ⟨_, rfl⟩
      have et : IntKind.u64.wrap ((IntKind.u64.wrap ((IntKind.u64.wrap ((dgt A (i + q) : Nat) : Int)) + (IntKind.u64.wrap ((IntKind.u64.wrap (k 0)) * (IntKind.u64.wrap ((dgt w ((q : Nat) : Int).toNat : Nat) : Int)))))) + ((c : Nat) : Int)) = ((t : Nat) : Int) := by
        rw [hk0, Int.toNat_natCast, u64s (x := ((dgt v i : Nat) : Int)) (by omega), u64s (x := ((dgt w q : Nat) : Int)) (by omega), ← Int.natCast_mul, u64s (x := ((dgt v i * dgt w q : Nat) : Int)) (by omega), u64s (x := ((dgt A (i + q) : Nat) : Int)) (by omega),
          u64s (x := ((dgt A (i + q) : Nat) : Int) + ((dgt v i * dgt w q : Nat) : Int)) (by omega), u64s (by omega)]
        omega
      have etm : IntKind.u32.wrap (((t : Nat) : Int).tmod (1000000000 : Int)) = ((t % BB : Nat) : Int) := by
        rw [Int.tmod_eq_emod_of_nonneg (by omega), u32s (by omega), modB]
      have etd : IntKind.u64.wrap (((t : Nat) : Int).tdiv (1000000000 : Int)) = ((t / BB : Nat) : Int) := by
        rw [Int.tdiv_eq_ediv_of_nonneg (by omega), u64s (by omega), divB]
      obtain ⟨A', hp, hA1, hA2, hA3⟩ := put_num (p := i + q) (x := t % BB) (show i + q < n + m by omega) h3 (Nat.mod_lt _ BB_pos)
      have hix : (0 : Int) ≤ (IntKind.i64.wrap (((i : Nat) : Int) + ((q : Nat) : Int))) ∧ (IntKind.i64.wrap (((i : Nat) : Int) + ((q : Nat) : Int))) < (((IntKind.i64.wrap ((n : Int) + (m : Int))).toNat : Nat) : Int) := by rw [ewq, eN]; omega
      have epos : 0 + (((IntKind.i64.wrap (((i : Nat) : Int) + ((q : Nat) : Int))).toNat) * 1) = i + q := by rw [ewq, Int.toNat_natCast]; omega
      obtain ⟨s', e1, e2⟩ := r_integer_times_1_0 hio n v m w (dg (n + m) P) (dg (n + m) A) (i : Nat) (c : Nat) (q : Nat) ((dgt A (i + q) : Nat) : Int) k (sc_b (decide_eq_true (by omega))) (dix hq) (dgi hq) hix (by rw [epos]; exact dg_at' (by omega)) (by decide) (by decide) hix ⟨rfl, rfl, rfl, by rw [epos, dg_len]; omega⟩
        (by rw [et, etm, epos, hp]; exact dg_nn _ _)
      rw [et, etm, etd, epos, hp, ew1] at e2
      refine ⟨s', e1, A', t / BB, ?_, ?_, hA3, ?_, e2⟩
      · have hsp := dgt_split w q
        have hdm := Nat.mod_add_div t BB
        have hpq : BB ^ (i + (q + 1)) = BB ^ (i + q) * BB := Nat.pow_succ ..
        have hpi : BB ^ (i + q) = BB ^ i * BB ^ q := Nat.pow_add ..
        rw [hsp, hpq, Nat.mul_assoc]
        have g1 : BB ^ (i + q) * (t % BB) + BB ^ (i + q) * (BB * (t / BB)) = BB ^ (i + q) * t := by rw [← Nat.mul_add, hdm]
        have g2 : BB ^ (i + q) * t = BB ^ (i + q) * dgt A (i + q) + BB ^ (i + q) * (dgt v i * dgt w q) + BB ^ (i + q) * c := by rw [ht, Nat.mul_add, Nat.mul_add]
        have g3 : BB ^ i * (dgt v i * (w % BB ^ q + BB ^ q * dgt w q)) = BB ^ i * (dgt v i * (w % BB ^ q)) + BB ^ (i + q) * (dgt v i * dgt w q) := by
          rw [hpi, Nat.mul_add, Nat.mul_add, show BB ^ i * (dgt v i * (BB ^ q * dgt w q)) = BB ^ i * BB ^ q * (dgt v i * dgt w q) by simp only [Nat.mul_assoc, Nat.mul_left_comm]]
        rw [g3]
        omega
      · rw [← Nat.add_assoc, hA2]; exact div_up h2
      · rw [ht]
        refine (Nat.div_lt_iff_lt_mul BB_pos).2 ?_
        rw [eB]; omega) (by
      refine ⟨P, 0, ?_, rfl, hPN, BB_pos, rfl⟩
      simp [Nat.mod_one]) (by unfold FUEL; omega)
  have hA0 : A / BB ^ (i + m) = 0 := by rw [h2]; exact Nat.div_eq_of_lt hP
  exact ⟨A, c, h1, (Nat.div_eq_zero_iff_lt (BBp _)).1 hA0, h4, hl _ _ (r_integer_times_1_1 hio n v m w (dg (n + m) P) (dg (n + m) A) (i : Nat) (c : Nat) (m : Nat) k (sc_b (decide_eq_false (by omega)))) (by simp)⟩

theorem c_integer_times {q : Nat} (hq : 0 < q) {v w n m : Nat} {c d : Option Nat} (hv : v < BB ^ n) (hw : w < BB ^ m) (hnm : n + m < 100000) :
    (TU q).call fn_integer_times [.fs n c (dg n v), .fs m d (dg m w)] = some (.fs (n + m) (some (n + m)) (dg (n + m) (v * w)), []) := by
  have hio := TU_io (q - 1)
  have eN : IntKind.i64.wrap ((n : Int) + (m : Int)) = ((n + m : Nat) : Int) := by rw [i64s (by omega)]; omega
  obtain ⟨S, rfl, hl⟩ := loop_to (G := gC (TU (q - 1)) fn_integer_times 0) (nm := nM fn_integer_times 0)
    (fun i S => S = L_integer_times_0 n v m w (dg (n + m) (v % BB ^ i * w)) (i : Nat)) n FUEL (L_integer_times_0 n v m w (repCells [uN 0] ((IntKind.i64.wrap ((n : Int) + (m : Int))).toNat)) 0) (by
      rintro i S hi rfl
      have hP : v % BB ^ i * w < BB ^ (i + m) := by
        rw [Nat.pow_add]
        exact Nat.mul_lt_mul_of_le_of_lt (Nat.le_of_lt (Nat.mod_lt _ (BBp i))) hw (BBp i)
      obtain ⟨A, c, h1, h2, h3, h4⟩ := times_in hio (v := v) (w := w) hnm hi hP
      rw [Nat.mod_eq_of_lt hw] at h1
      have ewm : IntKind.i64.wrap (((i : Nat) : Int) + ((m : Nat) : Int)) = ((i + m : Nat) : Int) := by rw [i64s (by omega)]; omega
      have ew1 : IntKind.i64.wrap (((i : Nat) : Int) + 1) = ((i + 1 : Nat) : Int) := by rw [i64s (by omega)]; omega
      have eB : BB = 1000000000 := rfl
      have ec : IntKind.u32.wrap ((c : Nat) : Int) = ((c : Nat) : Int) := u32s (by omega)
      have hAN : A < BB ^ (n + m) := Nat.lt_of_lt_of_le h2 (Nat.pow_le_pow_right BB_pos (by omega))
      obtain ⟨A', hp, hA1, hA2, hA3⟩ := put_num (p := i + m) (x := c) (show i + m < n + m by omega) hAN h3
      have epos : 0 + (((IntKind.i64.wrap (((i : Nat) : Int) + ((m : Nat) : Int))).toNat) * 1) = i + m := by rw [ewm, Int.toNat_natCast]; omega
      have hix : (0 : Int) ≤ (IntKind.i64.wrap (((i : Nat) : Int) + ((m : Nat) : Int))) ∧ (IntKind.i64.wrap (((i : Nat) : Int) + ((m : Nat) : Int))) < (((IntKind.i64.wrap ((n : Int) + (m : Int))).toNat : Nat) : Int) := by rw [ewm, eN]; omega
      have eA : A' = v % BB ^ (i + 1) * w := by
        have hd : dgt A (i + m) = 0 := dgt_high h2 (Nat.le_refl _)
        rw [hd, Nat.mul_zero, Nat.add_zero, h1] at hA1
        rw [hA1, dgt_split, Nat.add_mul, Nat.mul_assoc]
      obtain ⟨s', e1, e2⟩ := r_integer_times_0_0 hio n v m w (dg (n + m) (v % BB ^ i * w)) (dg (n + m) A) (i : Nat) (c : Nat) (m : Nat) _ (sc_b (decide_eq_true (by omega))) (dix hi) (dgi hi) h4 (dg_nn _ _) hix ⟨rfl, rfl, rfl, by rw [epos, dg_len]; omega⟩ (by rw [ec, epos, hp]; exact dg_nn _ _)
      rw [ec, epos, hp, ew1, eA] at e2
      exact ⟨s', e1, e2⟩) (by rw [eN, Int.toNat_natCast, rep_dg, Nat.pow_zero, Nat.mod_one, Nat.zero_mul]; rfl) (by unfold FUEL; omega)
  rw [Nat.mod_eq_of_lt hv] at hl
  have hx := hl _ _ (r_integer_times_0_1 hio n v m w _ _ (sc_b (decide_eq_false (by omega)))) (by simp)
  refine TU_callk hq rfl rfl (args' := [.fs n none (dg n v), .fs m none (dg m w)]) (by simp [uncaps, uncap]) ((p_integer_times_x0_0 hio n v m w _ _ (by rw [eN]; omega) hx ⟨rfl, by decide, by rw [eN, Int.toNat_natCast, dg_len]; omega, by rw [eN, Int.toNat_natCast, Nat.mul_one, dg_take (Nat.le_refl _)]; exact dg_pl (by omega)⟩).trans ?_)
  rw [eN, Int.toNat_natCast, Nat.mul_one, dg_take (Nat.le_refl _)]
end Go.Proofs.YtkeelkeoijemiaaGreat.Ev

namespace Go.Proofs.YtkeelkeoijemiaaGreat.Ev
open Go Go.RowKit
set_option linter.unusedVariables false
set_option linter.unusedSimpArgs false

theorem c_integer_byWord {q : Nat} (hq : 0 < q) {v n b : Nat} {c : Option Nat} (hv : v < BB ^ n) (hn : n < 100000) (hb : 0 < b) (hb2 : b ≤ BB) :
    (TU q).call fn_integer_byWord [.fs n c (dg n v), uN (b : Nat)] = some (.tup [.fs n none (dg n (v / b)), .fs 1 none (dg 1 (v % b))], []) := by
  have hio := TU_io (q - 1)
  have eB : BB = 1000000000 := rfl
  have eb : IntKind.u64.wrap ((b : Nat) : Int) = ((b : Nat) : Int) := u64s (by omega)
  obtain ⟨S, rfl, hl⟩ := loop_to (G := gC (TU (q - 1)) fn_integer_byWord 0) (nm := nM fn_integer_byWord 0)
    (fun i S => S = L_integer_byWord_0 n v (b : Nat) ((v / BB ^ (n - i) % b : Nat) : Int) (((n - i : Nat) : Int) - 1) (dg n (BB ^ (n - i) * (v / BB ^ (n - i) / b)))) n FUEL (L_integer_byWord_0 n v (b : Nat) 0 (IntKind.i64.wrap ((n : Int) - (1 : Int))) (repCells [uN 0] n)) (by
      rintro i S hi rfl
      obtain ⟨p, hp⟩ : ∃ p, p = n - (i + 1) := ⟨_, rfl⟩
      rw [show n - i = p + 1 by omega, ← hp]
      have e1 : (((p + 1 : Nat) : Int) - 1) = ((p : Nat) : Int) := by omega
      rw [e1]
      have hpn : p < n := by omega
      have d1 := dgt_lt v p
      obtain ⟨V, hV⟩ : ∃ V, V = v / BB ^ (p + 1) := ⟨_, rfl⟩
      have hVp : v / BB ^ p = BB * V + dgt v p := by
        rw [hV, Nat.pow_succ, ← Nat.div_div_eq_div_mul]; unfold dgt; exact (Nat.div_add_mod _ _).symm
      rw [← hV]
      have hR := Nat.mod_lt V hb
      obtain ⟨t, ht⟩ : ∃ t, t = V % b * BB + dgt v p := ⟨_, rfl⟩
      have hRB : V % b * BB ≤ (BB - 1) * BB := Nat.mul_le_mul_right _ (by omega)
      have htb : t < BB * b := by
        have : (V % b + 1) * BB ≤ b * BB := Nat.mul_le_mul_right _ hR
        rw [Nat.add_mul] at this
        rw [Nat.mul_comm BB b]
        omega
      have hRI : (((V % b : Nat) : Int) * (1000000000 : Int)) = ((V % b * BB : Nat) : Int) := by rw [eB]; omega
      have et : IntKind.u64.wrap ((IntKind.u64.wrap (((V % b : Nat) : Int) * (1000000000 : Int))) + (IntKind.u64.wrap ((dgt v ((p : Nat) : Int).toNat : Nat) : Int))) = ((t : Nat) : Int) := by
        rw [hRI, Int.toNat_natCast, u64s (x := ((V % b * BB : Nat) : Int)) (by rw [eB] at *; omega), u64s (x := ((dgt v p : Nat) : Int)) (by omega), u64s (by rw [eB] at *; omega), ht]; omega
      have htq : t / b < BB := (Nat.div_lt_iff_lt_mul hb).2 (by omega)
      have eq_ : IntKind.u32.wrap (IntKind.u64.wrap (((t : Nat) : Int).tdiv (IntKind.u64.wrap ((b : Nat) : Int)))) = ((t / b : Nat) : Int) := by
        rw [eb, Int.tdiv_eq_ediv_of_nonneg (by omega), ← Int.natCast_ediv]
        generalize t / b = qd at htq ⊢
        rw [u64s (by omega), u32s (by omega)]
      have em : ((t : Nat) : Int).tmod (IntKind.u64.wrap ((b : Nat) : Int)) = ((t % b : Nat) : Int) := by
        rw [eb, Int.tmod_eq_emod_of_nonneg (by omega), ← Int.natCast_emod]
      have hAn : BB ^ (p + 1) * (V / b) < BB ^ n := by
        have h1 : BB ^ (p + 1) * (V / b) ≤ BB ^ (p + 1) * V := Nat.mul_le_mul_left _ (Nat.div_le_self _ _)
        have h2 : BB ^ (p + 1) * V ≤ v := by rw [hV]; exact Nat.mul_div_le _ _
        omega
      obtain ⟨A', hpu, hA1, _, _⟩ := put_num (p := p) (x := t / b) hpn hAn htq
      have hd0 : dgt (BB ^ (p + 1) * (V / b)) p = 0 := by
        unfold dgt
        rw [Nat.pow_succ, Nat.mul_assoc, Nat.mul_div_cancel_left _ (BBp p), Nat.mul_mod_right]
      have hA : A' = BB ^ p * ((BB * V + dgt v p) / b) := by
        rw [hd0, Nat.mul_zero, Nat.add_zero] at hA1
        rw [hA1, Nat.pow_succ, Nat.mul_assoc, ← Nat.mul_add]
        congr 1
        have hVd := Nat.div_add_mod V b
        have : BB * V + dgt v p = t + b * (BB * (V / b)) := by
          rw [ht]
          have h3 : BB * V = BB * (b * (V / b)) + BB * (V % b) := by rw [← Nat.mul_add, hVd]
          rw [h3, Nat.mul_left_comm BB b, Nat.mul_comm BB (V % b)]; omega
        rw [this, Nat.add_mul_div_left _ _ hb, Nat.add_comm]
      have htm : (BB * V + dgt v p) % b = t % b := by
        have hVd := Nat.div_add_mod V b
        have : BB * V + dgt v p = t + b * (BB * (V / b)) := by
          rw [ht]
          have h3 : BB * V = BB * (b * (V / b)) + BB * (V % b) := by rw [← Nat.mul_add, hVd]
          rw [h3, Nat.mul_left_comm BB b, Nat.mul_comm BB (V % b)]; omega
        rw [this, Nat.add_mul_mod_self_left]
      obtain ⟨s', g1, g2⟩ := r_integer_byWord_0_0 hio n v (b : Nat) ((V % b : Nat) : Int) (p : Nat) (dg n (BB ^ (p + 1) * (V / b))) (sc_b (decide_eq_true (by omega))) (dix hpn) (dgi hpn) (by rw [eb]; omega) (by rw [eb]; omega) (by omega) ⟨rfl, rfl, rfl, by rw [pos0, dg_len]; omega⟩
        (by rw [et, eq_, pos0, hpu]; exact dg_nn _ _)
      rw [et, eq_, pos0, hpu, em, hA, i64s (by omega)] at g2
      rw [hVp, htm]
      exact ⟨s', g1, g2⟩) (by
      rw [rep_dg, i64s (by omega)]
      have hz : v / BB ^ (n - 0) = 0 := Nat.div_eq_of_lt hv
      rw [hz, Nat.zero_mod, Nat.zero_div, Nat.mul_zero]
      rfl) (by unfold FUEL; omega)
  rw [Nat.sub_self, Nat.pow_zero, Nat.div_one, Nat.one_mul] at hl
  have hx := hl _ _ (r_integer_byWord_0_1 hio n v _ _ _ _ (sc_b (decide_eq_false (by omega)))) (by simp)
  have hr := Nat.mod_lt v hb
  have eu : IntKind.u32.wrap ((v % b : Nat) : Int) = ((v % b : Nat) : Int) := u32s (by omega)
  refine TU_call hq rfl rfl (args' := [.fs n none (dg n v), uN (b : Nat)]) (by simp [uncaps, uncap]) (p_integer_byWord_x0_0 hio n v _ _ _ _ ⟨by omega, by omega, by omega, by omega⟩ hx ⟨rfl, by decide, by rw [dg_len]; omega, by rw [Nat.mul_one, dg_take (Nat.le_refl _)]; exact dg_pl (by omega)⟩ ⟨rfl, by decide, by decide, (Leaves.nil.cons rfl).plain (by simp)⟩) ?_
  rw [eu, dg_one _ (by omega), Nat.mul_one, dg_take (Nat.le_refl _)]
  simp [uncap, uncaps]

theorem sgz_self (z : Int) : sgz (ng z) z.natAbs = z := by
  unfold sgz ng
  split <;> rename_i h <;> simp at h <;> omega
theorem uncap_iM (z : Int) : uncap (iM z) = iM z := by simp [iM, iC, cz, uncap, uncaps]
theorem uncaps_iM (z : Int) (l : List MV) : uncaps (iM z :: l) = iM z :: uncaps l := by rw [uncaps, uncap_iM]

theorem dg3 (x : Nat) (h : x < 18446744073709551616) : dg 3 x = [uN ((x % BB : Nat) : Int), uN ((x / BB % BB : Nat) : Int), uN ((x / BB / BB : Nat) : Int)] := by
  have e : x / BB / BB < BB := by
    rw [Nat.div_div_eq_div_mul, Nat.div_lt_iff_lt_mul (by decide)]
    have : BB * (BB * BB) = 1000000000000000000000000000 := by decide
    omega
  simp only [dg, dgt, List.nil_append, List.cons_append, Nat.pow_zero, Nat.div_one, Nat.pow_one]
  rw [show BB ^ 2 = BB * BB by rw [Nat.pow_succ, Nat.pow_one], ← Nat.div_div_eq_div_mul, Nat.mod_eq_of_lt e]
theorem c_integer_split {q : Nat} (hq : 0 < q) {x : Nat} (h : x < 18446744073709551616) : (TU q).call fn_integer_split [wN (x : Nat)] = some (.fs 3 none (dg 3 x), []) := by
  have hio := TU_io (q - 1)
  have eB : BB = 1000000000 := rfl
  refine TU_call hq rfl rfl (args' := [wN (x : Nat)]) rfl (p_integer_split_0 hio _ (by decide) (by decide) (by decide) (by decide) (by decide)) ?_
  have hm := Nat.mod_lt x BB_pos
  have hm2 := Nat.mod_lt (x / BB) BB_pos
  have hd : x / BB ≤ x := Nat.div_le_self _ _
  have hd2 : x / BB / BB < BB := by
    rw [Nat.div_div_eq_div_mul, Nat.div_lt_iff_lt_mul (by decide)]
    have : BB * (BB * BB) = 1000000000000000000000000000 := by decide
    omega
  have e1 : ((x : Nat) : Int).tmod 1000000000 = ((x % BB : Nat) : Int) := by rw [Int.tmod_eq_emod_of_nonneg (by omega), modB]
  have e2 : IntKind.u64.wrap (((x : Nat) : Int).tdiv 1000000000) = ((x / BB : Nat) : Int) := by
    rw [Int.tdiv_eq_ediv_of_nonneg (by omega), divB]
    generalize x / BB = y at hd ⊢
    exact u64s (by omega)
  have e3 : ((x / BB : Nat) : Int).tmod 1000000000 = ((x / BB % BB : Nat) : Int) := by rw [Int.tmod_eq_emod_of_nonneg (Int.natCast_nonneg _), modB]
  have e4 : IntKind.u64.wrap (((x / BB : Nat) : Int).tdiv 1000000000) = ((x / BB / BB : Nat) : Int) := by
    rw [Int.tdiv_eq_ediv_of_nonneg (Int.natCast_nonneg _), divB]
    generalize x / BB / BB = y at hd2 ⊢
    exact u64s (by omega)
  rw [e1, e2, e3, e4, dg3 x h]
  generalize x / BB / BB = y at hd2 ⊢
  generalize x / BB % BB = y2 at hm2 ⊢
  generalize x % BB = y3 at hm ⊢
  rw [u32s (by omega), u32s (by omega), u32s (by omega)]
  simp [uncap, uncaps]

theorem BB3 : (18446744073709551616 : Nat) ≤ BB ^ 3 := by decide
theorem c_integer_FromInt64 {q : Nat} (hq : 1 < q) {x : Int} (h : -9223372036854775808 ≤ x ∧ x ≤ 9223372036854775807) : (TU q).call fn_integer_FromInt64 [iN x] = some (iM x, []) := by
  have hio := TU_io (q - 1)
  by_cases h0 : x < 0
  · have e1 : IntKind.u64.wrap ((0 : Int) - (IntKind.u64.wrap x)) = ((x.natAbs : Nat) : Int) := by simp only [IntKind.wrap_u64]; omega
    have g := p_integer_FromInt64_0 hio x (sc_b (decide_eq_true h0)) (by rw [e1, Int.toNat_natCast]; exact c_integer_split (by omega) (by omega)) (by rw [e1, Int.toNat_natCast]; exact c_integer_signed (by omega) (Nat.lt_of_lt_of_le (by omega) BB3) (by omega))
    rw [e1, Int.toNat_natCast, show sgz (decide (x < 0)) x.natAbs = x from sgz_self x] at g
    exact TU_call (by omega) rfl rfl (args' := [iN x]) rfl g (uncap_iM x)
  · have e1 : IntKind.u64.wrap x = ((x.natAbs : Nat) : Int) := by simp only [IntKind.wrap_u64]; omega
    have g := p_integer_FromInt64_1 hio x (sc_b (decide_eq_false h0)) (by rw [e1, Int.toNat_natCast]; exact c_integer_split (by omega) (by omega)) (by rw [e1, Int.toNat_natCast]; exact c_integer_signed (by omega) (Nat.lt_of_lt_of_le (by omega) BB3) (by omega))
    rw [e1, Int.toNat_natCast, show sgz (decide (x < 0)) x.natAbs = x from sgz_self x] at g
    exact TU_call (by omega) rfl rfl (args' := [iN x]) rfl g (uncap_iM x)

/-- The sign of a difference. -/
def cmpI (a b : Int) : Int := if a < b then -1 else if b < a then 1 else 0
theorem nz_pos {z : Int} : 0 < nz z ↔ z ≠ 0 := by
  constructor
  · rintro h rfl; exact absurd h (by decide)
  · intro h; exact nl_pos (by omega)
theorem c_integer_Sign {q : Nat} (hq : 0 < q) (a : Int) : (TU q).call fn_integer_Sign [iM a] = some (iN (cmpI a 0), []) := by
  have hio := TU_io (q - 1)
  refine TU_call hq rfl rfl (args' := [iM a]) (by rw [uncaps_iM]; rfl) (r := iN (cmpI a 0)) ?_ rfl
  unfold cmpI
  by_cases h : a < 0
  · rw [if_pos h]
    exact p_integer_Sign_0 hio a (sc_b (decide_eq_true h))
  · rw [if_neg h]
    by_cases h2 : 0 < a
    · rw [if_pos h2]
      exact p_integer_Sign_1 hio a (sc_b (decide_eq_false h)) (sc_b (decide_eq_true (by have := (nz_pos (z := a)).2 (by omega); omega)))
    · rw [if_neg h2]
      exact p_integer_Sign_2 hio a (sc_b (decide_eq_false h)) (sc_b (decide_eq_false (by have : a = 0 := by omega
                                                                                         subst this; decide)))
theorem c_integer_Cmp {q : Nat} (hq : 2 < q) {a b : Int} (ha : nz a < 100000) (hb : nz b < 100000) : (TU q).call fn_integer_Cmp [iM a, iM b] = some (iN (cmpI a b), []) := by
  have hio := TU_io (q - 1)
  refine TU_call (by omega) rfl rfl (args' := [iM a, iM b]) (by rw [uncaps_iM, uncaps_iM]; rfl) (r := iN (cmpI a b)) ?_ rfl
  have t1 : (TU (q - 1)).call fn_integer_compare [.fs (nz a) none (cz a), .fs (nz b) none (cz b)] = _ := c_integer_compare (by omega) (nl_lt _) ha (nl_lt _) hb
  have t2 : (TU (q - 1)).call fn_integer_compare [.fs (nz b) none (cz b), .fs (nz a) none (cz a)] = _ := c_integer_compare (by omega) (nl_lt _) hb (nl_lt _) ha
  by_cases h : a < 0 <;> by_cases h2 : b < 0
  · refine (p_integer_Cmp_1 hio a b (sc_b (by simp [ng, h, h2])) (sc_b (decide_eq_true h)) t2).trans ?_
    congr 2
    unfold cmpN cmpI
    split <;> split <;> (try split) <;> (try split) <;> first | rfl | (exfalso; omega)
  · refine (p_integer_Cmp_0 hio a b (sc_b (by simp [ng, h, h2])) (sc_b (decide_eq_true h))).trans ?_
    rw [cmpI, if_pos (by omega)]
  · refine (p_integer_Cmp_3 hio a b (sc_b (by simp [ng, h, h2])) (sc_b (decide_eq_false h))).trans ?_
    rw [cmpI, if_neg (by omega), if_pos (by omega)]
  · refine (p_integer_Cmp_2 hio a b (sc_b (by simp [ng, h, h2])) (sc_b (decide_eq_false h)) t1).trans ?_
    congr 2
    unfold cmpN cmpI
    split <;> split <;> (try split) <;> (try split) <;> first | rfl | (exfalso; omega)

theorem c_integer_Add {q : Nat} (hq : 2 < q) {a b : Int} (ha : nz a < 50000) (hb : nz b < 50000) : (TU q).call fn_integer_Add [iM a, iM b] = some (iM (a + b), []) := by
  have hio := TU_io (q - 1)
  have hp : nplus (nz a) (nz b) < 100000 := by unfold nplus; omega
  have hlt : a.natAbs + b.natAbs < BB ^ nplus (nz a) (nz b) := by
    have h1 : a.natAbs < BB ^ max (nz a) (nz b) := Nat.lt_of_lt_of_le (nl_lt _) (Nat.pow_le_pow_right BB_pos (Nat.le_max_left ..))
    have h2 : b.natAbs < BB ^ max (nz a) (nz b) := Nat.lt_of_lt_of_le (nl_lt _) (Nat.pow_le_pow_right BB_pos (Nat.le_max_right ..))
    unfold nplus
    rw [Nat.pow_succ]
    have := Nat.mul_le_mul_left (BB ^ max (nz a) (nz b)) (show 2 ≤ BB by decide)
    omega
  refine TU_call (by omega) rfl rfl (args' := [iM a, iM b]) (by rw [uncaps_iM, uncaps_iM]; rfl) (r := iM (a + b)) ?_ (uncap_iM _)
  have tc : (TU (q - 1)).call fn_integer_compare [.fs (nz a) none (cz a), .fs (nz b) none (cz b)] = _ := c_integer_compare (by omega) (nl_lt _) (by omega) (nl_lt _) (by omega)
  by_cases hs : ng a = ng b
  · refine (p_integer_Add_0 hio a b (sc_b (by simp [hs])) (by exact c_integer_plus (by omega) (nl_lt _) (by omega) (nl_lt _) (by omega)) (by exact c_integer_signed (by omega) hlt hp)).trans ?_
    have : sgz (ng a) (a.natAbs + b.natAbs) = a + b := by
      unfold ng at hs ⊢
      rw [decide_eq_decide] at hs
      unfold sgz
      split <;> rename_i h <;> simp at h <;> omega
    rw [this]
  · have hs' : ¬ (a < 0 ↔ b < 0) := fun h => hs (decide_eq_decide.2 h)
    by_cases hc : a.natAbs < b.natAbs
    · refine (p_integer_Add_1 hio a b (sc_b (by simpa using hs)) tc (sc_b (decide_eq_true (by rw [cmpN, if_pos hc]; omega))) (by exact c_integer_minus (by omega) (by omega) (nl_lt _) (by omega) (nl_lt _) (by omega)) (by exact c_integer_signed (by omega) (Nat.lt_of_le_of_lt (Nat.sub_le _ _) (nl_lt _)) (by omega))).trans ?_
      have : sgz (ng b) (b.natAbs - a.natAbs) = a + b := by
        unfold sgz ng
        split <;> rename_i h <;> simp at h <;> omega
      rw [this]
    · refine (p_integer_Add_2 hio a b (sc_b (by simpa using hs)) tc (sc_b (decide_eq_false (by rw [cmpN, if_neg hc]; split <;> omega))) (by exact c_integer_minus (by omega) (by omega) (nl_lt _) (by omega) (nl_lt _) (by omega)) (by exact c_integer_signed (by omega) (Nat.lt_of_le_of_lt (Nat.sub_le _ _) (nl_lt _)) (by omega))).trans ?_
      have : sgz (ng a) (a.natAbs - b.natAbs) = a + b := by
        unfold sgz ng
        split <;> rename_i h <;> simp at h <;> omega
      rw [this]
theorem c_integer_Mul {q : Nat} (hq : 1 < q) {a b : Int} (hab : nz a + nz b < 100000) : (TU q).call fn_integer_Mul [iM a, iM b] = some (iM (a * b), []) := by
  have hio := TU_io (q - 1)
  refine TU_call (by omega) rfl rfl (args' := [iM a, iM b]) (by rw [uncaps_iM, uncaps_iM]; rfl) (r := iM (a * b)) ?_ (uncap_iM _)
  have hlt : a.natAbs * b.natAbs < BB ^ (nz a + nz b) := by
    rw [Nat.pow_add]
    exact Nat.mul_lt_mul'' (nl_lt _) (nl_lt _)
  refine (p_integer_Mul_0 hio a b (by exact c_integer_times (by omega) (nl_lt _) (nl_lt _) hab) (by exact c_integer_signed (by omega) hlt hab)).trans ?_
  have : sgz (!((ng a) == (ng b))) (a.natAbs * b.natAbs) = a * b := by
    have e : a * b = sgz (!((ng a) == (ng b))) (a.natAbs * b.natAbs) := by
      conv => lhs; rw [← sgz_self a, ← sgz_self b]
      generalize a.natAbs = x
      generalize b.natAbs = y
      cases ng a <;> cases ng b <;> simp [sgz, Int.natCast_mul, Int.neg_mul, Int.mul_neg]
    exact e.symm
  rw [this]
theorem c_integer_Neg {q : Nat} (hq : 1 < q) {a : Int} (ha : nz a < 100000) : (TU q).call fn_integer_Neg [iM a] = some (iM (-a), []) := by
  have hio := TU_io (q - 1)
  refine TU_call (by omega) rfl rfl (args' := [iM a]) (by rw [uncaps_iM]; rfl) (r := iM (-a)) ?_ (uncap_iM _)
  have hcl : (cz a).length = nz a * 1 := by rw [dg_len]; omega
  by_cases h0 : a = 0
  · subst h0
    exact p_integer_Neg_1 hio 0 ⟨hcl, (dg_leaves _ _).cellOk, by decide⟩ (by exact c_integer_signed (v := 0) (k := 0) (by omega) (by decide) (by omega)) ⟨rfl, rfl, rfl, by decide⟩
  · have hpos := (nz_pos (z := a)).2 h0
    have e0 : (0 + nz a) = nz a := Nat.zero_add _
    have et : (cz a).take ((0 + nz a) * 1) = cz a := by rw [e0, Nat.mul_one]; exact dg_take (Nat.le_refl _)
    refine (p_integer_Neg_0 hio a ⟨hcl, (dg_leaves _ _).cellOk, by omega, rfl, by omega⟩ ⟨rfl, by decide, by rw [hcl]; omega, by rw [et]; exact dg_pl (by omega)⟩ (by rw [et, e0]; exact c_integer_signed (by omega) (nl_lt _) ha) ⟨rfl, rfl, rfl, by decide⟩).trans ?_
    have : sgz (!(ng a)) a.natAbs = -a := by
      unfold sgz ng
      split <;> rename_i h <;> simp at h <;> omega
    rw [this]
theorem iM_neg (b : Int) (h : ¬ b < 0) : MV.agg [bN (decide (((nz b : Nat) : Int) > (0 : Int))), MV.fs (nz b) none (cz b)] = iM (-b) := by
  have h1 : decide (((nz b : Nat) : Int) > (0 : Int)) = ng (-b) := decide_eq_decide.2 (by have := nz_pos (z := b); omega)
  rw [h1]
  simp only [iM, iC, nz, cz, Int.natAbs_neg]
theorem iM_neg' (b : Int) (h : b < 0) : MV.agg [bN false, MV.fs (nz b) none (cz b)] = iM (-b) := by
  have h1 : ng (-b) = false := decide_eq_false (by omega)
  simp only [iM, iC, nz, cz, Int.natAbs_neg, h1]
theorem c_integer_Sub {q : Nat} (hq : 3 < q) {a b : Int} (ha : nz a < 50000) (hb : nz b < 50000) : (TU q).call fn_integer_Sub [iM a, iM b] = some (iM (a - b), []) := by
  have hio := TU_io (q - 1)
  have hnb : nz (-b) = nz b := by simp [nz]
  refine TU_call (by omega) rfl rfl (args' := [iM a, iM b]) (by rw [uncaps_iM, uncaps_iM]; rfl) (r := iM (a - b)) ?_ (uncap_iM _)
  by_cases h : b < 0
  · have e : a + sgz false b.natAbs = a - b := by unfold sgz; simp; omega
    have g := p_integer_Sub_1 hio a b (sc_b (by simp [ng, h])) (by rw [e, iM_neg' b h, show a - b = a + -b by omega]; exact c_integer_Add (by omega) ha (by omega))
    rw [e] at g
    exact g
  · have e : a + sgz (decide (((nz b : Nat) : Int) > (0 : Int))) b.natAbs = a - b := by
      unfold sgz
      have := nz_pos (z := b)
      split <;> rename_i h1 <;> simp at h1 <;> omega
    have g := p_integer_Sub_0 hio a b (sc_b (by simp [ng, h])) (by rw [e, iM_neg b h, show a - b = a + -b by omega]; exact c_integer_Add (by omega) ha (by omega))
    rw [e] at g
    exact g
end Go.Proofs.YtkeelkeoijemiaaGreat.Ev

namespace Go.Proofs.YtkeelkeoijemiaaGreat.Ev
open Go
set_option linter.unusedVariables false
set_option linter.unusedSimpArgs false
set_option maxRecDepth 100000

def L_integer_subtract_0 (n v m w : Nat) (g t7 t8 t15 : Int) (cs0 : List MV) : St := { sl := [MV.row 0 0 0 n none 1, MV.fs m none (dg m w), wN g, undefM, undefM, undefM, bN false, wN t7, wN t8] ++ rp 5 MV.any ++ [iN (n : Int), iN t15] ++ rp 46 MV.any, en := [some ⟨0, cs0, false⟩] ++ rp 61 none, ck := 2 }

noncomputable def I_integer_subtract_0 (n v m w : Nat) (g : Int) : St := xe true fn_integer_subtract [MV.fs n none (dg n v), MV.fs m none (dg m w), wN g] [MV.row 0 0 0 n none 1, MV.fs m none (dg m w), wN g] [.halt]

theorem i_integer_subtract_0 (n v m w : Nat) (g : Int) (hn0 : NoNames (dg n v)) : nM fn_integer_subtract 0 (I_integer_subtract_0 n v m w g) = (L_integer_subtract_0 n v m w g 0 0 0 (dg n v)) :=
  nm_fill (w := WF fn_integer_subtract (bodyOf PG fn_integer_subtract 0)) (S := (I_integer_subtract_0 n v m w g)) (q0 := 0) (c0 := dg n v) (n0 := (L_integer_subtract_0 n v m w g 0 0 0 ([]))) (by kernel_rfl) (by kernel_rfl) (by kernel_rfl) hn0

theorem r_integer_subtract_0_0 {T : Tab} (hio : TO T) (n v m w : Nat) (g t7 t8 t15 x0 : Int) (cs0 : List MV) (h0 : (bN (decide (t15 < (n : Int))) : MV) = .sc (.bool true)) (h1 : (bN (decide (t15 < (m : Int))) : MV) = .sc (.bool true)) (h2 : (0 : Int) ≤ t15 ∧ t15 < ((m : Nat) : Int) ∧ ((dg m w) : List MV) ≠ []) (h3 : takeAs false 1 ((dg m w).drop (t15.toNat * 1)) = some (uN ((dgt w t15.toNat : Nat) : Int))) (h4 : (1000000000 : Int) ≠ 0) (h5 : (1000000000 : Int) ≠ 0) (h6 : (0 : Int) ≤ t15 ∧ t15 < ((n : Nat) : Int)) (h7 : takeAs false 1 (cs0.drop (0 + (t15.toNat * 1))) = some (uN x0)) (h8 : (bN (decide ((IntKind.u64.wrap x0) < (IntKind.u64.wrap (((IntKind.u64.wrap (t7 + (IntKind.u64.wrap ((IntKind.u64.wrap ((dgt w t15.toNat : Nat) : Int)) * g)))).tmod (1000000000 : Int)) + t8)))) : MV) = .sc (.bool true)) (h9 : (0 : Int) ≤ t15 ∧ t15 < ((n : Nat) : Int)) (h10 : 0 = 0 ∧ false = false ∧ 1 = 1 ∧ (0 + (t15.toNat * 1)) + 1 ≤ cs0.length) (hn0 : NoNames (putCells cs0 (0 + (t15.toNat * 1)) [uN (IntKind.u32.wrap (IntKind.u64.wrap ((IntKind.u64.wrap ((IntKind.u64.wrap x0) + (1000000000 : Int))) - (IntKind.u64.wrap (((IntKind.u64.wrap (t7 + (IntKind.u64.wrap ((IntKind.u64.wrap ((dgt w t15.toNat : Nat) : Int)) * g)))).tmod (1000000000 : Int)) + t8)))))])) : ∃ s_, gC T fn_integer_subtract 0 (L_integer_subtract_0 n v m w g t7 t8 t15 cs0) = some (.normal, s_) ∧ nM fn_integer_subtract 0 s_ = (L_integer_subtract_0 n v m w g (IntKind.u64.wrap ((IntKind.u64.wrap (t7 + (IntKind.u64.wrap ((IntKind.u64.wrap ((dgt w t15.toNat : Nat) : Int)) * g)))).tdiv (1000000000 : Int))) 1 (IntKind.i64.wrap (t15 + (1 : Int))) (putCells cs0 (0 + (t15.toNat * 1)) [uN (IntKind.u32.wrap (IntKind.u64.wrap ((IntKind.u64.wrap ((IntKind.u64.wrap x0) + (1000000000 : Int))) - (IntKind.u64.wrap (((IntKind.u64.wrap (t7 + (IntKind.u64.wrap ((IntKind.u64.wrap ((dgt w t15.toNat : Nat) : Int)) * g)))).tmod (1000000000 : Int)) + t8)))))])) :=
  rd_fill hio (h := true) (orc := [.br true, .br true, .val (uN ((dgt w t15.toNat : Nat) : Int)), .val (uN x0), .br true]) (q0 := 0) (c0 := putCells cs0 (0 + (t15.toNat * 1)) [uN (IntKind.u32.wrap (IntKind.u64.wrap ((IntKind.u64.wrap ((IntKind.u64.wrap x0) + (1000000000 : Int))) - (IntKind.u64.wrap (((IntKind.u64.wrap (t7 + (IntKind.u64.wrap ((IntKind.u64.wrap ((dgt w t15.toNat : Nat) : Int)) * g)))).tmod (1000000000 : Int)) + t8)))))]) (n0 := (L_integer_subtract_0 n v m w g (IntKind.u64.wrap ((IntKind.u64.wrap (t7 + (IntKind.u64.wrap ((IntKind.u64.wrap ((dgt w t15.toNat : Nat) : Int)) * g)))).tdiv (1000000000 : Int))) 1 (IntKind.i64.wrap (t15 + (1 : Int))) ([]))) (by kernel_rfl) (owc h0 (owc h1 (owc h2 (owc h3 (owc h4 (owc h5 (owc h6 (owc h7 (owc h8 (owc h9 (ow1 h10))))))))))) (by kernel_rfl) (by kernel_rfl) (by kernel_rfl) hn0

noncomputable def X_integer_subtract_0_1 (n v m w : Nat) (g t7 t8 t15 : Int) (cs0 : List MV) : St := xr true fn_integer_subtract 0 (L_integer_subtract_0 n v m w g t7 t8 t15 cs0) [.br false]

theorem r_integer_subtract_0_1 {T : Tab} (hio : TO T) (n v m w : Nat) (g t7 t8 t15 : Int) (cs0 : List MV) (h0 : (bN (decide (t15 < (n : Int))) : MV) = .sc (.bool false)) : gC T fn_integer_subtract 0 (L_integer_subtract_0 n v m w g t7 t8 t15 cs0) = some (.exit 0, (X_integer_subtract_0_1 n v m w g t7 t8 t15 cs0)) :=
  ex_ok hio (h := true) (orc := [.br false]) (by kernel_rfl) (ow1 h0)

theorem r_integer_subtract_0_2 {T : Tab} (hio : TO T) (n v m w : Nat) (g t7 t8 t15 x0 : Int) (cs0 : List MV) (h0 : (bN (decide (t15 < (n : Int))) : MV) = .sc (.bool true)) (h1 : (bN (decide (t15 < (m : Int))) : MV) = .sc (.bool false)) (h2 : (1000000000 : Int) ≠ 0) (h3 : (1000000000 : Int) ≠ 0) (h4 : (0 : Int) ≤ t15 ∧ t15 < ((n : Nat) : Int)) (h5 : takeAs false 1 (cs0.drop (0 + (t15.toNat * 1))) = some (uN x0)) (h6 : (bN (decide ((IntKind.u64.wrap x0) < (IntKind.u64.wrap ((t7.tmod (1000000000 : Int)) + t8)))) : MV) = .sc (.bool true)) (h7 : (0 : Int) ≤ t15 ∧ t15 < ((n : Nat) : Int)) (h8 : 0 = 0 ∧ false = false ∧ 1 = 1 ∧ (0 + (t15.toNat * 1)) + 1 ≤ cs0.length) (hn0 : NoNames (putCells cs0 (0 + (t15.toNat * 1)) [uN (IntKind.u32.wrap (IntKind.u64.wrap ((IntKind.u64.wrap ((IntKind.u64.wrap x0) + (1000000000 : Int))) - (IntKind.u64.wrap ((t7.tmod (1000000000 : Int)) + t8)))))])) : ∃ s_, gC T fn_integer_subtract 0 (L_integer_subtract_0 n v m w g t7 t8 t15 cs0) = some (.normal, s_) ∧ nM fn_integer_subtract 0 s_ = (L_integer_subtract_0 n v m w g (IntKind.u64.wrap (t7.tdiv (1000000000 : Int))) 1 (IntKind.i64.wrap (t15 + (1 : Int))) (putCells cs0 (0 + (t15.toNat * 1)) [uN (IntKind.u32.wrap (IntKind.u64.wrap ((IntKind.u64.wrap ((IntKind.u64.wrap x0) + (1000000000 : Int))) - (IntKind.u64.wrap ((t7.tmod (1000000000 : Int)) + t8)))))])) :=
  rd_fill hio (h := true) (orc := [.br true, .br false, .val (uN x0), .br true]) (q0 := 0) (c0 := putCells cs0 (0 + (t15.toNat * 1)) [uN (IntKind.u32.wrap (IntKind.u64.wrap ((IntKind.u64.wrap ((IntKind.u64.wrap x0) + (1000000000 : Int))) - (IntKind.u64.wrap ((t7.tmod (1000000000 : Int)) + t8)))))]) (n0 := (L_integer_subtract_0 n v m w g (IntKind.u64.wrap (t7.tdiv (1000000000 : Int))) 1 (IntKind.i64.wrap (t15 + (1 : Int))) ([]))) (by kernel_rfl) (owc h0 (owc h1 (owc h2 (owc h3 (owc h4 (owc h5 (owc h6 (owc h7 (ow1 h8))))))))) (by kernel_rfl) (by kernel_rfl) (by kernel_rfl) hn0

theorem r_integer_subtract_0_3 {T : Tab} (hio : TO T) (n v m w : Nat) (g t7 t8 t15 x0 : Int) (cs0 : List MV) (h0 : (bN (decide (t15 < (n : Int))) : MV) = .sc (.bool true)) (h1 : (bN (decide (t15 < (m : Int))) : MV) = .sc (.bool false)) (h2 : (1000000000 : Int) ≠ 0) (h3 : (1000000000 : Int) ≠ 0) (h4 : (0 : Int) ≤ t15 ∧ t15 < ((n : Nat) : Int)) (h5 : takeAs false 1 (cs0.drop (0 + (t15.toNat * 1))) = some (uN x0)) (h6 : (bN (decide ((IntKind.u64.wrap x0) < (IntKind.u64.wrap ((t7.tmod (1000000000 : Int)) + t8)))) : MV) = .sc (.bool false)) (h7 : (0 : Int) ≤ t15 ∧ t15 < ((n : Nat) : Int)) (h8 : 0 = 0 ∧ false = false ∧ 1 = 1 ∧ (0 + (t15.toNat * 1)) + 1 ≤ cs0.length) (hn0 : NoNames (putCells cs0 (0 + (t15.toNat * 1)) [uN (IntKind.u32.wrap (IntKind.u64.wrap ((IntKind.u64.wrap x0) - (IntKind.u64.wrap ((t7.tmod (1000000000 : Int)) + t8)))))])) : ∃ s_, gC T fn_integer_subtract 0 (L_integer_subtract_0 n v m w g t7 t8 t15 cs0) = some (.normal, s_) ∧ nM fn_integer_subtract 0 s_ = (L_integer_subtract_0 n v m w g (IntKind.u64.wrap (t7.tdiv (1000000000 : Int))) 0 (IntKind.i64.wrap (t15 + (1 : Int))) (putCells cs0 (0 + (t15.toNat * 1)) [uN (IntKind.u32.wrap (IntKind.u64.wrap ((IntKind.u64.wrap x0) - (IntKind.u64.wrap ((t7.tmod (1000000000 : Int)) + t8)))))])) :=
  rd_fill hio (h := true) (orc := [.br true, .br false, .val (uN x0), .br false]) (q0 := 0) (c0 := putCells cs0 (0 + (t15.toNat * 1)) [uN (IntKind.u32.wrap (IntKind.u64.wrap ((IntKind.u64.wrap x0) - (IntKind.u64.wrap ((t7.tmod (1000000000 : Int)) + t8)))))]) (n0 := (L_integer_subtract_0 n v m w g (IntKind.u64.wrap (t7.tdiv (1000000000 : Int))) 0 (IntKind.i64.wrap (t15 + (1 : Int))) ([]))) (by kernel_rfl) (owc h0 (owc h1 (owc h2 (owc h3 (owc h4 (owc h5 (owc h6 (owc h7 (ow1 h8))))))))) (by kernel_rfl) (by kernel_rfl) (by kernel_rfl) hn0

theorem r_integer_subtract_0_4 {T : Tab} (hio : TO T) (n v m w : Nat) (g t7 t8 t15 x0 : Int) (cs0 : List MV) (h0 : (bN (decide (t15 < (n : Int))) : MV) = .sc (.bool true)) (h1 : (bN (decide (t15 < (m : Int))) : MV) = .sc (.bool true)) (h2 : (0 : Int) ≤ t15 ∧ t15 < ((m : Nat) : Int) ∧ ((dg m w) : List MV) ≠ []) (h3 : takeAs false 1 ((dg m w).drop (t15.toNat * 1)) = some (uN ((dgt w t15.toNat : Nat) : Int))) (h4 : (1000000000 : Int) ≠ 0) (h5 : (1000000000 : Int) ≠ 0) (h6 : (0 : Int) ≤ t15 ∧ t15 < ((n : Nat) : Int)) (h7 : takeAs false 1 (cs0.drop (0 + (t15.toNat * 1))) = some (uN x0)) (h8 : (bN (decide ((IntKind.u64.wrap x0) < (IntKind.u64.wrap (((IntKind.u64.wrap (t7 + (IntKind.u64.wrap ((IntKind.u64.wrap ((dgt w t15.toNat : Nat) : Int)) * g)))).tmod (1000000000 : Int)) + t8)))) : MV) = .sc (.bool false)) (h9 : (0 : Int) ≤ t15 ∧ t15 < ((n : Nat) : Int)) (h10 : 0 = 0 ∧ false = false ∧ 1 = 1 ∧ (0 + (t15.toNat * 1)) + 1 ≤ cs0.length) (hn0 : NoNames (putCells cs0 (0 + (t15.toNat * 1)) [uN (IntKind.u32.wrap (IntKind.u64.wrap ((IntKind.u64.wrap x0) - (IntKind.u64.wrap (((IntKind.u64.wrap (t7 + (IntKind.u64.wrap ((IntKind.u64.wrap ((dgt w t15.toNat : Nat) : Int)) * g)))).tmod (1000000000 : Int)) + t8)))))])) : ∃ s_, gC T fn_integer_subtract 0 (L_integer_subtract_0 n v m w g t7 t8 t15 cs0) = some (.normal, s_) ∧ nM fn_integer_subtract 0 s_ = (L_integer_subtract_0 n v m w g (IntKind.u64.wrap ((IntKind.u64.wrap (t7 + (IntKind.u64.wrap ((IntKind.u64.wrap ((dgt w t15.toNat : Nat) : Int)) * g)))).tdiv (1000000000 : Int))) 0 (IntKind.i64.wrap (t15 + (1 : Int))) (putCells cs0 (0 + (t15.toNat * 1)) [uN (IntKind.u32.wrap (IntKind.u64.wrap ((IntKind.u64.wrap x0) - (IntKind.u64.wrap (((IntKind.u64.wrap (t7 + (IntKind.u64.wrap ((IntKind.u64.wrap ((dgt w t15.toNat : Nat) : Int)) * g)))).tmod (1000000000 : Int)) + t8)))))])) :=
  rd_fill hio (h := true) (orc := [.br true, .br true, .val (uN ((dgt w t15.toNat : Nat) : Int)), .val (uN x0), .br false]) (q0 := 0) (c0 := putCells cs0 (0 + (t15.toNat * 1)) [uN (IntKind.u32.wrap (IntKind.u64.wrap ((IntKind.u64.wrap x0) - (IntKind.u64.wrap (((IntKind.u64.wrap (t7 + (IntKind.u64.wrap ((IntKind.u64.wrap ((dgt w t15.toNat : Nat) : Int)) * g)))).tmod (1000000000 : Int)) + t8)))))]) (n0 := (L_integer_subtract_0 n v m w g (IntKind.u64.wrap ((IntKind.u64.wrap (t7 + (IntKind.u64.wrap ((IntKind.u64.wrap ((dgt w t15.toNat : Nat) : Int)) * g)))).tdiv (1000000000 : Int))) 0 (IntKind.i64.wrap (t15 + (1 : Int))) ([]))) (by kernel_rfl) (owc h0 (owc h1 (owc h2 (owc h3 (owc h4 (owc h5 (owc h6 (owc h7 (owc h8 (owc h9 (ow1 h10))))))))))) (by kernel_rfl) (by kernel_rfl) (by kernel_rfl) hn0

theorem p_integer_subtract_x0_0 {T : Tab} (hio : TO T) (n v m w : Nat) (g t7 t8 t15 : Int) (cs0 : List MV) (hs : startOf PG ioF fn_integer_subtract [MV.fs n none (dg n v), MV.fs m none (dg m w), wN g] = some [MV.row 0 0 0 n none 1, MV.fs m none (dg m w), wN g]) (h0 : lp T fn_integer_subtract 0 (L_integer_subtract_0 n v m w g 0 0 0 (dg n v)) (.exit 0) (X_integer_subtract_0_1 n v m w g t7 t8 t15 cs0)) (hm0 : NoNames (dg n v)) (h1 : (bN (decide (t8 > (0 : Int))) : MV) = .sc (.bool true)) (h2 : 0 = 0 ∧ false = false ∧ bare cs0 = true) : evalBody PG T FUEL (ioF fn_integer_subtract) fn_integer_subtract [MV.fs n none (dg n v), MV.fs m none (dg m w), wN g] = some (bN true, [cs0]) :=
  xBodyS_io (hard := true) hio (orc := [.loop (.exit 0) (X_integer_subtract_0_1 n v m w g t7 t8 t15 cs0), .br true]) hs (by kernel_rfl) (owc (lpI (i_integer_subtract_0 n v m w g hm0) h0) (owc h1 (ow1 h2)))

theorem p_integer_subtract_x0_1 {T : Tab} (hio : TO T) (n v m w : Nat) (g t7 t8 t15 : Int) (cs0 : List MV) (hs : startOf PG ioF fn_integer_subtract [MV.fs n none (dg n v), MV.fs m none (dg m w), wN g] = some [MV.row 0 0 0 n none 1, MV.fs m none (dg m w), wN g]) (h0 : lp T fn_integer_subtract 0 (L_integer_subtract_0 n v m w g 0 0 0 (dg n v)) (.exit 0) (X_integer_subtract_0_1 n v m w g t7 t8 t15 cs0)) (hm0 : NoNames (dg n v)) (h1 : (bN (decide (t8 > (0 : Int))) : MV) = .sc (.bool false)) (h2 : 0 = 0 ∧ false = false ∧ bare cs0 = true) : evalBody PG T FUEL (ioF fn_integer_subtract) fn_integer_subtract [MV.fs n none (dg n v), MV.fs m none (dg m w), wN g] = some (bN (decide (t7 > (0 : Int))), [cs0]) :=
  xBodyS_io (hard := true) hio (orc := [.loop (.exit 0) (X_integer_subtract_0_1 n v m w g t7 t8 t15 cs0), .br false]) hs (by kernel_rfl) (owc (lpI (i_integer_subtract_0 n v m w g hm0) h0) (owc h1 (ow1 h2)))

def L_integer_restore_0 (n v m w : Nat) (cs0 : List MV) (t4 t9 : Int) : St := { sl := [MV.row 0 0 0 n none 1, MV.fs m none (dg m w), undefM, undefM, uN t4, MV.any, MV.any, MV.any, iN (n : Int), iN t9] ++ rp 27 MV.any, en := [some ⟨0, cs0, false⟩] ++ rp 36 none, ck := 2 }

noncomputable def I_integer_restore_0 (n v m w : Nat) : St := xe true fn_integer_restore [MV.fs n none (dg n v), MV.fs m none (dg m w)] [MV.row 0 0 0 n none 1, MV.fs m none (dg m w)] [.halt]

theorem i_integer_restore_0 (n v m w : Nat) (hn0 : NoNames (dg n v)) : nM fn_integer_restore 0 (I_integer_restore_0 n v m w) = (L_integer_restore_0 n v m w (dg n v) 0 0) :=
  nm_fill (w := WF fn_integer_restore (bodyOf PG fn_integer_restore 0)) (S := (I_integer_restore_0 n v m w)) (q0 := 0) (c0 := dg n v) (n0 := (L_integer_restore_0 n v m w ([]) 0 0)) (by kernel_rfl) (by kernel_rfl) (by kernel_rfl) hn0

theorem r_integer_restore_0_0 {T : Tab} (hio : TO T) (n v m w : Nat) (cs0 : List MV) (t4 t9 x0 : Int) (h0 : (bN (decide (t9 < (n : Int))) : MV) = .sc (.bool true)) (h1 : (0 : Int) ≤ t9 ∧ t9 < ((n : Nat) : Int)) (h2 : takeAs false 1 (cs0.drop (0 + (t9.toNat * 1))) = some (uN x0)) (h3 : (bN (decide (t9 < (m : Int))) : MV) = .sc (.bool true)) (h4 : (0 : Int) ≤ t9 ∧ t9 < ((m : Nat) : Int) ∧ ((dg m w) : List MV) ≠ []) (h5 : takeAs false 1 ((dg m w).drop (t9.toNat * 1)) = some (uN ((dgt w t9.toNat : Nat) : Int))) (h6 : (bN (decide ((IntKind.u32.wrap ((IntKind.u32.wrap (x0 + t4)) + ((dgt w t9.toNat : Nat) : Int))) ≥ (1000000000 : Int))) : MV) = .sc (.bool true)) (h7 : (0 : Int) ≤ t9 ∧ t9 < ((n : Nat) : Int)) (h8 : 0 = 0 ∧ false = false ∧ 1 = 1 ∧ (0 + (t9.toNat * 1)) + 1 ≤ cs0.length) (hn0 : NoNames (putCells cs0 (0 + (t9.toNat * 1)) [uN (IntKind.u32.wrap ((IntKind.u32.wrap ((IntKind.u32.wrap (x0 + t4)) + ((dgt w t9.toNat : Nat) : Int))) - (1000000000 : Int)))])) : ∃ s_, gC T fn_integer_restore 0 (L_integer_restore_0 n v m w cs0 t4 t9) = some (.normal, s_) ∧ nM fn_integer_restore 0 s_ = (L_integer_restore_0 n v m w (putCells cs0 (0 + (t9.toNat * 1)) [uN (IntKind.u32.wrap ((IntKind.u32.wrap ((IntKind.u32.wrap (x0 + t4)) + ((dgt w t9.toNat : Nat) : Int))) - (1000000000 : Int)))]) 1 (IntKind.i64.wrap (t9 + (1 : Int)))) :=
  rd_fill hio (h := true) (orc := [.br true, .val (uN x0), .br true, .val (uN ((dgt w t9.toNat : Nat) : Int)), .br true]) (q0 := 0) (c0 := putCells cs0 (0 + (t9.toNat * 1)) [uN (IntKind.u32.wrap ((IntKind.u32.wrap ((IntKind.u32.wrap (x0 + t4)) + ((dgt w t9.toNat : Nat) : Int))) - (1000000000 : Int)))]) (n0 := (L_integer_restore_0 n v m w ([]) 1 (IntKind.i64.wrap (t9 + (1 : Int))))) (by kernel_rfl) (owc h0 (owc h1 (owc h2 (owc h3 (owc h4 (owc h5 (owc h6 (owc h7 (ow1 h8))))))))) (by kernel_rfl) (by kernel_rfl) (by kernel_rfl) hn0

noncomputable def X_integer_restore_0_1 (n v m w : Nat) (cs0 : List MV) (t4 t9 : Int) : St := xr true fn_integer_restore 0 (L_integer_restore_0 n v m w cs0 t4 t9) [.br false]

theorem r_integer_restore_0_1 {T : Tab} (hio : TO T) (n v m w : Nat) (cs0 : List MV) (t4 t9 : Int) (h0 : (bN (decide (t9 < (n : Int))) : MV) = .sc (.bool false)) : gC T fn_integer_restore 0 (L_integer_restore_0 n v m w cs0 t4 t9) = some (.exit 0, (X_integer_restore_0_1 n v m w cs0 t4 t9)) :=
  ex_ok hio (h := true) (orc := [.br false]) (by kernel_rfl) (ow1 h0)

theorem r_integer_restore_0_2 {T : Tab} (hio : TO T) (n v m w : Nat) (cs0 : List MV) (t4 t9 x0 : Int) (h0 : (bN (decide (t9 < (n : Int))) : MV) = .sc (.bool true)) (h1 : (0 : Int) ≤ t9 ∧ t9 < ((n : Nat) : Int)) (h2 : takeAs false 1 (cs0.drop (0 + (t9.toNat * 1))) = some (uN x0)) (h3 : (bN (decide (t9 < (m : Int))) : MV) = .sc (.bool false)) (h4 : (bN (decide ((IntKind.u32.wrap (x0 + t4)) ≥ (1000000000 : Int))) : MV) = .sc (.bool true)) (h5 : (0 : Int) ≤ t9 ∧ t9 < ((n : Nat) : Int)) (h6 : 0 = 0 ∧ false = false ∧ 1 = 1 ∧ (0 + (t9.toNat * 1)) + 1 ≤ cs0.length) (hn0 : NoNames (putCells cs0 (0 + (t9.toNat * 1)) [uN (IntKind.u32.wrap ((IntKind.u32.wrap (x0 + t4)) - (1000000000 : Int)))])) : ∃ s_, gC T fn_integer_restore 0 (L_integer_restore_0 n v m w cs0 t4 t9) = some (.normal, s_) ∧ nM fn_integer_restore 0 s_ = (L_integer_restore_0 n v m w (putCells cs0 (0 + (t9.toNat * 1)) [uN (IntKind.u32.wrap ((IntKind.u32.wrap (x0 + t4)) - (1000000000 : Int)))]) 1 (IntKind.i64.wrap (t9 + (1 : Int)))) :=
  rd_fill hio (h := true) (orc := [.br true, .val (uN x0), .br false, .br true]) (q0 := 0) (c0 := putCells cs0 (0 + (t9.toNat * 1)) [uN (IntKind.u32.wrap ((IntKind.u32.wrap (x0 + t4)) - (1000000000 : Int)))]) (n0 := (L_integer_restore_0 n v m w ([]) 1 (IntKind.i64.wrap (t9 + (1 : Int))))) (by kernel_rfl) (owc h0 (owc h1 (owc h2 (owc h3 (owc h4 (owc h5 (ow1 h6))))))) (by kernel_rfl) (by kernel_rfl) (by kernel_rfl) hn0

theorem r_integer_restore_0_3 {T : Tab} (hio : TO T) (n v m w : Nat) (cs0 : List MV) (t4 t9 x0 : Int) (h0 : (bN (decide (t9 < (n : Int))) : MV) = .sc (.bool true)) (h1 : (0 : Int) ≤ t9 ∧ t9 < ((n : Nat) : Int)) (h2 : takeAs false 1 (cs0.drop (0 + (t9.toNat * 1))) = some (uN x0)) (h3 : (bN (decide (t9 < (m : Int))) : MV) = .sc (.bool false)) (h4 : (bN (decide ((IntKind.u32.wrap (x0 + t4)) ≥ (1000000000 : Int))) : MV) = .sc (.bool false)) (h5 : (0 : Int) ≤ t9 ∧ t9 < ((n : Nat) : Int)) (h6 : 0 = 0 ∧ false = false ∧ 1 = 1 ∧ (0 + (t9.toNat * 1)) + 1 ≤ cs0.length) (hn0 : NoNames (putCells cs0 (0 + (t9.toNat * 1)) [uN (IntKind.u32.wrap (x0 + t4))])) : ∃ s_, gC T fn_integer_restore 0 (L_integer_restore_0 n v m w cs0 t4 t9) = some (.normal, s_) ∧ nM fn_integer_restore 0 s_ = (L_integer_restore_0 n v m w (putCells cs0 (0 + (t9.toNat * 1)) [uN (IntKind.u32.wrap (x0 + t4))]) 0 (IntKind.i64.wrap (t9 + (1 : Int)))) :=
  rd_fill hio (h := true) (orc := [.br true, .val (uN x0), .br false, .br false]) (q0 := 0) (c0 := putCells cs0 (0 + (t9.toNat * 1)) [uN (IntKind.u32.wrap (x0 + t4))]) (n0 := (L_integer_restore_0 n v m w ([]) 0 (IntKind.i64.wrap (t9 + (1 : Int))))) (by kernel_rfl) (owc h0 (owc h1 (owc h2 (owc h3 (owc h4 (owc h5 (ow1 h6))))))) (by kernel_rfl) (by kernel_rfl) (by kernel_rfl) hn0

theorem r_integer_restore_0_4 {T : Tab} (hio : TO T) (n v m w : Nat) (cs0 : List MV) (t4 t9 x0 : Int) (h0 : (bN (decide (t9 < (n : Int))) : MV) = .sc (.bool true)) (h1 : (0 : Int) ≤ t9 ∧ t9 < ((n : Nat) : Int)) (h2 : takeAs false 1 (cs0.drop (0 + (t9.toNat * 1))) = some (uN x0)) (h3 : (bN (decide (t9 < (m : Int))) : MV) = .sc (.bool true)) (h4 : (0 : Int) ≤ t9 ∧ t9 < ((m : Nat) : Int) ∧ ((dg m w) : List MV) ≠ []) (h5 : takeAs false 1 ((dg m w).drop (t9.toNat * 1)) = some (uN ((dgt w t9.toNat : Nat) : Int))) (h6 : (bN (decide ((IntKind.u32.wrap ((IntKind.u32.wrap (x0 + t4)) + ((dgt w t9.toNat : Nat) : Int))) ≥ (1000000000 : Int))) : MV) = .sc (.bool false)) (h7 : (0 : Int) ≤ t9 ∧ t9 < ((n : Nat) : Int)) (h8 : 0 = 0 ∧ false = false ∧ 1 = 1 ∧ (0 + (t9.toNat * 1)) + 1 ≤ cs0.length) (hn0 : NoNames (putCells cs0 (0 + (t9.toNat * 1)) [uN (IntKind.u32.wrap ((IntKind.u32.wrap (x0 + t4)) + ((dgt w t9.toNat : Nat) : Int)))])) : ∃ s_, gC T fn_integer_restore 0 (L_integer_restore_0 n v m w cs0 t4 t9) = some (.normal, s_) ∧ nM fn_integer_restore 0 s_ = (L_integer_restore_0 n v m w (putCells cs0 (0 + (t9.toNat * 1)) [uN (IntKind.u32.wrap ((IntKind.u32.wrap (x0 + t4)) + ((dgt w t9.toNat : Nat) : Int)))]) 0 (IntKind.i64.wrap (t9 + (1 : Int)))) :=
  rd_fill hio (h := true) (orc := [.br true, .val (uN x0), .br true, .val (uN ((dgt w t9.toNat : Nat) : Int)), .br false]) (q0 := 0) (c0 := putCells cs0 (0 + (t9.toNat * 1)) [uN (IntKind.u32.wrap ((IntKind.u32.wrap (x0 + t4)) + ((dgt w t9.toNat : Nat) : Int)))]) (n0 := (L_integer_restore_0 n v m w ([]) 0 (IntKind.i64.wrap (t9 + (1 : Int))))) (by kernel_rfl) (owc h0 (owc h1 (owc h2 (owc h3 (owc h4 (owc h5 (owc h6 (owc h7 (ow1 h8))))))))) (by kernel_rfl) (by kernel_rfl) (by kernel_rfl) hn0

theorem p_integer_restore_x0_0 {T : Tab} (hio : TO T) (n v m w : Nat) (cs0 : List MV) (t4 t9 : Int) (hs : startOf PG ioF fn_integer_restore [MV.fs n none (dg n v), MV.fs m none (dg m w)] = some [MV.row 0 0 0 n none 1, MV.fs m none (dg m w)]) (h0 : lp T fn_integer_restore 0 (L_integer_restore_0 n v m w (dg n v) 0 0) (.exit 0) (X_integer_restore_0_1 n v m w cs0 t4 t9)) (hm0 : NoNames (dg n v)) (h1 : 0 = 0 ∧ false = false ∧ bare cs0 = true) : evalBody PG T FUEL (ioF fn_integer_restore) fn_integer_restore [MV.fs n none (dg n v), MV.fs m none (dg m w)] = some (MV.tup [], [cs0]) :=
  xBodyS_io (hard := true) hio (orc := [.loop (.exit 0) (X_integer_restore_0_1 n v m w cs0 t4 t9)]) hs (by kernel_rfl) (owc (lpI (i_integer_restore_0 n v m w hm0) h0) (ow1 h1))

end Go.Proofs.YtkeelkeoijemiaaGreat.Ev

