/- Reference integers, part 2: plus, minus, times. Reference integers: trim, compare, limbs, short, signed, FromInt64. -/
import Derived.Test.YtkeelkeoijemiaaGreatMa
set_option linter.unusedVariables false
set_option linter.unusedSimpArgs false
namespace Go.Proofs.YtkeelkeoijemiaaGreat.Ev
open Go
set_option linter.unusedVariables false
set_option linter.unusedSimpArgs false
set_option maxRecDepth 100000

def L_ref01_plus_0a (n v m w : Nat) (cs18 : List MV) (t6 t7 : Int) : St := { sl := [MV.fs n none (dg n v), MV.fs m none (dg m w), undefM, undefM, MV.fs 0 (some 0) [], MV.row 18 1 0 ((IntKind.i64.wrap ((n : Int) + (1 : Int))).toNat) (some ((IntKind.i64.wrap ((n : Int) + (1 : Int))).toNat)) 1, uN t6, iN t7] ++ rp 47 MV.any, en := rp 18 none ++ [some ⟨1, cs18, false⟩] ++ rp 36 none, ck := 2 }

noncomputable def I_ref01_plus_0a (n v m w : Nat) : St := xe true fn_ref01_plus [MV.fs n none (dg n v), MV.fs m none (dg m w)] [MV.fs n none (dg n v), MV.fs m none (dg m w)] [.br false, .halt]

theorem i_ref01_plus_0a (n v m w : Nat)  : nM fn_ref01_plus 0 (I_ref01_plus_0a n v m w) = (L_ref01_plus_0a n v m w (repCells [uN 0] ((IntKind.i64.wrap ((n : Int) + (1 : Int))).toNat)) 0 0) :=
  nm_fill (w := WF fn_ref01_plus (bodyOf PG fn_ref01_plus 0)) (S := (I_ref01_plus_0a n v m w)) (q0 := 18) (c0 := repCells [uN 0] ((IntKind.i64.wrap ((n : Int) + (1 : Int))).toNat)) (n0 := (L_ref01_plus_0a n v m w ([]) 0 0)) (by kernel_rfl) (by kernel_rfl) (by kernel_rfl) (rep_nn _)

theorem r_ref01_plus_0a_0 {T : Tab} (hio : TO T) (n v m w : Nat) (cs18 : List MV) (t6 t7 : Int) (h0 : (bN (decide (t7 < (n : Int))) : MV) = .sc (.bool true)) (h1 : (0 : Int) ≤ t7 ∧ t7 < ((n : Nat) : Int) ∧ ((dg n v) : List MV) ≠ []) (h2 : takeAs false 1 ((dg n v).drop (t7.toNat * 1)) = some (uN ((dgt v t7.toNat : Nat) : Int))) (h3 : (bN (decide (t7 < (m : Int))) : MV) = .sc (.bool true)) (h4 : (0 : Int) ≤ t7 ∧ t7 < ((m : Nat) : Int) ∧ ((dg m w) : List MV) ≠ []) (h5 : takeAs false 1 ((dg m w).drop (t7.toNat * 1)) = some (uN ((dgt w t7.toNat : Nat) : Int))) (h6 : (1000000000 : Int) ≠ 0) (h7 : (0 : Int) ≤ t7 ∧ t7 < (((IntKind.i64.wrap ((n : Int) + (1 : Int))).toNat : Nat) : Int)) (h8 : 1 = 1 ∧ false = false ∧ 1 = 1 ∧ (0 + (t7.toNat * 1)) + 1 ≤ cs18.length) (h9 : (1000000000 : Int) ≠ 0) (hn18 : NoNames (putCells cs18 (0 + (t7.toNat * 1)) [uN ((IntKind.u32.wrap ((IntKind.u32.wrap (t6 + ((dgt v t7.toNat : Nat) : Int))) + ((dgt w t7.toNat : Nat) : Int))).tmod (1000000000 : Int))])) : ∃ s_, gC T fn_ref01_plus 0 (L_ref01_plus_0a n v m w cs18 t6 t7) = some (.normal, s_) ∧ nM fn_ref01_plus 0 s_ = (L_ref01_plus_0a n v m w (putCells cs18 (0 + (t7.toNat * 1)) [uN ((IntKind.u32.wrap ((IntKind.u32.wrap (t6 + ((dgt v t7.toNat : Nat) : Int))) + ((dgt w t7.toNat : Nat) : Int))).tmod (1000000000 : Int))]) (IntKind.u32.wrap ((IntKind.u32.wrap ((IntKind.u32.wrap (t6 + ((dgt v t7.toNat : Nat) : Int))) + ((dgt w t7.toNat : Nat) : Int))).tdiv (1000000000 : Int))) (IntKind.i64.wrap (t7 + (1 : Int)))) :=
  rd_fill hio (h := true) (orc := [.br true, .val (uN ((dgt v t7.toNat : Nat) : Int)), .br true, .val (uN ((dgt w t7.toNat : Nat) : Int))]) (q0 := 18) (c0 := putCells cs18 (0 + (t7.toNat * 1)) [uN ((IntKind.u32.wrap ((IntKind.u32.wrap (t6 + ((dgt v t7.toNat : Nat) : Int))) + ((dgt w t7.toNat : Nat) : Int))).tmod (1000000000 : Int))]) (n0 := (L_ref01_plus_0a n v m w ([]) (IntKind.u32.wrap ((IntKind.u32.wrap ((IntKind.u32.wrap (t6 + ((dgt v t7.toNat : Nat) : Int))) + ((dgt w t7.toNat : Nat) : Int))).tdiv (1000000000 : Int))) (IntKind.i64.wrap (t7 + (1 : Int))))) (by kernel_rfl) (owc h0 (owc h1 (owc h2 (owc h3 (owc h4 (owc h5 (owc h6 (owc h7 (owc h8 (ow1 h9)))))))))) (by kernel_rfl) (by kernel_rfl) (by kernel_rfl) hn18

noncomputable def X_ref01_plus_0a_1 (n v m w : Nat) (cs18 : List MV) (t6 t7 : Int) : St := xr true fn_ref01_plus 0 (L_ref01_plus_0a n v m w cs18 t6 t7) [.br false]

theorem r_ref01_plus_0a_1 {T : Tab} (hio : TO T) (n v m w : Nat) (cs18 : List MV) (t6 t7 : Int) (h0 : (bN (decide (t7 < (n : Int))) : MV) = .sc (.bool false)) : gC T fn_ref01_plus 0 (L_ref01_plus_0a n v m w cs18 t6 t7) = some (.exit 0, (X_ref01_plus_0a_1 n v m w cs18 t6 t7)) :=
  ex_ok hio (h := true) (orc := [.br false]) (by kernel_rfl) (ow1 h0)

theorem r_ref01_plus_0a_2 {T : Tab} (hio : TO T) (n v m w : Nat) (cs18 : List MV) (t6 t7 : Int) (h0 : (bN (decide (t7 < (n : Int))) : MV) = .sc (.bool true)) (h1 : (0 : Int) ≤ t7 ∧ t7 < ((n : Nat) : Int) ∧ ((dg n v) : List MV) ≠ []) (h2 : takeAs false 1 ((dg n v).drop (t7.toNat * 1)) = some (uN ((dgt v t7.toNat : Nat) : Int))) (h3 : (bN (decide (t7 < (m : Int))) : MV) = .sc (.bool false)) (h4 : (1000000000 : Int) ≠ 0) (h5 : (0 : Int) ≤ t7 ∧ t7 < (((IntKind.i64.wrap ((n : Int) + (1 : Int))).toNat : Nat) : Int)) (h6 : 1 = 1 ∧ false = false ∧ 1 = 1 ∧ (0 + (t7.toNat * 1)) + 1 ≤ cs18.length) (h7 : (1000000000 : Int) ≠ 0) (hn18 : NoNames (putCells cs18 (0 + (t7.toNat * 1)) [uN ((IntKind.u32.wrap (t6 + ((dgt v t7.toNat : Nat) : Int))).tmod (1000000000 : Int))])) : ∃ s_, gC T fn_ref01_plus 0 (L_ref01_plus_0a n v m w cs18 t6 t7) = some (.normal, s_) ∧ nM fn_ref01_plus 0 s_ = (L_ref01_plus_0a n v m w (putCells cs18 (0 + (t7.toNat * 1)) [uN ((IntKind.u32.wrap (t6 + ((dgt v t7.toNat : Nat) : Int))).tmod (1000000000 : Int))]) (IntKind.u32.wrap ((IntKind.u32.wrap (t6 + ((dgt v t7.toNat : Nat) : Int))).tdiv (1000000000 : Int))) (IntKind.i64.wrap (t7 + (1 : Int)))) :=
  rd_fill hio (h := true) (orc := [.br true, .val (uN ((dgt v t7.toNat : Nat) : Int)), .br false]) (q0 := 18) (c0 := putCells cs18 (0 + (t7.toNat * 1)) [uN ((IntKind.u32.wrap (t6 + ((dgt v t7.toNat : Nat) : Int))).tmod (1000000000 : Int))]) (n0 := (L_ref01_plus_0a n v m w ([]) (IntKind.u32.wrap ((IntKind.u32.wrap (t6 + ((dgt v t7.toNat : Nat) : Int))).tdiv (1000000000 : Int))) (IntKind.i64.wrap (t7 + (1 : Int))))) (by kernel_rfl) (owc h0 (owc h1 (owc h2 (owc h3 (owc h4 (owc h5 (owc h6 (ow1 h7)))))))) (by kernel_rfl) (by kernel_rfl) (by kernel_rfl) hn18

theorem p_ref01_plusa_x0_0 {T : Tab} (hio : TO T) (n v m w q r : Nat) (cs18 : List MV) (t6 t7 : Int) (h0 : (bN (decide ((n : Int) < (m : Int))) : MV) = .sc (.bool false)) (h1 : (0 : Int) ≤ (IntKind.i64.wrap ((n : Int) + (1 : Int))) ∧ (IntKind.i64.wrap ((n : Int) + (1 : Int))) ≤ (IntKind.i64.wrap ((n : Int) + (1 : Int))) ∧ ((4 : Nat) : Int) * (IntKind.i64.wrap ((n : Int) + (1 : Int))) ≤ 281474976710656 ∧ (IntKind.i64.wrap ((n : Int) + (1 : Int))) ≤ 4611686018427387904) (h2 : lp T fn_ref01_plus 0 (L_ref01_plus_0a n v m w (repCells [uN 0] ((IntKind.i64.wrap ((n : Int) + (1 : Int))).toNat)) 0 0) (.exit 0) (X_ref01_plus_0a_1 n v m w cs18 t6 t7)) (h3 : (0 : Int) ≤ (n : Int) ∧ (n : Int) < (((IntKind.i64.wrap ((n : Int) + (1 : Int))).toNat : Nat) : Int)) (h4 : 1 = 1 ∧ false = false ∧ 1 = 1 ∧ (0 + (n * 1)) + 1 ≤ cs18.length) (h5 : 1 = 1 ∧ 1 ≠ 0 ∧ 0 + (((IntKind.i64.wrap ((n : Int) + (1 : Int))).toNat) * 1) ≤ ((putCells cs18 (0 + (n * 1)) [uN t6]).length) ∧ Plain ((putCells cs18 (0 + (n * 1)) [uN t6]).take (((IntKind.i64.wrap ((n : Int) + (1 : Int))).toNat) * 1))) (h6 : T.call fn_ref01_trim [MV.fs ((IntKind.i64.wrap ((n : Int) + (1 : Int))).toNat) (some ((IntKind.i64.wrap ((n : Int) + (1 : Int))).toNat)) ((putCells cs18 (0 + (n * 1)) [uN t6]).take (((IntKind.i64.wrap ((n : Int) + (1 : Int))).toNat) * 1))] = some (MV.fs q none (dg q r), [])) : evalBody PG T FUEL (ioF fn_ref01_plus) fn_ref01_plus [MV.fs n none (dg n v), MV.fs m none (dg m w)] = some (MV.fs q none (dg q r), []) :=
  xBody_io (hard := true) hio (orc := [.br false, .loop (.exit 0) (X_ref01_plus_0a_1 n v m w cs18 t6 t7), .call (MV.fs q none (dg q r)) []]) (by kernel_rfl) (owc h0 (owc h1 (owc (lpI (i_ref01_plus_0a n v m w) h2) (owc h3 (owc h4 (owc h5 (ow1 h6)))))))

def L_ref01_plus_0b (n v m w : Nat) (cs18 : List MV) (t6 t7 : Int) : St := { sl := [MV.fs m none (dg m w), MV.fs n none (dg n v), undefM, undefM, MV.fs 0 (some 0) [], MV.row 18 1 0 ((IntKind.i64.wrap ((m : Int) + (1 : Int))).toNat) (some ((IntKind.i64.wrap ((m : Int) + (1 : Int))).toNat)) 1, uN t6, iN t7] ++ rp 47 MV.any, en := rp 18 none ++ [some ⟨1, cs18, false⟩] ++ rp 36 none, ck := 2 }

noncomputable def I_ref01_plus_0b (n v m w : Nat) : St := xe true fn_ref01_plus [MV.fs n none (dg n v), MV.fs m none (dg m w)] [MV.fs n none (dg n v), MV.fs m none (dg m w)] [.br true, .halt]

theorem i_ref01_plus_0b (n v m w : Nat)  : nM fn_ref01_plus 0 (I_ref01_plus_0b n v m w) = (L_ref01_plus_0b n v m w (repCells [uN 0] ((IntKind.i64.wrap ((m : Int) + (1 : Int))).toNat)) 0 0) :=
  nm_fill (w := WF fn_ref01_plus (bodyOf PG fn_ref01_plus 0)) (S := (I_ref01_plus_0b n v m w)) (q0 := 18) (c0 := repCells [uN 0] ((IntKind.i64.wrap ((m : Int) + (1 : Int))).toNat)) (n0 := (L_ref01_plus_0b n v m w ([]) 0 0)) (by kernel_rfl) (by kernel_rfl) (by kernel_rfl) (rep_nn _)

theorem r_ref01_plus_0b_0 {T : Tab} (hio : TO T) (n v m w : Nat) (cs18 : List MV) (t6 t7 : Int) (h0 : (bN (decide (t7 < (m : Int))) : MV) = .sc (.bool true)) (h1 : (0 : Int) ≤ t7 ∧ t7 < ((m : Nat) : Int) ∧ ((dg m w) : List MV) ≠ []) (h2 : takeAs false 1 ((dg m w).drop (t7.toNat * 1)) = some (uN ((dgt w t7.toNat : Nat) : Int))) (h3 : (bN (decide (t7 < (n : Int))) : MV) = .sc (.bool true)) (h4 : (0 : Int) ≤ t7 ∧ t7 < ((n : Nat) : Int) ∧ ((dg n v) : List MV) ≠ []) (h5 : takeAs false 1 ((dg n v).drop (t7.toNat * 1)) = some (uN ((dgt v t7.toNat : Nat) : Int))) (h6 : (1000000000 : Int) ≠ 0) (h7 : (0 : Int) ≤ t7 ∧ t7 < (((IntKind.i64.wrap ((m : Int) + (1 : Int))).toNat : Nat) : Int)) (h8 : 1 = 1 ∧ false = false ∧ 1 = 1 ∧ (0 + (t7.toNat * 1)) + 1 ≤ cs18.length) (h9 : (1000000000 : Int) ≠ 0) (hn18 : NoNames (putCells cs18 (0 + (t7.toNat * 1)) [uN ((IntKind.u32.wrap ((IntKind.u32.wrap (t6 + ((dgt w t7.toNat : Nat) : Int))) + ((dgt v t7.toNat : Nat) : Int))).tmod (1000000000 : Int))])) : ∃ s_, gC T fn_ref01_plus 0 (L_ref01_plus_0b n v m w cs18 t6 t7) = some (.normal, s_) ∧ nM fn_ref01_plus 0 s_ = (L_ref01_plus_0b n v m w (putCells cs18 (0 + (t7.toNat * 1)) [uN ((IntKind.u32.wrap ((IntKind.u32.wrap (t6 + ((dgt w t7.toNat : Nat) : Int))) + ((dgt v t7.toNat : Nat) : Int))).tmod (1000000000 : Int))]) (IntKind.u32.wrap ((IntKind.u32.wrap ((IntKind.u32.wrap (t6 + ((dgt w t7.toNat : Nat) : Int))) + ((dgt v t7.toNat : Nat) : Int))).tdiv (1000000000 : Int))) (IntKind.i64.wrap (t7 + (1 : Int)))) :=
  rd_fill hio (h := true) (orc := [.br true, .val (uN ((dgt w t7.toNat : Nat) : Int)), .br true, .val (uN ((dgt v t7.toNat : Nat) : Int))]) (q0 := 18) (c0 := putCells cs18 (0 + (t7.toNat * 1)) [uN ((IntKind.u32.wrap ((IntKind.u32.wrap (t6 + ((dgt w t7.toNat : Nat) : Int))) + ((dgt v t7.toNat : Nat) : Int))).tmod (1000000000 : Int))]) (n0 := (L_ref01_plus_0b n v m w ([]) (IntKind.u32.wrap ((IntKind.u32.wrap ((IntKind.u32.wrap (t6 + ((dgt w t7.toNat : Nat) : Int))) + ((dgt v t7.toNat : Nat) : Int))).tdiv (1000000000 : Int))) (IntKind.i64.wrap (t7 + (1 : Int))))) (by kernel_rfl) (owc h0 (owc h1 (owc h2 (owc h3 (owc h4 (owc h5 (owc h6 (owc h7 (owc h8 (ow1 h9)))))))))) (by kernel_rfl) (by kernel_rfl) (by kernel_rfl) hn18

noncomputable def X_ref01_plus_0b_1 (n v m w : Nat) (cs18 : List MV) (t6 t7 : Int) : St := xr true fn_ref01_plus 0 (L_ref01_plus_0b n v m w cs18 t6 t7) [.br false]

theorem r_ref01_plus_0b_1 {T : Tab} (hio : TO T) (n v m w : Nat) (cs18 : List MV) (t6 t7 : Int) (h0 : (bN (decide (t7 < (m : Int))) : MV) = .sc (.bool false)) : gC T fn_ref01_plus 0 (L_ref01_plus_0b n v m w cs18 t6 t7) = some (.exit 0, (X_ref01_plus_0b_1 n v m w cs18 t6 t7)) :=
  ex_ok hio (h := true) (orc := [.br false]) (by kernel_rfl) (ow1 h0)

theorem r_ref01_plus_0b_2 {T : Tab} (hio : TO T) (n v m w : Nat) (cs18 : List MV) (t6 t7 : Int) (h0 : (bN (decide (t7 < (m : Int))) : MV) = .sc (.bool true)) (h1 : (0 : Int) ≤ t7 ∧ t7 < ((m : Nat) : Int) ∧ ((dg m w) : List MV) ≠ []) (h2 : takeAs false 1 ((dg m w).drop (t7.toNat * 1)) = some (uN ((dgt w t7.toNat : Nat) : Int))) (h3 : (bN (decide (t7 < (n : Int))) : MV) = .sc (.bool false)) (h4 : (1000000000 : Int) ≠ 0) (h5 : (0 : Int) ≤ t7 ∧ t7 < (((IntKind.i64.wrap ((m : Int) + (1 : Int))).toNat : Nat) : Int)) (h6 : 1 = 1 ∧ false = false ∧ 1 = 1 ∧ (0 + (t7.toNat * 1)) + 1 ≤ cs18.length) (h7 : (1000000000 : Int) ≠ 0) (hn18 : NoNames (putCells cs18 (0 + (t7.toNat * 1)) [uN ((IntKind.u32.wrap (t6 + ((dgt w t7.toNat : Nat) : Int))).tmod (1000000000 : Int))])) : ∃ s_, gC T fn_ref01_plus 0 (L_ref01_plus_0b n v m w cs18 t6 t7) = some (.normal, s_) ∧ nM fn_ref01_plus 0 s_ = (L_ref01_plus_0b n v m w (putCells cs18 (0 + (t7.toNat * 1)) [uN ((IntKind.u32.wrap (t6 + ((dgt w t7.toNat : Nat) : Int))).tmod (1000000000 : Int))]) (IntKind.u32.wrap ((IntKind.u32.wrap (t6 + ((dgt w t7.toNat : Nat) : Int))).tdiv (1000000000 : Int))) (IntKind.i64.wrap (t7 + (1 : Int)))) :=
  rd_fill hio (h := true) (orc := [.br true, .val (uN ((dgt w t7.toNat : Nat) : Int)), .br false]) (q0 := 18) (c0 := putCells cs18 (0 + (t7.toNat * 1)) [uN ((IntKind.u32.wrap (t6 + ((dgt w t7.toNat : Nat) : Int))).tmod (1000000000 : Int))]) (n0 := (L_ref01_plus_0b n v m w ([]) (IntKind.u32.wrap ((IntKind.u32.wrap (t6 + ((dgt w t7.toNat : Nat) : Int))).tdiv (1000000000 : Int))) (IntKind.i64.wrap (t7 + (1 : Int))))) (by kernel_rfl) (owc h0 (owc h1 (owc h2 (owc h3 (owc h4 (owc h5 (owc h6 (ow1 h7)))))))) (by kernel_rfl) (by kernel_rfl) (by kernel_rfl) hn18

theorem p_ref01_plusb_x0_0 {T : Tab} (hio : TO T) (n v m w q r : Nat) (cs18 : List MV) (t6 t7 : Int) (h0 : (bN (decide ((n : Int) < (m : Int))) : MV) = .sc (.bool true)) (h1 : (0 : Int) ≤ (IntKind.i64.wrap ((m : Int) + (1 : Int))) ∧ (IntKind.i64.wrap ((m : Int) + (1 : Int))) ≤ (IntKind.i64.wrap ((m : Int) + (1 : Int))) ∧ ((4 : Nat) : Int) * (IntKind.i64.wrap ((m : Int) + (1 : Int))) ≤ 281474976710656 ∧ (IntKind.i64.wrap ((m : Int) + (1 : Int))) ≤ 4611686018427387904) (h2 : lp T fn_ref01_plus 0 (L_ref01_plus_0b n v m w (repCells [uN 0] ((IntKind.i64.wrap ((m : Int) + (1 : Int))).toNat)) 0 0) (.exit 0) (X_ref01_plus_0b_1 n v m w cs18 t6 t7)) (h3 : (0 : Int) ≤ (m : Int) ∧ (m : Int) < (((IntKind.i64.wrap ((m : Int) + (1 : Int))).toNat : Nat) : Int)) (h4 : 1 = 1 ∧ false = false ∧ 1 = 1 ∧ (0 + (m * 1)) + 1 ≤ cs18.length) (h5 : 1 = 1 ∧ 1 ≠ 0 ∧ 0 + (((IntKind.i64.wrap ((m : Int) + (1 : Int))).toNat) * 1) ≤ ((putCells cs18 (0 + (m * 1)) [uN t6]).length) ∧ Plain ((putCells cs18 (0 + (m * 1)) [uN t6]).take (((IntKind.i64.wrap ((m : Int) + (1 : Int))).toNat) * 1))) (h6 : T.call fn_ref01_trim [MV.fs ((IntKind.i64.wrap ((m : Int) + (1 : Int))).toNat) (some ((IntKind.i64.wrap ((m : Int) + (1 : Int))).toNat)) ((putCells cs18 (0 + (m * 1)) [uN t6]).take (((IntKind.i64.wrap ((m : Int) + (1 : Int))).toNat) * 1))] = some (MV.fs q none (dg q r), [])) : evalBody PG T FUEL (ioF fn_ref01_plus) fn_ref01_plus [MV.fs n none (dg n v), MV.fs m none (dg m w)] = some (MV.fs q none (dg q r), []) :=
  xBody_io (hard := true) hio (orc := [.br true, .loop (.exit 0) (X_ref01_plus_0b_1 n v m w cs18 t6 t7), .call (MV.fs q none (dg q r)) []]) (by kernel_rfl) (owc h0 (owc h1 (owc (lpI (i_ref01_plus_0b n v m w) h2) (owc h3 (owc h4 (owc h5 (ow1 h6)))))))

def L_ref01_minus_0 (n v m w : Nat) (cs11 : List MV) (t6 t7 : Int) : St := { sl := [MV.fs n none (dg n v), MV.fs m none (dg m w), undefM, undefM, MV.fs 0 (some 0) [], MV.row 11 1 0 n (some n) 1, uN t6, iN t7] ++ rp 37 MV.any, en := rp 11 none ++ [some ⟨1, cs11, false⟩] ++ rp 33 none, ck := 2 }

noncomputable def I_ref01_minus_0 (n v m w : Nat) : St := xe true fn_ref01_minus [MV.fs n none (dg n v), MV.fs m none (dg m w)] [MV.fs n none (dg n v), MV.fs m none (dg m w)] [.halt]

theorem i_ref01_minus_0 (n v m w : Nat)  : nM fn_ref01_minus 0 (I_ref01_minus_0 n v m w) = (L_ref01_minus_0 n v m w (repCells [uN 0] n) 0 0) :=
  nm_fill (w := WF fn_ref01_minus (bodyOf PG fn_ref01_minus 0)) (S := (I_ref01_minus_0 n v m w)) (q0 := 11) (c0 := repCells [uN 0] n) (n0 := (L_ref01_minus_0 n v m w ([]) 0 0)) (by kernel_rfl) (by kernel_rfl) (by kernel_rfl) (rep_nn _)

theorem r_ref01_minus_0_0 {T : Tab} (hio : TO T) (n v m w : Nat) (cs11 : List MV) (t6 t7 : Int) (h0 : (bN (decide (t7 < (n : Int))) : MV) = .sc (.bool true)) (h1 : (0 : Int) ≤ t7 ∧ t7 < ((n : Nat) : Int) ∧ ((dg n v) : List MV) ≠ []) (h2 : takeAs false 1 ((dg n v).drop (t7.toNat * 1)) = some (uN ((dgt v t7.toNat : Nat) : Int))) (h3 : (bN (decide (t7 < (m : Int))) : MV) = .sc (.bool true)) (h4 : (0 : Int) ≤ t7 ∧ t7 < ((m : Nat) : Int) ∧ ((dg m w) : List MV) ≠ []) (h5 : takeAs false 1 ((dg m w).drop (t7.toNat * 1)) = some (uN ((dgt w t7.toNat : Nat) : Int))) (h6 : (bN (decide ((IntKind.u32.wrap ((IntKind.u32.wrap ((IntKind.u32.wrap (((dgt v t7.toNat : Nat) : Int) + (1000000000 : Int))) - t6)) - ((dgt w t7.toNat : Nat) : Int))) ≥ (1000000000 : Int))) : MV) = .sc (.bool true)) (h7 : (0 : Int) ≤ t7 ∧ t7 < ((n : Nat) : Int)) (h8 : 1 = 1 ∧ false = false ∧ 1 = 1 ∧ (0 + (t7.toNat * 1)) + 1 ≤ cs11.length) (hn11 : NoNames (putCells cs11 (0 + (t7.toNat * 1)) [uN (IntKind.u32.wrap ((IntKind.u32.wrap ((IntKind.u32.wrap ((IntKind.u32.wrap (((dgt v t7.toNat : Nat) : Int) + (1000000000 : Int))) - t6)) - ((dgt w t7.toNat : Nat) : Int))) - (1000000000 : Int)))])) : ∃ s_, gC T fn_ref01_minus 0 (L_ref01_minus_0 n v m w cs11 t6 t7) = some (.normal, s_) ∧ nM fn_ref01_minus 0 s_ = (L_ref01_minus_0 n v m w (putCells cs11 (0 + (t7.toNat * 1)) [uN (IntKind.u32.wrap ((IntKind.u32.wrap ((IntKind.u32.wrap ((IntKind.u32.wrap (((dgt v t7.toNat : Nat) : Int) + (1000000000 : Int))) - t6)) - ((dgt w t7.toNat : Nat) : Int))) - (1000000000 : Int)))]) 0 (IntKind.i64.wrap (t7 + (1 : Int)))) :=
  rd_fill hio (h := true) (orc := [.br true, .val (uN ((dgt v t7.toNat : Nat) : Int)), .br true, .val (uN ((dgt w t7.toNat : Nat) : Int)), .br true]) (q0 := 11) (c0 := putCells cs11 (0 + (t7.toNat * 1)) [uN (IntKind.u32.wrap ((IntKind.u32.wrap ((IntKind.u32.wrap ((IntKind.u32.wrap (((dgt v t7.toNat : Nat) : Int) + (1000000000 : Int))) - t6)) - ((dgt w t7.toNat : Nat) : Int))) - (1000000000 : Int)))]) (n0 := (L_ref01_minus_0 n v m w ([]) 0 (IntKind.i64.wrap (t7 + (1 : Int))))) (by kernel_rfl) (owc h0 (owc h1 (owc h2 (owc h3 (owc h4 (owc h5 (owc h6 (owc h7 (ow1 h8))))))))) (by kernel_rfl) (by kernel_rfl) (by kernel_rfl) hn11

noncomputable def X_ref01_minus_0_1 (n v m w : Nat) (cs11 : List MV) (t6 t7 : Int) : St := xr true fn_ref01_minus 0 (L_ref01_minus_0 n v m w cs11 t6 t7) [.br false]

theorem r_ref01_minus_0_1 {T : Tab} (hio : TO T) (n v m w : Nat) (cs11 : List MV) (t6 t7 : Int) (h0 : (bN (decide (t7 < (n : Int))) : MV) = .sc (.bool false)) : gC T fn_ref01_minus 0 (L_ref01_minus_0 n v m w cs11 t6 t7) = some (.exit 0, (X_ref01_minus_0_1 n v m w cs11 t6 t7)) :=
  ex_ok hio (h := true) (orc := [.br false]) (by kernel_rfl) (ow1 h0)

theorem r_ref01_minus_0_2 {T : Tab} (hio : TO T) (n v m w : Nat) (cs11 : List MV) (t6 t7 : Int) (h0 : (bN (decide (t7 < (n : Int))) : MV) = .sc (.bool true)) (h1 : (0 : Int) ≤ t7 ∧ t7 < ((n : Nat) : Int) ∧ ((dg n v) : List MV) ≠ []) (h2 : takeAs false 1 ((dg n v).drop (t7.toNat * 1)) = some (uN ((dgt v t7.toNat : Nat) : Int))) (h3 : (bN (decide (t7 < (m : Int))) : MV) = .sc (.bool false)) (h4 : (bN (decide ((IntKind.u32.wrap ((IntKind.u32.wrap (((dgt v t7.toNat : Nat) : Int) + (1000000000 : Int))) - t6)) ≥ (1000000000 : Int))) : MV) = .sc (.bool true)) (h5 : (0 : Int) ≤ t7 ∧ t7 < ((n : Nat) : Int)) (h6 : 1 = 1 ∧ false = false ∧ 1 = 1 ∧ (0 + (t7.toNat * 1)) + 1 ≤ cs11.length) (hn11 : NoNames (putCells cs11 (0 + (t7.toNat * 1)) [uN (IntKind.u32.wrap ((IntKind.u32.wrap ((IntKind.u32.wrap (((dgt v t7.toNat : Nat) : Int) + (1000000000 : Int))) - t6)) - (1000000000 : Int)))])) : ∃ s_, gC T fn_ref01_minus 0 (L_ref01_minus_0 n v m w cs11 t6 t7) = some (.normal, s_) ∧ nM fn_ref01_minus 0 s_ = (L_ref01_minus_0 n v m w (putCells cs11 (0 + (t7.toNat * 1)) [uN (IntKind.u32.wrap ((IntKind.u32.wrap ((IntKind.u32.wrap (((dgt v t7.toNat : Nat) : Int) + (1000000000 : Int))) - t6)) - (1000000000 : Int)))]) 0 (IntKind.i64.wrap (t7 + (1 : Int)))) :=
  rd_fill hio (h := true) (orc := [.br true, .val (uN ((dgt v t7.toNat : Nat) : Int)), .br false, .br true]) (q0 := 11) (c0 := putCells cs11 (0 + (t7.toNat * 1)) [uN (IntKind.u32.wrap ((IntKind.u32.wrap ((IntKind.u32.wrap (((dgt v t7.toNat : Nat) : Int) + (1000000000 : Int))) - t6)) - (1000000000 : Int)))]) (n0 := (L_ref01_minus_0 n v m w ([]) 0 (IntKind.i64.wrap (t7 + (1 : Int))))) (by kernel_rfl) (owc h0 (owc h1 (owc h2 (owc h3 (owc h4 (owc h5 (ow1 h6))))))) (by kernel_rfl) (by kernel_rfl) (by kernel_rfl) hn11

theorem r_ref01_minus_0_3 {T : Tab} (hio : TO T) (n v m w : Nat) (cs11 : List MV) (t6 t7 : Int) (h0 : (bN (decide (t7 < (n : Int))) : MV) = .sc (.bool true)) (h1 : (0 : Int) ≤ t7 ∧ t7 < ((n : Nat) : Int) ∧ ((dg n v) : List MV) ≠ []) (h2 : takeAs false 1 ((dg n v).drop (t7.toNat * 1)) = some (uN ((dgt v t7.toNat : Nat) : Int))) (h3 : (bN (decide (t7 < (m : Int))) : MV) = .sc (.bool false)) (h4 : (bN (decide ((IntKind.u32.wrap ((IntKind.u32.wrap (((dgt v t7.toNat : Nat) : Int) + (1000000000 : Int))) - t6)) ≥ (1000000000 : Int))) : MV) = .sc (.bool false)) (h5 : (0 : Int) ≤ t7 ∧ t7 < ((n : Nat) : Int)) (h6 : 1 = 1 ∧ false = false ∧ 1 = 1 ∧ (0 + (t7.toNat * 1)) + 1 ≤ cs11.length) (hn11 : NoNames (putCells cs11 (0 + (t7.toNat * 1)) [uN (IntKind.u32.wrap ((IntKind.u32.wrap (((dgt v t7.toNat : Nat) : Int) + (1000000000 : Int))) - t6))])) : ∃ s_, gC T fn_ref01_minus 0 (L_ref01_minus_0 n v m w cs11 t6 t7) = some (.normal, s_) ∧ nM fn_ref01_minus 0 s_ = (L_ref01_minus_0 n v m w (putCells cs11 (0 + (t7.toNat * 1)) [uN (IntKind.u32.wrap ((IntKind.u32.wrap (((dgt v t7.toNat : Nat) : Int) + (1000000000 : Int))) - t6))]) 1 (IntKind.i64.wrap (t7 + (1 : Int)))) :=
  rd_fill hio (h := true) (orc := [.br true, .val (uN ((dgt v t7.toNat : Nat) : Int)), .br false, .br false]) (q0 := 11) (c0 := putCells cs11 (0 + (t7.toNat * 1)) [uN (IntKind.u32.wrap ((IntKind.u32.wrap (((dgt v t7.toNat : Nat) : Int) + (1000000000 : Int))) - t6))]) (n0 := (L_ref01_minus_0 n v m w ([]) 1 (IntKind.i64.wrap (t7 + (1 : Int))))) (by kernel_rfl) (owc h0 (owc h1 (owc h2 (owc h3 (owc h4 (owc h5 (ow1 h6))))))) (by kernel_rfl) (by kernel_rfl) (by kernel_rfl) hn11

theorem r_ref01_minus_0_4 {T : Tab} (hio : TO T) (n v m w : Nat) (cs11 : List MV) (t6 t7 : Int) (h0 : (bN (decide (t7 < (n : Int))) : MV) = .sc (.bool true)) (h1 : (0 : Int) ≤ t7 ∧ t7 < ((n : Nat) : Int) ∧ ((dg n v) : List MV) ≠ []) (h2 : takeAs false 1 ((dg n v).drop (t7.toNat * 1)) = some (uN ((dgt v t7.toNat : Nat) : Int))) (h3 : (bN (decide (t7 < (m : Int))) : MV) = .sc (.bool true)) (h4 : (0 : Int) ≤ t7 ∧ t7 < ((m : Nat) : Int) ∧ ((dg m w) : List MV) ≠ []) (h5 : takeAs false 1 ((dg m w).drop (t7.toNat * 1)) = some (uN ((dgt w t7.toNat : Nat) : Int))) (h6 : (bN (decide ((IntKind.u32.wrap ((IntKind.u32.wrap ((IntKind.u32.wrap (((dgt v t7.toNat : Nat) : Int) + (1000000000 : Int))) - t6)) - ((dgt w t7.toNat : Nat) : Int))) ≥ (1000000000 : Int))) : MV) = .sc (.bool false)) (h7 : (0 : Int) ≤ t7 ∧ t7 < ((n : Nat) : Int)) (h8 : 1 = 1 ∧ false = false ∧ 1 = 1 ∧ (0 + (t7.toNat * 1)) + 1 ≤ cs11.length) (hn11 : NoNames (putCells cs11 (0 + (t7.toNat * 1)) [uN (IntKind.u32.wrap ((IntKind.u32.wrap ((IntKind.u32.wrap (((dgt v t7.toNat : Nat) : Int) + (1000000000 : Int))) - t6)) - ((dgt w t7.toNat : Nat) : Int)))])) : ∃ s_, gC T fn_ref01_minus 0 (L_ref01_minus_0 n v m w cs11 t6 t7) = some (.normal, s_) ∧ nM fn_ref01_minus 0 s_ = (L_ref01_minus_0 n v m w (putCells cs11 (0 + (t7.toNat * 1)) [uN (IntKind.u32.wrap ((IntKind.u32.wrap ((IntKind.u32.wrap (((dgt v t7.toNat : Nat) : Int) + (1000000000 : Int))) - t6)) - ((dgt w t7.toNat : Nat) : Int)))]) 1 (IntKind.i64.wrap (t7 + (1 : Int)))) :=
  rd_fill hio (h := true) (orc := [.br true, .val (uN ((dgt v t7.toNat : Nat) : Int)), .br true, .val (uN ((dgt w t7.toNat : Nat) : Int)), .br false]) (q0 := 11) (c0 := putCells cs11 (0 + (t7.toNat * 1)) [uN (IntKind.u32.wrap ((IntKind.u32.wrap ((IntKind.u32.wrap (((dgt v t7.toNat : Nat) : Int) + (1000000000 : Int))) - t6)) - ((dgt w t7.toNat : Nat) : Int)))]) (n0 := (L_ref01_minus_0 n v m w ([]) 1 (IntKind.i64.wrap (t7 + (1 : Int))))) (by kernel_rfl) (owc h0 (owc h1 (owc h2 (owc h3 (owc h4 (owc h5 (owc h6 (owc h7 (ow1 h8))))))))) (by kernel_rfl) (by kernel_rfl) (by kernel_rfl) hn11

theorem p_ref01_minus_x0_0 {T : Tab} (hio : TO T) (n v m w q r : Nat) (cs11 : List MV) (t6 t7 : Int) (h0 : (0 : Int) ≤ (n : Int) ∧ (n : Int) ≤ (n : Int) ∧ ((4 : Nat) : Int) * (n : Int) ≤ 281474976710656 ∧ (n : Int) ≤ 4611686018427387904) (h1 : lp T fn_ref01_minus 0 (L_ref01_minus_0 n v m w (repCells [uN 0] n) 0 0) (.exit 0) (X_ref01_minus_0_1 n v m w cs11 t6 t7)) (h2 : 1 = 1 ∧ 1 ≠ 0 ∧ 0 + (n * 1) ≤ cs11.length ∧ Plain (cs11.take (n * 1))) (h3 : T.call fn_ref01_trim [MV.fs n (some n) (cs11.take (n * 1))] = some (MV.fs q none (dg q r), [])) : evalBody PG T FUEL (ioF fn_ref01_minus) fn_ref01_minus [MV.fs n none (dg n v), MV.fs m none (dg m w)] = some (MV.fs q none (dg q r), []) :=
  xBody_io (hard := true) hio (orc := [.loop (.exit 0) (X_ref01_minus_0_1 n v m w cs11 t6 t7), .call (MV.fs q none (dg q r)) []]) (by kernel_rfl) (owc h0 (owc (lpI (i_ref01_minus_0 n v m w) h1) (owc h2 (ow1 h3))))

def L_ref01_times_0 (n v m w : Nat) (cs14 : List MV) (t6 : Int) : St := { sl := [MV.fs n none (dg n v), MV.fs m none (dg m w), undefM, undefM, MV.fs 0 (some 0) [], MV.row 14 1 0 ((IntKind.i64.wrap ((n : Int) + (m : Int))).toNat) (some ((IntKind.i64.wrap ((n : Int) + (m : Int))).toNat)) 1, iN t6] ++ rp 61 MV.any, en := rp 14 none ++ [some ⟨1, cs14, false⟩] ++ rp 53 none, ck := 2 }

noncomputable def I_ref01_times_0 (n v m w : Nat) : St := xe true fn_ref01_times [MV.fs n none (dg n v), MV.fs m none (dg m w)] [MV.fs n none (dg n v), MV.fs m none (dg m w)] [.halt]

theorem i_ref01_times_0 (n v m w : Nat)  : nM fn_ref01_times 0 (I_ref01_times_0 n v m w) = (L_ref01_times_0 n v m w (repCells [uN 0] ((IntKind.i64.wrap ((n : Int) + (m : Int))).toNat)) 0) :=
  nm_fill (w := WF fn_ref01_times (bodyOf PG fn_ref01_times 0)) (S := (I_ref01_times_0 n v m w)) (q0 := 14) (c0 := repCells [uN 0] ((IntKind.i64.wrap ((n : Int) + (m : Int))).toNat)) (n0 := (L_ref01_times_0 n v m w ([]) 0)) (by kernel_rfl) (by kernel_rfl) (by kernel_rfl) (rep_nn _)

def L_ref01_times_1 (n v m w : Nat) (cs14 cs14k : List MV) (t6 t7k t8k : Int) : St := { sl := [MV.fs n none (dg n v), MV.fs m none (dg m w), undefM, undefM, MV.fs 0 (some 0) [], MV.row 14 1 0 ((IntKind.i64.wrap ((n : Int) + (m : Int))).toNat) (some ((IntKind.i64.wrap ((n : Int) + (m : Int))).toNat)) 1, iN t6, wN t7k, iN t8k] ++ rp 59 MV.any, en := rp 14 none ++ [some ⟨1, cs14k, false⟩] ++ rp 53 none, ck := 2 }

noncomputable def I_ref01_times_1 (n v m w : Nat) (cs14 : List MV) (t6 : Int) : St := xr true fn_ref01_times 0 (L_ref01_times_0 n v m w cs14 t6) [.br true, .halt]

theorem i_ref01_times_1 (n v m w : Nat) (cs14 : List MV) (t6 : Int) (hn14 : NoNames cs14) : nM fn_ref01_times 1 (I_ref01_times_1 n v m w cs14 t6) = (L_ref01_times_1 n v m w cs14 cs14 t6 0 0) :=
  nm_fill (w := WF fn_ref01_times (bodyOf PG fn_ref01_times 1)) (S := (I_ref01_times_1 n v m w cs14 t6)) (q0 := 14) (c0 := cs14) (n0 := (L_ref01_times_1 n v m w cs14 ([]) t6 0 0)) (by kernel_rfl) (by kernel_rfl) (by kernel_rfl) hn14

theorem r_ref01_times_1_0 {T : Tab} (hio : TO T) (n v m w : Nat) (cs14 cs14k : List MV) (t6 t7k t8k x0 : Int) (h0 : (bN (decide (t8k < (m : Int))) : MV) = .sc (.bool true)) (h1 : (0 : Int) ≤ (IntKind.i64.wrap (t6 + t8k)) ∧ (IntKind.i64.wrap (t6 + t8k)) < (((IntKind.i64.wrap ((n : Int) + (m : Int))).toNat : Nat) : Int)) (h2 : takeAs false 1 (cs14k.drop (0 + (((IntKind.i64.wrap (t6 + t8k)).toNat) * 1))) = some (uN x0)) (h3 : (0 : Int) ≤ t6 ∧ t6 < ((n : Nat) : Int) ∧ ((dg n v) : List MV) ≠ []) (h4 : takeAs false 1 ((dg n v).drop (t6.toNat * 1)) = some (uN ((dgt v t6.toNat : Nat) : Int))) (h5 : (0 : Int) ≤ t8k ∧ t8k < ((m : Nat) : Int) ∧ ((dg m w) : List MV) ≠ []) (h6 : takeAs false 1 ((dg m w).drop (t8k.toNat * 1)) = some (uN ((dgt w t8k.toNat : Nat) : Int))) (h7 : (1000000000 : Int) ≠ 0) (h8 : (0 : Int) ≤ (IntKind.i64.wrap (t6 + t8k)) ∧ (IntKind.i64.wrap (t6 + t8k)) < (((IntKind.i64.wrap ((n : Int) + (m : Int))).toNat : Nat) : Int)) (h9 : 1 = 1 ∧ false = false ∧ 1 = 1 ∧ (0 + (((IntKind.i64.wrap (t6 + t8k)).toNat) * 1)) + 1 ≤ cs14k.length) (h10 : (1000000000 : Int) ≠ 0) (hn14 : NoNames (putCells cs14k (0 + (((IntKind.i64.wrap (t6 + t8k)).toNat) * 1)) [uN (IntKind.u32.wrap ((IntKind.u64.wrap ((IntKind.u64.wrap (t7k + (IntKind.u64.wrap x0))) + (IntKind.u64.wrap ((IntKind.u64.wrap ((dgt v t6.toNat : Nat) : Int)) * (IntKind.u64.wrap ((dgt w t8k.toNat : Nat) : Int)))))).tmod (1000000000 : Int)))])) : ∃ s_, gC T fn_ref01_times 1 (L_ref01_times_1 n v m w cs14 cs14k t6 t7k t8k) = some (.normal, s_) ∧ nM fn_ref01_times 1 s_ = (L_ref01_times_1 n v m w cs14 (putCells cs14k (0 + (((IntKind.i64.wrap (t6 + t8k)).toNat) * 1)) [uN (IntKind.u32.wrap ((IntKind.u64.wrap ((IntKind.u64.wrap (t7k + (IntKind.u64.wrap x0))) + (IntKind.u64.wrap ((IntKind.u64.wrap ((dgt v t6.toNat : Nat) : Int)) * (IntKind.u64.wrap ((dgt w t8k.toNat : Nat) : Int)))))).tmod (1000000000 : Int)))]) t6 (IntKind.u64.wrap ((IntKind.u64.wrap ((IntKind.u64.wrap (t7k + (IntKind.u64.wrap x0))) + (IntKind.u64.wrap ((IntKind.u64.wrap ((dgt v t6.toNat : Nat) : Int)) * (IntKind.u64.wrap ((dgt w t8k.toNat : Nat) : Int)))))).tdiv (1000000000 : Int))) (IntKind.i64.wrap (t8k + (1 : Int)))) :=
  rd_fill hio (h := true) (orc := [.br true, .val (uN x0), .val (uN ((dgt v t6.toNat : Nat) : Int)), .val (uN ((dgt w t8k.toNat : Nat) : Int))]) (q0 := 14) (c0 := putCells cs14k (0 + (((IntKind.i64.wrap (t6 + t8k)).toNat) * 1)) [uN (IntKind.u32.wrap ((IntKind.u64.wrap ((IntKind.u64.wrap (t7k + (IntKind.u64.wrap x0))) + (IntKind.u64.wrap ((IntKind.u64.wrap ((dgt v t6.toNat : Nat) : Int)) * (IntKind.u64.wrap ((dgt w t8k.toNat : Nat) : Int)))))).tmod (1000000000 : Int)))]) (n0 := (L_ref01_times_1 n v m w cs14 ([]) t6 (IntKind.u64.wrap ((IntKind.u64.wrap ((IntKind.u64.wrap (t7k + (IntKind.u64.wrap x0))) + (IntKind.u64.wrap ((IntKind.u64.wrap ((dgt v t6.toNat : Nat) : Int)) * (IntKind.u64.wrap ((dgt w t8k.toNat : Nat) : Int)))))).tdiv (1000000000 : Int))) (IntKind.i64.wrap (t8k + (1 : Int))))) (by kernel_rfl) (owc h0 (owc h1 (owc h2 (owc h3 (owc h4 (owc h5 (owc h6 (owc h7 (owc h8 (owc h9 (ow1 h10))))))))))) (by kernel_rfl) (by kernel_rfl) (by kernel_rfl) hn14

noncomputable def X_ref01_times_1_1 (n v m w : Nat) (cs14 cs14k : List MV) (t6 t7k t8k : Int) : St := xr true fn_ref01_times 1 (L_ref01_times_1 n v m w cs14 cs14k t6 t7k t8k) [.br false]

theorem r_ref01_times_1_1 {T : Tab} (hio : TO T) (n v m w : Nat) (cs14 cs14k : List MV) (t6 t7k t8k : Int) (h0 : (bN (decide (t8k < (m : Int))) : MV) = .sc (.bool false)) : gC T fn_ref01_times 1 (L_ref01_times_1 n v m w cs14 cs14k t6 t7k t8k) = some (.exit 2, (X_ref01_times_1_1 n v m w cs14 cs14k t6 t7k t8k)) :=
  ex_ok hio (h := true) (orc := [.br false]) (by kernel_rfl) (ow1 h0)

theorem r_ref01_times_0_0 {T : Tab} (hio : TO T) (n v m w : Nat) (cs14 cs14k : List MV) (t6 t7k t8k : Int) (h0 : (bN (decide (t6 < (n : Int))) : MV) = .sc (.bool true)) (h1 : lp T fn_ref01_times 1 (L_ref01_times_1 n v m w cs14 cs14 t6 0 0) (.exit 2) (X_ref01_times_1_1 n v m w cs14 cs14k t6 t7k t8k)) (hm14 : NoNames cs14) (h2 : (0 : Int) ≤ (IntKind.i64.wrap (t6 + (m : Int))) ∧ (IntKind.i64.wrap (t6 + (m : Int))) < (((IntKind.i64.wrap ((n : Int) + (m : Int))).toNat : Nat) : Int)) (h3 : 1 = 1 ∧ false = false ∧ 1 = 1 ∧ (0 + (((IntKind.i64.wrap (t6 + (m : Int))).toNat) * 1)) + 1 ≤ cs14k.length) (hn14 : NoNames (putCells cs14k (0 + (((IntKind.i64.wrap (t6 + (m : Int))).toNat) * 1)) [uN (IntKind.u32.wrap t7k)])) : ∃ s_, gC T fn_ref01_times 0 (L_ref01_times_0 n v m w cs14 t6) = some (.normal, s_) ∧ nM fn_ref01_times 0 s_ = (L_ref01_times_0 n v m w (putCells cs14k (0 + (((IntKind.i64.wrap (t6 + (m : Int))).toNat) * 1)) [uN (IntKind.u32.wrap t7k)]) (IntKind.i64.wrap (t6 + (1 : Int)))) :=
  rd_fill hio (h := true) (orc := [.br true, .loop (.exit 2) (X_ref01_times_1_1 n v m w cs14 cs14k t6 t7k t8k)]) (q0 := 14) (c0 := putCells cs14k (0 + (((IntKind.i64.wrap (t6 + (m : Int))).toNat) * 1)) [uN (IntKind.u32.wrap t7k)]) (n0 := (L_ref01_times_0 n v m w ([]) (IntKind.i64.wrap (t6 + (1 : Int))))) (by kernel_rfl) (owc h0 (owc (lpI (i_ref01_times_1 n v m w cs14 t6 hm14) h1) (owc h2 (ow1 h3)))) (by kernel_rfl) (by kernel_rfl) (by kernel_rfl) hn14

noncomputable def X_ref01_times_0_1 (n v m w : Nat) (cs14 : List MV) (t6 : Int) : St := xr true fn_ref01_times 0 (L_ref01_times_0 n v m w cs14 t6) [.br false]

theorem r_ref01_times_0_1 {T : Tab} (hio : TO T) (n v m w : Nat) (cs14 : List MV) (t6 : Int) (h0 : (bN (decide (t6 < (n : Int))) : MV) = .sc (.bool false)) : gC T fn_ref01_times 0 (L_ref01_times_0 n v m w cs14 t6) = some (.exit 0, (X_ref01_times_0_1 n v m w cs14 t6)) :=
  ex_ok hio (h := true) (orc := [.br false]) (by kernel_rfl) (ow1 h0)

theorem p_ref01_times_x0_0 {T : Tab} (hio : TO T) (n v m w q r : Nat) (cs14 : List MV) (t6 : Int) (h0 : (0 : Int) ≤ (IntKind.i64.wrap ((n : Int) + (m : Int))) ∧ (IntKind.i64.wrap ((n : Int) + (m : Int))) ≤ (IntKind.i64.wrap ((n : Int) + (m : Int))) ∧ ((4 : Nat) : Int) * (IntKind.i64.wrap ((n : Int) + (m : Int))) ≤ 281474976710656 ∧ (IntKind.i64.wrap ((n : Int) + (m : Int))) ≤ 4611686018427387904) (h1 : lp T fn_ref01_times 0 (L_ref01_times_0 n v m w (repCells [uN 0] ((IntKind.i64.wrap ((n : Int) + (m : Int))).toNat)) 0) (.exit 0) (X_ref01_times_0_1 n v m w cs14 t6)) (h2 : 1 = 1 ∧ 1 ≠ 0 ∧ 0 + (((IntKind.i64.wrap ((n : Int) + (m : Int))).toNat) * 1) ≤ cs14.length ∧ Plain (cs14.take (((IntKind.i64.wrap ((n : Int) + (m : Int))).toNat) * 1))) (h3 : T.call fn_ref01_trim [MV.fs ((IntKind.i64.wrap ((n : Int) + (m : Int))).toNat) (some ((IntKind.i64.wrap ((n : Int) + (m : Int))).toNat)) (cs14.take (((IntKind.i64.wrap ((n : Int) + (m : Int))).toNat) * 1))] = some (MV.fs q none (dg q r), [])) : evalBody PG T FUEL (ioF fn_ref01_times) fn_ref01_times [MV.fs n none (dg n v), MV.fs m none (dg m w)] = some (MV.fs q none (dg q r), []) :=
  xBody_io (hard := true) hio (orc := [.loop (.exit 0) (X_ref01_times_0_1 n v m w cs14 t6), .call (MV.fs q none (dg q r)) []]) (by kernel_rfl) (owc h0 (owc (lpI (i_ref01_times_0 n v m w) h1) (owc h2 (ow1 h3))))

end Go.Proofs.YtkeelkeoijemiaaGreat.Ev

namespace Go.Proofs.YtkeelkeoijemiaaGreat.Ev
open Go Go.RowKit
set_option linter.unusedVariables false
set_option linter.unusedSimpArgs false

theorem c_ref01_trim {m : Nat} (hm : 0 < m) {v k : Nat} {c : Option Nat} (hv : v < BB ^ k) (hk : k < 100000) : (TU m).call fn_ref01_trim [.fs k c (dg k v)] = some (.fs (nl v) none (dg (nl v) v), []) := by
  have hio := TU_io (m - 1)
  have hnl := nl_le hv
  obtain ⟨s, ⟨c', rfl⟩, hl⟩ := loop_to (G := gC (TU (m - 1)) fn_ref01_trim 0) (nm := nM fn_ref01_trim 0)
    (fun i s => ∃ c, s = L_ref01_trim_0 k v (k - i) c (dg (k - i) v)) (k - nl v) FUEL (L_ref01_trim_0 k v k none (dg k v)) (by
      rintro i s hi ⟨c', rfl⟩
      have hm : 0 < k - i := by omega
      have e1 : IntKind.i64.wrap (((k - i : Nat) : Int) - 1) = ((k - i - 1 : Nat) : Int) := by rw [i64s (by omega)]; omega
      obtain ⟨s', h1, h2⟩ := r_ref01_trim_0_0 hio k v (k - i) c' (dg (k - i) v) 0 (sc_b (decide_eq_true (by omega))) (by rw [e1]; exact ⟨by omega, by omega, dg_ne hm⟩)
        (by rw [e1, Int.toNat_natCast, dg_at (by omega), dgt_high (nl_lt v) (by omega)]; rfl) (sc_b rfl) (by rw [e1]; omega)
      rw [e1, Int.toNat_natCast, Nat.mul_one, dg_take (by omega)] at h2
      exact ⟨s', h1, _, h2⟩) ⟨none, by rw [Nat.sub_zero]⟩ (by unfold FUEL; omega)
  rw [show k - (k - nl v) = nl v by omega] at hl
  refine TU_call hm rfl rfl (args' := [.fs k none (dg k v)]) (by simp [uncaps, uncap]) (r := .fs (nl v) c' (dg (nl v) v)) ?_ (by simp [uncap])
  by_cases h0 : nl v = 0
  · exact p_ref01_trim_x0_0 hio k v (nl v) c' _ (hl _ _ (r_ref01_trim_0_1 hio k v (nl v) c' _ (sc_b (decide_eq_false (by omega)))) (by simp))
  · have hv0 : 0 < v := by
      cases v with
      | zero => exact absurd nl_zero h0
      | succ v => omega
    have e1 : IntKind.i64.wrap (((nl v : Nat) : Int) - 1) = ((nl v - 1 : Nat) : Int) := by rw [i64s (by omega)]; omega
    refine p_ref01_trim_x1_0 hio k v (nl v) c' _ (dgt v (nl v - 1) : Nat) (hl _ _ (r_ref01_trim_0_2 hio k v (nl v) c' _ _ (sc_b (decide_eq_true (by omega))) (by rw [e1]; exact ⟨by omega, by omega, dg_ne (by omega)⟩)
      (by rw [e1, Int.toNat_natCast, dg_at (by omega)]) (sc_b (by simpa using dgt_top' hv0))) (by simp))

theorem c_ref01_compare {m : Nat} (hm : 0 < m) {v w : Nat} {c d : Option Nat} (hk : nl v < 100000) (hl : nl w < 100000) :
    (TU m).call fn_ref01_compare [.fs (nl v) c (dg (nl v) v), .fs (nl w) d (dg (nl w) w)] = some (iN (cmpN v w), []) := by
  have hio := TU_io (m - 1)
  refine TU_call (by omega) rfl rfl (args' := [.fs (nl v) none (dg (nl v) v), .fs (nl w) none (dg (nl w) w)]) (by simp [uncaps, uncap]) (r := iN (cmpN v w)) ?_ rfl
  by_cases hne : nl v = nl w
  · -- as many limbs
    have hvw : v / BB ^ nl v = w / BB ^ nl v := by rw [Nat.div_eq_of_lt (nl_lt v), hne, Nat.div_eq_of_lt (nl_lt w)]
    have wr : ∀ i : Nat, i < nl v → IntKind.i64.wrap (((i : Nat) : Int) - 1) = ((i : Nat) : Int) - 1 := fun i hi => i64s (by omega)
    have br1 : (bN (((nl v : Nat) : Int) != ((nl w : Nat) : Int)) : MV) = .sc (.bool false) := sc_b (by simp [hne])
    -- rounds down to a place above which the limbs are equal
    have down : ∀ p : Nat, p ≤ nl v → (∀ i, p ≤ i → i < nl v → dgt v i = dgt w i) → ∀ o s', gC (TU (m - 1)) fn_ref01_compare 0 (L_ref01_compare_0 (nl v) v (nl w) w ((p : Int) - 1)) = some (o, s') → o ≠ .normal →
        lp (TU (m - 1)) fn_ref01_compare 0 (L_ref01_compare_0 (nl v) v (nl w) w (IntKind.i64.wrap (((nl v : Nat) : Int) - (1 : Int)))) o s' := by
      intro p hp heq
      obtain ⟨s, rfl, h⟩ := loop_to (G := gC (TU (m - 1)) fn_ref01_compare 0) (nm := nM fn_ref01_compare 0)
        (fun i s => s = L_ref01_compare_0 (nl v) v (nl w) w (((nl v - i : Nat) : Int) - 1)) (nl v - p) FUEL (L_ref01_compare_0 (nl v) v (nl w) w (IntKind.i64.wrap (((nl v : Nat) : Int) - (1 : Int)))) (by
          rintro i s hi rfl
          have e1 : (((nl v - i : Nat) : Int) - 1) = ((nl v - i - 1 : Nat) : Int) := by omega
          have hd := heq (nl v - i - 1) (by omega) (by omega)
          rw [e1]
          obtain ⟨s', h1, h2⟩ := r_ref01_compare_0_3 hio (nl v) v (nl w) w ((nl v - i - 1 : Nat) : Int) (sc_b (decide_eq_true (by omega))) ⟨by omega, by omega, dg_ne (by omega)⟩ (by exact dg_at (i := nl v - i - 1) (by omega))
            ⟨by omega, by omega, dg_ne (by omega)⟩ (by exact dg_at (i := nl v - i - 1) (by omega)) (sc_b (decide_eq_false (by rw [Int.toNat_natCast, hd]; omega))) ⟨by omega, by omega, dg_ne (by omega)⟩ (by exact dg_at (i := nl v - i - 1) (by omega))
            ⟨by omega, by omega, dg_ne (by omega)⟩ (by exact dg_at (i := nl v - i - 1) (by omega)) (sc_b (decide_eq_false (by rw [Int.toNat_natCast, hd]; omega)))
          rw [i64s (by omega)] at h2
          exact ⟨s', h1, h2⟩)
        (by rw [i64s (by omega), Nat.sub_zero]) (by unfold FUEL; omega)
      rw [show nl v - (nl v - p) = p by omega] at h
      exact h
    by_cases he : v = w
    · subst he
      have h := down 0 (by omega) (fun _ _ _ => rfl)
      refine (p_ref01_compare_x1_0 hio (nl v) v (nl v) v _ br1 (h _ _ (r_ref01_compare_0_1 hio (nl v) v (nl v) v _ (sc_b (decide_eq_false (by omega)))) (by simp))).trans ?_
      simp [cmpN]
    · obtain ⟨i, hi, habove, hd⟩ := cmp_place (nl v) hvw he
      have h := down (i + 1) (by omega) (fun q hq _ => cmp_above habove hq)
      have e1 : (((i + 1 : Nat) : Int) - 1) = ((i : Nat) : Int) := by omega
      rw [e1] at h
      by_cases hlt : dgt v i < dgt w i
      · have := cmp_lt habove hlt
        refine (p_ref01_compare_x0_1 hio (nl v) v (nl w) w _ br1 (h _ _ (r_ref01_compare_0_0 hio (nl v) v (nl w) w _ (sc_b (decide_eq_true (by omega))) ⟨by omega, by omega, dg_ne (by omega)⟩ (by exact dg_at (i := i) (by omega)) ⟨by omega, by omega, dg_ne (by omega)⟩ (by exact dg_at (i := i) (by omega)) (sc_b (decide_eq_true (by rw [Int.toNat_natCast]; omega)))) (by simp))).trans ?_
        rw [cmpN, if_pos this]
      · have := cmp_lt habove.symm (show dgt w i < dgt v i by omega)
        refine (p_ref01_compare_x2_0 hio (nl v) v (nl w) w _ br1 (h _ _ (r_ref01_compare_0_2 hio (nl v) v (nl w) w _ (sc_b (decide_eq_true (by omega))) ⟨by omega, by omega, dg_ne (by omega)⟩ (by exact dg_at (i := i) (by omega)) ⟨by omega, by omega, dg_ne (by omega)⟩ (by exact dg_at (i := i) (by omega)) (sc_b (decide_eq_false (by rw [Int.toNat_natCast]; omega))) ⟨by omega, by omega, dg_ne (by omega)⟩ (by exact dg_at (i := i) (by omega)) ⟨by omega, by omega, dg_ne (by omega)⟩ (by exact dg_at (i := i) (by omega)) (sc_b (decide_eq_true (by rw [Int.toNat_natCast]; omega)))) (by simp))).trans ?_
        rw [cmpN, if_neg (by omega), if_pos this]
  · have br1 : (bN (((nl v : Nat) : Int) != ((nl w : Nat) : Int)) : MV) = .sc (.bool true) := sc_b (by simp; omega)
    by_cases hlt : nl v < nl w
    · have : v < w := by apply Nat.lt_of_not_le; intro h; have := nl_mono h; omega
      refine (p_ref01_compare_x0_0 hio (nl v) v (nl w) w br1 (sc_b (decide_eq_true (by omega)))).trans ?_
      rw [cmpN, if_pos this]
    · have : w < v := by apply Nat.lt_of_not_le; intro h; have := nl_mono h; omega
      refine (p_ref01_compare_x0_2 hio (nl v) v (nl w) w br1 (sc_b (decide_eq_false (by omega)))).trans ?_
      rw [cmpN, if_neg (by omega), if_pos this]

theorem nl_zero_iff (v : Nat) : nl v = 0 ↔ v = 0 := ⟨fun h => by
  apply Nat.eq_zero_of_not_pos
  intro h0
  have := nl_pos h0
  omega, fun h => by rw [h]; exact nl_zero⟩
theorem c_ref01_signed {m : Nat} (hm : 1 < m) {v k : Nat} {s : Bool} {c : Option Nat} (hv : v < BB ^ k) (hk : k < 100000) : (TU m).call fn_ref01_signed [bN s, .fs k c (dg k v)] = some (iM (sgz s v), []) := by
  have hio := TU_io (m - 1)
  have t1 : (TU (m - 1)).call fn_ref01_trim [.fs k none (dg k v)] = _ := c_ref01_trim (by omega) hv hk
  have hz : decide (((nl v : Nat) : Int) > (0 : Int)) = decide (0 < v) := decide_eq_decide.2 ⟨fun h => by
    apply Nat.pos_of_ne_zero
    intro h0; rw [h0, nl_zero] at h; omega, fun h => by have := nl_pos h; omega⟩
  have fin : ∀ b, b = ng (sgz s v) → uncap (MV.agg [bN b, MV.fs (nl v) none (dg (nl v) v)]) = iM (sgz s v) := by
    rintro b rfl
    simp only [uncap, uncaps, uncaps_dg, iM, iC, nz, cz, sgz_abs]
  have e1 := sgz_ng s v
  refine TU_call (by omega) rfl rfl (args' := [bN s, .fs k none (dg k v)]) (by simp [uncaps, uncap]) (r := MV.agg [bN (s && decide (0 < v)), MV.fs (nl v) none (dg (nl v) v)]) ?_ (fin _ e1.symm)
  cases s with
  | true => exact (p_ref01_signed_0 hio k v true t1 rfl ⟨rfl, rfl, rfl, by decide⟩).trans (by rw [hz]; rfl)
  | false => exact (p_ref01_signed_1 hio k v false t1 rfl ⟨rfl, rfl, rfl, by decide⟩).trans rfl

theorem div_next (x i : Nat) : x / BB ^ i / BB = x / BB ^ (i + 1) := by rw [Nat.pow_succ, Nat.div_div_eq_div_mul]
theorem c_ref01_limbs {m : Nat} (hm : 0 < m) {x : Nat} (hx : x < 18446744073709551616) : (TU m).call fn_ref01_limbs [wN (x : Nat)] = some (.fs (nl x) none (dg (nl x) x), []) := by
  have hio := TU_io (m - 1)
  have eB : BB = 1000000000 := rfl
  have hn3 : nl x ≤ 3 := nl_le (Nat.lt_of_lt_of_le hx (by decide))
  have pos : ∀ i, i < nl x → 0 < x / BB ^ i := fun i hi => by
    apply Nat.div_pos _ (BBp i)
    have h0 : 0 < x := by
      apply Nat.pos_of_ne_zero
      intro h0; rw [h0, nl_zero] at hi; omega
    exact Nat.le_trans (Nat.pow_le_pow_right BB_pos (by omega)) (nl_low h0)
  have emod : ∀ i, IntKind.u32.wrap (((x / BB ^ i : Nat) : Int).tmod (1000000000 : Int)) = ((dgt x i : Nat) : Int) := fun i => by
    have d := dgt_lt x i
    rw [Int.tmod_eq_emod_of_nonneg (Int.natCast_nonneg _), modB]
    show IntKind.u32.wrap ((dgt x i : Nat) : Int) = _
    exact u32s (by omega)
  have ediv : ∀ i, IntKind.u64.wrap (((x / BB ^ i : Nat) : Int).tdiv (1000000000 : Int)) = ((x / BB ^ (i + 1) : Nat) : Int) := fun i => by
    have h1 : x / BB ^ (i + 1) ≤ x := Nat.div_le_self _ _
    rw [Int.tdiv_eq_ediv_of_nonneg (Int.natCast_nonneg _), divB, div_next]
    generalize x / BB ^ (i + 1) = y at h1 ⊢
    exact u64s (by omega)
  have gt : ∀ i, i < nl x → (bN (decide (((x / BB ^ i : Nat) : Int) > (0 : Int))) : MV) = .sc (.bool true) := fun i hi => by
    have := pos i hi
    generalize x / BB ^ i = y at this ⊢
    exact sc_b (decide_eq_true (by omega))
  have le : (bN (decide (((x / BB ^ nl x : Nat) : Int) > (0 : Int))) : MV) = .sc (.bool false) := by
    rw [Nat.div_eq_of_lt (nl_lt x)]; rfl
  obtain ⟨S, hS, hl⟩ := loop_to (G := gC (TU (m - 1)) fn_ref01_limbs 0) (nm := nM fn_ref01_limbs 0)
    (fun i S => (i = 0 ∧ S = L_ref01_limbs_0 (x : Nat) (x : Nat)) ∨ (0 < i ∧ ∃ c, S = L_ref01_limbs_0B (x : Nat) ((x / BB ^ i : Nat) : Int) i c (dg i x))) (nl x) FUEL (L_ref01_limbs_0 (x : Nat) (x : Nat)) (by
      rintro i S hi (⟨rfl, rfl⟩ | ⟨h0, c, rfl⟩)
      · have g0 := gt 0 hi
        have em := emod 0
        have ed := ediv 0
        rw [Nat.pow_zero, Nat.div_one] at g0 em ed
        obtain ⟨s', h1, h2⟩ := r_ref01_limbs_0_0 hio (x : Nat) (x : Nat) g0 (by decide) (by decide)
        rw [em, ed] at h2
        exact ⟨s', h1, .inr ⟨by omega, _, h2⟩⟩
      · obtain ⟨s', h1, h2⟩ := r_ref01_limbs_0B_0 hio (x : Nat) ((x / BB ^ i : Nat) : Int) i c (dg i x) (gt i hi) (by decide) ⟨rfl, rfl, rfl, by decide, rfl, rfl, by rw [dg_len]; omega, by omega, rfl⟩ (by decide)
          ((dg_nn i x).append (by rw [emod]; exact NoNames.nil.cons_sc))
        rw [emod, ediv] at h2
        exact ⟨s', h1, .inr ⟨by omega, _, h2⟩⟩) (.inl ⟨rfl, rfl⟩) (by unfold FUEL; omega)
  rcases hS with ⟨h0, rfl⟩ | ⟨h0, c, rfl⟩
  · have hx0 := (nl_zero_iff x).1 h0
    subst hx0
    refine TU_call hm rfl rfl (args' := [wN ((0 : Nat) : Int)]) rfl (p_ref01_limbs_x0_0 hio _ _ (hl _ _ (r_ref01_limbs_0_1 hio _ _ rfl) (by simp))) ?_
    simp [uncap, uncaps, nl_zero, dg]
  · refine TU_call hm rfl rfl (args' := [wN ((x : Nat) : Int)]) rfl (p_ref01_limbs_x1_0 hio _ _ _ _ _ (hl _ _ (r_ref01_limbs_0B_1 hio _ _ _ _ _ le) (by simp)) ⟨rfl, by decide, by rw [dg_len]; omega, by rw [Nat.mul_one, dg_take (Nat.le_refl _)]; exact dg_pl (by omega)⟩) ?_
    rw [Nat.mul_one, dg_take (Nat.le_refl _)]
    simp [uncap, uncaps]

theorem c_ref01_short {m : Nat} (hm : 0 < m) {v n : Nat} {c : Option Nat} (hv : v < BB ^ n) (hn : n ≤ 2) : (TU m).call fn_ref01_short [.fs n c (dg n v)] = some (wN (v : Nat), []) := by
  have hio := TU_io (m - 1)
  have eB : BB = 1000000000 := rfl
  have hv2 : v < 1000000000000000000 := Nat.lt_of_lt_of_le hv (Nat.le_trans (Nat.pow_le_pow_right BB_pos hn) (by decide))
  obtain ⟨S, rfl, hl⟩ := loop_to (G := gC (TU (m - 1)) fn_ref01_short 0) (nm := nM fn_ref01_short 0)
    (fun i S => S = L_ref01_short_0 n v ((v / BB ^ (n - i) : Nat) : Int) (((n - i : Nat) : Int) - 1)) n FUEL (L_ref01_short_0 n v 0 (IntKind.i64.wrap ((n : Int) - (1 : Int)))) (by
      rintro i S hi rfl
      obtain ⟨p, hp⟩ : ∃ p, p = n - (i + 1) := ⟨_, rfl⟩
      rw [show n - i = p + 1 by omega, ← hp]
      have e1 : (((p + 1 : Nat) : Int) - 1) = ((p : Nat) : Int) := by omega
      rw [e1]
      have d1 := dgt_lt v p
      have hVp : v / BB ^ p = BB * (v / BB ^ (p + 1)) + dgt v p := by
        rw [Nat.pow_succ, ← Nat.div_div_eq_div_mul]; unfold dgt; exact (Nat.div_add_mod _ _).symm
      have hle : v / BB ^ p ≤ v := Nat.div_le_self _ _
      obtain ⟨s', h1, h2⟩ := r_ref01_short_0_0 hio n v ((v / BB ^ (p + 1) : Nat) : Int) (p : Nat) (sc_b (decide_eq_true (by omega))) (dix (by omega)) (dgi (by omega))
      rw [Int.toNat_natCast, i64s (by omega)] at h2
      have e2 : IntKind.u64.wrap ((IntKind.u64.wrap (((v / BB ^ (p + 1) : Nat) : Int) * (1000000000 : Int))) + (IntKind.u64.wrap ((dgt v p : Nat) : Int))) = ((v / BB ^ p : Nat) : Int) := by
        rw [hVp] at hle ⊢
        generalize v / BB ^ (p + 1) = y at hle ⊢
        rw [eB] at *
        rw [u64s (x := ((y : Nat) : Int) * 1000000000) (by omega), u64s (x := ((dgt v p : Nat) : Int)) (by omega), u64s (by omega)]
        omega
      rw [e2] at h2
      exact ⟨s', h1, h2⟩) (by
        rw [i64s (by omega), Nat.sub_zero, Nat.div_eq_of_lt hv]; rfl) (by unfold FUEL; omega)
  rw [Nat.sub_self, Nat.pow_zero, Nat.div_one] at hl
  exact TU_call hm rfl rfl (args' := [.fs n none (dg n v)]) (by simp [uncaps, uncap]) (p_ref01_short_x0_0 hio n v _ _ (hl _ _ (r_ref01_short_0_1 hio n v _ _ (sc_b (decide_eq_false (by omega)))) (by simp))) rfl
end Go.Proofs.YtkeelkeoijemiaaGreat.Ev

