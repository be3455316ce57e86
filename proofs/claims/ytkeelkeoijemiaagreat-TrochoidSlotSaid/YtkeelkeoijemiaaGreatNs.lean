/- Integers, part 6: DivMod, GCD: states, rounds, paths. Integers: DivMod, GCD. The program's rationals: paths. -/
import Derived.Test.YtkeelkeoijemiaaGreatNp
set_option linter.unusedVariables false
set_option linter.unusedSimpArgs false
namespace Go.Proofs.YtkeelkeoijemiaaGreat.Ev
open Go
set_option linter.unusedVariables false
set_option linter.unusedSimpArgs false
set_option maxRecDepth 100000

theorem p_integer_DivMod_1 {T : Tab} (hio : TO T) (a b : Int) (h0 : (bN (((nz b : Nat) : Int) == (0 : Int)) : MV) = .sc (.bool false)) (h1 : T.call fn_integer_divide [MV.fs (nz a) none (cz a), MV.fs (nz b) none (cz b)] = some (MV.tup [MV.fs (lqD a.natAbs b.natAbs) none (dg (lqD a.natAbs b.natAbs) (a.natAbs / b.natAbs)), MV.fs (lrD a.natAbs b.natAbs) none (dg (lrD a.natAbs b.natAbs) (a.natAbs % b.natAbs))], [])) (h2 : T.call fn_integer_signed [bN (!((ng a) == (ng b))), MV.fs (lqD a.natAbs b.natAbs) none (dg (lqD a.natAbs b.natAbs) (a.natAbs / b.natAbs))] = some (iM (sgz (!((ng a) == (ng b))) (a.natAbs / b.natAbs)), [])) (h3 : T.call fn_integer_signed [bN (ng a), MV.fs (lrD a.natAbs b.natAbs) none (dg (lrD a.natAbs b.natAbs) (a.natAbs % b.natAbs))] = some (iM (sgz (ng a) (a.natAbs % b.natAbs)), [])) (h4 : (bN (decide (((nz (sgz (ng a) (a.natAbs % b.natAbs)) : Nat) : Int) > (0 : Int))) : MV) = .sc (.bool true)) (h5 : (bN (!((ng (sgz (ng a) (a.natAbs % b.natAbs))) == (ng b))) : MV) = .sc (.bool true)) (h6 : T.call fn_integer_FromInt64 [iN 1] = some (iM 1, [])) (h7 : T.call fn_integer_Sub [MV.agg [bN (ng (sgz (!((ng a) == (ng b))) (a.natAbs / b.natAbs))), MV.fs (nz (sgz (!((ng a) == (ng b))) (a.natAbs / b.natAbs))) none (cz (sgz (!((ng a) == (ng b))) (a.natAbs / b.natAbs)))], iM 1] = some (iM ((sgz (!((ng a) == (ng b))) (a.natAbs / b.natAbs)) - 1), [])) (h8 : T.call fn_integer_Add [MV.agg [bN (ng (sgz (ng a) (a.natAbs % b.natAbs))), MV.fs (nz (sgz (ng a) (a.natAbs % b.natAbs))) none (cz (sgz (ng a) (a.natAbs % b.natAbs)))], MV.agg [bN (ng b), MV.fs (nz b) none (cz b)]] = some (iM ((sgz (ng a) (a.natAbs % b.natAbs)) + b), [])) : evalBody PG T FUEL (ioF fn_integer_DivMod) fn_integer_DivMod [iM a, iM b] = some (MV.tup [MV.agg [bN (ng ((sgz (!((ng a) == (ng b))) (a.natAbs / b.natAbs)) - 1)), MV.fs (nz ((sgz (!((ng a) == (ng b))) (a.natAbs / b.natAbs)) - 1)) none (cz ((sgz (!((ng a) == (ng b))) (a.natAbs / b.natAbs)) - 1))], MV.agg [bN (ng ((sgz (ng a) (a.natAbs % b.natAbs)) + b)), MV.fs (nz ((sgz (ng a) (a.natAbs % b.natAbs)) + b)) none (cz ((sgz (ng a) (a.natAbs % b.natAbs)) + b))], iN 0], []) :=
  xBody_io (hard := false) hio (orc := [.br false, .call (MV.tup [MV.fs (lqD a.natAbs b.natAbs) none (dg (lqD a.natAbs b.natAbs) (a.natAbs / b.natAbs)), MV.fs (lrD a.natAbs b.natAbs) none (dg (lrD a.natAbs b.natAbs) (a.natAbs % b.natAbs))]) [], .call (iM (sgz (!((ng a) == (ng b))) (a.natAbs / b.natAbs))) [], .call (iM (sgz (ng a) (a.natAbs % b.natAbs))) [], .br true, .br true, .call (iM 1) [], .call (iM ((sgz (!((ng a) == (ng b))) (a.natAbs / b.natAbs)) - 1)) [], .call (iM ((sgz (ng a) (a.natAbs % b.natAbs)) + b)) []]) (by kernel_rfl) (owc h0 (owc h1 (owc h2 (owc h3 (owc h4 (owc h5 (owc h6 (owc h7 (ow1 h8)))))))))

theorem p_integer_DivMod_2 {T : Tab} (hio : TO T) (a b : Int) (h0 : (bN (((nz b : Nat) : Int) == (0 : Int)) : MV) = .sc (.bool false)) (h1 : T.call fn_integer_divide [MV.fs (nz a) none (cz a), MV.fs (nz b) none (cz b)] = some (MV.tup [MV.fs (lqD a.natAbs b.natAbs) none (dg (lqD a.natAbs b.natAbs) (a.natAbs / b.natAbs)), MV.fs (lrD a.natAbs b.natAbs) none (dg (lrD a.natAbs b.natAbs) (a.natAbs % b.natAbs))], [])) (h2 : T.call fn_integer_signed [bN (!((ng a) == (ng b))), MV.fs (lqD a.natAbs b.natAbs) none (dg (lqD a.natAbs b.natAbs) (a.natAbs / b.natAbs))] = some (iM (sgz (!((ng a) == (ng b))) (a.natAbs / b.natAbs)), [])) (h3 : T.call fn_integer_signed [bN (ng a), MV.fs (lrD a.natAbs b.natAbs) none (dg (lrD a.natAbs b.natAbs) (a.natAbs % b.natAbs))] = some (iM (sgz (ng a) (a.natAbs % b.natAbs)), [])) (h4 : (bN (decide (((nz (sgz (ng a) (a.natAbs % b.natAbs)) : Nat) : Int) > (0 : Int))) : MV) = .sc (.bool false)) : evalBody PG T FUEL (ioF fn_integer_DivMod) fn_integer_DivMod [iM a, iM b] = some (MV.tup [MV.agg [bN (ng (sgz (!((ng a) == (ng b))) (a.natAbs / b.natAbs))), MV.fs (nz (sgz (!((ng a) == (ng b))) (a.natAbs / b.natAbs))) none (cz (sgz (!((ng a) == (ng b))) (a.natAbs / b.natAbs)))], MV.agg [bN (ng (sgz (ng a) (a.natAbs % b.natAbs))), MV.fs (nz (sgz (ng a) (a.natAbs % b.natAbs))) none (cz (sgz (ng a) (a.natAbs % b.natAbs)))], iN 0], []) :=
  xBody_io (hard := false) hio (orc := [.br false, .call (MV.tup [MV.fs (lqD a.natAbs b.natAbs) none (dg (lqD a.natAbs b.natAbs) (a.natAbs / b.natAbs)), MV.fs (lrD a.natAbs b.natAbs) none (dg (lrD a.natAbs b.natAbs) (a.natAbs % b.natAbs))]) [], .call (iM (sgz (!((ng a) == (ng b))) (a.natAbs / b.natAbs))) [], .call (iM (sgz (ng a) (a.natAbs % b.natAbs))) [], .br false, .auto]) (by kernel_rfl) (owc h0 (owc h1 (owc h2 (owc h3 (ow1 h4)))))

theorem p_integer_DivMod_3 {T : Tab} (hio : TO T) (a b : Int) (h0 : (bN (((nz b : Nat) : Int) == (0 : Int)) : MV) = .sc (.bool false)) (h1 : T.call fn_integer_divide [MV.fs (nz a) none (cz a), MV.fs (nz b) none (cz b)] = some (MV.tup [MV.fs (lqD a.natAbs b.natAbs) none (dg (lqD a.natAbs b.natAbs) (a.natAbs / b.natAbs)), MV.fs (lrD a.natAbs b.natAbs) none (dg (lrD a.natAbs b.natAbs) (a.natAbs % b.natAbs))], [])) (h2 : T.call fn_integer_signed [bN (!((ng a) == (ng b))), MV.fs (lqD a.natAbs b.natAbs) none (dg (lqD a.natAbs b.natAbs) (a.natAbs / b.natAbs))] = some (iM (sgz (!((ng a) == (ng b))) (a.natAbs / b.natAbs)), [])) (h3 : T.call fn_integer_signed [bN (ng a), MV.fs (lrD a.natAbs b.natAbs) none (dg (lrD a.natAbs b.natAbs) (a.natAbs % b.natAbs))] = some (iM (sgz (ng a) (a.natAbs % b.natAbs)), [])) (h4 : (bN (decide (((nz (sgz (ng a) (a.natAbs % b.natAbs)) : Nat) : Int) > (0 : Int))) : MV) = .sc (.bool true)) (h5 : (bN (!((ng (sgz (ng a) (a.natAbs % b.natAbs))) == (ng b))) : MV) = .sc (.bool false)) : evalBody PG T FUEL (ioF fn_integer_DivMod) fn_integer_DivMod [iM a, iM b] = some (MV.tup [MV.agg [bN (ng (sgz (!((ng a) == (ng b))) (a.natAbs / b.natAbs))), MV.fs (nz (sgz (!((ng a) == (ng b))) (a.natAbs / b.natAbs))) none (cz (sgz (!((ng a) == (ng b))) (a.natAbs / b.natAbs)))], MV.agg [bN (ng (sgz (ng a) (a.natAbs % b.natAbs))), MV.fs (nz (sgz (ng a) (a.natAbs % b.natAbs))) none (cz (sgz (ng a) (a.natAbs % b.natAbs)))], iN 0], []) :=
  xBody_io (hard := false) hio (orc := [.br false, .call (MV.tup [MV.fs (lqD a.natAbs b.natAbs) none (dg (lqD a.natAbs b.natAbs) (a.natAbs / b.natAbs)), MV.fs (lrD a.natAbs b.natAbs) none (dg (lrD a.natAbs b.natAbs) (a.natAbs % b.natAbs))]) [], .call (iM (sgz (!((ng a) == (ng b))) (a.natAbs / b.natAbs))) [], .call (iM (sgz (ng a) (a.natAbs % b.natAbs))) [], .br true, .br false]) (by kernel_rfl) (owc h0 (owc h1 (owc h2 (owc h3 (owc h4 (ow1 h5))))))

def L_integer_GCD_0 (a b z5_0 z6_0 : Int) : St := { sl := [iM a, iM b, MV.ptr 2 1 0, MV.ptr 3 1 0, MV.ptr 4 1 0, MV.ptr 5 1 0, MV.ptr 6 1 0] ++ rp 54 MV.any, en := [none, none, some ⟨1, [bN (ng a), MV.fs (nz a) none (cz a)], false⟩, some ⟨1, [bN (ng b), MV.fs (nz b) none (cz b)], false⟩, some ⟨1, [bN false, MV.fs 0 (some 0) []], false⟩, some ⟨1, [bN (ng z5_0), MV.fs (nz z5_0) none (cz z5_0)], false⟩, some ⟨1, [bN (ng z6_0), MV.fs (nz z6_0) none (cz z6_0)], false⟩] ++ rp 54 none, ck := 2 }

def L_integer_GCD_1 (a b z5_0 z6_0 t7k t9k : Int) (kb : Nat → Bool) : St := { sl := [iM a, iM b, MV.ptr 2 1 0, MV.ptr 3 1 0, MV.ptr 4 1 0, MV.ptr 5 1 0, MV.ptr 6 1 0, wN t7k, bN (kb 0), wN t9k, bN (kb 1)] ++ rp 50 MV.any, en := [none, none, some ⟨1, [bN (ng a), MV.fs (nz a) none (cz a)], false⟩, some ⟨1, [bN (ng b), MV.fs (nz b) none (cz b)], false⟩, some ⟨1, [bN false, MV.fs 0 (some 0) []], false⟩, some ⟨1, [bN (ng z5_0), MV.fs (nz z5_0) none (cz z5_0)], false⟩, some ⟨1, [bN (ng z6_0), MV.fs (nz z6_0) none (cz z6_0)], false⟩] ++ rp 54 none, ck := 2 }

theorem r_integer_GCD_1_0 {T : Tab} (hio : TO T) (a b z5_0 z6_0 t7k t9k : Int) (kb : Nat → Bool) (h0 : (bN (decide (t9k > (0 : Int))) : MV) = .sc (.bool true)) (h1 : t9k ≠ 0)  : ∃ s_, gC T fn_integer_GCD 1 (L_integer_GCD_1 a b z5_0 z6_0 t7k t9k kb) = some (.normal, s_) ∧ nM fn_integer_GCD 1 s_ = (L_integer_GCD_1 a b z5_0 z6_0 t9k (t7k.tmod t9k) kb) :=
  rd_ok hio (h := true) (orc := [.br true]) (by kernel_rfl) (owc h0 (ow1 h1)) (by kernel_rfl)

noncomputable def X_integer_GCD_1_1 (a b z5_0 z6_0 t7k t9k : Int) (kb : Nat → Bool) : St := xr true fn_integer_GCD 1 (L_integer_GCD_1 a b z5_0 z6_0 t7k t9k kb) [.br false]

theorem r_integer_GCD_1_1 {T : Tab} (hio : TO T) (a b z5_0 z6_0 t7k t9k : Int) (kb : Nat → Bool) (h0 : (bN (decide (t9k > (0 : Int))) : MV) = .sc (.bool false)) : gC T fn_integer_GCD 1 (L_integer_GCD_1 a b z5_0 z6_0 t7k t9k kb) = some (.exit 2, (X_integer_GCD_1_1 a b z5_0 z6_0 t7k t9k kb)) :=
  ex_ok hio (h := true) (orc := [.br false]) (by kernel_rfl) (ow1 h0)

noncomputable def X_integer_GCD_0_0 (a b z5_0 z6_0 t7k t9k : Int) (kb : Nat → Bool) : St := xr true fn_integer_GCD 0 (L_integer_GCD_0 a b z5_0 z6_0) [.auto, .br true, .auto, .call (MV.tup [wN ((wrdN z5_0 : Nat) : Int), bN (wrdB z5_0)]) [], .auto, .call (MV.tup [wN ((wrdN z6_0 : Nat) : Int), bN (wrdB z6_0)]) [], .br true, .br true, .loop (.exit 2) (X_integer_GCD_1_1 a b z5_0 z6_0 t7k t9k kb), .call (MV.fs 3 none (dg 3 t7k.toNat)) [], .call (iM ((t7k.toNat : Nat) : Int)) []]

theorem r_integer_GCD_0_0 {T : Tab} (hio : TO T) (a b z5_0 z6_0 t7k t9k : Int) (kb : Nat → Bool) (h0 : (bN (decide (((nz z6_0 : Nat) : Int) > (0 : Int))) : MV) = .sc (.bool true)) (h1 : T.call fn_integer_word [MV.agg [bN (ng z5_0), MV.fs (nz z5_0) none (cz z5_0)]] = some (MV.tup [wN ((wrdN z5_0 : Nat) : Int), bN (wrdB z5_0)], [])) (h2 : T.call fn_integer_word [MV.agg [bN (ng z6_0), MV.fs (nz z6_0) none (cz z6_0)]] = some (MV.tup [wN ((wrdN z6_0 : Nat) : Int), bN (wrdB z6_0)], [])) (h3 : (bN (wrdB z5_0) : MV) = .sc (.bool true)) (h4 : (bN (wrdB z6_0) : MV) = .sc (.bool true)) (h5 : lp T fn_integer_GCD 1 (L_integer_GCD_1 a b z5_0 z6_0 ((wrdN z5_0 : Nat) : Int) ((wrdN z6_0 : Nat) : Int) (jB [wrdB z5_0, wrdB z6_0])) (.exit 2) (X_integer_GCD_1_1 a b z5_0 z6_0 t7k t9k kb)) (h6 : T.call fn_integer_split [wN t7k] = some (MV.fs 3 none (dg 3 t7k.toNat), [])) (h7 : T.call fn_integer_signed [bN false, MV.fs 3 none (dg 3 t7k.toNat)] = some (iM ((t7k.toNat : Nat) : Int), [])) (h8 : 1 = 1 ∧ false = false ∧ 2 = 2 ∧ 2 ≤ 2) : gC T fn_integer_GCD 0 (L_integer_GCD_0 a b z5_0 z6_0) = some (.ret, (X_integer_GCD_0_0 a b z5_0 z6_0 t7k t9k kb)) :=
  ex_ok hio (h := true) (orc := [.auto, .br true, .auto, .call (MV.tup [wN ((wrdN z5_0 : Nat) : Int), bN (wrdB z5_0)]) [], .auto, .call (MV.tup [wN ((wrdN z6_0 : Nat) : Int), bN (wrdB z6_0)]) [], .br true, .br true, .loop (.exit 2) (X_integer_GCD_1_1 a b z5_0 z6_0 t7k t9k kb), .call (MV.fs 3 none (dg 3 t7k.toNat)) [], .call (iM ((t7k.toNat : Nat) : Int)) []]) (by kernel_rfl) (owc h0 (owc h1 (owc h2 (owc h3 (owc h4 (owc h5 (owc h6 (owc h7 (ow1 h8)))))))))

noncomputable def X_integer_GCD_0_1 (a b z5_0 z6_0 : Int) : St := xr true fn_integer_GCD 0 (L_integer_GCD_0 a b z5_0 z6_0) [.auto, .br false]

theorem r_integer_GCD_0_1 {T : Tab} (hio : TO T) (a b z5_0 z6_0 : Int) (h0 : (bN (decide (((nz z6_0 : Nat) : Int) > (0 : Int))) : MV) = .sc (.bool false)) : gC T fn_integer_GCD 0 (L_integer_GCD_0 a b z5_0 z6_0) = some (.exit 0, (X_integer_GCD_0_1 a b z5_0 z6_0)) :=
  ex_ok hio (h := true) (orc := [.auto, .br false]) (by kernel_rfl) (ow1 h0)

theorem r_integer_GCD_0_2 {T : Tab} (hio : TO T) (a b z5_0 z6_0 : Int) (h0 : (bN (decide (((nz z6_0 : Nat) : Int) > (0 : Int))) : MV) = .sc (.bool true)) (h1 : T.call fn_integer_word [MV.agg [bN (ng z5_0), MV.fs (nz z5_0) none (cz z5_0)]] = some (MV.tup [wN ((wrdN z5_0 : Nat) : Int), bN (wrdB z5_0)], [])) (h2 : T.call fn_integer_word [MV.agg [bN (ng z6_0), MV.fs (nz z6_0) none (cz z6_0)]] = some (MV.tup [wN ((wrdN z6_0 : Nat) : Int), bN (wrdB z6_0)], [])) (h3 : (bN (wrdB z5_0) : MV) = .sc (.bool false)) (h4 : T.call fn_integer_divide [MV.fs (nz z5_0) none (cz z5_0), MV.fs (nz z6_0) none (cz z6_0)] = some (MV.tup [MV.fs (lqD z5_0.natAbs z6_0.natAbs) none (dg (lqD z5_0.natAbs z6_0.natAbs) (z5_0.natAbs / z6_0.natAbs)), MV.fs (lrD z5_0.natAbs z6_0.natAbs) none (dg (lrD z5_0.natAbs z6_0.natAbs) (z5_0.natAbs % z6_0.natAbs))], [])) (h5 : T.call fn_integer_signed [bN false, MV.fs (lrD z5_0.natAbs z6_0.natAbs) none (dg (lrD z5_0.natAbs z6_0.natAbs) (z5_0.natAbs % z6_0.natAbs))] = some (iM ((z5_0.natAbs % z6_0.natAbs : Nat) : Int), [])) (h6 : 1 = 1 ∧ false = false ∧ 2 = 2 ∧ 2 ≤ 2) (h7 : 1 = 1 ∧ false = false ∧ 2 = 2 ∧ 2 ≤ 2)  : ∃ s_, gC T fn_integer_GCD 0 (L_integer_GCD_0 a b z5_0 z6_0) = some (.normal, s_) ∧ nM fn_integer_GCD 0 s_ = (L_integer_GCD_0 a b z6_0 ((z5_0.natAbs % z6_0.natAbs : Nat) : Int)) :=
  rd_ok hio (h := true) (orc := [.auto, .br true, .auto, .call (MV.tup [wN ((wrdN z5_0 : Nat) : Int), bN (wrdB z5_0)]) [], .auto, .call (MV.tup [wN ((wrdN z6_0 : Nat) : Int), bN (wrdB z6_0)]) [], .br false, .auto, .auto, .auto, .call (MV.tup [MV.fs (lqD z5_0.natAbs z6_0.natAbs) none (dg (lqD z5_0.natAbs z6_0.natAbs) (z5_0.natAbs / z6_0.natAbs)), MV.fs (lrD z5_0.natAbs z6_0.natAbs) none (dg (lrD z5_0.natAbs z6_0.natAbs) (z5_0.natAbs % z6_0.natAbs))]) [], .auto, .call (iM ((z5_0.natAbs % z6_0.natAbs : Nat) : Int)) []]) (by kernel_rfl) (owc h0 (owc h1 (owc h2 (owc h3 (owc h4 (owc h5 (owc h6 (ow1 h7)))))))) (by kernel_rfl)

theorem r_integer_GCD_0_3 {T : Tab} (hio : TO T) (a b z5_0 z6_0 : Int) (h0 : (bN (decide (((nz z6_0 : Nat) : Int) > (0 : Int))) : MV) = .sc (.bool true)) (h1 : T.call fn_integer_word [MV.agg [bN (ng z5_0), MV.fs (nz z5_0) none (cz z5_0)]] = some (MV.tup [wN ((wrdN z5_0 : Nat) : Int), bN (wrdB z5_0)], [])) (h2 : T.call fn_integer_word [MV.agg [bN (ng z6_0), MV.fs (nz z6_0) none (cz z6_0)]] = some (MV.tup [wN ((wrdN z6_0 : Nat) : Int), bN (wrdB z6_0)], [])) (h3 : (bN (wrdB z5_0) : MV) = .sc (.bool true)) (h4 : (bN (wrdB z6_0) : MV) = .sc (.bool false)) (h5 : T.call fn_integer_divide [MV.fs (nz z5_0) none (cz z5_0), MV.fs (nz z6_0) none (cz z6_0)] = some (MV.tup [MV.fs (lqD z5_0.natAbs z6_0.natAbs) none (dg (lqD z5_0.natAbs z6_0.natAbs) (z5_0.natAbs / z6_0.natAbs)), MV.fs (lrD z5_0.natAbs z6_0.natAbs) none (dg (lrD z5_0.natAbs z6_0.natAbs) (z5_0.natAbs % z6_0.natAbs))], [])) (h6 : T.call fn_integer_signed [bN false, MV.fs (lrD z5_0.natAbs z6_0.natAbs) none (dg (lrD z5_0.natAbs z6_0.natAbs) (z5_0.natAbs % z6_0.natAbs))] = some (iM ((z5_0.natAbs % z6_0.natAbs : Nat) : Int), [])) (h7 : 1 = 1 ∧ false = false ∧ 2 = 2 ∧ 2 ≤ 2) (h8 : 1 = 1 ∧ false = false ∧ 2 = 2 ∧ 2 ≤ 2)  : ∃ s_, gC T fn_integer_GCD 0 (L_integer_GCD_0 a b z5_0 z6_0) = some (.normal, s_) ∧ nM fn_integer_GCD 0 s_ = (L_integer_GCD_0 a b z6_0 ((z5_0.natAbs % z6_0.natAbs : Nat) : Int)) :=
  rd_ok hio (h := true) (orc := [.auto, .br true, .auto, .call (MV.tup [wN ((wrdN z5_0 : Nat) : Int), bN (wrdB z5_0)]) [], .auto, .call (MV.tup [wN ((wrdN z6_0 : Nat) : Int), bN (wrdB z6_0)]) [], .br true, .br false, .auto, .auto, .call (MV.tup [MV.fs (lqD z5_0.natAbs z6_0.natAbs) none (dg (lqD z5_0.natAbs z6_0.natAbs) (z5_0.natAbs / z6_0.natAbs)), MV.fs (lrD z5_0.natAbs z6_0.natAbs) none (dg (lrD z5_0.natAbs z6_0.natAbs) (z5_0.natAbs % z6_0.natAbs))]) [], .auto, .call (iM ((z5_0.natAbs % z6_0.natAbs : Nat) : Int)) []]) (by kernel_rfl) (owc h0 (owc h1 (owc h2 (owc h3 (owc h4 (owc h5 (owc h6 (owc h7 (ow1 h8))))))))) (by kernel_rfl)

theorem p_integer_GCD_x0_0 {T : Tab} (hio : TO T) (a b z5_0 z6_0 t7k t9k : Int) (kb : Nat → Bool) (h0 : T.call fn_integer_signed [bN false, MV.fs (nz a) none (cz a)] = some (iM ((a.natAbs : Nat) : Int), [])) (h1 : T.call fn_integer_signed [bN false, MV.fs (nz b) none (cz b)] = some (iM ((b.natAbs : Nat) : Int), [])) (h2 : 10 = 10 ∧ false = false ∧ 2 = 2 ∧ 2 ≤ 2) (h3 : 11 = 11 ∧ false = false ∧ 2 = 2 ∧ 2 ≤ 2) (h4 : lp T fn_integer_GCD 0 (L_integer_GCD_0 a b ((a.natAbs : Nat) : Int) ((b.natAbs : Nat) : Int)) .ret (X_integer_GCD_0_0 a b z5_0 z6_0 t7k t9k kb)) : evalBody PG T FUEL (ioF fn_integer_GCD) fn_integer_GCD [iM a, iM b] = some (MV.agg [bN (ng ((t7k.toNat : Nat) : Int)), MV.fs (nz ((t7k.toNat : Nat) : Int)) none (cz ((t7k.toNat : Nat) : Int))], []) :=
  xBody_io (hard := true) hio (orc := [.auto, .call (iM ((a.natAbs : Nat) : Int)) [], .auto, .call (iM ((b.natAbs : Nat) : Int)) [], .loop (.ret) (X_integer_GCD_0_0 a b z5_0 z6_0 t7k t9k kb)]) (by kernel_rfl) (owc h0 (owc h1 (owc h2 (owc h3 (ow1 h4)))))

theorem p_integer_GCD_x1_0 {T : Tab} (hio : TO T) (a b z5_0 z6_0 : Int) (h0 : T.call fn_integer_signed [bN false, MV.fs (nz a) none (cz a)] = some (iM ((a.natAbs : Nat) : Int), [])) (h1 : T.call fn_integer_signed [bN false, MV.fs (nz b) none (cz b)] = some (iM ((b.natAbs : Nat) : Int), [])) (h2 : 10 = 10 ∧ false = false ∧ 2 = 2 ∧ 2 ≤ 2) (h3 : 11 = 11 ∧ false = false ∧ 2 = 2 ∧ 2 ≤ 2) (h4 : lp T fn_integer_GCD 0 (L_integer_GCD_0 a b ((a.natAbs : Nat) : Int) ((b.natAbs : Nat) : Int)) (.exit 0) (X_integer_GCD_0_1 a b z5_0 z6_0)) (h5 : ((cz z5_0).length) = ((nz z5_0) * 1) ∧ (cz z5_0).all cellOk = true ∧ 0 < 0 + (nz z5_0) ∧ 0 = 0 ∧ 0 + (nz z5_0) ≤ 1073741824) (h6 : 8 = 8 ∧ 8 ≠ 0 ∧ 0 + ((0 + (nz z5_0)) * 1) ≤ ((cz z5_0).length) ∧ Plain ((cz z5_0).take ((0 + (nz z5_0)) * 1))) (h7 : T.call fn_integer_signed [bN false, MV.fs (0 + (nz z5_0)) none ((cz z5_0).take ((0 + (nz z5_0)) * 1))] = some (iM ((z5_0.natAbs : Nat) : Int), [])) (h8 : 1 = 1 ∧ false = false ∧ 2 = 2 ∧ 2 ≤ 2) : evalBody PG T FUEL (ioF fn_integer_GCD) fn_integer_GCD [iM a, iM b] = some (MV.agg [bN (ng ((z5_0.natAbs : Nat) : Int)), MV.fs (nz ((z5_0.natAbs : Nat) : Int)) none (cz ((z5_0.natAbs : Nat) : Int))], []) :=
  xBody_io (hard := true) hio (orc := [.auto, .call (iM ((a.natAbs : Nat) : Int)) [], .auto, .call (iM ((b.natAbs : Nat) : Int)) [], .loop (.exit 0) (X_integer_GCD_0_1 a b z5_0 z6_0), .auto, .br true, .call (iM ((z5_0.natAbs : Nat) : Int)) []]) (by kernel_rfl) (owc h0 (owc h1 (owc h2 (owc h3 (owc h4 (owc h5 (owc h6 (owc h7 (ow1 h8)))))))))

theorem p_integer_GCD_x1_1 {T : Tab} (hio : TO T) (a b z5_0 z6_0 : Int) (h0 : T.call fn_integer_signed [bN false, MV.fs (nz a) none (cz a)] = some (iM ((a.natAbs : Nat) : Int), [])) (h1 : T.call fn_integer_signed [bN false, MV.fs (nz b) none (cz b)] = some (iM ((b.natAbs : Nat) : Int), [])) (h2 : 10 = 10 ∧ false = false ∧ 2 = 2 ∧ 2 ≤ 2) (h3 : 11 = 11 ∧ false = false ∧ 2 = 2 ∧ 2 ≤ 2) (h4 : lp T fn_integer_GCD 0 (L_integer_GCD_0 a b ((a.natAbs : Nat) : Int) ((b.natAbs : Nat) : Int)) (.exit 0) (X_integer_GCD_0_1 a b z5_0 z6_0)) (h5 : ((cz z5_0).length) = ((nz z5_0) * 1) ∧ (cz z5_0).all cellOk = true ∧ (0 + (nz z5_0)) = 0) (h6 : T.call fn_integer_signed [bN false, MV.fs 0 (some 0) []] = some (iM ((0 : Nat) : Int), [])) (h7 : 1 = 1 ∧ false = false ∧ 2 = 2 ∧ 2 ≤ 2) : evalBody PG T FUEL (ioF fn_integer_GCD) fn_integer_GCD [iM a, iM b] = some (MV.agg [bN (ng ((0 : Nat) : Int)), MV.fs (nz ((0 : Nat) : Int)) none (cz ((0 : Nat) : Int))], []) :=
  xBody_io (hard := true) hio (orc := [.auto, .call (iM ((a.natAbs : Nat) : Int)) [], .auto, .call (iM ((b.natAbs : Nat) : Int)) [], .loop (.exit 0) (X_integer_GCD_0_1 a b z5_0 z6_0), .auto, .br false, .call (iM ((0 : Nat) : Int)) []]) (by kernel_rfl) (owc h0 (owc h1 (owc h2 (owc h3 (owc h4 (owc h5 (owc h6 (ow1 h7))))))))

end Go.Proofs.YtkeelkeoijemiaaGreat.Ev

namespace Go.Proofs.YtkeelkeoijemiaaGreat.Ev
open Go Go.RowKit
set_option linter.unusedVariables false
set_option linter.unusedSimpArgs false

theorem lqD_le {v w n : Nat} (h : nl v < n) : lqD v w ≤ n + 1 := by unfold lqD; split <;> (try split) <;> omega
theorem lqD_lt {v w : Nat} (hw : 0 < w) : v / w < BB ^ lqD v w := by
  have hv := nl_lt v
  have hle : v / w ≤ v := Nat.div_le_self _ _
  unfold lqD
  split
  · omega
  · split
    · rename_i h; rw [Nat.div_eq_of_lt h]; exact BBp 0
    · rename_i h1 h
      refine (Nat.div_lt_iff_lt_mul hw).2 ?_
      have h2 := nl_low hw
      have h3 : nl w ≤ nl v := nl_mono (by omega)
      have h4 := nl_pos hw
      have h5 : BB ^ (nl v + 2 - nl w) * BB ^ (nl w - 1) ≤ BB ^ (nl v + 2 - nl w) * w := Nat.mul_le_mul_left _ h2
      rw [← Nat.pow_add, show nl v + 2 - nl w + (nl w - 1) = nl v + 1 by omega] at h5
      have h6 : BB ^ nl v ≤ BB ^ (nl v + 1) := Nat.pow_le_pow_right BB_pos (by omega)
      omega
theorem lrD_lt {v w : Nat} (hw : 0 < w) : v % w < BB ^ lrD v w := by
  have hm := Nat.mod_lt v hw
  have hwl := nl_lt w
  unfold lrD
  split
  · rename_i h; rw [h] at hwl; omega
  · split
    · rename_i h; rw [Nat.mod_eq_of_lt h]; exact nl_lt v
    · obtain ⟨s, hs, hs0, _⟩ := scale_facts hw
      rw [← hs]
      exact Nat.lt_of_le_of_lt (Nat.le_mul_of_pos_right _ hs0) (nl_lt _)
theorem lrD_le {v w : Nat} (hw : 0 < w) : lrD v w ≤ nl v + nl w + 1 := by
  have hm := Nat.mod_lt v hw
  have hp := nl_pos hw
  unfold lrD
  split
  · omega
  · split
    · omega
    · obtain ⟨s, hs, hs0, hsB, h1, _⟩ := scale_facts hw
      rw [← hs]
      have : v % w * s < BB ^ nl w := Nat.lt_of_le_of_lt (Nat.mul_le_mul_right _ (Nat.le_of_lt hm)) h1
      have := nl_le this
      omega

theorem nz_le {z : Int} {k : Nat} (h : z.natAbs < BB ^ k) : nz z ≤ k := nl_le h
theorem c_integer_DivMod {q : Nat} (hq : 4 < q) {a b : Int} (hb : b ≠ 0) (ha : nz a < 10000) (hbz : nz b < 10000) : (TU q).call fn_integer_DivMod [iM a, iM b] = some (.tup [iM (a.fdiv b), iM (a.fmod b), iN 0], []) := by
  have hio := TU_io (q - 1)
  have hb0 : 0 < b.natAbs := by omega
  have hbp := nz_pos.2 hb
  obtain ⟨x, hx⟩ : ∃ x, x = a.natAbs / b.natAbs := ⟨_, rfl⟩
  obtain ⟨y, hy⟩ : ∃ y, y = a.natAbs % b.natAbs := ⟨_, rfl⟩
  have hdm : b.natAbs * x + y = a.natAbs := by rw [hx, hy]; exact Nat.div_add_mod _ _
  have hyl : y < b.natAbs := by rw [hy]; exact Nat.mod_lt _ hb0
  have hxl : x ≤ a.natAbs := by rw [hx]; exact Nat.div_le_self _ _
  have hq1 := lqD_lt (v := a.natAbs) hb0
  have hr1 := lrD_lt (v := a.natAbs) hb0
  have hq2 := lqD_le (v := a.natAbs) (w := b.natAbs) (n := 10000) ha
  have hr2 := lrD_le (v := a.natAbs) hb0
  have t1 : (TU (q - 1)).call fn_integer_divide [.fs (nz a) none (cz a), .fs (nz b) none (cz b)] = _ := c_integer_divide (by omega) (nl_lt _) (nl_lt _) hb0 (show nz a < 40000 by omega) (show nz b < 40000 by omega)
  have t2 : (TU (q - 1)).call fn_integer_signed [bN (!((ng a) == (ng b))), .fs (lqD a.natAbs b.natAbs) none (dg (lqD a.natAbs b.natAbs) (a.natAbs / b.natAbs))] = _ := c_integer_signed (by omega) hq1 (by omega)
  have t3 : (TU (q - 1)).call fn_integer_signed [bN (ng a), .fs (lrD a.natAbs b.natAbs) none (dg (lrD a.natAbs b.natAbs) (a.natAbs % b.natAbs))] = _ := c_integer_signed (by omega) hr1 (by
    have : nl a.natAbs + nl b.natAbs + 1 < 100000 := by show nz a + nz b + 1 < 100000; omega
    omega)
  rw [← hx] at t1 t2
  rw [← hy] at t1 t3
  have br0 : (bN (((nz b : Nat) : Int) == (0 : Int)) : MV) = .sc (.bool false) := sc_b (by simp; omega)
  have fin : ∀ {u w : Int}, u = a.fdiv b → w = a.fmod b → uncap (.tup [.agg [bN (ng u), .fs (nz u) none (cz u)], .agg [bN (ng w), .fs (nz w) none (cz w)], iN 0]) = .tup [iM (a.fdiv b), iM (a.fmod b), iN 0] := by
    rintro u w rfl rfl
    simp only [uncap, uncaps, uncaps_dg, iM, iC, cz]
  have hu : uncaps [iM a, iM b] = [iM a, iM b] := by rw [uncaps_iM, uncaps_iM]; rfl
  -- the quotient and the remainder
  have uniq : ∀ {u w : Int}, w + b * u = a → (0 ≤ w ∧ w < b ∨ b < w ∧ w ≤ 0) → u = a.fdiv b ∧ w = a.fmod b := by
    intro u w h1 h2
    rcases h2 with ⟨h3, h4⟩ | ⟨h3, h4⟩
    · have := (Int.fdiv_fmod_unique (a := a) (b := b) (r := w) (q := u) (by omega)).2 ⟨h1, h3, h4⟩
      exact ⟨this.1.symm, this.2.symm⟩
    · have := (Int.fdiv_fmod_unique' (a := a) (b := b) (r := w) (q := u) (by omega)).2 ⟨h1, h3, h4⟩
      exact ⟨this.1.symm, this.2.symm⟩
  have eq0 : sgz (ng a) y + b * sgz (!((ng a) == (ng b))) x = a := by
    have hdI : ((b.natAbs : Nat) : Int) * ((x : Nat) : Int) + ((y : Nat) : Int) = ((a.natAbs : Nat) : Int) := by rw [← Int.natCast_mul, ← hdm]; push_cast; rfl
    unfold sgz
    by_cases h1 : a < 0 <;> by_cases h2 : b < 0 <;> simp only [ng, h1, h2, decide_true, decide_false] <;> simp
    · rw [show ((b.natAbs : Nat) : Int) = -b by omega, Int.neg_mul] at hdI; omega
    · rw [show ((b.natAbs : Nat) : Int) = b by omega] at hdI; rw [Int.mul_neg]; omega
    · rw [show ((b.natAbs : Nat) : Int) = -b by omega, Int.neg_mul] at hdI; rw [Int.mul_neg]; omega
    · rw [show ((b.natAbs : Nat) : Int) = b by omega] at hdI; omega
  by_cases hy0 : y = 0
  · subst hy0
    have hz : sgz (ng a) 0 = 0 := by unfold sgz; split <;> rfl
    obtain ⟨f1, f2⟩ := uniq eq0 (by rw [hz]; omega)
    refine TU_call (by omega) rfl rfl (args' := [iM a, iM b]) hu ((p_integer_DivMod_2 hio a b br0 (by rw [← hx, ← hy]; exact t1) (by rw [← hx]; exact t2) (by rw [← hy]; exact t3) (sc_b (by rw [← hy, hz]; rfl))).trans (by rw [← hx, ← hy])) (fin f1 f2)
  · have hzz : sgz (ng a) y ≠ 0 := by unfold sgz; split <;> omega
    have hzp := nz_pos.2 hzz
    have hzs : ng (sgz (ng a) y) = ng a := by
      rw [sgz_ng, decide_eq_true (Nat.pos_of_ne_zero hy0), Bool.and_true]
    by_cases hs : ng a = ng b
    · have hw : (0 ≤ sgz (ng a) y ∧ sgz (ng a) y < b ∨ b < sgz (ng a) y ∧ sgz (ng a) y ≤ 0) := by
        unfold sgz
        rw [hs]
        by_cases h2 : b < 0
        · right; simp only [ng, h2, decide_true]; simp; omega
        · left; simp only [ng, h2, decide_false]; simp; omega
      obtain ⟨f1, f2⟩ := uniq eq0 hw
      refine TU_call (by omega) rfl rfl (args' := [iM a, iM b]) hu ((p_integer_DivMod_3 hio a b br0 (by rw [← hx, ← hy]; exact t1) (by rw [← hx]; exact t2) (by rw [← hy]; exact t3) (sc_b (by rw [← hy]; exact decide_eq_true (by omega))) (sc_b (by rw [← hy, hzs, hs]; simp))).trans (by rw [← hx, ← hy])) (fin f1 f2)
    · have hw : (0 ≤ sgz (ng a) y + b ∧ sgz (ng a) y + b < b ∨ b < sgz (ng a) y + b ∧ sgz (ng a) y + b ≤ 0) := by
        unfold sgz
        by_cases h1 : a < 0 <;> by_cases h2 : b < 0 <;> simp only [ng, h1, h2, decide_true, decide_false] at hs ⊢ <;> simp at hs ⊢ <;> omega
      obtain ⟨f1, f2⟩ := uniq (u := sgz (!((ng a) == (ng b))) x - 1) (w := sgz (ng a) y + b) (by rw [Int.mul_sub, Int.mul_one]; omega) hw
      have hnx : nz (sgz (!((ng a) == (ng b))) x) < 50000 := by
        have : (sgz (!((ng a) == (ng b))) x).natAbs < BB ^ nz a := by rw [sgz_abs]; exact Nat.lt_of_le_of_lt hxl (nl_lt _)
        have := nz_le this
        omega
      have hny : nz (sgz (ng a) y) < 50000 := by
        have : (sgz (ng a) y).natAbs < BB ^ nz b := by rw [sgz_abs]; exact Nat.lt_trans hyl (nl_lt _)
        have := nz_le this
        omega
      refine TU_call (by omega) rfl rfl (args' := [iM a, iM b]) hu ((p_integer_DivMod_1 hio a b br0 (by rw [← hx, ← hy]; exact t1) (by rw [← hx]; exact t2) (by rw [← hy]; exact t3) (sc_b (by rw [← hy]; exact decide_eq_true (by omega))) (sc_b (by rw [← hy, hzs]; simpa using hs))
        (by exact c_integer_FromInt64 (by omega) (by omega)) (by rw [← hx]; exact c_integer_Sub (by omega) hnx (by decide)) (by rw [← hy]; exact c_integer_Add (by omega) hny (by omega))).trans (by rw [← hx, ← hy])) (fin f1 f2)

/-- Euclid's steps: each halves a product. -/
def EI (d x y : Nat) : Prop := (y ≤ x ∧ x * y < 2 ^ d) ∨ (x < y ∧ 0 < d ∧ x * y < 2 ^ (d - 1))
theorem EI.step {d x y : Nat} (h : EI d x y) (hy : 0 < y) : ∃ d', d' < d ∧ EI d' y (x % y) := by
  have hr := Nat.mod_lt x hy
  rcases h with ⟨h1, h2⟩ | ⟨h1, h2, h3⟩
  · have hd : 0 < d := by
      apply Nat.pos_of_ne_zero
      rintro rfl
      have := Nat.mul_pos (show 0 < x by omega) hy
      omega
    refine ⟨d - 1, by omega, .inl ⟨by omega, ?_⟩⟩
    have h4 : y * 1 ≤ y * (x / y) := Nat.mul_le_mul_left _ ((Nat.le_div_iff_mul_le hy).2 (by omega))
    have h5 := Nat.div_add_mod x y
    have h6 : 2 * (x % y) ≤ x := by omega
    have h7 : 2 * (x % y) * y ≤ x * y := Nat.mul_le_mul_right _ h6
    have h8 : 2 ^ d = 2 * 2 ^ (d - 1) := by rw [← Nat.pow_succ']; congr 1; omega
    rw [h8] at h2
    rw [Nat.mul_comm y, ]
    rw [Nat.mul_assoc] at h7
    omega
  · refine ⟨d - 1, by omega, .inl ⟨by omega, ?_⟩⟩
    rw [Nat.mod_eq_of_lt h1, Nat.mul_comm]; exact h3
theorem EI.first {x y K : Nat} (hx : x < BB ^ K) (hy : y < BB ^ K) : EI (60 * K + 1) x y := by
  have h1 : BB ^ K ≤ 2 ^ (30 * K) := by
    rw [Nat.pow_mul]; exact Nat.pow_le_pow_left (by decide) K
  have h2 : x * y < 2 ^ (60 * K) := by
    have h3 : x * y < BB ^ K * BB ^ K := Nat.mul_lt_mul'' hx hy
    have h4 : BB ^ K * BB ^ K ≤ 2 ^ (30 * K) * 2 ^ (30 * K) := Nat.mul_le_mul h1 h1
    have h5 : 2 ^ (30 * K) * 2 ^ (30 * K) = 2 ^ (60 * K) := by rw [← Nat.pow_add]; congr 1; omega
    omega
  by_cases h : y ≤ x
  · exact .inl ⟨h, by rw [Nat.pow_succ]; omega⟩
  · exact .inr ⟨by omega, by omega, by rw [Nat.add_sub_cancel]; exact h2⟩

theorem wrd_small {z : Int} (h : wrdB z = true) : wrdN z = z.natAbs ∧ z.natAbs < BB ^ 2 := by
  unfold wrdB at h
  have h2 := of_decide_eq_true h
  unfold wrdN
  rw [if_pos h2]
  exact ⟨rfl, Nat.lt_of_lt_of_le (nl_lt _) (Nat.pow_le_pow_right BB_pos h2)⟩

theorem gcd_in {T : Tab} (hio : TO T) {a b z5 z6 : Int} (h5 : wrdB z5 = true) (h6 : wrdB z6 = true) :
    lp T fn_integer_GCD 1 (L_integer_GCD_1 a b z5 z6 ((wrdN z5 : Nat) : Int) ((wrdN z6 : Nat) : Int) (jB [wrdB z5, wrdB z6])) (.exit 2)
      (X_integer_GCD_1_1 a b z5 z6 (Nat.gcd z5.natAbs z6.natAbs : Nat) 0 (jB [wrdB z5, wrdB z6])) := by
  obtain ⟨w5, l5⟩ := wrd_small h5
  obtain ⟨w6, l6⟩ := wrd_small h6
  obtain ⟨kb, hkb⟩ : ∃ kb, kb = jB [wrdB z5, wrdB z6] := ⟨_, rfl⟩
  rw [← hkb, w5, w6]
  have main := loop_meas (G := gC T fn_integer_GCD 1) (nm := nM fn_integer_GCD 1)
    (fun d S => ∃ (x y : Nat), Nat.gcd x y = Nat.gcd z5.natAbs z6.natAbs ∧ EI d x y ∧ S = L_integer_GCD_1 a b z5 z6 (x : Nat) (y : Nat) kb)
    (fun o S => o = .exit 2 ∧ S = X_integer_GCD_1_1 a b z5 z6 (Nat.gcd z5.natAbs z6.natAbs : Nat) 0 kb)
    FUEL 121 (L_integer_GCD_1 a b z5 z6 ((z5.natAbs : Nat) : Int) ((z6.natAbs : Nat) : Int) kb) (by
      rintro d S ⟨x, y, hg, hE, rfl⟩
      by_cases hy : y = 0
      · subst hy
        refine .inl ⟨_, _, r_integer_GCD_1_1 hio a b z5 z6 (x : Nat) (0 : Nat) kb (sc_b (by simp)), by simp, rfl, ?_⟩
        rw [← hg, Nat.gcd_zero_right]; rfl
      · obtain ⟨d', h1, h2⟩ := hE.step (Nat.pos_of_ne_zero hy)
        obtain ⟨s', e1, e2⟩ := r_integer_GCD_1_0 hio a b z5 z6 (x : Nat) (y : Nat) kb (sc_b (decide_eq_true (by omega))) (by omega)
        have em : ((x : Nat) : Int).tmod ((y : Nat) : Int) = ((x % y : Nat) : Int) := by rw [Int.tmod_eq_emod_of_nonneg (by omega), ← Int.natCast_emod]
        rw [em] at e2
        refine .inr ⟨s', d', h1, e1, y, x % y, ?_, h2, e2⟩
        rw [← hg, Nat.gcd_comm x y, Nat.gcd_rec y x, Nat.gcd_comm]) ⟨_, _, rfl, EI.first l5 l6, rfl⟩ (by unfold FUEL; omega)
  obtain ⟨o, S, hl, ho, hS⟩ := main
  rw [ho, hS] at hl
  exact hl

/-- What the rounds of GCD need. -/
structure GH (q K : Nat) (z5 z6 : Int) : Prop where
  hq : 3 < q
  hK : K ≤ 8000
  ha : z5.natAbs < BB ^ K
  hb : z6.natAbs < BB ^ K
theorem GH.calls {q K : Nat} {z5 z6 : Int} (h : GH q K z5 z6) (h6 : z6 ≠ 0) :
    (TU q).call fn_integer_divide [.fs (nz z5) none (cz z5), .fs (nz z6) none (cz z6)] = some (.tup [.fs (lqD z5.natAbs z6.natAbs) none (dg (lqD z5.natAbs z6.natAbs) (z5.natAbs / z6.natAbs)), .fs (lrD z5.natAbs z6.natAbs) none (dg (lrD z5.natAbs z6.natAbs) (z5.natAbs % z6.natAbs))], []) ∧
    (TU q).call fn_integer_signed [bN false, .fs (lrD z5.natAbs z6.natAbs) none (dg (lrD z5.natAbs z6.natAbs) (z5.natAbs % z6.natAbs))] = some (iM ((z5.natAbs % z6.natAbs : Nat) : Int), []) := by
  have h0 : 0 < z6.natAbs := by omega
  have n5 := nl_le h.ha
  have n6 := nl_le h.hb
  have hK := h.hK
  have hq := h.hq
  have hl := lrD_le (v := z5.natAbs) h0
  exact ⟨c_integer_divide (by omega) (nl_lt _) (nl_lt _) h0 (show nl z5.natAbs < 40000 by omega) (show nl z6.natAbs < 40000 by omega), c_integer_signed (by omega) (lrD_lt h0) (by omega)⟩
theorem GH.step {q K : Nat} {z5 z6 : Int} (h : GH q K z5 z6) (h6 : z6 ≠ 0) : GH q K z6 ((z5.natAbs % z6.natAbs : Nat) : Int) :=
  ⟨h.hq, h.hK, h.hb, by rw [Int.natAbs_natCast]; exact Nat.lt_trans (Nat.mod_lt _ (by omega)) h.hb⟩

theorem c_integer_GCD {q : Nat} (hq : 4 < q) {a b : Int} (ha : nz a ≤ 8000) (hb : nz b ≤ 8000) : (TU q).call fn_integer_GCD [iM a, iM b] = some (iM ((Nat.gcd a.natAbs b.natAbs : Nat) : Int), []) := by
  have hio := TU_io (q - 1)
  obtain ⟨K, hK⟩ : ∃ K, K = 8000 := ⟨_, rfl⟩
  rw [← hK] at ha hb
  have hA : a.natAbs < BB ^ K := Nat.lt_of_lt_of_le (nl_lt _) (Nat.pow_le_pow_right BB_pos ha)
  have hB : b.natAbs < BB ^ K := Nat.lt_of_lt_of_le (nl_lt _) (Nat.pow_le_pow_right BB_pos hb)
  have s1 : (TU (q - 1)).call fn_integer_signed [bN false, .fs (nz a) none (cz a)] = some (iM ((a.natAbs : Nat) : Int), []) := c_integer_signed (by omega) (nl_lt _) (by omega)
  have s2 : (TU (q - 1)).call fn_integer_signed [bN false, .fs (nz b) none (cz b)] = some (iM ((b.natAbs : Nat) : Int), []) := c_integer_signed (by omega) (nl_lt _) (by omega)
  have sz : (1 = 1 ∧ false = false ∧ 2 = 2 ∧ 2 ≤ 2) := ⟨rfl, rfl, rfl, by decide⟩
  -- what each end of the loop leads to
  have fin0 : ∀ z : Int, z.natAbs < BB ^ K → (0 < nz z → (TU (q - 1)).call fn_integer_signed [bN false, .fs (0 + (nz z)) none ((cz z).take ((0 + (nz z)) * 1))] = some (iM ((z.natAbs : Nat) : Int), [])) := by
    intro z hz hp
    have e0 : 0 + nz z = nz z := Nat.zero_add _
    rw [e0, Nat.mul_one, dg_take (Nat.le_refl _)]
    have := nl_le hz
    exact c_integer_signed (by omega) (nl_lt _) (show nz z < 100000 by show nl _ < _; omega)
  have main := loop_meas (G := gC (TU (q - 1)) fn_integer_GCD 0) (nm := nM fn_integer_GCD 0)
    (fun d S => ∃ z5 z6 : Int, GH (q - 1) K z5 z6 ∧ EI d z5.natAbs z6.natAbs ∧ Nat.gcd z5.natAbs z6.natAbs = Nat.gcd a.natAbs b.natAbs ∧ S = L_integer_GCD_0 a b z5 z6)
    (fun o S => lp (TU (q - 1)) fn_integer_GCD 0 (L_integer_GCD_0 a b ((a.natAbs : Nat) : Int) ((b.natAbs : Nat) : Int)) o S →
      evalBody PG (TU (q - 1)) FUEL (ioF fn_integer_GCD) fn_integer_GCD [iM a, iM b] = some (iM ((Nat.gcd a.natAbs b.natAbs : Nat) : Int), []))
    FUEL (60 * K + 1) (L_integer_GCD_0 a b ((a.natAbs : Nat) : Int) ((b.natAbs : Nat) : Int)) (by
      rintro d S ⟨z5, z6, hG, hE, hg, rfl⟩
      have n5 := nl_le hG.ha
      have n6 := nl_le hG.hb
      have t5 : (TU (q - 1)).call fn_integer_word [MV.agg [bN (ng z5), MV.fs (nz z5) none (cz z5)]] = _ := c_integer_word (by omega) z5
      have t6 : (TU (q - 1)).call fn_integer_word [MV.agg [bN (ng z6), MV.fs (nz z6) none (cz z6)]] = _ := c_integer_word (by omega) z6
      by_cases h6 : z6 = 0
      · subst h6
        have br : (bN (decide (((nz (0 : Int) : Nat) : Int) > (0 : Int))) : MV) = .sc (.bool false) := sc_b (decide_eq_false (by decide))
        have hg' : Nat.gcd a.natAbs b.natAbs = z5.natAbs := by rw [← hg]; exact Nat.gcd_zero_right _
        have e5 : 0 + nz z5 = nz z5 := Nat.zero_add _
        have hlen : (cz z5).length = nz z5 * 1 := by rw [dg_len]; omega
        have n5' : nz z5 ≤ K := n5
        refine .inl ⟨_, _, r_integer_GCD_0_1 hio a b z5 0 br, by simp, ?_⟩
        intro hl
        rw [hg']
        by_cases h5 : 0 < nz z5
        · exact p_integer_GCD_x1_0 hio a b z5 0 s1 s2 ⟨rfl, rfl, rfl, by decide⟩ ⟨rfl, rfl, rfl, by decide⟩ hl ⟨hlen, (dg_leaves _ _).cellOk, by omega, rfl, by omega⟩ ⟨rfl, by decide, by rw [hlen]; omega, by rw [e5, Nat.mul_one, dg_take (Nat.le_refl _)]; exact dg_pl (by omega)⟩ (fin0 z5 hG.ha h5) sz
        · have hz : z5 = 0 := by
            have := nz_pos (z := z5)
            omega
          subst hz
          exact p_integer_GCD_x1_1 hio a b 0 0 s1 s2 ⟨rfl, rfl, rfl, by decide⟩ ⟨rfl, rfl, rfl, by decide⟩ hl ⟨hlen, (dg_leaves _ _).cellOk, by decide⟩ (by exact c_integer_signed (v := 0) (k := 0) (by omega) (by decide) (by omega)) sz
      · have br : (bN (decide (((nz z6 : Nat) : Int) > (0 : Int))) : MV) = .sc (.bool true) := sc_b (decide_eq_true (by have := nz_pos.2 h6; omega))
        obtain ⟨cd, cs⟩ := hG.calls h6
        obtain ⟨d', h1, h2⟩ := hE.step (show 0 < z6.natAbs by omega)
        have hg2 : Nat.gcd z6.natAbs (((z5.natAbs % z6.natAbs : Nat) : Int).natAbs) = Nat.gcd a.natAbs b.natAbs := by
          rw [Int.natAbs_natCast, ← hg, Nat.gcd_comm z5.natAbs, Nat.gcd_rec z6.natAbs z5.natAbs, Nat.gcd_comm]
        have h2' : EI d' z6.natAbs (((z5.natAbs % z6.natAbs : Nat) : Int).natAbs) := by rw [Int.natAbs_natCast]; exact h2
        by_cases w5 : wrdB z5 = true
        · by_cases w6 : wrdB z6 = true
          · -- both small
            have gl : ∀ g : Nat, g = Nat.gcd z5.natAbs z6.natAbs → g < BB ^ 2 := by
              intro g hgg
              have l5 := (wrd_small w5).2
              have l6 := (wrd_small w6).2
              have := Nat.gcd_le_right z5.natAbs (show 0 < z6.natAbs by omega)
              omega
            have sp : ∀ g : Nat, g < BB ^ 2 → (TU (q - 1)).call fn_integer_split [wN (g : Nat)] = some (MV.fs 3 none (dg 3 ((g : Nat) : Int).toNat), []) := fun g hgl => by
              rw [Int.toNat_natCast]
              have : BB ^ 2 = 1000000000000000000 := by decide
              exact c_integer_split (by omega) (by omega)
            have sp2 : ∀ g : Nat, g < BB ^ 2 → (TU (q - 1)).call fn_integer_signed [bN false, MV.fs 3 none (dg 3 ((g : Nat) : Int).toNat)] = some (iM ((((g : Nat) : Int).toNat : Nat) : Int), []) := fun g hgl => by
              rw [Int.toNat_natCast]
              exact c_integer_signed (by omega) (Nat.lt_of_lt_of_le hgl (Nat.pow_le_pow_right BB_pos (by omega))) (by omega)
            have hgl := gl _ rfl
            refine .inl ⟨_, _, r_integer_GCD_0_0 hio a b z5 z6 _ 0 _ br t5 t6 (sc_b w5) (sc_b w6) (gcd_in hio w5 w6) (sp _ hgl) (sp2 _ hgl) sz, by simp, ?_⟩
            intro hl
            refine (p_integer_GCD_x0_0 hio a b z5 z6 _ 0 _ s1 s2 ⟨rfl, rfl, rfl, by decide⟩ ⟨rfl, rfl, rfl, by decide⟩ hl).trans ?_
            rw [Int.toNat_natCast, hg]
          · obtain ⟨s', e1, e2⟩ := r_integer_GCD_0_3 hio a b z5 z6 br t5 t6 (sc_b w5) (sc_b (by simpa using w6)) cd cs sz sz
            exact .inr ⟨s', d', h1, e1, _, _, hG.step h6, h2', hg2, e2⟩
        · obtain ⟨s', e1, e2⟩ := r_integer_GCD_0_2 hio a b z5 z6 br t5 t6 (sc_b (by simpa using w5)) cd cs sz sz
          exact .inr ⟨s', d', h1, e1, _, _, hG.step h6, h2', hg2, e2⟩)
    ⟨((a.natAbs : Nat) : Int), ((b.natAbs : Nat) : Int), ⟨by omega, by omega, by rw [Int.natAbs_natCast]; exact hA, by rw [Int.natAbs_natCast]; exact hB⟩, by rw [Int.natAbs_natCast, Int.natAbs_natCast]; exact EI.first hA hB, by rw [Int.natAbs_natCast, Int.natAbs_natCast], rfl⟩ (by unfold FUEL; omega)
  obtain ⟨o, S, hl, hQ⟩ := main
  exact TU_call (by omega) rfl rfl (args' := [iM a, iM b]) (by rw [uncaps_iM, uncaps_iM]; rfl) (hQ hl) (uncap_iM _)
end Go.Proofs.YtkeelkeoijemiaaGreat.Ev

namespace Go.Proofs.YtkeelkeoijemiaaGreat.Ev
open Go
set_option linter.unusedVariables false
set_option linter.unusedSimpArgs false
set_option maxRecDepth 100000

/-- The cells of a fraction. -/
abbrev rC (q : Rat) : List MV := iC q.num ++ iC ((q.den : Nat) : Int)
abbrev rM (q : Rat) : MV := .agg (rC q)
/-- The sign of a difference. -/
def cmpQ (p q : Rat) : Int := if p < q then -1 else if q < p then 1 else 0

theorem p_cmp_isNaN_int_0 {T : Tab} (hio : TO T) (x : Int)  : evalBody PG T FUEL (ioF fn_cmp_isNaN_int) fn_cmp_isNaN_int [iN x] = some (bN (x != x), []) :=
  xBody_io (hard := false) hio (orc := []) (by kernel_rfl) ow0

theorem p_cmp_Compare_int_0 {T : Tab} (hio : TO T) (x y : Int) (h0 : T.call fn_cmp_isNaN_int [iN x] = some (bN false, [])) (h1 : T.call fn_cmp_isNaN_int [iN y] = some (bN false, [])) (h2 : (bN (decide (x < y)) : MV) = .sc (.bool true)) : evalBody PG T FUEL (ioF fn_cmp_Compare_int) fn_cmp_Compare_int [iN x, iN y] = some (iN (-1), []) :=
  xBody_io (hard := false) hio (orc := [.call (bN false) [], .call (bN false) [], .auto, .auto, .br true]) (by kernel_rfl) (owc h0 (owc h1 (ow1 h2)))

theorem p_cmp_Compare_int_1 {T : Tab} (hio : TO T) (x y : Int) (h0 : T.call fn_cmp_isNaN_int [iN x] = some (bN false, [])) (h1 : T.call fn_cmp_isNaN_int [iN y] = some (bN false, [])) (h2 : (bN (decide (x < y)) : MV) = .sc (.bool false)) (h3 : (bN (decide (x > y)) : MV) = .sc (.bool true)) : evalBody PG T FUEL (ioF fn_cmp_Compare_int) fn_cmp_Compare_int [iN x, iN y] = some (iN 1, []) :=
  xBody_io (hard := false) hio (orc := [.call (bN false) [], .call (bN false) [], .auto, .auto, .br false, .br true]) (by kernel_rfl) (owc h0 (owc h1 (owc h2 (ow1 h3))))

theorem p_cmp_Compare_int_2 {T : Tab} (hio : TO T) (x y : Int) (h0 : T.call fn_cmp_isNaN_int [iN x] = some (bN false, [])) (h1 : T.call fn_cmp_isNaN_int [iN y] = some (bN false, [])) (h2 : (bN (decide (x < y)) : MV) = .sc (.bool false)) (h3 : (bN (decide (x > y)) : MV) = .sc (.bool false)) : evalBody PG T FUEL (ioF fn_cmp_Compare_int) fn_cmp_Compare_int [iN x, iN y] = some (iN 0, []) :=
  xBody_io (hard := false) hio (orc := [.call (bN false) [], .call (bN false) [], .auto, .auto, .br false, .br false]) (by kernel_rfl) (owc h0 (owc h1 (owc h2 (ow1 h3))))

theorem p_rational_unit_0 {T : Tab} (hio : TO T)  (h0 : T.call fn_integer_FromInt64 [iN 1] = some (iM 1, [])) : evalBody PG T FUEL (ioF fn_rational_unit) fn_rational_unit [] = some (MV.agg [bN (ng 1), MV.fs (nz 1) none (cz 1)], []) :=
  xBody_io (hard := false) hio (orc := [.call (iM 1) []]) (by kernel_rfl) (ow1 h0)

theorem p_rational_whole_0 {T : Tab} (hio : TO T) (a : Int) (h0 : T.call fn_rational_unit [] = some (iM 1, [])) : evalBody PG T FUEL (ioF fn_rational_whole) fn_rational_whole [iM a] = some (MV.agg [bN (ng a), MV.fs (nz a) none (cz a), bN (ng 1), MV.fs (nz 1) none (cz 1)], []) :=
  xBody_io (hard := false) hio (orc := [.call (iM 1) []]) (by kernel_rfl) (ow1 h0)

theorem p_rational_FromInt64_0 {T : Tab} (hio : TO T) (x : Int) (h0 : T.call fn_integer_FromInt64 [iN x] = some (iM x, [])) (h1 : T.call fn_rational_whole [iM x] = some (rM (x : Rat), [])) : evalBody PG T FUEL (ioF fn_rational_FromInt64) fn_rational_FromInt64 [iN x] = some (MV.agg [bN (ng (((x : Rat)).num)), MV.fs (nz (((x : Rat)).num)) none (cz (((x : Rat)).num)), bN (ng (((x : Rat).den : Nat) : Int)), MV.fs (nz (((x : Rat).den : Nat) : Int)) none (cz (((x : Rat).den : Nat) : Int))], []) :=
  xBody_io (hard := false) hio (orc := [.call (iM x) [], .call (rM (x : Rat)) []]) (by kernel_rfl) (owc h0 (ow1 h1))

theorem p_rational_exact_0 {T : Tab} (hio : TO T) (a b : Int) (h0 : T.call fn_integer_DivMod [MV.agg [bN (ng a), MV.fs (nz a) none (cz a)], MV.agg [bN (ng b), MV.fs (nz b) none (cz b)]] = some (MV.tup [iM (a.fdiv b), iM (a.fmod b), iN 0], [])) : evalBody PG T FUEL (ioF fn_rational_exact) fn_rational_exact [iM a, iM b] = some (MV.agg [bN (ng (a.fdiv b)), MV.fs (nz (a.fdiv b)) none (cz (a.fdiv b))], []) :=
  xBody_io (hard := false) hio (orc := [.call (MV.tup [iM (a.fdiv b), iM (a.fmod b), iN 0]) []]) (by kernel_rfl) (ow1 h0)

theorem p_rational_reduce_0 {T : Tab} (hio : TO T) (a b : Int) (h0 : T.call fn_integer_Sign [MV.agg [bN (ng b), MV.fs (nz b) none (cz b)]] = some (iN (cmpI b 0), [])) (h1 : (bN (decide ((cmpI b 0) < (0 : Int))) : MV) = .sc (.bool true)) (h2 : T.call fn_integer_Neg [MV.agg [bN (ng a), MV.fs (nz a) none (cz a)]] = some (iM (-a), [])) (h3 : T.call fn_integer_Neg [MV.agg [bN (ng b), MV.fs (nz b) none (cz b)]] = some (iM (-b), [])) (h4 : T.call fn_integer_GCD [MV.agg [bN (ng (-a)), MV.fs (nz (-a)) none (cz (-a))], MV.agg [bN (ng (-b)), MV.fs (nz (-b)) none (cz (-b))]] = some (iM ((Nat.gcd ((-a).natAbs) ((-b).natAbs) : Nat) : Int), [])) (h5 : T.call fn_rational_unit [] = some (iM 1, [])) (h6 : T.call fn_integer_Cmp [MV.agg [bN (ng ((Nat.gcd ((-a).natAbs) ((-b).natAbs) : Nat) : Int)), MV.fs (nz ((Nat.gcd ((-a).natAbs) ((-b).natAbs) : Nat) : Int)) none (cz ((Nat.gcd ((-a).natAbs) ((-b).natAbs) : Nat) : Int))], iM 1] = some (iN (cmpI ((Nat.gcd ((-a).natAbs) ((-b).natAbs) : Nat) : Int) 1), [])) (h7 : (bN ((cmpI ((Nat.gcd ((-a).natAbs) ((-b).natAbs) : Nat) : Int) 1) != (0 : Int)) : MV) = .sc (.bool true)) (h8 : T.call fn_rational_exact [MV.agg [bN (ng (-a)), MV.fs (nz (-a)) none (cz (-a))], MV.agg [bN (ng ((Nat.gcd ((-a).natAbs) ((-b).natAbs) : Nat) : Int)), MV.fs (nz ((Nat.gcd ((-a).natAbs) ((-b).natAbs) : Nat) : Int)) none (cz ((Nat.gcd ((-a).natAbs) ((-b).natAbs) : Nat) : Int))]] = some (iM ((-a).fdiv ((Nat.gcd ((-a).natAbs) ((-b).natAbs) : Nat) : Int)), [])) (h9 : T.call fn_rational_exact [MV.agg [bN (ng (-b)), MV.fs (nz (-b)) none (cz (-b))], MV.agg [bN (ng ((Nat.gcd ((-a).natAbs) ((-b).natAbs) : Nat) : Int)), MV.fs (nz ((Nat.gcd ((-a).natAbs) ((-b).natAbs) : Nat) : Int)) none (cz ((Nat.gcd ((-a).natAbs) ((-b).natAbs) : Nat) : Int))]] = some (iM ((-b).fdiv ((Nat.gcd ((-a).natAbs) ((-b).natAbs) : Nat) : Int)), [])) : evalBody PG T FUEL (ioF fn_rational_reduce) fn_rational_reduce [iM a, iM b] = some (MV.agg [bN (ng ((-a).fdiv ((Nat.gcd ((-a).natAbs) ((-b).natAbs) : Nat) : Int))), MV.fs (nz ((-a).fdiv ((Nat.gcd ((-a).natAbs) ((-b).natAbs) : Nat) : Int))) none (cz ((-a).fdiv ((Nat.gcd ((-a).natAbs) ((-b).natAbs) : Nat) : Int))), bN (ng ((-b).fdiv ((Nat.gcd ((-a).natAbs) ((-b).natAbs) : Nat) : Int))), MV.fs (nz ((-b).fdiv ((Nat.gcd ((-a).natAbs) ((-b).natAbs) : Nat) : Int))) none (cz ((-b).fdiv ((Nat.gcd ((-a).natAbs) ((-b).natAbs) : Nat) : Int)))], []) :=
  xBody_io (hard := false) hio (orc := [.call (iN (cmpI b 0)) [], .br true, .call (iM (-a)) [], .call (iM (-b)) [], .call (iM ((Nat.gcd ((-a).natAbs) ((-b).natAbs) : Nat) : Int)) [], .call (iM 1) [], .call (iN (cmpI ((Nat.gcd ((-a).natAbs) ((-b).natAbs) : Nat) : Int) 1)) [], .br true, .call (iM ((-a).fdiv ((Nat.gcd ((-a).natAbs) ((-b).natAbs) : Nat) : Int))) [], .call (iM ((-b).fdiv ((Nat.gcd ((-a).natAbs) ((-b).natAbs) : Nat) : Int))) []]) (by kernel_rfl) (owc h0 (owc h1 (owc h2 (owc h3 (owc h4 (owc h5 (owc h6 (owc h7 (owc h8 (ow1 h9))))))))))

theorem p_rational_reduce_1 {T : Tab} (hio : TO T) (a b : Int) (h0 : T.call fn_integer_Sign [MV.agg [bN (ng b), MV.fs (nz b) none (cz b)]] = some (iN (cmpI b 0), [])) (h1 : (bN (decide ((cmpI b 0) < (0 : Int))) : MV) = .sc (.bool false)) (h2 : T.call fn_integer_GCD [MV.agg [bN (ng a), MV.fs (nz a) none (cz a)], MV.agg [bN (ng b), MV.fs (nz b) none (cz b)]] = some (iM ((Nat.gcd a.natAbs b.natAbs : Nat) : Int), [])) (h3 : T.call fn_rational_unit [] = some (iM 1, [])) (h4 : T.call fn_integer_Cmp [MV.agg [bN (ng ((Nat.gcd a.natAbs b.natAbs : Nat) : Int)), MV.fs (nz ((Nat.gcd a.natAbs b.natAbs : Nat) : Int)) none (cz ((Nat.gcd a.natAbs b.natAbs : Nat) : Int))], iM 1] = some (iN (cmpI ((Nat.gcd a.natAbs b.natAbs : Nat) : Int) 1), [])) (h5 : (bN ((cmpI ((Nat.gcd a.natAbs b.natAbs : Nat) : Int) 1) != (0 : Int)) : MV) = .sc (.bool true)) (h6 : T.call fn_rational_exact [MV.agg [bN (ng a), MV.fs (nz a) none (cz a)], MV.agg [bN (ng ((Nat.gcd a.natAbs b.natAbs : Nat) : Int)), MV.fs (nz ((Nat.gcd a.natAbs b.natAbs : Nat) : Int)) none (cz ((Nat.gcd a.natAbs b.natAbs : Nat) : Int))]] = some (iM (a.fdiv ((Nat.gcd a.natAbs b.natAbs : Nat) : Int)), [])) (h7 : T.call fn_rational_exact [MV.agg [bN (ng b), MV.fs (nz b) none (cz b)], MV.agg [bN (ng ((Nat.gcd a.natAbs b.natAbs : Nat) : Int)), MV.fs (nz ((Nat.gcd a.natAbs b.natAbs : Nat) : Int)) none (cz ((Nat.gcd a.natAbs b.natAbs : Nat) : Int))]] = some (iM (b.fdiv ((Nat.gcd a.natAbs b.natAbs : Nat) : Int)), [])) : evalBody PG T FUEL (ioF fn_rational_reduce) fn_rational_reduce [iM a, iM b] = some (MV.agg [bN (ng (a.fdiv ((Nat.gcd a.natAbs b.natAbs : Nat) : Int))), MV.fs (nz (a.fdiv ((Nat.gcd a.natAbs b.natAbs : Nat) : Int))) none (cz (a.fdiv ((Nat.gcd a.natAbs b.natAbs : Nat) : Int))), bN (ng (b.fdiv ((Nat.gcd a.natAbs b.natAbs : Nat) : Int))), MV.fs (nz (b.fdiv ((Nat.gcd a.natAbs b.natAbs : Nat) : Int))) none (cz (b.fdiv ((Nat.gcd a.natAbs b.natAbs : Nat) : Int)))], []) :=
  xBody_io (hard := false) hio (orc := [.call (iN (cmpI b 0)) [], .br false, .call (iM ((Nat.gcd a.natAbs b.natAbs : Nat) : Int)) [], .call (iM 1) [], .call (iN (cmpI ((Nat.gcd a.natAbs b.natAbs : Nat) : Int) 1)) [], .br true, .call (iM (a.fdiv ((Nat.gcd a.natAbs b.natAbs : Nat) : Int))) [], .call (iM (b.fdiv ((Nat.gcd a.natAbs b.natAbs : Nat) : Int))) []]) (by kernel_rfl) (owc h0 (owc h1 (owc h2 (owc h3 (owc h4 (owc h5 (owc h6 (ow1 h7))))))))

theorem p_rational_reduce_2 {T : Tab} (hio : TO T) (a b : Int) (h0 : T.call fn_integer_Sign [MV.agg [bN (ng b), MV.fs (nz b) none (cz b)]] = some (iN (cmpI b 0), [])) (h1 : (bN (decide ((cmpI b 0) < (0 : Int))) : MV) = .sc (.bool false)) (h2 : T.call fn_integer_GCD [MV.agg [bN (ng a), MV.fs (nz a) none (cz a)], MV.agg [bN (ng b), MV.fs (nz b) none (cz b)]] = some (iM ((Nat.gcd a.natAbs b.natAbs : Nat) : Int), [])) (h3 : T.call fn_rational_unit [] = some (iM 1, [])) (h4 : T.call fn_integer_Cmp [MV.agg [bN (ng ((Nat.gcd a.natAbs b.natAbs : Nat) : Int)), MV.fs (nz ((Nat.gcd a.natAbs b.natAbs : Nat) : Int)) none (cz ((Nat.gcd a.natAbs b.natAbs : Nat) : Int))], iM 1] = some (iN (cmpI ((Nat.gcd a.natAbs b.natAbs : Nat) : Int) 1), [])) (h5 : (bN ((cmpI ((Nat.gcd a.natAbs b.natAbs : Nat) : Int) 1) != (0 : Int)) : MV) = .sc (.bool false)) : evalBody PG T FUEL (ioF fn_rational_reduce) fn_rational_reduce [iM a, iM b] = some (MV.agg [bN (ng a), MV.fs (nz a) none (cz a), bN (ng b), MV.fs (nz b) none (cz b)], []) :=
  xBody_io (hard := false) hio (orc := [.call (iN (cmpI b 0)) [], .br false, .call (iM ((Nat.gcd a.natAbs b.natAbs : Nat) : Int)) [], .call (iM 1) [], .call (iN (cmpI ((Nat.gcd a.natAbs b.natAbs : Nat) : Int) 1)) [], .br false]) (by kernel_rfl) (owc h0 (owc h1 (owc h2 (owc h3 (owc h4 (ow1 h5))))))

theorem p_rational_reduce_3 {T : Tab} (hio : TO T) (a b : Int) (h0 : T.call fn_integer_Sign [MV.agg [bN (ng b), MV.fs (nz b) none (cz b)]] = some (iN (cmpI b 0), [])) (h1 : (bN (decide ((cmpI b 0) < (0 : Int))) : MV) = .sc (.bool true)) (h2 : T.call fn_integer_Neg [MV.agg [bN (ng a), MV.fs (nz a) none (cz a)]] = some (iM (-a), [])) (h3 : T.call fn_integer_Neg [MV.agg [bN (ng b), MV.fs (nz b) none (cz b)]] = some (iM (-b), [])) (h4 : T.call fn_integer_GCD [MV.agg [bN (ng (-a)), MV.fs (nz (-a)) none (cz (-a))], MV.agg [bN (ng (-b)), MV.fs (nz (-b)) none (cz (-b))]] = some (iM ((Nat.gcd ((-a).natAbs) ((-b).natAbs) : Nat) : Int), [])) (h5 : T.call fn_rational_unit [] = some (iM 1, [])) (h6 : T.call fn_integer_Cmp [MV.agg [bN (ng ((Nat.gcd ((-a).natAbs) ((-b).natAbs) : Nat) : Int)), MV.fs (nz ((Nat.gcd ((-a).natAbs) ((-b).natAbs) : Nat) : Int)) none (cz ((Nat.gcd ((-a).natAbs) ((-b).natAbs) : Nat) : Int))], iM 1] = some (iN (cmpI ((Nat.gcd ((-a).natAbs) ((-b).natAbs) : Nat) : Int) 1), [])) (h7 : (bN ((cmpI ((Nat.gcd ((-a).natAbs) ((-b).natAbs) : Nat) : Int) 1) != (0 : Int)) : MV) = .sc (.bool false)) : evalBody PG T FUEL (ioF fn_rational_reduce) fn_rational_reduce [iM a, iM b] = some (MV.agg [bN (ng (-a)), MV.fs (nz (-a)) none (cz (-a)), bN (ng (-b)), MV.fs (nz (-b)) none (cz (-b))], []) :=
  xBody_io (hard := false) hio (orc := [.call (iN (cmpI b 0)) [], .br true, .call (iM (-a)) [], .call (iM (-b)) [], .call (iM ((Nat.gcd ((-a).natAbs) ((-b).natAbs) : Nat) : Int)) [], .call (iM 1) [], .call (iN (cmpI ((Nat.gcd ((-a).natAbs) ((-b).natAbs) : Nat) : Int) 1)) [], .br false]) (by kernel_rfl) (owc h0 (owc h1 (owc h2 (owc h3 (owc h4 (owc h5 (owc h6 (ow1 h7))))))))

theorem p_rational_Sign_0 {T : Tab} (hio : TO T) (p : Rat) (h0 : T.call fn_integer_Sign [MV.agg [bN (ng p.num), MV.fs (nz p.num) none (cz p.num)]] = some (iN (cmpI p.num 0), [])) : evalBody PG T FUEL (ioF fn_rational_Sign) fn_rational_Sign [rM p] = some (iN (cmpI p.num 0), []) :=
  xBody_io (hard := false) hio (orc := [.call (iN (cmpI p.num 0)) []]) (by kernel_rfl) (ow1 h0)

theorem p_rational_Cmp_0 {T : Tab} (hio : TO T) (p q : Rat) (h0 : T.call fn_rational_Sign [MV.agg [bN (ng p.num), MV.fs (nz p.num) none (cz p.num), bN (ng ((p.den : Nat) : Int)), MV.fs (nz ((p.den : Nat) : Int)) none (cz ((p.den : Nat) : Int))]] = some (iN (cmpI p.num 0), [])) (h1 : T.call fn_rational_Sign [MV.agg [bN (ng q.num), MV.fs (nz q.num) none (cz q.num), bN (ng ((q.den : Nat) : Int)), MV.fs (nz ((q.den : Nat) : Int)) none (cz ((q.den : Nat) : Int))]] = some (iN (cmpI q.num 0), [])) (h2 : T.call fn_cmp_Compare_int [iN (cmpI p.num 0), iN (cmpI q.num 0)] = some (iN (cmpI (cmpI p.num 0) (cmpI q.num 0)), [])) (h3 : (bN ((cmpI (cmpI p.num 0) (cmpI q.num 0)) != (0 : Int)) : MV) = .sc (.bool true)) : evalBody PG T FUEL (ioF fn_rational_Cmp) fn_rational_Cmp [rM p, rM q] = some (iN (cmpI (cmpI p.num 0) (cmpI q.num 0)), []) :=
  xBody_io (hard := false) hio (orc := [.call (iN (cmpI p.num 0)) [], .call (iN (cmpI q.num 0)) [], .call (iN (cmpI (cmpI p.num 0) (cmpI q.num 0))) [], .br true]) (by kernel_rfl) (owc h0 (owc h1 (owc h2 (ow1 h3))))

theorem p_rational_Cmp_1 {T : Tab} (hio : TO T) (p q : Rat) (h0 : T.call fn_rational_Sign [MV.agg [bN (ng p.num), MV.fs (nz p.num) none (cz p.num), bN (ng ((p.den : Nat) : Int)), MV.fs (nz ((p.den : Nat) : Int)) none (cz ((p.den : Nat) : Int))]] = some (iN (cmpI p.num 0), [])) (h1 : T.call fn_rational_Sign [MV.agg [bN (ng q.num), MV.fs (nz q.num) none (cz q.num), bN (ng ((q.den : Nat) : Int)), MV.fs (nz ((q.den : Nat) : Int)) none (cz ((q.den : Nat) : Int))]] = some (iN (cmpI q.num 0), [])) (h2 : T.call fn_cmp_Compare_int [iN (cmpI p.num 0), iN (cmpI q.num 0)] = some (iN (cmpI (cmpI p.num 0) (cmpI q.num 0)), [])) (h3 : (bN ((cmpI (cmpI p.num 0) (cmpI q.num 0)) != (0 : Int)) : MV) = .sc (.bool false)) (h4 : T.call fn_integer_Mul [MV.agg [bN (ng p.num), MV.fs (nz p.num) none (cz p.num)], MV.agg [bN (ng ((q.den : Nat) : Int)), MV.fs (nz ((q.den : Nat) : Int)) none (cz ((q.den : Nat) : Int))]] = some (iM (p.num * ((q.den : Nat) : Int)), [])) (h5 : T.call fn_integer_Mul [MV.agg [bN (ng q.num), MV.fs (nz q.num) none (cz q.num)], MV.agg [bN (ng ((p.den : Nat) : Int)), MV.fs (nz ((p.den : Nat) : Int)) none (cz ((p.den : Nat) : Int))]] = some (iM (q.num * ((p.den : Nat) : Int)), [])) (h6 : T.call fn_integer_Cmp [iM (p.num * ((q.den : Nat) : Int)), iM (q.num * ((p.den : Nat) : Int))] = some (iN (cmpI (p.num * ((q.den : Nat) : Int)) (q.num * ((p.den : Nat) : Int))), [])) : evalBody PG T FUEL (ioF fn_rational_Cmp) fn_rational_Cmp [rM p, rM q] = some (iN (cmpI (p.num * ((q.den : Nat) : Int)) (q.num * ((p.den : Nat) : Int))), []) :=
  xBody_io (hard := false) hio (orc := [.call (iN (cmpI p.num 0)) [], .call (iN (cmpI q.num 0)) [], .call (iN (cmpI (cmpI p.num 0) (cmpI q.num 0))) [], .br false, .call (iM (p.num * ((q.den : Nat) : Int))) [], .call (iM (q.num * ((p.den : Nat) : Int))) [], .call (iN (cmpI (p.num * ((q.den : Nat) : Int)) (q.num * ((p.den : Nat) : Int)))) []]) (by kernel_rfl) (owc h0 (owc h1 (owc h2 (owc h3 (owc h4 (owc h5 (ow1 h6)))))))

theorem p_rational_Add_0 {T : Tab} (hio : TO T) (p q : Rat) (h0 : T.call fn_integer_Cmp [MV.agg [bN (ng ((p.den : Nat) : Int)), MV.fs (nz ((p.den : Nat) : Int)) none (cz ((p.den : Nat) : Int))], MV.agg [bN (ng ((q.den : Nat) : Int)), MV.fs (nz ((q.den : Nat) : Int)) none (cz ((q.den : Nat) : Int))]] = some (iN (cmpI ((p.den : Nat) : Int) ((q.den : Nat) : Int)), [])) (h1 : (bN ((cmpI ((p.den : Nat) : Int) ((q.den : Nat) : Int)) == (0 : Int)) : MV) = .sc (.bool true)) (h2 : T.call fn_integer_Add [MV.agg [bN (ng p.num), MV.fs (nz p.num) none (cz p.num)], MV.agg [bN (ng q.num), MV.fs (nz q.num) none (cz q.num)]] = some (iM (p.num + q.num), [])) (h3 : T.call fn_rational_reduce [iM (p.num + q.num), MV.agg [bN (ng ((p.den : Nat) : Int)), MV.fs (nz ((p.den : Nat) : Int)) none (cz ((p.den : Nat) : Int))]] = some (rM (Rat.divInt (p.num + q.num) ((p.den : Nat) : Int)), [])) : evalBody PG T FUEL (ioF fn_rational_Add) fn_rational_Add [rM p, rM q] = some (MV.agg [bN (ng (((Rat.divInt (p.num + q.num) ((p.den : Nat) : Int))).num)), MV.fs (nz (((Rat.divInt (p.num + q.num) ((p.den : Nat) : Int))).num)) none (cz (((Rat.divInt (p.num + q.num) ((p.den : Nat) : Int))).num)), bN (ng (((Rat.divInt (p.num + q.num) ((p.den : Nat) : Int)).den : Nat) : Int)), MV.fs (nz (((Rat.divInt (p.num + q.num) ((p.den : Nat) : Int)).den : Nat) : Int)) none (cz (((Rat.divInt (p.num + q.num) ((p.den : Nat) : Int)).den : Nat) : Int))], []) :=
  xBody_io (hard := false) hio (orc := [.call (iN (cmpI ((p.den : Nat) : Int) ((q.den : Nat) : Int))) [], .br true, .call (iM (p.num + q.num)) [], .call (rM (Rat.divInt (p.num + q.num) ((p.den : Nat) : Int))) []]) (by kernel_rfl) (owc h0 (owc h1 (owc h2 (ow1 h3))))

theorem p_rational_Add_1 {T : Tab} (hio : TO T) (p q : Rat) (h0 : T.call fn_integer_Cmp [MV.agg [bN (ng ((p.den : Nat) : Int)), MV.fs (nz ((p.den : Nat) : Int)) none (cz ((p.den : Nat) : Int))], MV.agg [bN (ng ((q.den : Nat) : Int)), MV.fs (nz ((q.den : Nat) : Int)) none (cz ((q.den : Nat) : Int))]] = some (iN (cmpI ((p.den : Nat) : Int) ((q.den : Nat) : Int)), [])) (h1 : (bN ((cmpI ((p.den : Nat) : Int) ((q.den : Nat) : Int)) == (0 : Int)) : MV) = .sc (.bool false)) (h2 : T.call fn_integer_Mul [MV.agg [bN (ng p.num), MV.fs (nz p.num) none (cz p.num)], MV.agg [bN (ng ((q.den : Nat) : Int)), MV.fs (nz ((q.den : Nat) : Int)) none (cz ((q.den : Nat) : Int))]] = some (iM (p.num * ((q.den : Nat) : Int)), [])) (h3 : T.call fn_integer_Mul [MV.agg [bN (ng q.num), MV.fs (nz q.num) none (cz q.num)], MV.agg [bN (ng ((p.den : Nat) : Int)), MV.fs (nz ((p.den : Nat) : Int)) none (cz ((p.den : Nat) : Int))]] = some (iM (q.num * ((p.den : Nat) : Int)), [])) (h4 : T.call fn_integer_Add [iM (p.num * ((q.den : Nat) : Int)), iM (q.num * ((p.den : Nat) : Int))] = some (iM ((p.num * ((q.den : Nat) : Int)) + (q.num * ((p.den : Nat) : Int))), [])) (h5 : T.call fn_integer_Mul [MV.agg [bN (ng ((p.den : Nat) : Int)), MV.fs (nz ((p.den : Nat) : Int)) none (cz ((p.den : Nat) : Int))], MV.agg [bN (ng ((q.den : Nat) : Int)), MV.fs (nz ((q.den : Nat) : Int)) none (cz ((q.den : Nat) : Int))]] = some (iM (((p.den : Nat) : Int) * ((q.den : Nat) : Int)), [])) (h6 : T.call fn_rational_reduce [iM ((p.num * ((q.den : Nat) : Int)) + (q.num * ((p.den : Nat) : Int))), iM (((p.den : Nat) : Int) * ((q.den : Nat) : Int))] = some (rM (Rat.divInt ((p.num * ((q.den : Nat) : Int)) + (q.num * ((p.den : Nat) : Int))) (((p.den : Nat) : Int) * ((q.den : Nat) : Int))), [])) : evalBody PG T FUEL (ioF fn_rational_Add) fn_rational_Add [rM p, rM q] = some (MV.agg [bN (ng (((Rat.divInt ((p.num * ((q.den : Nat) : Int)) + (q.num * ((p.den : Nat) : Int))) (((p.den : Nat) : Int) * ((q.den : Nat) : Int)))).num)), MV.fs (nz (((Rat.divInt ((p.num * ((q.den : Nat) : Int)) + (q.num * ((p.den : Nat) : Int))) (((p.den : Nat) : Int) * ((q.den : Nat) : Int)))).num)) none (cz (((Rat.divInt ((p.num * ((q.den : Nat) : Int)) + (q.num * ((p.den : Nat) : Int))) (((p.den : Nat) : Int) * ((q.den : Nat) : Int)))).num)), bN (ng (((Rat.divInt ((p.num * ((q.den : Nat) : Int)) + (q.num * ((p.den : Nat) : Int))) (((p.den : Nat) : Int) * ((q.den : Nat) : Int))).den : Nat) : Int)), MV.fs (nz (((Rat.divInt ((p.num * ((q.den : Nat) : Int)) + (q.num * ((p.den : Nat) : Int))) (((p.den : Nat) : Int) * ((q.den : Nat) : Int))).den : Nat) : Int)) none (cz (((Rat.divInt ((p.num * ((q.den : Nat) : Int)) + (q.num * ((p.den : Nat) : Int))) (((p.den : Nat) : Int) * ((q.den : Nat) : Int))).den : Nat) : Int))], []) :=
  xBody_io (hard := false) hio (orc := [.call (iN (cmpI ((p.den : Nat) : Int) ((q.den : Nat) : Int))) [], .br false, .call (iM (p.num * ((q.den : Nat) : Int))) [], .call (iM (q.num * ((p.den : Nat) : Int))) [], .call (iM ((p.num * ((q.den : Nat) : Int)) + (q.num * ((p.den : Nat) : Int)))) [], .call (iM (((p.den : Nat) : Int) * ((q.den : Nat) : Int))) [], .call (rM (Rat.divInt ((p.num * ((q.den : Nat) : Int)) + (q.num * ((p.den : Nat) : Int))) (((p.den : Nat) : Int) * ((q.den : Nat) : Int)))) []]) (by kernel_rfl) (owc h0 (owc h1 (owc h2 (owc h3 (owc h4 (owc h5 (ow1 h6)))))))

theorem p_rational_Neg_0 {T : Tab} (hio : TO T) (p : Rat) (h0 : T.call fn_integer_Neg [MV.agg [bN (ng p.num), MV.fs (nz p.num) none (cz p.num)]] = some (iM (-p.num), [])) : evalBody PG T FUEL (ioF fn_rational_Neg) fn_rational_Neg [rM p] = some (MV.agg [bN (ng (-p.num)), MV.fs (nz (-p.num)) none (cz (-p.num)), bN (ng ((p.den : Nat) : Int)), MV.fs (nz ((p.den : Nat) : Int)) none (cz ((p.den : Nat) : Int))], []) :=
  xBody_io (hard := false) hio (orc := [.call (iM (-p.num)) []]) (by kernel_rfl) (ow1 h0)

theorem p_rational_Sub_0 {T : Tab} (hio : TO T) (p q : Rat) (h0 : T.call fn_rational_Neg [MV.agg [bN (ng q.num), MV.fs (nz q.num) none (cz q.num), bN (ng ((q.den : Nat) : Int)), MV.fs (nz ((q.den : Nat) : Int)) none (cz ((q.den : Nat) : Int))]] = some (rM (-q), [])) (h1 : T.call fn_rational_Add [MV.agg [bN (ng p.num), MV.fs (nz p.num) none (cz p.num), bN (ng ((p.den : Nat) : Int)), MV.fs (nz ((p.den : Nat) : Int)) none (cz ((p.den : Nat) : Int))], rM (-q)] = some (rM (p + (-q)), [])) : evalBody PG T FUEL (ioF fn_rational_Sub) fn_rational_Sub [rM p, rM q] = some (MV.agg [bN (ng (((p + (-q))).num)), MV.fs (nz (((p + (-q))).num)) none (cz (((p + (-q))).num)), bN (ng (((p + (-q)).den : Nat) : Int)), MV.fs (nz (((p + (-q)).den : Nat) : Int)) none (cz (((p + (-q)).den : Nat) : Int))], []) :=
  xBody_io (hard := false) hio (orc := [.call (rM (-q)) [], .call (rM (p + (-q))) []]) (by kernel_rfl) (owc h0 (ow1 h1))

theorem p_rational_Mul_0 {T : Tab} (hio : TO T) (p q : Rat) (h0 : T.call fn_integer_Mul [MV.agg [bN (ng p.num), MV.fs (nz p.num) none (cz p.num)], MV.agg [bN (ng q.num), MV.fs (nz q.num) none (cz q.num)]] = some (iM (p.num * q.num), [])) (h1 : T.call fn_integer_Mul [MV.agg [bN (ng ((p.den : Nat) : Int)), MV.fs (nz ((p.den : Nat) : Int)) none (cz ((p.den : Nat) : Int))], MV.agg [bN (ng ((q.den : Nat) : Int)), MV.fs (nz ((q.den : Nat) : Int)) none (cz ((q.den : Nat) : Int))]] = some (iM (((p.den : Nat) : Int) * ((q.den : Nat) : Int)), [])) (h2 : T.call fn_rational_reduce [iM (p.num * q.num), iM (((p.den : Nat) : Int) * ((q.den : Nat) : Int))] = some (rM (Rat.divInt (p.num * q.num) (((p.den : Nat) : Int) * ((q.den : Nat) : Int))), [])) : evalBody PG T FUEL (ioF fn_rational_Mul) fn_rational_Mul [rM p, rM q] = some (MV.agg [bN (ng (((Rat.divInt (p.num * q.num) (((p.den : Nat) : Int) * ((q.den : Nat) : Int)))).num)), MV.fs (nz (((Rat.divInt (p.num * q.num) (((p.den : Nat) : Int) * ((q.den : Nat) : Int)))).num)) none (cz (((Rat.divInt (p.num * q.num) (((p.den : Nat) : Int) * ((q.den : Nat) : Int)))).num)), bN (ng (((Rat.divInt (p.num * q.num) (((p.den : Nat) : Int) * ((q.den : Nat) : Int))).den : Nat) : Int)), MV.fs (nz (((Rat.divInt (p.num * q.num) (((p.den : Nat) : Int) * ((q.den : Nat) : Int))).den : Nat) : Int)) none (cz (((Rat.divInt (p.num * q.num) (((p.den : Nat) : Int) * ((q.den : Nat) : Int))).den : Nat) : Int))], []) :=
  xBody_io (hard := false) hio (orc := [.call (iM (p.num * q.num)) [], .call (iM (((p.den : Nat) : Int) * ((q.den : Nat) : Int))) [], .call (rM (Rat.divInt (p.num * q.num) (((p.den : Nat) : Int) * ((q.den : Nat) : Int)))) []]) (by kernel_rfl) (owc h0 (owc h1 (ow1 h2)))

theorem p_rational_Div_0 {T : Tab} (hio : TO T) (p q : Rat) (h0 : T.call fn_rational_Sign [MV.agg [bN (ng q.num), MV.fs (nz q.num) none (cz q.num), bN (ng ((q.den : Nat) : Int)), MV.fs (nz ((q.den : Nat) : Int)) none (cz ((q.den : Nat) : Int))]] = some (iN (cmpI q.num 0), [])) (h1 : (bN ((cmpI q.num 0) == (0 : Int)) : MV) = .sc (.bool true)) : evalBody PG T FUEL (ioF fn_rational_Div) fn_rational_Div [rM p, rM q] = some (MV.tup [MV.agg [bN false, MV.fs 0 (some 0) [], bN false, MV.fs 0 (some 0) []], iN 6], []) :=
  xBody_io (hard := false) hio (orc := [.call (iN (cmpI q.num 0)) [], .br true]) (by kernel_rfl) (owc h0 (ow1 h1))

theorem p_rational_Div_1 {T : Tab} (hio : TO T) (p q : Rat) (h0 : T.call fn_rational_Sign [MV.agg [bN (ng q.num), MV.fs (nz q.num) none (cz q.num), bN (ng ((q.den : Nat) : Int)), MV.fs (nz ((q.den : Nat) : Int)) none (cz ((q.den : Nat) : Int))]] = some (iN (cmpI q.num 0), [])) (h1 : (bN ((cmpI q.num 0) == (0 : Int)) : MV) = .sc (.bool false)) (h2 : T.call fn_integer_Mul [MV.agg [bN (ng p.num), MV.fs (nz p.num) none (cz p.num)], MV.agg [bN (ng ((q.den : Nat) : Int)), MV.fs (nz ((q.den : Nat) : Int)) none (cz ((q.den : Nat) : Int))]] = some (iM (p.num * ((q.den : Nat) : Int)), [])) (h3 : T.call fn_integer_Mul [MV.agg [bN (ng ((p.den : Nat) : Int)), MV.fs (nz ((p.den : Nat) : Int)) none (cz ((p.den : Nat) : Int))], MV.agg [bN (ng q.num), MV.fs (nz q.num) none (cz q.num)]] = some (iM (((p.den : Nat) : Int) * q.num), [])) (h4 : T.call fn_rational_reduce [iM (p.num * ((q.den : Nat) : Int)), iM (((p.den : Nat) : Int) * q.num)] = some (rM (Rat.divInt (p.num * ((q.den : Nat) : Int)) (((p.den : Nat) : Int) * q.num)), [])) : evalBody PG T FUEL (ioF fn_rational_Div) fn_rational_Div [rM p, rM q] = some (MV.tup [MV.agg [bN (ng (((Rat.divInt (p.num * ((q.den : Nat) : Int)) (((p.den : Nat) : Int) * q.num))).num)), MV.fs (nz (((Rat.divInt (p.num * ((q.den : Nat) : Int)) (((p.den : Nat) : Int) * q.num))).num)) none (cz (((Rat.divInt (p.num * ((q.den : Nat) : Int)) (((p.den : Nat) : Int) * q.num))).num)), bN (ng (((Rat.divInt (p.num * ((q.den : Nat) : Int)) (((p.den : Nat) : Int) * q.num)).den : Nat) : Int)), MV.fs (nz (((Rat.divInt (p.num * ((q.den : Nat) : Int)) (((p.den : Nat) : Int) * q.num)).den : Nat) : Int)) none (cz (((Rat.divInt (p.num * ((q.den : Nat) : Int)) (((p.den : Nat) : Int) * q.num)).den : Nat) : Int))], iN 0], []) :=
  xBody_io (hard := false) hio (orc := [.call (iN (cmpI q.num 0)) [], .br false, .call (iM (p.num * ((q.den : Nat) : Int))) [], .call (iM (((p.den : Nat) : Int) * q.num)) [], .call (rM (Rat.divInt (p.num * ((q.den : Nat) : Int)) (((p.den : Nat) : Int) * q.num))) []]) (by kernel_rfl) (owc h0 (owc h1 (owc h2 (owc h3 (ow1 h4)))))

end Go.Proofs.YtkeelkeoijemiaaGreat.Ev

