/- Integers, part 6: DivMod, GCD: states, rounds, paths. Integers: DivMod, GCD. Reference integers: GCD. Reference integers: DivMod. -/
import Derived.Test.YtkeelkeoijemiaaGreatMi
import Derived.Test.YtkeelkeoijemiaaGreatMn
set_option linter.unusedVariables false
set_option linter.unusedSimpArgs false
namespace Go.Proofs.YtkeelkeoijemiaaGreat.Ev
open Go
set_option linter.unusedVariables false
set_option linter.unusedSimpArgs false
set_option maxRecDepth 100000

theorem p_integer_DivMod_1 {T : Tab} (hio : TO T) (a b : Int) (h0 : (bN (((nz b : Nat) : Int) == (0 : Int)) : MV) = .sc (.bool false)) (h1 : T.call fn_integer_divide [MV.fs (nz a) none (cz a), MV.fs (nz b) none (cz b)] = some (MV.tup [MV.fs (lqD a.natAbs b.natAbs) none (dg (lqD a.natAbs b.natAbs) (a.natAbs / b.natAbs)), MV.fs (lrD a.natAbs b.natAbs) none (dg (lrD a.natAbs b.natAbs) (a.natAbs % b.natAbs))], [])) (h2 : T.call fn_integer_signed [bN (!((ng a) == (ng b))), MV.fs (lqD a.natAbs b.natAbs) none (dg (lqD a.natAbs b.natAbs) (a.natAbs / b.natAbs))] = some (iM (sgz (!((ng a) == (ng b))) (a.natAbs / b.natAbs)), [])) (h3 : T.call fn_integer_signed [bN (ng a), MV.fs (lrD a.natAbs b.natAbs) none (dg (lrD a.natAbs b.natAbs) (a.natAbs % b.natAbs))] = some (iM (sgz (ng a) (a.natAbs % b.natAbs)), [])) (h4 : (bN (decide (((nz (sgz (ng a) (a.natAbs % b.natAbs)) : Nat) : Int) > (0 : Int))) : MV) = .sc (.bool true)) (h5 : (bN (!((ng (sgz (ng a) (a.natAbs % b.natAbs))) == (ng b))) : MV) = .sc (.bool true)) (h6 : T.call fn_integer_FromInt64 [iN 1] = some (iM 1, [])) (h7 : T.call fn_integer_Sub [MV.agg [bN (ng (sgz (!((ng a) == (ng b))) (a.natAbs / b.natAbs))), MV.fs (nz (sgz (!((ng a) == (ng b))) (a.natAbs / b.natAbs))) none (cz (sgz (!((ng a) == (ng b))) (a.natAbs / b.natAbs)))], iM 1] = some (iM ((sgz (!((ng a) == (ng b))) (a.natAbs / b.natAbs)) - 1), [])) (h8 : T.call fn_integer_Add [MV.agg [bN (ng (sgz (ng a) (a.natAbs % b.natAbs))), MV.fs (nz (sgz (ng a) (a.natAbs % b.natAbs))) none (cz (sgz (ng a) (a.natAbs % b.natAbs)))], MV.agg [bN (ng b), MV.fs (nz b) none (cz b)]] = some (iM ((sgz (ng a) (a.natAbs % b.natAbs)) + b), [])) : evalBody PG T FUEL (ioF fn_integer_DivMod) fn_integer_DivMod [iM a, iM b] = some (MV.tup [MV.agg [bN (ng ((sgz (!((ng a) == (ng b))) (a.natAbs / b.natAbs)) - 1)), MV.fs (nz ((sgz (!((ng a) == (ng b))) (a.natAbs / b.natAbs)) - 1)) none (cz ((sgz (!((ng a) == (ng b))) (a.natAbs / b.natAbs)) - 1))], MV.agg [bN (ng ((sgz (ng a) (a.natAbs % b.natAbs)) + b)), MV.fs (nz ((sgz (ng a) (a.natAbs % b.natAbs)) + b)) none (cz ((sgz (ng a) (a.natAbs % b.natAbs)) + b))], iN 0], []) :=
  xBody_io (hard := false) hio (orc := [.br false, .call (MV.tup [MV.fs (lqD a.natAbs b.natAbs) none (dg (lqD a.natAbs b.natAbs) (a.natAbs / b.natAbs)), MV.fs (lrD a.natAbs b.natAbs) none (dg (lrD a.natAbs b.natAbs) (a.natAbs % b.natAbs))]) [], .call (iM (sgz (!((ng a) == (ng b))) (a.natAbs / b.natAbs))) [], .call (iM (sgz (ng a) (a.natAbs % b.natAbs))) [], .br true, .br true, .call (iM 1) [], .call (iM ((sgz (!((ng a) == (ng b))) (a.natAbs / b.natAbs)) - 1)) [], .call (iM ((sgz (ng a) (a.natAbs % b.natAbs)) + b)) []]) (by kernel_rfl) (owc h0 (owc h1 (owc h2 (owc h3 (owc h4 (owc h5 (owc h6 (owc h7 (ow1 h8)))))))))

theorem p_integer_DivMod_2 {T : Tab} (hio : TO T) (a b : Int) (h0 : (bN (((nz b : Nat) : Int) == (0 : Int)) : MV) = .sc (.bool false)) (h1 : T.call fn_integer_divide [MV.fs (nz a) none (cz a), MV.fs (nz b) none (cz b)] = some (MV.tup [MV.fs (lqD a.natAbs b.natAbs) none (dg (lqD a.natAbs b.natAbs) (a.natAbs / b.natAbs)), MV.fs (lrD a.natAbs b.natAbs) none (dg (lrD a.natAbs b.natAbs) (a.natAbs % b.natAbs))], [])) (h2 : T.call fn_integer_signed [bN (!((ng a) == (ng b))), MV.fs (lqD a.natAbs b.natAbs) none (dg (lqD a.natAbs b.natAbs) (a.natAbs / b.natAbs))] = some (iM (sgz (!((ng a) == (ng b))) (a.natAbs / b.natAbs)), [])) (h3 : T.call fn_integer_signed [bN (ng a), MV.fs (lrD a.natAbs b.natAbs) none (dg (lrD a.natAbs b.natAbs) (a.natAbs % b.natAbs))] = some (iM (sgz (ng a) (a.natAbs % b.natAbs)), [])) (h4 : (bN (decide (((nz (sgz (ng a) (a.natAbs % b.natAbs)) : Nat) : Int) > (0 : Int))) : MV) = .sc (.bool false)) : evalBody PG T FUEL (ioF fn_integer_DivMod) fn_integer_DivMod [iM a, iM b] = some (MV.tup [MV.agg [bN (ng (sgz (!((ng a) == (ng b))) (a.natAbs / b.natAbs))), MV.fs (nz (sgz (!((ng a) == (ng b))) (a.natAbs / b.natAbs))) none (cz (sgz (!((ng a) == (ng b))) (a.natAbs / b.natAbs)))], MV.agg [bN (ng (sgz (ng a) (a.natAbs % b.natAbs))), MV.fs (nz (sgz (ng a) (a.natAbs % b.natAbs))) none (cz (sgz (ng a) (a.natAbs % b.natAbs)))], iN 0], []) :=
  xBody_io (hard := false) hio (orc := [.br false, .call (MV.tup [MV.fs (lqD a.natAbs b.natAbs) none (dg (lqD a.natAbs b.natAbs) (a.natAbs / b.natAbs)), MV.fs (lrD a.natAbs b.natAbs) none (dg (lrD a.natAbs b.natAbs) (a.natAbs % b.natAbs))]) [], .call (iM (sgz (!((ng a) == (ng b))) (a.natAbs / b.natAbs))) [], .call (iM (sgz (ng a) (a.natAbs % b.natAbs))) [], .br false, .auto]) (by kernel_rfl) (owc h0 (owc h1 (owc h2 (owc h3 (ow1 h4)))))

theorem p_integer_DivMod_3 {T : Tab} (hio : TO T) (a b : Int) (h0 : (bN (((nz b : Nat) : Int) == (0 : Int)) : MV) = .sc (.bool false)) (h1 : T.call fn_integer_divide [MV.fs (nz a) none (cz a), MV.fs (nz b) none (cz b)] = some (MV.tup [MV.fs (lqD a.natAbs b.natAbs) none (dg (lqD a.natAbs b.natAbs) (a.natAbs / b.natAbs)), MV.fs (lrD a.natAbs b.natAbs) none (dg (lrD a.natAbs b.natAbs) (a.natAbs % b.natAbs))], [])) (h2 : T.call fn_integer_signed [bN (!((ng a) == (ng b))), MV.fs (lqD a.natAbs b.natAbs) none (dg (lqD a.natAbs b.natAbs) (a.natAbs / b.natAbs))] = some (iM (sgz (!((ng a) == (ng b))) (a.natAbs / b.natAbs)), [])) (h3 : T.call fn_integer_signed [bN (ng a), MV.fs (lrD a.natAbs b.natAbs) none (dg (lrD a.natAbs b.natAbs) (a.natAbs % b.natAbs))] = some (iM (sgz (ng a) (a.natAbs % b.natAbs)), [])) (h4 : (bN (decide (((nz (sgz (ng a) (a.natAbs % b.natAbs)) : Nat) : Int) > (0 : Int))) : MV) = .sc (.bool true)) (h5 : (bN (!((ng (sgz (ng a) (a.natAbs % b.natAbs))) == (ng b))) : MV) = .sc (.bool false)) : evalBody PG T FUEL (ioF fn_integer_DivMod) fn_integer_DivMod [iM a, iM b] = some (MV.tup [MV.agg [bN (ng (sgz (!((ng a) == (ng b))) (a.natAbs / b.natAbs))), MV.fs (nz (sgz (!((ng a) == (ng b))) (a.natAbs / b.natAbs))) none (cz (sgz (!((ng a) == (ng b))) (a.natAbs / b.natAbs)))], MV.agg [bN (ng (sgz (ng a) (a.natAbs % b.natAbs))), MV.fs (nz (sgz (ng a) (a.natAbs % b.natAbs))) none (cz (sgz (ng a) (a.natAbs % b.natAbs)))], iN 0], []) :=
  xBody_io (hard := false) hio (orc := [.br false, .call (MV.tup [MV.fs (lqD a.natAbs b.natAbs) none (dg (lqD a.natAbs b.natAbs) (a.natAbs / b.natAbs)), MV.fs (lrD a.natAbs b.natAbs) none (dg (lrD a.natAbs b.natAbs) (a.natAbs % b.natAbs))]) [], .call (iM (sgz (!((ng a) == (ng b))) (a.natAbs / b.natAbs))) [], .call (iM (sgz (ng a) (a.natAbs % b.natAbs))) [], .br true, .br false]) (by kernel_rfl) (owc h0 (owc h1 (owc h2 (owc h3 (owc h4 (ow1 h5))))))

def L_integer_GCD_0 (a b z5_0 z6_0 : Int) : St := { sl := [iM a, iM b, MV.ptr 2 1 0, MV.ptr 3 1 0, MV.ptr 4 1 0, MV.ptr 5 1 0, MV.ptr 6 1 0] ++ rp 54 MV.any, en := [none, none, some ⟨1, [bN (ng a), MV.fs (nz a) none (cz a)], false⟩, some ⟨1, [bN (ng b), MV.fs (nz b) none (cz b)], false⟩, some ⟨1, [bN false, MV.fs 0 (some 0) []], false⟩, some ⟨1, [bN (ng z5_0), MV.fs (nz z5_0) none (cz z5_0)], false⟩, some ⟨1, [bN (ng z6_0), MV.fs (nz z6_0) none (cz z6_0)], false⟩] ++ rp 54 none, ck := 2 }

def L_integer_GCD_1 (a b z5_0 z6_0 t7k t9k : Int) (kb : Nat → Bool) : St := { sl := [iM a, iM b, MV.ptr 2 1 0, MV.ptr 3 1 0, MV.ptr 4 1 0, MV.ptr 5 1 0, MV.ptr 6 1 0, wN t7k, bN (kb 0), wN t9k, bN (kb 1)] ++ rp 50 MV.any, en := [none, none, some ⟨1, [bN (ng a), MV.fs (nz a) none (cz a)], false⟩, some ⟨1, [bN (ng b), MV.fs (nz b) none (cz b)], false⟩, some ⟨1, [bN false, MV.fs 0 (some 0) []], false⟩, some ⟨1, [bN (ng z5_0), MV.fs (nz z5_0) none (cz z5_0)], false⟩, some ⟨1, [bN (ng z6_0), MV.fs (nz z6_0) none (cz z6_0)], false⟩] ++ rp 54 none, ck := 2 }

theorem r_integer_GCD_1_0 {T : Tab} (hio : TO T) (a b z5_0 z6_0 t7k t9k : Int) (kb : Nat → Bool) (h0 : (bN (decide (t9k > (0 : Int))) : MV) = .sc (.bool true)) (h1 : t9k ≠ 0)  : ∃ s_, gC T fn_integer_GCD 1 (L_integer_GCD_1 a b z5_0 z6_0 t7k t9k kb) = some (.normal, s_) ∧ nM fn_integer_GCD 1 s_ = (L_integer_GCD_1 a b z5_0 z6_0 t9k (t7k.tmod t9k) kb) :=
  rd_ok hio (h := true) (orc := [.br true]) (by kernel_rfl) (owc h0 (ow1 h1)) (by kernel_rfl)

noncomputable def X_integer_GCD_1_1 (a b z5_0 z6_0 t7k t9k : Int) (kb : Nat → Bool) : St := xr true fn_integer_GCD 1 (L_integer_GCD_1 a b z5_0 z6_0 t7k t9k kb) [.br false]

theorem r_integer_GCD_1_1 {T : Tab} (hio : TO T) (a b z5_0 z6_0 t7k t9k : Int) (kb : Nat → Bool) (h0 : (bN (decide (t9k > (0 : Int))) : MV) = .sc (.bool false)) : gC T fn_integer_GCD 1 (L_integer_GCD_1 a b z5_0 z6_0 t7k t9k kb) = some (.exit 2, (X_integer_GCD_1_1 a b z5_0 z6_0 t7k t9k kb)) :=
  ex_ok hio (h := true) (orc := [.br false]) (by kernel_rfl) (ow1 h0)

noncomputable def X_integer_GCD_0_0 (a b z5_0 z6_0 t7k t9k : Int) (kb : Nat → Bool) : St := xr true fn_integer_GCD 0 (L_integer_GCD_0 a b z5_0 z6_0) [.auto, .br true, .auto, .call (MV.tup [wN ((wrdN z5_0 : Nat) : Int), bN (wrdB z5_0)]) [], .auto, .call (MV.tup [wN ((wrdN z6_0 : Nat) : Int), bN (wrdB z6_0)]) [], .br true, .br true, .loop (.exit 2) (X_integer_GCD_1_1 a b z5_0 z6_0 t7k t9k kb), .call (MV.fs 3 none (dg 3 t7k.toNat)) [], .call (iM ((t7k.toNat : Nat) : Int)) []]

theorem r_integer_GCD_0_0 {T : Tab} (hio : TO T) (a b z5_0 z6_0 t7k t9k : Int) (kb : Nat → Bool) (h0 : (bN (decide (((nz z6_0 : Nat) : Int) > (0 : Int))) : MV) = .sc (.bool true)) (h1 : T.call fn_integer_word [MV.agg [bN (ng z5_0), MV.fs (nz z5_0) none (cz z5_0)]] = some (MV.tup [wN ((wrdN z5_0 : Nat) : Int), bN (wrdB z5_0)], [])) (h2 : T.call fn_integer_word [MV.agg [bN (ng z6_0), MV.fs (nz z6_0) none (cz z6_0)]] = some (MV.tup [wN ((wrdN z6_0 : Nat) : Int), bN (wrdB z6_0)], [])) (h3 : (bN (wrdB z5_0) : MV) = .sc (.bool true)) (h4 : (bN (wrdB z6_0) : MV) = .sc (.bool true)) (h5 : lp T fn_integer_GCD 1 (L_integer_GCD_1 a b z5_0 z6_0 ((wrdN z5_0 : Nat) : Int) ((wrdN z6_0 : Nat) : Int) (jB [wrdB z5_0, wrdB z6_0])) (.exit 2) (X_integer_GCD_1_1 a b z5_0 z6_0 t7k t9k kb)) (h6 : T.call fn_integer_split [wN t7k] = some (MV.fs 3 none (dg 3 t7k.toNat), [])) (h7 : T.call fn_integer_signed [bN false, MV.fs 3 none (dg 3 t7k.toNat)] = some (iM ((t7k.toNat : Nat) : Int), [])) (h8 : 1 = 1 ∧ false = false ∧ 2 = 2 ∧ 2 ≤ 2) : gC T fn_integer_GCD 0 (L_integer_GCD_0 a b z5_0 z6_0) = some (.ret, (X_integer_GCD_0_0 a b z5_0 z6_0 t7k t9k kb)) :=
  ex_ok hio (h := true) (orc := [.auto, .br true, .auto, .call (MV.tup [wN ((wrdN z5_0 : Nat) : Int), bN (wrdB z5_0)]) [], .auto, .call (MV.tup [wN ((wrdN z6_0 : Nat) : Int), bN (wrdB z6_0)]) [], .br true, .br true, .loop (.exit 2) (X_integer_GCD_1_1 a b z5_0 z6_0 t7k t9k kb), .call (MV.fs 3 none (dg 3 t7k.toNat)) [], .call (iM ((t7k.toNat : Nat) : Int)) []]) (by kernel_rfl) (owc h0 (owc h1 (owc h2 (owc h3 (owc h4 (owc h5 (owc h6 (owc h7 (ow1 h8)))))))))

noncomputable def X_integer_GCD_0_1 (a b z5_0 z6_0 : Int) : St := xr true fn_integer_GCD 0 (L_integer_GCD_0 a b z5_0 z6_0) [.auto, .br false]

theorem r_integer_GCD_0_1 {T : Tab} (hio : TO T) (a b z5_0 z6_0 : Int) (h0 : (bN (decide (((nz z6_0 : Nat) : Int) > (0 : Int))) : MV) = .sc (.bool false)) : gC T fn_integer_GCD 0 (L_integer_GCD_0 a b z5_0 z6_0) = some (.exit 0, (X_integer_GCD_0_1 a b z5_0 z6_0)) :=
  ex_ok hio (h := true) (orc := [.auto, .br false]) (by kernel_rfl) (ow1 h0)

theorem r_integer_GCD_0_2 {T : Tab} (hio : TO T) (a b z5_0 z6_0 : Int) (h0 : (bN (decide (((nz z6_0 : Nat) : Int) > (0 : Int))) : MV) = .sc (.bool true)) (h1 : T.call fn_integer_word [MV.agg [bN (ng z5_0), MV.fs (nz z5_0) none (cz z5_0)]] = some (MV.tup [wN ((wrdN z5_0 : Nat) : Int), bN (wrdB z5_0)], [])) (h2 : T.call fn_integer_word [MV.agg [bN (ng z6_0), MV.fs (nz z6_0) none (cz z6_0)]] = some (MV.tup [wN ((wrdN z6_0 : Nat) : Int), bN (wrdB z6_0)], [])) (h3 : (bN (wrdB z5_0) : MV) = .sc (.bool false)) (h4 : T.call fn_integer_divide [MV.fs (nz z5_0) none (cz z5_0), MV.fs (nz z6_0) none (cz z6_0)] = some (MV.tup [MV.fs (lqD z5_0.natAbs z6_0.natAbs) none (dg (lqD z5_0.natAbs z6_0.natAbs) (z5_0.natAbs / z6_0.natAbs)), MV.fs (lrD z5_0.natAbs z6_0.natAbs) none (dg (lrD z5_0.natAbs z6_0.natAbs) (z5_0.natAbs % z6_0.natAbs))], [])) (h5 : T.call fn_integer_signed [bN false, MV.fs (lrD z5_0.natAbs z6_0.natAbs) none (dg (lrD z5_0.natAbs z6_0.natAbs) (z5_0.natAbs % z6_0.natAbs))] = some (iM ((z5_0.natAbs % z6_0.natAbs : Nat) : Int), [])) (h6 : 1 = 1 ∧ false = false ∧ 2 = 2 ∧ 2 ≤ 2) (h7 : 1 = 1 ∧ false = false ∧ 2 = 2 ∧ 2 ≤ 2)  : ∃ s_, gC T fn_integer_GCD 0 (L_integer_GCD_0 a b z5_0 z6_0) = some (.normal, s_) ∧ nM fn_integer_GCD 0 s_ = (L_integer_GCD_0 a b z6_0 ((z5_0.natAbs % z6_0.natAbs : Nat) : Int)) :=
  rd_ok hio (h := true) (orc := [.auto, .br true, .auto, .call (MV.tup [wN ((wrdN z5_0 : Nat) : Int), bN (wrdB z5_0)]) [], .auto, .call (MV.tup [wN ((wrdN z6_0 : Nat) : Int), bN (wrdB z6_0)]) [], .br false, .auto, .auto, .auto, .call (MV.tup [MV.fs (lqD z5_0.natAbs z6_0.natAbs) none (dg (lqD z5_0.natAbs z6_0.natAbs) (z5_0.natAbs / z6_0.natAbs)), MV.fs (lrD z5_0.natAbs z6_0.natAbs) none (dg (lrD z5_0.natAbs z6_0.natAbs) (z5_0.natAbs % z6_0.natAbs))]) [], .auto, .call (iM ((z5_0.natAbs % z6_0.natAbs : Nat) : Int)) []]) (by kernel_rfl) (owc h0 (owc h1 (owc h2 (owc h3 (owc h4 (owc h5 (owc h6 (ow1 h7)))))))) (by kernel_rfl)

theorem r_integer_GCD_0_3 {T : Tab} (hio : TO T) (a b z5_0 z6_0 : Int) (h0 : (bN (decide (((nz z6_0 : Nat) : Int) > (0 : Int))) : MV) = .sc (.bool true)) (h1 : T.call fn_integer_word [MV.agg [bN (ng z5_0), MV.fs (nz z5_0) none (cz z5_0)]] = some (MV.tup [wN ((wrdN z5_0 : Nat) : Int), bN (wrdB z5_0)], [])) (h2 : T.call fn_integer_word [MV.agg [bN (ng z6_0), MV.fs (nz z6_0) none (cz z6_0)]] = some (MV.tup [wN ((wrdN z6_0 : Nat) : Int), bN (wrdB z6_0)], [])) (h3 : (bN (wrdB z5_0) : MV) = .sc (.bool true)) (h4 : (bN (wrdB z6_0) : MV) = .sc (.bool false)) (h5 : T.call fn_integer_divide [MV.fs (nz z5_0) none (cz z5_0), MV.fs (nz z6_0) none (cz z6_0)] = some (MV.tup [MV.fs (lqD z5_0.natAbs z6_0.natAbs) none (dg (lqD z5_0.natAbs z6_0.natAbs) (z5_0.natAbs / z6_0.natAbs)), MV.fs (lrD z5_0.natAbs z6_0.natAbs) none (dg (lrD z5_0.natAbs z6_0.natAbs) (z5_0.natAbs % z6_0.natAbs))], [])) (h6 : T.call fn_integer_signed [bN false, MV.fs (lrD z5_0.natAbs z6_0.natAbs) none (dg (lrD z5_0.natAbs z6_0.natAbs) (z5_0.natAbs % z6_0.natAbs))] = some (iM ((z5_0.natAbs % z6_0.natAbs : Nat) : Int), [])) (h7 : 1 = 1 ∧ false = false ∧ 2 = 2 ∧ 2 ≤ 2) (h8 : 1 = 1 ∧ false = false ∧ 2 = 2 ∧ 2 ≤ 2)  : ∃ s_, gC T fn_integer_GCD 0 (L_integer_GCD_0 a b z5_0 z6_0) = some (.normal, s_) ∧ nM fn_integer_GCD 0 s_ = (L_integer_GCD_0 a b z6_0 ((z5_0.natAbs % z6_0.natAbs : Nat) : Int)) :=
  rd_ok hio (h := true) (orc := [.auto, .br true, .auto, .call (MV.tup [wN ((wrdN z5_0 : Nat) : Int), bN (wrdB z5_0)]) [], .auto, .call (MV.tup [wN ((wrdN z6_0 : Nat) : Int), bN (wrdB z6_0)]) [], .br true, .br false, .auto, .auto, .call (MV.tup [MV.fs (lqD z5_0.natAbs z6_0.natAbs) none (dg (lqD z5_0.natAbs z6_0.natAbs) (z5_0.natAbs / z6_0.natAbs)), MV.fs (lrD z5_0.natAbs z6_0.natAbs) none (dg (lrD z5_0.natAbs z6_0.natAbs) (z5_0.natAbs % z6_0.natAbs))]) [], .auto, .call (iM ((z5_0.natAbs % z6_0.natAbs : Nat) : Int)) []]) (by kernel_rfl) (owc h0 (owc h1 (owc h2 (owc h3 (owc h4 (owc h5 (owc h6 (owc h7 (ow1 h8))))))))) (by kernel_rfl)

theorem p_integer_GCD_x0_0 {T : Tab} (hio : TO T) (a b z5_0 z6_0 t7k t9k : Int) (kb : Nat → Bool) (h0 : T.call fn_integer_signed [bN false, MV.fs (nz a) none (cz a)] = some (iM ((a.natAbs : Nat) : Int), [])) (h1 : T.call fn_integer_signed [bN false, MV.fs (nz b) none (cz b)] = some (iM ((b.natAbs : Nat) : Int), [])) (h2 : 10 = 10 ∧ false = false ∧ 2 = 2 ∧ 2 ≤ 2) (h3 : 11 = 11 ∧ false = false ∧ 2 = 2 ∧ 2 ≤ 2) (h4 : lp T fn_integer_GCD 0 (L_integer_GCD_0 a b ((a.natAbs : Nat) : Int) ((b.natAbs : Nat) : Int)) .ret (X_integer_GCD_0_0 a b z5_0 z6_0 t7k t9k kb)) : evalBody PG T FUEL (ioF fn_integer_GCD) fn_integer_GCD [iM a, iM b] = some (MV.agg [bN (ng ((t7k.toNat : Nat) : Int)), MV.fs (nz ((t7k.toNat : Nat) : Int)) none (cz ((t7k.toNat : Nat) : Int))], []) :=
  xBody_io (hard := true) hio (orc := [.auto, .call (iM ((a.natAbs : Nat) : Int)) [], .auto, .call (iM ((b.natAbs : Nat) : Int)) [], .loop (.ret) (X_integer_GCD_0_0 a b z5_0 z6_0 t7k t9k kb)]) (by kernel_rfl) (owc h0 (owc h1 (owc h2 (owc h3 (ow1 h4)))))

theorem p_integer_GCD_x1_0 {T : Tab} (hio : TO T) (a b z5_0 z6_0 : Int) (h0 : T.call fn_integer_signed [bN false, MV.fs (nz a) none (cz a)] = some (iM ((a.natAbs : Nat) : Int), [])) (h1 : T.call fn_integer_signed [bN false, MV.fs (nz b) none (cz b)] = some (iM ((b.natAbs : Nat) : Int), [])) (h2 : 10 = 10 ∧ false = false ∧ 2 = 2 ∧ 2 ≤ 2) (h3 : 11 = 11 ∧ false = false ∧ 2 = 2 ∧ 2 ≤ 2) (h4 : lp T fn_integer_GCD 0 (L_integer_GCD_0 a b ((a.natAbs : Nat) : Int) ((b.natAbs : Nat) : Int)) (.exit 0) (X_integer_GCD_0_1 a b z5_0 z6_0)) (h5 : ((cz z5_0).length) = ((nz z5_0) * 1) ∧ (cz z5_0).all cellOk = true ∧ 0 < 0 + (nz z5_0) ∧ 0 = 0 ∧ 0 + (nz z5_0) ≤ 1073741824) (h6 : 8 = 8 ∧ 8 ≠ 0 ∧ 0 + ((0 + (nz z5_0)) * 1) ≤ ((cz z5_0).length) ∧ Plain ((cz z5_0).take ((0 + (nz z5_0)) * 1))) (h7 : T.call fn_integer_signed [bN false, MV.fs (0 + (nz z5_0)) none ((cz z5_0).take ((0 + (nz z5_0)) * 1))] = some (iM ((z5_0.natAbs : Nat) : Int), [])) (h8 : 1 = 1 ∧ false = false ∧ 2 = 2 ∧ 2 ≤ 2) : evalBody PG T FUEL (ioF fn_integer_GCD) fn_integer_GCD [iM a, iM b] = some (MV.agg [bN (ng ((z5_0.natAbs : Nat) : Int)), MV.fs (nz ((z5_0.natAbs : Nat) : Int)) none (cz ((z5_0.natAbs : Nat) : Int))], []) :=
  xBody_io (hard := true) hio (orc := [.auto, .call (iM ((a.natAbs : Nat) : Int)) [], .auto, .call (iM ((b.natAbs : Nat) : Int)) [], .loop (.exit 0) (X_integer_GCD_0_1 a b z5_0 z6_0), .auto, .br true, .call (iM ((z5_0.natAbs : Nat) : Int)) []]) (by kernel_rfl) (owc h0 (owc h1 (owc h2 (owc h3 (owc h4 (owc h5 (owc h6 (owc h7 (ow1 h8)))))))))

theorem p_integer_GCD_x1_1 {T : Tab} (hio : TO T) (a b z5_0 z6_0 : Int) (h0 : T.call fn_integer_signed [bN false, MV.fs (nz a) none (cz a)] = some (iM ((a.natAbs : Nat) : Int), [])) (h1 : T.call fn_integer_signed [bN false, MV.fs (nz b) none (cz b)] = some (iM ((b.natAbs : Nat) : Int), [])) (h2 : 10 = 10 ∧ false = false ∧ 2 = 2 ∧ 2 ≤ 2) (h3 : 11 = 11 ∧ false = false ∧ 2 = 2 ∧ 2 ≤ 2) (h4 : lp T fn_integer_GCD 0 (L_integer_GCD_0 a b ((a.natAbs : Nat) : Int) ((b.natAbs : Nat) : Int)) (.exit 0) (X_integer_GCD_0_1 a b z5_0 z6_0)) (h5 : ((cz z5_0).length) = ((nz z5_0) * 1) ∧ (cz z5_0).all cellOk = true ∧ (0 + (nz z5_0)) = 0) (h6 : T.call fn_integer_signed [bN false, MV.fs 0 (some 0) []] = some (iM ((0 : Nat) : Int), [])) (h7 : 1 = 1 ∧ false = false ∧ 2 = 2 ∧ 2 ≤ 2) : evalBody PG T FUEL (ioF fn_integer_GCD) fn_integer_GCD [iM a, iM b] = some (MV.agg [bN (ng ((0 : Nat) : Int)), MV.fs (nz ((0 : Nat) : Int)) none (cz ((0 : Nat) : Int))], []) :=
  xBody_io (hard := true) hio (orc := [.auto, .call (iM ((a.natAbs : Nat) : Int)) [], .auto, .call (iM ((b.natAbs : Nat) : Int)) [], .loop (.exit 0) (X_integer_GCD_0_1 a b z5_0 z6_0), .auto, .br false, .call (iM ((0 : Nat) : Int)) []]) (by kernel_rfl) (owc h0 (owc h1 (owc h2 (owc h3 (owc h4 (owc h5 (owc h6 (ow1 h7))))))))

end Go.Proofs.YtkeelkeoijemiaaGreat.Ev

namespace Go.Proofs.YtkeelkeoijemiaaGreat.Ev
open Go Go.RowKit
set_option linter.unusedVariables false
set_option linter.unusedSimpArgs false

theorem lqD_le {v w n : Nat} (h : nl v < n) : lqD v w ≤ n + 1 := by unfold lqD; split <;> (try split) <;> omega
theorem lqD_lt {v w : Nat} (hw : 0 < w) : v / w < BB ^ lqD v w := by
  have hv := nl_lt v
  have hle : v / w ≤ v := Nat.div_le_self _ _
  unfold lqD
  split
  · omega
  · split
    · rename_i h; rw [Nat.div_eq_of_lt h]; exact BBp 0
    · rename_i h1 h
      refine (Nat.div_lt_iff_lt_mul hw).2 ?_
      have h2 := nl_low hw
      have h3 : nl w ≤ nl v := nl_mono (by omega)
      have h4 := nl_pos hw
      have h5 : BB ^ (nl v + 2 - nl w) * BB ^ (nl w - 1) ≤ BB ^ (nl v + 2 - nl w) * w := Nat.mul_le_mul_left _ h2
      rw [← Nat.pow_add, show nl v + 2 - nl w + (nl w - 1) = nl v + 1 by omega] at h5
      have h6 : BB ^ nl v ≤ BB ^ (nl v + 1) := Nat.pow_le_pow_right BB_pos (by omega)
      omega
theorem lrD_lt {v w : Nat} (hw : 0 < w) : v % w < BB ^ lrD v w := by
  have hm := Nat.mod_lt v hw
  have hwl := nl_lt w
  unfold lrD
  split
  · rename_i h; rw [h] at hwl; omega
  · split
    · rename_i h; rw [Nat.mod_eq_of_lt h]; exact nl_lt v
    · obtain ⟨s, hs, hs0, _⟩ := scale_facts hw
      rw [← hs]
      exact Nat.lt_of_le_of_lt (Nat.le_mul_of_pos_right _ hs0) (nl_lt _)
theorem lrD_le {v w : Nat} (hw : 0 < w) : lrD v w ≤ nl v + nl w + 1 := by
  have hm := Nat.mod_lt v hw
  have hp := nl_pos hw
  unfold lrD
  split
  · omega
  · split
    · omega
    · obtain ⟨s, hs, hs0, hsB, h1, _⟩ := scale_facts hw
      rw [← hs]
      have : v % w * s < BB ^ nl w := Nat.lt_of_le_of_lt (Nat.mul_le_mul_right _ (Nat.le_of_lt hm)) h1
      have := nl_le this
      omega

theorem nz_le {z : Int} {k : Nat} (h : z.natAbs < BB ^ k) : nz z ≤ k := nl_le h
theorem c_integer_DivMod {q : Nat} (hq : 4 < q) {a b : Int} (hb : b ≠ 0) (ha : nz a < 10000) (hbz : nz b < 10000) : (TU q).call fn_integer_DivMod [iM a, iM b] = some (.tup [iM (a.fdiv b), iM (a.fmod b), iN 0], []) := by
  have hio := TU_io (q - 1)
  have hb0 : 0 < b.natAbs := by omega
  have hbp := nz_pos.2 hb
  obtain ⟨x, hx⟩ : ∃ x, x = a.natAbs / b.natAbs := ⟨_, rfl⟩
  obtain ⟨y, hy⟩ : ∃ y, y = a.natAbs % b.natAbs := ⟨_, rfl⟩
  have hdm : b.natAbs * x + y = a.natAbs := by rw [hx, hy]; exact Nat.div_add_mod _ _
  have hyl : y < b.natAbs := by rw [hy]; exact Nat.mod_lt _ hb0
  have hxl : x ≤ a.natAbs := by rw [hx]; exact Nat.div_le_self _ _
  have hq1 := lqD_lt (v := a.natAbs) hb0
  have hr1 := lrD_lt (v := a.natAbs) hb0
  have hq2 := lqD_le (v := a.natAbs) (w := b.natAbs) (n := 10000) ha
  have hr2 := lrD_le (v := a.natAbs) hb0
  have t1 : (TU (q - 1)).call fn_integer_divide [.fs (nz a) none (cz a), .fs (nz b) none (cz b)] = _ := c_integer_divide (by omega) (nl_lt _) (nl_lt _) hb0 (show nz a < 40000 by omega) (show nz b < 40000 by omega)
  have t2 : (TU (q - 1)).call fn_integer_signed [bN (!((ng a) == (ng b))), .fs (lqD a.natAbs b.natAbs) none (dg (lqD a.natAbs b.natAbs) (a.natAbs / b.natAbs))] = _ := c_integer_signed (by omega) hq1 (by omega)
  have t3 : (TU (q - 1)).call fn_integer_signed [bN (ng a), .fs (lrD a.natAbs b.natAbs) none (dg (lrD a.natAbs b.natAbs) (a.natAbs % b.natAbs))] = _ := c_integer_signed (by omega) hr1 (by
    have : nl a.natAbs + nl b.natAbs + 1 < 100000 := by show nz a + nz b + 1 < 100000; omega
    omega)
  rw [← hx] at t1 t2
  rw [← hy] at t1 t3
  have br0 : (bN (((nz b : Nat) : Int) == (0 : Int)) : MV) = .sc (.bool false) := sc_b (by simp; omega)
  have fin : ∀ {u w : Int}, u = a.fdiv b → w = a.fmod b → uncap (.tup [.agg [bN (ng u), .fs (nz u) none (cz u)], .agg [bN (ng w), .fs (nz w) none (cz w)], iN 0]) = .tup [iM (a.fdiv b), iM (a.fmod b), iN 0] := by
    rintro u w rfl rfl
    simp only [uncap, uncaps, uncaps_dg, iM, iC, cz]
  have hu : uncaps [iM a, iM b] = [iM a, iM b] := by rw [uncaps_iM, uncaps_iM]; rfl
  -- the quotient and the remainder
  have uniq : ∀ {u w : Int}, w + b * u = a → (0 ≤ w ∧ w < b ∨ b < w ∧ w ≤ 0) → u = a.fdiv b ∧ w = a.fmod b := by
    intro u w h1 h2
    rcases h2 with ⟨h3, h4⟩ | ⟨h3, h4⟩
    · have := (Int.fdiv_fmod_unique (a := a) (b := b) (r := w) (q := u) (by omega)).2 ⟨h1, h3, h4⟩
      exact ⟨this.1.symm, this.2.symm⟩
    · have := (Int.fdiv_fmod_unique' (a := a) (b := b) (r := w) (q := u) (by omega)).2 ⟨h1, h3, h4⟩
      exact ⟨this.1.symm, this.2.symm⟩
  have eq0 : sgz (ng a) y + b * sgz (!((ng a) == (ng b))) x = a := by
    have hdI : ((b.natAbs : Nat) : Int) * ((x : Nat) : Int) + ((y : Nat) : Int) = ((a.natAbs : Nat) : Int) := by rw [← Int.natCast_mul, ← hdm]; push_cast; rfl
    unfold sgz
    by_cases h1 : a < 0 <;> by_cases h2 : b < 0 <;> simp only [ng, h1, h2, decide_true, decide_false] <;> simp
    · rw [show ((b.natAbs : Nat) : Int) = -b by omega, Int.neg_mul] at hdI; omega
    · rw [show ((b.natAbs : Nat) : Int) = b by omega] at hdI; rw [Int.mul_neg]; omega
    · rw [show ((b.natAbs : Nat) : Int) = -b by omega, Int.neg_mul] at hdI; rw [Int.mul_neg]; omega
    · rw [show ((b.natAbs : Nat) : Int) = b by omega] at hdI; omega
  by_cases hy0 : y = 0
  · subst hy0
    have hz : sgz (ng a) 0 = 0 := by unfold sgz; split <;> rfl
    obtain ⟨f1, f2⟩ := uniq eq0 (by rw [hz]; omega)
    refine TU_call (by omega) rfl rfl (args' := [iM a, iM b]) hu ((p_integer_DivMod_2 hio a b br0 (by rw [← hx, ← hy]; exact t1) (by rw [← hx]; exact t2) (by rw [← hy]; exact t3) (sc_b (by rw [← hy, hz]; rfl))).trans (by rw [← hx, ← hy])) (fin f1 f2)
  · have hzz : sgz (ng a) y ≠ 0 := by unfold sgz; split <;> omega
    have hzp := nz_pos.2 hzz
    have hzs : ng (sgz (ng a) y) = ng a := by
      rw [sgz_ng, decide_eq_true (Nat.pos_of_ne_zero hy0), Bool.and_true]
    by_cases hs : ng a = ng b
    · have hw : (0 ≤ sgz (ng a) y ∧ sgz (ng a) y < b ∨ b < sgz (ng a) y ∧ sgz (ng a) y ≤ 0) := by
        unfold sgz
        rw [hs]
        by_cases h2 : b < 0
        · right; simp only [ng, h2, decide_true]; simp; omega
        · left; simp only [ng, h2, decide_false]; simp; omega
      obtain ⟨f1, f2⟩ := uniq eq0 hw
      refine TU_call (by omega) rfl rfl (args' := [iM a, iM b]) hu ((p_integer_DivMod_3 hio a b br0 (by rw [← hx, ← hy]; exact t1) (by rw [← hx]; exact t2) (by rw [← hy]; exact t3) (sc_b (by rw [← hy]; exact decide_eq_true (by omega))) (sc_b (by rw [← hy, hzs, hs]; simp))).trans (by rw [← hx, ← hy])) (fin f1 f2)
    · have hw : (0 ≤ sgz (ng a) y + b ∧ sgz (ng a) y + b < b ∨ b < sgz (ng a) y + b ∧ sgz (ng a) y + b ≤ 0) := by
        unfold sgz
        by_cases h1 : a < 0 <;> by_cases h2 : b < 0 <;> simp only [ng, h1, h2, decide_true, decide_false] at hs ⊢ <;> simp at hs ⊢ <;> omega
      obtain ⟨f1, f2⟩ := uniq (u := sgz (!((ng a) == (ng b))) x - 1) (w := sgz (ng a) y + b) (by rw [Int.mul_sub, Int.mul_one]; omega) hw
      have hnx : nz (sgz (!((ng a) == (ng b))) x) < 50000 := by
        have : (sgz (!((ng a) == (ng b))) x).natAbs < BB ^ nz a := by rw [sgz_abs]; exact Nat.lt_of_le_of_lt hxl (nl_lt _)
        have := nz_le this
        omega
      have hny : nz (sgz (ng a) y) < 50000 := by
        have : (sgz (ng a) y).natAbs < BB ^ nz b := by rw [sgz_abs]; exact Nat.lt_trans hyl (nl_lt _)
        have := nz_le this
        omega
      refine TU_call (by omega) rfl rfl (args' := [iM a, iM b]) hu ((p_integer_DivMod_1 hio a b br0 (by rw [← hx, ← hy]; exact t1) (by rw [← hx]; exact t2) (by rw [← hy]; exact t3) (sc_b (by rw [← hy]; exact decide_eq_true (by omega))) (sc_b (by rw [← hy, hzs]; simpa using hs))
        (by exact c_integer_FromInt64 (by omega) (by omega)) (by rw [← hx]; exact c_integer_Sub (by omega) hnx (by decide)) (by rw [← hy]; exact c_integer_Add (by omega) hny (by omega))).trans (by rw [← hx, ← hy])) (fin f1 f2)

/-- Euclid's steps: each halves a product. -/
def EI (d x y : Nat) : Prop := (y ≤ x ∧ x * y < 2 ^ d) ∨ (x < y ∧ 0 < d ∧ x * y < 2 ^ (d - 1))
theorem EI.step {d x y : Nat} (h : EI d x y) (hy : 0 < y) : ∃ d', d' < d ∧ EI d' y (x % y) := by
  have hr := Nat.mod_lt x hy
  rcases h with ⟨h1, h2⟩ | ⟨h1, h2, h3⟩
  · have hd : 0 < d := by
      apply Nat.pos_of_ne_zero
      rintro rfl
      have := Nat.mul_pos (show 0 < x by omega) hy
      omega
    refine ⟨d - 1, by omega, .inl ⟨by omega, ?_⟩⟩
    have h4 : y * 1 ≤ y * (x / y) := Nat.mul_le_mul_left _ ((Nat.le_div_iff_mul_le hy).2 (by omega))
    have h5 := Nat.div_add_mod x y
    have h6 : 2 * (x % y) ≤ x := by omega
    have h7 : 2 * (x % y) * y ≤ x * y := Nat.mul_le_mul_right _ h6
    have h8 : 2 ^ d = 2 * 2 ^ (d - 1) := by rw [← Nat.pow_succ']; congr 1; omega
    rw [h8] at h2
    rw [Nat.mul_comm y, ]
    rw [Nat.mul_assoc] at h7
    omega
  · refine ⟨d - 1, by omega, .inl ⟨by omega, ?_⟩⟩
    rw [Nat.mod_eq_of_lt h1, Nat.mul_comm]; exact h3
theorem EI.first {x y K : Nat} (hx : x < BB ^ K) (hy : y < BB ^ K) : EI (60 * K + 1) x y := by
  have h1 : BB ^ K ≤ 2 ^ (30 * K) := by
    rw [Nat.pow_mul]; exact Nat.pow_le_pow_left (by decide) K
  have h2 : x * y < 2 ^ (60 * K) := by
    have h3 : x * y < BB ^ K * BB ^ K := Nat.mul_lt_mul'' hx hy
    have h4 : BB ^ K * BB ^ K ≤ 2 ^ (30 * K) * 2 ^ (30 * K) := Nat.mul_le_mul h1 h1
    have h5 : 2 ^ (30 * K) * 2 ^ (30 * K) = 2 ^ (60 * K) := by rw [← Nat.pow_add]; congr 1; omega
    omega
  by_cases h : y ≤ x
  · exact .inl ⟨h, by rw [Nat.pow_succ]; omega⟩
  · exact .inr ⟨by omega, by omega, by rw [Nat.add_sub_cancel]; exact h2⟩

theorem wrd_small {z : Int} (h : wrdB z = true) : wrdN z = z.natAbs ∧ z.natAbs < BB ^ 2 := by
  unfold wrdB at h
  have h2 := of_decide_eq_true h
  unfold wrdN
  rw [if_pos h2]
  exact ⟨rfl, Nat.lt_of_lt_of_le (nl_lt _) (Nat.pow_le_pow_right BB_pos h2)⟩

theorem gcd_in {T : Tab} (hio : TO T) {a b z5 z6 : Int} (h5 : wrdB z5 = true) (h6 : wrdB z6 = true) :
    lp T fn_integer_GCD 1 (L_integer_GCD_1 a b z5 z6 ((wrdN z5 : Nat) : Int) ((wrdN z6 : Nat) : Int) (jB [wrdB z5, wrdB z6])) (.exit 2)
      (X_integer_GCD_1_1 a b z5 z6 (Nat.gcd z5.natAbs z6.natAbs : Nat) 0 (jB [wrdB z5, wrdB z6])) := by
  obtain ⟨w5, l5⟩ := wrd_small h5
  obtain ⟨w6, l6⟩ := wrd_small h6
  obtain ⟨kb, hkb⟩ : ∃ kb, kb = jB [wrdB z5, wrdB z6] := ⟨_, rfl⟩
  rw [← hkb, w5, w6]
  have main := loop_meas (G := gC T fn_integer_GCD 1) (nm := nM fn_integer_GCD 1)
    (fun d S => ∃ (x y : Nat), Nat.gcd x y = Nat.gcd z5.natAbs z6.natAbs ∧ EI d x y ∧ S = L_integer_GCD_1 a b z5 z6 (x : Nat) (y : Nat) kb)
    (fun o S => o = .exit 2 ∧ S = X_integer_GCD_1_1 a b z5 z6 (Nat.gcd z5.natAbs z6.natAbs : Nat) 0 kb)
    FUEL 121 (L_integer_GCD_1 a b z5 z6 ((z5.natAbs : Nat) : Int) ((z6.natAbs : Nat) : Int) kb) (by
      rintro d S ⟨x, y, hg, hE, rfl⟩
      by_cases hy : y = 0
      · subst hy
        refine .inl ⟨_, _, r_integer_GCD_1_1 hio a b z5 z6 (x : Nat) (0 : Nat) kb (sc_b (by simp)), by simp, rfl, ?_⟩
        rw [← hg, Nat.gcd_zero_right]; rfl
      · obtain ⟨d', h1, h2⟩ := hE.step (Nat.pos_of_ne_zero hy)
        obtain ⟨s', e1, e2⟩ := r_integer_GCD_1_0 hio a b z5 z6 (x : Nat) (y : Nat) kb (sc_b (decide_eq_true (by omega))) (by omega)
        have em : ((x : Nat) : Int).tmod ((y : Nat) : Int) = ((x % y : Nat) : Int) := by rw [Int.tmod_eq_emod_of_nonneg (by omega), ← Int.natCast_emod]
        rw [em] at e2
        refine .inr ⟨s', d', h1, e1, y, x % y, ?_, h2, e2⟩
        rw [← hg, Nat.gcd_comm x y, Nat.gcd_rec y x, Nat.gcd_comm]) ⟨_, _, rfl, EI.first l5 l6, rfl⟩ (by unfold FUEL; omega)
  obtain ⟨o, S, hl, ho, hS⟩ := main
  rw [ho, hS] at hl
  exact hl

/-- What the rounds of GCD need. -/
structure GH (q K : Nat) (z5 z6 : Int) : Prop where
  hq : 3 < q
  hK : K ≤ 8000
  ha : z5.natAbs < BB ^ K
  hb : z6.natAbs < BB ^ K
theorem GH.calls {q K : Nat} {z5 z6 : Int} (h : GH q K z5 z6) (h6 : z6 ≠ 0) :
    (TU q).call fn_integer_divide [.fs (nz z5) none (cz z5), .fs (nz z6) none (cz z6)] = some (.tup [.fs (lqD z5.natAbs z6.natAbs) none (dg (lqD z5.natAbs z6.natAbs) (z5.natAbs / z6.natAbs)), .fs (lrD z5.natAbs z6.natAbs) none (dg (lrD z5.natAbs z6.natAbs) (z5.natAbs % z6.natAbs))], []) ∧
    (TU q).call fn_integer_signed [bN false, .fs (lrD z5.natAbs z6.natAbs) none (dg (lrD z5.natAbs z6.natAbs) (z5.natAbs % z6.natAbs))] = some (iM ((z5.natAbs % z6.natAbs : Nat) : Int), []) := by
  have h0 : 0 < z6.natAbs := by omega
  have n5 := nl_le h.ha
  have n6 := nl_le h.hb
  have hK := h.hK
  have hq := h.hq
  have hl := lrD_le (v := z5.natAbs) h0
  exact ⟨c_integer_divide (by omega) (nl_lt _) (nl_lt _) h0 (show nl z5.natAbs < 40000 by omega) (show nl z6.natAbs < 40000 by omega), c_integer_signed (by omega) (lrD_lt h0) (by omega)⟩
theorem GH.step {q K : Nat} {z5 z6 : Int} (h : GH q K z5 z6) (h6 : z6 ≠ 0) : GH q K z6 ((z5.natAbs % z6.natAbs : Nat) : Int) :=
  ⟨h.hq, h.hK, h.hb, by rw [Int.natAbs_natCast]; exact Nat.lt_trans (Nat.mod_lt _ (by omega)) h.hb⟩

theorem c_integer_GCD {q : Nat} (hq : 4 < q) {a b : Int} (ha : nz a ≤ 8000) (hb : nz b ≤ 8000) : (TU q).call fn_integer_GCD [iM a, iM b] = some (iM ((Nat.gcd a.natAbs b.natAbs : Nat) : Int), []) := by
  have hio := TU_io (q - 1)
  obtain ⟨K, hK⟩ : ∃ K, K = 8000 := ⟨_, rfl⟩
  rw [← hK] at ha hb
  have hA : a.natAbs < BB ^ K := Nat.lt_of_lt_of_le (nl_lt _) (Nat.pow_le_pow_right BB_pos ha)
  have hB : b.natAbs < BB ^ K := Nat.lt_of_lt_of_le (nl_lt _) (Nat.pow_le_pow_right BB_pos hb)
  have s1 : (TU (q - 1)).call fn_integer_signed [bN false, .fs (nz a) none (cz a)] = some (iM ((a.natAbs : Nat) : Int), []) := c_integer_signed (by omega) (nl_lt _) (by omega)
  have s2 : (TU (q - 1)).call fn_integer_signed [bN false, .fs (nz b) none (cz b)] = some (iM ((b.natAbs : Nat) : Int), []) := c_integer_signed (by omega) (nl_lt _) (by omega)
  have sz : (1 = 1 ∧ false = false ∧ 2 = 2 ∧ 2 ≤ 2) := ⟨rfl, rfl, rfl, by decide⟩
  -- what each end of the loop leads to
  have fin0 : ∀ z : Int, z.natAbs < BB ^ K → (0 < nz z → (TU (q - 1)).call fn_integer_signed [bN false, .fs (0 + (nz z)) none ((cz z).take ((0 + (nz z)) * 1))] = some (iM ((z.natAbs : Nat) : Int), [])) := by
    intro z hz hp
    have e0 : 0 + nz z = nz z := Nat.zero_add _
    rw [e0, Nat.mul_one, dg_take (Nat.le_refl _)]
    have := nl_le hz
    exact c_integer_signed (by omega) (nl_lt _) (show nz z < 100000 by show nl _ < _; omega)
  have main := loop_meas (G := gC (TU (q - 1)) fn_integer_GCD 0) (nm := nM fn_integer_GCD 0)
    (fun d S => ∃ z5 z6 : Int, GH (q - 1) K z5 z6 ∧ EI d z5.natAbs z6.natAbs ∧ Nat.gcd z5.natAbs z6.natAbs = Nat.gcd a.natAbs b.natAbs ∧ S = L_integer_GCD_0 a b z5 z6)
    (fun o S => lp (TU (q - 1)) fn_integer_GCD 0 (L_integer_GCD_0 a b ((a.natAbs : Nat) : Int) ((b.natAbs : Nat) : Int)) o S →
      evalBody PG (TU (q - 1)) FUEL (ioF fn_integer_GCD) fn_integer_GCD [iM a, iM b] = some (iM ((Nat.gcd a.natAbs b.natAbs : Nat) : Int), []))
    FUEL (60 * K + 1) (L_integer_GCD_0 a b ((a.natAbs : Nat) : Int) ((b.natAbs : Nat) : Int)) (by
      rintro d S ⟨z5, z6, hG, hE, hg, rfl⟩
      have n5 := nl_le hG.ha
      have n6 := nl_le hG.hb
      have t5 : (TU (q - 1)).call fn_integer_word [MV.agg [bN (ng z5), MV.fs (nz z5) none (cz z5)]] = _ := c_integer_word (by omega) z5
      have t6 : (TU (q - 1)).call fn_integer_word [MV.agg [bN (ng z6), MV.fs (nz z6) none (cz z6)]] = _ := c_integer_word (by omega) z6
      by_cases h6 : z6 = 0
      · subst h6
        have br : (bN (decide (((nz (0 : Int) : Nat) : Int) > (0 : Int))) : MV) = .sc (.bool false) := sc_b (decide_eq_false (by decide))
        have hg' : Nat.gcd a.natAbs b.natAbs = z5.natAbs := by rw [← hg]; exact Nat.gcd_zero_right _
        have e5 : 0 + nz z5 = nz z5 := Nat.zero_add _
        have hlen : (cz z5).length = nz z5 * 1 := by rw [dg_len]; omega
        have n5' : nz z5 ≤ K := n5
        refine .inl ⟨_, _, r_integer_GCD_0_1 hio a b z5 0 br, by simp, ?_⟩
        intro hl
        rw [hg']
        by_cases h5 : 0 < nz z5
        · exact p_integer_GCD_x1_0 hio a b z5 0 s1 s2 ⟨rfl, rfl, rfl, by decide⟩ ⟨rfl, rfl, rfl, by decide⟩ hl ⟨hlen, (dg_leaves _ _).cellOk, by omega, rfl, by omega⟩ ⟨rfl, by decide, by rw [hlen]; omega, by rw [e5, Nat.mul_one, dg_take (Nat.le_refl _)]; exact dg_pl (by omega)⟩ (fin0 z5 hG.ha h5) sz
        · have hz : z5 = 0 := by
            have := nz_pos (z := z5)
            omega
          subst hz
          exact p_integer_GCD_x1_1 hio a b 0 0 s1 s2 ⟨rfl, rfl, rfl, by decide⟩ ⟨rfl, rfl, rfl, by decide⟩ hl ⟨hlen, (dg_leaves _ _).cellOk, by decide⟩ (by exact c_integer_signed (v := 0) (k := 0) (by omega) (by decide) (by omega)) sz
      · have br : (bN (decide (((nz z6 : Nat) : Int) > (0 : Int))) : MV) = .sc (.bool true) := sc_b (decide_eq_true (by have := nz_pos.2 h6; omega))
        obtain ⟨cd, cs⟩ := hG.calls h6
        obtain ⟨d', h1, h2⟩ := hE.step (show 0 < z6.natAbs by omega)
        have hg2 : Nat.gcd z6.natAbs (((z5.natAbs % z6.natAbs : Nat) : Int).natAbs) = Nat.gcd a.natAbs b.natAbs := by
          rw [Int.natAbs_natCast, ← hg, Nat.gcd_comm z5.natAbs, Nat.gcd_rec z6.natAbs z5.natAbs, Nat.gcd_comm]
        have h2' : EI d' z6.natAbs (((z5.natAbs % z6.natAbs : Nat) : Int).natAbs) := by rw [Int.natAbs_natCast]; exact h2
        by_cases w5 : wrdB z5 = true
        · by_cases w6 : wrdB z6 = true
          · -- both small
            have gl : ∀ g : Nat, g = Nat.gcd z5.natAbs z6.natAbs → g < BB ^ 2 := by
              intro g hgg
              have l5 := (wrd_small w5).2
              have l6 := (wrd_small w6).2
              have := Nat.gcd_le_right z5.natAbs (show 0 < z6.natAbs by omega)
              omega
            have sp : ∀ g : Nat, g < BB ^ 2 → (TU (q - 1)).call fn_integer_split [wN (g : Nat)] = some (MV.fs 3 none (dg 3 ((g : Nat) : Int).toNat), []) := fun g hgl => by
              rw [Int.toNat_natCast]
              have : BB ^ 2 = 1000000000000000000 := by decide
              exact c_integer_split (by omega) (by omega)
            have sp2 : ∀ g : Nat, g < BB ^ 2 → (TU (q - 1)).call fn_integer_signed [bN false, MV.fs 3 none (dg 3 ((g : Nat) : Int).toNat)] = some (iM ((((g : Nat) : Int).toNat : Nat) : Int), []) := fun g hgl => by
              rw [Int.toNat_natCast]
              exact c_integer_signed (by omega) (Nat.lt_of_lt_of_le hgl (Nat.pow_le_pow_right BB_pos (by omega))) (by omega)
            have hgl := gl _ rfl
            refine .inl ⟨_, _, r_integer_GCD_0_0 hio a b z5 z6 _ 0 _ br t5 t6 (sc_b w5) (sc_b w6) (gcd_in hio w5 w6) (sp _ hgl) (sp2 _ hgl) sz, by simp, ?_⟩
            intro hl
            refine (p_integer_GCD_x0_0 hio a b z5 z6 _ 0 _ s1 s2 ⟨rfl, rfl, rfl, by decide⟩ ⟨rfl, rfl, rfl, by decide⟩ hl).trans ?_
            rw [Int.toNat_natCast, hg]
          · obtain ⟨s', e1, e2⟩ := r_integer_GCD_0_3 hio a b z5 z6 br t5 t6 (sc_b w5) (sc_b (by simpa using w6)) cd cs sz sz
            exact .inr ⟨s', d', h1, e1, _, _, hG.step h6, h2', hg2, e2⟩
        · obtain ⟨s', e1, e2⟩ := r_integer_GCD_0_2 hio a b z5 z6 br t5 t6 (sc_b (by simpa using w5)) cd cs sz sz
          exact .inr ⟨s', d', h1, e1, _, _, hG.step h6, h2', hg2, e2⟩)
    ⟨((a.natAbs : Nat) : Int), ((b.natAbs : Nat) : Int), ⟨by omega, by omega, by rw [Int.natAbs_natCast]; exact hA, by rw [Int.natAbs_natCast]; exact hB⟩, by rw [Int.natAbs_natCast, Int.natAbs_natCast]; exact EI.first hA hB, by rw [Int.natAbs_natCast, Int.natAbs_natCast], rfl⟩ (by unfold FUEL; omega)
  obtain ⟨o, S, hl, hQ⟩ := main
  exact TU_call (by omega) rfl rfl (args' := [iM a, iM b]) (by rw [uncaps_iM, uncaps_iM]; rfl) (hQ hl) (uncap_iM _)
end Go.Proofs.YtkeelkeoijemiaaGreat.Ev

namespace Go.Proofs.YtkeelkeoijemiaaGreat.Ev
open Go Go.RowKit
set_option linter.unusedVariables false
set_option linter.unusedSimpArgs false

theorem rgcd_e1 {T : Tab} (hio : TO T) {a b : Int} {x0 y0 : Nat} (hx0 : x0 < BB ^ 2) (hy0 : y0 < BB ^ 2) (n5 n6 : Nat) (c5 c6 : Option Nat) (cs5 cs6 : List MV) :
    lp T fn_ref01_GCD 1 (L_ref01_GCD_1e1 a b (x0 : Nat) (y0 : Nat) (x0 : Nat) (y0 : Nat) n5 n6 c5 c6 cs5 cs6) (.exit 2)
      (X_ref01_GCD_1e1_1 a b (x0 : Nat) (y0 : Nat) (Nat.gcd x0 y0 : Nat) (0 : Nat) n5 n6 c5 c6 cs5 cs6) := by
  have main := loop_meas (G := gC T fn_ref01_GCD 1) (nm := nM fn_ref01_GCD 1)
    (fun d S => ∃ (x y : Nat), Nat.gcd x y = Nat.gcd x0 y0 ∧ EI d x y ∧ S = L_ref01_GCD_1e1 a b (x0 : Nat) (y0 : Nat) (x : Nat) (y : Nat) n5 n6 c5 c6 cs5 cs6)
    (fun o S => o = .exit 2 ∧ S = X_ref01_GCD_1e1_1 a b (x0 : Nat) (y0 : Nat) (Nat.gcd x0 y0 : Nat) (0 : Nat) n5 n6 c5 c6 cs5 cs6)
    FUEL 121 (L_ref01_GCD_1e1 a b (x0 : Nat) (y0 : Nat) (x0 : Nat) (y0 : Nat) n5 n6 c5 c6 cs5 cs6) (by
      rintro d S ⟨x, y, hg, hE, rfl⟩
      by_cases hy : y = 0
      · subst hy
        rw [Nat.gcd_zero_right] at hg
        subst hg
        exact .inl ⟨_, _, r_ref01_GCD_1e1_1 hio a b _ _ _ _ n5 n6 c5 c6 cs5 cs6 (sc_b (by simp)), by simp, rfl, rfl⟩
      · obtain ⟨d', h1, h2⟩ := hE.step (Nat.pos_of_ne_zero hy)
        obtain ⟨s', e1, e2⟩ := r_ref01_GCD_1e1_0 hio a b (x0 : Nat) (y0 : Nat) (x : Nat) (y : Nat) n5 n6 c5 c6 cs5 cs6 (sc_b (decide_eq_true (by omega))) (by omega)
        have em : ((x : Nat) : Int).tmod ((y : Nat) : Int) = ((x % y : Nat) : Int) := by rw [Int.tmod_eq_emod_of_nonneg (by omega), ← Int.natCast_emod]
        rw [em] at e2
        refine .inr ⟨s', d', h1, e1, y, x % y, ?_, h2, e2⟩
        rw [← hg, Nat.gcd_comm x y, Nat.gcd_rec y x, Nat.gcd_comm]) ⟨x0, y0, rfl, EI.first hx0 hy0, rfl⟩ (by unfold FUEL; omega)
  obtain ⟨o, S, hl, ho, hS⟩ := main
  rw [ho, hS] at hl
  exact hl
theorem lt_two {x : Nat} (h : nl x ≤ 2) : x < BB ^ 2 := Nat.lt_of_lt_of_le (nl_lt x) (Nat.pow_le_pow_right BB_pos h)

theorem c_ref01_GCD {q : Nat} (hq : 4 < q) {a b : Int} (ha : nz a ≤ 8000) (hb : nz b ≤ 8000) : (TU q).call fn_ref01_GCD [iM a, iM b] = some (iM ((Nat.gcd a.natAbs b.natAbs : Nat) : Int), []) := by
  have hio := TU_io (q - 1)
  have sz : (1 = 1 ∧ false = false ∧ 2 = 2 ∧ 2 ≤ 2) := ⟨rfl, rfl, rfl, by decide⟩
  obtain ⟨K, hK⟩ : ∃ K, K = 8000 := ⟨_, rfl⟩
  rw [← hK] at ha hb
  have hA : a.natAbs < BB ^ K := Nat.lt_of_lt_of_le (nl_lt _) (Nat.pow_le_pow_right BB_pos ha)
  have hB : b.natAbs < BB ^ K := Nat.lt_of_lt_of_le (nl_lt _) (Nat.pow_le_pow_right BB_pos hb)
  have sgn : ∀ (x : Nat) (c : Option Nat), x < BB ^ K → (TU (q - 1)).call fn_ref01_signed [bN false, .fs (nl x) c (dg (nl x) x)] = some (iM ((x : Nat) : Int), []) := fun x c hx => by
    have h1 := nl_le hx
    have := c_ref01_signed (m := q - 1) (s := false) (c := c) (by omega) (nl_lt x) (by omega)
    rw [show sgz false x = ((x : Nat) : Int) from by simp [sgz]] at this
    exact this
  have lmb : ∀ x : Nat, x < BB ^ 2 → (TU (q - 1)).call fn_ref01_limbs [wN (x : Nat)] = some (.fs (nl x) none (dg (nl x) x), []) := fun x hx => by
    have : BB ^ 2 = 1000000000000000000 := by decide
    exact c_ref01_limbs (by omega) (by omega)
  have main := loop_meas (G := gC (TU (q - 1)) fn_ref01_GCD 0) (nm := nM fn_ref01_GCD 0)
    (fun d S => ∃ x y : Nat, x < BB ^ K ∧ y < BB ^ K ∧ EI d x y ∧ Nat.gcd x y = Nat.gcd a.natAbs b.natAbs ∧
      S = L_ref01_GCD_0 a b (nl x) (nl y) none none (dg (nl x) x) (dg (nl y) y))
    (fun o S => lp (TU (q - 1)) fn_ref01_GCD 0 (L_ref01_GCD_0 a b (nz a) (nz b) none none (cz a) (cz b)) o S →
      evalBody PG (TU (q - 1)) FUEL (ioF fn_ref01_GCD) fn_ref01_GCD [iM a, iM b] = some (iM ((Nat.gcd a.natAbs b.natAbs : Nat) : Int), []))
    FUEL (60 * K + 1) (L_ref01_GCD_0 a b (nz a) (nz b) none none (cz a) (cz b)) (by
      rintro d S ⟨x, y, hx, hy, hE, hg, rfl⟩
      have n5 := nl_le hx
      have n6 := nl_le hy
      by_cases h6 : y = 0
      · subst h6
        have br : (bN (decide (((nl 0 : Nat) : Int) > (0 : Int))) : MV) = .sc (.bool false) := sc_b (by rw [nl_zero]; decide)
        have br2 : (bN (((nl 0 : Nat) : Int) == (0 : Int)) : MV) = .sc (.bool true) := sc_b (by rw [nl_zero]; decide)
        have hg' : Nat.gcd a.natAbs b.natAbs = x := by rw [← hg]; exact Nat.gcd_zero_right _
        refine .inl ⟨_, _, r_ref01_GCD_0_1 hio a b _ _ _ _ _ _ br, by simp, ?_⟩
        intro hl
        rw [hg']
        exact p_ref01_GCD_e0a hio a b _ _ _ _ _ _ _ hl br2 (sgn x none hx) sz
      · have hpos := nl_pos (Nat.pos_of_ne_zero h6)
        have br : (bN (decide (((nl y : Nat) : Int) > (0 : Int))) : MV) = .sc (.bool true) := sc_b (decide_eq_true (by omega))
        have br2 : (bN (((nl y : Nat) : Int) == (0 : Int)) : MV) = .sc (.bool false) := sc_b (by simp; omega)
        have cp : (TU (q - 1)).call fn_ref01_parts [.fs (nl x) none (dg (nl x) x), .fs (nl y) none (dg (nl y) y)] = _ := c_ref01_parts (by omega) (Nat.pos_of_ne_zero h6) (by omega) (by omega)
        obtain ⟨d', h1, h2⟩ := hE.step (show 0 < y by omega)
        have hg2 : Nat.gcd y (x % y) = Nat.gcd a.natAbs b.natAbs := by
          rw [← hg, Nat.gcd_comm x, Nat.gcd_rec y x, Nat.gcd_comm]
        have hxy : x % y < BB ^ K := Nat.lt_trans (Nat.mod_lt _ (by omega)) hy
        by_cases w5 : 2 < nl x
        · obtain ⟨s', e1, e2⟩ := r_ref01_GCD_0_0 hio a b _ _ _ _ _ _ _ _ _ _ br (sc_b (decide_eq_true (by omega))) cp
          exact .inr ⟨s', d', h1, e1, _, _, hy, hxy, h2, hg2, e2⟩
        · by_cases w6 : 2 < nl y
          · obtain ⟨s', e1, e2⟩ := r_ref01_GCD_0_2 hio a b _ _ _ _ _ _ _ _ _ _ br (sc_b (decide_eq_false (by omega))) (sc_b (decide_eq_true (by omega))) cp
            exact .inr ⟨s', d', h1, e1, _, _, hy, hxy, h2, hg2, e2⟩
          · -- both small
            have lx := lt_two (show nl x ≤ 2 by omega)
            have ly := lt_two (show nl y ≤ 2 by omega)
            have sx : (TU (q - 1)).call fn_ref01_short [.fs (nl x) none (dg (nl x) x)] = _ := c_ref01_short (by omega) (nl_lt x) (by omega)
            have sy : (TU (q - 1)).call fn_ref01_short [.fs (nl y) none (dg (nl y) y)] = _ := c_ref01_short (by omega) (nl_lt y) (by omega)
            have gl : Nat.gcd x y < BB ^ 2 := by
              have := Nat.gcd_le_right x (show 0 < y by omega)
              omega
            have gK : Nat.gcd x y < BB ^ K := Nat.lt_of_le_of_lt (Nat.gcd_le_right x (show 0 < y by omega)) hy
            refine .inl ⟨_, _, r_ref01_GCD_0_3 hio a b _ _ _ _ _ _ br (sc_b (decide_eq_false (by omega))) (sc_b (decide_eq_false (by omega))), by simp, ?_⟩
            intro hl
            have hin := rgcd_e1 hio (a := a) (b := b) lx ly (nl x) (nl y) none none (dg (nl x) x) (dg (nl y) y)
            rw [← hg]
            exact p_ref01_GCD_e1b hio a b _ _ _ _ _ _ _ _ _ _ _ _ _ hl br2 sx sy hin (lmb _ gl) (sgn _ none gK) sz)
    ⟨a.natAbs, b.natAbs, hA, hB, EI.first hA hB, rfl, rfl⟩ (by unfold FUEL; omega)
  obtain ⟨o, S, hl, hQ⟩ := main
  exact TU_call (by omega) rfl rfl (args' := [iM a, iM b]) (by rw [uncaps_iM, uncaps_iM]; rfl) (hQ hl) (uncap_iM _)
end Go.Proofs.YtkeelkeoijemiaaGreat.Ev

namespace Go.Proofs.YtkeelkeoijemiaaGreat.Ev
open Go Go.RowKit
set_option linter.unusedVariables false
set_option linter.unusedSimpArgs false

theorem c_ref01_DivMod {q : Nat} (hq : 4 < q) {a b : Int} (hb : b ≠ 0) (ha : nz a < 10000) (hbz : nz b < 10000) : (TU q).call fn_ref01_DivMod [iM a, iM b] = some (.tup [iM (a.fdiv b), iM (a.fmod b), iN 0], []) := by
  have hio := TU_io (q - 1)
  have hb0 : 0 < b.natAbs := by omega
  have hbp := nz_pos.2 hb
  obtain ⟨x, hx⟩ : ∃ x, x = a.natAbs / b.natAbs := ⟨_, rfl⟩
  obtain ⟨y, hy⟩ : ∃ y, y = a.natAbs % b.natAbs := ⟨_, rfl⟩
  have hdm : b.natAbs * x + y = a.natAbs := by rw [hx, hy]; exact Nat.div_add_mod _ _
  have hyl : y < b.natAbs := by rw [hy]; exact Nat.mod_lt _ hb0
  have hxl : x ≤ a.natAbs := by rw [hx]; exact Nat.div_le_self _ _
  have hqK : nl (a.natAbs / b.natAbs) < 10000 := Nat.lt_of_le_of_lt (nl_mono (Nat.div_le_self _ _)) ha
  have hrK : nl (a.natAbs % b.natAbs) < 10000 := Nat.lt_of_le_of_lt (nl_mono (Nat.mod_le _ _)) ha
  have t1 : (TU (q - 1)).call fn_ref01_parts [.fs (nz a) none (cz a), .fs (nz b) none (cz b)] = _ := c_ref01_parts (by omega) hb0 (show nz a < 30000 by omega) (show nz b < 30000 by omega)
  have t2 : (TU (q - 1)).call fn_ref01_signed [bN (!((ng a) == (ng b))), .fs (nl (a.natAbs / b.natAbs)) none (dg (nl (a.natAbs / b.natAbs)) (a.natAbs / b.natAbs))] = _ := c_ref01_signed (by omega) (nl_lt _) (by omega)
  have t3 : (TU (q - 1)).call fn_ref01_signed [bN (ng a), .fs (nl (a.natAbs % b.natAbs)) none (dg (nl (a.natAbs % b.natAbs)) (a.natAbs % b.natAbs))] = _ := c_ref01_signed (by omega) (nl_lt _) (by omega)
  rw [← hx] at t1 t2
  rw [← hy] at t1 t3
  have br0 : (bN (((nz b : Nat) : Int) == (0 : Int)) : MV) = .sc (.bool false) := sc_b (by simp; omega)
  have fin : ∀ {u w : Int}, u = a.fdiv b → w = a.fmod b → uncap (.tup [.agg [bN (ng u), .fs (nz u) none (cz u)], .agg [bN (ng w), .fs (nz w) none (cz w)], iN 0]) = .tup [iM (a.fdiv b), iM (a.fmod b), iN 0] := by
    rintro u w rfl rfl
    simp only [uncap, uncaps, uncaps_dg, iM, iC, cz]
  have hu : uncaps [iM a, iM b] = [iM a, iM b] := by rw [uncaps_iM, uncaps_iM]; rfl
  -- the quotient and the remainder
  have uniq : ∀ {u w : Int}, w + b * u = a → (0 ≤ w ∧ w < b ∨ b < w ∧ w ≤ 0) → u = a.fdiv b ∧ w = a.fmod b := by
    intro u w h1 h2
    rcases h2 with ⟨h3, h4⟩ | ⟨h3, h4⟩
    · have := (Int.fdiv_fmod_unique (a := a) (b := b) (r := w) (q := u) (by omega)).2 ⟨h1, h3, h4⟩
      exact ⟨this.1.symm, this.2.symm⟩
    · have := (Int.fdiv_fmod_unique' (a := a) (b := b) (r := w) (q := u) (by omega)).2 ⟨h1, h3, h4⟩
      exact ⟨this.1.symm, this.2.symm⟩
  have eq0 : sgz (ng a) y + b * sgz (!((ng a) == (ng b))) x = a := by
    have hdI : ((b.natAbs : Nat) : Int) * ((x : Nat) : Int) + ((y : Nat) : Int) = ((a.natAbs : Nat) : Int) := by rw [← Int.natCast_mul, ← hdm]; push_cast; rfl
    unfold sgz
    by_cases h1 : a < 0 <;> by_cases h2 : b < 0 <;> simp only [ng, h1, h2, decide_true, decide_false] <;> simp
    · rw [show ((b.natAbs : Nat) : Int) = -b by omega, Int.neg_mul] at hdI; omega
    · rw [show ((b.natAbs : Nat) : Int) = b by omega] at hdI; rw [Int.mul_neg]; omega
    · rw [show ((b.natAbs : Nat) : Int) = -b by omega, Int.neg_mul] at hdI; rw [Int.mul_neg]; omega
    · rw [show ((b.natAbs : Nat) : Int) = b by omega] at hdI; omega
  by_cases hy0 : y = 0
  · subst hy0
    have hz : sgz (ng a) 0 = 0 := by unfold sgz; split <;> rfl
    obtain ⟨f1, f2⟩ := uniq eq0 (by rw [hz]; omega)
    refine TU_call (by omega) rfl rfl (args' := [iM a, iM b]) hu ((p_ref01_DivMod_2 hio a b br0 (by rw [← hx, ← hy]; exact t1) (by rw [← hx]; exact t2) (by rw [← hy]; exact t3) (sc_b (by rw [← hy, nl_zero]; rfl))).trans (by rw [← hx, ← hy])) (fin f1 f2)
  · have hzz : sgz (ng a) y ≠ 0 := by unfold sgz; split <;> omega
    have hzp := nz_pos.2 hzz
    have hzs : ng (sgz (ng a) y) = ng a := by
      rw [sgz_ng, decide_eq_true (Nat.pos_of_ne_zero hy0), Bool.and_true]
    by_cases hs : ng a = ng b
    · have hw : (0 ≤ sgz (ng a) y ∧ sgz (ng a) y < b ∨ b < sgz (ng a) y ∧ sgz (ng a) y ≤ 0) := by
        unfold sgz
        rw [hs]
        by_cases h2 : b < 0
        · right; simp only [ng, h2, decide_true]; simp; omega
        · left; simp only [ng, h2, decide_false]; simp; omega
      obtain ⟨f1, f2⟩ := uniq eq0 hw
      refine TU_call (by omega) rfl rfl (args' := [iM a, iM b]) hu ((p_ref01_DivMod_3 hio a b br0 (by rw [← hx, ← hy]; exact t1) (by rw [← hx]; exact t2) (by rw [← hy]; exact t3) (sc_b (by rw [← hy]; exact decide_eq_true (by have := nl_pos (Nat.pos_of_ne_zero hy0); omega))) (sc_b (by rw [hs]; simp))).trans (by rw [← hx, ← hy])) (fin f1 f2)
    · have hw : (0 ≤ sgz (ng a) y + b ∧ sgz (ng a) y + b < b ∨ b < sgz (ng a) y + b ∧ sgz (ng a) y + b ≤ 0) := by
        unfold sgz
        by_cases h1 : a < 0 <;> by_cases h2 : b < 0 <;> simp only [ng, h1, h2, decide_true, decide_false] at hs ⊢ <;> simp at hs ⊢ <;> omega
      obtain ⟨f1, f2⟩ := uniq (u := sgz (!((ng a) == (ng b))) x - 1) (w := sgz (ng a) y + b) (by rw [Int.mul_sub, Int.mul_one]; omega) hw
      have hnx : nz (sgz (!((ng a) == (ng b))) x) < 50000 := by
        have : (sgz (!((ng a) == (ng b))) x).natAbs < BB ^ nz a := by rw [sgz_abs]; exact Nat.lt_of_le_of_lt hxl (nl_lt _)
        have := nz_le this
        omega
      have hny : nz (sgz (ng a) y) < 50000 := by
        have : (sgz (ng a) y).natAbs < BB ^ nz b := by rw [sgz_abs]; exact Nat.lt_trans hyl (nl_lt _)
        have := nz_le this
        omega
      refine TU_call (by omega) rfl rfl (args' := [iM a, iM b]) hu ((p_ref01_DivMod_1 hio a b br0 (by rw [← hx, ← hy]; exact t1) (by rw [← hx]; exact t2) (by rw [← hy]; exact t3) (sc_b (by rw [← hy]; exact decide_eq_true (by have := nl_pos (Nat.pos_of_ne_zero hy0); omega))) (sc_b (by simpa using hs))
        (by exact c_ref01_FromInt64 (by omega) (by omega)) (by rw [← hx]; exact c_ref01_Sub (by omega) hnx (by decide)) (by rw [← hy]; exact c_ref01_Add (by omega) hny (by omega))).trans (by rw [← hx, ← hy])) (fin f1 f2)

end Go.Proofs.YtkeelkeoijemiaaGreat.Ev

