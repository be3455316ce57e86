/- The program's rationals: paths. The program's rationals. The reference's rationals: paths. -/
import Derived.Test.YtkeelkeoijemiaaGreatMp
set_option linter.unusedVariables false
set_option linter.unusedSimpArgs false
namespace Go.Proofs.YtkeelkeoijemiaaGreat.Ev
open Go
set_option linter.unusedVariables false
set_option linter.unusedSimpArgs false
set_option maxRecDepth 100000

/-- The cells of a fraction. -/
abbrev rC (q : Rat) : List MV := iC q.num ++ iC ((q.den : Nat) : Int)
abbrev rM (q : Rat) : MV := .agg (rC q)
/-- The sign of a difference. -/
def cmpQ (p q : Rat) : Int := if p < q then -1 else if q < p then 1 else 0

theorem p_cmp_isNaN_int_0 {T : Tab} (hio : TO T) (x : Int)  : evalBody PG T FUEL (ioF fn_cmp_isNaN_int) fn_cmp_isNaN_int [iN x] = some (bN (x != x), []) :=
  xBody_io (hard := false) hio (orc := []) (by kernel_rfl) ow0

theorem p_cmp_Compare_int_0 {T : Tab} (hio : TO T) (x y : Int) (h0 : T.call fn_cmp_isNaN_int [iN x] = some (bN false, [])) (h1 : T.call fn_cmp_isNaN_int [iN y] = some (bN false, [])) (h2 : (bN (decide (x < y)) : MV) = .sc (.bool true)) : evalBody PG T FUEL (ioF fn_cmp_Compare_int) fn_cmp_Compare_int [iN x, iN y] = some (iN (-1), []) :=
  xBody_io (hard := false) hio (orc := [.call (bN false) [], .call (bN false) [], .auto, .auto, .br true]) (by kernel_rfl) (owc h0 (owc h1 (ow1 h2)))

theorem p_cmp_Compare_int_1 {T : Tab} (hio : TO T) (x y : Int) (h0 : T.call fn_cmp_isNaN_int [iN x] = some (bN false, [])) (h1 : T.call fn_cmp_isNaN_int [iN y] = some (bN false, [])) (h2 : (bN (decide (x < y)) : MV) = .sc (.bool false)) (h3 : (bN (decide (x > y)) : MV) = .sc (.bool true)) : evalBody PG T FUEL (ioF fn_cmp_Compare_int) fn_cmp_Compare_int [iN x, iN y] = some (iN 1, []) :=
  xBody_io (hard := false) hio (orc := [.call (bN false) [], .call (bN false) [], .auto, .auto, .br false, .br true]) (by kernel_rfl) (owc h0 (owc h1 (owc h2 (ow1 h3))))

theorem p_cmp_Compare_int_2 {T : Tab} (hio : TO T) (x y : Int) (h0 : T.call fn_cmp_isNaN_int [iN x] = some (bN false, [])) (h1 : T.call fn_cmp_isNaN_int [iN y] = some (bN false, [])) (h2 : (bN (decide (x < y)) : MV) = .sc (.bool false)) (h3 : (bN (decide (x > y)) : MV) = .sc (.bool false)) : evalBody PG T FUEL (ioF fn_cmp_Compare_int) fn_cmp_Compare_int [iN x, iN y] = some (iN 0, []) :=
  xBody_io (hard := false) hio (orc := [.call (bN false) [], .call (bN false) [], .auto, .auto, .br false, .br false]) (by kernel_rfl) (owc h0 (owc h1 (owc h2 (ow1 h3))))

theorem p_rational_unit_0 {T : Tab} (hio : TO T)  (h0 : T.call fn_integer_FromInt64 [iN 1] = some (iM 1, [])) : evalBody PG T FUEL (ioF fn_rational_unit) fn_rational_unit [] = some (MV.agg [bN (ng 1), MV.fs (nz 1) none (cz 1)], []) :=
  xBody_io (hard := false) hio (orc := [.call (iM 1) []]) (by kernel_rfl) (ow1 h0)

theorem p_rational_whole_0 {T : Tab} (hio : TO T) (a : Int) (h0 : T.call fn_rational_unit [] = some (iM 1, [])) : evalBody PG T FUEL (ioF fn_rational_whole) fn_rational_whole [iM a] = some (MV.agg [bN (ng a), MV.fs (nz a) none (cz a), bN (ng 1), MV.fs (nz 1) none (cz 1)], []) :=
  xBody_io (hard := false) hio (orc := [.call (iM 1) []]) (by kernel_rfl) (ow1 h0)

theorem p_rational_FromInt64_0 {T : Tab} (hio : TO T) (x : Int) (h0 : T.call fn_integer_FromInt64 [iN x] = some (iM x, [])) (h1 : T.call fn_rational_whole [iM x] = some (rM (x : Rat), [])) : evalBody PG T FUEL (ioF fn_rational_FromInt64) fn_rational_FromInt64 [iN x] = some (MV.agg [bN (ng (((x : Rat)).num)), MV.fs (nz (((x : Rat)).num)) none (cz (((x : Rat)).num)), bN (ng (((x : Rat).den : Nat) : Int)), MV.fs (nz (((x : Rat).den : Nat) : Int)) none (cz (((x : Rat).den : Nat) : Int))], []) :=
  xBody_io (hard := false) hio (orc := [.call (iM x) [], .call (rM (x : Rat)) []]) (by kernel_rfl) (owc h0 (ow1 h1))

theorem p_rational_exact_0 {T : Tab} (hio : TO T) (a b : Int) (h0 : T.call fn_integer_DivMod [MV.agg [bN (ng a), MV.fs (nz a) none (cz a)], MV.agg [bN (ng b), MV.fs (nz b) none (cz b)]] = some (MV.tup [iM (a.fdiv b), iM (a.fmod b), iN 0], [])) : evalBody PG T FUEL (ioF fn_rational_exact) fn_rational_exact [iM a, iM b] = some (MV.agg [bN (ng (a.fdiv b)), MV.fs (nz (a.fdiv b)) none (cz (a.fdiv b))], []) :=
  xBody_io (hard := false) hio (orc := [.call (MV.tup [iM (a.fdiv b), iM (a.fmod b), iN 0]) []]) (by kernel_rfl) (ow1 h0)

theorem p_rational_reduce_0 {T : Tab} (hio : TO T) (a b : Int) (h0 : T.call fn_integer_Sign [MV.agg [bN (ng b), MV.fs (nz b) none (cz b)]] = some (iN (cmpI b 0), [])) (h1 : (bN (decide ((cmpI b 0) < (0 : Int))) : MV) = .sc (.bool true)) (h2 : T.call fn_integer_Neg [MV.agg [bN (ng a), MV.fs (nz a) none (cz a)]] = some (iM (-a), [])) (h3 : T.call fn_integer_Neg [MV.agg [bN (ng b), MV.fs (nz b) none (cz b)]] = some (iM (-b), [])) (h4 : T.call fn_integer_GCD [MV.agg [bN (ng (-a)), MV.fs (nz (-a)) none (cz (-a))], MV.agg [bN (ng (-b)), MV.fs (nz (-b)) none (cz (-b))]] = some (iM ((Nat.gcd ((-a).natAbs) ((-b).natAbs) : Nat) : Int), [])) (h5 : T.call fn_rational_unit [] = some (iM 1, [])) (h6 : T.call fn_integer_Cmp [MV.agg [bN (ng ((Nat.gcd ((-a).natAbs) ((-b).natAbs) : Nat) : Int)), MV.fs (nz ((Nat.gcd ((-a).natAbs) ((-b).natAbs) : Nat) : Int)) none (cz ((Nat.gcd ((-a).natAbs) ((-b).natAbs) : Nat) : Int))], iM 1] = some (iN (cmpI ((Nat.gcd ((-a).natAbs) ((-b).natAbs) : Nat) : Int) 1), [])) (h7 : (bN ((cmpI ((Nat.gcd ((-a).natAbs) ((-b).natAbs) : Nat) : Int) 1) != (0 : Int)) : MV) = .sc (.bool true)) (h8 : T.call fn_rational_exact [MV.agg [bN (ng (-a)), MV.fs (nz (-a)) none (cz (-a))], MV.agg [bN (ng ((Nat.gcd ((-a).natAbs) ((-b).natAbs) : Nat) : Int)), MV.fs (nz ((Nat.gcd ((-a).natAbs) ((-b).natAbs) : Nat) : Int)) none (cz ((Nat.gcd ((-a).natAbs) ((-b).natAbs) : Nat) : Int))]] = some (iM ((-a).fdiv ((Nat.gcd ((-a).natAbs) ((-b).natAbs) : Nat) : Int)), [])) (h9 : T.call fn_rational_exact [MV.agg [bN (ng (-b)), MV.fs (nz (-b)) none (cz (-b))], MV.agg [bN (ng ((Nat.gcd ((-a).natAbs) ((-b).natAbs) : Nat) : Int)), MV.fs (nz ((Nat.gcd ((-a).natAbs) ((-b).natAbs) : Nat) : Int)) none (cz ((Nat.gcd ((-a).natAbs) ((-b).natAbs) : Nat) : Int))]] = some (iM ((-b).fdiv ((Nat.gcd ((-a).natAbs) ((-b).natAbs) : Nat) : Int)), [])) : evalBody PG T FUEL (ioF fn_rational_reduce) fn_rational_reduce [iM a, iM b] = some (MV.agg [bN (ng ((-a).fdiv ((Nat.gcd ((-a).natAbs) ((-b).natAbs) : Nat) : Int))), MV.fs (nz ((-a).fdiv ((Nat.gcd ((-a).natAbs) ((-b).natAbs) : Nat) : Int))) none (cz ((-a).fdiv ((Nat.gcd ((-a).natAbs) ((-b).natAbs) : Nat) : Int))), bN (ng ((-b).fdiv ((Nat.gcd ((-a).natAbs) ((-b).natAbs) : Nat) : Int))), MV.fs (nz ((-b).fdiv ((Nat.gcd ((-a).natAbs) ((-b).natAbs) : Nat) : Int))) none (cz ((-b).fdiv ((Nat.gcd ((-a).natAbs) ((-b).natAbs) : Nat) : Int)))], []) :=
  xBody_io (hard := false) hio (orc := [.call (iN (cmpI b 0)) [], .br true, .call (iM (-a)) [], .call (iM (-b)) [], .call (iM ((Nat.gcd ((-a).natAbs) ((-b).natAbs) : Nat) : Int)) [], .call (iM 1) [], .call (iN (cmpI ((Nat.gcd ((-a).natAbs) ((-b).natAbs) : Nat) : Int) 1)) [], .br true, .call (iM ((-a).fdiv ((Nat.gcd ((-a).natAbs) ((-b).natAbs) : Nat) : Int))) [], .call (iM ((-b).fdiv ((Nat.gcd ((-a).natAbs) ((-b).natAbs) : Nat) : Int))) []]) (by kernel_rfl) (owc h0 (owc h1 (owc h2 (owc h3 (owc h4 (owc h5 (owc h6 (owc h7 (owc h8 (ow1 h9))))))))))

theorem p_rational_reduce_1 {T : Tab} (hio : TO T) (a b : Int) (h0 : T.call fn_integer_Sign [MV.agg [bN (ng b), MV.fs (nz b) none (cz b)]] = some (iN (cmpI b 0), [])) (h1 : (bN (decide ((cmpI b 0) < (0 : Int))) : MV) = .sc (.bool false)) (h2 : T.call fn_integer_GCD [MV.agg [bN (ng a), MV.fs (nz a) none (cz a)], MV.agg [bN (ng b), MV.fs (nz b) none (cz b)]] = some (iM ((Nat.gcd a.natAbs b.natAbs : Nat) : Int), [])) (h3 : T.call fn_rational_unit [] = some (iM 1, [])) (h4 : T.call fn_integer_Cmp [MV.agg [bN (ng ((Nat.gcd a.natAbs b.natAbs : Nat) : Int)), MV.fs (nz ((Nat.gcd a.natAbs b.natAbs : Nat) : Int)) none (cz ((Nat.gcd a.natAbs b.natAbs : Nat) : Int))], iM 1] = some (iN (cmpI ((Nat.gcd a.natAbs b.natAbs : Nat) : Int) 1), [])) (h5 : (bN ((cmpI ((Nat.gcd a.natAbs b.natAbs : Nat) : Int) 1) != (0 : Int)) : MV) = .sc (.bool true)) (h6 : T.call fn_rational_exact [MV.agg [bN (ng a), MV.fs (nz a) none (cz a)], MV.agg [bN (ng ((Nat.gcd a.natAbs b.natAbs : Nat) : Int)), MV.fs (nz ((Nat.gcd a.natAbs b.natAbs : Nat) : Int)) none (cz ((Nat.gcd a.natAbs b.natAbs : Nat) : Int))]] = some (iM (a.fdiv ((Nat.gcd a.natAbs b.natAbs : Nat) : Int)), [])) (h7 : T.call fn_rational_exact [MV.agg [bN (ng b), MV.fs (nz b) none (cz b)], MV.agg [bN (ng ((Nat.gcd a.natAbs b.natAbs : Nat) : Int)), MV.fs (nz ((Nat.gcd a.natAbs b.natAbs : Nat) : Int)) none (cz ((Nat.gcd a.natAbs b.natAbs : Nat) : Int))]] = some (iM (b.fdiv ((Nat.gcd a.natAbs b.natAbs : Nat) : Int)), [])) : evalBody PG T FUEL (ioF fn_rational_reduce) fn_rational_reduce [iM a, iM b] = some (MV.agg [bN (ng (a.fdiv ((Nat.gcd a.natAbs b.natAbs : Nat) : Int))), MV.fs (nz (a.fdiv ((Nat.gcd a.natAbs b.natAbs : Nat) : Int))) none (cz (a.fdiv ((Nat.gcd a.natAbs b.natAbs : Nat) : Int))), bN (ng (b.fdiv ((Nat.gcd a.natAbs b.natAbs : Nat) : Int))), MV.fs (nz (b.fdiv ((Nat.gcd a.natAbs b.natAbs : Nat) : Int))) none (cz (b.fdiv ((Nat.gcd a.natAbs b.natAbs : Nat) : Int)))], []) :=
  xBody_io (hard := false) hio (orc := [.call (iN (cmpI b 0)) [], .br false, .call (iM ((Nat.gcd a.natAbs b.natAbs : Nat) : Int)) [], .call (iM 1) [], .call (iN (cmpI ((Nat.gcd a.natAbs b.natAbs : Nat) : Int) 1)) [], .br true, .call (iM (a.fdiv ((Nat.gcd a.natAbs b.natAbs : Nat) : Int))) [], .call (iM (b.fdiv ((Nat.gcd a.natAbs b.natAbs : Nat) : Int))) []]) (by kernel_rfl) (owc h0 (owc h1 (owc h2 (owc h3 (owc h4 (owc h5 (owc h6 (ow1 h7))))))))

theorem p_rational_reduce_2 {T : Tab} (hio : TO T) (a b : Int) (h0 : T.call fn_integer_Sign [MV.agg [bN (ng b), MV.fs (nz b) none (cz b)]] = some (iN (cmpI b 0), [])) (h1 : (bN (decide ((cmpI b 0) < (0 : Int))) : MV) = .sc (.bool false)) (h2 : T.call fn_integer_GCD [MV.agg [bN (ng a), MV.fs (nz a) none (cz a)], MV.agg [bN (ng b), MV.fs (nz b) none (cz b)]] = some (iM ((Nat.gcd a.natAbs b.natAbs : Nat) : Int), [])) (h3 : T.call fn_rational_unit [] = some (iM 1, [])) (h4 : T.call fn_integer_Cmp [MV.agg [bN (ng ((Nat.gcd a.natAbs b.natAbs : Nat) : Int)), MV.fs (nz ((Nat.gcd a.natAbs b.natAbs : Nat) : Int)) none (cz ((Nat.gcd a.natAbs b.natAbs : Nat) : Int))], iM 1] = some (iN (cmpI ((Nat.gcd a.natAbs b.natAbs : Nat) : Int) 1), [])) (h5 : (bN ((cmpI ((Nat.gcd a.natAbs b.natAbs : Nat) : Int) 1) != (0 : Int)) : MV) = .sc (.bool false)) : evalBody PG T FUEL (ioF fn_rational_reduce) fn_rational_reduce [iM a, iM b] = some (MV.agg [bN (ng a), MV.fs (nz a) none (cz a), bN (ng b), MV.fs (nz b) none (cz b)], []) :=
  xBody_io (hard := false) hio (orc := [.call (iN (cmpI b 0)) [], .br false, .call (iM ((Nat.gcd a.natAbs b.natAbs : Nat) : Int)) [], .call (iM 1) [], .call (iN (cmpI ((Nat.gcd a.natAbs b.natAbs : Nat) : Int) 1)) [], .br false]) (by kernel_rfl) (owc h0 (owc h1 (owc h2 (owc h3 (owc h4 (ow1 h5))))))

theorem p_rational_reduce_3 {T : Tab} (hio : TO T) (a b : Int) (h0 : T.call fn_integer_Sign [MV.agg [bN (ng b), MV.fs (nz b) none (cz b)]] = some (iN (cmpI b 0), [])) (h1 : (bN (decide ((cmpI b 0) < (0 : Int))) : MV) = .sc (.bool true)) (h2 : T.call fn_integer_Neg [MV.agg [bN (ng a), MV.fs (nz a) none (cz a)]] = some (iM (-a), [])) (h3 : T.call fn_integer_Neg [MV.agg [bN (ng b), MV.fs (nz b) none (cz b)]] = some (iM (-b), [])) (h4 : T.call fn_integer_GCD [MV.agg [bN (ng (-a)), MV.fs (nz (-a)) none (cz (-a))], MV.agg [bN (ng (-b)), MV.fs (nz (-b)) none (cz (-b))]] = some (iM ((Nat.gcd ((-a).natAbs) ((-b).natAbs) : Nat) : Int), [])) (h5 : T.call fn_rational_unit [] = some (iM 1, [])) (h6 : T.call fn_integer_Cmp [MV.agg [bN (ng ((Nat.gcd ((-a).natAbs) ((-b).natAbs) : Nat) : Int)), MV.fs (nz ((Nat.gcd ((-a).natAbs) ((-b).natAbs) : Nat) : Int)) none (cz ((Nat.gcd ((-a).natAbs) ((-b).natAbs) : Nat) : Int))], iM 1] = some (iN (cmpI ((Nat.gcd ((-a).natAbs) ((-b).natAbs) : Nat) : Int) 1), [])) (h7 : (bN ((cmpI ((Nat.gcd ((-a).natAbs) ((-b).natAbs) : Nat) : Int) 1) != (0 : Int)) : MV) = .sc (.bool false)) : evalBody PG T FUEL (ioF fn_rational_reduce) fn_rational_reduce [iM a, iM b] = some (MV.agg [bN (ng (-a)), MV.fs (nz (-a)) none (cz (-a)), bN (ng (-b)), MV.fs (nz (-b)) none (cz (-b))], []) :=
  xBody_io (hard := false) hio (orc := [.call (iN (cmpI b 0)) [], .br true, .call (iM (-a)) [], .call (iM (-b)) [], .call (iM ((Nat.gcd ((-a).natAbs) ((-b).natAbs) : Nat) : Int)) [], .call (iM 1) [], .call (iN (cmpI ((Nat.gcd ((-a).natAbs) ((-b).natAbs) : Nat) : Int) 1)) [], .br false]) (by kernel_rfl) (owc h0 (owc h1 (owc h2 (owc h3 (owc h4 (owc h5 (owc h6 (ow1 h7))))))))

theorem p_rational_Sign_0 {T : Tab} (hio : TO T) (p : Rat) (h0 : T.call fn_integer_Sign [MV.agg [bN (ng p.num), MV.fs (nz p.num) none (cz p.num)]] = some (iN (cmpI p.num 0), [])) : evalBody PG T FUEL (ioF fn_rational_Sign) fn_rational_Sign [rM p] = some (iN (cmpI p.num 0), []) :=
  xBody_io (hard := false) hio (orc := [.call (iN (cmpI p.num 0)) []]) (by kernel_rfl) (ow1 h0)

theorem p_rational_Cmp_0 {T : Tab} (hio : TO T) (p q : Rat) (h0 : T.call fn_rational_Sign [MV.agg [bN (ng p.num), MV.fs (nz p.num) none (cz p.num), bN (ng ((p.den : Nat) : Int)), MV.fs (nz ((p.den : Nat) : Int)) none (cz ((p.den : Nat) : Int))]] = some (iN (cmpI p.num 0), [])) (h1 : T.call fn_rational_Sign [MV.agg [bN (ng q.num), MV.fs (nz q.num) none (cz q.num), bN (ng ((q.den : Nat) : Int)), MV.fs (nz ((q.den : Nat) : Int)) none (cz ((q.den : Nat) : Int))]] = some (iN (cmpI q.num 0), [])) (h2 : T.call fn_cmp_Compare_int [iN (cmpI p.num 0), iN (cmpI q.num 0)] = some (iN (cmpI (cmpI p.num 0) (cmpI q.num 0)), [])) (h3 : (bN ((cmpI (cmpI p.num 0) (cmpI q.num 0)) != (0 : Int)) : MV) = .sc (.bool true)) : evalBody PG T FUEL (ioF fn_rational_Cmp) fn_rational_Cmp [rM p, rM q] = some (iN (cmpI (cmpI p.num 0) (cmpI q.num 0)), []) :=
  xBody_io (hard := false) hio (orc := [.call (iN (cmpI p.num 0)) [], .call (iN (cmpI q.num 0)) [], .call (iN (cmpI (cmpI p.num 0) (cmpI q.num 0))) [], .br true]) (by kernel_rfl) (owc h0 (owc h1 (owc h2 (ow1 h3))))

theorem p_rational_Cmp_1 {T : Tab} (hio : TO T) (p q : Rat) (h0 : T.call fn_rational_Sign [MV.agg [bN (ng p.num), MV.fs (nz p.num) none (cz p.num), bN (ng ((p.den : Nat) : Int)), MV.fs (nz ((p.den : Nat) : Int)) none (cz ((p.den : Nat) : Int))]] = some (iN (cmpI p.num 0), [])) (h1 : T.call fn_rational_Sign [MV.agg [bN (ng q.num), MV.fs (nz q.num) none (cz q.num), bN (ng ((q.den : Nat) : Int)), MV.fs (nz ((q.den : Nat) : Int)) none (cz ((q.den : Nat) : Int))]] = some (iN (cmpI q.num 0), [])) (h2 : T.call fn_cmp_Compare_int [iN (cmpI p.num 0), iN (cmpI q.num 0)] = some (iN (cmpI (cmpI p.num 0) (cmpI q.num 0)), [])) (h3 : (bN ((cmpI (cmpI p.num 0) (cmpI q.num 0)) != (0 : Int)) : MV) = .sc (.bool false)) (h4 : T.call fn_integer_Mul [MV.agg [bN (ng p.num), MV.fs (nz p.num) none (cz p.num)], MV.agg [bN (ng ((q.den : Nat) : Int)), MV.fs (nz ((q.den : Nat) : Int)) none (cz ((q.den : Nat) : Int))]] = some (iM (p.num * ((q.den : Nat) : Int)), [])) (h5 : T.call fn_integer_Mul [MV.agg [bN (ng q.num), MV.fs (nz q.num) none (cz q.num)], MV.agg [bN (ng ((p.den : Nat) : Int)), MV.fs (nz ((p.den : Nat) : Int)) none (cz ((p.den : Nat) : Int))]] = some (iM (q.num * ((p.den : Nat) : Int)), [])) (h6 : T.call fn_integer_Cmp [iM (p.num * ((q.den : Nat) : Int)), iM (q.num * ((p.den : Nat) : Int))] = some (iN (cmpI (p.num * ((q.den : Nat) : Int)) (q.num * ((p.den : Nat) : Int))), [])) : evalBody PG T FUEL (ioF fn_rational_Cmp) fn_rational_Cmp [rM p, rM q] = some (iN (cmpI (p.num * ((q.den : Nat) : Int)) (q.num * ((p.den : Nat) : Int))), []) :=
  xBody_io (hard := false) hio (orc := [.call (iN (cmpI p.num 0)) [], .call (iN (cmpI q.num 0)) [], .call (iN (cmpI (cmpI p.num 0) (cmpI q.num 0))) [], .br false, .call (iM (p.num * ((q.den : Nat) : Int))) [], .call (iM (q.num * ((p.den : Nat) : Int))) [], .call (iN (cmpI (p.num * ((q.den : Nat) : Int)) (q.num * ((p.den : Nat) : Int)))) []]) (by kernel_rfl) (owc h0 (owc h1 (owc h2 (owc h3 (owc h4 (owc h5 (ow1 h6)))))))

theorem p_rational_Add_0 {T : Tab} (hio : TO T) (p q : Rat) (h0 : T.call fn_integer_Cmp [MV.agg [bN (ng ((p.den : Nat) : Int)), MV.fs (nz ((p.den : Nat) : Int)) none (cz ((p.den : Nat) : Int))], MV.agg [bN (ng ((q.den : Nat) : Int)), MV.fs (nz ((q.den : Nat) : Int)) none (cz ((q.den : Nat) : Int))]] = some (iN (cmpI ((p.den : Nat) : Int) ((q.den : Nat) : Int)), [])) (h1 : (bN ((cmpI ((p.den : Nat) : Int) ((q.den : Nat) : Int)) == (0 : Int)) : MV) = .sc (.bool true)) (h2 : T.call fn_integer_Add [MV.agg [bN (ng p.num), MV.fs (nz p.num) none (cz p.num)], MV.agg [bN (ng q.num), MV.fs (nz q.num) none (cz q.num)]] = some (iM (p.num + q.num), [])) (h3 : T.call fn_rational_reduce [iM (p.num + q.num), MV.agg [bN (ng ((p.den : Nat) : Int)), MV.fs (nz ((p.den : Nat) : Int)) none (cz ((p.den : Nat) : Int))]] = some (rM (Rat.divInt (p.num + q.num) ((p.den : Nat) : Int)), [])) : evalBody PG T FUEL (ioF fn_rational_Add) fn_rational_Add [rM p, rM q] = some (MV.agg [bN (ng (((Rat.divInt (p.num + q.num) ((p.den : Nat) : Int))).num)), MV.fs (nz (((Rat.divInt (p.num + q.num) ((p.den : Nat) : Int))).num)) none (cz (((Rat.divInt (p.num + q.num) ((p.den : Nat) : Int))).num)), bN (ng (((Rat.divInt (p.num + q.num) ((p.den : Nat) : Int)).den : Nat) : Int)), MV.fs (nz (((Rat.divInt (p.num + q.num) ((p.den : Nat) : Int)).den : Nat) : Int)) none (cz (((Rat.divInt (p.num + q.num) ((p.den : Nat) : Int)).den : Nat) : Int))], []) :=
  xBody_io (hard := false) hio (orc := [.call (iN (cmpI ((p.den : Nat) : Int) ((q.den : Nat) : Int))) [], .br true, .call (iM (p.num + q.num)) [], .call (rM (Rat.divInt (p.num + q.num) ((p.den : Nat) : Int))) []]) (by kernel_rfl) (owc h0 (owc h1 (owc h2 (ow1 h3))))

theorem p_rational_Add_1 {T : Tab} (hio : TO T) (p q : Rat) (h0 : T.call fn_integer_Cmp [MV.agg [bN (ng ((p.den : Nat) : Int)), MV.fs (nz ((p.den : Nat) : Int)) none (cz ((p.den : Nat) : Int))], MV.agg [bN (ng ((q.den : Nat) : Int)), MV.fs (nz ((q.den : Nat) : Int)) none (cz ((q.den : Nat) : Int))]] = some (iN (cmpI ((p.den : Nat) : Int) ((q.den : Nat) : Int)), [])) (h1 : (bN ((cmpI ((p.den : Nat) : Int) ((q.den : Nat) : Int)) == (0 : Int)) : MV) = .sc (.bool false)) (h2 : T.call fn_integer_Mul [MV.agg [bN (ng p.num), MV.fs (nz p.num) none (cz p.num)], MV.agg [bN (ng ((q.den : Nat) : Int)), MV.fs (nz ((q.den : Nat) : Int)) none (cz ((q.den : Nat) : Int))]] = some (iM (p.num * ((q.den : Nat) : Int)), [])) (h3 : T.call fn_integer_Mul [MV.agg [bN (ng q.num), MV.fs (nz q.num) none (cz q.num)], MV.agg [bN (ng ((p.den : Nat) : Int)), MV.fs (nz ((p.den : Nat) : Int)) none (cz ((p.den : Nat) : Int))]] = some (iM (q.num * ((p.den : Nat) : Int)), [])) (h4 : T.call fn_integer_Add [iM (p.num * ((q.den : Nat) : Int)), iM (q.num * ((p.den : Nat) : Int))] = some (iM ((p.num * ((q.den : Nat) : Int)) + (q.num * ((p.den : Nat) : Int))), [])) (h5 : T.call fn_integer_Mul [MV.agg [bN (ng ((p.den : Nat) : Int)), MV.fs (nz ((p.den : Nat) : Int)) none (cz ((p.den : Nat) : Int))], MV.agg [bN (ng ((q.den : Nat) : Int)), MV.fs (nz ((q.den : Nat) : Int)) none (cz ((q.den : Nat) : Int))]] = some (iM (((p.den : Nat) : Int) * ((q.den : Nat) : Int)), [])) (h6 : T.call fn_rational_reduce [iM ((p.num * ((q.den : Nat) : Int)) + (q.num * ((p.den : Nat) : Int))), iM (((p.den : Nat) : Int) * ((q.den : Nat) : Int))] = some (rM (Rat.divInt ((p.num * ((q.den : Nat) : Int)) + (q.num * ((p.den : Nat) : Int))) (((p.den : Nat) : Int) * ((q.den : Nat) : Int))), [])) : evalBody PG T FUEL (ioF fn_rational_Add) fn_rational_Add [rM p, rM q] = some (MV.agg [bN (ng (((Rat.divInt ((p.num * ((q.den : Nat) : Int)) + (q.num * ((p.den : Nat) : Int))) (((p.den : Nat) : Int) * ((q.den : Nat) : Int)))).num)), MV.fs (nz (((Rat.divInt ((p.num * ((q.den : Nat) : Int)) + (q.num * ((p.den : Nat) : Int))) (((p.den : Nat) : Int) * ((q.den : Nat) : Int)))).num)) none (cz (((Rat.divInt ((p.num * ((q.den : Nat) : Int)) + (q.num * ((p.den : Nat) : Int))) (((p.den : Nat) : Int) * ((q.den : Nat) : Int)))).num)), bN (ng (((Rat.divInt ((p.num * ((q.den : Nat) : Int)) + (q.num * ((p.den : Nat) : Int))) (((p.den : Nat) : Int) * ((q.den : Nat) : Int))).den : Nat) : Int)), MV.fs (nz (((Rat.divInt ((p.num * ((q.den : Nat) : Int)) + (q.num * ((p.den : Nat) : Int))) (((p.den : Nat) : Int) * ((q.den : Nat) : Int))).den : Nat) : Int)) none (cz (((Rat.divInt ((p.num * ((q.den : Nat) : Int)) + (q.num * ((p.den : Nat) : Int))) (((p.den : Nat) : Int) * ((q.den : Nat) : Int))).den : Nat) : Int))], []) :=
  xBody_io (hard := false) hio (orc := [.call (iN (cmpI ((p.den : Nat) : Int) ((q.den : Nat) : Int))) [], .br false, .call (iM (p.num * ((q.den : Nat) : Int))) [], .call (iM (q.num * ((p.den : Nat) : Int))) [], .call (iM ((p.num * ((q.den : Nat) : Int)) + (q.num * ((p.den : Nat) : Int)))) [], .call (iM (((p.den : Nat) : Int) * ((q.den : Nat) : Int))) [], .call (rM (Rat.divInt ((p.num * ((q.den : Nat) : Int)) + (q.num * ((p.den : Nat) : Int))) (((p.den : Nat) : Int) * ((q.den : Nat) : Int)))) []]) (by kernel_rfl) (owc h0 (owc h1 (owc h2 (owc h3 (owc h4 (owc h5 (ow1 h6)))))))

theorem p_rational_Neg_0 {T : Tab} (hio : TO T) (p : Rat) (h0 : T.call fn_integer_Neg [MV.agg [bN (ng p.num), MV.fs (nz p.num) none (cz p.num)]] = some (iM (-p.num), [])) : evalBody PG T FUEL (ioF fn_rational_Neg) fn_rational_Neg [rM p] = some (MV.agg [bN (ng (-p.num)), MV.fs (nz (-p.num)) none (cz (-p.num)), bN (ng ((p.den : Nat) : Int)), MV.fs (nz ((p.den : Nat) : Int)) none (cz ((p.den : Nat) : Int))], []) :=
  xBody_io (hard := false) hio (orc := [.call (iM (-p.num)) []]) (by kernel_rfl) (ow1 h0)

theorem p_rational_Sub_0 {T : Tab} (hio : TO T) (p q : Rat) (h0 : T.call fn_rational_Neg [MV.agg [bN (ng q.num), MV.fs (nz q.num) none (cz q.num), bN (ng ((q.den : Nat) : Int)), MV.fs (nz ((q.den : Nat) : Int)) none (cz ((q.den : Nat) : Int))]] = some (rM (-q), [])) (h1 : T.call fn_rational_Add [MV.agg [bN (ng p.num), MV.fs (nz p.num) none (cz p.num), bN (ng ((p.den : Nat) : Int)), MV.fs (nz ((p.den : Nat) : Int)) none (cz ((p.den : Nat) : Int))], rM (-q)] = some (rM (p + (-q)), [])) : evalBody PG T FUEL (ioF fn_rational_Sub) fn_rational_Sub [rM p, rM q] = some (MV.agg [bN (ng (((p + (-q))).num)), MV.fs (nz (((p + (-q))).num)) none (cz (((p + (-q))).num)), bN (ng (((p + (-q)).den : Nat) : Int)), MV.fs (nz (((p + (-q)).den : Nat) : Int)) none (cz (((p + (-q)).den : Nat) : Int))], []) :=
  xBody_io (hard := false) hio (orc := [.call (rM (-q)) [], .call (rM (p + (-q))) []]) (by kernel_rfl) (owc h0 (ow1 h1))

theorem p_rational_Mul_0 {T : Tab} (hio : TO T) (p q : Rat) (h0 : T.call fn_integer_Mul [MV.agg [bN (ng p.num), MV.fs (nz p.num) none (cz p.num)], MV.agg [bN (ng q.num), MV.fs (nz q.num) none (cz q.num)]] = some (iM (p.num * q.num), [])) (h1 : T.call fn_integer_Mul [MV.agg [bN (ng ((p.den : Nat) : Int)), MV.fs (nz ((p.den : Nat) : Int)) none (cz ((p.den : Nat) : Int))], MV.agg [bN (ng ((q.den : Nat) : Int)), MV.fs (nz ((q.den : Nat) : Int)) none (cz ((q.den : Nat) : Int))]] = some (iM (((p.den : Nat) : Int) * ((q.den : Nat) : Int)), [])) (h2 : T.call fn_rational_reduce [iM (p.num * q.num), iM (((p.den : Nat) : Int) * ((q.den : Nat) : Int))] = some (rM (Rat.divInt (p.num * q.num) (((p.den : Nat) : Int) * ((q.den : Nat) : Int))), [])) : evalBody PG T FUEL (ioF fn_rational_Mul) fn_rational_Mul [rM p, rM q] = some (MV.agg [bN (ng (((Rat.divInt (p.num * q.num) (((p.den : Nat) : Int) * ((q.den : Nat) : Int)))).num)), MV.fs (nz (((Rat.divInt (p.num * q.num) (((p.den : Nat) : Int) * ((q.den : Nat) : Int)))).num)) none (cz (((Rat.divInt (p.num * q.num) (((p.den : Nat) : Int) * ((q.den : Nat) : Int)))).num)), bN (ng (((Rat.divInt (p.num * q.num) (((p.den : Nat) : Int) * ((q.den : Nat) : Int))).den : Nat) : Int)), MV.fs (nz (((Rat.divInt (p.num * q.num) (((p.den : Nat) : Int) * ((q.den : Nat) : Int))).den : Nat) : Int)) none (cz (((Rat.divInt (p.num * q.num) (((p.den : Nat) : Int) * ((q.den : Nat) : Int))).den : Nat) : Int))], []) :=
  xBody_io (hard := false) hio (orc := [.call (iM (p.num * q.num)) [], .call (iM (((p.den : Nat) : Int) * ((q.den : Nat) : Int))) [], .call (rM (Rat.divInt (p.num * q.num) (((p.den : Nat) : Int) * ((q.den : Nat) : Int)))) []]) (by kernel_rfl) (owc h0 (owc h1 (ow1 h2)))

theorem p_rational_Div_1 {T : Tab} (hio : TO T) (p q : Rat) (h0 : T.call fn_rational_Sign [MV.agg [bN (ng q.num), MV.fs (nz q.num) none (cz q.num), bN (ng ((q.den : Nat) : Int)), MV.fs (nz ((q.den : Nat) : Int)) none (cz ((q.den : Nat) : Int))]] = some (iN (cmpI q.num 0), [])) (h1 : (bN ((cmpI q.num 0) == (0 : Int)) : MV) = .sc (.bool false)) (h2 : T.call fn_integer_Mul [MV.agg [bN (ng p.num), MV.fs (nz p.num) none (cz p.num)], MV.agg [bN (ng ((q.den : Nat) : Int)), MV.fs (nz ((q.den : Nat) : Int)) none (cz ((q.den : Nat) : Int))]] = some (iM (p.num * ((q.den : Nat) : Int)), [])) (h3 : T.call fn_integer_Mul [MV.agg [bN (ng ((p.den : Nat) : Int)), MV.fs (nz ((p.den : Nat) : Int)) none (cz ((p.den : Nat) : Int))], MV.agg [bN (ng q.num), MV.fs (nz q.num) none (cz q.num)]] = some (iM (((p.den : Nat) : Int) * q.num), [])) (h4 : T.call fn_rational_reduce [iM (p.num * ((q.den : Nat) : Int)), iM (((p.den : Nat) : Int) * q.num)] = some (rM (Rat.divInt (p.num * ((q.den : Nat) : Int)) (((p.den : Nat) : Int) * q.num)), [])) : evalBody PG T FUEL (ioF fn_rational_Div) fn_rational_Div [rM p, rM q] = some (MV.tup [MV.agg [bN (ng (((Rat.divInt (p.num * ((q.den : Nat) : Int)) (((p.den : Nat) : Int) * q.num))).num)), MV.fs (nz (((Rat.divInt (p.num * ((q.den : Nat) : Int)) (((p.den : Nat) : Int) * q.num))).num)) none (cz (((Rat.divInt (p.num * ((q.den : Nat) : Int)) (((p.den : Nat) : Int) * q.num))).num)), bN (ng (((Rat.divInt (p.num * ((q.den : Nat) : Int)) (((p.den : Nat) : Int) * q.num)).den : Nat) : Int)), MV.fs (nz (((Rat.divInt (p.num * ((q.den : Nat) : Int)) (((p.den : Nat) : Int) * q.num)).den : Nat) : Int)) none (cz (((Rat.divInt (p.num * ((q.den : Nat) : Int)) (((p.den : Nat) : Int) * q.num)).den : Nat) : Int))], iN 0], []) :=
  xBody_io (hard := false) hio (orc := [.call (iN (cmpI q.num 0)) [], .br false, .call (iM (p.num * ((q.den : Nat) : Int))) [], .call (iM (((p.den : Nat) : Int) * q.num)) [], .call (rM (Rat.divInt (p.num * ((q.den : Nat) : Int)) (((p.den : Nat) : Int) * q.num))) []]) (by kernel_rfl) (owc h0 (owc h1 (owc h2 (owc h3 (ow1 h4)))))

end Go.Proofs.YtkeelkeoijemiaaGreat.Ev

namespace Go.Proofs.YtkeelkeoijemiaaGreat.Ev
open Go Go.RowKit
set_option linter.unusedVariables false
set_option linter.unusedSimpArgs false

/-- How many limbs a fraction's parts have. -/
structure Sz (k : Nat) (q : Rat) : Prop where
  n : nz q.num ≤ k
  d : nz ((q.den : Nat) : Int) ≤ k
theorem nz_mul (a b : Int) : nz (a * b) ≤ nz a + nz b := by
  refine nz_le ?_
  rw [Int.natAbs_mul, Nat.pow_add]
  exact Nat.mul_lt_mul'' (nl_lt _) (nl_lt _)
theorem nz_add (a b : Int) : nz (a + b) ≤ nz a + nz b + 1 := by
  refine nz_le ?_
  have h1 := Int.natAbs_add_le a b
  have h2 : a.natAbs < BB ^ (nz a + nz b) := Nat.lt_of_lt_of_le (nl_lt _) (Nat.pow_le_pow_right BB_pos (Nat.le_add_right _ _))
  have h3 : b.natAbs < BB ^ (nz a + nz b) := Nat.lt_of_lt_of_le (nl_lt _) (Nat.pow_le_pow_right BB_pos (Nat.le_add_left _ _))
  have h4 := Nat.mul_le_mul_left (BB ^ (nz a + nz b)) (show 2 ≤ BB by decide)
  rw [Nat.pow_succ]
  omega
theorem nz_neg (a : Int) : nz (-a) = nz a := by simp [nz]
theorem nz_mono {a b : Int} (h : a.natAbs ≤ b.natAbs) : nz a ≤ nz b := nl_mono h
theorem Sz.mono {j k : Nat} {q : Rat} (h : Sz j q) (hk : j ≤ k) : Sz k q := ⟨Nat.le_trans h.n hk, Nat.le_trans h.d hk⟩
theorem Sz.divInt {a b : Int} {k : Nat} (ha : nz a ≤ k) (hb : nz b ≤ k) (hb0 : b ≠ 0) : Sz k (Rat.divInt a b) := by
  constructor
  · refine Nat.le_trans (nz_mono ?_) ha
    rw [Rat.num_divInt, Int.natAbs_ediv_of_dvd, Int.natAbs_mul]
    · refine Nat.le_trans (Nat.div_le_self _ _) ?_
      have : b.sign.natAbs ≤ 1 := by
        rcases Int.lt_trichotomy b 0 with h | h | h
        · rw [Int.sign_eq_neg_one_of_neg h]; decide
        · exact absurd h hb0
        · rw [Int.sign_eq_one_of_pos h]; decide
      calc b.sign.natAbs * a.natAbs ≤ 1 * a.natAbs := Nat.mul_le_mul_right _ this
        _ = a.natAbs := Nat.one_mul _
    · exact Int.dvd_trans (Int.gcd_dvd_right ..) (Int.dvd_mul_left ..)
  · refine Nat.le_trans (nz_mono ?_) hb
    rw [Rat.den_divInt, if_neg hb0, Int.natAbs_natCast]
    exact Nat.div_le_self _ _
theorem den_ne (q : Rat) : ((q.den : Nat) : Int) ≠ 0 := by have := q.den_nz; omega
theorem add_divInt (p q : Rat) : p + q = Rat.divInt (p.num * ((q.den : Nat) : Int) + q.num * ((p.den : Nat) : Int)) (((p.den : Nat) : Int) * ((q.den : Nat) : Int)) := by
  rw [← Rat.divInt_add_divInt _ _ (den_ne p) (den_ne q), Rat.num_divInt_den, Rat.num_divInt_den]
theorem mul_divInt (p q : Rat) : p * q = Rat.divInt (p.num * q.num) (((p.den : Nat) : Int) * ((q.den : Nat) : Int)) := by
  rw [← Rat.divInt_mul_divInt, Rat.num_divInt_den, Rat.num_divInt_den]
theorem div_divInt (p q : Rat) : p / q = Rat.divInt (p.num * ((q.den : Nat) : Int)) (((p.den : Nat) : Int) * q.num) := by
  rw [← Rat.divInt_mul_divInt, Rat.num_divInt_den, Rat.div_def, Rat.inv_def]
theorem add_same (p q : Rat) (h : p.den = q.den) : p + q = Rat.divInt (p.num + q.num) ((p.den : Nat) : Int) := by
  rw [add_divInt, ← h, ← Int.add_mul, Int.mul_comm, Rat.divInt_mul_left (den_ne p)]
theorem Sz.add {j k : Nat} {p q : Rat} (hp : Sz j p) (hq : Sz k q) : Sz (2 * j + 2 * k + 1) (p + q) := by
  rw [add_divInt]
  have h1 := nz_add (p.num * ((q.den : Nat) : Int)) (q.num * ((p.den : Nat) : Int))
  have h2 := nz_mul p.num ((q.den : Nat) : Int)
  have h3 := nz_mul q.num ((p.den : Nat) : Int)
  have h4 := nz_mul ((p.den : Nat) : Int) ((q.den : Nat) : Int)
  have := hp.n; have := hp.d; have := hq.n; have := hq.d
  exact Sz.divInt (by omega) (by omega) (Int.mul_ne_zero (den_ne p) (den_ne q))
theorem Sz.mul {j k : Nat} {p q : Rat} (hp : Sz j p) (hq : Sz k q) : Sz (j + k) (p * q) := by
  rw [mul_divInt]
  have h2 := nz_mul p.num q.num
  have h4 := nz_mul ((p.den : Nat) : Int) ((q.den : Nat) : Int)
  have := hp.n; have := hp.d; have := hq.n; have := hq.d
  exact Sz.divInt (by omega) (by omega) (Int.mul_ne_zero (den_ne p) (den_ne q))
theorem Sz.neg {k : Nat} {q : Rat} (h : Sz k q) : Sz k (-q) := ⟨by rw [Rat.neg_num, nz_neg]; exact h.n, by rw [Rat.neg_den]; exact h.d⟩
theorem Sz.sub {j k : Nat} {p q : Rat} (hp : Sz j p) (hq : Sz k q) : Sz (2 * j + 2 * k + 1) (p - q) := by
  rw [Rat.sub_eq_add_neg]; exact hp.add hq.neg
theorem num_ne {q : Rat} (h : q ≠ 0) : q.num ≠ 0 := fun h2 => h (by rw [← Rat.num_divInt_den q, h2, Rat.zero_divInt])
theorem Sz.div {j k : Nat} {p q : Rat} (hp : Sz j p) (hq : Sz k q) (h : q ≠ 0) : Sz (j + k) (p / q) := by
  rw [div_divInt]
  have h2 := nz_mul p.num ((q.den : Nat) : Int)
  have h4 := nz_mul ((p.den : Nat) : Int) q.num
  have := hp.n; have := hp.d; have := hq.n; have := hq.d
  exact Sz.divInt (by omega) (by omega) (Int.mul_ne_zero (den_ne p) (num_ne h))
theorem Sz.int {x : Int} {k : Nat} (h : nz x ≤ k) (hk : 1 ≤ k) : Sz k (x : Rat) := ⟨by rw [Rat.num_intCast]; exact h, by rw [Rat.den_intCast]; exact hk⟩
theorem nz_i64 {x : Int} (h : -9223372036854775808 ≤ x ∧ x ≤ 9223372036854775807) : nz x ≤ 3 := nz_le (Nat.lt_of_lt_of_le (by omega) BB3)
theorem Sz.i64 {x : Int} (h : -9223372036854775808 ≤ x ∧ x ≤ 9223372036854775807) : Sz 3 (x : Rat) := Sz.int (nz_i64 h) (by omega)

theorem rM_of {x y : Int} {q : Rat} (hx : x = q.num) (hy : y = ((q.den : Nat) : Int)) : MV.agg [bN (ng x), MV.fs (nz x) none (cz x), bN (ng y), MV.fs (nz y) none (cz y)] = rM q := by subst hx hy; rfl
theorem uncap_rM (q : Rat) : uncap (rM q) = rM q := by simp [rM, rC, iC, cz, uncap, uncaps]
theorem uncap_tupR (q : Rat) (n : Int) : uncap (.tup [rM q, iN n]) = .tup [rM q, iN n] := by simp [rM, rC, iC, cz, uncap, uncaps]
theorem uncaps_rM (q : Rat) (l : List MV) : uncaps (rM q :: l) = rM q :: uncaps l := by rw [uncaps, uncap_rM]

theorem c_cmp_isNaN_int {m : Nat} (hm : 0 < m) (x : Int) : (TU m).call fn_cmp_isNaN_int [iN x] = some (bN false, []) :=
  TU_call hm rfl rfl (args' := [iN x]) rfl (p_cmp_isNaN_int_0 (TU_io _) x) (by simp [uncap])
theorem c_cmp_Compare_int {m : Nat} (hm : 1 < m) (x y : Int) : (TU m).call fn_cmp_Compare_int [iN x, iN y] = some (iN (cmpI x y), []) := by
  have hio := TU_io (m - 1)
  refine TU_call (by omega) rfl rfl (args' := [iN x, iN y]) rfl (r := iN (cmpI x y)) ?_ rfl
  unfold cmpI
  by_cases h : x < y
  · rw [if_pos h]
    exact p_cmp_Compare_int_0 hio x y (by exact c_cmp_isNaN_int (by omega) _) (by exact c_cmp_isNaN_int (by omega) _) (sc_b (decide_eq_true h))
  · rw [if_neg h]
    by_cases h2 : y < x
    · rw [if_pos h2]
      exact p_cmp_Compare_int_1 hio x y (by exact c_cmp_isNaN_int (by omega) _) (by exact c_cmp_isNaN_int (by omega) _) (sc_b (decide_eq_false h)) (sc_b (decide_eq_true h2))
    · rw [if_neg h2]
      exact p_cmp_Compare_int_2 hio x y (by exact c_cmp_isNaN_int (by omega) _) (by exact c_cmp_isNaN_int (by omega) _) (sc_b (decide_eq_false h)) (sc_b (decide_eq_false h2))
theorem c_rational_unit {m : Nat} (hm : 2 < m) : (TU m).call fn_rational_unit [] = some (iM 1, []) :=
  TU_call (by omega) rfl rfl (args' := []) rfl (p_rational_unit_0 (TU_io _) (by exact c_integer_FromInt64 (by omega) (by omega))) (uncap_iM 1)
theorem c_rational_whole {m : Nat} (hm : 3 < m) (a : Int) : (TU m).call fn_rational_whole [iM a] = some (rM (a : Rat), []) := by
  refine TU_call (by omega) rfl rfl (args' := [iM a]) (by rw [uncaps_iM]; rfl) (p_rational_whole_0 (TU_io _) a (by exact c_rational_unit (by omega))) ?_
  rw [rM_of (q := (a : Rat)) (Rat.num_intCast a).symm (by rw [Rat.den_intCast]; rfl)]
  exact uncap_rM _
theorem c_rational_FromInt64 {m : Nat} (hm : 4 < m) {x : Int} (h : -9223372036854775808 ≤ x ∧ x ≤ 9223372036854775807) : (TU m).call fn_rational_FromInt64 [iN x] = some (rM (x : Rat), []) :=
  TU_call (by omega) rfl rfl (args' := [iN x]) rfl (p_rational_FromInt64_0 (TU_io _) x (by exact c_integer_FromInt64 (by omega) h) (by exact c_rational_whole (by omega) x)) (uncap_rM _)
theorem c_rational_exact {m : Nat} (hm : 5 < m) {a b : Int} (hb : b ≠ 0) (ha : nz a < 10000) (hbz : nz b < 10000) : (TU m).call fn_rational_exact [iM a, iM b] = some (iM (a.fdiv b), []) :=
  TU_call (by omega) rfl rfl (args' := [iM a, iM b]) (by rw [uncaps_iM, uncaps_iM]; rfl) (p_rational_exact_0 (TU_io _) a b (by exact c_integer_DivMod (by omega) hb ha hbz)) (uncap_iM _)

theorem reduce_parts {a b : Int} (hb : 0 < b) : a.fdiv ((Nat.gcd a.natAbs b.natAbs : Nat) : Int) = (Rat.divInt a b).num ∧ b.fdiv ((Nat.gcd a.natAbs b.natAbs : Nat) : Int) = (((Rat.divInt a b).den : Nat) : Int) := by
  rw [Rat.num_divInt, Rat.den_divInt, if_neg (by omega), Int.sign_eq_one_of_pos hb, Int.one_mul, Int.gcd_comm b a]
  show a.fdiv ((Int.gcd a b : Nat) : Int) = _ ∧ b.fdiv ((Int.gcd a b : Nat) : Int) = _
  rw [Int.fdiv_eq_ediv_of_nonneg _ (Int.natCast_nonneg _), Int.fdiv_eq_ediv_of_nonneg _ (Int.natCast_nonneg _), Int.natCast_ediv]
  refine ⟨rfl, ?_⟩
  rw [show ((b.natAbs : Nat) : Int) = b by omega]
theorem divInt_neg_neg (a b : Int) (hb : b ≠ 0) : Rat.divInt (-a) (-b) = Rat.divInt a b := by
  have := Rat.divInt_mul_left (n := a) (d := b) (a := -1) (by decide)
  rw [← this, Int.neg_one_mul, Int.neg_one_mul]
theorem nz_gcd_le (a b : Int) (hb : b ≠ 0) : nz ((Nat.gcd a.natAbs b.natAbs : Nat) : Int) ≤ nz b := by
  refine nz_mono ?_
  rw [Int.natAbs_natCast]
  exact Nat.gcd_le_right _ (by omega)
theorem c_rational_reduce {m : Nat} (hm : 6 < m) {a b : Int} (hb : b ≠ 0) (ha : nz a ≤ 8000) (hbz : nz b ≤ 8000) : (TU m).call fn_rational_reduce [iM a, iM b] = some (rM (Rat.divInt a b), []) := by
  have hio := TU_io (m - 1)
  have hu : uncaps [iM a, iM b] = [iM a, iM b] := by rw [uncaps_iM, uncaps_iM]; rfl
  have sgn : (TU (m - 1)).call fn_integer_Sign [iM b] = some (iN (cmpI b 0), []) := c_integer_Sign (by omega) b
  have unit : (TU (m - 1)).call fn_rational_unit [] = some (iM 1, []) := c_rational_unit (by omega)
  have main : ∀ x y : Int, 0 < y → nz x ≤ 8000 → nz y ≤ 8000 →
      (TU (m - 1)).call fn_integer_GCD [iM x, iM y] = some (iM ((Nat.gcd x.natAbs y.natAbs : Nat) : Int), []) ∧
      (TU (m - 1)).call fn_integer_Cmp [iM ((Nat.gcd x.natAbs y.natAbs : Nat) : Int), iM 1] = some (iN (cmpI ((Nat.gcd x.natAbs y.natAbs : Nat) : Int) 1), []) ∧
      (TU (m - 1)).call fn_rational_exact [iM x, iM ((Nat.gcd x.natAbs y.natAbs : Nat) : Int)] = some (iM (x.fdiv ((Nat.gcd x.natAbs y.natAbs : Nat) : Int)), []) ∧
      (TU (m - 1)).call fn_rational_exact [iM y, iM ((Nat.gcd x.natAbs y.natAbs : Nat) : Int)] = some (iM (y.fdiv ((Nat.gcd x.natAbs y.natAbs : Nat) : Int)), []) := by
    intro x y hy hx1 hy1
    have h1 := nz_gcd_le x y (by omega)
    have h0 : ((Nat.gcd x.natAbs y.natAbs : Nat) : Int) ≠ 0 := by have := Nat.gcd_pos_of_pos_right x.natAbs (show 0 < y.natAbs by omega); omega
    exact ⟨c_integer_GCD (by omega) hx1 hy1, c_integer_Cmp (by omega) (by omega) (by decide), c_rational_exact (by omega) h0 (by omega) (by omega), c_rational_exact (by omega) h0 (by omega) (by omega)⟩
  have one : ∀ x y : Int, 0 < y → cmpI ((Nat.gcd x.natAbs y.natAbs : Nat) : Int) 1 = 0 → x.fdiv ((Nat.gcd x.natAbs y.natAbs : Nat) : Int) = x ∧ y.fdiv ((Nat.gcd x.natAbs y.natAbs : Nat) : Int) = y := by
    intro x y hy h
    have h1 : ((Nat.gcd x.natAbs y.natAbs : Nat) : Int) = 1 := by unfold cmpI at h; split at h <;> (try split at h) <;> omega
    rw [h1, Int.fdiv_one, Int.fdiv_one]
    exact ⟨rfl, rfl⟩
  by_cases hneg : b < 0
  · have br : (bN (decide ((cmpI b 0) < (0 : Int))) : MV) = .sc (.bool true) := sc_b (decide_eq_true (by rw [cmpI, if_pos hneg]; omega))
    have na : (TU (m - 1)).call fn_integer_Neg [iM a] = some (iM (-a), []) := c_integer_Neg (by omega) (by omega)
    have nb : (TU (m - 1)).call fn_integer_Neg [iM b] = some (iM (-b), []) := c_integer_Neg (by omega) (by omega)
    obtain ⟨g1, g2, g3, g4⟩ := main (-a) (-b) (by omega) (by rw [nz_neg]; exact ha) (by rw [nz_neg]; exact hbz)
    obtain ⟨e1, e2⟩ := reduce_parts (a := -a) (b := -b) (by omega)
    rw [divInt_neg_neg a b hb] at e1 e2
    by_cases hc : cmpI ((Nat.gcd (-a).natAbs (-b).natAbs : Nat) : Int) 1 = 0
    · obtain ⟨f1, f2⟩ := one (-a) (-b) (by omega) hc
      refine TU_call (by omega) rfl rfl (args' := [iM a, iM b]) hu (p_rational_reduce_3 hio a b sgn br na nb g1 unit g2 (sc_b (by rw [hc]; rfl))) ?_
      rw [f1] at e1
      rw [f2] at e2
      rw [rM_of e1 e2]
      exact uncap_rM _
    · refine TU_call (by omega) rfl rfl (args' := [iM a, iM b]) hu (p_rational_reduce_0 hio a b sgn br na nb g1 unit g2 (sc_b (by simpa using hc)) g3 g4) ?_
      rw [rM_of e1 e2]
      exact uncap_rM _
  · have br : (bN (decide ((cmpI b 0) < (0 : Int))) : MV) = .sc (.bool false) := sc_b (decide_eq_false (by rw [cmpI, if_neg hneg]; split <;> omega))
    obtain ⟨g1, g2, g3, g4⟩ := main a b (by omega) ha hbz
    obtain ⟨e1, e2⟩ := reduce_parts (a := a) (b := b) (by omega)
    by_cases hc : cmpI ((Nat.gcd a.natAbs b.natAbs : Nat) : Int) 1 = 0
    · obtain ⟨f1, f2⟩ := one a b (by omega) hc
      refine TU_call (by omega) rfl rfl (args' := [iM a, iM b]) hu (p_rational_reduce_2 hio a b sgn br g1 unit g2 (sc_b (by rw [hc]; rfl))) ?_
      rw [f1] at e1
      rw [f2] at e2
      rw [rM_of e1 e2]
      exact uncap_rM _
    · refine TU_call (by omega) rfl rfl (args' := [iM a, iM b]) hu (p_rational_reduce_1 hio a b sgn br g1 unit g2 (sc_b (by simpa using hc)) g3 g4) ?_
      rw [rM_of e1 e2]
      exact uncap_rM _
theorem c_rational_Sign {m : Nat} (hm : 1 < m) (p : Rat) : (TU m).call fn_rational_Sign [rM p] = some (iN (cmpI p.num 0), []) :=
  TU_call (by omega) rfl rfl (args' := [rM p]) (by rw [uncaps_rM]; rfl) (p_rational_Sign_0 (TU_io _) p (by exact c_integer_Sign (by omega) _)) rfl
theorem cmpI_sign {a b : Int} (h : cmpI a b ≠ 0 ∨ True) : cmpI a b = -1 ∧ a < b ∨ cmpI a b = 0 ∧ a = b ∨ cmpI a b = 1 ∧ b < a := by
  unfold cmpI; split <;> (try split) <;> omega
theorem cmpQ_cross (p q : Rat) : cmpQ p q = cmpI (p.num * ((q.den : Nat) : Int)) (q.num * ((p.den : Nat) : Int)) := by
  unfold cmpQ cmpI
  simp only [Rat.lt_iff]
theorem c_rational_Cmp {m : Nat} (hm : 5 < m) {p q : Rat} {j k : Nat} (hp : Sz j p) (hq : Sz k q) (hjk : j + k < 50000) : (TU m).call fn_rational_Cmp [rM p, rM q] = some (iN (cmpQ p q), []) := by
  have hio := TU_io (m - 1)
  have := hp.n; have := hp.d; have := hq.n; have := hq.d
  have s1 : (TU (m - 1)).call fn_rational_Sign [rM p] = some (iN (cmpI p.num 0), []) := c_rational_Sign (by omega) p
  have s2 : (TU (m - 1)).call fn_rational_Sign [rM q] = some (iN (cmpI q.num 0), []) := c_rational_Sign (by omega) q
  have s3 : (TU (m - 1)).call fn_cmp_Compare_int [iN (cmpI p.num 0), iN (cmpI q.num 0)] = some (iN (cmpI (cmpI p.num 0) (cmpI q.num 0)), []) := c_cmp_Compare_int (by omega) _ _
  have h1 := nz_mul p.num ((q.den : Nat) : Int)
  have h2 := nz_mul q.num ((p.den : Nat) : Int)
  refine TU_call (by omega) rfl rfl (args' := [rM p, rM q]) (by rw [uncaps_rM, uncaps_rM]; rfl) (r := iN (cmpQ p q)) ?_ rfl
  have hpd : 0 < ((p.den : Nat) : Int) := by have := p.den_nz; omega
  have hqd : 0 < ((q.den : Nat) : Int) := by have := q.den_nz; omega
  by_cases hc : cmpI (cmpI p.num 0) (cmpI q.num 0) = 0
  · rw [cmpQ_cross]
    exact p_rational_Cmp_1 hio p q s1 s2 s3 (sc_b (by rw [hc]; rfl)) (by exact c_integer_Mul (by omega) (by omega)) (by exact c_integer_Mul (by omega) (by omega)) (by exact c_integer_Cmp (by omega) (by omega) (by omega))
  · refine (p_rational_Cmp_0 hio p q s1 s2 s3 (sc_b (by simpa using hc))).trans ?_
    have key : cmpQ p q = cmpI (cmpI p.num 0) (cmpI q.num 0) := by
      rw [cmpQ_cross]
      have pos : ∀ {a b : Int}, 0 < a → 0 < b → 0 < a * b := fun h1 h2 => Int.mul_pos h1 h2
      have sgn : ∀ {a b : Int}, 0 < b → (a < 0 → a * b < 0) ∧ (a = 0 → a * b = 0) ∧ (0 < a → 0 < a * b) := fun {a b} hb => ⟨fun h => Int.mul_neg_of_neg_of_pos h hb, fun h => by rw [h, Int.zero_mul], fun h => Int.mul_pos h hb⟩
      obtain ⟨a1, a2, a3⟩ := sgn (a := p.num) hqd
      obtain ⟨b1, b2, b3⟩ := sgn (a := q.num) hpd
      rcases cmpI_sign (a := p.num) (b := 0) (.inr trivial) with ⟨e1, e2⟩ | ⟨e1, e2⟩ | ⟨e1, e2⟩ <;> rcases cmpI_sign (a := q.num) (b := 0) (.inr trivial) with ⟨f1, f2⟩ | ⟨f1, f2⟩ | ⟨f1, f2⟩ <;> rw [e1, f1] at hc ⊢ <;> first | (exfalso; exact hc rfl) | skip
      · have := a1 e2; have := b2 f2; rw [cmpI, if_pos (by omega)]; rfl
      · have := a1 e2; have := b3 f2; rw [cmpI, if_pos (by omega)]; rfl
      · have := a2 e2; have := b1 f2; rw [cmpI, if_neg (by omega), if_pos (by omega)]; rfl
      · have := a2 e2; have := b3 f2; rw [cmpI, if_pos (by omega)]; rfl
      · have := a3 e2; have := b1 f2; rw [cmpI, if_neg (by omega), if_pos (by omega)]; rfl
      · have := a3 e2; have := b2 f2; rw [cmpI, if_neg (by omega), if_pos (by omega)]; rfl
    rw [key]
theorem c_rational_Add {m : Nat} (hm : 7 < m) {p q : Rat} {j k : Nat} (hp : Sz j p) (hq : Sz k q) (hjk : 2 * j + 2 * k < 8000) : (TU m).call fn_rational_Add [rM p, rM q] = some (rM (p + q), []) := by
  have hio := TU_io (m - 1)
  have := hp.n; have := hp.d; have := hq.n; have := hq.d
  have hu : uncaps [rM p, rM q] = [rM p, rM q] := by rw [uncaps_rM, uncaps_rM]; rfl
  have hc : (TU (m - 1)).call fn_integer_Cmp [iM ((p.den : Nat) : Int), iM ((q.den : Nat) : Int)] = some (iN (cmpI ((p.den : Nat) : Int) ((q.den : Nat) : Int)), []) := c_integer_Cmp (by omega) (by omega) (by omega)
  have h1 := nz_add (p.num * ((q.den : Nat) : Int)) (q.num * ((p.den : Nat) : Int))
  have h2 := nz_mul p.num ((q.den : Nat) : Int)
  have h3 := nz_mul q.num ((p.den : Nat) : Int)
  have h4 := nz_mul ((p.den : Nat) : Int) ((q.den : Nat) : Int)
  have h5 := nz_add p.num q.num
  by_cases he : cmpI ((p.den : Nat) : Int) ((q.den : Nat) : Int) = 0
  · have hd : p.den = q.den := by unfold cmpI at he; split at he <;> (try split at he) <;> omega
    have g := p_rational_Add_0 hio p q hc (sc_b (by rw [he]; rfl)) (by exact c_integer_Add (by omega) (by omega) (by omega)) (by exact c_rational_reduce (by omega) (den_ne p) (by omega) (by omega))
    rw [add_same p q hd]
    exact TU_call (by omega) rfl rfl (args' := [rM p, rM q]) hu g (uncap_rM _)
  · have g := p_rational_Add_1 hio p q hc (sc_b (by simpa using he)) (by exact c_integer_Mul (by omega) (by omega)) (by exact c_integer_Mul (by omega) (by omega)) (by exact c_integer_Add (by omega) (by omega) (by omega)) (by exact c_integer_Mul (by omega) (by omega)) (by exact c_rational_reduce (by omega) (Int.mul_ne_zero (den_ne p) (den_ne q)) (by omega) (by omega))
    rw [add_divInt p q]
    exact TU_call (by omega) rfl rfl (args' := [rM p, rM q]) hu g (uncap_rM _)
theorem c_rational_Neg {m : Nat} (hm : 2 < m) {p : Rat} {j : Nat} (hp : Sz j p) (hj : j < 100000) : (TU m).call fn_rational_Neg [rM p] = some (rM (-p), []) := by
  have := hp.n
  refine TU_call (by omega) rfl rfl (args' := [rM p]) (by rw [uncaps_rM]; rfl) (p_rational_Neg_0 (TU_io _) p (by exact c_integer_Neg (by omega) (by omega))) ?_
  rw [rM_of (q := -p) (Rat.neg_num p).symm (by rw [Rat.neg_den])]
  exact uncap_rM _
theorem c_rational_Sub {m : Nat} (hm : 8 < m) {p q : Rat} {j k : Nat} (hp : Sz j p) (hq : Sz k q) (hjk : 2 * j + 2 * k < 8000) : (TU m).call fn_rational_Sub [rM p, rM q] = some (rM (p - q), []) := by
  have g := p_rational_Sub_0 (TU_io (m - 1)) p q (by exact c_rational_Neg (by omega) hq (by omega)) (by exact c_rational_Add (by omega) hp hq.neg hjk)
  rw [Rat.sub_eq_add_neg]
  exact TU_call (by omega) rfl rfl (args' := [rM p, rM q]) (by rw [uncaps_rM, uncaps_rM]; rfl) g (uncap_rM _)
theorem c_rational_Mul {m : Nat} (hm : 7 < m) {p q : Rat} {j k : Nat} (hp : Sz j p) (hq : Sz k q) (hjk : j + k < 8000) : (TU m).call fn_rational_Mul [rM p, rM q] = some (rM (p * q), []) := by
  have := hp.n; have := hp.d; have := hq.n; have := hq.d
  have h2 := nz_mul p.num q.num
  have h4 := nz_mul ((p.den : Nat) : Int) ((q.den : Nat) : Int)
  have g := p_rational_Mul_0 (TU_io (m - 1)) p q (by exact c_integer_Mul (by omega) (by omega)) (by exact c_integer_Mul (by omega) (by omega)) (by exact c_rational_reduce (by omega) (Int.mul_ne_zero (den_ne p) (den_ne q)) (by omega) (by omega))
  rw [mul_divInt p q]
  exact TU_call (by omega) rfl rfl (args' := [rM p, rM q]) (by rw [uncaps_rM, uncaps_rM]; rfl) g (uncap_rM _)
theorem c_rational_Div {m : Nat} (hm : 7 < m) {p q : Rat} {j k : Nat} (hp : Sz j p) (hq : Sz k q) (hjk : j + k < 8000) (h0 : q ≠ 0) : (TU m).call fn_rational_Div [rM p, rM q] = some (.tup [rM (p / q), iN 0], []) := by
  have := hp.n; have := hp.d; have := hq.n; have := hq.d
  have h2 := nz_mul p.num ((q.den : Nat) : Int)
  have h4 := nz_mul ((p.den : Nat) : Int) q.num
  have hn := num_ne h0
  have hc : cmpI q.num 0 ≠ 0 := by unfold cmpI; split <;> (try split) <;> omega
  have g := p_rational_Div_1 (TU_io (m - 1)) p q (by exact c_rational_Sign (by omega) q) (sc_b (by simpa using hc)) (by exact c_integer_Mul (by omega) (by omega)) (by exact c_integer_Mul (by omega) (by omega)) (by exact c_rational_reduce (by omega) (Int.mul_ne_zero (den_ne p) hn) (by omega) (by omega))
  rw [div_divInt p q]
  exact TU_call (by omega) rfl rfl (args' := [rM p, rM q]) (by rw [uncaps_rM, uncaps_rM]; rfl) g (uncap_tupR _ _)
end Go.Proofs.YtkeelkeoijemiaaGreat.Ev

namespace Go.Proofs.YtkeelkeoijemiaaGreat.Ev
open Go
set_option linter.unusedVariables false
set_option linter.unusedSimpArgs false
set_option maxRecDepth 100000

theorem p_ref02_unit_0 {T : Tab} (hio : TO T)  (h0 : T.call fn_ref01_FromInt64 [iN 1] = some (iM 1, [])) : evalBody PG T FUEL (ioF fn_ref02_unit) fn_ref02_unit [] = some (MV.agg [bN (ng 1), MV.fs (nz 1) none (cz 1)], []) :=
  xBody_io (hard := false) hio (orc := [.call (iM 1) []]) (by kernel_rfl) (ow1 h0)

theorem p_ref02_Of_0 {T : Tab} (hio : TO T) (a b : Int) (h0 : T.call fn_ref01_Sign [MV.agg [bN (ng b), MV.fs (nz b) none (cz b)]] = some (iN (cmpI b 0), [])) (h1 : (bN (decide ((cmpI b 0) < (0 : Int))) : MV) = .sc (.bool true)) (h2 : T.call fn_ref01_Neg [MV.agg [bN (ng a), MV.fs (nz a) none (cz a)]] = some (iM (-a), [])) (h3 : T.call fn_ref01_Neg [MV.agg [bN (ng b), MV.fs (nz b) none (cz b)]] = some (iM (-b), [])) (h4 : T.call fn_ref01_GCD [MV.agg [bN (ng (-a)), MV.fs (nz (-a)) none (cz (-a))], MV.agg [bN (ng (-b)), MV.fs (nz (-b)) none (cz (-b))]] = some (iM ((Nat.gcd ((-a).natAbs) ((-b).natAbs) : Nat) : Int), [])) (h5 : T.call fn_ref01_DivMod [MV.agg [bN (ng (-a)), MV.fs (nz (-a)) none (cz (-a))], MV.agg [bN (ng ((Nat.gcd ((-a).natAbs) ((-b).natAbs) : Nat) : Int)), MV.fs (nz ((Nat.gcd ((-a).natAbs) ((-b).natAbs) : Nat) : Int)) none (cz ((Nat.gcd ((-a).natAbs) ((-b).natAbs) : Nat) : Int))]] = some (MV.tup [iM ((-a).fdiv ((Nat.gcd ((-a).natAbs) ((-b).natAbs) : Nat) : Int)), iM ((-a).fmod ((Nat.gcd ((-a).natAbs) ((-b).natAbs) : Nat) : Int)), iN 0], [])) (h6 : T.call fn_ref01_DivMod [MV.agg [bN (ng (-b)), MV.fs (nz (-b)) none (cz (-b))], MV.agg [bN (ng ((Nat.gcd ((-a).natAbs) ((-b).natAbs) : Nat) : Int)), MV.fs (nz ((Nat.gcd ((-a).natAbs) ((-b).natAbs) : Nat) : Int)) none (cz ((Nat.gcd ((-a).natAbs) ((-b).natAbs) : Nat) : Int))]] = some (MV.tup [iM ((-b).fdiv ((Nat.gcd ((-a).natAbs) ((-b).natAbs) : Nat) : Int)), iM ((-b).fmod ((Nat.gcd ((-a).natAbs) ((-b).natAbs) : Nat) : Int)), iN 0], [])) : evalBody PG T FUEL (ioF fn_ref02_Of) fn_ref02_Of [iM a, iM b] = some (MV.agg [bN (ng ((-a).fdiv ((Nat.gcd ((-a).natAbs) ((-b).natAbs) : Nat) : Int))), MV.fs (nz ((-a).fdiv ((Nat.gcd ((-a).natAbs) ((-b).natAbs) : Nat) : Int))) none (cz ((-a).fdiv ((Nat.gcd ((-a).natAbs) ((-b).natAbs) : Nat) : Int))), bN (ng ((-b).fdiv ((Nat.gcd ((-a).natAbs) ((-b).natAbs) : Nat) : Int))), MV.fs (nz ((-b).fdiv ((Nat.gcd ((-a).natAbs) ((-b).natAbs) : Nat) : Int))) none (cz ((-b).fdiv ((Nat.gcd ((-a).natAbs) ((-b).natAbs) : Nat) : Int)))], []) :=
  xBody_io (hard := false) hio (orc := [.call (iN (cmpI b 0)) [], .br true, .call (iM (-a)) [], .call (iM (-b)) [], .call (iM ((Nat.gcd ((-a).natAbs) ((-b).natAbs) : Nat) : Int)) [], .call (MV.tup [iM ((-a).fdiv ((Nat.gcd ((-a).natAbs) ((-b).natAbs) : Nat) : Int)), iM ((-a).fmod ((Nat.gcd ((-a).natAbs) ((-b).natAbs) : Nat) : Int)), iN 0]) [], .call (MV.tup [iM ((-b).fdiv ((Nat.gcd ((-a).natAbs) ((-b).natAbs) : Nat) : Int)), iM ((-b).fmod ((Nat.gcd ((-a).natAbs) ((-b).natAbs) : Nat) : Int)), iN 0]) []]) (by kernel_rfl) (owc h0 (owc h1 (owc h2 (owc h3 (owc h4 (owc h5 (ow1 h6)))))))

theorem p_ref02_Of_1 {T : Tab} (hio : TO T) (a b : Int) (h0 : T.call fn_ref01_Sign [MV.agg [bN (ng b), MV.fs (nz b) none (cz b)]] = some (iN (cmpI b 0), [])) (h1 : (bN (decide ((cmpI b 0) < (0 : Int))) : MV) = .sc (.bool false)) (h2 : T.call fn_ref01_GCD [MV.agg [bN (ng a), MV.fs (nz a) none (cz a)], MV.agg [bN (ng b), MV.fs (nz b) none (cz b)]] = some (iM ((Nat.gcd a.natAbs b.natAbs : Nat) : Int), [])) (h3 : T.call fn_ref01_DivMod [MV.agg [bN (ng a), MV.fs (nz a) none (cz a)], MV.agg [bN (ng ((Nat.gcd a.natAbs b.natAbs : Nat) : Int)), MV.fs (nz ((Nat.gcd a.natAbs b.natAbs : Nat) : Int)) none (cz ((Nat.gcd a.natAbs b.natAbs : Nat) : Int))]] = some (MV.tup [iM (a.fdiv ((Nat.gcd a.natAbs b.natAbs : Nat) : Int)), iM (a.fmod ((Nat.gcd a.natAbs b.natAbs : Nat) : Int)), iN 0], [])) (h4 : T.call fn_ref01_DivMod [MV.agg [bN (ng b), MV.fs (nz b) none (cz b)], MV.agg [bN (ng ((Nat.gcd a.natAbs b.natAbs : Nat) : Int)), MV.fs (nz ((Nat.gcd a.natAbs b.natAbs : Nat) : Int)) none (cz ((Nat.gcd a.natAbs b.natAbs : Nat) : Int))]] = some (MV.tup [iM (b.fdiv ((Nat.gcd a.natAbs b.natAbs : Nat) : Int)), iM (b.fmod ((Nat.gcd a.natAbs b.natAbs : Nat) : Int)), iN 0], [])) : evalBody PG T FUEL (ioF fn_ref02_Of) fn_ref02_Of [iM a, iM b] = some (MV.agg [bN (ng (a.fdiv ((Nat.gcd a.natAbs b.natAbs : Nat) : Int))), MV.fs (nz (a.fdiv ((Nat.gcd a.natAbs b.natAbs : Nat) : Int))) none (cz (a.fdiv ((Nat.gcd a.natAbs b.natAbs : Nat) : Int))), bN (ng (b.fdiv ((Nat.gcd a.natAbs b.natAbs : Nat) : Int))), MV.fs (nz (b.fdiv ((Nat.gcd a.natAbs b.natAbs : Nat) : Int))) none (cz (b.fdiv ((Nat.gcd a.natAbs b.natAbs : Nat) : Int)))], []) :=
  xBody_io (hard := false) hio (orc := [.call (iN (cmpI b 0)) [], .br false, .call (iM ((Nat.gcd a.natAbs b.natAbs : Nat) : Int)) [], .call (MV.tup [iM (a.fdiv ((Nat.gcd a.natAbs b.natAbs : Nat) : Int)), iM (a.fmod ((Nat.gcd a.natAbs b.natAbs : Nat) : Int)), iN 0]) [], .call (MV.tup [iM (b.fdiv ((Nat.gcd a.natAbs b.natAbs : Nat) : Int)), iM (b.fmod ((Nat.gcd a.natAbs b.natAbs : Nat) : Int)), iN 0]) []]) (by kernel_rfl) (owc h0 (owc h1 (owc h2 (owc h3 (ow1 h4)))))

theorem p_ref02_Make_1 {T : Tab} (hio : TO T) (a b : Int) (h0 : T.call fn_ref01_Sign [MV.agg [bN (ng b), MV.fs (nz b) none (cz b)]] = some (iN (cmpI b 0), [])) (h1 : (bN ((cmpI b 0) == (0 : Int)) : MV) = .sc (.bool false)) (h2 : T.call fn_ref02_Of [MV.agg [bN (ng a), MV.fs (nz a) none (cz a)], MV.agg [bN (ng b), MV.fs (nz b) none (cz b)]] = some (rM (Rat.divInt a b), [])) : evalBody PG T FUEL (ioF fn_ref02_Make) fn_ref02_Make [iM a, iM b] = some (MV.tup [MV.agg [bN (ng (((Rat.divInt a b)).num)), MV.fs (nz (((Rat.divInt a b)).num)) none (cz (((Rat.divInt a b)).num)), bN (ng (((Rat.divInt a b).den : Nat) : Int)), MV.fs (nz (((Rat.divInt a b).den : Nat) : Int)) none (cz (((Rat.divInt a b).den : Nat) : Int))], iN 0], []) :=
  xBody_io (hard := false) hio (orc := [.call (iN (cmpI b 0)) [], .br false, .call (rM (Rat.divInt a b)) []]) (by kernel_rfl) (owc h0 (owc h1 (ow1 h2)))

theorem p_ref02_FromInt64_0 {T : Tab} (hio : TO T) (x : Int) (h0 : T.call fn_ref01_FromInt64 [iN x] = some (iM x, [])) (h1 : T.call fn_ref02_unit [] = some (iM 1, [])) : evalBody PG T FUEL (ioF fn_ref02_FromInt64) fn_ref02_FromInt64 [iN x] = some (MV.agg [bN (ng x), MV.fs (nz x) none (cz x), bN (ng 1), MV.fs (nz 1) none (cz 1)], []) :=
  xBody_io (hard := false) hio (orc := [.call (iM x) [], .call (iM 1) []]) (by kernel_rfl) (owc h0 (ow1 h1))

theorem p_ref02_Frac_0 {T : Tab} (hio : TO T) (x y : Int) (h0 : (bN (y == (0 : Int)) : MV) = .sc (.bool true)) (h1 : T.call fn_ref01_FromInt64 [iN 0] = some (iM 0, [])) (h2 : T.call fn_ref01_FromInt64 [iN 1] = some (iM 1, [])) (h3 : T.call fn_ref02_Of [iM 0, iM 1] = some (rM (Rat.divInt 0 1), [])) : evalBody PG T FUEL (ioF fn_ref02_Frac) fn_ref02_Frac [iN x, iN y] = some (MV.agg [bN (ng (((Rat.divInt 0 1)).num)), MV.fs (nz (((Rat.divInt 0 1)).num)) none (cz (((Rat.divInt 0 1)).num)), bN (ng (((Rat.divInt 0 1).den : Nat) : Int)), MV.fs (nz (((Rat.divInt 0 1).den : Nat) : Int)) none (cz (((Rat.divInt 0 1).den : Nat) : Int))], []) :=
  xBody_io (hard := false) hio (orc := [.br true, .call (iM 0) [], .call (iM 1) [], .call (rM (Rat.divInt 0 1)) []]) (by kernel_rfl) (owc h0 (owc h1 (owc h2 (ow1 h3))))

theorem p_ref02_Frac_1 {T : Tab} (hio : TO T) (x y : Int) (h0 : (bN (y == (0 : Int)) : MV) = .sc (.bool false)) (h1 : T.call fn_ref01_FromInt64 [iN x] = some (iM x, [])) (h2 : T.call fn_ref01_FromInt64 [iN y] = some (iM y, [])) (h3 : T.call fn_ref02_Of [iM x, iM y] = some (rM (Rat.divInt x y), [])) : evalBody PG T FUEL (ioF fn_ref02_Frac) fn_ref02_Frac [iN x, iN y] = some (MV.agg [bN (ng (((Rat.divInt x y)).num)), MV.fs (nz (((Rat.divInt x y)).num)) none (cz (((Rat.divInt x y)).num)), bN (ng (((Rat.divInt x y).den : Nat) : Int)), MV.fs (nz (((Rat.divInt x y).den : Nat) : Int)) none (cz (((Rat.divInt x y).den : Nat) : Int))], []) :=
  xBody_io (hard := false) hio (orc := [.br false, .call (iM x) [], .call (iM y) [], .call (rM (Rat.divInt x y)) []]) (by kernel_rfl) (owc h0 (owc h1 (owc h2 (ow1 h3))))

theorem p_ref02_Sign_0 {T : Tab} (hio : TO T) (p : Rat) (h0 : T.call fn_ref01_Sign [MV.agg [bN (ng p.num), MV.fs (nz p.num) none (cz p.num)]] = some (iN (cmpI p.num 0), [])) : evalBody PG T FUEL (ioF fn_ref02_Sign) fn_ref02_Sign [rM p] = some (iN (cmpI p.num 0), []) :=
  xBody_io (hard := false) hio (orc := [.call (iN (cmpI p.num 0)) []]) (by kernel_rfl) (ow1 h0)

theorem p_ref02_Neg_0 {T : Tab} (hio : TO T) (p : Rat) (h0 : T.call fn_ref01_Neg [MV.agg [bN (ng p.num), MV.fs (nz p.num) none (cz p.num)]] = some (iM (-p.num), [])) : evalBody PG T FUEL (ioF fn_ref02_Neg) fn_ref02_Neg [rM p] = some (MV.agg [bN (ng (-p.num)), MV.fs (nz (-p.num)) none (cz (-p.num)), bN (ng ((p.den : Nat) : Int)), MV.fs (nz ((p.den : Nat) : Int)) none (cz ((p.den : Nat) : Int))], []) :=
  xBody_io (hard := false) hio (orc := [.call (iM (-p.num)) []]) (by kernel_rfl) (ow1 h0)

theorem p_ref02_Add_0 {T : Tab} (hio : TO T) (p q : Rat) (h0 : T.call fn_ref01_Mul [MV.agg [bN (ng p.num), MV.fs (nz p.num) none (cz p.num)], MV.agg [bN (ng ((q.den : Nat) : Int)), MV.fs (nz ((q.den : Nat) : Int)) none (cz ((q.den : Nat) : Int))]] = some (iM (p.num * ((q.den : Nat) : Int)), [])) (h1 : T.call fn_ref01_Mul [MV.agg [bN (ng q.num), MV.fs (nz q.num) none (cz q.num)], MV.agg [bN (ng ((p.den : Nat) : Int)), MV.fs (nz ((p.den : Nat) : Int)) none (cz ((p.den : Nat) : Int))]] = some (iM (q.num * ((p.den : Nat) : Int)), [])) (h2 : T.call fn_ref01_Add [MV.agg [bN (ng (p.num * ((q.den : Nat) : Int))), MV.fs (nz (p.num * ((q.den : Nat) : Int))) none (cz (p.num * ((q.den : Nat) : Int)))], MV.agg [bN (ng (q.num * ((p.den : Nat) : Int))), MV.fs (nz (q.num * ((p.den : Nat) : Int))) none (cz (q.num * ((p.den : Nat) : Int)))]] = some (iM ((p.num * ((q.den : Nat) : Int)) + (q.num * ((p.den : Nat) : Int))), [])) (h3 : T.call fn_ref01_Mul [MV.agg [bN (ng ((p.den : Nat) : Int)), MV.fs (nz ((p.den : Nat) : Int)) none (cz ((p.den : Nat) : Int))], MV.agg [bN (ng ((q.den : Nat) : Int)), MV.fs (nz ((q.den : Nat) : Int)) none (cz ((q.den : Nat) : Int))]] = some (iM (((p.den : Nat) : Int) * ((q.den : Nat) : Int)), [])) (h4 : T.call fn_ref02_Of [iM ((p.num * ((q.den : Nat) : Int)) + (q.num * ((p.den : Nat) : Int))), iM (((p.den : Nat) : Int) * ((q.den : Nat) : Int))] = some (rM (Rat.divInt ((p.num * ((q.den : Nat) : Int)) + (q.num * ((p.den : Nat) : Int))) (((p.den : Nat) : Int) * ((q.den : Nat) : Int))), [])) : evalBody PG T FUEL (ioF fn_ref02_Add) fn_ref02_Add [rM p, rM q] = some (MV.agg [bN (ng (((Rat.divInt ((p.num * ((q.den : Nat) : Int)) + (q.num * ((p.den : Nat) : Int))) (((p.den : Nat) : Int) * ((q.den : Nat) : Int)))).num)), MV.fs (nz (((Rat.divInt ((p.num * ((q.den : Nat) : Int)) + (q.num * ((p.den : Nat) : Int))) (((p.den : Nat) : Int) * ((q.den : Nat) : Int)))).num)) none (cz (((Rat.divInt ((p.num * ((q.den : Nat) : Int)) + (q.num * ((p.den : Nat) : Int))) (((p.den : Nat) : Int) * ((q.den : Nat) : Int)))).num)), bN (ng (((Rat.divInt ((p.num * ((q.den : Nat) : Int)) + (q.num * ((p.den : Nat) : Int))) (((p.den : Nat) : Int) * ((q.den : Nat) : Int))).den : Nat) : Int)), MV.fs (nz (((Rat.divInt ((p.num * ((q.den : Nat) : Int)) + (q.num * ((p.den : Nat) : Int))) (((p.den : Nat) : Int) * ((q.den : Nat) : Int))).den : Nat) : Int)) none (cz (((Rat.divInt ((p.num * ((q.den : Nat) : Int)) + (q.num * ((p.den : Nat) : Int))) (((p.den : Nat) : Int) * ((q.den : Nat) : Int))).den : Nat) : Int))], []) :=
  xBody_io (hard := false) hio (orc := [.call (iM (p.num * ((q.den : Nat) : Int))) [], .call (iM (q.num * ((p.den : Nat) : Int))) [], .call (iM ((p.num * ((q.den : Nat) : Int)) + (q.num * ((p.den : Nat) : Int)))) [], .call (iM (((p.den : Nat) : Int) * ((q.den : Nat) : Int))) [], .call (rM (Rat.divInt ((p.num * ((q.den : Nat) : Int)) + (q.num * ((p.den : Nat) : Int))) (((p.den : Nat) : Int) * ((q.den : Nat) : Int)))) []]) (by kernel_rfl) (owc h0 (owc h1 (owc h2 (owc h3 (ow1 h4)))))

theorem p_ref02_Sub_0 {T : Tab} (hio : TO T) (p q : Rat) (h0 : T.call fn_ref02_Neg [MV.agg [bN (ng q.num), MV.fs (nz q.num) none (cz q.num), bN (ng ((q.den : Nat) : Int)), MV.fs (nz ((q.den : Nat) : Int)) none (cz ((q.den : Nat) : Int))]] = some (rM (-q), [])) (h1 : T.call fn_ref02_Add [MV.agg [bN (ng p.num), MV.fs (nz p.num) none (cz p.num), bN (ng ((p.den : Nat) : Int)), MV.fs (nz ((p.den : Nat) : Int)) none (cz ((p.den : Nat) : Int))], rM (-q)] = some (rM (p + (-q)), [])) : evalBody PG T FUEL (ioF fn_ref02_Sub) fn_ref02_Sub [rM p, rM q] = some (MV.agg [bN (ng (((p + (-q))).num)), MV.fs (nz (((p + (-q))).num)) none (cz (((p + (-q))).num)), bN (ng (((p + (-q)).den : Nat) : Int)), MV.fs (nz (((p + (-q)).den : Nat) : Int)) none (cz (((p + (-q)).den : Nat) : Int))], []) :=
  xBody_io (hard := false) hio (orc := [.call (rM (-q)) [], .call (rM (p + (-q))) []]) (by kernel_rfl) (owc h0 (ow1 h1))

theorem p_ref02_Cmp_0 {T : Tab} (hio : TO T) (p q : Rat) (h0 : T.call fn_ref01_Mul [MV.agg [bN (ng p.num), MV.fs (nz p.num) none (cz p.num)], MV.agg [bN (ng ((q.den : Nat) : Int)), MV.fs (nz ((q.den : Nat) : Int)) none (cz ((q.den : Nat) : Int))]] = some (iM (p.num * ((q.den : Nat) : Int)), [])) (h1 : T.call fn_ref01_Mul [MV.agg [bN (ng q.num), MV.fs (nz q.num) none (cz q.num)], MV.agg [bN (ng ((p.den : Nat) : Int)), MV.fs (nz ((p.den : Nat) : Int)) none (cz ((p.den : Nat) : Int))]] = some (iM (q.num * ((p.den : Nat) : Int)), [])) (h2 : T.call fn_ref01_Cmp [iM (p.num * ((q.den : Nat) : Int)), iM (q.num * ((p.den : Nat) : Int))] = some (iN (cmpI (p.num * ((q.den : Nat) : Int)) (q.num * ((p.den : Nat) : Int))), [])) : evalBody PG T FUEL (ioF fn_ref02_Cmp) fn_ref02_Cmp [rM p, rM q] = some (iN (cmpI (p.num * ((q.den : Nat) : Int)) (q.num * ((p.den : Nat) : Int))), []) :=
  xBody_io (hard := false) hio (orc := [.call (iM (p.num * ((q.den : Nat) : Int))) [], .call (iM (q.num * ((p.den : Nat) : Int))) [], .call (iN (cmpI (p.num * ((q.den : Nat) : Int)) (q.num * ((p.den : Nat) : Int)))) []]) (by kernel_rfl) (owc h0 (owc h1 (ow1 h2)))

theorem p_ref02_Mul_0 {T : Tab} (hio : TO T) (p q : Rat) (h0 : T.call fn_ref01_Mul [MV.agg [bN (ng p.num), MV.fs (nz p.num) none (cz p.num)], MV.agg [bN (ng q.num), MV.fs (nz q.num) none (cz q.num)]] = some (iM (p.num * q.num), [])) (h1 : T.call fn_ref01_Mul [MV.agg [bN (ng ((p.den : Nat) : Int)), MV.fs (nz ((p.den : Nat) : Int)) none (cz ((p.den : Nat) : Int))], MV.agg [bN (ng ((q.den : Nat) : Int)), MV.fs (nz ((q.den : Nat) : Int)) none (cz ((q.den : Nat) : Int))]] = some (iM (((p.den : Nat) : Int) * ((q.den : Nat) : Int)), [])) (h2 : T.call fn_ref02_Of [iM (p.num * q.num), iM (((p.den : Nat) : Int) * ((q.den : Nat) : Int))] = some (rM (Rat.divInt (p.num * q.num) (((p.den : Nat) : Int) * ((q.den : Nat) : Int))), [])) : evalBody PG T FUEL (ioF fn_ref02_Mul) fn_ref02_Mul [rM p, rM q] = some (MV.agg [bN (ng (((Rat.divInt (p.num * q.num) (((p.den : Nat) : Int) * ((q.den : Nat) : Int)))).num)), MV.fs (nz (((Rat.divInt (p.num * q.num) (((p.den : Nat) : Int) * ((q.den : Nat) : Int)))).num)) none (cz (((Rat.divInt (p.num * q.num) (((p.den : Nat) : Int) * ((q.den : Nat) : Int)))).num)), bN (ng (((Rat.divInt (p.num * q.num) (((p.den : Nat) : Int) * ((q.den : Nat) : Int))).den : Nat) : Int)), MV.fs (nz (((Rat.divInt (p.num * q.num) (((p.den : Nat) : Int) * ((q.den : Nat) : Int))).den : Nat) : Int)) none (cz (((Rat.divInt (p.num * q.num) (((p.den : Nat) : Int) * ((q.den : Nat) : Int))).den : Nat) : Int))], []) :=
  xBody_io (hard := false) hio (orc := [.call (iM (p.num * q.num)) [], .call (iM (((p.den : Nat) : Int) * ((q.den : Nat) : Int))) [], .call (rM (Rat.divInt (p.num * q.num) (((p.den : Nat) : Int) * ((q.den : Nat) : Int)))) []]) (by kernel_rfl) (owc h0 (owc h1 (ow1 h2)))

theorem p_ref02_Div_0 {T : Tab} (hio : TO T) (p q : Rat) (h0 : T.call fn_ref01_Mul [MV.agg [bN (ng p.num), MV.fs (nz p.num) none (cz p.num)], MV.agg [bN (ng ((q.den : Nat) : Int)), MV.fs (nz ((q.den : Nat) : Int)) none (cz ((q.den : Nat) : Int))]] = some (iM (p.num * ((q.den : Nat) : Int)), [])) (h1 : T.call fn_ref01_Mul [MV.agg [bN (ng ((p.den : Nat) : Int)), MV.fs (nz ((p.den : Nat) : Int)) none (cz ((p.den : Nat) : Int))], MV.agg [bN (ng q.num), MV.fs (nz q.num) none (cz q.num)]] = some (iM (((p.den : Nat) : Int) * q.num), [])) (h2 : T.call fn_ref02_Make [iM (p.num * ((q.den : Nat) : Int)), iM (((p.den : Nat) : Int) * q.num)] = some (MV.tup [rM (Rat.divInt (p.num * ((q.den : Nat) : Int)) (((p.den : Nat) : Int) * q.num)), iN 0], [])) : evalBody PG T FUEL (ioF fn_ref02_Div) fn_ref02_Div [rM p, rM q] = some (MV.tup [MV.agg [bN (ng (((Rat.divInt (p.num * ((q.den : Nat) : Int)) (((p.den : Nat) : Int) * q.num))).num)), MV.fs (nz (((Rat.divInt (p.num * ((q.den : Nat) : Int)) (((p.den : Nat) : Int) * q.num))).num)) none (cz (((Rat.divInt (p.num * ((q.den : Nat) : Int)) (((p.den : Nat) : Int) * q.num))).num)), bN (ng (((Rat.divInt (p.num * ((q.den : Nat) : Int)) (((p.den : Nat) : Int) * q.num)).den : Nat) : Int)), MV.fs (nz (((Rat.divInt (p.num * ((q.den : Nat) : Int)) (((p.den : Nat) : Int) * q.num)).den : Nat) : Int)) none (cz (((Rat.divInt (p.num * ((q.den : Nat) : Int)) (((p.den : Nat) : Int) * q.num)).den : Nat) : Int))], iN 0], []) :=
  xBody_io (hard := false) hio (orc := [.call (iM (p.num * ((q.den : Nat) : Int))) [], .call (iM (((p.den : Nat) : Int) * q.num)) [], .call (MV.tup [rM (Rat.divInt (p.num * ((q.den : Nat) : Int)) (((p.den : Nat) : Int) * q.num)), iN 0]) []]) (by kernel_rfl) (owc h0 (owc h1 (ow1 h2)))

theorem p_ref02_Over_0 {T : Tab} (hio : TO T) (p q : Rat) (h0 : T.call fn_ref02_Div [MV.agg [bN (ng p.num), MV.fs (nz p.num) none (cz p.num), bN (ng ((p.den : Nat) : Int)), MV.fs (nz ((p.den : Nat) : Int)) none (cz ((p.den : Nat) : Int))], MV.agg [bN (ng q.num), MV.fs (nz q.num) none (cz q.num), bN (ng ((q.den : Nat) : Int)), MV.fs (nz ((q.den : Nat) : Int)) none (cz ((q.den : Nat) : Int))]] = some (MV.tup [rM (p / q), iN 0], [])) : evalBody PG T FUEL (ioF fn_ref02_Over) fn_ref02_Over [rM p, rM q] = some (MV.agg [bN (ng (((p / q)).num)), MV.fs (nz (((p / q)).num)) none (cz (((p / q)).num)), bN (ng (((p / q).den : Nat) : Int)), MV.fs (nz (((p / q).den : Nat) : Int)) none (cz (((p / q).den : Nat) : Int))], []) :=
  xBody_io (hard := false) hio (orc := [.call (MV.tup [rM (p / q), iN 0]) []]) (by kernel_rfl) (ow1 h0)

theorem p_ref02_Square_0 {T : Tab} (hio : TO T) (p : Rat) (h0 : T.call fn_ref02_Mul [MV.agg [bN (ng p.num), MV.fs (nz p.num) none (cz p.num), bN (ng ((p.den : Nat) : Int)), MV.fs (nz ((p.den : Nat) : Int)) none (cz ((p.den : Nat) : Int))], MV.agg [bN (ng p.num), MV.fs (nz p.num) none (cz p.num), bN (ng ((p.den : Nat) : Int)), MV.fs (nz ((p.den : Nat) : Int)) none (cz ((p.den : Nat) : Int))]] = some (rM (p * p), [])) : evalBody PG T FUEL (ioF fn_ref02_Square) fn_ref02_Square [rM p] = some (MV.agg [bN (ng (((p * p)).num)), MV.fs (nz (((p * p)).num)) none (cz (((p * p)).num)), bN (ng (((p * p).den : Nat) : Int)), MV.fs (nz (((p * p).den : Nat) : Int)) none (cz (((p * p).den : Nat) : Int))], []) :=
  xBody_io (hard := false) hio (orc := [.call (rM (p * p)) []]) (by kernel_rfl) (ow1 h0)

end Go.Proofs.YtkeelkeoijemiaaGreat.Ev

