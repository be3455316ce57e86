/- The engagement of two circles: paths. sort.Search with the engagement's test: states, rounds, paths. The engagement of two circles: plain laws. The engagement of two circles: what the functions answer. -/
import Derived.Test.YtkeelkeoijemiaaGreatGa
set_option linter.unusedVariables false
set_option linter.unusedSimpArgs false
namespace Go.Proofs.YtkeelkeoijemiaaGreat.Ev
open Go
set_option linter.unusedVariables false
set_option linter.unusedSimpArgs false
set_option maxRecDepth 100000

abbrev qI (x : Int) : Rat := (x : Rat)
def cosB (q : Rat) : Bool := decide (q ≤ 1) && decide (-1 ≤ q)
def halfQ (R t d : Rat) : Rat := (R * R - d * d - t * t) / (qI 2 * (d * t))
def alQ (r t s : Int) : Rat := halfQ (qI (IntKind.i64.wrap (r + t))) (qI t) (qI (IntKind.i64.wrap (r + s)))
def alB (r t s : Int) (q : Rat) : Bool := if cmpQ (alQ r t s) (qI 1) ≥ 0 then true else if cmpI (alQ r t s).num 0 ≥ 0 then decide (cmpQ (alQ r t s * alQ r t s + alQ r t s * alQ r t s - qI 1) q ≥ 0) else false
def cosQ (r t s : Int) : Rat := ((qI (IntKind.i64.wrap (r + t)) * qI (IntKind.i64.wrap (r + t))) - (qI (IntKind.i64.wrap (r + s)) * qI (IntKind.i64.wrap (r + s))) - (qI t * qI t)) / ((qI 2 * qI (IntKind.i64.wrap (r + s))) * qI t)
def paB (r t s : Int) (q : Rat) : Bool := if cmpI (cosQ r t s).num 0 ≥ 0 then decide (cmpQ (qI 2 * (cosQ r t s * cosQ r t s) - qI 1) q ≥ 0) else false

theorem p_law34_num_0 {T : Tab} (hio : TO T) (x : Int) (h0 : T.call fn_ref02_FromInt64 [iN x] = some (rM (qI x), [])) : evalBody PG T FUEL (ioF fn_law34_num) fn_law34_num [iN x] = some (MV.agg [bN (ng (((qI x)).num)), MV.fs (nz (((qI x)).num)) none (cz (((qI x)).num)), bN (ng (((qI x).den : Nat) : Int)), MV.fs (nz (((qI x).den : Nat) : Int)) none (cz (((qI x).den : Nat) : Int))], []) :=
  xBody_io (hard := false) hio (orc := [.call (rM (qI x)) []]) (by kernel_rfl) (ow1 h0)

theorem p_ref34_num_0 {T : Tab} (hio : TO T) (x : Int) (h0 : T.call fn_ref02_FromInt64 [iN x] = some (rM (qI x), [])) : evalBody PG T FUEL (ioF fn_ref34_num) fn_ref34_num [iN x] = some (MV.agg [bN (ng (((qI x)).num)), MV.fs (nz (((qI x)).num)) none (cz (((qI x)).num)), bN (ng (((qI x).den : Nat) : Int)), MV.fs (nz (((qI x).den : Nat) : Int)) none (cz (((qI x).den : Nat) : Int))], []) :=
  xBody_io (hard := false) hio (orc := [.call (rM (qI x)) []]) (by kernel_rfl) (ow1 h0)

theorem p_engagement_add_0 {T : Tab} (hio : TO T) (p q : Rat) (h0 : T.call fn_rational_Add [MV.agg [bN (ng p.num), MV.fs (nz p.num) none (cz p.num), bN (ng ((p.den : Nat) : Int)), MV.fs (nz ((p.den : Nat) : Int)) none (cz ((p.den : Nat) : Int))], MV.agg [bN (ng q.num), MV.fs (nz q.num) none (cz q.num), bN (ng ((q.den : Nat) : Int)), MV.fs (nz ((q.den : Nat) : Int)) none (cz ((q.den : Nat) : Int))]] = some (rM (p + q), [])) : evalBody PG T FUEL (ioF fn_engagement_add) fn_engagement_add [rM p, rM q] = some (MV.agg [bN (ng (((p + q)).num)), MV.fs (nz (((p + q)).num)) none (cz (((p + q)).num)), bN (ng (((p + q).den : Nat) : Int)), MV.fs (nz (((p + q).den : Nat) : Int)) none (cz (((p + q).den : Nat) : Int))], []) :=
  xBody_io (hard := false) hio (orc := [.call (rM (p + q)) []]) (by kernel_rfl) (ow1 h0)

theorem p_engagement_sub_0 {T : Tab} (hio : TO T) (p q : Rat) (h0 : T.call fn_rational_Sub [MV.agg [bN (ng p.num), MV.fs (nz p.num) none (cz p.num), bN (ng ((p.den : Nat) : Int)), MV.fs (nz ((p.den : Nat) : Int)) none (cz ((p.den : Nat) : Int))], MV.agg [bN (ng q.num), MV.fs (nz q.num) none (cz q.num), bN (ng ((q.den : Nat) : Int)), MV.fs (nz ((q.den : Nat) : Int)) none (cz ((q.den : Nat) : Int))]] = some (rM (p - q), [])) : evalBody PG T FUEL (ioF fn_engagement_sub) fn_engagement_sub [rM p, rM q] = some (MV.agg [bN (ng (((p - q)).num)), MV.fs (nz (((p - q)).num)) none (cz (((p - q)).num)), bN (ng (((p - q).den : Nat) : Int)), MV.fs (nz (((p - q).den : Nat) : Int)) none (cz (((p - q).den : Nat) : Int))], []) :=
  xBody_io (hard := false) hio (orc := [.call (rM (p - q)) []]) (by kernel_rfl) (ow1 h0)

theorem p_engagement_mul_0 {T : Tab} (hio : TO T) (p q : Rat) (h0 : T.call fn_rational_Mul [MV.agg [bN (ng p.num), MV.fs (nz p.num) none (cz p.num), bN (ng ((p.den : Nat) : Int)), MV.fs (nz ((p.den : Nat) : Int)) none (cz ((p.den : Nat) : Int))], MV.agg [bN (ng q.num), MV.fs (nz q.num) none (cz q.num), bN (ng ((q.den : Nat) : Int)), MV.fs (nz ((q.den : Nat) : Int)) none (cz ((q.den : Nat) : Int))]] = some (rM (p * q), [])) : evalBody PG T FUEL (ioF fn_engagement_mul) fn_engagement_mul [rM p, rM q] = some (MV.agg [bN (ng (((p * q)).num)), MV.fs (nz (((p * q)).num)) none (cz (((p * q)).num)), bN (ng (((p * q).den : Nat) : Int)), MV.fs (nz (((p * q).den : Nat) : Int)) none (cz (((p * q).den : Nat) : Int))], []) :=
  xBody_io (hard := false) hio (orc := [.call (rM (p * q)) []]) (by kernel_rfl) (ow1 h0)

theorem p_engagement_cosine_0 {T : Tab} (hio : TO T) (q : Rat) (h0 : T.call fn_rational_FromInt64 [iN 1] = some (rM (qI 1), [])) (h1 : T.call fn_rational_Cmp [MV.agg [bN (ng q.num), MV.fs (nz q.num) none (cz q.num), bN (ng ((q.den : Nat) : Int)), MV.fs (nz ((q.den : Nat) : Int)) none (cz ((q.den : Nat) : Int))], MV.agg [bN (ng (((qI 1)).num)), MV.fs (nz (((qI 1)).num)) none (cz (((qI 1)).num)), bN (ng (((qI 1).den : Nat) : Int)), MV.fs (nz (((qI 1).den : Nat) : Int)) none (cz (((qI 1).den : Nat) : Int))]] = some (iN (cmpQ q (qI 1)), [])) (h2 : (bN (decide ((cmpQ q (qI 1)) ≤ (0 : Int))) : MV) = .sc (.bool true)) (h3 : T.call fn_rational_Neg [MV.agg [bN (ng q.num), MV.fs (nz q.num) none (cz q.num), bN (ng ((q.den : Nat) : Int)), MV.fs (nz ((q.den : Nat) : Int)) none (cz ((q.den : Nat) : Int))]] = some (rM (-q), [])) (h4 : T.call fn_rational_Cmp [rM (-q), MV.agg [bN (ng (((qI 1)).num)), MV.fs (nz (((qI 1)).num)) none (cz (((qI 1)).num)), bN (ng (((qI 1).den : Nat) : Int)), MV.fs (nz (((qI 1).den : Nat) : Int)) none (cz (((qI 1).den : Nat) : Int))]] = some (iN (cmpQ (-q) (qI 1)), [])) : evalBody PG T FUEL (ioF fn_engagement_cosine) fn_engagement_cosine [rM q] = some (bN (decide ((cmpQ (-q) (qI 1)) ≤ (0 : Int))), []) :=
  xBody_io (hard := false) hio (orc := [.call (rM (qI 1)) [], .call (iN (cmpQ q (qI 1))) [], .br true, .call (rM (-q)) [], .call (iN (cmpQ (-q) (qI 1))) []]) (by kernel_rfl) (owc h0 (owc h1 (owc h2 (owc h3 (ow1 h4)))))

theorem p_engagement_cosine_1 {T : Tab} (hio : TO T) (q : Rat) (h0 : T.call fn_rational_FromInt64 [iN 1] = some (rM (qI 1), [])) (h1 : T.call fn_rational_Cmp [MV.agg [bN (ng q.num), MV.fs (nz q.num) none (cz q.num), bN (ng ((q.den : Nat) : Int)), MV.fs (nz ((q.den : Nat) : Int)) none (cz ((q.den : Nat) : Int))], MV.agg [bN (ng (((qI 1)).num)), MV.fs (nz (((qI 1)).num)) none (cz (((qI 1)).num)), bN (ng (((qI 1).den : Nat) : Int)), MV.fs (nz (((qI 1).den : Nat) : Int)) none (cz (((qI 1).den : Nat) : Int))]] = some (iN (cmpQ q (qI 1)), [])) (h2 : (bN (decide ((cmpQ q (qI 1)) ≤ (0 : Int))) : MV) = .sc (.bool false)) : evalBody PG T FUEL (ioF fn_engagement_cosine) fn_engagement_cosine [rM q] = some (bN false, []) :=
  xBody_io (hard := false) hio (orc := [.call (rM (qI 1)) [], .call (iN (cmpQ q (qI 1))) [], .br false]) (by kernel_rfl) (owc h0 (owc h1 (ow1 h2)))

theorem p_trochoid_cosine_0 {T : Tab} (hio : TO T) (q : Rat) (h0 : T.call fn_rational_FromInt64 [iN 1] = some (rM (qI 1), [])) (h1 : T.call fn_rational_Cmp [MV.agg [bN (ng q.num), MV.fs (nz q.num) none (cz q.num), bN (ng ((q.den : Nat) : Int)), MV.fs (nz ((q.den : Nat) : Int)) none (cz ((q.den : Nat) : Int))], MV.agg [bN (ng (((qI 1)).num)), MV.fs (nz (((qI 1)).num)) none (cz (((qI 1)).num)), bN (ng (((qI 1).den : Nat) : Int)), MV.fs (nz (((qI 1).den : Nat) : Int)) none (cz (((qI 1).den : Nat) : Int))]] = some (iN (cmpQ q (qI 1)), [])) (h2 : (bN (decide ((cmpQ q (qI 1)) ≤ (0 : Int))) : MV) = .sc (.bool true)) (h3 : T.call fn_rational_Neg [MV.agg [bN (ng (((qI 1)).num)), MV.fs (nz (((qI 1)).num)) none (cz (((qI 1)).num)), bN (ng (((qI 1).den : Nat) : Int)), MV.fs (nz (((qI 1).den : Nat) : Int)) none (cz (((qI 1).den : Nat) : Int))]] = some (rM (-(qI 1)), [])) (h4 : T.call fn_rational_Cmp [MV.agg [bN (ng q.num), MV.fs (nz q.num) none (cz q.num), bN (ng ((q.den : Nat) : Int)), MV.fs (nz ((q.den : Nat) : Int)) none (cz ((q.den : Nat) : Int))], rM (-(qI 1))] = some (iN (cmpQ q (-(qI 1))), [])) : evalBody PG T FUEL (ioF fn_trochoid_cosine) fn_trochoid_cosine [rM q] = some (bN (decide ((cmpQ q (-(qI 1))) ≥ (0 : Int))), []) :=
  xBody_io (hard := false) hio (orc := [.call (rM (qI 1)) [], .call (iN (cmpQ q (qI 1))) [], .br true, .call (rM (-(qI 1))) [], .call (iN (cmpQ q (-(qI 1)))) []]) (by kernel_rfl) (owc h0 (owc h1 (owc h2 (owc h3 (ow1 h4)))))

theorem p_trochoid_cosine_1 {T : Tab} (hio : TO T) (q : Rat) (h0 : T.call fn_rational_FromInt64 [iN 1] = some (rM (qI 1), [])) (h1 : T.call fn_rational_Cmp [MV.agg [bN (ng q.num), MV.fs (nz q.num) none (cz q.num), bN (ng ((q.den : Nat) : Int)), MV.fs (nz ((q.den : Nat) : Int)) none (cz ((q.den : Nat) : Int))], MV.agg [bN (ng (((qI 1)).num)), MV.fs (nz (((qI 1)).num)) none (cz (((qI 1)).num)), bN (ng (((qI 1).den : Nat) : Int)), MV.fs (nz (((qI 1).den : Nat) : Int)) none (cz (((qI 1).den : Nat) : Int))]] = some (iN (cmpQ q (qI 1)), [])) (h2 : (bN (decide ((cmpQ q (qI 1)) ≤ (0 : Int))) : MV) = .sc (.bool false)) : evalBody PG T FUEL (ioF fn_trochoid_cosine) fn_trochoid_cosine [rM q] = some (bN false, []) :=
  xBody_io (hard := false) hio (orc := [.call (rM (qI 1)) [], .call (iN (cmpQ q (qI 1))) [], .br false]) (by kernel_rfl) (owc h0 (owc h1 (ow1 h2)))

theorem p_ref34_cosine_0 {T : Tab} (hio : TO T) (q : Rat) (h0 : T.call fn_ref34_num [iN (-1)] = some (rM (qI (-1)), [])) (h1 : T.call fn_ref02_Cmp [MV.agg [bN (ng q.num), MV.fs (nz q.num) none (cz q.num), bN (ng ((q.den : Nat) : Int)), MV.fs (nz ((q.den : Nat) : Int)) none (cz ((q.den : Nat) : Int))], rM (qI (-1))] = some (iN (cmpQ q (qI (-1))), [])) (h2 : (bN (decide ((cmpQ q (qI (-1))) ≥ (0 : Int))) : MV) = .sc (.bool true)) (h3 : T.call fn_ref34_num [iN 1] = some (rM (qI 1), [])) (h4 : T.call fn_ref02_Cmp [MV.agg [bN (ng q.num), MV.fs (nz q.num) none (cz q.num), bN (ng ((q.den : Nat) : Int)), MV.fs (nz ((q.den : Nat) : Int)) none (cz ((q.den : Nat) : Int))], rM (qI 1)] = some (iN (cmpQ q (qI 1)), [])) : evalBody PG T FUEL (ioF fn_ref34_cosine) fn_ref34_cosine [rM q] = some (bN (decide ((cmpQ q (qI 1)) ≤ (0 : Int))), []) :=
  xBody_io (hard := false) hio (orc := [.call (rM (qI (-1))) [], .call (iN (cmpQ q (qI (-1)))) [], .br true, .call (rM (qI 1)) [], .call (iN (cmpQ q (qI 1))) []]) (by kernel_rfl) (owc h0 (owc h1 (owc h2 (owc h3 (ow1 h4)))))

theorem p_ref34_cosine_1 {T : Tab} (hio : TO T) (q : Rat) (h0 : T.call fn_ref34_num [iN (-1)] = some (rM (qI (-1)), [])) (h1 : T.call fn_ref02_Cmp [MV.agg [bN (ng q.num), MV.fs (nz q.num) none (cz q.num), bN (ng ((q.den : Nat) : Int)), MV.fs (nz ((q.den : Nat) : Int)) none (cz ((q.den : Nat) : Int))], rM (qI (-1))] = some (iN (cmpQ q (qI (-1))), [])) (h2 : (bN (decide ((cmpQ q (qI (-1))) ≥ (0 : Int))) : MV) = .sc (.bool false)) : evalBody PG T FUEL (ioF fn_ref34_cosine) fn_ref34_cosine [rM q] = some (bN false, []) :=
  xBody_io (hard := false) hio (orc := [.call (rM (qI (-1))) [], .call (iN (cmpQ q (qI (-1)))) [], .br false]) (by kernel_rfl) (owc h0 (owc h1 (ow1 h2)))

theorem p_engagement_half_0 {T : Tab} (hio : TO T) (R t d : Rat) (h0 : T.call fn_engagement_mul [MV.agg [bN (ng R.num), MV.fs (nz R.num) none (cz R.num), bN (ng ((R.den : Nat) : Int)), MV.fs (nz ((R.den : Nat) : Int)) none (cz ((R.den : Nat) : Int))], MV.agg [bN (ng R.num), MV.fs (nz R.num) none (cz R.num), bN (ng ((R.den : Nat) : Int)), MV.fs (nz ((R.den : Nat) : Int)) none (cz ((R.den : Nat) : Int))]] = some (rM (R * R), [])) (h1 : T.call fn_engagement_mul [MV.agg [bN (ng d.num), MV.fs (nz d.num) none (cz d.num), bN (ng ((d.den : Nat) : Int)), MV.fs (nz ((d.den : Nat) : Int)) none (cz ((d.den : Nat) : Int))], MV.agg [bN (ng d.num), MV.fs (nz d.num) none (cz d.num), bN (ng ((d.den : Nat) : Int)), MV.fs (nz ((d.den : Nat) : Int)) none (cz ((d.den : Nat) : Int))]] = some (rM (d * d), [])) (h2 : T.call fn_engagement_sub [rM (R * R), rM (d * d)] = some (rM ((R * R) - (d * d)), [])) (h3 : T.call fn_engagement_mul [MV.agg [bN (ng t.num), MV.fs (nz t.num) none (cz t.num), bN (ng ((t.den : Nat) : Int)), MV.fs (nz ((t.den : Nat) : Int)) none (cz ((t.den : Nat) : Int))], MV.agg [bN (ng t.num), MV.fs (nz t.num) none (cz t.num), bN (ng ((t.den : Nat) : Int)), MV.fs (nz ((t.den : Nat) : Int)) none (cz ((t.den : Nat) : Int))]] = some (rM (t * t), [])) (h4 : T.call fn_engagement_sub [rM ((R * R) - (d * d)), rM (t * t)] = some (rM (((R * R) - (d * d)) - (t * t)), [])) (h5 : T.call fn_rational_FromInt64 [iN 2] = some (rM (qI 2), [])) (h6 : T.call fn_engagement_mul [MV.agg [bN (ng d.num), MV.fs (nz d.num) none (cz d.num), bN (ng ((d.den : Nat) : Int)), MV.fs (nz ((d.den : Nat) : Int)) none (cz ((d.den : Nat) : Int))], MV.agg [bN (ng t.num), MV.fs (nz t.num) none (cz t.num), bN (ng ((t.den : Nat) : Int)), MV.fs (nz ((t.den : Nat) : Int)) none (cz ((t.den : Nat) : Int))]] = some (rM (d * t), [])) (h7 : T.call fn_engagement_mul [rM (qI 2), rM (d * t)] = some (rM ((qI 2) * (d * t)), [])) (h8 : T.call fn_rational_Div [MV.agg [bN (ng (((((R * R) - (d * d)) - (t * t))).num)), MV.fs (nz (((((R * R) - (d * d)) - (t * t))).num)) none (cz (((((R * R) - (d * d)) - (t * t))).num)), bN (ng (((((R * R) - (d * d)) - (t * t)).den : Nat) : Int)), MV.fs (nz (((((R * R) - (d * d)) - (t * t)).den : Nat) : Int)) none (cz (((((R * R) - (d * d)) - (t * t)).den : Nat) : Int))], rM ((qI 2) * (d * t))] = some (MV.tup [rM ((((R * R) - (d * d)) - (t * t)) / ((qI 2) * (d * t))), iN 0], [])) : evalBody PG T FUEL (ioF fn_engagement_half) fn_engagement_half [rM R, rM t, rM d] = some (MV.agg [bN (ng ((((((R * R) - (d * d)) - (t * t)) / ((qI 2) * (d * t)))).num)), MV.fs (nz ((((((R * R) - (d * d)) - (t * t)) / ((qI 2) * (d * t)))).num)) none (cz ((((((R * R) - (d * d)) - (t * t)) / ((qI 2) * (d * t)))).num)), bN (ng ((((((R * R) - (d * d)) - (t * t)) / ((qI 2) * (d * t))).den : Nat) : Int)), MV.fs (nz ((((((R * R) - (d * d)) - (t * t)) / ((qI 2) * (d * t))).den : Nat) : Int)) none (cz ((((((R * R) - (d * d)) - (t * t)) / ((qI 2) * (d * t))).den : Nat) : Int))], []) :=
  xBody_io (hard := false) hio (orc := [.call (rM (R * R)) [], .call (rM (d * d)) [], .call (rM ((R * R) - (d * d))) [], .call (rM (t * t)) [], .call (rM (((R * R) - (d * d)) - (t * t))) [], .call (rM (qI 2)) [], .call (rM (d * t)) [], .call (rM ((qI 2) * (d * t))) [], .call (MV.tup [rM ((((R * R) - (d * d)) - (t * t)) / ((qI 2) * (d * t))), iN 0]) [], .auto]) (by kernel_rfl) (owc h0 (owc h1 (owc h2 (owc h3 (owc h4 (owc h5 (owc h6 (owc h7 (ow1 h8)))))))))

theorem p_engagement_allowed_0 {T : Tab} (hio : TO T) (r t s : Int) (q : Rat) (h0 : T.call fn_rational_FromInt64 [iN 1] = some (rM (qI 1), [])) (h1 : T.call fn_rational_FromInt64 [iN (IntKind.i64.wrap (r + t))] = some (rM (qI (IntKind.i64.wrap (r + t))), [])) (h2 : T.call fn_rational_FromInt64 [iN t] = some (rM (qI t), [])) (h3 : T.call fn_rational_FromInt64 [iN (IntKind.i64.wrap (r + s))] = some (rM (qI (IntKind.i64.wrap (r + s))), [])) (h4 : T.call fn_engagement_half [rM (qI (IntKind.i64.wrap (r + t))), rM (qI t), rM (qI (IntKind.i64.wrap (r + s)))] = some (rM (halfQ (qI (IntKind.i64.wrap (r + t))) (qI t) (qI (IntKind.i64.wrap (r + s)))), [])) (h5 : T.call fn_rational_Cmp [MV.agg [bN (ng (((halfQ (qI (IntKind.i64.wrap (r + t))) (qI t) (qI (IntKind.i64.wrap (r + s))))).num)), MV.fs (nz (((halfQ (qI (IntKind.i64.wrap (r + t))) (qI t) (qI (IntKind.i64.wrap (r + s))))).num)) none (cz (((halfQ (qI (IntKind.i64.wrap (r + t))) (qI t) (qI (IntKind.i64.wrap (r + s))))).num)), bN (ng (((halfQ (qI (IntKind.i64.wrap (r + t))) (qI t) (qI (IntKind.i64.wrap (r + s)))).den : Nat) : Int)), MV.fs (nz (((halfQ (qI (IntKind.i64.wrap (r + t))) (qI t) (qI (IntKind.i64.wrap (r + s)))).den : Nat) : Int)) none (cz (((halfQ (qI (IntKind.i64.wrap (r + t))) (qI t) (qI (IntKind.i64.wrap (r + s)))).den : Nat) : Int))], MV.agg [bN (ng (((qI 1)).num)), MV.fs (nz (((qI 1)).num)) none (cz (((qI 1)).num)), bN (ng (((qI 1).den : Nat) : Int)), MV.fs (nz (((qI 1).den : Nat) : Int)) none (cz (((qI 1).den : Nat) : Int))]] = some (iN (cmpQ (halfQ (qI (IntKind.i64.wrap (r + t))) (qI t) (qI (IntKind.i64.wrap (r + s)))) (qI 1)), [])) (h6 : (bN (decide ((cmpQ (halfQ (qI (IntKind.i64.wrap (r + t))) (qI t) (qI (IntKind.i64.wrap (r + s)))) (qI 1)) ≥ (0 : Int))) : MV) = .sc (.bool true)) : evalBody PG T FUEL (ioF fn_engagement_allowed) fn_engagement_allowed [iN r, iN t, iN s, rM q] = some (bN true, []) :=
  xBody_io (hard := false) hio (orc := [.call (rM (qI 1)) [], .call (rM (qI (IntKind.i64.wrap (r + t)))) [], .call (rM (qI t)) [], .call (rM (qI (IntKind.i64.wrap (r + s)))) [], .call (rM (halfQ (qI (IntKind.i64.wrap (r + t))) (qI t) (qI (IntKind.i64.wrap (r + s))))) [], .call (iN (cmpQ (halfQ (qI (IntKind.i64.wrap (r + t))) (qI t) (qI (IntKind.i64.wrap (r + s)))) (qI 1))) [], .br true]) (by kernel_rfl) (owc h0 (owc h1 (owc h2 (owc h3 (owc h4 (owc h5 (ow1 h6)))))))

theorem p_engagement_allowed_1 {T : Tab} (hio : TO T) (r t s : Int) (q : Rat) (h0 : T.call fn_rational_FromInt64 [iN 1] = some (rM (qI 1), [])) (h1 : T.call fn_rational_FromInt64 [iN (IntKind.i64.wrap (r + t))] = some (rM (qI (IntKind.i64.wrap (r + t))), [])) (h2 : T.call fn_rational_FromInt64 [iN t] = some (rM (qI t), [])) (h3 : T.call fn_rational_FromInt64 [iN (IntKind.i64.wrap (r + s))] = some (rM (qI (IntKind.i64.wrap (r + s))), [])) (h4 : T.call fn_engagement_half [rM (qI (IntKind.i64.wrap (r + t))), rM (qI t), rM (qI (IntKind.i64.wrap (r + s)))] = some (rM (halfQ (qI (IntKind.i64.wrap (r + t))) (qI t) (qI (IntKind.i64.wrap (r + s)))), [])) (h5 : T.call fn_rational_Cmp [MV.agg [bN (ng (((halfQ (qI (IntKind.i64.wrap (r + t))) (qI t) (qI (IntKind.i64.wrap (r + s))))).num)), MV.fs (nz (((halfQ (qI (IntKind.i64.wrap (r + t))) (qI t) (qI (IntKind.i64.wrap (r + s))))).num)) none (cz (((halfQ (qI (IntKind.i64.wrap (r + t))) (qI t) (qI (IntKind.i64.wrap (r + s))))).num)), bN (ng (((halfQ (qI (IntKind.i64.wrap (r + t))) (qI t) (qI (IntKind.i64.wrap (r + s)))).den : Nat) : Int)), MV.fs (nz (((halfQ (qI (IntKind.i64.wrap (r + t))) (qI t) (qI (IntKind.i64.wrap (r + s)))).den : Nat) : Int)) none (cz (((halfQ (qI (IntKind.i64.wrap (r + t))) (qI t) (qI (IntKind.i64.wrap (r + s)))).den : Nat) : Int))], MV.agg [bN (ng (((qI 1)).num)), MV.fs (nz (((qI 1)).num)) none (cz (((qI 1)).num)), bN (ng (((qI 1).den : Nat) : Int)), MV.fs (nz (((qI 1).den : Nat) : Int)) none (cz (((qI 1).den : Nat) : Int))]] = some (iN (cmpQ (halfQ (qI (IntKind.i64.wrap (r + t))) (qI t) (qI (IntKind.i64.wrap (r + s)))) (qI 1)), [])) (h6 : (bN (decide ((cmpQ (halfQ (qI (IntKind.i64.wrap (r + t))) (qI t) (qI (IntKind.i64.wrap (r + s)))) (qI 1)) ≥ (0 : Int))) : MV) = .sc (.bool false)) (h7 : T.call fn_engagement_mul [MV.agg [bN (ng (((halfQ (qI (IntKind.i64.wrap (r + t))) (qI t) (qI (IntKind.i64.wrap (r + s))))).num)), MV.fs (nz (((halfQ (qI (IntKind.i64.wrap (r + t))) (qI t) (qI (IntKind.i64.wrap (r + s))))).num)) none (cz (((halfQ (qI (IntKind.i64.wrap (r + t))) (qI t) (qI (IntKind.i64.wrap (r + s))))).num)), bN (ng (((halfQ (qI (IntKind.i64.wrap (r + t))) (qI t) (qI (IntKind.i64.wrap (r + s)))).den : Nat) : Int)), MV.fs (nz (((halfQ (qI (IntKind.i64.wrap (r + t))) (qI t) (qI (IntKind.i64.wrap (r + s)))).den : Nat) : Int)) none (cz (((halfQ (qI (IntKind.i64.wrap (r + t))) (qI t) (qI (IntKind.i64.wrap (r + s)))).den : Nat) : Int))], MV.agg [bN (ng (((halfQ (qI (IntKind.i64.wrap (r + t))) (qI t) (qI (IntKind.i64.wrap (r + s))))).num)), MV.fs (nz (((halfQ (qI (IntKind.i64.wrap (r + t))) (qI t) (qI (IntKind.i64.wrap (r + s))))).num)) none (cz (((halfQ (qI (IntKind.i64.wrap (r + t))) (qI t) (qI (IntKind.i64.wrap (r + s))))).num)), bN (ng (((halfQ (qI (IntKind.i64.wrap (r + t))) (qI t) (qI (IntKind.i64.wrap (r + s)))).den : Nat) : Int)), MV.fs (nz (((halfQ (qI (IntKind.i64.wrap (r + t))) (qI t) (qI (IntKind.i64.wrap (r + s)))).den : Nat) : Int)) none (cz (((halfQ (qI (IntKind.i64.wrap (r + t))) (qI t) (qI (IntKind.i64.wrap (r + s)))).den : Nat) : Int))]] = some (rM ((halfQ (qI (IntKind.i64.wrap (r + t))) (qI t) (qI (IntKind.i64.wrap (r + s)))) * (halfQ (qI (IntKind.i64.wrap (r + t))) (qI t) (qI (IntKind.i64.wrap (r + s))))), [])) (h8 : T.call fn_rational_Sign [MV.agg [bN (ng (((halfQ (qI (IntKind.i64.wrap (r + t))) (qI t) (qI (IntKind.i64.wrap (r + s))))).num)), MV.fs (nz (((halfQ (qI (IntKind.i64.wrap (r + t))) (qI t) (qI (IntKind.i64.wrap (r + s))))).num)) none (cz (((halfQ (qI (IntKind.i64.wrap (r + t))) (qI t) (qI (IntKind.i64.wrap (r + s))))).num)), bN (ng (((halfQ (qI (IntKind.i64.wrap (r + t))) (qI t) (qI (IntKind.i64.wrap (r + s)))).den : Nat) : Int)), MV.fs (nz (((halfQ (qI (IntKind.i64.wrap (r + t))) (qI t) (qI (IntKind.i64.wrap (r + s)))).den : Nat) : Int)) none (cz (((halfQ (qI (IntKind.i64.wrap (r + t))) (qI t) (qI (IntKind.i64.wrap (r + s)))).den : Nat) : Int))]] = some (iN (cmpI (halfQ (qI (IntKind.i64.wrap (r + t))) (qI t) (qI (IntKind.i64.wrap (r + s)))).num 0), [])) (h9 : (bN (decide ((cmpI (halfQ (qI (IntKind.i64.wrap (r + t))) (qI t) (qI (IntKind.i64.wrap (r + s)))).num 0) ≥ (0 : Int))) : MV) = .sc (.bool true)) (h10 : T.call fn_engagement_add [MV.agg [bN (ng ((((halfQ (qI (IntKind.i64.wrap (r + t))) (qI t) (qI (IntKind.i64.wrap (r + s)))) * (halfQ (qI (IntKind.i64.wrap (r + t))) (qI t) (qI (IntKind.i64.wrap (r + s)))))).num)), MV.fs (nz ((((halfQ (qI (IntKind.i64.wrap (r + t))) (qI t) (qI (IntKind.i64.wrap (r + s)))) * (halfQ (qI (IntKind.i64.wrap (r + t))) (qI t) (qI (IntKind.i64.wrap (r + s)))))).num)) none (cz ((((halfQ (qI (IntKind.i64.wrap (r + t))) (qI t) (qI (IntKind.i64.wrap (r + s)))) * (halfQ (qI (IntKind.i64.wrap (r + t))) (qI t) (qI (IntKind.i64.wrap (r + s)))))).num)), bN (ng ((((halfQ (qI (IntKind.i64.wrap (r + t))) (qI t) (qI (IntKind.i64.wrap (r + s)))) * (halfQ (qI (IntKind.i64.wrap (r + t))) (qI t) (qI (IntKind.i64.wrap (r + s))))).den : Nat) : Int)), MV.fs (nz ((((halfQ (qI (IntKind.i64.wrap (r + t))) (qI t) (qI (IntKind.i64.wrap (r + s)))) * (halfQ (qI (IntKind.i64.wrap (r + t))) (qI t) (qI (IntKind.i64.wrap (r + s))))).den : Nat) : Int)) none (cz ((((halfQ (qI (IntKind.i64.wrap (r + t))) (qI t) (qI (IntKind.i64.wrap (r + s)))) * (halfQ (qI (IntKind.i64.wrap (r + t))) (qI t) (qI (IntKind.i64.wrap (r + s))))).den : Nat) : Int))], MV.agg [bN (ng ((((halfQ (qI (IntKind.i64.wrap (r + t))) (qI t) (qI (IntKind.i64.wrap (r + s)))) * (halfQ (qI (IntKind.i64.wrap (r + t))) (qI t) (qI (IntKind.i64.wrap (r + s)))))).num)), MV.fs (nz ((((halfQ (qI (IntKind.i64.wrap (r + t))) (qI t) (qI (IntKind.i64.wrap (r + s)))) * (halfQ (qI (IntKind.i64.wrap (r + t))) (qI t) (qI (IntKind.i64.wrap (r + s)))))).num)) none (cz ((((halfQ (qI (IntKind.i64.wrap (r + t))) (qI t) (qI (IntKind.i64.wrap (r + s)))) * (halfQ (qI (IntKind.i64.wrap (r + t))) (qI t) (qI (IntKind.i64.wrap (r + s)))))).num)), bN (ng ((((halfQ (qI (IntKind.i64.wrap (r + t))) (qI t) (qI (IntKind.i64.wrap (r + s)))) * (halfQ (qI (IntKind.i64.wrap (r + t))) (qI t) (qI (IntKind.i64.wrap (r + s))))).den : Nat) : Int)), MV.fs (nz ((((halfQ (qI (IntKind.i64.wrap (r + t))) (qI t) (qI (IntKind.i64.wrap (r + s)))) * (halfQ (qI (IntKind.i64.wrap (r + t))) (qI t) (qI (IntKind.i64.wrap (r + s))))).den : Nat) : Int)) none (cz ((((halfQ (qI (IntKind.i64.wrap (r + t))) (qI t) (qI (IntKind.i64.wrap (r + s)))) * (halfQ (qI (IntKind.i64.wrap (r + t))) (qI t) (qI (IntKind.i64.wrap (r + s))))).den : Nat) : Int))]] = some (rM (((halfQ (qI (IntKind.i64.wrap (r + t))) (qI t) (qI (IntKind.i64.wrap (r + s)))) * (halfQ (qI (IntKind.i64.wrap (r + t))) (qI t) (qI (IntKind.i64.wrap (r + s))))) + ((halfQ (qI (IntKind.i64.wrap (r + t))) (qI t) (qI (IntKind.i64.wrap (r + s)))) * (halfQ (qI (IntKind.i64.wrap (r + t))) (qI t) (qI (IntKind.i64.wrap (r + s)))))), [])) (h11 : T.call fn_engagement_sub [rM (((halfQ (qI (IntKind.i64.wrap (r + t))) (qI t) (qI (IntKind.i64.wrap (r + s)))) * (halfQ (qI (IntKind.i64.wrap (r + t))) (qI t) (qI (IntKind.i64.wrap (r + s))))) + ((halfQ (qI (IntKind.i64.wrap (r + t))) (qI t) (qI (IntKind.i64.wrap (r + s)))) * (halfQ (qI (IntKind.i64.wrap (r + t))) (qI t) (qI (IntKind.i64.wrap (r + s)))))), MV.agg [bN (ng (((qI 1)).num)), MV.fs (nz (((qI 1)).num)) none (cz (((qI 1)).num)), bN (ng (((qI 1).den : Nat) : Int)), MV.fs (nz (((qI 1).den : Nat) : Int)) none (cz (((qI 1).den : Nat) : Int))]] = some (rM ((((halfQ (qI (IntKind.i64.wrap (r + t))) (qI t) (qI (IntKind.i64.wrap (r + s)))) * (halfQ (qI (IntKind.i64.wrap (r + t))) (qI t) (qI (IntKind.i64.wrap (r + s))))) + ((halfQ (qI (IntKind.i64.wrap (r + t))) (qI t) (qI (IntKind.i64.wrap (r + s)))) * (halfQ (qI (IntKind.i64.wrap (r + t))) (qI t) (qI (IntKind.i64.wrap (r + s)))))) - (qI 1)), [])) (h12 : T.call fn_rational_Cmp [rM ((((halfQ (qI (IntKind.i64.wrap (r + t))) (qI t) (qI (IntKind.i64.wrap (r + s)))) * (halfQ (qI (IntKind.i64.wrap (r + t))) (qI t) (qI (IntKind.i64.wrap (r + s))))) + ((halfQ (qI (IntKind.i64.wrap (r + t))) (qI t) (qI (IntKind.i64.wrap (r + s)))) * (halfQ (qI (IntKind.i64.wrap (r + t))) (qI t) (qI (IntKind.i64.wrap (r + s)))))) - (qI 1)), MV.agg [bN (ng q.num), MV.fs (nz q.num) none (cz q.num), bN (ng ((q.den : Nat) : Int)), MV.fs (nz ((q.den : Nat) : Int)) none (cz ((q.den : Nat) : Int))]] = some (iN (cmpQ ((((halfQ (qI (IntKind.i64.wrap (r + t))) (qI t) (qI (IntKind.i64.wrap (r + s)))) * (halfQ (qI (IntKind.i64.wrap (r + t))) (qI t) (qI (IntKind.i64.wrap (r + s))))) + ((halfQ (qI (IntKind.i64.wrap (r + t))) (qI t) (qI (IntKind.i64.wrap (r + s)))) * (halfQ (qI (IntKind.i64.wrap (r + t))) (qI t) (qI (IntKind.i64.wrap (r + s)))))) - (qI 1)) q), [])) : evalBody PG T FUEL (ioF fn_engagement_allowed) fn_engagement_allowed [iN r, iN t, iN s, rM q] = some (bN (decide ((cmpQ ((((halfQ (qI (IntKind.i64.wrap (r + t))) (qI t) (qI (IntKind.i64.wrap (r + s)))) * (halfQ (qI (IntKind.i64.wrap (r + t))) (qI t) (qI (IntKind.i64.wrap (r + s))))) + ((halfQ (qI (IntKind.i64.wrap (r + t))) (qI t) (qI (IntKind.i64.wrap (r + s)))) * (halfQ (qI (IntKind.i64.wrap (r + t))) (qI t) (qI (IntKind.i64.wrap (r + s)))))) - (qI 1)) q) ≥ (0 : Int))), []) :=
  xBody_io (hard := false) hio (orc := [.call (rM (qI 1)) [], .call (rM (qI (IntKind.i64.wrap (r + t)))) [], .call (rM (qI t)) [], .call (rM (qI (IntKind.i64.wrap (r + s)))) [], .call (rM (halfQ (qI (IntKind.i64.wrap (r + t))) (qI t) (qI (IntKind.i64.wrap (r + s))))) [], .call (iN (cmpQ (halfQ (qI (IntKind.i64.wrap (r + t))) (qI t) (qI (IntKind.i64.wrap (r + s)))) (qI 1))) [], .br false, .call (rM ((halfQ (qI (IntKind.i64.wrap (r + t))) (qI t) (qI (IntKind.i64.wrap (r + s)))) * (halfQ (qI (IntKind.i64.wrap (r + t))) (qI t) (qI (IntKind.i64.wrap (r + s)))))) [], .call (iN (cmpI (halfQ (qI (IntKind.i64.wrap (r + t))) (qI t) (qI (IntKind.i64.wrap (r + s)))).num 0)) [], .br true, .call (rM (((halfQ (qI (IntKind.i64.wrap (r + t))) (qI t) (qI (IntKind.i64.wrap (r + s)))) * (halfQ (qI (IntKind.i64.wrap (r + t))) (qI t) (qI (IntKind.i64.wrap (r + s))))) + ((halfQ (qI (IntKind.i64.wrap (r + t))) (qI t) (qI (IntKind.i64.wrap (r + s)))) * (halfQ (qI (IntKind.i64.wrap (r + t))) (qI t) (qI (IntKind.i64.wrap (r + s))))))) [], .call (rM ((((halfQ (qI (IntKind.i64.wrap (r + t))) (qI t) (qI (IntKind.i64.wrap (r + s)))) * (halfQ (qI (IntKind.i64.wrap (r + t))) (qI t) (qI (IntKind.i64.wrap (r + s))))) + ((halfQ (qI (IntKind.i64.wrap (r + t))) (qI t) (qI (IntKind.i64.wrap (r + s)))) * (halfQ (qI (IntKind.i64.wrap (r + t))) (qI t) (qI (IntKind.i64.wrap (r + s)))))) - (qI 1))) [], .call (iN (cmpQ ((((halfQ (qI (IntKind.i64.wrap (r + t))) (qI t) (qI (IntKind.i64.wrap (r + s)))) * (halfQ (qI (IntKind.i64.wrap (r + t))) (qI t) (qI (IntKind.i64.wrap (r + s))))) + ((halfQ (qI (IntKind.i64.wrap (r + t))) (qI t) (qI (IntKind.i64.wrap (r + s)))) * (halfQ (qI (IntKind.i64.wrap (r + t))) (qI t) (qI (IntKind.i64.wrap (r + s)))))) - (qI 1)) q)) []]) (by kernel_rfl) (owc h0 (owc h1 (owc h2 (owc h3 (owc h4 (owc h5 (owc h6 (owc h7 (owc h8 (owc h9 (owc h10 (owc h11 (ow1 h12)))))))))))))

theorem p_engagement_allowed_2 {T : Tab} (hio : TO T) (r t s : Int) (q : Rat) (h0 : T.call fn_rational_FromInt64 [iN 1] = some (rM (qI 1), [])) (h1 : T.call fn_rational_FromInt64 [iN (IntKind.i64.wrap (r + t))] = some (rM (qI (IntKind.i64.wrap (r + t))), [])) (h2 : T.call fn_rational_FromInt64 [iN t] = some (rM (qI t), [])) (h3 : T.call fn_rational_FromInt64 [iN (IntKind.i64.wrap (r + s))] = some (rM (qI (IntKind.i64.wrap (r + s))), [])) (h4 : T.call fn_engagement_half [rM (qI (IntKind.i64.wrap (r + t))), rM (qI t), rM (qI (IntKind.i64.wrap (r + s)))] = some (rM (halfQ (qI (IntKind.i64.wrap (r + t))) (qI t) (qI (IntKind.i64.wrap (r + s)))), [])) (h5 : T.call fn_rational_Cmp [MV.agg [bN (ng (((halfQ (qI (IntKind.i64.wrap (r + t))) (qI t) (qI (IntKind.i64.wrap (r + s))))).num)), MV.fs (nz (((halfQ (qI (IntKind.i64.wrap (r + t))) (qI t) (qI (IntKind.i64.wrap (r + s))))).num)) none (cz (((halfQ (qI (IntKind.i64.wrap (r + t))) (qI t) (qI (IntKind.i64.wrap (r + s))))).num)), bN (ng (((halfQ (qI (IntKind.i64.wrap (r + t))) (qI t) (qI (IntKind.i64.wrap (r + s)))).den : Nat) : Int)), MV.fs (nz (((halfQ (qI (IntKind.i64.wrap (r + t))) (qI t) (qI (IntKind.i64.wrap (r + s)))).den : Nat) : Int)) none (cz (((halfQ (qI (IntKind.i64.wrap (r + t))) (qI t) (qI (IntKind.i64.wrap (r + s)))).den : Nat) : Int))], MV.agg [bN (ng (((qI 1)).num)), MV.fs (nz (((qI 1)).num)) none (cz (((qI 1)).num)), bN (ng (((qI 1).den : Nat) : Int)), MV.fs (nz (((qI 1).den : Nat) : Int)) none (cz (((qI 1).den : Nat) : Int))]] = some (iN (cmpQ (halfQ (qI (IntKind.i64.wrap (r + t))) (qI t) (qI (IntKind.i64.wrap (r + s)))) (qI 1)), [])) (h6 : (bN (decide ((cmpQ (halfQ (qI (IntKind.i64.wrap (r + t))) (qI t) (qI (IntKind.i64.wrap (r + s)))) (qI 1)) ≥ (0 : Int))) : MV) = .sc (.bool false)) (h7 : T.call fn_engagement_mul [MV.agg [bN (ng (((halfQ (qI (IntKind.i64.wrap (r + t))) (qI t) (qI (IntKind.i64.wrap (r + s))))).num)), MV.fs (nz (((halfQ (qI (IntKind.i64.wrap (r + t))) (qI t) (qI (IntKind.i64.wrap (r + s))))).num)) none (cz (((halfQ (qI (IntKind.i64.wrap (r + t))) (qI t) (qI (IntKind.i64.wrap (r + s))))).num)), bN (ng (((halfQ (qI (IntKind.i64.wrap (r + t))) (qI t) (qI (IntKind.i64.wrap (r + s)))).den : Nat) : Int)), MV.fs (nz (((halfQ (qI (IntKind.i64.wrap (r + t))) (qI t) (qI (IntKind.i64.wrap (r + s)))).den : Nat) : Int)) none (cz (((halfQ (qI (IntKind.i64.wrap (r + t))) (qI t) (qI (IntKind.i64.wrap (r + s)))).den : Nat) : Int))], MV.agg [bN (ng (((halfQ (qI (IntKind.i64.wrap (r + t))) (qI t) (qI (IntKind.i64.wrap (r + s))))).num)), MV.fs (nz (((halfQ (qI (IntKind.i64.wrap (r + t))) (qI t) (qI (IntKind.i64.wrap (r + s))))).num)) none (cz (((halfQ (qI (IntKind.i64.wrap (r + t))) (qI t) (qI (IntKind.i64.wrap (r + s))))).num)), bN (ng (((halfQ (qI (IntKind.i64.wrap (r + t))) (qI t) (qI (IntKind.i64.wrap (r + s)))).den : Nat) : Int)), MV.fs (nz (((halfQ (qI (IntKind.i64.wrap (r + t))) (qI t) (qI (IntKind.i64.wrap (r + s)))).den : Nat) : Int)) none (cz (((halfQ (qI (IntKind.i64.wrap (r + t))) (qI t) (qI (IntKind.i64.wrap (r + s)))).den : Nat) : Int))]] = some (rM ((halfQ (qI (IntKind.i64.wrap (r + t))) (qI t) (qI (IntKind.i64.wrap (r + s)))) * (halfQ (qI (IntKind.i64.wrap (r + t))) (qI t) (qI (IntKind.i64.wrap (r + s))))), [])) (h8 : T.call fn_rational_Sign [MV.agg [bN (ng (((halfQ (qI (IntKind.i64.wrap (r + t))) (qI t) (qI (IntKind.i64.wrap (r + s))))).num)), MV.fs (nz (((halfQ (qI (IntKind.i64.wrap (r + t))) (qI t) (qI (IntKind.i64.wrap (r + s))))).num)) none (cz (((halfQ (qI (IntKind.i64.wrap (r + t))) (qI t) (qI (IntKind.i64.wrap (r + s))))).num)), bN (ng (((halfQ (qI (IntKind.i64.wrap (r + t))) (qI t) (qI (IntKind.i64.wrap (r + s)))).den : Nat) : Int)), MV.fs (nz (((halfQ (qI (IntKind.i64.wrap (r + t))) (qI t) (qI (IntKind.i64.wrap (r + s)))).den : Nat) : Int)) none (cz (((halfQ (qI (IntKind.i64.wrap (r + t))) (qI t) (qI (IntKind.i64.wrap (r + s)))).den : Nat) : Int))]] = some (iN (cmpI (halfQ (qI (IntKind.i64.wrap (r + t))) (qI t) (qI (IntKind.i64.wrap (r + s)))).num 0), [])) (h9 : (bN (decide ((cmpI (halfQ (qI (IntKind.i64.wrap (r + t))) (qI t) (qI (IntKind.i64.wrap (r + s)))).num 0) ≥ (0 : Int))) : MV) = .sc (.bool false)) : evalBody PG T FUEL (ioF fn_engagement_allowed) fn_engagement_allowed [iN r, iN t, iN s, rM q] = some (bN false, []) :=
  xBody_io (hard := false) hio (orc := [.call (rM (qI 1)) [], .call (rM (qI (IntKind.i64.wrap (r + t)))) [], .call (rM (qI t)) [], .call (rM (qI (IntKind.i64.wrap (r + s)))) [], .call (rM (halfQ (qI (IntKind.i64.wrap (r + t))) (qI t) (qI (IntKind.i64.wrap (r + s))))) [], .call (iN (cmpQ (halfQ (qI (IntKind.i64.wrap (r + t))) (qI t) (qI (IntKind.i64.wrap (r + s)))) (qI 1))) [], .br false, .call (rM ((halfQ (qI (IntKind.i64.wrap (r + t))) (qI t) (qI (IntKind.i64.wrap (r + s)))) * (halfQ (qI (IntKind.i64.wrap (r + t))) (qI t) (qI (IntKind.i64.wrap (r + s)))))) [], .call (iN (cmpI (halfQ (qI (IntKind.i64.wrap (r + t))) (qI t) (qI (IntKind.i64.wrap (r + s)))).num 0)) [], .br false]) (by kernel_rfl) (owc h0 (owc h1 (owc h2 (owc h3 (owc h4 (owc h5 (owc h6 (owc h7 (owc h8 (ow1 h9))))))))))

theorem p_engagement_Step_1_0 {T : Tab} (hio : TO T) (i r t : Int) (q : Rat) (h0 : T.call fn_engagement_allowed [iN r, iN t, iN (IntKind.i64.wrap (i + (1 : Int))), MV.agg [bN (ng q.num), MV.fs (nz q.num) none (cz q.num), bN (ng ((q.den : Nat) : Int)), MV.fs (nz ((q.den : Nat) : Int)) none (cz ((q.den : Nat) : Int))]] = some (bN (alB r t (IntKind.i64.wrap (i + (1 : Int))) q), [])) : evalBody PG T FUEL (ioF fn_engagement_Step_1) fn_engagement_Step_1 [iN i, MV.cp [iN r], MV.cp [iN t], MV.cp [bN (ng q.num), MV.fs (nz q.num) none (cz q.num), bN (ng ((q.den : Nat) : Int)), MV.fs (nz ((q.den : Nat) : Int)) none (cz ((q.den : Nat) : Int))]] = some (bN (!(alB r t (IntKind.i64.wrap (i + (1 : Int))) q)), []) :=
  xBody_io (hard := false) hio (orc := [.auto, .auto, .auto, .call (bN (alB r t (IntKind.i64.wrap (i + (1 : Int))) q)) []]) (by kernel_rfl) (ow1 h0)

theorem p_engagement_Step_5 {T : Tab} (hio : TO T) (r t sr : Int) (q : Rat) (h0 : (bN (decide (r < (1 : Int))) : MV) = .sc (.bool false)) (h1 : (bN (decide (r > (10000000 : Int))) : MV) = .sc (.bool false)) (h2 : (bN (decide (t < (1 : Int))) : MV) = .sc (.bool false)) (h3 : (bN (decide (t > (10000000 : Int))) : MV) = .sc (.bool false)) (h4 : T.call fn_engagement_cosine [MV.agg [bN (ng q.num), MV.fs (nz q.num) none (cz q.num), bN (ng ((q.den : Nat) : Int)), MV.fs (nz ((q.den : Nat) : Int)) none (cz ((q.den : Nat) : Int))]] = some (bN (cosB q), [])) (h5 : (bN (!(cosB q)) : MV) = .sc (.bool false)) (h6 : T.call fn_sort_Search [iN (IntKind.i64.wrap (t + (1 : Int))), MV.fn fn_engagement_Step_1 [MV.cp [iN r], MV.cp [iN t], MV.cp [bN (ng q.num), MV.fs (nz q.num) none (cz q.num), bN (ng ((q.den : Nat) : Int)), MV.fs (nz ((q.den : Nat) : Int)) none (cz ((q.den : Nat) : Int))]]] = some (iN sr, [])) : evalBody PG T FUEL (ioF fn_engagement_Step) fn_engagement_Step [iN r, iN t, rM q] = some (MV.tup [iN sr, iN 0], []) :=
  xBody_io (hard := false) hio (orc := [.br false, .br false, .br false, .br false, .call (bN (cosB q)) [], .br false, .call (iN sr) []]) (by kernel_rfl) (owc h0 (owc h1 (owc h2 (owc h3 (owc h4 (owc h5 (ow1 h6)))))))

theorem p_trochoid_bounded_0 {T : Tab} (hio : TO T) (r t s sm se : Int) (q : Rat) (h0 : T.call fn_engagement_Step [iN r, iN t, MV.agg [bN (ng q.num), MV.fs (nz q.num) none (cz q.num), bN (ng ((q.den : Nat) : Int)), MV.fs (nz ((q.den : Nat) : Int)) none (cz ((q.den : Nat) : Int))]] = some (MV.tup [iN sm, iN se], [])) (h1 : (bN (se == (0 : Int)) : MV) = .sc (.bool true)) : evalBody PG T FUEL (ioF fn_trochoid_bounded) fn_trochoid_bounded [iN s, iN r, iN t, rM q] = some (bN (decide (s ≤ sm)), []) :=
  xBody_io (hard := false) hio (orc := [.call (MV.tup [iN sm, iN se]) [], .br true]) (by kernel_rfl) (owc h0 (ow1 h1))

theorem p_ref34_Cosine_0 {T : Tab} (hio : TO T) (r t s : Int) (h0 : T.call fn_ref34_num [iN (IntKind.i64.wrap (r + t))] = some (rM (qI (IntKind.i64.wrap (r + t))), [])) (h1 : T.call fn_ref02_Square [rM (qI (IntKind.i64.wrap (r + t)))] = some (rM ((qI (IntKind.i64.wrap (r + t))) * (qI (IntKind.i64.wrap (r + t)))), [])) (h2 : T.call fn_ref34_num [iN (IntKind.i64.wrap (r + s))] = some (rM (qI (IntKind.i64.wrap (r + s))), [])) (h3 : T.call fn_ref02_Square [MV.agg [bN (ng (((qI (IntKind.i64.wrap (r + s)))).num)), MV.fs (nz (((qI (IntKind.i64.wrap (r + s)))).num)) none (cz (((qI (IntKind.i64.wrap (r + s)))).num)), bN (ng (((qI (IntKind.i64.wrap (r + s))).den : Nat) : Int)), MV.fs (nz (((qI (IntKind.i64.wrap (r + s))).den : Nat) : Int)) none (cz (((qI (IntKind.i64.wrap (r + s))).den : Nat) : Int))]] = some (rM ((qI (IntKind.i64.wrap (r + s))) * (qI (IntKind.i64.wrap (r + s)))), [])) (h4 : T.call fn_ref02_Sub [MV.agg [bN (ng ((((qI (IntKind.i64.wrap (r + t))) * (qI (IntKind.i64.wrap (r + t))))).num)), MV.fs (nz ((((qI (IntKind.i64.wrap (r + t))) * (qI (IntKind.i64.wrap (r + t))))).num)) none (cz ((((qI (IntKind.i64.wrap (r + t))) * (qI (IntKind.i64.wrap (r + t))))).num)), bN (ng ((((qI (IntKind.i64.wrap (r + t))) * (qI (IntKind.i64.wrap (r + t)))).den : Nat) : Int)), MV.fs (nz ((((qI (IntKind.i64.wrap (r + t))) * (qI (IntKind.i64.wrap (r + t)))).den : Nat) : Int)) none (cz ((((qI (IntKind.i64.wrap (r + t))) * (qI (IntKind.i64.wrap (r + t)))).den : Nat) : Int))], rM ((qI (IntKind.i64.wrap (r + s))) * (qI (IntKind.i64.wrap (r + s))))] = some (rM (((qI (IntKind.i64.wrap (r + t))) * (qI (IntKind.i64.wrap (r + t)))) - ((qI (IntKind.i64.wrap (r + s))) * (qI (IntKind.i64.wrap (r + s))))), [])) (h5 : T.call fn_ref34_num [iN t] = some (rM (qI t), [])) (h6 : T.call fn_ref02_Square [rM (qI t)] = some (rM ((qI t) * (qI t)), [])) (h7 : T.call fn_ref02_Sub [rM (((qI (IntKind.i64.wrap (r + t))) * (qI (IntKind.i64.wrap (r + t)))) - ((qI (IntKind.i64.wrap (r + s))) * (qI (IntKind.i64.wrap (r + s))))), rM ((qI t) * (qI t))] = some (rM ((((qI (IntKind.i64.wrap (r + t))) * (qI (IntKind.i64.wrap (r + t)))) - ((qI (IntKind.i64.wrap (r + s))) * (qI (IntKind.i64.wrap (r + s))))) - ((qI t) * (qI t))), [])) (h8 : T.call fn_ref34_num [iN 2] = some (rM (qI 2), [])) (h9 : T.call fn_ref02_Mul [rM (qI 2), MV.agg [bN (ng (((qI (IntKind.i64.wrap (r + s)))).num)), MV.fs (nz (((qI (IntKind.i64.wrap (r + s)))).num)) none (cz (((qI (IntKind.i64.wrap (r + s)))).num)), bN (ng (((qI (IntKind.i64.wrap (r + s))).den : Nat) : Int)), MV.fs (nz (((qI (IntKind.i64.wrap (r + s))).den : Nat) : Int)) none (cz (((qI (IntKind.i64.wrap (r + s))).den : Nat) : Int))]] = some (rM ((qI 2) * (qI (IntKind.i64.wrap (r + s)))), [])) (h10 : T.call fn_ref34_num [iN t] = some (rM (qI t), [])) (h11 : T.call fn_ref02_Mul [rM ((qI 2) * (qI (IntKind.i64.wrap (r + s)))), rM (qI t)] = some (rM (((qI 2) * (qI (IntKind.i64.wrap (r + s)))) * (qI t)), [])) (h12 : T.call fn_ref02_Over [MV.agg [bN (ng ((((((qI (IntKind.i64.wrap (r + t))) * (qI (IntKind.i64.wrap (r + t)))) - ((qI (IntKind.i64.wrap (r + s))) * (qI (IntKind.i64.wrap (r + s))))) - ((qI t) * (qI t)))).num)), MV.fs (nz ((((((qI (IntKind.i64.wrap (r + t))) * (qI (IntKind.i64.wrap (r + t)))) - ((qI (IntKind.i64.wrap (r + s))) * (qI (IntKind.i64.wrap (r + s))))) - ((qI t) * (qI t)))).num)) none (cz ((((((qI (IntKind.i64.wrap (r + t))) * (qI (IntKind.i64.wrap (r + t)))) - ((qI (IntKind.i64.wrap (r + s))) * (qI (IntKind.i64.wrap (r + s))))) - ((qI t) * (qI t)))).num)), bN (ng ((((((qI (IntKind.i64.wrap (r + t))) * (qI (IntKind.i64.wrap (r + t)))) - ((qI (IntKind.i64.wrap (r + s))) * (qI (IntKind.i64.wrap (r + s))))) - ((qI t) * (qI t))).den : Nat) : Int)), MV.fs (nz ((((((qI (IntKind.i64.wrap (r + t))) * (qI (IntKind.i64.wrap (r + t)))) - ((qI (IntKind.i64.wrap (r + s))) * (qI (IntKind.i64.wrap (r + s))))) - ((qI t) * (qI t))).den : Nat) : Int)) none (cz ((((((qI (IntKind.i64.wrap (r + t))) * (qI (IntKind.i64.wrap (r + t)))) - ((qI (IntKind.i64.wrap (r + s))) * (qI (IntKind.i64.wrap (r + s))))) - ((qI t) * (qI t))).den : Nat) : Int))], rM (((qI 2) * (qI (IntKind.i64.wrap (r + s)))) * (qI t))] = some (rM (((((qI (IntKind.i64.wrap (r + t))) * (qI (IntKind.i64.wrap (r + t)))) - ((qI (IntKind.i64.wrap (r + s))) * (qI (IntKind.i64.wrap (r + s))))) - ((qI t) * (qI t))) / (((qI 2) * (qI (IntKind.i64.wrap (r + s)))) * (qI t))), [])) : evalBody PG T FUEL (ioF fn_ref34_Cosine) fn_ref34_Cosine [iN r, iN t, iN s] = some (MV.agg [bN (ng (((((((qI (IntKind.i64.wrap (r + t))) * (qI (IntKind.i64.wrap (r + t)))) - ((qI (IntKind.i64.wrap (r + s))) * (qI (IntKind.i64.wrap (r + s))))) - ((qI t) * (qI t))) / (((qI 2) * (qI (IntKind.i64.wrap (r + s)))) * (qI t)))).num)), MV.fs (nz (((((((qI (IntKind.i64.wrap (r + t))) * (qI (IntKind.i64.wrap (r + t)))) - ((qI (IntKind.i64.wrap (r + s))) * (qI (IntKind.i64.wrap (r + s))))) - ((qI t) * (qI t))) / (((qI 2) * (qI (IntKind.i64.wrap (r + s)))) * (qI t)))).num)) none (cz (((((((qI (IntKind.i64.wrap (r + t))) * (qI (IntKind.i64.wrap (r + t)))) - ((qI (IntKind.i64.wrap (r + s))) * (qI (IntKind.i64.wrap (r + s))))) - ((qI t) * (qI t))) / (((qI 2) * (qI (IntKind.i64.wrap (r + s)))) * (qI t)))).num)), bN (ng (((((((qI (IntKind.i64.wrap (r + t))) * (qI (IntKind.i64.wrap (r + t)))) - ((qI (IntKind.i64.wrap (r + s))) * (qI (IntKind.i64.wrap (r + s))))) - ((qI t) * (qI t))) / (((qI 2) * (qI (IntKind.i64.wrap (r + s)))) * (qI t))).den : Nat) : Int)), MV.fs (nz (((((((qI (IntKind.i64.wrap (r + t))) * (qI (IntKind.i64.wrap (r + t)))) - ((qI (IntKind.i64.wrap (r + s))) * (qI (IntKind.i64.wrap (r + s))))) - ((qI t) * (qI t))) / (((qI 2) * (qI (IntKind.i64.wrap (r + s)))) * (qI t))).den : Nat) : Int)) none (cz (((((((qI (IntKind.i64.wrap (r + t))) * (qI (IntKind.i64.wrap (r + t)))) - ((qI (IntKind.i64.wrap (r + s))) * (qI (IntKind.i64.wrap (r + s))))) - ((qI t) * (qI t))) / (((qI 2) * (qI (IntKind.i64.wrap (r + s)))) * (qI t))).den : Nat) : Int))], []) :=
  xBody_io (hard := false) hio (orc := [.call (rM (qI (IntKind.i64.wrap (r + t)))) [], .call (rM ((qI (IntKind.i64.wrap (r + t))) * (qI (IntKind.i64.wrap (r + t))))) [], .call (rM (qI (IntKind.i64.wrap (r + s)))) [], .call (rM ((qI (IntKind.i64.wrap (r + s))) * (qI (IntKind.i64.wrap (r + s))))) [], .call (rM (((qI (IntKind.i64.wrap (r + t))) * (qI (IntKind.i64.wrap (r + t)))) - ((qI (IntKind.i64.wrap (r + s))) * (qI (IntKind.i64.wrap (r + s)))))) [], .call (rM (qI t)) [], .call (rM ((qI t) * (qI t))) [], .call (rM ((((qI (IntKind.i64.wrap (r + t))) * (qI (IntKind.i64.wrap (r + t)))) - ((qI (IntKind.i64.wrap (r + s))) * (qI (IntKind.i64.wrap (r + s))))) - ((qI t) * (qI t)))) [], .call (rM (qI 2)) [], .call (rM ((qI 2) * (qI (IntKind.i64.wrap (r + s))))) [], .call (rM (qI t)) [], .call (rM (((qI 2) * (qI (IntKind.i64.wrap (r + s)))) * (qI t))) [], .call (rM (((((qI (IntKind.i64.wrap (r + t))) * (qI (IntKind.i64.wrap (r + t)))) - ((qI (IntKind.i64.wrap (r + s))) * (qI (IntKind.i64.wrap (r + s))))) - ((qI t) * (qI t))) / (((qI 2) * (qI (IntKind.i64.wrap (r + s)))) * (qI t)))) []]) (by kernel_rfl) (owc h0 (owc h1 (owc h2 (owc h3 (owc h4 (owc h5 (owc h6 (owc h7 (owc h8 (owc h9 (owc h10 (owc h11 (ow1 h12)))))))))))))

theorem p_ref34_Pair_0 {T : Tab} (hio : TO T) (r t s : Int) (q : Rat) (h0 : T.call fn_ref34_Cosine [iN r, iN t, iN s] = some (rM (cosQ r t s), [])) (h1 : T.call fn_ref34_num [iN 2] = some (rM (qI 2), [])) (h2 : T.call fn_ref02_Square [MV.agg [bN (ng (((cosQ r t s)).num)), MV.fs (nz (((cosQ r t s)).num)) none (cz (((cosQ r t s)).num)), bN (ng (((cosQ r t s).den : Nat) : Int)), MV.fs (nz (((cosQ r t s).den : Nat) : Int)) none (cz (((cosQ r t s).den : Nat) : Int))]] = some (rM ((cosQ r t s) * (cosQ r t s)), [])) (h3 : T.call fn_ref02_Mul [rM (qI 2), rM ((cosQ r t s) * (cosQ r t s))] = some (rM ((qI 2) * ((cosQ r t s) * (cosQ r t s))), [])) (h4 : T.call fn_ref34_num [iN 1] = some (rM (qI 1), [])) (h5 : T.call fn_ref02_Sub [rM ((qI 2) * ((cosQ r t s) * (cosQ r t s))), rM (qI 1)] = some (rM (((qI 2) * ((cosQ r t s) * (cosQ r t s))) - (qI 1)), [])) (h6 : T.call fn_ref02_Sign [MV.agg [bN (ng (((cosQ r t s)).num)), MV.fs (nz (((cosQ r t s)).num)) none (cz (((cosQ r t s)).num)), bN (ng (((cosQ r t s).den : Nat) : Int)), MV.fs (nz (((cosQ r t s).den : Nat) : Int)) none (cz (((cosQ r t s).den : Nat) : Int))]] = some (iN (cmpI (cosQ r t s).num 0), [])) (h7 : (bN (decide ((cmpI (cosQ r t s).num 0) ≥ (0 : Int))) : MV) = .sc (.bool true)) (h8 : T.call fn_ref02_Cmp [MV.agg [bN (ng (((((qI 2) * ((cosQ r t s) * (cosQ r t s))) - (qI 1))).num)), MV.fs (nz (((((qI 2) * ((cosQ r t s) * (cosQ r t s))) - (qI 1))).num)) none (cz (((((qI 2) * ((cosQ r t s) * (cosQ r t s))) - (qI 1))).num)), bN (ng (((((qI 2) * ((cosQ r t s) * (cosQ r t s))) - (qI 1)).den : Nat) : Int)), MV.fs (nz (((((qI 2) * ((cosQ r t s) * (cosQ r t s))) - (qI 1)).den : Nat) : Int)) none (cz (((((qI 2) * ((cosQ r t s) * (cosQ r t s))) - (qI 1)).den : Nat) : Int))], MV.agg [bN (ng q.num), MV.fs (nz q.num) none (cz q.num), bN (ng ((q.den : Nat) : Int)), MV.fs (nz ((q.den : Nat) : Int)) none (cz ((q.den : Nat) : Int))]] = some (iN (cmpQ (((qI 2) * ((cosQ r t s) * (cosQ r t s))) - (qI 1)) q), [])) : evalBody PG T FUEL (ioF fn_ref34_Pair) fn_ref34_Pair [iN r, iN t, iN s, rM q] = some (bN (decide ((cmpQ (((qI 2) * ((cosQ r t s) * (cosQ r t s))) - (qI 1)) q) ≥ (0 : Int))), []) :=
  xBody_io (hard := false) hio (orc := [.call (rM (cosQ r t s)) [], .call (rM (qI 2)) [], .call (rM ((cosQ r t s) * (cosQ r t s))) [], .call (rM ((qI 2) * ((cosQ r t s) * (cosQ r t s)))) [], .call (rM (qI 1)) [], .call (rM (((qI 2) * ((cosQ r t s) * (cosQ r t s))) - (qI 1))) [], .call (iN (cmpI (cosQ r t s).num 0)) [], .br true, .call (iN (cmpQ (((qI 2) * ((cosQ r t s) * (cosQ r t s))) - (qI 1)) q)) []]) (by kernel_rfl) (owc h0 (owc h1 (owc h2 (owc h3 (owc h4 (owc h5 (owc h6 (owc h7 (ow1 h8)))))))))

theorem p_ref34_Pair_1 {T : Tab} (hio : TO T) (r t s : Int) (q : Rat) (h0 : T.call fn_ref34_Cosine [iN r, iN t, iN s] = some (rM (cosQ r t s), [])) (h1 : T.call fn_ref34_num [iN 2] = some (rM (qI 2), [])) (h2 : T.call fn_ref02_Square [MV.agg [bN (ng (((cosQ r t s)).num)), MV.fs (nz (((cosQ r t s)).num)) none (cz (((cosQ r t s)).num)), bN (ng (((cosQ r t s).den : Nat) : Int)), MV.fs (nz (((cosQ r t s).den : Nat) : Int)) none (cz (((cosQ r t s).den : Nat) : Int))]] = some (rM ((cosQ r t s) * (cosQ r t s)), [])) (h3 : T.call fn_ref02_Mul [rM (qI 2), rM ((cosQ r t s) * (cosQ r t s))] = some (rM ((qI 2) * ((cosQ r t s) * (cosQ r t s))), [])) (h4 : T.call fn_ref34_num [iN 1] = some (rM (qI 1), [])) (h5 : T.call fn_ref02_Sub [rM ((qI 2) * ((cosQ r t s) * (cosQ r t s))), rM (qI 1)] = some (rM (((qI 2) * ((cosQ r t s) * (cosQ r t s))) - (qI 1)), [])) (h6 : T.call fn_ref02_Sign [MV.agg [bN (ng (((cosQ r t s)).num)), MV.fs (nz (((cosQ r t s)).num)) none (cz (((cosQ r t s)).num)), bN (ng (((cosQ r t s).den : Nat) : Int)), MV.fs (nz (((cosQ r t s).den : Nat) : Int)) none (cz (((cosQ r t s).den : Nat) : Int))]] = some (iN (cmpI (cosQ r t s).num 0), [])) (h7 : (bN (decide ((cmpI (cosQ r t s).num 0) ≥ (0 : Int))) : MV) = .sc (.bool false)) : evalBody PG T FUEL (ioF fn_ref34_Pair) fn_ref34_Pair [iN r, iN t, iN s, rM q] = some (bN false, []) :=
  xBody_io (hard := false) hio (orc := [.call (rM (cosQ r t s)) [], .call (rM (qI 2)) [], .call (rM ((cosQ r t s) * (cosQ r t s))) [], .call (rM ((qI 2) * ((cosQ r t s) * (cosQ r t s)))) [], .call (rM (qI 1)) [], .call (rM (((qI 2) * ((cosQ r t s) * (cosQ r t s))) - (qI 1))) [], .call (iN (cmpI (cosQ r t s).num 0)) [], .br false]) (by kernel_rfl) (owc h0 (owc h1 (owc h2 (owc h3 (owc h4 (owc h5 (owc h6 (ow1 h7))))))))

end Go.Proofs.YtkeelkeoijemiaaGreat.Ev

namespace Go.Proofs.YtkeelkeoijemiaaGreat.Ev
open Go
set_option linter.unusedVariables false
set_option linter.unusedSimpArgs false
set_option maxRecDepth 100000

def L_sort_Search_0 (n r t t5 t6 : Int) (q : Rat) : St := { sl := [iN n, MV.fn fn_engagement_Step_1 [MV.cp [iN r], MV.cp [iN t], MV.cp [bN (ng q.num), MV.fs (nz q.num) none (cz q.num), bN (ng ((q.den : Nat) : Int)), MV.fs (nz ((q.den : Nat) : Int)) none (cz ((q.den : Nat) : Int))]], undefM, undefM, iN 0, iN t5, iN t6] ++ rp 19 MV.any, en := rp 26 none, ck := 2 }

theorem r_sort_Search_0_0 {T : Tab} (hio : TO T) (n r t t5 t6 : Int) (q : Rat) (h0 : (bN (decide (t5 < t6)) : MV) = .sc (.bool true)) (h1 : T.call fn_engagement_Step_1 [iN (IntKind.i64.wrap ((IntKind.u64.wrap (IntKind.i64.wrap (t5 + t6))).fdiv (2 ^ min (Int.toNat (1 : Int)) IntKind.u64.bits))), MV.cp [iN r], MV.cp [iN t], MV.cp [bN (ng q.num), MV.fs (nz q.num) none (cz q.num), bN (ng ((q.den : Nat) : Int)), MV.fs (nz ((q.den : Nat) : Int)) none (cz ((q.den : Nat) : Int))]] = some (bN (!(alB r t (IntKind.i64.wrap ((IntKind.i64.wrap ((IntKind.u64.wrap (IntKind.i64.wrap (t5 + t6))).fdiv (2 ^ min (Int.toNat (1 : Int)) IntKind.u64.bits))) + (1 : Int))) q)), [])) (h2 : (bN (!(!(alB r t (IntKind.i64.wrap ((IntKind.i64.wrap ((IntKind.u64.wrap (IntKind.i64.wrap (t5 + t6))).fdiv (2 ^ min (Int.toNat (1 : Int)) IntKind.u64.bits))) + (1 : Int))) q))) : MV) = .sc (.bool true))  : ∃ s_, gC T fn_sort_Search 0 (L_sort_Search_0 n r t t5 t6 q) = some (.normal, s_) ∧ nM fn_sort_Search 0 s_ = (L_sort_Search_0 n r t (IntKind.i64.wrap ((IntKind.i64.wrap ((IntKind.u64.wrap (IntKind.i64.wrap (t5 + t6))).fdiv (2 ^ min (Int.toNat (1 : Int)) IntKind.u64.bits))) + (1 : Int))) t6 q) :=
  rd_ok hio (h := false) (orc := [.br true, .call (bN (!(alB r t (IntKind.i64.wrap ((IntKind.i64.wrap ((IntKind.u64.wrap (IntKind.i64.wrap (t5 + t6))).fdiv (2 ^ min (Int.toNat (1 : Int)) IntKind.u64.bits))) + (1 : Int))) q))) [], .br true]) (by kernel_rfl) (owc h0 (owc h1 (ow1 h2))) (by kernel_rfl)

noncomputable def X_sort_Search_0_1 (n r t t5 t6 : Int) (q : Rat) : St := xr false fn_sort_Search 0 (L_sort_Search_0 n r t t5 t6 q) [.br false]

theorem r_sort_Search_0_1 {T : Tab} (hio : TO T) (n r t t5 t6 : Int) (q : Rat) (h0 : (bN (decide (t5 < t6)) : MV) = .sc (.bool false)) : gC T fn_sort_Search 0 (L_sort_Search_0 n r t t5 t6 q) = some (.exit 0, (X_sort_Search_0_1 n r t t5 t6 q)) :=
  ex_ok hio (h := false) (orc := [.br false]) (by kernel_rfl) (ow1 h0)

theorem r_sort_Search_0_2 {T : Tab} (hio : TO T) (n r t t5 t6 : Int) (q : Rat) (h0 : (bN (decide (t5 < t6)) : MV) = .sc (.bool true)) (h1 : T.call fn_engagement_Step_1 [iN (IntKind.i64.wrap ((IntKind.u64.wrap (IntKind.i64.wrap (t5 + t6))).fdiv (2 ^ min (Int.toNat (1 : Int)) IntKind.u64.bits))), MV.cp [iN r], MV.cp [iN t], MV.cp [bN (ng q.num), MV.fs (nz q.num) none (cz q.num), bN (ng ((q.den : Nat) : Int)), MV.fs (nz ((q.den : Nat) : Int)) none (cz ((q.den : Nat) : Int))]] = some (bN (!(alB r t (IntKind.i64.wrap ((IntKind.i64.wrap ((IntKind.u64.wrap (IntKind.i64.wrap (t5 + t6))).fdiv (2 ^ min (Int.toNat (1 : Int)) IntKind.u64.bits))) + (1 : Int))) q)), [])) (h2 : (bN (!(!(alB r t (IntKind.i64.wrap ((IntKind.i64.wrap ((IntKind.u64.wrap (IntKind.i64.wrap (t5 + t6))).fdiv (2 ^ min (Int.toNat (1 : Int)) IntKind.u64.bits))) + (1 : Int))) q))) : MV) = .sc (.bool false))  : ∃ s_, gC T fn_sort_Search 0 (L_sort_Search_0 n r t t5 t6 q) = some (.normal, s_) ∧ nM fn_sort_Search 0 s_ = (L_sort_Search_0 n r t t5 (IntKind.i64.wrap ((IntKind.u64.wrap (IntKind.i64.wrap (t5 + t6))).fdiv (2 ^ min (Int.toNat (1 : Int)) IntKind.u64.bits))) q) :=
  rd_ok hio (h := false) (orc := [.br true, .call (bN (!(alB r t (IntKind.i64.wrap ((IntKind.i64.wrap ((IntKind.u64.wrap (IntKind.i64.wrap (t5 + t6))).fdiv (2 ^ min (Int.toNat (1 : Int)) IntKind.u64.bits))) + (1 : Int))) q))) [], .br false]) (by kernel_rfl) (owc h0 (owc h1 (ow1 h2))) (by kernel_rfl)

theorem p_sort_Search_x0_0 {T : Tab} (hio : TO T) (n r t t5 t6 : Int) (q : Rat) (h0 : lp T fn_sort_Search 0 (L_sort_Search_0 n r t 0 n q) (.exit 0) (X_sort_Search_0_1 n r t t5 t6 q)) : evalBody PG T FUEL (ioF fn_sort_Search) fn_sort_Search [iN n, MV.fn fn_engagement_Step_1 [MV.cp [iN r], MV.cp [iN t], MV.cp [bN (ng q.num), MV.fs (nz q.num) none (cz q.num), bN (ng ((q.den : Nat) : Int)), MV.fs (nz ((q.den : Nat) : Int)) none (cz ((q.den : Nat) : Int))]]] = some (iN t5, []) :=
  xBody_io (hard := false) hio (orc := [.loop (.exit 0) (X_sort_Search_0_1 n r t t5 t6 q)]) (by kernel_rfl) (ow1 h0)

end Go.Proofs.YtkeelkeoijemiaaGreat.Ev

namespace Go.Proofs.YtkeelkeoijemiaaGreat.Ev
open Go
set_option linter.unusedVariables false

theorem cmpQ_ge {p q : Rat} : cmpQ p q ≥ 0 ↔ q ≤ p := by
  unfold cmpQ
  split
  · rename_i h
    constructor
    · intro h2; omega
    · intro h2; exact absurd h (Rat.not_lt.2 h2)
  · rename_i h
    have := Rat.not_lt.1 h
    split <;> simp [this]
theorem cmpQ_le {p q : Rat} : cmpQ p q ≤ 0 ↔ p ≤ q := by
  unfold cmpQ
  split
  · rename_i h
    simp [Rat.le_of_lt h]
  · rename_i h
    split
    · rename_i h2
      constructor
      · intro h3; omega
      · intro h3; exact absurd h2 (Rat.not_lt.2 h3)
    · rename_i h2
      simp [Rat.not_lt.1 h2]
theorem cmpI_num {c : Rat} : cmpI c.num 0 ≥ 0 ↔ 0 ≤ c := by
  rw [← Rat.num_nonneg]
  unfold cmpI
  split <;> (try split) <;> omega
theorem qI_pos {x : Int} (h : 0 < x) : 0 < qI x := by
  have := (Rat.intCast_lt_intCast (a := 0) (b := x)).2 h
  exact this
theorem qI_le {x y : Int} (h : x ≤ y) : qI x ≤ qI y := Rat.intCast_le_intCast.2 h
theorem qI_ne {x : Int} (h : 0 < x) : qI x ≠ 0 := fun h2 => by
  have := qI_pos h
  rw [h2] at this
  exact absurd this (Rat.not_lt.2 (Rat.le_refl))
theorem mul_ne {a b : Rat} (ha : a ≠ 0) (hb : b ≠ 0) : a * b ≠ 0 := fun h => by
  rcases Rat.mul_eq_zero.1 h with h | h
  · exact ha h
  · exact hb h
theorem cosQ_al (r t s : Int) : cosQ r t s = alQ r t s := by
  unfold cosQ alQ halfQ
  rw [Rat.mul_assoc]
/-- An engagement that is not too great, by the cosine of its half. -/
def EnP (c q : Rat) : Prop := 0 ≤ c ∧ q ≤ qI 2 * (c * c) - qI 1
theorem q1 : qI 1 = 1 := rfl
theorem q2 : qI 2 = 2 := rfl
theorem paB_iff {r t s : Int} {q : Rat} : paB r t s q = true ↔ EnP (alQ r t s) q := by
  unfold paB EnP
  rw [cosQ_al]
  split
  · rename_i h
    rw [cmpI_num] at h
    rw [decide_eq_true_iff, cmpQ_ge]
    simp [h]
  · rename_i h
    rw [cmpI_num] at h
    simp [h]
theorem alB_iff {r t s : Int} {q : Rat} (hq : q ≤ 1) : alB r t s q = true ↔ EnP (alQ r t s) q := by
  unfold alB EnP
  generalize alQ r t s = c
  split
  · rename_i h
    rw [cmpQ_ge, q1] at h
    simp only [true_iff]
    have h0 : 0 ≤ c := by grind
    have h1 := Rat.mul_nonneg h0 (show 0 ≤ c - 1 by grind)
    refine ⟨h0, ?_⟩
    rw [q1, q2]
    grind
  · split
    · rename_i h1 h
      rw [cmpI_num] at h
      rw [decide_eq_true_iff, cmpQ_ge, q1, q2]
      constructor
      · intro h2; exact ⟨h, by grind⟩
      · intro h2; grind
    · rename_i h1 h
      rw [cmpI_num] at h
      simp [h]
/-- The cosine falls as the step grows. -/
theorem alQ_mono {r t s1 s2 : Int} (hr : 0 < r) (ht : 0 < t) (h1 : 0 ≤ s1) (h12 : s1 ≤ s2) (hb : r + t ≤ 1000000000 ∧ r + s2 ≤ 1000000000) : alQ r t s2 ≤ alQ r t s1 := by
  have w1 : IntKind.i64.wrap (r + t) = r + t := i64s (by omega)
  have w2 : IntKind.i64.wrap (r + s1) = r + s1 := i64s (by omega)
  have w3 : IntKind.i64.wrap (r + s2) = r + s2 := i64s (by omega)
  unfold alQ halfQ
  rw [w1, w2, w3, q2]
  have pt := qI_pos ht
  have p1 := qI_pos (show 0 < r + s1 by omega)
  have p2 := qI_pos (show 0 < r + s2 by omega)
  have le := qI_le (show r + s1 ≤ r + s2 by omega)
  have leR := qI_le (show t ≤ r + t by omega)
  generalize qI (r + t) = R at *
  generalize qI t = T at *
  generalize qI (r + s1) = a at *
  generalize qI (r + s2) = b at *
  have dx : 2 * (a * T) ≠ 0 := mul_ne (by decide) (mul_ne (by grind) (by grind))
  have dy : 2 * (b * T) ≠ 0 := mul_ne (by decide) (mul_ne (by grind) (by grind))
  have ex := Rat.div_mul_cancel (a := R * R - a * a - T * T) dx
  have ey := Rat.div_mul_cancel (a := R * R - b * b - T * T) dy
  generalize (R * R - a * a - T * T) / (2 * (a * T)) = x at *
  generalize (R * R - b * b - T * T) / (2 * (b * T)) = y at *
  have hK : 0 ≤ R * R - T * T := by
    have h1 := Rat.mul_nonneg (show 0 ≤ R - T by grind) (show 0 ≤ R + T by grind)
    grind
  have hab := Rat.mul_pos p1 p2
  have hD : 0 < 2 * T * (a * b) := Rat.mul_pos (Rat.mul_pos (by decide) pt) hab
  have key : (x - y) * (2 * T * (a * b)) = (b - a) * (R * R - T * T + a * b) := by
    have e1 : (x - y) * (2 * T * (a * b)) = x * (2 * (a * T)) * b - y * (2 * (b * T)) * a := by grind
    rw [e1, ex, ey]
    grind
  have hnn := Rat.mul_nonneg (show 0 ≤ b - a by grind) (show 0 ≤ R * R - T * T + a * b by grind)
  rw [← key] at hnn
  apply Rat.not_lt.1
  intro hlt
  have := Rat.mul_pos (show 0 < y - x by grind) hD
  grind
theorem EnP.mono {c d q : Rat} (h : EnP c q) (hd : c ≤ d) : EnP d q := by
  obtain ⟨h1, h2⟩ := h
  refine ⟨by grind, ?_⟩
  rw [q1, q2] at *
  have h3 := Rat.mul_nonneg h1 (show 0 ≤ d - c by grind)
  have h4 := Rat.mul_nonneg (show 0 ≤ d by grind) (show 0 ≤ d - c by grind)
  grind
end Go.Proofs.YtkeelkeoijemiaaGreat.Ev

namespace Go.Proofs.YtkeelkeoijemiaaGreat.Ev
open Go Go.RowKit
set_option linter.unusedVariables false
set_option linter.unusedSimpArgs false

theorem S3 {x : Int} (h : -9223372036854775808 ≤ x ∧ x ≤ 9223372036854775807) : Sz 3 (qI x) := Sz.i64 h
theorem hu1 (p : Rat) : uncaps [rM p] = [rM p] := by rw [uncaps_rM]; rfl
theorem hu2 (p q : Rat) : uncaps [rM p, rM q] = [rM p, rM q] := by rw [uncaps_rM, uncaps_rM]; rfl
theorem hu3 (p q r : Rat) : uncaps [rM p, rM q, rM r] = [rM p, rM q, rM r] := by rw [uncaps_rM, uncaps_rM, uncaps_rM]; rfl
theorem c_law34_num {m : Nat} (hm : 5 < m) {x : Int} (h : -9223372036854775808 ≤ x ∧ x ≤ 9223372036854775807) : (TU m).call fn_law34_num [iN x] = some (rM (qI x), []) :=
  TU_call (by omega) rfl rfl (args' := [iN x]) rfl (p_law34_num_0 (TU_io _) x (by exact c_ref02_FromInt64 (by omega) h)) (uncap_rM _)
theorem c_ref34_num {m : Nat} (hm : 5 < m) {x : Int} (h : -9223372036854775808 ≤ x ∧ x ≤ 9223372036854775807) : (TU m).call fn_ref34_num [iN x] = some (rM (qI x), []) :=
  TU_call (by omega) rfl rfl (args' := [iN x]) rfl (p_ref34_num_0 (TU_io _) x (by exact c_ref02_FromInt64 (by omega) h)) (uncap_rM _)
theorem c_engagement_add {m : Nat} (hm : 8 < m) {p q : Rat} {j k : Nat} (hp : Sz j p) (hq : Sz k q) (hjk : 2 * j + 2 * k < 8000) : (TU m).call fn_engagement_add [rM p, rM q] = some (rM (p + q), []) :=
  TU_call (by omega) rfl rfl (args' := [rM p, rM q]) (hu2 p q) (p_engagement_add_0 (TU_io _) p q (by exact c_rational_Add (by omega) hp hq hjk)) (uncap_rM _)
theorem c_engagement_sub {m : Nat} (hm : 9 < m) {p q : Rat} {j k : Nat} (hp : Sz j p) (hq : Sz k q) (hjk : 2 * j + 2 * k < 8000) : (TU m).call fn_engagement_sub [rM p, rM q] = some (rM (p - q), []) :=
  TU_call (by omega) rfl rfl (args' := [rM p, rM q]) (hu2 p q) (p_engagement_sub_0 (TU_io _) p q (by exact c_rational_Sub (by omega) hp hq hjk)) (uncap_rM _)
theorem c_engagement_mul {m : Nat} (hm : 8 < m) {p q : Rat} {j k : Nat} (hp : Sz j p) (hq : Sz k q) (hjk : j + k < 8000) : (TU m).call fn_engagement_mul [rM p, rM q] = some (rM (p * q), []) :=
  TU_call (by omega) rfl rfl (args' := [rM p, rM q]) (hu2 p q) (p_engagement_mul_0 (TU_io _) p q (by exact c_rational_Mul (by omega) hp hq hjk)) (uncap_rM _)
theorem i1 : (-9223372036854775808 : Int) ≤ 1 ∧ (1 : Int) ≤ 9223372036854775807 := by decide
theorem i2 : (-9223372036854775808 : Int) ≤ 2 ∧ (2 : Int) ≤ 9223372036854775807 := by decide
theorem im1 : (-9223372036854775808 : Int) ≤ -1 ∧ (-1 : Int) ≤ 9223372036854775807 := by decide
theorem c_engagement_cosine {m : Nat} (hm : 6 < m) {q : Rat} {k : Nat} (hq : Sz k q) (hk : k < 40000) : (TU m).call fn_engagement_cosine [rM q] = some (bN (cosB q), []) := by
  have hio := TU_io (m - 1)
  refine TU_call (by omega) rfl rfl (args' := [rM q]) (hu1 q) (r := bN (cosB q)) ?_ rfl
  have c1 : (TU (m - 1)).call fn_rational_Cmp [rM q, rM (qI 1)] = some (iN (cmpQ q (qI 1)), []) := c_rational_Cmp (by omega) hq (S3 i1) (by omega)
  by_cases h : cmpQ q (qI 1) ≤ 0
  · refine (p_engagement_cosine_0 hio q (by exact c_rational_FromInt64 (by omega) i1) c1 (sc_b (decide_eq_true h)) (by exact c_rational_Neg (by omega) hq (by omega)) (by exact c_rational_Cmp (by omega) hq.neg (S3 i1) (by omega))).trans ?_
    rw [cmpQ_le, q1] at h
    unfold cosB
    have : (cmpQ (-q) (qI 1) ≤ 0) ↔ -1 ≤ q := by rw [cmpQ_le, q1]; constructor <;> intro <;> grind
    rw [decide_eq_true h, Bool.true_and, decide_eq_decide.2 this]
  · refine (p_engagement_cosine_1 hio q (by exact c_rational_FromInt64 (by omega) i1) c1 (sc_b (decide_eq_false h))).trans ?_
    rw [cmpQ_le, q1] at h
    unfold cosB
    rw [decide_eq_false h, Bool.false_and]
theorem c_trochoid_cosine {m : Nat} (hm : 6 < m) {q : Rat} {k : Nat} (hq : Sz k q) (hk : k < 40000) : (TU m).call fn_trochoid_cosine [rM q] = some (bN (cosB q), []) := by
  have hio := TU_io (m - 1)
  refine TU_call (by omega) rfl rfl (args' := [rM q]) (hu1 q) (r := bN (cosB q)) ?_ rfl
  have c1 : (TU (m - 1)).call fn_rational_Cmp [rM q, rM (qI 1)] = some (iN (cmpQ q (qI 1)), []) := c_rational_Cmp (by omega) hq (S3 i1) (by omega)
  by_cases h : cmpQ q (qI 1) ≤ 0
  · refine (p_trochoid_cosine_0 hio q (by exact c_rational_FromInt64 (by omega) i1) c1 (sc_b (decide_eq_true h)) (by exact c_rational_Neg (by omega) (S3 i1) (by omega)) (by exact c_rational_Cmp (by omega) hq (S3 i1).neg (by omega))).trans ?_
    rw [cmpQ_le, q1] at h
    unfold cosB
    have : (cmpQ q (-(qI 1)) ≥ 0) ↔ -1 ≤ q := by rw [cmpQ_ge, q1]
    rw [decide_eq_true h, Bool.true_and, decide_eq_decide.2 this]
  · refine (p_trochoid_cosine_1 hio q (by exact c_rational_FromInt64 (by omega) i1) c1 (sc_b (decide_eq_false h))).trans ?_
    rw [cmpQ_le, q1] at h
    unfold cosB
    rw [decide_eq_false h, Bool.false_and]
theorem c_ref34_cosine {m : Nat} (hm : 6 < m) {q : Rat} {k : Nat} (hq : Sz k q) (hk : k < 40000) : (TU m).call fn_ref34_cosine [rM q] = some (bN (cosB q), []) := by
  have hio := TU_io (m - 1)
  refine TU_call (by omega) rfl rfl (args' := [rM q]) (hu1 q) (r := bN (cosB q)) ?_ rfl
  have c1 : (TU (m - 1)).call fn_ref02_Cmp [rM q, rM (qI (-1))] = some (iN (cmpQ q (qI (-1))), []) := c_ref02_Cmp (by omega) hq (S3 im1) (by omega)
  have qm : qI (-1) = -1 := rfl
  by_cases h : cmpQ q (qI (-1)) ≥ 0
  · refine (p_ref34_cosine_0 hio q (by exact c_ref34_num (by omega) im1) c1 (sc_b (decide_eq_true h)) (by exact c_ref34_num (by omega) i1) (by exact c_ref02_Cmp (by omega) hq (S3 i1) (by omega))).trans ?_
    rw [cmpQ_ge, qm] at h
    unfold cosB
    have : (cmpQ q (qI 1) ≤ 0) ↔ q ≤ 1 := by rw [cmpQ_le, q1]
    rw [decide_eq_true h, Bool.and_true, decide_eq_decide.2 this]
  · refine (p_ref34_cosine_1 hio q (by exact c_ref34_num (by omega) im1) c1 (sc_b (decide_eq_false h))).trans ?_
    rw [cmpQ_ge, qm] at h
    unfold cosB
    rw [decide_eq_false h, Bool.and_false]
theorem Sz.half {R t d : Rat} (hR : Sz 3 R) (ht : Sz 3 t) (hd : Sz 3 d) (h0 : qI 2 * (d * t) ≠ 0) : Sz 72 (halfQ R t d) :=
  ((((hR.mul hR).sub (hd.mul hd)).sub (ht.mul ht)).div ((S3 i2).mul (hd.mul ht)) h0).mono (by decide)
theorem c_engagement_half {m : Nat} (hm : 10 < m) {R t d : Rat} (hR : Sz 3 R) (ht : Sz 3 t) (hd : Sz 3 d) (h0 : qI 2 * (d * t) ≠ 0) : (TU m).call fn_engagement_half [rM R, rM t, rM d] = some (rM (halfQ R t d), []) :=
  TU_call (by omega) rfl rfl (args' := [rM R, rM t, rM d]) (hu3 _ _ _) (p_engagement_half_0 (TU_io _) R t d (by exact c_engagement_mul (by omega) hR hR (by omega)) (by exact c_engagement_mul (by omega) hd hd (by omega)) (by exact c_engagement_sub (by omega) (hR.mul hR) (hd.mul hd) (by omega))
    (by exact c_engagement_mul (by omega) ht ht (by omega)) (by exact c_engagement_sub (by omega) ((hR.mul hR).sub (hd.mul hd)) (ht.mul ht) (by omega)) (by exact c_rational_FromInt64 (by omega) i2) (by exact c_engagement_mul (by omega) hd ht (by omega)) (by exact c_engagement_mul (by omega) (S3 i2) (hd.mul ht) (by omega))
    (by exact c_rational_Div (by omega) (((hR.mul hR).sub (hd.mul hd)).sub (ht.mul ht)) ((S3 i2).mul (hd.mul ht)) (by omega) h0)) (uncap_rM _)
/-- The numbers that the engagement is asked for. -/
structure RTS (r t s : Int) : Prop where
  r0 : 0 < r
  t0 : 0 < t
  s0 : 0 ≤ s
  rm : r ≤ 10000000
  tm : t ≤ 10000000
  sm : s ≤ 20000000
theorem RTS.ne {r t s : Int} (h : RTS r t s) : qI 2 * (qI (IntKind.i64.wrap (r + s)) * qI t) ≠ 0 := by
  have := h.r0; have := h.s0; have := h.rm; have := h.sm
  rw [i64s (by omega)]
  exact mul_ne (by decide) (mul_ne (qI_ne (by omega)) (qI_ne h.t0))
theorem RTS.i3 {r t s : Int} (h : RTS r t s) : (-9223372036854775808 ≤ IntKind.i64.wrap (r + t) ∧ IntKind.i64.wrap (r + t) ≤ 9223372036854775807) ∧ (-9223372036854775808 ≤ t ∧ t ≤ 9223372036854775807) ∧ (-9223372036854775808 ≤ IntKind.i64.wrap (r + s) ∧ IntKind.i64.wrap (r + s) ≤ 9223372036854775807) := by
  have := h.r0; have := h.s0; have := h.rm; have := h.sm; have := h.t0; have := h.tm
  rw [i64s (x := r + t) (by omega), i64s (x := r + s) (by omega)]
  omega
theorem RTS.sz {r t s : Int} (h : RTS r t s) : Sz 72 (alQ r t s) := by
  obtain ⟨h1, h2, h3⟩ := h.i3
  exact Sz.half (S3 h1) (S3 h2) (S3 h3) h.ne
theorem c_engagement_allowed {m : Nat} (hm : 11 < m) {r t s : Int} {q : Rat} (h : RTS r t s) (hq : Sz 3 q) : (TU m).call fn_engagement_allowed [iN r, iN t, iN s, rM q] = some (bN (alB r t s q), []) := by
  have hio := TU_io (m - 1)
  obtain ⟨h1, h2, h3⟩ := h.i3
  have hc := h.sz
  refine TU_call (by omega) rfl rfl (args' := [iN r, iN t, iN s, rM q]) (by simp [uncaps, uncap, rM, rC, iC, cz]) (r := bN (alB r t s q)) ?_ rfl
  have a0 : (TU (m - 1)).call fn_rational_FromInt64 [iN 1] = some (rM (qI 1), []) := c_rational_FromInt64 (by omega) i1
  have a1 : (TU (m - 1)).call fn_rational_FromInt64 [iN (IntKind.i64.wrap (r + t))] = some (rM (qI (IntKind.i64.wrap (r + t))), []) := c_rational_FromInt64 (by omega) h1
  have a2 : (TU (m - 1)).call fn_rational_FromInt64 [iN t] = some (rM (qI t), []) := c_rational_FromInt64 (by omega) h2
  have a3 : (TU (m - 1)).call fn_rational_FromInt64 [iN (IntKind.i64.wrap (r + s))] = some (rM (qI (IntKind.i64.wrap (r + s))), []) := c_rational_FromInt64 (by omega) h3
  have a4 : (TU (m - 1)).call fn_engagement_half [rM (qI (IntKind.i64.wrap (r + t))), rM (qI t), rM (qI (IntKind.i64.wrap (r + s)))] = some (rM (alQ r t s), []) := c_engagement_half (by omega) (S3 h1) (S3 h2) (S3 h3) h.ne
  have a5 : (TU (m - 1)).call fn_rational_Cmp [rM (alQ r t s), rM (qI 1)] = some (iN (cmpQ (alQ r t s) (qI 1)), []) := c_rational_Cmp (by omega) hc (S3 i1) (by omega)
  have a6 : (TU (m - 1)).call fn_engagement_mul [rM (alQ r t s), rM (alQ r t s)] = some (rM (alQ r t s * alQ r t s), []) := c_engagement_mul (by omega) hc hc (by omega)
  have a7 : (TU (m - 1)).call fn_rational_Sign [rM (alQ r t s)] = some (iN (cmpI (alQ r t s).num 0), []) := c_rational_Sign (by omega) _
  have a8 : (TU (m - 1)).call fn_engagement_add [rM (alQ r t s * alQ r t s), rM (alQ r t s * alQ r t s)] = some (rM (alQ r t s * alQ r t s + alQ r t s * alQ r t s), []) := c_engagement_add (by omega) (hc.mul hc) (hc.mul hc) (by omega)
  have a9 : (TU (m - 1)).call fn_engagement_sub [rM (alQ r t s * alQ r t s + alQ r t s * alQ r t s), rM (qI 1)] = some (rM (alQ r t s * alQ r t s + alQ r t s * alQ r t s - qI 1), []) := c_engagement_sub (by omega) ((hc.mul hc).add (hc.mul hc)) (S3 i1) (by omega)
  have a10 : (TU (m - 1)).call fn_rational_Cmp [rM (alQ r t s * alQ r t s + alQ r t s * alQ r t s - qI 1), rM q] = some (iN (cmpQ (alQ r t s * alQ r t s + alQ r t s * alQ r t s - qI 1) q), []) := c_rational_Cmp (by omega) (((hc.mul hc).add (hc.mul hc)).sub (S3 i1)) hq (by omega)
  by_cases g : cmpQ (alQ r t s) (qI 1) ≥ 0
  · refine (p_engagement_allowed_0 hio r t s q a0 a1 a2 a3 a4 a5 (sc_b (decide_eq_true g))).trans ?_
    rw [alB, if_pos g]
  · by_cases g2 : cmpI (alQ r t s).num 0 ≥ 0
    · refine (p_engagement_allowed_1 hio r t s q a0 a1 a2 a3 a4 a5 (sc_b (decide_eq_false g)) a6 a7 (sc_b (decide_eq_true g2)) a8 a9 a10).trans ?_
      rw [alB, if_neg g, if_pos g2]
      rfl
    · refine (p_engagement_allowed_2 hio r t s q a0 a1 a2 a3 a4 a5 (sc_b (decide_eq_false g)) a6 a7 (sc_b (decide_eq_false g2))).trans ?_
      rw [alB, if_neg g, if_neg g2]
theorem c_engagement_Step_1 {m : Nat} (hm : 12 < m) {r t i : Int} {q : Rat} (h : RTS r t (i + 1)) (hq : Sz 3 q) : (TU m).call fn_engagement_Step_1 [iN i, .cp [iN r], .cp [iN t], .cp (rC q)] = some (bN (!(alB r t (i + 1) q)), []) := by
  have := h.s0; have := h.sm
  have e : IntKind.i64.wrap (i + (1 : Int)) = i + 1 := i64s (by omega)
  have g := p_engagement_Step_1_0 (TU_io (m - 1)) i r t q (by rw [e]; exact c_engagement_allowed (by omega) h hq)
  rw [e] at g
  exact TU_call (by omega) rfl rfl (args' := [iN i, .cp [iN r], .cp [iN t], .cp (rC q)]) (by simp [uncaps, uncap, rC, iC, cz]) g rfl
end Go.Proofs.YtkeelkeoijemiaaGreat.Ev

