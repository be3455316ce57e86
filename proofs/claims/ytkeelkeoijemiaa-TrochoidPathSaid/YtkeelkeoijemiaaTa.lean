/- What the functions of the trochoid without loops answer. -/
import Derived.Test.YtkeelkeoijemiaaProg
import Derived.Test.YtkeelkeoijemiaaEvT
import Derived.KernelRfl
namespace Go.Proofs.Ytkeelkeoijemiaa.Ev
open Go
set_option linter.unusedVariables false
set_option maxRecDepth 100000

/-- The examples' table: which steps are allowed. -/
def alTab : List MV → Option (MV × List (List MV))
  | [.sc (.int .i64 1000), .sc (.int .i64 3000), .sc (.int .i64 s), .agg [.sc (.bool false), .fs 0 _ [], .sc (.bool false), .fs 1 _ [.sc (.int .u32 1)]]] =>
    if s = 1501 ∨ s = 751 ∨ s = 376 ∨ s = 282 ∨ s = 271 ∨ s = 270 then some (.sc (.bool false), []) else
    if s = 188 ∨ s = 235 ∨ s = 259 ∨ s = 265 ∨ s = 268 ∨ s = 269 then some (.sc (.bool true), []) else none
  | _ => none
def TA : Tab := { call := fun f l => if f = 60 then alTab l else none, io := ioOf }
/-- The tables: so many calls deep. -/
noncomputable def TT (n : Nat) : Tab := TA.deep Go.Proofs.Try.prog FUEL n
theorem TT_io (n : Nat) : (TT n).io = ioOf := Tab.deep_io TA FUEL n

def cmp3 (a b : Int) : Int := if a > b then 1 else if a < b then -1 else 0
def dir1 (a b : Int) : Int := gmin 1 (gmax (-1) (cmp3 b a))
def okd (ax ay bx by_ : Int) : Bool := !((dir1 ax bx == 0) == (dir1 ay by_ == 0))
def okr (ax ay bx by_ : Int) : Bool := !((cmp3 bx ax == 0) == (cmp3 by_ ay == 0))
def farb (a : Int) : Bool := decide (a > 10000000) || decide (a < -10000000)
def outb (x y r : Int) : Bool := farb x || farb y || farb r || farb (IntKind.i64.wrap (x + r)) || farb (IntKind.i64.wrap (x - r)) || farb (IntKind.i64.wrap (y + r)) || farb (IntKind.i64.wrap (y - r))
def chk (ax ay bx by_ r z : Int) : Int := if okr ax ay bx by_ = false then 1 else if (outb ax ay r || outb bx by_ r || farb z) = true then 11 else 0
def befb (px py qx qy dx dy : Int) : Bool := decide (IntKind.i64.wrap (IntKind.i64.wrap (IntKind.i64.wrap (qx - px) * dx) + IntKind.i64.wrap (IntKind.i64.wrap (qy - py) * dy)) > 0)
def atb (p n_ d : Int) : Int := IntKind.i64.wrap (p + IntKind.i64.wrap (n_ * d))

def idx1 (x : Int) : Int := if farb x = true then 0 else -1
def any1 (x : Int) : Bool := farb x
theorem any_idx1 (x : Int) : decide (idx1 x ≥ 0) = any1 x := by
  unfold idx1 any1
  cases h0 : farb x <;> simp [*]
def idx2 (x y : Int) : Int := if farb x = true then 0 else if farb y = true then 1 else -1
def any2 (x y : Int) : Bool := farb x || farb y
theorem any_idx2 (x y : Int) : decide (idx2 x y ≥ 0) = any2 x y := by
  unfold idx2 any2
  cases h0 : farb x <;> cases h1 : farb y <;> simp [*]
def idx4 (x y z w : Int) : Int := if farb x = true then 0 else if farb y = true then 1 else if farb z = true then 2 else if farb w = true then 3 else -1
def any4 (x y z w : Int) : Bool := farb x || farb y || farb z || farb w
theorem any_idx4 (x y z w : Int) : decide (idx4 x y z w ≥ 0) = any4 x y z w := by
  unfold idx4 any4
  cases h0 : farb x <;> cases h1 : farb y <;> cases h2 : farb z <;> cases h3 : farb w <;> simp [*]
def rnd (x y r : Int) : Bool := !any2 x y && decide (r ≤ 20000000) && !any4 (IntKind.i64.wrap (x - r)) (IntKind.i64.wrap (x + r)) (IntKind.i64.wrap (y - r)) (IntKind.i64.wrap (y + r))

theorem p36_0 {T : Tab} (hio : T.io = ioOf) (a : Int)  : evalBody Go.Proofs.Try.prog T FUEL (ioOf 36) 36 [MV.sc (.int .i64 a)] = some (MV.sc (.int .i64 (gmin (1 : Int) (gmax (-1 : Int) a))), []) :=
  xBody_io (hard := false) hio (orc := []) (b := []) (by kernel_rfl) trivial

theorem c36 (n : Nat) (a : Int) : (TT (n + 1)).call 36 [MV.sc (.int .i64 a)] = some (.sc (.int .i64 (gmin 1 (gmax (-1) a))), []) := by
  refine (deep_call rfl).trans ?_
  show evalBody Go.Proofs.Try.prog (TT (n + 0)) FUEL (ioOf 36) 36 _ = _
  refine (p36_0 (TT_io n) _).trans ?_
  first | rfl | (simp_all; done) | (simp_all; (repeat (first | split | intro _)) <;> omega)

theorem p37_0 {T : Tab} (hio : T.io = ioOf) (a b : Int) (h0 : (MV.sc (.bool (decide (a > b))) : MV) = .sc (.bool true)) : evalBody Go.Proofs.Try.prog T FUEL (ioOf 37) 37 [MV.sc (.int .i64 a), MV.sc (.int .i64 b)] = some (MV.sc (.int .i64 1), []) :=
  xBody_io (hard := false) hio (orc := [.br true]) (b := [((MV.sc (.bool (decide (a > b))) : MV) = .sc (.bool true))]) (by kernel_rfl) h0

theorem p37_1 {T : Tab} (hio : T.io = ioOf) (a b : Int) (h0 : (MV.sc (.bool (decide (a > b))) : MV) = .sc (.bool false)) (h1 : (MV.sc (.bool (decide (a < b))) : MV) = .sc (.bool true)) : evalBody Go.Proofs.Try.prog T FUEL (ioOf 37) 37 [MV.sc (.int .i64 a), MV.sc (.int .i64 b)] = some (MV.sc (.int .i64 (-1)), []) :=
  xBody_io (hard := false) hio (orc := [.br false, .br true]) (b := [((MV.sc (.bool (decide (a > b))) : MV) = .sc (.bool false)), ((MV.sc (.bool (decide (a < b))) : MV) = .sc (.bool true))]) (by kernel_rfl) ⟨h0, h1⟩

theorem p37_2 {T : Tab} (hio : T.io = ioOf) (a b : Int) (h0 : (MV.sc (.bool (decide (a > b))) : MV) = .sc (.bool false)) (h1 : (MV.sc (.bool (decide (a < b))) : MV) = .sc (.bool false)) : evalBody Go.Proofs.Try.prog T FUEL (ioOf 37) 37 [MV.sc (.int .i64 a), MV.sc (.int .i64 b)] = some (MV.sc (.int .i64 0), []) :=
  xBody_io (hard := false) hio (orc := [.br false, .br false]) (b := [((MV.sc (.bool (decide (a > b))) : MV) = .sc (.bool false)), ((MV.sc (.bool (decide (a < b))) : MV) = .sc (.bool false))]) (by kernel_rfl) ⟨h0, h1⟩

theorem c37 (n : Nat) (a b : Int) : (TT (n + 1)).call 37 [MV.sc (.int .i64 a), MV.sc (.int .i64 b)] = some (.sc (.int .i64 (cmp3 a b)), []) := by
  refine (deep_call rfl).trans ?_
  show evalBody Go.Proofs.Try.prog (TT (n + 0)) FUEL (ioOf 37) 37 _ = _
  cases b0 : (decide (a > b)) with
  | true =>
    refine (p37_0 (TT_io n) _ _ (by rw [b0])).trans ?_
    first | rfl | (simp_all [cmp3]; done) | (simp_all [cmp3]; (repeat (first | split | intro _)) <;> omega)
  | false =>
    cases b1 : (decide (a < b)) with
    | true =>
      refine (p37_1 (TT_io n) _ _ (by rw [b0]) (by rw [b1])).trans ?_
      first | rfl | (simp_all [cmp3]; done) | (simp_all [cmp3]; (repeat (first | split | intro _)) <;> omega)
    | false =>
      refine (p37_2 (TT_io n) _ _ (by rw [b0]) (by rw [b1])).trans ?_
      first | rfl | (simp_all [cmp3]; done) | (simp_all [cmp3]; (repeat (first | split | intro _)) <;> omega)

theorem p19_0 {T : Tab} (hio : T.io = ioOf) (ax ay bx by_ : Int) (h0 : T.call 37 [MV.sc (.int .i64 bx), MV.sc (.int .i64 ax)] = some (MV.sc (.int .i64 (cmp3 bx ax)), [])) (h1 : T.call 36 [MV.sc (.int .i64 (cmp3 bx ax))] = some (MV.sc (.int .i64 (gmin 1 (gmax (-1) (cmp3 bx ax)))), [])) (h2 : T.call 37 [MV.sc (.int .i64 by_), MV.sc (.int .i64 ay)] = some (MV.sc (.int .i64 (cmp3 by_ ay)), [])) (h3 : T.call 36 [MV.sc (.int .i64 (cmp3 by_ ay))] = some (MV.sc (.int .i64 (gmin 1 (gmax (-1) (cmp3 by_ ay)))), [])) : evalBody Go.Proofs.Try.prog T FUEL (ioOf 19) 19 [MV.agg [MV.sc (.int .i64 ax), MV.sc (.int .i64 ay)], MV.agg [MV.sc (.int .i64 bx), MV.sc (.int .i64 by_)]] = some (MV.tup [MV.agg [MV.sc (.int .i64 (gmin 1 (gmax (-1) (cmp3 bx ax)))), MV.sc (.int .i64 (gmin 1 (gmax (-1) (cmp3 by_ ay))))], MV.sc (.bool (!(((gmin 1 (gmax (-1) (cmp3 bx ax))) == (0 : Int)) == ((gmin 1 (gmax (-1) (cmp3 by_ ay))) == (0 : Int)))))], []) :=
  xBody_io (hard := false) hio (orc := [.call (MV.sc (.int .i64 (cmp3 bx ax))) [], .call (MV.sc (.int .i64 (gmin 1 (gmax (-1) (cmp3 bx ax))))) [], .call (MV.sc (.int .i64 (cmp3 by_ ay))) [], .call (MV.sc (.int .i64 (gmin 1 (gmax (-1) (cmp3 by_ ay))))) []]) (b := [(T.call 37 [MV.sc (.int .i64 bx), MV.sc (.int .i64 ax)] = some (MV.sc (.int .i64 (cmp3 bx ax)), [])), (T.call 36 [MV.sc (.int .i64 (cmp3 bx ax))] = some (MV.sc (.int .i64 (gmin 1 (gmax (-1) (cmp3 bx ax)))), [])), (T.call 37 [MV.sc (.int .i64 by_), MV.sc (.int .i64 ay)] = some (MV.sc (.int .i64 (cmp3 by_ ay)), [])), (T.call 36 [MV.sc (.int .i64 (cmp3 by_ ay))] = some (MV.sc (.int .i64 (gmin 1 (gmax (-1) (cmp3 by_ ay)))), []))]) (by kernel_rfl) ⟨h0, h1, h2, h3⟩

theorem c19 (n : Nat) (ax ay bx by_ : Int) : (TT (n + 2)).call 19 [MV.agg [MV.sc (.int .i64 ax), MV.sc (.int .i64 ay)], MV.agg [MV.sc (.int .i64 bx), MV.sc (.int .i64 by_)]] = some (.tup [.agg [.sc (.int .i64 (dir1 ax bx)), .sc (.int .i64 (dir1 ay by_))], .sc (.bool (okd ax ay bx by_))], []) := by
  refine (deep_call rfl).trans ?_
  show evalBody Go.Proofs.Try.prog (TT (n + 1)) FUEL (ioOf 19) 19 _ = _
  refine (p19_0 (TT_io _) _ _ _ _ (by exact c37 _ ..) (by exact c36 _ ..) (by exact c37 _ ..) (by exact c36 _ ..)).trans ?_
  first | rfl | (simp_all [dir1, okd]; done) | (simp_all [dir1, okd]; (repeat (first | split | intro _)) <;> omega)

theorem p42_0 {T : Tab} (hio : T.io = ioOf) (a : Int) (h0 : (MV.sc (.bool (decide (a > (10000000 : Int)))) : MV) = .sc (.bool true)) : evalBody Go.Proofs.Try.prog T FUEL (ioOf 42) 42 [MV.sc (.int .i64 a)] = some (MV.sc (.bool true), []) :=
  xBody_io (hard := false) hio (orc := [.br true]) (b := [((MV.sc (.bool (decide (a > (10000000 : Int)))) : MV) = .sc (.bool true))]) (by kernel_rfl) h0

theorem p42_1 {T : Tab} (hio : T.io = ioOf) (a : Int) (h0 : (MV.sc (.bool (decide (a > (10000000 : Int)))) : MV) = .sc (.bool false)) : evalBody Go.Proofs.Try.prog T FUEL (ioOf 42) 42 [MV.sc (.int .i64 a)] = some (MV.sc (.bool (decide (a < (-10000000 : Int)))), []) :=
  xBody_io (hard := false) hio (orc := [.br false]) (b := [((MV.sc (.bool (decide (a > (10000000 : Int)))) : MV) = .sc (.bool false))]) (by kernel_rfl) h0

theorem c42 (n : Nat) (a : Int) : (TT (n + 1)).call 42 [MV.sc (.int .i64 a)] = some (.sc (.bool (farb a)), []) := by
  refine (deep_call rfl).trans ?_
  show evalBody Go.Proofs.Try.prog (TT (n + 0)) FUEL (ioOf 42) 42 _ = _
  cases b0 : (decide (a > (10000000 : Int))) with
  | true =>
    refine (p42_0 (TT_io n) _ (by rw [b0])).trans ?_
    first | rfl | (simp_all [farb]; done) | (simp_all [farb]; (repeat (first | split | intro _)) <;> omega)
  | false =>
    refine (p42_1 (TT_io n) _ (by rw [b0])).trans ?_
    first | rfl | (simp_all [farb]; done) | (simp_all [farb]; (repeat (first | split | intro _)) <;> omega)

theorem p39_0 {T : Tab} (hio : T.io = ioOf) (a : Int) (h0 : (MV.sc (.bool (decide (a > (10000000 : Int)))) : MV) = .sc (.bool true)) : evalBody Go.Proofs.Try.prog T FUEL (ioOf 39) 39 [MV.sc (.int .i64 a)] = some (MV.sc (.bool true), []) :=
  xBody_io (hard := false) hio (orc := [.br true]) (b := [((MV.sc (.bool (decide (a > (10000000 : Int)))) : MV) = .sc (.bool true))]) (by kernel_rfl) h0

theorem p39_1 {T : Tab} (hio : T.io = ioOf) (a : Int) (h0 : (MV.sc (.bool (decide (a > (10000000 : Int)))) : MV) = .sc (.bool false)) : evalBody Go.Proofs.Try.prog T FUEL (ioOf 39) 39 [MV.sc (.int .i64 a)] = some (MV.sc (.bool (decide (a < (-10000000 : Int)))), []) :=
  xBody_io (hard := false) hio (orc := [.br false]) (b := [((MV.sc (.bool (decide (a > (10000000 : Int)))) : MV) = .sc (.bool false))]) (by kernel_rfl) h0

theorem c39 (n : Nat) (a : Int) : (TT (n + 1)).call 39 [MV.sc (.int .i64 a)] = some (.sc (.bool (farb a)), []) := by
  refine (deep_call rfl).trans ?_
  show evalBody Go.Proofs.Try.prog (TT (n + 0)) FUEL (ioOf 39) 39 _ = _
  cases b0 : (decide (a > (10000000 : Int))) with
  | true =>
    refine (p39_0 (TT_io n) _ (by rw [b0])).trans ?_
    first | rfl | (simp_all [farb]; done) | (simp_all [farb]; (repeat (first | split | intro _)) <;> omega)
  | false =>
    refine (p39_1 (TT_io n) _ (by rw [b0])).trans ?_
    first | rfl | (simp_all [farb]; done) | (simp_all [farb]; (repeat (first | split | intro _)) <;> omega)

theorem p40_0 {T : Tab} (hio : T.io = ioOf) (a b : Int) (h0 : (MV.sc (.bool (decide (a < b))) : MV) = .sc (.bool true)) : evalBody Go.Proofs.Try.prog T FUEL (ioOf 40) 40 [MV.sc (.int .i64 a), MV.sc (.int .i64 b)] = some (MV.sc (.int .i64 1), []) :=
  xBody_io (hard := false) hio (orc := [.br true]) (b := [((MV.sc (.bool (decide (a < b))) : MV) = .sc (.bool true))]) (by kernel_rfl) h0

theorem p40_1 {T : Tab} (hio : T.io = ioOf) (a b : Int) (h0 : (MV.sc (.bool (decide (a < b))) : MV) = .sc (.bool false)) (h1 : (MV.sc (.bool (decide (a > b))) : MV) = .sc (.bool true)) : evalBody Go.Proofs.Try.prog T FUEL (ioOf 40) 40 [MV.sc (.int .i64 a), MV.sc (.int .i64 b)] = some (MV.sc (.int .i64 (-1)), []) :=
  xBody_io (hard := false) hio (orc := [.br false, .br true]) (b := [((MV.sc (.bool (decide (a < b))) : MV) = .sc (.bool false)), ((MV.sc (.bool (decide (a > b))) : MV) = .sc (.bool true))]) (by kernel_rfl) ⟨h0, h1⟩

theorem p40_2 {T : Tab} (hio : T.io = ioOf) (a b : Int) (h0 : (MV.sc (.bool (decide (a < b))) : MV) = .sc (.bool false)) (h1 : (MV.sc (.bool (decide (a > b))) : MV) = .sc (.bool false)) : evalBody Go.Proofs.Try.prog T FUEL (ioOf 40) 40 [MV.sc (.int .i64 a), MV.sc (.int .i64 b)] = some (MV.sc (.int .i64 0), []) :=
  xBody_io (hard := false) hio (orc := [.br false, .br false]) (b := [((MV.sc (.bool (decide (a < b))) : MV) = .sc (.bool false)), ((MV.sc (.bool (decide (a > b))) : MV) = .sc (.bool false))]) (by kernel_rfl) ⟨h0, h1⟩

theorem c40 (n : Nat) (a b : Int) : (TT (n + 1)).call 40 [MV.sc (.int .i64 a), MV.sc (.int .i64 b)] = some (.sc (.int .i64 (cmp3 b a)), []) := by
  refine (deep_call rfl).trans ?_
  show evalBody Go.Proofs.Try.prog (TT (n + 0)) FUEL (ioOf 40) 40 _ = _
  cases b0 : (decide (a < b)) with
  | true =>
    refine (p40_0 (TT_io n) _ _ (by rw [b0])).trans ?_
    first | rfl | (simp_all [cmp3]; done) | (simp_all [cmp3]; (repeat (first | split | intro _)) <;> omega)
  | false =>
    cases b1 : (decide (a > b)) with
    | true =>
      refine (p40_1 (TT_io n) _ _ (by rw [b0]) (by rw [b1])).trans ?_
      first | rfl | (simp_all [cmp3]; done) | (simp_all [cmp3]; (repeat (first | split | intro _)) <;> omega)
    | false =>
      refine (p40_2 (TT_io n) _ _ (by rw [b0]) (by rw [b1])).trans ?_
      first | rfl | (simp_all [cmp3]; done) | (simp_all [cmp3]; (repeat (first | split | intro _)) <;> omega)

theorem p23_0 {T : Tab} (hio : T.io = ioOf) (ax ay bx by_ : Int) (h0 : T.call 40 [MV.sc (.int .i64 ax), MV.sc (.int .i64 bx)] = some (MV.sc (.int .i64 (cmp3 bx ax)), [])) (h1 : T.call 40 [MV.sc (.int .i64 ay), MV.sc (.int .i64 by_)] = some (MV.sc (.int .i64 (cmp3 by_ ay)), [])) : evalBody Go.Proofs.Try.prog T FUEL (ioOf 23) 23 [MV.agg [MV.sc (.int .i64 ax), MV.sc (.int .i64 ay)], MV.agg [MV.sc (.int .i64 bx), MV.sc (.int .i64 by_)]] = some (MV.tup [MV.agg [MV.sc (.int .i64 (cmp3 bx ax)), MV.sc (.int .i64 (cmp3 by_ ay))], MV.sc (.bool (!(((cmp3 bx ax) == (0 : Int)) == ((cmp3 by_ ay) == (0 : Int)))))], []) :=
  xBody_io (hard := false) hio (orc := [.call (MV.sc (.int .i64 (cmp3 bx ax))) [], .call (MV.sc (.int .i64 (cmp3 by_ ay))) []]) (b := [(T.call 40 [MV.sc (.int .i64 ax), MV.sc (.int .i64 bx)] = some (MV.sc (.int .i64 (cmp3 bx ax)), [])), (T.call 40 [MV.sc (.int .i64 ay), MV.sc (.int .i64 by_)] = some (MV.sc (.int .i64 (cmp3 by_ ay)), []))]) (by kernel_rfl) ⟨h0, h1⟩

theorem c23 (n : Nat) (ax ay bx by_ : Int) : (TT (n + 2)).call 23 [MV.agg [MV.sc (.int .i64 ax), MV.sc (.int .i64 ay)], MV.agg [MV.sc (.int .i64 bx), MV.sc (.int .i64 by_)]] = some (.tup [.agg [.sc (.int .i64 (cmp3 bx ax)), .sc (.int .i64 (cmp3 by_ ay))], .sc (.bool (okr ax ay bx by_))], []) := by
  refine (deep_call rfl).trans ?_
  show evalBody Go.Proofs.Try.prog (TT (n + 1)) FUEL (ioOf 23) 23 _ = _
  refine (p23_0 (TT_io _) _ _ _ _ (by exact c40 _ ..) (by exact c40 _ ..)).trans ?_
  first | rfl | (simp_all [okr]; done) | (simp_all [okr]; (repeat (first | split | intro _)) <;> omega)

theorem p38_0 {T : Tab} (hio : T.io = ioOf) (x y r : Int) (h0 : T.call 39 [MV.sc (.int .i64 x)] = some (MV.sc (.bool (farb x)), [])) (h1 : (MV.sc (.bool (farb x)) : MV) = .sc (.bool true)) : evalBody Go.Proofs.Try.prog T FUEL (ioOf 38) 38 [MV.agg [MV.sc (.int .i64 x), MV.sc (.int .i64 y)], MV.sc (.int .i64 r)] = some (MV.sc (.bool true), []) :=
  xBody_io (hard := false) hio (orc := [.call (MV.sc (.bool (farb x))) [], .br true, .auto, .auto]) (b := [(T.call 39 [MV.sc (.int .i64 x)] = some (MV.sc (.bool (farb x)), [])), ((MV.sc (.bool (farb x)) : MV) = .sc (.bool true))]) (by kernel_rfl) ⟨h0, h1⟩

theorem p38_1 {T : Tab} (hio : T.io = ioOf) (x y r : Int) (h0 : T.call 39 [MV.sc (.int .i64 x)] = some (MV.sc (.bool (farb x)), [])) (h1 : (MV.sc (.bool (farb x)) : MV) = .sc (.bool false)) (h2 : T.call 39 [MV.sc (.int .i64 y)] = some (MV.sc (.bool (farb y)), [])) (h3 : (MV.sc (.bool (farb y)) : MV) = .sc (.bool true)) : evalBody Go.Proofs.Try.prog T FUEL (ioOf 38) 38 [MV.agg [MV.sc (.int .i64 x), MV.sc (.int .i64 y)], MV.sc (.int .i64 r)] = some (MV.sc (.bool true), []) :=
  xBody_io (hard := false) hio (orc := [.call (MV.sc (.bool (farb x))) [], .br false, .call (MV.sc (.bool (farb y))) [], .br true, .auto]) (b := [(T.call 39 [MV.sc (.int .i64 x)] = some (MV.sc (.bool (farb x)), [])), ((MV.sc (.bool (farb x)) : MV) = .sc (.bool false)), (T.call 39 [MV.sc (.int .i64 y)] = some (MV.sc (.bool (farb y)), [])), ((MV.sc (.bool (farb y)) : MV) = .sc (.bool true))]) (by kernel_rfl) ⟨h0, h1, h2, h3⟩

theorem p38_2 {T : Tab} (hio : T.io = ioOf) (x y r : Int) (h0 : T.call 39 [MV.sc (.int .i64 x)] = some (MV.sc (.bool (farb x)), [])) (h1 : (MV.sc (.bool (farb x)) : MV) = .sc (.bool false)) (h2 : T.call 39 [MV.sc (.int .i64 y)] = some (MV.sc (.bool (farb y)), [])) (h3 : (MV.sc (.bool (farb y)) : MV) = .sc (.bool false)) (h4 : T.call 39 [MV.sc (.int .i64 r)] = some (MV.sc (.bool (farb r)), [])) (h5 : (MV.sc (.bool (farb r)) : MV) = .sc (.bool true)) : evalBody Go.Proofs.Try.prog T FUEL (ioOf 38) 38 [MV.agg [MV.sc (.int .i64 x), MV.sc (.int .i64 y)], MV.sc (.int .i64 r)] = some (MV.sc (.bool true), []) :=
  xBody_io (hard := false) hio (orc := [.call (MV.sc (.bool (farb x))) [], .br false, .call (MV.sc (.bool (farb y))) [], .br false, .call (MV.sc (.bool (farb r))) [], .br true]) (b := [(T.call 39 [MV.sc (.int .i64 x)] = some (MV.sc (.bool (farb x)), [])), ((MV.sc (.bool (farb x)) : MV) = .sc (.bool false)), (T.call 39 [MV.sc (.int .i64 y)] = some (MV.sc (.bool (farb y)), [])), ((MV.sc (.bool (farb y)) : MV) = .sc (.bool false)), (T.call 39 [MV.sc (.int .i64 r)] = some (MV.sc (.bool (farb r)), [])), ((MV.sc (.bool (farb r)) : MV) = .sc (.bool true))]) (by kernel_rfl) ⟨h0, h1, h2, h3, h4, h5⟩

theorem p38_3 {T : Tab} (hio : T.io = ioOf) (x y r : Int) (h0 : T.call 39 [MV.sc (.int .i64 x)] = some (MV.sc (.bool (farb x)), [])) (h1 : (MV.sc (.bool (farb x)) : MV) = .sc (.bool false)) (h2 : T.call 39 [MV.sc (.int .i64 y)] = some (MV.sc (.bool (farb y)), [])) (h3 : (MV.sc (.bool (farb y)) : MV) = .sc (.bool false)) (h4 : T.call 39 [MV.sc (.int .i64 r)] = some (MV.sc (.bool (farb r)), [])) (h5 : (MV.sc (.bool (farb r)) : MV) = .sc (.bool false)) (h6 : T.call 39 [MV.sc (.int .i64 (IntKind.i64.wrap (x + r)))] = some (MV.sc (.bool (farb (IntKind.i64.wrap (x + r)))), [])) (h7 : (MV.sc (.bool (farb (IntKind.i64.wrap (x + r)))) : MV) = .sc (.bool true)) : evalBody Go.Proofs.Try.prog T FUEL (ioOf 38) 38 [MV.agg [MV.sc (.int .i64 x), MV.sc (.int .i64 y)], MV.sc (.int .i64 r)] = some (MV.sc (.bool true), []) :=
  xBody_io (hard := false) hio (orc := [.call (MV.sc (.bool (farb x))) [], .br false, .call (MV.sc (.bool (farb y))) [], .br false, .call (MV.sc (.bool (farb r))) [], .br false, .call (MV.sc (.bool (farb (IntKind.i64.wrap (x + r))))) [], .br true, .auto, .auto]) (b := [(T.call 39 [MV.sc (.int .i64 x)] = some (MV.sc (.bool (farb x)), [])), ((MV.sc (.bool (farb x)) : MV) = .sc (.bool false)), (T.call 39 [MV.sc (.int .i64 y)] = some (MV.sc (.bool (farb y)), [])), ((MV.sc (.bool (farb y)) : MV) = .sc (.bool false)), (T.call 39 [MV.sc (.int .i64 r)] = some (MV.sc (.bool (farb r)), [])), ((MV.sc (.bool (farb r)) : MV) = .sc (.bool false)), (T.call 39 [MV.sc (.int .i64 (IntKind.i64.wrap (x + r)))] = some (MV.sc (.bool (farb (IntKind.i64.wrap (x + r)))), [])), ((MV.sc (.bool (farb (IntKind.i64.wrap (x + r)))) : MV) = .sc (.bool true))]) (by kernel_rfl) ⟨h0, h1, h2, h3, h4, h5, h6, h7⟩

theorem p38_4 {T : Tab} (hio : T.io = ioOf) (x y r : Int) (h0 : T.call 39 [MV.sc (.int .i64 x)] = some (MV.sc (.bool (farb x)), [])) (h1 : (MV.sc (.bool (farb x)) : MV) = .sc (.bool false)) (h2 : T.call 39 [MV.sc (.int .i64 y)] = some (MV.sc (.bool (farb y)), [])) (h3 : (MV.sc (.bool (farb y)) : MV) = .sc (.bool false)) (h4 : T.call 39 [MV.sc (.int .i64 r)] = some (MV.sc (.bool (farb r)), [])) (h5 : (MV.sc (.bool (farb r)) : MV) = .sc (.bool false)) (h6 : T.call 39 [MV.sc (.int .i64 (IntKind.i64.wrap (x + r)))] = some (MV.sc (.bool (farb (IntKind.i64.wrap (x + r)))), [])) (h7 : (MV.sc (.bool (farb (IntKind.i64.wrap (x + r)))) : MV) = .sc (.bool false)) (h8 : T.call 39 [MV.sc (.int .i64 (IntKind.i64.wrap (x - r)))] = some (MV.sc (.bool (farb (IntKind.i64.wrap (x - r)))), [])) (h9 : (MV.sc (.bool (farb (IntKind.i64.wrap (x - r)))) : MV) = .sc (.bool true)) : evalBody Go.Proofs.Try.prog T FUEL (ioOf 38) 38 [MV.agg [MV.sc (.int .i64 x), MV.sc (.int .i64 y)], MV.sc (.int .i64 r)] = some (MV.sc (.bool true), []) :=
  xBody_io (hard := false) hio (orc := [.call (MV.sc (.bool (farb x))) [], .br false, .call (MV.sc (.bool (farb y))) [], .br false, .call (MV.sc (.bool (farb r))) [], .br false, .call (MV.sc (.bool (farb (IntKind.i64.wrap (x + r))))) [], .br false, .call (MV.sc (.bool (farb (IntKind.i64.wrap (x - r))))) [], .br true, .auto]) (b := [(T.call 39 [MV.sc (.int .i64 x)] = some (MV.sc (.bool (farb x)), [])), ((MV.sc (.bool (farb x)) : MV) = .sc (.bool false)), (T.call 39 [MV.sc (.int .i64 y)] = some (MV.sc (.bool (farb y)), [])), ((MV.sc (.bool (farb y)) : MV) = .sc (.bool false)), (T.call 39 [MV.sc (.int .i64 r)] = some (MV.sc (.bool (farb r)), [])), ((MV.sc (.bool (farb r)) : MV) = .sc (.bool false)), (T.call 39 [MV.sc (.int .i64 (IntKind.i64.wrap (x + r)))] = some (MV.sc (.bool (farb (IntKind.i64.wrap (x + r)))), [])), ((MV.sc (.bool (farb (IntKind.i64.wrap (x + r)))) : MV) = .sc (.bool false)), (T.call 39 [MV.sc (.int .i64 (IntKind.i64.wrap (x - r)))] = some (MV.sc (.bool (farb (IntKind.i64.wrap (x - r)))), [])), ((MV.sc (.bool (farb (IntKind.i64.wrap (x - r)))) : MV) = .sc (.bool true))]) (by kernel_rfl) ⟨h0, h1, h2, h3, h4, h5, h6, h7, h8, h9⟩

theorem p38_5 {T : Tab} (hio : T.io = ioOf) (x y r : Int) (h0 : T.call 39 [MV.sc (.int .i64 x)] = some (MV.sc (.bool (farb x)), [])) (h1 : (MV.sc (.bool (farb x)) : MV) = .sc (.bool false)) (h2 : T.call 39 [MV.sc (.int .i64 y)] = some (MV.sc (.bool (farb y)), [])) (h3 : (MV.sc (.bool (farb y)) : MV) = .sc (.bool false)) (h4 : T.call 39 [MV.sc (.int .i64 r)] = some (MV.sc (.bool (farb r)), [])) (h5 : (MV.sc (.bool (farb r)) : MV) = .sc (.bool false)) (h6 : T.call 39 [MV.sc (.int .i64 (IntKind.i64.wrap (x + r)))] = some (MV.sc (.bool (farb (IntKind.i64.wrap (x + r)))), [])) (h7 : (MV.sc (.bool (farb (IntKind.i64.wrap (x + r)))) : MV) = .sc (.bool false)) (h8 : T.call 39 [MV.sc (.int .i64 (IntKind.i64.wrap (x - r)))] = some (MV.sc (.bool (farb (IntKind.i64.wrap (x - r)))), [])) (h9 : (MV.sc (.bool (farb (IntKind.i64.wrap (x - r)))) : MV) = .sc (.bool false)) (h10 : T.call 39 [MV.sc (.int .i64 (IntKind.i64.wrap (y + r)))] = some (MV.sc (.bool (farb (IntKind.i64.wrap (y + r)))), [])) (h11 : (MV.sc (.bool (farb (IntKind.i64.wrap (y + r)))) : MV) = .sc (.bool true)) : evalBody Go.Proofs.Try.prog T FUEL (ioOf 38) 38 [MV.agg [MV.sc (.int .i64 x), MV.sc (.int .i64 y)], MV.sc (.int .i64 r)] = some (MV.sc (.bool true), []) :=
  xBody_io (hard := false) hio (orc := [.call (MV.sc (.bool (farb x))) [], .br false, .call (MV.sc (.bool (farb y))) [], .br false, .call (MV.sc (.bool (farb r))) [], .br false, .call (MV.sc (.bool (farb (IntKind.i64.wrap (x + r))))) [], .br false, .call (MV.sc (.bool (farb (IntKind.i64.wrap (x - r))))) [], .br false, .call (MV.sc (.bool (farb (IntKind.i64.wrap (y + r))))) [], .br true]) (b := [(T.call 39 [MV.sc (.int .i64 x)] = some (MV.sc (.bool (farb x)), [])), ((MV.sc (.bool (farb x)) : MV) = .sc (.bool false)), (T.call 39 [MV.sc (.int .i64 y)] = some (MV.sc (.bool (farb y)), [])), ((MV.sc (.bool (farb y)) : MV) = .sc (.bool false)), (T.call 39 [MV.sc (.int .i64 r)] = some (MV.sc (.bool (farb r)), [])), ((MV.sc (.bool (farb r)) : MV) = .sc (.bool false)), (T.call 39 [MV.sc (.int .i64 (IntKind.i64.wrap (x + r)))] = some (MV.sc (.bool (farb (IntKind.i64.wrap (x + r)))), [])), ((MV.sc (.bool (farb (IntKind.i64.wrap (x + r)))) : MV) = .sc (.bool false)), (T.call 39 [MV.sc (.int .i64 (IntKind.i64.wrap (x - r)))] = some (MV.sc (.bool (farb (IntKind.i64.wrap (x - r)))), [])), ((MV.sc (.bool (farb (IntKind.i64.wrap (x - r)))) : MV) = .sc (.bool false)), (T.call 39 [MV.sc (.int .i64 (IntKind.i64.wrap (y + r)))] = some (MV.sc (.bool (farb (IntKind.i64.wrap (y + r)))), [])), ((MV.sc (.bool (farb (IntKind.i64.wrap (y + r)))) : MV) = .sc (.bool true))]) (by kernel_rfl) ⟨h0, h1, h2, h3, h4, h5, h6, h7, h8, h9, h10, h11⟩

theorem p38_6 {T : Tab} (hio : T.io = ioOf) (x y r : Int) (h0 : T.call 39 [MV.sc (.int .i64 x)] = some (MV.sc (.bool (farb x)), [])) (h1 : (MV.sc (.bool (farb x)) : MV) = .sc (.bool false)) (h2 : T.call 39 [MV.sc (.int .i64 y)] = some (MV.sc (.bool (farb y)), [])) (h3 : (MV.sc (.bool (farb y)) : MV) = .sc (.bool false)) (h4 : T.call 39 [MV.sc (.int .i64 r)] = some (MV.sc (.bool (farb r)), [])) (h5 : (MV.sc (.bool (farb r)) : MV) = .sc (.bool false)) (h6 : T.call 39 [MV.sc (.int .i64 (IntKind.i64.wrap (x + r)))] = some (MV.sc (.bool (farb (IntKind.i64.wrap (x + r)))), [])) (h7 : (MV.sc (.bool (farb (IntKind.i64.wrap (x + r)))) : MV) = .sc (.bool false)) (h8 : T.call 39 [MV.sc (.int .i64 (IntKind.i64.wrap (x - r)))] = some (MV.sc (.bool (farb (IntKind.i64.wrap (x - r)))), [])) (h9 : (MV.sc (.bool (farb (IntKind.i64.wrap (x - r)))) : MV) = .sc (.bool false)) (h10 : T.call 39 [MV.sc (.int .i64 (IntKind.i64.wrap (y + r)))] = some (MV.sc (.bool (farb (IntKind.i64.wrap (y + r)))), [])) (h11 : (MV.sc (.bool (farb (IntKind.i64.wrap (y + r)))) : MV) = .sc (.bool false)) (h12 : T.call 39 [MV.sc (.int .i64 (IntKind.i64.wrap (y - r)))] = some (MV.sc (.bool (farb (IntKind.i64.wrap (y - r)))), [])) : evalBody Go.Proofs.Try.prog T FUEL (ioOf 38) 38 [MV.agg [MV.sc (.int .i64 x), MV.sc (.int .i64 y)], MV.sc (.int .i64 r)] = some (MV.sc (.bool (farb (IntKind.i64.wrap (y - r)))), []) :=
  xBody_io (hard := false) hio (orc := [.call (MV.sc (.bool (farb x))) [], .br false, .call (MV.sc (.bool (farb y))) [], .br false, .call (MV.sc (.bool (farb r))) [], .br false, .call (MV.sc (.bool (farb (IntKind.i64.wrap (x + r))))) [], .br false, .call (MV.sc (.bool (farb (IntKind.i64.wrap (x - r))))) [], .br false, .call (MV.sc (.bool (farb (IntKind.i64.wrap (y + r))))) [], .br false, .call (MV.sc (.bool (farb (IntKind.i64.wrap (y - r))))) []]) (b := [(T.call 39 [MV.sc (.int .i64 x)] = some (MV.sc (.bool (farb x)), [])), ((MV.sc (.bool (farb x)) : MV) = .sc (.bool false)), (T.call 39 [MV.sc (.int .i64 y)] = some (MV.sc (.bool (farb y)), [])), ((MV.sc (.bool (farb y)) : MV) = .sc (.bool false)), (T.call 39 [MV.sc (.int .i64 r)] = some (MV.sc (.bool (farb r)), [])), ((MV.sc (.bool (farb r)) : MV) = .sc (.bool false)), (T.call 39 [MV.sc (.int .i64 (IntKind.i64.wrap (x + r)))] = some (MV.sc (.bool (farb (IntKind.i64.wrap (x + r)))), [])), ((MV.sc (.bool (farb (IntKind.i64.wrap (x + r)))) : MV) = .sc (.bool false)), (T.call 39 [MV.sc (.int .i64 (IntKind.i64.wrap (x - r)))] = some (MV.sc (.bool (farb (IntKind.i64.wrap (x - r)))), [])), ((MV.sc (.bool (farb (IntKind.i64.wrap (x - r)))) : MV) = .sc (.bool false)), (T.call 39 [MV.sc (.int .i64 (IntKind.i64.wrap (y + r)))] = some (MV.sc (.bool (farb (IntKind.i64.wrap (y + r)))), [])), ((MV.sc (.bool (farb (IntKind.i64.wrap (y + r)))) : MV) = .sc (.bool false)), (T.call 39 [MV.sc (.int .i64 (IntKind.i64.wrap (y - r)))] = some (MV.sc (.bool (farb (IntKind.i64.wrap (y - r)))), []))]) (by kernel_rfl) ⟨h0, h1, h2, h3, h4, h5, h6, h7, h8, h9, h10, h11, h12⟩

theorem c38 (n : Nat) (x y r : Int) : (TT (n + 2)).call 38 [MV.agg [MV.sc (.int .i64 x), MV.sc (.int .i64 y)], MV.sc (.int .i64 r)] = some (.sc (.bool (outb x y r)), []) := by
  refine (deep_call rfl).trans ?_
  show evalBody Go.Proofs.Try.prog (TT (n + 1)) FUEL (ioOf 38) 38 _ = _
  cases b0 : (farb x) with
  | true =>
    refine (p38_0 (TT_io _) _ _ _ (by exact c39 _ ..) (by rw [b0])).trans ?_
    first | rfl | (simp_all [outb]; done) | (simp_all [outb]; (repeat (first | split | intro _)) <;> omega)
  | false =>
    cases b1 : (farb y) with
    | true =>
      refine (p38_1 (TT_io _) _ _ _ (by exact c39 _ ..) (by rw [b0]) (by exact c39 _ ..) (by rw [b1])).trans ?_
      first | rfl | (simp_all [outb]; done) | (simp_all [outb]; (repeat (first | split | intro _)) <;> omega)
    | false =>
      cases b2 : (farb r) with
      | true =>
        refine (p38_2 (TT_io _) _ _ _ (by exact c39 _ ..) (by rw [b0]) (by exact c39 _ ..) (by rw [b1]) (by exact c39 _ ..) (by rw [b2])).trans ?_
        first | rfl | (simp_all [outb]; done) | (simp_all [outb]; (repeat (first | split | intro _)) <;> omega)
      | false =>
        cases b3 : (farb (IntKind.i64.wrap (x + r))) with
        | true =>
          refine (p38_3 (TT_io _) _ _ _ (by exact c39 _ ..) (by rw [b0]) (by exact c39 _ ..) (by rw [b1]) (by exact c39 _ ..) (by rw [b2]) (by exact c39 _ ..) (by rw [b3])).trans ?_
          first | rfl | (simp_all [outb]; done) | (simp_all [outb]; (repeat (first | split | intro _)) <;> omega)
        | false =>
          cases b4 : (farb (IntKind.i64.wrap (x - r))) with
          | true =>
            refine (p38_4 (TT_io _) _ _ _ (by exact c39 _ ..) (by rw [b0]) (by exact c39 _ ..) (by rw [b1]) (by exact c39 _ ..) (by rw [b2]) (by exact c39 _ ..) (by rw [b3]) (by exact c39 _ ..) (by rw [b4])).trans ?_
            first | rfl | (simp_all [outb]; done) | (simp_all [outb]; (repeat (first | split | intro _)) <;> omega)
          | false =>
            cases b5 : (farb (IntKind.i64.wrap (y + r))) with
            | true =>
              refine (p38_5 (TT_io _) _ _ _ (by exact c39 _ ..) (by rw [b0]) (by exact c39 _ ..) (by rw [b1]) (by exact c39 _ ..) (by rw [b2]) (by exact c39 _ ..) (by rw [b3]) (by exact c39 _ ..) (by rw [b4]) (by exact c39 _ ..) (by rw [b5])).trans ?_
              first | rfl | (simp_all [outb]; done) | (simp_all [outb]; (repeat (first | split | intro _)) <;> omega)
            | false =>
              refine (p38_6 (TT_io _) _ _ _ (by exact c39 _ ..) (by rw [b0]) (by exact c39 _ ..) (by rw [b1]) (by exact c39 _ ..) (by rw [b2]) (by exact c39 _ ..) (by rw [b3]) (by exact c39 _ ..) (by rw [b4]) (by exact c39 _ ..) (by rw [b5]) (by exact c39 _ ..)).trans ?_
              first | rfl | (simp_all [outb]; done) | (simp_all [outb]; (repeat (first | split | intro _)) <;> omega)

theorem p22_0 {T : Tab} (hio : T.io = ioOf) (ax ay bx by_ r z : Int) (h0 : T.call 23 [MV.agg [MV.sc (.int .i64 ax), MV.sc (.int .i64 ay)], MV.agg [MV.sc (.int .i64 bx), MV.sc (.int .i64 by_)]] = some (MV.tup [MV.agg [MV.sc (.int .i64 (cmp3 bx ax)), MV.sc (.int .i64 (cmp3 by_ ay))], MV.sc (.bool (okr ax ay bx by_))], [])) (h1 : (MV.sc (.bool (!(okr ax ay bx by_))) : MV) = .sc (.bool true)) : evalBody Go.Proofs.Try.prog T FUEL (ioOf 22) 22 [MV.agg [MV.sc (.int .i64 ax), MV.sc (.int .i64 ay)], MV.agg [MV.sc (.int .i64 bx), MV.sc (.int .i64 by_)], MV.sc (.int .i64 r), MV.sc (.int .i64 z)] = some (MV.sc (.int .i64 1), []) :=
  xBody_io (hard := false) hio (orc := [.call (MV.tup [MV.agg [MV.sc (.int .i64 (cmp3 bx ax)), MV.sc (.int .i64 (cmp3 by_ ay))], MV.sc (.bool (okr ax ay bx by_))]) [], .br true]) (b := [(T.call 23 [MV.agg [MV.sc (.int .i64 ax), MV.sc (.int .i64 ay)], MV.agg [MV.sc (.int .i64 bx), MV.sc (.int .i64 by_)]] = some (MV.tup [MV.agg [MV.sc (.int .i64 (cmp3 bx ax)), MV.sc (.int .i64 (cmp3 by_ ay))], MV.sc (.bool (okr ax ay bx by_))], [])), ((MV.sc (.bool (!(okr ax ay bx by_))) : MV) = .sc (.bool true))]) (by kernel_rfl) ⟨h0, h1⟩

theorem p22_1 {T : Tab} (hio : T.io = ioOf) (ax ay bx by_ r z : Int) (h0 : T.call 23 [MV.agg [MV.sc (.int .i64 ax), MV.sc (.int .i64 ay)], MV.agg [MV.sc (.int .i64 bx), MV.sc (.int .i64 by_)]] = some (MV.tup [MV.agg [MV.sc (.int .i64 (cmp3 bx ax)), MV.sc (.int .i64 (cmp3 by_ ay))], MV.sc (.bool (okr ax ay bx by_))], [])) (h1 : (MV.sc (.bool (!(okr ax ay bx by_))) : MV) = .sc (.bool false)) (h2 : T.call 38 [MV.agg [MV.sc (.int .i64 ax), MV.sc (.int .i64 ay)], MV.sc (.int .i64 r)] = some (MV.sc (.bool (outb ax ay r)), [])) (h3 : (MV.sc (.bool (outb ax ay r)) : MV) = .sc (.bool true)) : evalBody Go.Proofs.Try.prog T FUEL (ioOf 22) 22 [MV.agg [MV.sc (.int .i64 ax), MV.sc (.int .i64 ay)], MV.agg [MV.sc (.int .i64 bx), MV.sc (.int .i64 by_)], MV.sc (.int .i64 r), MV.sc (.int .i64 z)] = some (MV.sc (.int .i64 11), []) :=
  xBody_io (hard := false) hio (orc := [.call (MV.tup [MV.agg [MV.sc (.int .i64 (cmp3 bx ax)), MV.sc (.int .i64 (cmp3 by_ ay))], MV.sc (.bool (okr ax ay bx by_))]) [], .br false, .call (MV.sc (.bool (outb ax ay r))) [], .br true, .auto, .auto]) (b := [(T.call 23 [MV.agg [MV.sc (.int .i64 ax), MV.sc (.int .i64 ay)], MV.agg [MV.sc (.int .i64 bx), MV.sc (.int .i64 by_)]] = some (MV.tup [MV.agg [MV.sc (.int .i64 (cmp3 bx ax)), MV.sc (.int .i64 (cmp3 by_ ay))], MV.sc (.bool (okr ax ay bx by_))], [])), ((MV.sc (.bool (!(okr ax ay bx by_))) : MV) = .sc (.bool false)), (T.call 38 [MV.agg [MV.sc (.int .i64 ax), MV.sc (.int .i64 ay)], MV.sc (.int .i64 r)] = some (MV.sc (.bool (outb ax ay r)), [])), ((MV.sc (.bool (outb ax ay r)) : MV) = .sc (.bool true))]) (by kernel_rfl) ⟨h0, h1, h2, h3⟩

theorem p22_2 {T : Tab} (hio : T.io = ioOf) (ax ay bx by_ r z : Int) (h0 : T.call 23 [MV.agg [MV.sc (.int .i64 ax), MV.sc (.int .i64 ay)], MV.agg [MV.sc (.int .i64 bx), MV.sc (.int .i64 by_)]] = some (MV.tup [MV.agg [MV.sc (.int .i64 (cmp3 bx ax)), MV.sc (.int .i64 (cmp3 by_ ay))], MV.sc (.bool (okr ax ay bx by_))], [])) (h1 : (MV.sc (.bool (!(okr ax ay bx by_))) : MV) = .sc (.bool false)) (h2 : T.call 38 [MV.agg [MV.sc (.int .i64 ax), MV.sc (.int .i64 ay)], MV.sc (.int .i64 r)] = some (MV.sc (.bool (outb ax ay r)), [])) (h3 : (MV.sc (.bool (outb ax ay r)) : MV) = .sc (.bool false)) (h4 : T.call 38 [MV.agg [MV.sc (.int .i64 bx), MV.sc (.int .i64 by_)], MV.sc (.int .i64 r)] = some (MV.sc (.bool (outb bx by_ r)), [])) (h5 : (MV.sc (.bool (outb bx by_ r)) : MV) = .sc (.bool true)) : evalBody Go.Proofs.Try.prog T FUEL (ioOf 22) 22 [MV.agg [MV.sc (.int .i64 ax), MV.sc (.int .i64 ay)], MV.agg [MV.sc (.int .i64 bx), MV.sc (.int .i64 by_)], MV.sc (.int .i64 r), MV.sc (.int .i64 z)] = some (MV.sc (.int .i64 11), []) :=
  xBody_io (hard := false) hio (orc := [.call (MV.tup [MV.agg [MV.sc (.int .i64 (cmp3 bx ax)), MV.sc (.int .i64 (cmp3 by_ ay))], MV.sc (.bool (okr ax ay bx by_))]) [], .br false, .call (MV.sc (.bool (outb ax ay r))) [], .br false, .call (MV.sc (.bool (outb bx by_ r))) [], .br true, .auto]) (b := [(T.call 23 [MV.agg [MV.sc (.int .i64 ax), MV.sc (.int .i64 ay)], MV.agg [MV.sc (.int .i64 bx), MV.sc (.int .i64 by_)]] = some (MV.tup [MV.agg [MV.sc (.int .i64 (cmp3 bx ax)), MV.sc (.int .i64 (cmp3 by_ ay))], MV.sc (.bool (okr ax ay bx by_))], [])), ((MV.sc (.bool (!(okr ax ay bx by_))) : MV) = .sc (.bool false)), (T.call 38 [MV.agg [MV.sc (.int .i64 ax), MV.sc (.int .i64 ay)], MV.sc (.int .i64 r)] = some (MV.sc (.bool (outb ax ay r)), [])), ((MV.sc (.bool (outb ax ay r)) : MV) = .sc (.bool false)), (T.call 38 [MV.agg [MV.sc (.int .i64 bx), MV.sc (.int .i64 by_)], MV.sc (.int .i64 r)] = some (MV.sc (.bool (outb bx by_ r)), [])), ((MV.sc (.bool (outb bx by_ r)) : MV) = .sc (.bool true))]) (by kernel_rfl) ⟨h0, h1, h2, h3, h4, h5⟩

theorem p22_3 {T : Tab} (hio : T.io = ioOf) (ax ay bx by_ r z : Int) (h0 : T.call 23 [MV.agg [MV.sc (.int .i64 ax), MV.sc (.int .i64 ay)], MV.agg [MV.sc (.int .i64 bx), MV.sc (.int .i64 by_)]] = some (MV.tup [MV.agg [MV.sc (.int .i64 (cmp3 bx ax)), MV.sc (.int .i64 (cmp3 by_ ay))], MV.sc (.bool (okr ax ay bx by_))], [])) (h1 : (MV.sc (.bool (!(okr ax ay bx by_))) : MV) = .sc (.bool false)) (h2 : T.call 38 [MV.agg [MV.sc (.int .i64 ax), MV.sc (.int .i64 ay)], MV.sc (.int .i64 r)] = some (MV.sc (.bool (outb ax ay r)), [])) (h3 : (MV.sc (.bool (outb ax ay r)) : MV) = .sc (.bool false)) (h4 : T.call 38 [MV.agg [MV.sc (.int .i64 bx), MV.sc (.int .i64 by_)], MV.sc (.int .i64 r)] = some (MV.sc (.bool (outb bx by_ r)), [])) (h5 : (MV.sc (.bool (outb bx by_ r)) : MV) = .sc (.bool false)) (h6 : T.call 39 [MV.sc (.int .i64 z)] = some (MV.sc (.bool (farb z)), [])) (h7 : (MV.sc (.bool (farb z)) : MV) = .sc (.bool true)) : evalBody Go.Proofs.Try.prog T FUEL (ioOf 22) 22 [MV.agg [MV.sc (.int .i64 ax), MV.sc (.int .i64 ay)], MV.agg [MV.sc (.int .i64 bx), MV.sc (.int .i64 by_)], MV.sc (.int .i64 r), MV.sc (.int .i64 z)] = some (MV.sc (.int .i64 11), []) :=
  xBody_io (hard := false) hio (orc := [.call (MV.tup [MV.agg [MV.sc (.int .i64 (cmp3 bx ax)), MV.sc (.int .i64 (cmp3 by_ ay))], MV.sc (.bool (okr ax ay bx by_))]) [], .br false, .call (MV.sc (.bool (outb ax ay r))) [], .br false, .call (MV.sc (.bool (outb bx by_ r))) [], .br false, .call (MV.sc (.bool (farb z))) [], .br true]) (b := [(T.call 23 [MV.agg [MV.sc (.int .i64 ax), MV.sc (.int .i64 ay)], MV.agg [MV.sc (.int .i64 bx), MV.sc (.int .i64 by_)]] = some (MV.tup [MV.agg [MV.sc (.int .i64 (cmp3 bx ax)), MV.sc (.int .i64 (cmp3 by_ ay))], MV.sc (.bool (okr ax ay bx by_))], [])), ((MV.sc (.bool (!(okr ax ay bx by_))) : MV) = .sc (.bool false)), (T.call 38 [MV.agg [MV.sc (.int .i64 ax), MV.sc (.int .i64 ay)], MV.sc (.int .i64 r)] = some (MV.sc (.bool (outb ax ay r)), [])), ((MV.sc (.bool (outb ax ay r)) : MV) = .sc (.bool false)), (T.call 38 [MV.agg [MV.sc (.int .i64 bx), MV.sc (.int .i64 by_)], MV.sc (.int .i64 r)] = some (MV.sc (.bool (outb bx by_ r)), [])), ((MV.sc (.bool (outb bx by_ r)) : MV) = .sc (.bool false)), (T.call 39 [MV.sc (.int .i64 z)] = some (MV.sc (.bool (farb z)), [])), ((MV.sc (.bool (farb z)) : MV) = .sc (.bool true))]) (by kernel_rfl) ⟨h0, h1, h2, h3, h4, h5, h6, h7⟩

theorem p22_4 {T : Tab} (hio : T.io = ioOf) (ax ay bx by_ r z : Int) (h0 : T.call 23 [MV.agg [MV.sc (.int .i64 ax), MV.sc (.int .i64 ay)], MV.agg [MV.sc (.int .i64 bx), MV.sc (.int .i64 by_)]] = some (MV.tup [MV.agg [MV.sc (.int .i64 (cmp3 bx ax)), MV.sc (.int .i64 (cmp3 by_ ay))], MV.sc (.bool (okr ax ay bx by_))], [])) (h1 : (MV.sc (.bool (!(okr ax ay bx by_))) : MV) = .sc (.bool false)) (h2 : T.call 38 [MV.agg [MV.sc (.int .i64 ax), MV.sc (.int .i64 ay)], MV.sc (.int .i64 r)] = some (MV.sc (.bool (outb ax ay r)), [])) (h3 : (MV.sc (.bool (outb ax ay r)) : MV) = .sc (.bool false)) (h4 : T.call 38 [MV.agg [MV.sc (.int .i64 bx), MV.sc (.int .i64 by_)], MV.sc (.int .i64 r)] = some (MV.sc (.bool (outb bx by_ r)), [])) (h5 : (MV.sc (.bool (outb bx by_ r)) : MV) = .sc (.bool false)) (h6 : T.call 39 [MV.sc (.int .i64 z)] = some (MV.sc (.bool (farb z)), [])) (h7 : (MV.sc (.bool (farb z)) : MV) = .sc (.bool false)) : evalBody Go.Proofs.Try.prog T FUEL (ioOf 22) 22 [MV.agg [MV.sc (.int .i64 ax), MV.sc (.int .i64 ay)], MV.agg [MV.sc (.int .i64 bx), MV.sc (.int .i64 by_)], MV.sc (.int .i64 r), MV.sc (.int .i64 z)] = some (MV.sc (.int .i64 0), []) :=
  xBody_io (hard := false) hio (orc := [.call (MV.tup [MV.agg [MV.sc (.int .i64 (cmp3 bx ax)), MV.sc (.int .i64 (cmp3 by_ ay))], MV.sc (.bool (okr ax ay bx by_))]) [], .br false, .call (MV.sc (.bool (outb ax ay r))) [], .br false, .call (MV.sc (.bool (outb bx by_ r))) [], .br false, .call (MV.sc (.bool (farb z))) [], .br false]) (b := [(T.call 23 [MV.agg [MV.sc (.int .i64 ax), MV.sc (.int .i64 ay)], MV.agg [MV.sc (.int .i64 bx), MV.sc (.int .i64 by_)]] = some (MV.tup [MV.agg [MV.sc (.int .i64 (cmp3 bx ax)), MV.sc (.int .i64 (cmp3 by_ ay))], MV.sc (.bool (okr ax ay bx by_))], [])), ((MV.sc (.bool (!(okr ax ay bx by_))) : MV) = .sc (.bool false)), (T.call 38 [MV.agg [MV.sc (.int .i64 ax), MV.sc (.int .i64 ay)], MV.sc (.int .i64 r)] = some (MV.sc (.bool (outb ax ay r)), [])), ((MV.sc (.bool (outb ax ay r)) : MV) = .sc (.bool false)), (T.call 38 [MV.agg [MV.sc (.int .i64 bx), MV.sc (.int .i64 by_)], MV.sc (.int .i64 r)] = some (MV.sc (.bool (outb bx by_ r)), [])), ((MV.sc (.bool (outb bx by_ r)) : MV) = .sc (.bool false)), (T.call 39 [MV.sc (.int .i64 z)] = some (MV.sc (.bool (farb z)), [])), ((MV.sc (.bool (farb z)) : MV) = .sc (.bool false))]) (by kernel_rfl) ⟨h0, h1, h2, h3, h4, h5, h6, h7⟩

theorem c22 (n : Nat) (ax ay bx by_ r z : Int) : (TT (n + 3)).call 22 [MV.agg [MV.sc (.int .i64 ax), MV.sc (.int .i64 ay)], MV.agg [MV.sc (.int .i64 bx), MV.sc (.int .i64 by_)], MV.sc (.int .i64 r), MV.sc (.int .i64 z)] = some (.sc (.int .i64 (chk ax ay bx by_ r z)), []) := by
  refine (deep_call rfl).trans ?_
  show evalBody Go.Proofs.Try.prog (TT (n + 2)) FUEL (ioOf 22) 22 _ = _
  cases b0 : (!(okr ax ay bx by_)) with
  | true =>
    refine (p22_0 (TT_io _) _ _ _ _ _ _ (by exact c23 _ ..) (by rw [b0])).trans ?_
    first | rfl | (simp_all [chk]; done) | (simp_all [chk]; (repeat (first | split | intro _)) <;> omega)
  | false =>
    cases b1 : (outb ax ay r) with
    | true =>
      refine (p22_1 (TT_io _) _ _ _ _ _ _ (by exact c23 _ ..) (by rw [b0]) (by exact c38 _ ..) (by rw [b1])).trans ?_
      first | rfl | (simp_all [chk]; done) | (simp_all [chk]; (repeat (first | split | intro _)) <;> omega)
    | false =>
      cases b2 : (outb bx by_ r) with
      | true =>
        refine (p22_2 (TT_io _) _ _ _ _ _ _ (by exact c23 _ ..) (by rw [b0]) (by exact c38 _ ..) (by rw [b1]) (by exact c38 _ ..) (by rw [b2])).trans ?_
        first | rfl | (simp_all [chk]; done) | (simp_all [chk]; (repeat (first | split | intro _)) <;> omega)
      | false =>
        cases b3 : (farb z) with
        | true =>
          refine (p22_3 (TT_io _) _ _ _ _ _ _ (by exact c23 _ ..) (by rw [b0]) (by exact c38 _ ..) (by rw [b1]) (by exact c38 _ ..) (by rw [b2]) (by exact c39 _ ..) (by rw [b3])).trans ?_
          first | rfl | (simp_all [chk]; done) | (simp_all [chk]; (repeat (first | split | intro _)) <;> omega)
        | false =>
          refine (p22_4 (TT_io _) _ _ _ _ _ _ (by exact c23 _ ..) (by rw [b0]) (by exact c38 _ ..) (by rw [b1]) (by exact c38 _ ..) (by rw [b2]) (by exact c39 _ ..) (by rw [b3])).trans ?_
          first | rfl | (simp_all [chk]; done) | (simp_all [chk]; (repeat (first | split | intro _)) <;> omega)

theorem p24_0 {T : Tab} (hio : T.io = ioOf) (px py qx qy dx dy : Int)  : evalBody Go.Proofs.Try.prog T FUEL (ioOf 24) 24 [MV.agg [MV.sc (.int .i64 px), MV.sc (.int .i64 py)], MV.agg [MV.sc (.int .i64 qx), MV.sc (.int .i64 qy)], MV.agg [MV.sc (.int .i64 dx), MV.sc (.int .i64 dy)]] = some (MV.sc (.bool (decide ((IntKind.i64.wrap ((IntKind.i64.wrap ((IntKind.i64.wrap (qx - px)) * dx)) + (IntKind.i64.wrap ((IntKind.i64.wrap (qy - py)) * dy)))) > (0 : Int)))), []) :=
  xBody_io (hard := false) hio (orc := []) (b := []) (by kernel_rfl) trivial

theorem c24 (n : Nat) (px py qx qy dx dy : Int) : (TT (n + 1)).call 24 [MV.agg [MV.sc (.int .i64 px), MV.sc (.int .i64 py)], MV.agg [MV.sc (.int .i64 qx), MV.sc (.int .i64 qy)], MV.agg [MV.sc (.int .i64 dx), MV.sc (.int .i64 dy)]] = some (.sc (.bool (befb px py qx qy dx dy)), []) := by
  refine (deep_call rfl).trans ?_
  show evalBody Go.Proofs.Try.prog (TT (n + 0)) FUEL (ioOf 24) 24 _ = _
  refine (p24_0 (TT_io n) _ _ _ _ _ _).trans ?_
  first | rfl | (simp_all [befb]; done) | (simp_all [befb]; (repeat (first | split | intro _)) <;> omega)

theorem p25_0 {T : Tab} (hio : T.io = ioOf) (px py dx dy n_ : Int)  : evalBody Go.Proofs.Try.prog T FUEL (ioOf 25) 25 [MV.agg [MV.sc (.int .i64 px), MV.sc (.int .i64 py)], MV.agg [MV.sc (.int .i64 dx), MV.sc (.int .i64 dy)], MV.sc (.int .i64 n_)] = some (MV.agg [MV.sc (.int .i64 (IntKind.i64.wrap (px + (IntKind.i64.wrap (n_ * dx))))), MV.sc (.int .i64 (IntKind.i64.wrap (py + (IntKind.i64.wrap (n_ * dy)))))], []) :=
  xBody_io (hard := false) hio (orc := []) (b := []) (by kernel_rfl) trivial

theorem c25 (n : Nat) (px py dx dy n_ : Int) : (TT (n + 1)).call 25 [MV.agg [MV.sc (.int .i64 px), MV.sc (.int .i64 py)], MV.agg [MV.sc (.int .i64 dx), MV.sc (.int .i64 dy)], MV.sc (.int .i64 n_)] = some (.agg [.sc (.int .i64 (atb px n_ dx)), .sc (.int .i64 (atb py n_ dy))], []) := by
  refine (deep_call rfl).trans ?_
  show evalBody Go.Proofs.Try.prog (TT (n + 0)) FUEL (ioOf 25) 25 _ = _
  refine (p25_0 (TT_io n) _ _ _ _ _).trans ?_
  first | rfl | (simp_all [atb]; done) | (simp_all [atb]; (repeat (first | split | intro _)) <;> omega)

theorem p49_1_0 {T : Tab} (hio : T.io = ioOf) (x : Int) (h0 : (0 : Int) ≤ (0 : Int) ∧ (0 : Int) < ((1 : Nat) : Int) ∧ ([MV.sc (.int .i64 x)] : List MV) ≠ []) (h1 : T.call 42 [MV.sc (.int .i64 x)] = some (MV.sc (.bool (farb x)), [])) (h2 : (MV.sc (.bool (farb x)) : MV) = .sc (.bool true)) : evalBody Go.Proofs.Try.prog T FUEL (ioOf 49) 49 [MV.fs 1 (some 1) [MV.sc (.int .i64 x)], MV.fn 42 []] = some (MV.sc (.int .i64 0), []) :=
  xBody_io (hard := false) hio (orc := [.auto, .auto, .auto, .call (MV.sc (.bool (farb x))) [], .br true]) (b := [((0 : Int) ≤ (0 : Int) ∧ (0 : Int) < ((1 : Nat) : Int) ∧ ([MV.sc (.int .i64 x)] : List MV) ≠ []), (T.call 42 [MV.sc (.int .i64 x)] = some (MV.sc (.bool (farb x)), [])), ((MV.sc (.bool (farb x)) : MV) = .sc (.bool true))]) (by kernel_rfl) ⟨h0, h1, h2⟩

theorem p49_1_1 {T : Tab} (hio : T.io = ioOf) (x : Int) (h0 : (0 : Int) ≤ (0 : Int) ∧ (0 : Int) < ((1 : Nat) : Int) ∧ ([MV.sc (.int .i64 x)] : List MV) ≠ []) (h1 : T.call 42 [MV.sc (.int .i64 x)] = some (MV.sc (.bool (farb x)), [])) (h2 : (MV.sc (.bool (farb x)) : MV) = .sc (.bool false)) : evalBody Go.Proofs.Try.prog T FUEL (ioOf 49) 49 [MV.fs 1 (some 1) [MV.sc (.int .i64 x)], MV.fn 42 []] = some (MV.sc (.int .i64 (-1)), []) :=
  xBody_io (hard := false) hio (orc := [.auto, .auto, .auto, .call (MV.sc (.bool (farb x))) [], .br false, .auto]) (b := [((0 : Int) ≤ (0 : Int) ∧ (0 : Int) < ((1 : Nat) : Int) ∧ ([MV.sc (.int .i64 x)] : List MV) ≠ []), (T.call 42 [MV.sc (.int .i64 x)] = some (MV.sc (.bool (farb x)), [])), ((MV.sc (.bool (farb x)) : MV) = .sc (.bool false))]) (by kernel_rfl) ⟨h0, h1, h2⟩

theorem c49_1 (n : Nat) (x : Int) : (TT (n + 2)).call 49 [MV.fs 1 (some 1) [MV.sc (.int .i64 x)], MV.fn 42 []] = some (.sc (.int .i64 (idx1 x)), []) := by
  refine (deep_call rfl).trans ?_
  show evalBody Go.Proofs.Try.prog (TT (n + 1)) FUEL (ioOf 49) 49 _ = _
  cases b0 : (farb x) with
  | true =>
    refine (p49_1_0 (TT_io _) _ (by simp) (by exact c42 _ ..) (by rw [b0])).trans ?_
    first | rfl | (simp_all [idx1]; done) | (simp_all [idx1]; (repeat (first | split | intro _)) <;> omega)
  | false =>
    refine (p49_1_1 (TT_io _) _ (by simp) (by exact c42 _ ..) (by rw [b0])).trans ?_
    first | rfl | (simp_all [idx1]; done) | (simp_all [idx1]; (repeat (first | split | intro _)) <;> omega)

theorem p41_1_0 {T : Tab} (hio : T.io = ioOf) (x : Int) (h0 : T.call 49 [MV.fs 1 (some 1) [MV.sc (.int .i64 x)], MV.fn 42 []] = some (MV.sc (.int .i64 (idx1 x)), [])) : evalBody Go.Proofs.Try.prog T FUEL (ioOf 41) 41 [MV.fs 1 (some 1) [MV.sc (.int .i64 x)], MV.fn 42 []] = some (MV.sc (.bool (decide ((idx1 x) ≥ (0 : Int)))), []) :=
  xBody_io (hard := false) hio (orc := [.call (MV.sc (.int .i64 (idx1 x))) []]) (b := [(T.call 49 [MV.fs 1 (some 1) [MV.sc (.int .i64 x)], MV.fn 42 []] = some (MV.sc (.int .i64 (idx1 x)), []))]) (by kernel_rfl) h0

theorem c41_1 (n : Nat) (x : Int) : (TT (n + 3)).call 41 [MV.fs 1 (some 1) [MV.sc (.int .i64 x)], MV.fn 42 []] = some (.sc (.bool (any1 x)), []) := by
  refine (deep_call rfl).trans ?_
  show evalBody Go.Proofs.Try.prog (TT (n + 2)) FUEL (ioOf 41) 41 _ = _
  refine (p41_1_0 (TT_io _) _ (by exact c49_1 _ ..)).trans ?_
  first | rfl | (simp_all [any_idx1]; done) | (simp_all [any_idx1]; (repeat (first | split | intro _)) <;> omega)

theorem p26_1_0 {T : Tab} (hio : T.io = ioOf) (x : Int) (h0 : T.call 41 [MV.fs 1 (some 1) [MV.sc (.int .i64 x)], MV.fn 42 []] = some (MV.sc (.bool (any1 x)), [])) : evalBody Go.Proofs.Try.prog T FUEL (ioOf 26) 26 [MV.fs 1 (some 1) [MV.sc (.int .i64 x)]] = some (MV.sc (.bool (!(any1 x))), []) :=
  xBody_io (hard := false) hio (orc := [.call (MV.sc (.bool (any1 x))) []]) (b := [(T.call 41 [MV.fs 1 (some 1) [MV.sc (.int .i64 x)], MV.fn 42 []] = some (MV.sc (.bool (any1 x)), []))]) (by kernel_rfl) h0

theorem c26_1 (n : Nat) (x : Int) : (TT (n + 4)).call 26 [MV.fs 1 (some 1) [MV.sc (.int .i64 x)]] = some (.sc (.bool (!any1 x)), []) := by
  refine (deep_call rfl).trans ?_
  show evalBody Go.Proofs.Try.prog (TT (n + 3)) FUEL (ioOf 26) 26 _ = _
  refine (p26_1_0 (TT_io _) _ (by exact c41_1 _ ..)).trans ?_
  first | rfl | (simp_all; done) | (simp_all; (repeat (first | split | intro _)) <;> omega)

theorem p49_2_0 {T : Tab} (hio : T.io = ioOf) (x y : Int) (h0 : (0 : Int) ≤ (0 : Int) ∧ (0 : Int) < ((2 : Nat) : Int) ∧ ([MV.sc (.int .i64 x), MV.sc (.int .i64 y)] : List MV) ≠ []) (h1 : T.call 42 [MV.sc (.int .i64 x)] = some (MV.sc (.bool (farb x)), [])) (h2 : (MV.sc (.bool (farb x)) : MV) = .sc (.bool true)) : evalBody Go.Proofs.Try.prog T FUEL (ioOf 49) 49 [MV.fs 2 (some 2) [MV.sc (.int .i64 x), MV.sc (.int .i64 y)], MV.fn 42 []] = some (MV.sc (.int .i64 0), []) :=
  xBody_io (hard := false) hio (orc := [.auto, .auto, .auto, .call (MV.sc (.bool (farb x))) [], .br true]) (b := [((0 : Int) ≤ (0 : Int) ∧ (0 : Int) < ((2 : Nat) : Int) ∧ ([MV.sc (.int .i64 x), MV.sc (.int .i64 y)] : List MV) ≠ []), (T.call 42 [MV.sc (.int .i64 x)] = some (MV.sc (.bool (farb x)), [])), ((MV.sc (.bool (farb x)) : MV) = .sc (.bool true))]) (by kernel_rfl) ⟨h0, h1, h2⟩

theorem p49_2_1 {T : Tab} (hio : T.io = ioOf) (x y : Int) (h0 : (0 : Int) ≤ (0 : Int) ∧ (0 : Int) < ((2 : Nat) : Int) ∧ ([MV.sc (.int .i64 x), MV.sc (.int .i64 y)] : List MV) ≠ []) (h1 : T.call 42 [MV.sc (.int .i64 x)] = some (MV.sc (.bool (farb x)), [])) (h2 : (MV.sc (.bool (farb x)) : MV) = .sc (.bool false)) (h3 : (0 : Int) ≤ (1 : Int) ∧ (1 : Int) < ((2 : Nat) : Int) ∧ ([MV.sc (.int .i64 x), MV.sc (.int .i64 y)] : List MV) ≠ []) (h4 : T.call 42 [MV.sc (.int .i64 y)] = some (MV.sc (.bool (farb y)), [])) (h5 : (MV.sc (.bool (farb y)) : MV) = .sc (.bool true)) : evalBody Go.Proofs.Try.prog T FUEL (ioOf 49) 49 [MV.fs 2 (some 2) [MV.sc (.int .i64 x), MV.sc (.int .i64 y)], MV.fn 42 []] = some (MV.sc (.int .i64 1), []) :=
  xBody_io (hard := false) hio (orc := [.auto, .auto, .auto, .call (MV.sc (.bool (farb x))) [], .br false, .auto, .auto, .call (MV.sc (.bool (farb y))) [], .br true]) (b := [((0 : Int) ≤ (0 : Int) ∧ (0 : Int) < ((2 : Nat) : Int) ∧ ([MV.sc (.int .i64 x), MV.sc (.int .i64 y)] : List MV) ≠ []), (T.call 42 [MV.sc (.int .i64 x)] = some (MV.sc (.bool (farb x)), [])), ((MV.sc (.bool (farb x)) : MV) = .sc (.bool false)), ((0 : Int) ≤ (1 : Int) ∧ (1 : Int) < ((2 : Nat) : Int) ∧ ([MV.sc (.int .i64 x), MV.sc (.int .i64 y)] : List MV) ≠ []), (T.call 42 [MV.sc (.int .i64 y)] = some (MV.sc (.bool (farb y)), [])), ((MV.sc (.bool (farb y)) : MV) = .sc (.bool true))]) (by kernel_rfl) ⟨h0, h1, h2, h3, h4, h5⟩

theorem p49_2_2 {T : Tab} (hio : T.io = ioOf) (x y : Int) (h0 : (0 : Int) ≤ (0 : Int) ∧ (0 : Int) < ((2 : Nat) : Int) ∧ ([MV.sc (.int .i64 x), MV.sc (.int .i64 y)] : List MV) ≠ []) (h1 : T.call 42 [MV.sc (.int .i64 x)] = some (MV.sc (.bool (farb x)), [])) (h2 : (MV.sc (.bool (farb x)) : MV) = .sc (.bool false)) (h3 : (0 : Int) ≤ (1 : Int) ∧ (1 : Int) < ((2 : Nat) : Int) ∧ ([MV.sc (.int .i64 x), MV.sc (.int .i64 y)] : List MV) ≠ []) (h4 : T.call 42 [MV.sc (.int .i64 y)] = some (MV.sc (.bool (farb y)), [])) (h5 : (MV.sc (.bool (farb y)) : MV) = .sc (.bool false)) : evalBody Go.Proofs.Try.prog T FUEL (ioOf 49) 49 [MV.fs 2 (some 2) [MV.sc (.int .i64 x), MV.sc (.int .i64 y)], MV.fn 42 []] = some (MV.sc (.int .i64 (-1)), []) :=
  xBody_io (hard := false) hio (orc := [.auto, .auto, .auto, .call (MV.sc (.bool (farb x))) [], .br false, .auto, .auto, .call (MV.sc (.bool (farb y))) [], .br false, .auto]) (b := [((0 : Int) ≤ (0 : Int) ∧ (0 : Int) < ((2 : Nat) : Int) ∧ ([MV.sc (.int .i64 x), MV.sc (.int .i64 y)] : List MV) ≠ []), (T.call 42 [MV.sc (.int .i64 x)] = some (MV.sc (.bool (farb x)), [])), ((MV.sc (.bool (farb x)) : MV) = .sc (.bool false)), ((0 : Int) ≤ (1 : Int) ∧ (1 : Int) < ((2 : Nat) : Int) ∧ ([MV.sc (.int .i64 x), MV.sc (.int .i64 y)] : List MV) ≠ []), (T.call 42 [MV.sc (.int .i64 y)] = some (MV.sc (.bool (farb y)), [])), ((MV.sc (.bool (farb y)) : MV) = .sc (.bool false))]) (by kernel_rfl) ⟨h0, h1, h2, h3, h4, h5⟩

theorem c49_2 (n : Nat) (x y : Int) : (TT (n + 2)).call 49 [MV.fs 2 (some 2) [MV.sc (.int .i64 x), MV.sc (.int .i64 y)], MV.fn 42 []] = some (.sc (.int .i64 (idx2 x y)), []) := by
  refine (deep_call rfl).trans ?_
  show evalBody Go.Proofs.Try.prog (TT (n + 1)) FUEL (ioOf 49) 49 _ = _
  cases b0 : (farb x) with
  | true =>
    refine (p49_2_0 (TT_io _) _ _ (by simp) (by exact c42 _ ..) (by rw [b0])).trans ?_
    first | rfl | (simp_all [idx2]; done) | (simp_all [idx2]; (repeat (first | split | intro _)) <;> omega)
  | false =>
    cases b1 : (farb y) with
    | true =>
      refine (p49_2_1 (TT_io _) _ _ (by simp) (by exact c42 _ ..) (by rw [b0]) (by simp) (by exact c42 _ ..) (by rw [b1])).trans ?_
      first | rfl | (simp_all [idx2]; done) | (simp_all [idx2]; (repeat (first | split | intro _)) <;> omega)
    | false =>
      refine (p49_2_2 (TT_io _) _ _ (by simp) (by exact c42 _ ..) (by rw [b0]) (by simp) (by exact c42 _ ..) (by rw [b1])).trans ?_
      first | rfl | (simp_all [idx2]; done) | (simp_all [idx2]; (repeat (first | split | intro _)) <;> omega)

theorem p41_2_0 {T : Tab} (hio : T.io = ioOf) (x y : Int) (h0 : T.call 49 [MV.fs 2 (some 2) [MV.sc (.int .i64 x), MV.sc (.int .i64 y)], MV.fn 42 []] = some (MV.sc (.int .i64 (idx2 x y)), [])) : evalBody Go.Proofs.Try.prog T FUEL (ioOf 41) 41 [MV.fs 2 (some 2) [MV.sc (.int .i64 x), MV.sc (.int .i64 y)], MV.fn 42 []] = some (MV.sc (.bool (decide ((idx2 x y) ≥ (0 : Int)))), []) :=
  xBody_io (hard := false) hio (orc := [.call (MV.sc (.int .i64 (idx2 x y))) []]) (b := [(T.call 49 [MV.fs 2 (some 2) [MV.sc (.int .i64 x), MV.sc (.int .i64 y)], MV.fn 42 []] = some (MV.sc (.int .i64 (idx2 x y)), []))]) (by kernel_rfl) h0

theorem c41_2 (n : Nat) (x y : Int) : (TT (n + 3)).call 41 [MV.fs 2 (some 2) [MV.sc (.int .i64 x), MV.sc (.int .i64 y)], MV.fn 42 []] = some (.sc (.bool (any2 x y)), []) := by
  refine (deep_call rfl).trans ?_
  show evalBody Go.Proofs.Try.prog (TT (n + 2)) FUEL (ioOf 41) 41 _ = _
  refine (p41_2_0 (TT_io _) _ _ (by exact c49_2 _ ..)).trans ?_
  first | rfl | (simp_all [any_idx2]; done) | (simp_all [any_idx2]; (repeat (first | split | intro _)) <;> omega)

theorem p26_2_0 {T : Tab} (hio : T.io = ioOf) (x y : Int) (h0 : T.call 41 [MV.fs 2 (some 2) [MV.sc (.int .i64 x), MV.sc (.int .i64 y)], MV.fn 42 []] = some (MV.sc (.bool (any2 x y)), [])) : evalBody Go.Proofs.Try.prog T FUEL (ioOf 26) 26 [MV.fs 2 (some 2) [MV.sc (.int .i64 x), MV.sc (.int .i64 y)]] = some (MV.sc (.bool (!(any2 x y))), []) :=
  xBody_io (hard := false) hio (orc := [.call (MV.sc (.bool (any2 x y))) []]) (b := [(T.call 41 [MV.fs 2 (some 2) [MV.sc (.int .i64 x), MV.sc (.int .i64 y)], MV.fn 42 []] = some (MV.sc (.bool (any2 x y)), []))]) (by kernel_rfl) h0

theorem c26_2 (n : Nat) (x y : Int) : (TT (n + 4)).call 26 [MV.fs 2 (some 2) [MV.sc (.int .i64 x), MV.sc (.int .i64 y)]] = some (.sc (.bool (!any2 x y)), []) := by
  refine (deep_call rfl).trans ?_
  show evalBody Go.Proofs.Try.prog (TT (n + 3)) FUEL (ioOf 26) 26 _ = _
  refine (p26_2_0 (TT_io _) _ _ (by exact c41_2 _ ..)).trans ?_
  first | rfl | (simp_all; done) | (simp_all; (repeat (first | split | intro _)) <;> omega)

theorem p49_4_0 {T : Tab} (hio : T.io = ioOf) (x y z w : Int) (h0 : (0 : Int) ≤ (0 : Int) ∧ (0 : Int) < ((4 : Nat) : Int) ∧ ([MV.sc (.int .i64 x), MV.sc (.int .i64 y), MV.sc (.int .i64 z), MV.sc (.int .i64 w)] : List MV) ≠ []) (h1 : T.call 42 [MV.sc (.int .i64 x)] = some (MV.sc (.bool (farb x)), [])) (h2 : (MV.sc (.bool (farb x)) : MV) = .sc (.bool true)) : evalBody Go.Proofs.Try.prog T FUEL (ioOf 49) 49 [MV.fs 4 (some 4) [MV.sc (.int .i64 x), MV.sc (.int .i64 y), MV.sc (.int .i64 z), MV.sc (.int .i64 w)], MV.fn 42 []] = some (MV.sc (.int .i64 0), []) :=
  xBody_io (hard := false) hio (orc := [.auto, .auto, .auto, .call (MV.sc (.bool (farb x))) [], .br true]) (b := [((0 : Int) ≤ (0 : Int) ∧ (0 : Int) < ((4 : Nat) : Int) ∧ ([MV.sc (.int .i64 x), MV.sc (.int .i64 y), MV.sc (.int .i64 z), MV.sc (.int .i64 w)] : List MV) ≠ []), (T.call 42 [MV.sc (.int .i64 x)] = some (MV.sc (.bool (farb x)), [])), ((MV.sc (.bool (farb x)) : MV) = .sc (.bool true))]) (by kernel_rfl) ⟨h0, h1, h2⟩

theorem p49_4_1 {T : Tab} (hio : T.io = ioOf) (x y z w : Int) (h0 : (0 : Int) ≤ (0 : Int) ∧ (0 : Int) < ((4 : Nat) : Int) ∧ ([MV.sc (.int .i64 x), MV.sc (.int .i64 y), MV.sc (.int .i64 z), MV.sc (.int .i64 w)] : List MV) ≠ []) (h1 : T.call 42 [MV.sc (.int .i64 x)] = some (MV.sc (.bool (farb x)), [])) (h2 : (MV.sc (.bool (farb x)) : MV) = .sc (.bool false)) (h3 : (0 : Int) ≤ (1 : Int) ∧ (1 : Int) < ((4 : Nat) : Int) ∧ ([MV.sc (.int .i64 x), MV.sc (.int .i64 y), MV.sc (.int .i64 z), MV.sc (.int .i64 w)] : List MV) ≠ []) (h4 : T.call 42 [MV.sc (.int .i64 y)] = some (MV.sc (.bool (farb y)), [])) (h5 : (MV.sc (.bool (farb y)) : MV) = .sc (.bool true)) : evalBody Go.Proofs.Try.prog T FUEL (ioOf 49) 49 [MV.fs 4 (some 4) [MV.sc (.int .i64 x), MV.sc (.int .i64 y), MV.sc (.int .i64 z), MV.sc (.int .i64 w)], MV.fn 42 []] = some (MV.sc (.int .i64 1), []) :=
  xBody_io (hard := false) hio (orc := [.auto, .auto, .auto, .call (MV.sc (.bool (farb x))) [], .br false, .auto, .auto, .call (MV.sc (.bool (farb y))) [], .br true]) (b := [((0 : Int) ≤ (0 : Int) ∧ (0 : Int) < ((4 : Nat) : Int) ∧ ([MV.sc (.int .i64 x), MV.sc (.int .i64 y), MV.sc (.int .i64 z), MV.sc (.int .i64 w)] : List MV) ≠ []), (T.call 42 [MV.sc (.int .i64 x)] = some (MV.sc (.bool (farb x)), [])), ((MV.sc (.bool (farb x)) : MV) = .sc (.bool false)), ((0 : Int) ≤ (1 : Int) ∧ (1 : Int) < ((4 : Nat) : Int) ∧ ([MV.sc (.int .i64 x), MV.sc (.int .i64 y), MV.sc (.int .i64 z), MV.sc (.int .i64 w)] : List MV) ≠ []), (T.call 42 [MV.sc (.int .i64 y)] = some (MV.sc (.bool (farb y)), [])), ((MV.sc (.bool (farb y)) : MV) = .sc (.bool true))]) (by kernel_rfl) ⟨h0, h1, h2, h3, h4, h5⟩

theorem p49_4_2 {T : Tab} (hio : T.io = ioOf) (x y z w : Int) (h0 : (0 : Int) ≤ (0 : Int) ∧ (0 : Int) < ((4 : Nat) : Int) ∧ ([MV.sc (.int .i64 x), MV.sc (.int .i64 y), MV.sc (.int .i64 z), MV.sc (.int .i64 w)] : List MV) ≠ []) (h1 : T.call 42 [MV.sc (.int .i64 x)] = some (MV.sc (.bool (farb x)), [])) (h2 : (MV.sc (.bool (farb x)) : MV) = .sc (.bool false)) (h3 : (0 : Int) ≤ (1 : Int) ∧ (1 : Int) < ((4 : Nat) : Int) ∧ ([MV.sc (.int .i64 x), MV.sc (.int .i64 y), MV.sc (.int .i64 z), MV.sc (.int .i64 w)] : List MV) ≠ []) (h4 : T.call 42 [MV.sc (.int .i64 y)] = some (MV.sc (.bool (farb y)), [])) (h5 : (MV.sc (.bool (farb y)) : MV) = .sc (.bool false)) (h6 : (0 : Int) ≤ (2 : Int) ∧ (2 : Int) < ((4 : Nat) : Int) ∧ ([MV.sc (.int .i64 x), MV.sc (.int .i64 y), MV.sc (.int .i64 z), MV.sc (.int .i64 w)] : List MV) ≠ []) (h7 : T.call 42 [MV.sc (.int .i64 z)] = some (MV.sc (.bool (farb z)), [])) (h8 : (MV.sc (.bool (farb z)) : MV) = .sc (.bool true)) : evalBody Go.Proofs.Try.prog T FUEL (ioOf 49) 49 [MV.fs 4 (some 4) [MV.sc (.int .i64 x), MV.sc (.int .i64 y), MV.sc (.int .i64 z), MV.sc (.int .i64 w)], MV.fn 42 []] = some (MV.sc (.int .i64 2), []) :=
  xBody_io (hard := false) hio (orc := [.auto, .auto, .auto, .call (MV.sc (.bool (farb x))) [], .br false, .auto, .auto, .call (MV.sc (.bool (farb y))) [], .br false, .auto, .auto, .call (MV.sc (.bool (farb z))) [], .br true]) (b := [((0 : Int) ≤ (0 : Int) ∧ (0 : Int) < ((4 : Nat) : Int) ∧ ([MV.sc (.int .i64 x), MV.sc (.int .i64 y), MV.sc (.int .i64 z), MV.sc (.int .i64 w)] : List MV) ≠ []), (T.call 42 [MV.sc (.int .i64 x)] = some (MV.sc (.bool (farb x)), [])), ((MV.sc (.bool (farb x)) : MV) = .sc (.bool false)), ((0 : Int) ≤ (1 : Int) ∧ (1 : Int) < ((4 : Nat) : Int) ∧ ([MV.sc (.int .i64 x), MV.sc (.int .i64 y), MV.sc (.int .i64 z), MV.sc (.int .i64 w)] : List MV) ≠ []), (T.call 42 [MV.sc (.int .i64 y)] = some (MV.sc (.bool (farb y)), [])), ((MV.sc (.bool (farb y)) : MV) = .sc (.bool false)), ((0 : Int) ≤ (2 : Int) ∧ (2 : Int) < ((4 : Nat) : Int) ∧ ([MV.sc (.int .i64 x), MV.sc (.int .i64 y), MV.sc (.int .i64 z), MV.sc (.int .i64 w)] : List MV) ≠ []), (T.call 42 [MV.sc (.int .i64 z)] = some (MV.sc (.bool (farb z)), [])), ((MV.sc (.bool (farb z)) : MV) = .sc (.bool true))]) (by kernel_rfl) ⟨h0, h1, h2, h3, h4, h5, h6, h7, h8⟩

theorem p49_4_3 {T : Tab} (hio : T.io = ioOf) (x y z w : Int) (h0 : (0 : Int) ≤ (0 : Int) ∧ (0 : Int) < ((4 : Nat) : Int) ∧ ([MV.sc (.int .i64 x), MV.sc (.int .i64 y), MV.sc (.int .i64 z), MV.sc (.int .i64 w)] : List MV) ≠ []) (h1 : T.call 42 [MV.sc (.int .i64 x)] = some (MV.sc (.bool (farb x)), [])) (h2 : (MV.sc (.bool (farb x)) : MV) = .sc (.bool false)) (h3 : (0 : Int) ≤ (1 : Int) ∧ (1 : Int) < ((4 : Nat) : Int) ∧ ([MV.sc (.int .i64 x), MV.sc (.int .i64 y), MV.sc (.int .i64 z), MV.sc (.int .i64 w)] : List MV) ≠ []) (h4 : T.call 42 [MV.sc (.int .i64 y)] = some (MV.sc (.bool (farb y)), [])) (h5 : (MV.sc (.bool (farb y)) : MV) = .sc (.bool false)) (h6 : (0 : Int) ≤ (2 : Int) ∧ (2 : Int) < ((4 : Nat) : Int) ∧ ([MV.sc (.int .i64 x), MV.sc (.int .i64 y), MV.sc (.int .i64 z), MV.sc (.int .i64 w)] : List MV) ≠ []) (h7 : T.call 42 [MV.sc (.int .i64 z)] = some (MV.sc (.bool (farb z)), [])) (h8 : (MV.sc (.bool (farb z)) : MV) = .sc (.bool false)) (h9 : (0 : Int) ≤ (3 : Int) ∧ (3 : Int) < ((4 : Nat) : Int) ∧ ([MV.sc (.int .i64 x), MV.sc (.int .i64 y), MV.sc (.int .i64 z), MV.sc (.int .i64 w)] : List MV) ≠ []) (h10 : T.call 42 [MV.sc (.int .i64 w)] = some (MV.sc (.bool (farb w)), [])) (h11 : (MV.sc (.bool (farb w)) : MV) = .sc (.bool true)) : evalBody Go.Proofs.Try.prog T FUEL (ioOf 49) 49 [MV.fs 4 (some 4) [MV.sc (.int .i64 x), MV.sc (.int .i64 y), MV.sc (.int .i64 z), MV.sc (.int .i64 w)], MV.fn 42 []] = some (MV.sc (.int .i64 3), []) :=
  xBody_io (hard := false) hio (orc := [.auto, .auto, .auto, .call (MV.sc (.bool (farb x))) [], .br false, .auto, .auto, .call (MV.sc (.bool (farb y))) [], .br false, .auto, .auto, .call (MV.sc (.bool (farb z))) [], .br false, .auto, .auto, .call (MV.sc (.bool (farb w))) [], .br true]) (b := [((0 : Int) ≤ (0 : Int) ∧ (0 : Int) < ((4 : Nat) : Int) ∧ ([MV.sc (.int .i64 x), MV.sc (.int .i64 y), MV.sc (.int .i64 z), MV.sc (.int .i64 w)] : List MV) ≠ []), (T.call 42 [MV.sc (.int .i64 x)] = some (MV.sc (.bool (farb x)), [])), ((MV.sc (.bool (farb x)) : MV) = .sc (.bool false)), ((0 : Int) ≤ (1 : Int) ∧ (1 : Int) < ((4 : Nat) : Int) ∧ ([MV.sc (.int .i64 x), MV.sc (.int .i64 y), MV.sc (.int .i64 z), MV.sc (.int .i64 w)] : List MV) ≠ []), (T.call 42 [MV.sc (.int .i64 y)] = some (MV.sc (.bool (farb y)), [])), ((MV.sc (.bool (farb y)) : MV) = .sc (.bool false)), ((0 : Int) ≤ (2 : Int) ∧ (2 : Int) < ((4 : Nat) : Int) ∧ ([MV.sc (.int .i64 x), MV.sc (.int .i64 y), MV.sc (.int .i64 z), MV.sc (.int .i64 w)] : List MV) ≠ []), (T.call 42 [MV.sc (.int .i64 z)] = some (MV.sc (.bool (farb z)), [])), ((MV.sc (.bool (farb z)) : MV) = .sc (.bool false)), ((0 : Int) ≤ (3 : Int) ∧ (3 : Int) < ((4 : Nat) : Int) ∧ ([MV.sc (.int .i64 x), MV.sc (.int .i64 y), MV.sc (.int .i64 z), MV.sc (.int .i64 w)] : List MV) ≠ []), (T.call 42 [MV.sc (.int .i64 w)] = some (MV.sc (.bool (farb w)), [])), ((MV.sc (.bool (farb w)) : MV) = .sc (.bool true))]) (by kernel_rfl) ⟨h0, h1, h2, h3, h4, h5, h6, h7, h8, h9, h10, h11⟩

theorem p49_4_4 {T : Tab} (hio : T.io = ioOf) (x y z w : Int) (h0 : (0 : Int) ≤ (0 : Int) ∧ (0 : Int) < ((4 : Nat) : Int) ∧ ([MV.sc (.int .i64 x), MV.sc (.int .i64 y), MV.sc (.int .i64 z), MV.sc (.int .i64 w)] : List MV) ≠ []) (h1 : T.call 42 [MV.sc (.int .i64 x)] = some (MV.sc (.bool (farb x)), [])) (h2 : (MV.sc (.bool (farb x)) : MV) = .sc (.bool false)) (h3 : (0 : Int) ≤ (1 : Int) ∧ (1 : Int) < ((4 : Nat) : Int) ∧ ([MV.sc (.int .i64 x), MV.sc (.int .i64 y), MV.sc (.int .i64 z), MV.sc (.int .i64 w)] : List MV) ≠ []) (h4 : T.call 42 [MV.sc (.int .i64 y)] = some (MV.sc (.bool (farb y)), [])) (h5 : (MV.sc (.bool (farb y)) : MV) = .sc (.bool false)) (h6 : (0 : Int) ≤ (2 : Int) ∧ (2 : Int) < ((4 : Nat) : Int) ∧ ([MV.sc (.int .i64 x), MV.sc (.int .i64 y), MV.sc (.int .i64 z), MV.sc (.int .i64 w)] : List MV) ≠ []) (h7 : T.call 42 [MV.sc (.int .i64 z)] = some (MV.sc (.bool (farb z)), [])) (h8 : (MV.sc (.bool (farb z)) : MV) = .sc (.bool false)) (h9 : (0 : Int) ≤ (3 : Int) ∧ (3 : Int) < ((4 : Nat) : Int) ∧ ([MV.sc (.int .i64 x), MV.sc (.int .i64 y), MV.sc (.int .i64 z), MV.sc (.int .i64 w)] : List MV) ≠ []) (h10 : T.call 42 [MV.sc (.int .i64 w)] = some (MV.sc (.bool (farb w)), [])) (h11 : (MV.sc (.bool (farb w)) : MV) = .sc (.bool false)) : evalBody Go.Proofs.Try.prog T FUEL (ioOf 49) 49 [MV.fs 4 (some 4) [MV.sc (.int .i64 x), MV.sc (.int .i64 y), MV.sc (.int .i64 z), MV.sc (.int .i64 w)], MV.fn 42 []] = some (MV.sc (.int .i64 (-1)), []) :=
  xBody_io (hard := false) hio (orc := [.auto, .auto, .auto, .call (MV.sc (.bool (farb x))) [], .br false, .auto, .auto, .call (MV.sc (.bool (farb y))) [], .br false, .auto, .auto, .call (MV.sc (.bool (farb z))) [], .br false, .auto, .auto, .call (MV.sc (.bool (farb w))) [], .br false, .auto]) (b := [((0 : Int) ≤ (0 : Int) ∧ (0 : Int) < ((4 : Nat) : Int) ∧ ([MV.sc (.int .i64 x), MV.sc (.int .i64 y), MV.sc (.int .i64 z), MV.sc (.int .i64 w)] : List MV) ≠ []), (T.call 42 [MV.sc (.int .i64 x)] = some (MV.sc (.bool (farb x)), [])), ((MV.sc (.bool (farb x)) : MV) = .sc (.bool false)), ((0 : Int) ≤ (1 : Int) ∧ (1 : Int) < ((4 : Nat) : Int) ∧ ([MV.sc (.int .i64 x), MV.sc (.int .i64 y), MV.sc (.int .i64 z), MV.sc (.int .i64 w)] : List MV) ≠ []), (T.call 42 [MV.sc (.int .i64 y)] = some (MV.sc (.bool (farb y)), [])), ((MV.sc (.bool (farb y)) : MV) = .sc (.bool false)), ((0 : Int) ≤ (2 : Int) ∧ (2 : Int) < ((4 : Nat) : Int) ∧ ([MV.sc (.int .i64 x), MV.sc (.int .i64 y), MV.sc (.int .i64 z), MV.sc (.int .i64 w)] : List MV) ≠ []), (T.call 42 [MV.sc (.int .i64 z)] = some (MV.sc (.bool (farb z)), [])), ((MV.sc (.bool (farb z)) : MV) = .sc (.bool false)), ((0 : Int) ≤ (3 : Int) ∧ (3 : Int) < ((4 : Nat) : Int) ∧ ([MV.sc (.int .i64 x), MV.sc (.int .i64 y), MV.sc (.int .i64 z), MV.sc (.int .i64 w)] : List MV) ≠ []), (T.call 42 [MV.sc (.int .i64 w)] = some (MV.sc (.bool (farb w)), [])), ((MV.sc (.bool (farb w)) : MV) = .sc (.bool false))]) (by kernel_rfl) ⟨h0, h1, h2, h3, h4, h5, h6, h7, h8, h9, h10, h11⟩

theorem c49_4 (n : Nat) (x y z w : Int) : (TT (n + 2)).call 49 [MV.fs 4 (some 4) [MV.sc (.int .i64 x), MV.sc (.int .i64 y), MV.sc (.int .i64 z), MV.sc (.int .i64 w)], MV.fn 42 []] = some (.sc (.int .i64 (idx4 x y z w)), []) := by
  refine (deep_call rfl).trans ?_
  show evalBody Go.Proofs.Try.prog (TT (n + 1)) FUEL (ioOf 49) 49 _ = _
  cases b0 : (farb x) with
  | true =>
    refine (p49_4_0 (TT_io _) _ _ _ _ (by simp) (by exact c42 _ ..) (by rw [b0])).trans ?_
    first | rfl | (simp_all [idx4]; done) | (simp_all [idx4]; (repeat (first | split | intro _)) <;> omega)
  | false =>
    cases b1 : (farb y) with
    | true =>
      refine (p49_4_1 (TT_io _) _ _ _ _ (by simp) (by exact c42 _ ..) (by rw [b0]) (by simp) (by exact c42 _ ..) (by rw [b1])).trans ?_
      first | rfl | (simp_all [idx4]; done) | (simp_all [idx4]; (repeat (first | split | intro _)) <;> omega)
    | false =>
      cases b2 : (farb z) with
      | true =>
        refine (p49_4_2 (TT_io _) _ _ _ _ (by simp) (by exact c42 _ ..) (by rw [b0]) (by simp) (by exact c42 _ ..) (by rw [b1]) (by simp) (by exact c42 _ ..) (by rw [b2])).trans ?_
        first | rfl | (simp_all [idx4]; done) | (simp_all [idx4]; (repeat (first | split | intro _)) <;> omega)
      | false =>
        cases b3 : (farb w) with
        | true =>
          refine (p49_4_3 (TT_io _) _ _ _ _ (by simp) (by exact c42 _ ..) (by rw [b0]) (by simp) (by exact c42 _ ..) (by rw [b1]) (by simp) (by exact c42 _ ..) (by rw [b2]) (by simp) (by exact c42 _ ..) (by rw [b3])).trans ?_
          first | rfl | (simp_all [idx4]; done) | (simp_all [idx4]; (repeat (first | split | intro _)) <;> omega)
        | false =>
          refine (p49_4_4 (TT_io _) _ _ _ _ (by simp) (by exact c42 _ ..) (by rw [b0]) (by simp) (by exact c42 _ ..) (by rw [b1]) (by simp) (by exact c42 _ ..) (by rw [b2]) (by simp) (by exact c42 _ ..) (by rw [b3])).trans ?_
          first | rfl | (simp_all [idx4]; done) | (simp_all [idx4]; (repeat (first | split | intro _)) <;> omega)

theorem p41_4_0 {T : Tab} (hio : T.io = ioOf) (x y z w : Int) (h0 : T.call 49 [MV.fs 4 (some 4) [MV.sc (.int .i64 x), MV.sc (.int .i64 y), MV.sc (.int .i64 z), MV.sc (.int .i64 w)], MV.fn 42 []] = some (MV.sc (.int .i64 (idx4 x y z w)), [])) : evalBody Go.Proofs.Try.prog T FUEL (ioOf 41) 41 [MV.fs 4 (some 4) [MV.sc (.int .i64 x), MV.sc (.int .i64 y), MV.sc (.int .i64 z), MV.sc (.int .i64 w)], MV.fn 42 []] = some (MV.sc (.bool (decide ((idx4 x y z w) ≥ (0 : Int)))), []) :=
  xBody_io (hard := false) hio (orc := [.call (MV.sc (.int .i64 (idx4 x y z w))) []]) (b := [(T.call 49 [MV.fs 4 (some 4) [MV.sc (.int .i64 x), MV.sc (.int .i64 y), MV.sc (.int .i64 z), MV.sc (.int .i64 w)], MV.fn 42 []] = some (MV.sc (.int .i64 (idx4 x y z w)), []))]) (by kernel_rfl) h0

theorem c41_4 (n : Nat) (x y z w : Int) : (TT (n + 3)).call 41 [MV.fs 4 (some 4) [MV.sc (.int .i64 x), MV.sc (.int .i64 y), MV.sc (.int .i64 z), MV.sc (.int .i64 w)], MV.fn 42 []] = some (.sc (.bool (any4 x y z w)), []) := by
  refine (deep_call rfl).trans ?_
  show evalBody Go.Proofs.Try.prog (TT (n + 2)) FUEL (ioOf 41) 41 _ = _
  refine (p41_4_0 (TT_io _) _ _ _ _ (by exact c49_4 _ ..)).trans ?_
  first | rfl | (simp_all [any_idx4]; done) | (simp_all [any_idx4]; (repeat (first | split | intro _)) <;> omega)

theorem p26_4_0 {T : Tab} (hio : T.io = ioOf) (x y z w : Int) (h0 : T.call 41 [MV.fs 4 (some 4) [MV.sc (.int .i64 x), MV.sc (.int .i64 y), MV.sc (.int .i64 z), MV.sc (.int .i64 w)], MV.fn 42 []] = some (MV.sc (.bool (any4 x y z w)), [])) : evalBody Go.Proofs.Try.prog T FUEL (ioOf 26) 26 [MV.fs 4 (some 4) [MV.sc (.int .i64 x), MV.sc (.int .i64 y), MV.sc (.int .i64 z), MV.sc (.int .i64 w)]] = some (MV.sc (.bool (!(any4 x y z w))), []) :=
  xBody_io (hard := false) hio (orc := [.call (MV.sc (.bool (any4 x y z w))) []]) (b := [(T.call 41 [MV.fs 4 (some 4) [MV.sc (.int .i64 x), MV.sc (.int .i64 y), MV.sc (.int .i64 z), MV.sc (.int .i64 w)], MV.fn 42 []] = some (MV.sc (.bool (any4 x y z w)), []))]) (by kernel_rfl) h0

theorem c26_4 (n : Nat) (x y z w : Int) : (TT (n + 4)).call 26 [MV.fs 4 (some 4) [MV.sc (.int .i64 x), MV.sc (.int .i64 y), MV.sc (.int .i64 z), MV.sc (.int .i64 w)]] = some (.sc (.bool (!any4 x y z w)), []) := by
  refine (deep_call rfl).trans ?_
  show evalBody Go.Proofs.Try.prog (TT (n + 3)) FUEL (ioOf 26) 26 _ = _
  refine (p26_4_0 (TT_io _) _ _ _ _ (by exact c41_4 _ ..)).trans ?_
  first | rfl | (simp_all; done) | (simp_all; (repeat (first | split | intro _)) <;> omega)

theorem p20_0 {T : Tab} (hio : T.io = ioOf) (x y r : Int) (h0 : T.call 26 [MV.fs 2 (some 2) [MV.sc (.int .i64 x), MV.sc (.int .i64 y)]] = some (MV.sc (.bool (!any2 x y)), [])) (h1 : (MV.sc (.bool (!any2 x y)) : MV) = .sc (.bool true)) (h2 : (MV.sc (.bool (decide (r ≤ (20000000 : Int)))) : MV) = .sc (.bool true)) (h3 : T.call 26 [MV.fs 4 (some 4) [MV.sc (.int .i64 (IntKind.i64.wrap (x - r))), MV.sc (.int .i64 (IntKind.i64.wrap (x + r))), MV.sc (.int .i64 (IntKind.i64.wrap (y - r))), MV.sc (.int .i64 (IntKind.i64.wrap (y + r)))]] = some (MV.sc (.bool (!any4 (IntKind.i64.wrap (x - r)) (IntKind.i64.wrap (x + r)) (IntKind.i64.wrap (y - r)) (IntKind.i64.wrap (y + r)))), [])) : evalBody Go.Proofs.Try.prog T FUEL (ioOf 20) 20 [MV.agg [MV.sc (.int .i64 x), MV.sc (.int .i64 y)], MV.sc (.int .i64 r)] = some (MV.sc (.bool (!any4 (IntKind.i64.wrap (x - r)) (IntKind.i64.wrap (x + r)) (IntKind.i64.wrap (y - r)) (IntKind.i64.wrap (y + r)))), []) :=
  xBody_io (hard := false) hio (orc := [.call (MV.sc (.bool (!any2 x y))) [], .br true, .br true, .call (MV.sc (.bool (!any4 (IntKind.i64.wrap (x - r)) (IntKind.i64.wrap (x + r)) (IntKind.i64.wrap (y - r)) (IntKind.i64.wrap (y + r))))) []]) (b := [(T.call 26 [MV.fs 2 (some 2) [MV.sc (.int .i64 x), MV.sc (.int .i64 y)]] = some (MV.sc (.bool (!any2 x y)), [])), ((MV.sc (.bool (!any2 x y)) : MV) = .sc (.bool true)), ((MV.sc (.bool (decide (r ≤ (20000000 : Int)))) : MV) = .sc (.bool true)), (T.call 26 [MV.fs 4 (some 4) [MV.sc (.int .i64 (IntKind.i64.wrap (x - r))), MV.sc (.int .i64 (IntKind.i64.wrap (x + r))), MV.sc (.int .i64 (IntKind.i64.wrap (y - r))), MV.sc (.int .i64 (IntKind.i64.wrap (y + r)))]] = some (MV.sc (.bool (!any4 (IntKind.i64.wrap (x - r)) (IntKind.i64.wrap (x + r)) (IntKind.i64.wrap (y - r)) (IntKind.i64.wrap (y + r)))), []))]) (by kernel_rfl) ⟨h0, h1, h2, h3⟩

theorem p20_1 {T : Tab} (hio : T.io = ioOf) (x y r : Int) (h0 : T.call 26 [MV.fs 2 (some 2) [MV.sc (.int .i64 x), MV.sc (.int .i64 y)]] = some (MV.sc (.bool (!any2 x y)), [])) (h1 : (MV.sc (.bool (!any2 x y)) : MV) = .sc (.bool false)) : evalBody Go.Proofs.Try.prog T FUEL (ioOf 20) 20 [MV.agg [MV.sc (.int .i64 x), MV.sc (.int .i64 y)], MV.sc (.int .i64 r)] = some (MV.sc (.bool false), []) :=
  xBody_io (hard := false) hio (orc := [.call (MV.sc (.bool (!any2 x y))) [], .br false, .auto]) (b := [(T.call 26 [MV.fs 2 (some 2) [MV.sc (.int .i64 x), MV.sc (.int .i64 y)]] = some (MV.sc (.bool (!any2 x y)), [])), ((MV.sc (.bool (!any2 x y)) : MV) = .sc (.bool false))]) (by kernel_rfl) ⟨h0, h1⟩

theorem p20_2 {T : Tab} (hio : T.io = ioOf) (x y r : Int) (h0 : T.call 26 [MV.fs 2 (some 2) [MV.sc (.int .i64 x), MV.sc (.int .i64 y)]] = some (MV.sc (.bool (!any2 x y)), [])) (h1 : (MV.sc (.bool (!any2 x y)) : MV) = .sc (.bool true)) (h2 : (MV.sc (.bool (decide (r ≤ (20000000 : Int)))) : MV) = .sc (.bool false)) : evalBody Go.Proofs.Try.prog T FUEL (ioOf 20) 20 [MV.agg [MV.sc (.int .i64 x), MV.sc (.int .i64 y)], MV.sc (.int .i64 r)] = some (MV.sc (.bool false), []) :=
  xBody_io (hard := false) hio (orc := [.call (MV.sc (.bool (!any2 x y))) [], .br true, .br false]) (b := [(T.call 26 [MV.fs 2 (some 2) [MV.sc (.int .i64 x), MV.sc (.int .i64 y)]] = some (MV.sc (.bool (!any2 x y)), [])), ((MV.sc (.bool (!any2 x y)) : MV) = .sc (.bool true)), ((MV.sc (.bool (decide (r ≤ (20000000 : Int)))) : MV) = .sc (.bool false))]) (by kernel_rfl) ⟨h0, h1, h2⟩

theorem c20 (n : Nat) (x y r : Int) : (TT (n + 5)).call 20 [MV.agg [MV.sc (.int .i64 x), MV.sc (.int .i64 y)], MV.sc (.int .i64 r)] = some (.sc (.bool (rnd x y r)), []) := by
  refine (deep_call rfl).trans ?_
  show evalBody Go.Proofs.Try.prog (TT (n + 4)) FUEL (ioOf 20) 20 _ = _
  cases b0 : (!any2 x y) with
  | true =>
    cases b1 : (decide (r ≤ (20000000 : Int))) with
    | true =>
      refine (p20_0 (TT_io _) _ _ _ (by exact c26_2 _ ..) (by rw [b0]) (by rw [b1]) (by exact c26_4 _ ..)).trans ?_
      first | rfl | (simp_all [rnd]; done) | (simp_all [rnd]; (repeat (first | split | intro _)) <;> omega)
    | false =>
      refine (p20_2 (TT_io _) _ _ _ (by exact c26_2 _ ..) (by rw [b0]) (by rw [b1])).trans ?_
      first | rfl | (simp_all [rnd]; done) | (simp_all [rnd]; (repeat (first | split | intro _)) <;> omega)
  | false =>
    refine (p20_1 (TT_io _) _ _ _ (by exact c26_2 _ ..) (by rw [b0])).trans ?_
    first | rfl | (simp_all [rnd]; done) | (simp_all [rnd]; (repeat (first | split | intro _)) <;> omega)

end Go.Proofs.Ytkeelkeoijemiaa.Ev
