/- Start and Path: what they answer but for lists of centers. -/
import Derived.Test.YtkeelkeoijemiaaTk
namespace Go.Proofs.Ytkeelkeoijemiaa.Ev
open Go
set_option linter.unusedVariables false
set_option linter.unusedSimpArgs false
set_option maxRecDepth 100000

def pe2 (a b : Int) : Int := bif a != 0 then a else b
def st13 (ax ay bx by_ r z : Int) : Int := bif !okd ax ay bx by_ then 1 else bif decide (r ≤ 0) then 1 else bif !rnd ax ay r then 11 else bif !rnd bx by_ r then 11 else bif !(!any1 z) then 11 else 0
def st14 (ax ay bx by_ r z : Int) : Int := bif !okr ax ay bx by_ then 1 else bif decide (r < 1) then 1 else chk ax ay bx by_ r z
def stRes (e x y z : Int) : MV := bif e != 0 then .tup [.agg [.sc (.int .i64 0), .sc (.int .i64 0), .sc (.int .i64 0)], .sc (.int .i64 e)] else .tup [.agg [.sc (.int .i64 x), .sc (.int .i64 y), .sc (.int .i64 z)], .sc (.int .i64 0)]
def pe11 (ax ay bx by_ r st z rt : Int) : Int := bif !okd ax ay bx by_ then 1 else bif decide (r ≤ 0) then 1 else bif decide (st ≤ 0) then 1 else bif decide (rt ≤ 0) then 1 else bif decide (st > r) then 1 else bif !rnd ax ay r then 11 else bif !rnd bx by_ r then 11 else bif !(!any1 z) then 11 else 0
def pe12 (ax ay bx by_ r st z rt : Int) : Int := bif !okr ax ay bx by_ then 1 else bif decide (r < 1) then 1 else bif decide (st < 1) then 1 else bif decide (rt < 1) then 1 else bif decide (st > r) then 1 else chk ax ay bx by_ r z

theorem c13 (n : Nat) (ax ay bx by_ r z : Int) : (TT (n + 6)).call 13 [MV.agg [MV.sc (.int .i64 ax), MV.sc (.int .i64 ay)], MV.agg [MV.sc (.int .i64 bx), MV.sc (.int .i64 by_)], MV.sc (.int .i64 r), MV.sc (.int .i64 z)] = some (stRes (st13 ax ay bx by_ r z) (stt ax (dir1 ax bx) r) (stt ay (dir1 ay by_) r) z, []) := by
  refine (deep_call rfl).trans ?_
  show evalBody Go.Proofs.Try.prog (TT (n + 5)) FUEL (ioOf 13) 13 _ = _
  cases b0 : (!(okd ax ay bx by_)) with
  | true =>
    refine (p13_0 (TT_io _) ax ay bx by_ r z (by exact c19 _ ..) (by rw [b0])).trans ?_
    (try simp only [stRes, st13, cond_true, cond_false, b0]); first | done | rfl | (simp at *; simp [*])
  | false =>
    cases b1 : (decide (r ≤ (0 : Int))) with
    | true =>
      refine (p13_1 (TT_io _) ax ay bx by_ r z (by exact c19 _ ..) (by rw [b0]) (by rw [b1])).trans ?_
      (try simp only [stRes, st13, cond_true, cond_false, b0, b1]); first | done | rfl | (simp at *; simp [*])
    | false =>
      cases b2 : (!(rnd ax ay r)) with
      | true =>
        refine (p13_2 (TT_io _) ax ay bx by_ r z (by exact c19 _ ..) (by rw [b0]) (by rw [b1]) (by exact c20 _ ..) (by rw [b2])).trans ?_
        (try simp only [stRes, st13, cond_true, cond_false, b0, b1, b2]); first | done | rfl | (simp at *; simp [*])
      | false =>
        cases b3 : (!(rnd bx by_ r)) with
        | true =>
          refine (p13_3 (TT_io _) ax ay bx by_ r z (by exact c19 _ ..) (by rw [b0]) (by rw [b1]) (by exact c20 _ ..) (by rw [b2]) (by exact c20 _ ..) (by rw [b3])).trans ?_
          (try simp only [stRes, st13, cond_true, cond_false, b0, b1, b2, b3]); first | done | rfl | (simp at *; simp [*])
        | false =>
          cases b4 : (!(!any1 z)) with
          | true =>
            refine (p13_4 (TT_io _) ax ay bx by_ r z (by exact c19 _ ..) (by rw [b0]) (by rw [b1]) (by exact c20 _ ..) (by rw [b2]) (by exact c20 _ ..) (by rw [b3]) (by exact c26_1 _ ..) (by rw [b4])).trans ?_
            (try simp only [stRes, st13, cond_true, cond_false, b0, b1, b2, b3, b4]); first | done | rfl | (simp at *; simp [*])
          | false =>
            refine (p13_5 (TT_io _) ax ay bx by_ r z (by exact c19 _ ..) (by rw [b0]) (by rw [b1]) (by exact c20 _ ..) (by rw [b2]) (by exact c20 _ ..) (by rw [b3]) (by exact c26_1 _ ..) (by rw [b4]) (by exact c27 _ ..)).trans ?_
            (try simp only [stRes, st13, cond_true, cond_false, b0, b1, b2, b3, b4]); first | done | rfl | (simp at *; simp [*])

theorem c14 (n : Nat) (ax ay bx by_ r z : Int) : (TT (n + 5)).call 14 [MV.agg [MV.sc (.int .i64 ax), MV.sc (.int .i64 ay)], MV.agg [MV.sc (.int .i64 bx), MV.sc (.int .i64 by_)], MV.sc (.int .i64 r), MV.sc (.int .i64 z)] = some (stRes (st14 ax ay bx by_ r z) (atb ax (IntKind.i64.wrap (0 - r)) (cmp3 bx ax)) (atb ay (IntKind.i64.wrap (0 - r)) (cmp3 by_ ay)) z, []) := by
  refine (deep_call rfl).trans ?_
  show evalBody Go.Proofs.Try.prog (TT (n + 4)) FUEL (ioOf 14) 14 _ = _
  cases b0 : (!(okr ax ay bx by_)) with
  | true =>
    refine (p14_0 (TT_io _) ax ay bx by_ r z (by exact c23 _ ..) (by rw [b0])).trans ?_
    (try simp only [stRes, st14, cond_true, cond_false, b0]); first | done | rfl | (simp at *; simp [*])
  | false =>
    cases b1 : (decide (r < (1 : Int))) with
    | true =>
      refine (p14_1 (TT_io _) ax ay bx by_ r z (by exact c23 _ ..) (by rw [b0]) (by rw [b1])).trans ?_
      (try simp only [stRes, st14, cond_true, cond_false, b0, b1]); first | done | rfl | (simp at *; simp [*])
    | false =>
      cases b2 : ((chk ax ay bx by_ r z) != (0 : Int)) with
      | true =>
        refine (p14_2 (TT_io _) ax ay bx by_ r z (by exact c23 _ ..) (by rw [b0]) (by rw [b1]) (by exact c22 _ ..) (by rw [b2])).trans ?_
        (try simp only [stRes, st14, cond_true, cond_false, b0, b1, b2]); first | done | rfl | (simp at *; simp [*])
      | false =>
        refine (p14_3 (TT_io _) ax ay bx by_ r z (by exact c23 _ ..) (by rw [b0]) (by rw [b1]) (by exact c22 _ ..) (by rw [b2]) (by exact c23 _ ..) (by exact c25 _ ..) (by exact c28 _ ..)).trans ?_
        (try simp only [stRes, st14, cond_true, cond_false, b0, b1, b2]); first | done | rfl | (simp at *; simp [*])

theorem c11n (n : Nat) (ax ay bx by_ r st z rt er : Int) (h21 : pe11 ax ay bx by_ r st z rt = 0 → (TT (n + 5)).call 21 [g2M ax ay, g2M bx by_, g2M (dir1 ax bx) (dir1 ay by_), .sc (.int .i64 st)] = tupM nilM er) : (TT (n + 6)).call 11 [MV.agg [MV.sc (.int .i64 ax), MV.sc (.int .i64 ay)], MV.agg [MV.sc (.int .i64 bx), MV.sc (.int .i64 by_)], MV.sc (.int .i64 r), MV.sc (.int .i64 st), MV.sc (.int .i64 z), MV.sc (.int .i64 rt)] = some (.tup [nilM, .sc (.int .i64 (pe2 (pe11 ax ay bx by_ r st z rt) er))], []) := by
  refine (deep_call rfl).trans ?_
  show evalBody Go.Proofs.Try.prog (TT (n + 5)) FUEL (ioOf 11) 11 _ = _
  cases b0 : (!(okd ax ay bx by_)) with
  | true =>
    refine (p11n_0 (TT_io _) ax ay bx by_ r st z rt er (by exact c19 _ ..) (by rw [b0])).trans ?_
    (try simp only [pe11, pe2, cond_true, cond_false, b0]); first | done | rfl | (simp at *; simp [*])
  | false =>
    cases b1 : (decide (r ≤ (0 : Int))) with
    | true =>
      refine (p11n_1 (TT_io _) ax ay bx by_ r st z rt er (by exact c19 _ ..) (by rw [b0]) (by rw [b1])).trans ?_
      (try simp only [pe11, pe2, cond_true, cond_false, b0, b1]); first | done | rfl | (simp at *; simp [*])
    | false =>
      cases b2 : (decide (st ≤ (0 : Int))) with
      | true =>
        refine (p11n_2 (TT_io _) ax ay bx by_ r st z rt er (by exact c19 _ ..) (by rw [b0]) (by rw [b1]) (by rw [b2])).trans ?_
        (try simp only [pe11, pe2, cond_true, cond_false, b0, b1, b2]); first | done | rfl | (simp at *; simp [*])
      | false =>
        cases b3 : (decide (rt ≤ (0 : Int))) with
        | true =>
          refine (p11n_3 (TT_io _) ax ay bx by_ r st z rt er (by exact c19 _ ..) (by rw [b0]) (by rw [b1]) (by rw [b2]) (by rw [b3])).trans ?_
          (try simp only [pe11, pe2, cond_true, cond_false, b0, b1, b2, b3]); first | done | rfl | (simp at *; simp [*])
        | false =>
          cases b4 : (decide (st > r)) with
          | true =>
            refine (p11n_4 (TT_io _) ax ay bx by_ r st z rt er (by exact c19 _ ..) (by rw [b0]) (by rw [b1]) (by rw [b2]) (by rw [b3]) (by rw [b4])).trans ?_
            (try simp only [pe11, pe2, cond_true, cond_false, b0, b1, b2, b3, b4]); first | done | rfl | (simp at *; simp [*])
          | false =>
            cases b5 : (!(rnd ax ay r)) with
            | true =>
              refine (p11n_5 (TT_io _) ax ay bx by_ r st z rt er (by exact c19 _ ..) (by rw [b0]) (by rw [b1]) (by rw [b2]) (by rw [b3]) (by rw [b4]) (by exact c20 _ ..) (by rw [b5])).trans ?_
              (try simp only [pe11, pe2, cond_true, cond_false, b0, b1, b2, b3, b4, b5]); first | done | rfl | (simp at *; simp [*])
            | false =>
              cases b6 : (!(rnd bx by_ r)) with
              | true =>
                refine (p11n_6 (TT_io _) ax ay bx by_ r st z rt er (by exact c19 _ ..) (by rw [b0]) (by rw [b1]) (by rw [b2]) (by rw [b3]) (by rw [b4]) (by exact c20 _ ..) (by rw [b5]) (by exact c20 _ ..) (by rw [b6])).trans ?_
                (try simp only [pe11, pe2, cond_true, cond_false, b0, b1, b2, b3, b4, b5, b6]); first | done | rfl | (simp at *; simp [*])
              | false =>
                cases b7 : (!(!any1 z)) with
                | true =>
                  refine (p11n_7 (TT_io _) ax ay bx by_ r st z rt er (by exact c19 _ ..) (by rw [b0]) (by rw [b1]) (by rw [b2]) (by rw [b3]) (by rw [b4]) (by exact c20 _ ..) (by rw [b5]) (by exact c20 _ ..) (by rw [b6]) (by exact c26_1 _ ..) (by rw [b7])).trans ?_
                  (try simp only [pe11, pe2, cond_true, cond_false, b0, b1, b2, b3, b4, b5, b6, b7]); first | done | rfl | (simp at *; simp [*])
                | false =>
                  cases b8 : (er != (0 : Int)) with
                  | true =>
                    refine (p11n_8 (TT_io _) ax ay bx by_ r st z rt er (by exact c19 _ ..) (by rw [b0]) (by rw [b1]) (by rw [b2]) (by rw [b3]) (by rw [b4]) (by exact c20 _ ..) (by rw [b5]) (by exact c20 _ ..) (by rw [b6]) (by exact c26_1 _ ..) (by rw [b7]) (h21 (by simp only [pe11, cond_true, cond_false, b0, b1, b2, b3, b4, b5, b6, b7])) (by rw [b8])).trans ?_
                    (try simp only [pe11, pe2, cond_true, cond_false, b0, b1, b2, b3, b4, b5, b6, b7, b8]); first | done | rfl | (simp at *; simp [*])
                  | false =>
                    refine (p11n_9 (TT_io _) ax ay bx by_ r st z rt er (by exact c19 _ ..) (by rw [b0]) (by rw [b1]) (by rw [b2]) (by rw [b3]) (by rw [b4]) (by exact c20 _ ..) (by rw [b5]) (by exact c20 _ ..) (by rw [b6]) (by exact c26_1 _ ..) (by rw [b7]) (h21 (by simp only [pe11, cond_true, cond_false, b0, b1, b2, b3, b4, b5, b6, b7])) (by rw [b8])).trans ?_
                    (try simp only [pe11, pe2, cond_true, cond_false, b0, b1, b2, b3, b4, b5, b6, b7, b8]); first | done | rfl | (simp at *; simp [*])

theorem c12n (n : Nat) (ax ay bx by_ r st z rt er : Int) (h9 : pe12 ax ay bx by_ r st z rt = 0 → (TT (n + 6)).call 9 [g2M ax ay, g2M bx by_, .sc (.int .i64 st)] = tupM nilM er) : (TT (n + 7)).call 12 [MV.agg [MV.sc (.int .i64 ax), MV.sc (.int .i64 ay)], MV.agg [MV.sc (.int .i64 bx), MV.sc (.int .i64 by_)], MV.sc (.int .i64 r), MV.sc (.int .i64 st), MV.sc (.int .i64 z), MV.sc (.int .i64 rt)] = some (.tup [nilM, .sc (.int .i64 (pe2 (pe12 ax ay bx by_ r st z rt) er))], []) := by
  refine (deep_call rfl).trans ?_
  show evalBody Go.Proofs.Try.prog (TT (n + 6)) FUEL (ioOf 12) 12 _ = _
  cases b0 : (!(okr ax ay bx by_)) with
  | true =>
    refine (p12n_0 (TT_io _) ax ay bx by_ r st z rt er (by exact c23 _ ..) (by rw [b0])).trans ?_
    (try simp only [pe12, pe2, cond_true, cond_false, b0]); first | done | rfl | (simp at *; simp [*])
  | false =>
    cases b1 : (decide (r < (1 : Int))) with
    | true =>
      refine (p12n_1 (TT_io _) ax ay bx by_ r st z rt er (by exact c23 _ ..) (by rw [b0]) (by rw [b1])).trans ?_
      (try simp only [pe12, pe2, cond_true, cond_false, b0, b1]); first | done | rfl | (simp at *; simp [*])
    | false =>
      cases b2 : (decide (st < (1 : Int))) with
      | true =>
        refine (p12n_2 (TT_io _) ax ay bx by_ r st z rt er (by exact c23 _ ..) (by rw [b0]) (by rw [b1]) (by rw [b2])).trans ?_
        (try simp only [pe12, pe2, cond_true, cond_false, b0, b1, b2]); first | done | rfl | (simp at *; simp [*])
      | false =>
        cases b3 : (decide (rt < (1 : Int))) with
        | true =>
          refine (p12n_3 (TT_io _) ax ay bx by_ r st z rt er (by exact c23 _ ..) (by rw [b0]) (by rw [b1]) (by rw [b2]) (by rw [b3])).trans ?_
          (try simp only [pe12, pe2, cond_true, cond_false, b0, b1, b2, b3]); first | done | rfl | (simp at *; simp [*])
        | false =>
          cases b4 : (decide (st > r)) with
          | true =>
            refine (p12n_4 (TT_io _) ax ay bx by_ r st z rt er (by exact c23 _ ..) (by rw [b0]) (by rw [b1]) (by rw [b2]) (by rw [b3]) (by rw [b4])).trans ?_
            (try simp only [pe12, pe2, cond_true, cond_false, b0, b1, b2, b3, b4]); first | done | rfl | (simp at *; simp [*])
          | false =>
            cases b5 : ((chk ax ay bx by_ r z) != (0 : Int)) with
            | true =>
              refine (p12n_5 (TT_io _) ax ay bx by_ r st z rt er (by exact c23 _ ..) (by rw [b0]) (by rw [b1]) (by rw [b2]) (by rw [b3]) (by rw [b4]) (by exact c22 _ ..) (by rw [b5])).trans ?_
              (try simp only [pe12, pe2, cond_true, cond_false, b0, b1, b2, b3, b4, b5]); first | done | rfl | (simp at *; simp [*])
            | false =>
              cases b6 : (er != (0 : Int)) with
              | true =>
                refine (p12n_6 (TT_io _) ax ay bx by_ r st z rt er (by exact c23 _ ..) (by rw [b0]) (by rw [b1]) (by rw [b2]) (by rw [b3]) (by rw [b4]) (by exact c22 _ ..) (by rw [b5]) (h9 (by simp only [pe12, cond_true, cond_false, b0, b1, b2, b3, b4, b5]; simpa using b5)) (by rw [b6])).trans ?_
                (try simp only [pe12, pe2, cond_true, cond_false, b0, b1, b2, b3, b4, b5, b6]); first | done | rfl | (simp at *; simp [*])
              | false =>
                refine (p12n_7 (TT_io _) ax ay bx by_ r st z rt er (by exact c23 _ ..) (by rw [b0]) (by rw [b1]) (by rw [b2]) (by rw [b3]) (by rw [b4]) (by exact c22 _ ..) (by rw [b5]) (h9 (by simp only [pe12, cond_true, cond_false, b0, b1, b2, b3, b4, b5]; simpa using b5)) (by rw [b6]) (by exact c23 _ ..)).trans ?_
                (try simp only [pe12, pe2, cond_true, cond_false, b0, b1, b2, b3, b4, b5, b6]); first | done | rfl | (simp at *; simp [*])

end Go.Proofs.Ytkeelkeoijemiaa.Ev
