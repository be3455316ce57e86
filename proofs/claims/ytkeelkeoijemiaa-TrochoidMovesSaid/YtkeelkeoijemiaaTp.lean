/- The law of the moves, in the evaluator. -/
import Derived.Test.YtkeelkeoijemiaaTo
import Derived.WalkKit
namespace Go.Proofs.Ytkeelkeoijemiaa.Ev
open Go Go.RowKit
set_option linter.unusedVariables false
set_option linter.unusedSimpArgs false

theorem apx_val {a b : Int} (ha : Small a) (hb : Small b) : apx a b = if a < b then b - a else a - b := by
  unfold Small at *
  unfold apx
  simp only [IntKind.wrap_u64]
  split <;> omega
theorem apx_small {a : Int} (ha : Small a) : decide (apx a 0 > (10000000 : Int)) = false := by
  rw [apx_val ha (by unfold Small; omega)]
  unfold Small at ha
  refine decide_eq_false ?_
  split <;> omega
abbrev posM (x y z : Int) : MV := .agg [.sc (.int .i64 x), .sc (.int .i64 y), .sc (.int .i64 z)]

/-- A center whose circle lies in the range. -/
structure Good (r : Int) (p : Int × Int) : Prop where
  x : Small p.1
  y : Small p.2
  xl : Small (p.1 - r)
  xh : Small (p.1 + r)
  yl : Small (p.2 - r)
  yh : Small (p.2 + r)
/-- One of the four directions. -/
def Dir (dx dy : Int) : Prop := (dx = 1 ∧ dy = 0) ∨ (dx = -1 ∧ dy = 0) ∨ (dx = 0 ∧ dy = 1) ∨ (dx = 0 ∧ dy = -1)
theorem stt_1 {c r : Int} (h : Small c) (hr : Small r) : stt c 1 r = c - r := by
  unfold Small at *
  unfold stt
  rw [w64 (n := 1 * r) (by omega), w64 (by omega)]; omega
theorem stt_m {c r : Int} (h : Small c) (hr : Small r) : stt c (-1) r = c + r := by
  unfold Small at *
  unfold stt
  rw [w64 (n := -1 * r) (by omega), w64 (by omega)]; omega
theorem stt_0 {c r : Int} (h : Small c) : stt c 0 r = c := by
  unfold Small at *
  unfold stt
  rw [Int.zero_mul, w64 (n := 0) (by omega), w64 (by omega)]; omega
theorem stt_small {c d r : Int} (hc : Small c) (hr : Small r) (hl : Small (c - r)) (hh : Small (c + r)) (hd : d = 1 ∨ d = -1 ∨ d = 0) : Small (stt c d r) := by
  rcases hd with rfl | rfl | rfl
  · rw [stt_1 hc hr]; exact hl
  · rw [stt_m hc hr]; exact hh
  · rw [stt_0 hc]; exact hc
theorem Dir.x {dx dy : Int} (h : Dir dx dy) : dx = 1 ∨ dx = -1 ∨ dx = 0 := by unfold Dir at h; omega
theorem Dir.y {dx dy : Int} (h : Dir dx dy) : dy = 1 ∨ dy = -1 ∨ dy = 0 := by unfold Dir at h; omega

theorem pt_at (n : Nat) {dx dy r z : Int} {p : Int × Int} (hd : Dir dx dy) (h : Good r p) (hr : Small r) (h0 : 0 < r) :
    ∃ q, (TT (n + 2)).call 31 [posM (stt p.1 dx r) (stt p.2 dy r) z, g2M p.1 p.2] = some (.tup [.sc (.int .i64 q), .sc (.int .u64 r)], []) := by
  obtain ⟨x, y⟩ := p
  have ap1 : ∀ {c : Int}, Small c → Small (c - r) → apx (c - r) c = r := fun h1 h2 => by rw [apx_val h2 h1, if_pos (by omega)]; omega
  have ap2 : ∀ {c : Int}, Small c → Small (c + r) → apx (c + r) c = r := fun h1 h2 => by rw [apx_val h2 h1, if_neg (by omega)]; omega
  rcases hd with ⟨rfl, rfl⟩ | ⟨rfl, rfl⟩ | ⟨rfl, rfl⟩ | ⟨rfl, rfl⟩ <;> simp only [stt_1 h.x hr, stt_1 h.y hr, stt_m h.x hr, stt_m h.y hr, stt_0 h.x, stt_0 h.y]
  · refine ⟨2, (deep_call rfl).trans ((p31_2 (TT_io (n + 1)) (x - r) y z x y (sc_b (by simp)) (sc_b (decide_eq_false (by omega))) (sc_b (by simp; omega)) (sc_b (by simp)) (sc_b (decide_eq_true (by omega))) (by exact c32 n ..)).trans ?_)⟩
    rw [ap1 h.x h.xl]
  · refine ⟨0, (deep_call rfl).trans ((p31_0 (TT_io (n + 1)) (x + r) y z x y (sc_b (by simp)) (sc_b (decide_eq_true (by omega))) (by exact c32 n ..)).trans ?_)⟩
    rw [ap2 h.x h.xh]
  · refine ⟨3, (deep_call rfl).trans ((p31_3 (TT_io (n + 1)) x (y - r) z x y (sc_b (by simp; omega)) (sc_b (by simp)) (sc_b (decide_eq_false (by omega))) (sc_b (by simp; omega)) (sc_b (by simp)) (sc_b (decide_eq_true (by omega))) (by exact c32 n ..)).trans ?_)⟩
    rw [ap1 h.y h.yl]
  · refine ⟨1, (deep_call rfl).trans ((p31_1 (TT_io (n + 1)) x (y + r) z x y (sc_b (by simp; omega)) (sc_b (by simp)) (sc_b (decide_eq_true (by omega))) (by exact c32 n ..)).trans ?_)⟩
    rw [ap2 h.y h.yh]

theorem vArc (n : Nat) {dx dy r z rt : Int} {p : Int × Int} (hd : Dir dx dy) (h : Good r p) (hr : Small r) (h0 : 0 < r) (hz : Small z) (ht : 0 < rt) :
    (TT (n + 4)).call 16 [posM (stt p.1 dx r) (stt p.2 dy r) z, .agg (crM (sttP dx dy r) z rt p)] = some (.sc (.int .i64 0), []) := by
  obtain ⟨q, hq⟩ := pt_at n (z := z) hd h hr h0
  obtain ⟨q', hq'⟩ := pt_at (n + 1) (z := z) hd h hr h0
  have hsx := stt_small h.x hr h.xl h.xh hd.x
  have hsy := stt_small h.y hr h.yl h.yh hd.y
  have e29 : (TT (n + 3)).call 29 [posM (stt p.1 dx r) (stt p.2 dy r) z, .agg (crM (sttP dx dy r) z rt p)] = some (.sc (.bool true), []) :=
    (deep_call rfl).trans ((p29_4 (TT_io (n + 2)) _ _ _ _ _ _ p.1 p.2 rt q r hq hq ((deep_call rfl).trans (p30_4 (TT_io (n + 1)) _ _ _ _ _ _)) (sc_b (decide_eq_true (by omega))) (sc_b (decide_eq_true (by omega)))).trans (by simp))
  have w1 : IntKind.i64.wrap r = r := w64 (by unfold Small at hr; omega)
  have b1 : IntKind.i64.wrap (p.1 + r) = p.1 + r := w64 (by have := h.xh; unfold Small at this; omega)
  have b2 : IntKind.i64.wrap (p.1 - r) = p.1 - r := w64 (by have := h.xl; unfold Small at this; omega)
  have b3 : IntKind.i64.wrap (p.2 + r) = p.2 + r := w64 (by have := h.yh; unfold Small at this; omega)
  have b4 : IntKind.i64.wrap (p.2 - r) = p.2 - r := w64 (by have := h.yl; unfold Small at this; omega)
  exact (deep_call rfl).trans (p16_4 (TT_io (n + 3)) _ _ _ _ _ _ p.1 p.2 rt q' r e29 ((deep_call rfl).trans (p30_4 (TT_io (n + 2)) _ _ _ _ _ _)) hq' (sc_b (decide_eq_false (by unfold Small at hr; omega))) (by exact c32 (n + 2) ..) (sc_b (apx_small h.x)) (by exact c32 (n + 2) ..) (sc_b (apx_small h.y))
    (by decide) (by exact c32 (n + 2) ..) (sc_b (apx_small hsx)) (by decide) (by exact c32 (n + 2) ..) (sc_b (apx_small hsy)) (by decide) (by exact c32 (n + 2) ..) (sc_b (apx_small hz)) (by decide) (by exact c32 (n + 2) ..) (sc_b (apx_small hsx)) (by decide) (by exact c32 (n + 2) ..) (sc_b (apx_small hsy)) (by decide) (by exact c32 (n + 2) ..) (sc_b (apx_small hz))
    (by decide) (by exact c32 (n + 2) ..) (sc_b (by rw [w1, b1]; exact apx_small h.xh)) (by decide) (by exact c32 (n + 2) ..) (sc_b (by rw [w1, b2]; exact apx_small h.xl)) (by decide) (by exact c32 (n + 2) ..) (sc_b (by rw [w1, b3]; exact apx_small h.yh)) (by decide) (by exact c32 (n + 2) ..) (sc_b (by rw [w1, b4]; exact apx_small h.yl)))

theorem vFeed (n : Nat) {x y z u v w rt : Int} (hx : Small x) (hy : Small y) (hz : Small z) (hu : Small u) (hv : Small v) (hw : Small w) (ht : 0 < rt) :
    (TT (n + 4)).call 16 [posM x y z, .agg [.sc (.int .i64 2), .sc (.int .i64 u), .sc (.int .i64 v), .sc (.int .i64 w), .sc (.int .i64 0), .sc (.int .i64 0), .sc (.int .i64 rt)]] = some (.sc (.int .i64 0), []) := by
  have e29 : (TT (n + 3)).call 29 [posM x y z, .agg [.sc (.int .i64 2), .sc (.int .i64 u), .sc (.int .i64 v), .sc (.int .i64 w), .sc (.int .i64 0), .sc (.int .i64 0), .sc (.int .i64 rt)]] = some (.sc (.bool true), []) :=
    (deep_call rfl).trans ((p29_2 (TT_io (n + 2)) _ _ _ _ _ _ 0 0 rt).trans (by simp [ht]))
  exact (deep_call rfl).trans (p16_2 (TT_io (n + 3)) _ _ _ _ _ _ 0 0 rt e29 ((deep_call rfl).trans (p30_2 (TT_io (n + 2)) _ _ _ _ _ _))
    (by decide) (by exact c32 (n + 2) ..) (sc_b (apx_small hx)) (by decide) (by exact c32 (n + 2) ..) (sc_b (apx_small hy)) (by decide) (by exact c32 (n + 2) ..) (sc_b (apx_small hz)) (by decide) (by exact c32 (n + 2) ..) (sc_b (apx_small hu)) (by decide) (by exact c32 (n + 2) ..) (sc_b (apx_small hv)) (by decide) (by exact c32 (n + 2) ..) (sc_b (apx_small hw)))

/-- The moves, one by one. -/
theorem take7 {X C Y : List MV} (h : C.length = 7) : takeAs true 7 ((X ++ C ++ Y).drop X.length) = some (.agg C) := by
  rw [List.append_assoc, List.drop_left]
  unfold takeAs
  simp only [List.length_append, h]
  rw [if_pos (by omega), List.take_append_of_le_length (by omega), List.take_of_length_le (by omega)]
theorem fl14 {g : Int × Int → List MV} (hg : ∀ q, (g q).length = 14) : ∀ l : List (Int × Int), (l.flatMap g).length = l.length * 14
  | [] => rfl
  | q :: l => by simp [List.flatMap_cons, hg, fl14 hg l]; omega
theorem mv_fd (S : Int × Int → Int × Int) (z rt : Int) {L : List (Int × Int)} {k : Nat} (h : k + 1 < L.length) : takeAs true 7 ((mvM S z rt L).drop ((2 * k + 1) * 7)) = some (.agg (fdM S z rt L[k + 1])) := by
  cases L with
  | nil => simp at h
  | cons p l =>
    have hk : k < l.length := by simpa using h
    have e : mvM S z rt (p :: l) = (crM S z rt p ++ (l.take k).flatMap fun q => fdM S z rt q ++ crM S z rt q) ++ fdM S z rt l[k] ++ (crM S z rt l[k] ++ (l.drop (k + 1)).flatMap fun q => fdM S z rt q ++ crM S z rt q) := by
      have h1 : l = l.take k ++ l[k] :: l.drop (k + 1) := by rw [List.getElem_cons_drop, List.take_append_drop]
      have h2 := congrArg (List.flatMap fun q => fdM S z rt q ++ crM S z rt q) h1
      rw [List.flatMap_append, List.flatMap_cons] at h2
      show crM S z rt p ++ l.flatMap _ = _
      rw [h2]
      simp only [List.append_assoc]
    rw [e, show (2 * k + 1) * 7 = (crM S z rt p ++ (l.take k).flatMap fun q => fdM S z rt q ++ crM S z rt q).length by
      rw [List.length_append, fl14 (fun _ => rfl), List.length_take, Nat.min_eq_left (by omega)]; simp [crM]; omega]
    exact take7 rfl
theorem mv_cr (S : Int × Int → Int × Int) (z rt : Int) {L : List (Int × Int)} {k : Nat} (h : k < L.length) : takeAs true 7 ((mvM S z rt L).drop ((2 * k) * 7)) = some (.agg (crM S z rt L[k])) := by
  cases L with
  | nil => simp at h
  | cons p l =>
    cases k with
    | zero =>
      have := take7 (X := []) (C := crM S z rt p) (Y := l.flatMap fun q => fdM S z rt q ++ crM S z rt q) rfl
      simpa [mvM, mvs] using this
    | succ k =>
      have hk : k < l.length := by simpa using h
      have e : mvM S z rt (p :: l) = (crM S z rt p ++ ((l.take k).flatMap fun q => fdM S z rt q ++ crM S z rt q) ++ fdM S z rt l[k]) ++ crM S z rt l[k] ++ ((l.drop (k + 1)).flatMap fun q => fdM S z rt q ++ crM S z rt q) := by
        have h1 : l = l.take k ++ l[k] :: l.drop (k + 1) := by rw [List.getElem_cons_drop, List.take_append_drop]
        have h2 := congrArg (List.flatMap fun q => fdM S z rt q ++ crM S z rt q) h1
        rw [List.flatMap_append, List.flatMap_cons] at h2
        show crM S z rt p ++ l.flatMap _ = _
        rw [h2]
        simp only [List.append_assoc]
      rw [e, show 2 * (k + 1) * 7 = (crM S z rt p ++ ((l.take k).flatMap fun q => fdM S z rt q ++ crM S z rt q) ++ fdM S z rt l[k]).length by
        rw [List.length_append, List.length_append, fl14 (fun _ => rfl), List.length_take, Nat.min_eq_left (by omega)]; simp [crM, fdM]; omega]
      exact take7 rfl

/-- Centers lie between the ends. -/
theorem pathL_good {ax ay bx by_ s r : Int} {m : Nat} (h : okr ax ay bx by_ = true) (ha : Good r (ax, ay)) (hb : Good r (bx, by_)) (hs : 0 < s) (hm : m * s < wayLen ax ay bx by_) : ∀ p ∈ pathL ax ay bx by_ s m, Good r p := by
  have hL := (way_pos h ha.x ha.y hb.x hb.y).2
  have one : ∀ t, 0 ≤ t → t < wayLen ax ay bx by_ → Good r (ptc ax (cmp3 bx ax) t, ptc ay (cmp3 by_ ay) t) := by
    intro t h0 h1
    rw [ptc_val ha.x (cmp3_unit _ _) h0 (by omega), ptc_val ha.y (cmp3_unit _ _) h0 (by omega)]
    obtain ⟨a1, a2, a3, a4, a5, a6⟩ := ha
    obtain ⟨b1, b2, b3, b4, b5, b6⟩ := hb
    unfold Small at *
    unfold wayLen at h1
    rcases four h with ⟨h2, h3, e1, e2⟩ | ⟨h2, h3, e1, e2⟩ | ⟨h2, h3, e1, e2⟩ | ⟨h2, h3, e1, e2⟩ <;> rw [e1, e2] at h1 ⊢ <;> constructor <;> unfold Small <;> simp only at * <;> omega
  have all : ∀ k : Nat, k ≤ m + 1 → ∀ p ∈ ptL ax ay (cmp3 bx ax) (cmp3 by_ ay) s k, Good r p := by
    intro k
    induction k with
    | zero => intro _ p hp; cases hp
    | succ k ih =>
      intro hk p hp
      rcases List.mem_append.1 hp with hp | hp
      · exact ih (by omega) p hp
      · simp only [List.mem_singleton] at hp
        subst hp
        have : (k : Int) * s ≤ m * s := Int.mul_le_mul_of_nonneg_right (by omega) (by omega)
        exact one _ (Int.mul_nonneg (by omega) (by omega)) (by omega)
  intro p hp
  rcases List.mem_append.1 hp with hp | hp
  · exact all (m + 1) (Nat.le_refl _) p hp
  · simp only [List.mem_singleton] at hp
    subst hp
    exact hb
theorem pathL_last (ax ay bx by_ s : Int) (m : Nat) (h : m + 1 < (pathL ax ay bx by_ s m).length) : (pathL ax ay bx by_ s m)[m + 1] = (bx, by_) := by
  have h1 : (pathL ax ay bx by_ s m)[m + 1]? = some (bx, by_) := by
    unfold pathL
    rw [List.getElem?_append_right (by rw [ptL_len]; omega)]
    simp [ptL_len]
  rw [List.getElem?_eq_getElem h] at h1
  exact Option.some.inj h1
theorem ptL_head (ax ay dx dy s : Int) : ∀ m : Nat, (ptL ax ay dx dy s (m + 1))[0]? = some (ptc ax dx 0, ptc ay dy 0)
  | 0 => by simp [ptL]
  | m + 1 => by
    have ih := ptL_head ax ay dx dy s m
    rw [ptL, List.getElem?_append_left (by rw [ptL_len]; omega)]
    exact ih
theorem pathL_head {ax ay bx by_ s : Int} {m : Nat} (hax : Small ax) (hay : Small ay) (h : 0 < (pathL ax ay bx by_ s m).length) : (pathL ax ay bx by_ s m)[0] = (ax, ay) := by
  have h1 : (pathL ax ay bx by_ s m)[0]? = some (ax, ay) := by
    unfold pathL
    rw [List.getElem?_append_left (by rw [ptL_len]; omega), ptL_head, ptc_val hax (cmp3_unit _ _) (by omega) (by omega), ptc_val hay (cmp3_unit _ _) (by omega) (by omega)]
    simp
  rw [List.getElem?_eq_getElem h] at h1
  exact Option.some.inj h1

theorem law5_loop {ax ay bx by_ ra st z rt lx ly lz ge dx dy : Int} {L : List (Int × Int)} {fw : Bool} (hne : 0 < L.length) (hl : L.length < 100000) (hd : Dir dx dy) (hr : Small ra) (h0 : 0 < ra) (hz : Small z) (ht : 0 < rt) (hg : ∀ p ∈ L, Good ra p) :
    ∃ j jb, evalLoop (fun s => evalCode Go.Proofs.Try.prog (TT 20) FUEL (bodyOf Go.Proofs.Try.prog 5 0) (normSt (scratch1 (bodyOf Go.Proofs.Try.prog 5 0)) s)) FUEL (I5 ax ay bx by_ ra st z rt (stt L[0].1 dx ra) (stt L[0].2 dy ra) z lx ly lz ge (2 * L.length - 1) (mvM (sttP dx dy ra) z rt L) fw) =
      some (.exit 0, X5 ax ay bx by_ ra st z rt (stt L[0].1 dx ra) (stt L[0].2 dy ra) z lx ly lz ge (stt L[L.length - 1].1 dx ra) (stt L[L.length - 1].2 dy ra) z (2 * L.length - 1) (2 * L.length - 1) (mvM (sttP dx dy ra) z rt L) fw j jb) := by
  have hio := TT_io 20
  have hml := mvM_len (sttP dx dy ra) z rt (l := L) (by intro h; rw [h] at hne; simp at hne)
  have hrc : mvM (sttP dx dy ra) z rt L ≠ [] := by intro h; rw [h] at hml; simp at hml; omega
  generalize hrn : 2 * L.length - 1 = rn at hml ⊢
  have loop : ∃ o s', evalLoop (fun s => evalCode Go.Proofs.Try.prog (TT 20) FUEL (bodyOf Go.Proofs.Try.prog 5 0) (normSt (scratch1 (bodyOf Go.Proofs.Try.prog 5 0)) s)) FUEL (I5 ax ay bx by_ ra st z rt (stt L[0].1 dx ra) (stt L[0].2 dy ra) z lx ly lz ge rn (mvM (sttP dx dy ra) z rt L) fw) = some (o, s') ∧
      (o = .exit 0 ∧ ∃ j jb, s' = X5 ax ay bx by_ ra st z rt (stt L[0].1 dx ra) (stt L[0].2 dy ra) z lx ly lz ge (stt L[L.length - 1].1 dx ra) (stt L[L.length - 1].2 dy ra) z rn rn (mvM (sttP dx dy ra) z rt L) fw j jb) := by
    refine loop_inv (G := fun s => evalCode Go.Proofs.Try.prog (TT 20) FUEL (bodyOf Go.Proofs.Try.prog 5 0) s) (nm := normSt (scratch1 (bodyOf Go.Proofs.Try.prog 5 0))) (fun k S => ∃ (i : Nat) (hi : i < L.length) (j : Nat → Int) (jb : Nat → Bool), i = k / 2 ∧ j 7 = (rn : Nat) ∧
      S = L5 ax ay bx by_ ra st z rt (stt L[0].1 dx ra) (stt L[0].2 dy ra) z lx ly lz ge (stt L[i].1 dx ra) (stt L[i].2 dy ra) z rn k (mvM (sttP dx dy ra) z rt L) fw j jb) _ rn FUEL _ 0 ?_ ?_ ?_ (by unfold FUEL; omega)
    · rintro k S _ hk ⟨i, hi, j, jb, hik, hj, rfl⟩
      have hgi := hg _ (List.getElem_mem hi)
      by_cases he : k % 2 = 0
      · -- a circle
        have hk2 : k = 2 * i := by omega
        have hmv := mv_cr (sttP dx dy ra) z rt hi
        rw [← hk2] at hmv
        have e1 := r5 hio ax ay bx by_ ra st z rt (stt L[0].1 dx ra) (stt L[0].2 dy ra) z lx ly lz ge (stt L[i].1 dx ra) (stt L[i].2 dy ra) z 4 _ _ z L[i].1 L[i].2 rt rn k (mvM (sttP dx dy ra) z rt L) fw j jb (sc_b (decide_eq_true (by omega))) ⟨by omega, by omega, hrc⟩ hmv (vArc 16 hd hgi hr h0 hz ht) (sc_b (by simp)) (sc_b (by simp))
        refine ⟨_, e1, i, hi, _, _, by omega, ?_, r5_n ax ay bx by_ ra st z rt (stt L[0].1 dx ra) (stt L[0].2 dy ra) z lx ly lz ge (stt L[i].1 dx ra) (stt L[i].2 dy ra) z 4 _ _ z L[i].1 L[i].2 rt rn k (mvM (sttP dx dy ra) z rt L) fw j jb (by rw [w64 (by omega)]; omega)⟩
        exact hj
      · -- a feed
        have hk2 : k = 2 * i + 1 := by omega
        have hi' : i + 1 < L.length := by omega
        have hgi' := hg _ (List.getElem_mem hi')
        have hmv := mv_fd (sttP dx dy ra) z rt hi'
        rw [← hk2] at hmv
        have e1 := r5 hio ax ay bx by_ ra st z rt (stt L[0].1 dx ra) (stt L[0].2 dy ra) z lx ly lz ge (stt L[i].1 dx ra) (stt L[i].2 dy ra) z 2 _ _ z 0 0 rt rn k (mvM (sttP dx dy ra) z rt L) fw j jb (sc_b (decide_eq_true (by omega))) ⟨by omega, by omega, hrc⟩ hmv
          (vFeed 16 (stt_small hgi.x hr hgi.xl hgi.xh hd.x) (stt_small hgi.y hr hgi.yl hgi.yh hd.y) hz (stt_small hgi'.x hr hgi'.xl hgi'.xh hd.x) (stt_small hgi'.y hr hgi'.yl hgi'.yh hd.y) hz ht) (sc_b (by simp)) (sc_b (by simp))
        refine ⟨_, e1, i + 1, hi', _, _, by omega, ?_, r5_n ax ay bx by_ ra st z rt (stt L[0].1 dx ra) (stt L[0].2 dy ra) z lx ly lz ge (stt L[i].1 dx ra) (stt L[i].2 dy ra) z 2 _ _ z 0 0 rt rn k (mvM (sttP dx dy ra) z rt L) fw j jb (by rw [w64 (by omega)]; omega)⟩
        exact hj
    · rintro S ⟨i, hi, j, jb, hik, hj, rfl⟩
      rw [Nat.zero_add] at hik ⊢
      have : i = L.length - 1 := by omega
      subst this
      exact ⟨_, _, r5_x hio ax ay bx by_ ra st z rt _ _ z lx ly lz ge _ _ z rn rn (mvM (sttP dx dy ra) z rt L) fw j jb (sc_b (decide_eq_false (by omega))), by simp, rfl, j, jb, rfl⟩
    · exact ⟨0, hne, _, _, rfl, rfl, i5 ..⟩
  obtain ⟨o, s', e1, rfl, j, jb, rfl⟩ := loop
  exact ⟨j, jb, e1⟩

theorem cmp3_ext (a b : Int) : cmp3 (2 * b - a) b = cmp3 b a := by
  unfold cmp3
  split <;> split <;> (try split) <;> (try split) <;> omega
theorem law5 {ax ay bx by_ ra st z rt : Int} (iax : In64 ax) (iay : In64 ay) (ibx : In64 bx) (iby : In64 by_) (ira : In64 ra) (ist : In64 st) (iz : In64 z) :
    (TT 21).call 5 [.agg [.sc (.int .i64 ax), .sc (.int .i64 ay), .sc (.int .i64 bx), .sc (.int .i64 by_), .sc (.int .i64 ra), .sc (.int .i64 st), .sc (.int .i64 z), .sc (.int .i64 rt)]] = some (.sc (.bool true), []) := by
  refine (deep_call rfl).trans ?_
  show evalBody Go.Proofs.Try.prog (TT 20) FUEL (ioOf 5) 5 _ = _
  obtain ⟨fw, hfw⟩ := law_few 13 (ra := ra) (z := z) (rt := rt) iax iay ibx iby ist
  cases fw with
  | false => exact p5_few (TT_io 20) ax ay bx by_ ra st z rt false awake hfw rfl awake
  | true =>
    rcases bothP 14 13 (z := z) (rt := rt) iax iay ibx iby ira ist with ⟨er, h11, _, hne⟩ | ⟨s, m, hpe, hs, hms, hm, hlo, hhi, h11, _⟩
    · exact p5_err (TT_io 20) ax ay bx by_ ra st z rt er true awake hfw rfl h11 (sc_b (by simpa using hne))
    · by_cases hlong : ((2 * (m + 2) - 1 : Nat) : Int) > 120
      · exact p5_long (TT_io 20) ax ay bx by_ ra st z rt _ _ true awake hfw rfl h11 (sc_b (decide_eq_true hlong))
      · obtain ⟨hok, h1, h2, h3, h4, h5, h6, h7⟩ := pe_ok iax iay ibx iby ira hpe
        obtain ⟨hax, hay, hr, a1, a2, a3, a4⟩ := rnd_ok iax iay ira h1 h5
        obtain ⟨hbx, hby, _, b1, b2, b3, b4⟩ := rnd_ok ibx iby ira h1 h6
        have hz : Small z := farb_small.1 h7
        have hok' : okr ax ay bx by_ = true := by rw [← okd_okr]; exact hok
        have hst : st13 ax ay bx by_ ra z = 0 := by
          unfold st13 any1
          rw [hok, h5, h6, h7, show decide (ra ≤ 0) = false from decide_eq_false (by omega)]; rfl
        obtain ⟨sx, sy, sz, se, hs1, _, hs3, hs4⟩ := bothS 14 0 (z := z) iax iay ibx iby ira
        obtain rfl := hs4 hst
        obtain ⟨_, q1, q2, q3⟩ := hs3 rfl
        rw [q1, q2, q3] at hs1
        have e1 : IntKind.i64.wrap ((IntKind.i64.wrap ((2 : Int) * bx)) - ax) = 2 * bx - ax := by unfold Small at *; rw [w64 (n := 2 * bx) (by omega), w64 (by omega)]
        have e2 : IntKind.i64.wrap ((IntKind.i64.wrap ((2 : Int) * by_)) - ay) = 2 * by_ - ay := by unfold Small at *; rw [w64 (n := 2 * by_) (by omega), w64 (by omega)]
        obtain ⟨lx, ly, lz, ge, hl1, _, hl3, _⟩ := bothS 14 0 (ax := bx) (ay := by_) (bx := 2 * bx - ax) (by_ := 2 * by_ - ay) (z := z) ibx iby (by unfold Small at *; unfold In64; omega) (by unfold Small at *; unfold In64; omega) ira
        rw [← e1, ← e2] at hl1
        have hlen := pathL_len ax ay bx by_ s m
        have hdir : Dir (cmp3 bx ax) (cmp3 by_ ay) := by
          unfold Dir
          rcases four hok' with ⟨_, _, e1, e2⟩ | ⟨_, _, e1, e2⟩ | ⟨_, _, e1, e2⟩ | ⟨_, _, e1, e2⟩ <;> rw [e1, e2] <;> omega
        have hL0 : 0 < (pathL ax ay bx by_ s m).length := by omega
        obtain ⟨j, jb, hloop⟩ := law5_loop (ax := ax) (ay := ay) (bx := bx) (by_ := by_) (st := st) (lx := lx) (ly := ly) (lz := lz) (ge := ge) (fw := true) hL0 (by omega) hdir hr h1 hz h3 (pathL_good hok' ⟨hax, hay, a1, a2, a3, a4⟩ ⟨hbx, hby, b1, b2, b3, b4⟩ hs hlo)
        have hlast : (pathL ax ay bx by_ s m)[(pathL ax ay bx by_ s m).length - 1] = (bx, by_) := by
          have := pathL_last ax ay bx by_ s m (by omega)
          simpa [hlen] using this
        rw [pathL_head hax hay hL0, hlast, hlen] at hloop
        by_cases hge : ge = 0
        · obtain ⟨_, g1, g2, g3⟩ := hl3 hge
          have c1 : cmp3 (2 * bx - ax) bx = cmp3 bx ax := cmp3_ext ..
          have c2 : cmp3 (2 * by_ - ay) by_ = cmp3 by_ ay := cmp3_ext ..
          rw [c1] at g1
          rw [c2] at g2
          exact (p5_last (TT_io 20) ax ay bx by_ ra st z rt _ _ _ lx ly lz ge _ _ _ _ _ _ true j jb awake hfw rfl h11 (sc_b (decide_eq_false hlong)) hs1 hl1 hloop (sc_b (by rw [hge]; rfl))).trans (by rw [g1, g2, g3]; simp)
        · exact p5_end (TT_io 20) ax ay bx by_ ra st z rt _ _ _ lx ly lz ge _ _ _ _ _ _ true j jb awake hfw rfl h11 (sc_b (decide_eq_false hlong)) hs1 hl1 hloop (sc_b (by simpa using hge))
end Go.Proofs.Ytkeelkeoijemiaa.Ev
