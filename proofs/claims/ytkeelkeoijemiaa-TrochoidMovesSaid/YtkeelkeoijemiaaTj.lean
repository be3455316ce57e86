/- What Path answers, for a list of centers. -/
import Derived.Test.YtkeelkeoijemiaaTi
namespace Go.Proofs.Ytkeelkeoijemiaa.Ev
open Go Go.RowKit
set_option linter.unusedVariables false

/-- The cells of points. -/
def flat : List (Int × Int) → List MV
  | [] => []
  | p :: l => .sc (.int .i64 p.1) :: .sc (.int .i64 p.2) :: flat l
theorem flat_append : ∀ a b, flat (a ++ b) = flat a ++ flat b
  | [], b => rfl
  | p :: a, b => by simp [flat, flat_append a b]
theorem flat_len : ∀ l, (flat l).length = l.length * 2
  | [] => rfl
  | p :: l => by simp [flat, flat_len l]; omega
theorem flat_all : ∀ l, AllI (flat l)
  | [] => fun m hm => by cases hm
  | p :: l => fun m hm => by
    simp only [flat, List.mem_cons] at hm
    rcases hm with rfl | rfl | hm
    · exact ⟨_, rfl⟩
    · exact ⟨_, rfl⟩
    · exact flat_all l m hm
theorem flat_at : ∀ (l : List (Int × Int)) (k : Nat) (h : k < l.length), takeAs true 2 ((flat l).drop (k * 2)) = some (.agg [.sc (.int .i64 l[k].1), .sc (.int .i64 l[k].2)])
  | p :: l, 0, _ => by simp [flat, takeAs]
  | p :: l, k + 1, h => by
    have := flat_at l k (by simpa using h)
    rw [show (k + 1) * 2 = k * 2 + 1 + 1 by omega]
    simpa [flat] using this

/-- The cells of a path's moves: what comes for each center ahead of its circle, and the circle. -/
def mvs (f c : Int × Int → List MV) : List (Int × Int) → List MV
  | [] => []
  | p :: l => c p ++ l.flatMap fun q => f q ++ c q
theorem mvs_snoc (f c : Int × Int → List MV) (p : Int × Int) (l : List (Int × Int)) (q : Int × Int) : mvs f c (p :: l ++ [q]) = mvs f c (p :: l) ++ f q ++ c q := by
  simp [mvs]
theorem mvs_len {f c : Int × Int → List MV} (hf : ∀ p, (f p).length = 7) (hc : ∀ p, (c p).length = 7) : ∀ l : List (Int × Int), l ≠ [] → (mvs f c l).length = (2 * l.length - 1) * 7
  | [], h => absurd rfl h
  | p :: l, _ => by
    have : ∀ l : List (Int × Int), (l.flatMap fun q => f q ++ c q).length = l.length * 14 := by
      intro l
      induction l with
      | nil => rfl
      | cons q l ih => simp [List.flatMap_cons, hf, hc, ih]; omega
    simp [mvs, hc, this]; omega
theorem mvs_leaves {f c : Int × Int → List MV} (hf : ∀ p, Leaves (f p)) (hc : ∀ p, Leaves (c p)) : ∀ l : List (Int × Int), Leaves (mvs f c l)
  | [] => Leaves.nil
  | p :: l => by
    refine (hc p).append fun m hm => ?_
    obtain ⟨q, _, hq⟩ := List.mem_flatMap.1 hm
    exact ((hf q).append (hc q)) m hq
theorem mvs_congr {f c f' c' : Int × Int → List MV} {l : List (Int × Int)} (hf : ∀ p ∈ l, f p = f' p) (hc : ∀ p ∈ l, c p = c' p) : mvs f c l = mvs f' c' l := by
  cases l with
  | nil => rfl
  | cons p l =>
    simp only [mvs, hc p (by simp)]
    congr 1
    have : ∀ l : List (Int × Int), (∀ p ∈ l, f p = f' p) → (∀ p ∈ l, c p = c' p) → (l.flatMap fun q => f q ++ c q) = l.flatMap fun q => f' q ++ c' q := by
      intro l
      induction l with
      | nil => intros; rfl
      | cons q l ih => intro h1 h2; simp only [List.flatMap_cons, h1 q (by simp), h2 q (by simp), ih (fun p hp => h1 p (by simp [hp])) fun p hp => h2 p (by simp [hp])]
    exact this l (fun p hp => hf p (by simp [hp])) fun p hp => hc p (by simp [hp])

/-- A feed to a circle's start, and the circle. -/
def fdM (S : Int × Int → Int × Int) (z rt : Int) (p : Int × Int) : List MV := [.sc (.int .i64 2), .sc (.int .i64 (S p).1), .sc (.int .i64 (S p).2), .sc (.int .i64 z), .sc (.int .i64 0), .sc (.int .i64 0), .sc (.int .i64 rt)]
def crM (S : Int × Int → Int × Int) (z rt : Int) (p : Int × Int) : List MV := [.sc (.int .i64 4), .sc (.int .i64 (S p).1), .sc (.int .i64 (S p).2), .sc (.int .i64 z), .sc (.int .i64 p.1), .sc (.int .i64 p.2), .sc (.int .i64 rt)]
theorem fdM_leaves (S : Int × Int → Int × Int) (z rt : Int) (p : Int × Int) : Leaves (fdM S z rt p) := by
  intro m hm; simp only [fdM, List.mem_cons, List.not_mem_nil, or_false] at hm; rcases hm with rfl | rfl | rfl | rfl | rfl | rfl | rfl <;> rfl
theorem crM_leaves (S : Int × Int → Int × Int) (z rt : Int) (p : Int × Int) : Leaves (crM S z rt p) := by
  intro m hm; simp only [crM, List.mem_cons, List.not_mem_nil, or_false] at hm; rcases hm with rfl | rfl | rfl | rfl | rfl | rfl | rfl <;> rfl
def mvM (S : Int × Int → Int × Int) (z rt : Int) (l : List (Int × Int)) : List MV := mvs (fdM S z rt) (crM S z rt) l
theorem mvM_len (S : Int × Int → Int × Int) (z rt : Int) {l : List (Int × Int)} (h : l ≠ []) : (mvM S z rt l).length = (2 * l.length - 1) * 7 := mvs_len (fun _ => rfl) (fun _ => rfl) l h
theorem mvM_leaves (S : Int × Int → Int × Int) (z rt : Int) (l : List (Int × Int)) : Leaves (mvM S z rt l) := mvs_leaves (fdM_leaves S z rt) (crM_leaves S z rt) l
theorem mvM_succ (S : Int × Int → Int × Int) (z rt : Int) (l : List (Int × Int)) (k : Nat) (h : k + 1 < l.length) : mvM S z rt (l.take (k + 2)) = mvM S z rt (l.take (k + 1)) ++ fdM S z rt l[k + 1] ++ crM S z rt l[k + 1] := by
  rw [List.take_succ_eq_append_getElem h]
  cases l with
  | nil => simp at h
  | cons p l => exact mvs_snoc _ _ p (l.take k) _

def sttP (dx dy r : Int) (p : Int × Int) : Int × Int := (stt p.1 dx r, stt p.2 dy r)
def atbP (dx dy r : Int) (p : Int × Int) : Int × Int := (atb p.1 (IntKind.i64.wrap (0 - r)) dx, atb p.2 (IntKind.i64.wrap (0 - r)) dy)

theorem c11_loop (n : Nat) {ax ay bx by_ r st z rt : Int} {l : List (Int × Int)} (hne : l ≠ []) (hl : l.length < 100000) :
    ∃ t19 j jb, evalLoop (fun s => evalCode Go.Proofs.Try.prog (TT (n + 1)) FUEL (bodyOf Go.Proofs.Try.prog 11 0) (normSt (scratch1 (bodyOf Go.Proofs.Try.prog 11 0)) s)) FUEL (I11 ax ay bx by_ r st z rt l.length (flat l)) =
      some (.exit 0, r11b_X1 ax ay bx by_ r st z rt (l.length : Nat) t19 (l.length : Nat) (dir1 ax bx) (dir1 ay by_) l.length (2 * l.length - 1) (flat l) (mvM (sttP (dir1 ax bx) (dir1 ay by_) r) z rt l) j jb) := by
  have hio := TT_io (n + 1)
  generalize hdx : dir1 ax bx = dx
  generalize hdy : dir1 ay by_ = dy
  have h0 : 0 < l.length := List.length_pos_iff.2 hne
  have hfl : flat l ≠ [] := by intro h; have := flat_len l; rw [h] at this; simp at this; omega
  obtain ⟨M, hM⟩ : ∃ M, l.length = M + 1 := ⟨l.length - 1, by omega⟩
  have loop : ∃ o s', evalLoop (fun s => evalCode Go.Proofs.Try.prog (TT (n + 1)) FUEL (bodyOf Go.Proofs.Try.prog 11 0) (normSt (scratch1 (bodyOf Go.Proofs.Try.prog 11 0)) s)) FUEL (I11 ax ay bx by_ r st z rt l.length (flat l)) = some (o, s') ∧
      (o = .exit 0 ∧ ∃ t19 j jb, s' = r11b_X1 ax ay bx by_ r st z rt (l.length : Nat) t19 (l.length : Nat) dx dy l.length (2 * l.length - 1) (flat l) (mvM (sttP dx dy r) z rt l) j jb) := by
    refine loop_inv (G := fun s => evalCode Go.Proofs.Try.prog (TT (n + 1)) FUEL (bodyOf Go.Proofs.Try.prog 11 0) s) (nm := normSt (scratch1 (bodyOf Go.Proofs.Try.prog 11 0))) (fun k S =>
      match k with
      | 0 => ∃ j jb, S = L11a ax ay bx by_ r st z rt (l.length : Nat) dx dy l.length (flat l) j jb
      | k + 1 => ∃ t19 j jb, S = L11b ax ay bx by_ r st z rt ((k + 1 : Nat) : Int) t19 (l.length : Nat) dx dy l.length (2 * k + 1) (flat l) (mvM (sttP dx dy r) z rt (l.take (k + 1))) j jb) _ l.length FUEL _ 0 ?_ ?_ ?_ (by unfold FUEL; omega)
    · rintro k S _ hk hs
      cases k with
      | zero =>
        obtain ⟨j, jb, rfl⟩ := hs
        have hp := flat_at l 0 h0
        obtain ⟨S', e1, e2⟩ := r11a_0 hio ax ay bx by_ r st z rt (l.length : Nat) dx dy l[0].1 l[0].2 l.length (flat l) j jb (sc_b (decide_eq_true (by omega))) ⟨by omega, by omega, hfl⟩ (by simpa using hp) (by exact c27 n ..)
        refine ⟨S', e1, 0, j, jb, e2.trans ?_⟩
        have ht : l.take 1 = [l[0]] := by
          match l, h0 with
          | p :: l, _ => simp
        rw [show 0 + 1 = 1 from rfl, ht]
        simp [mvM, mvs, crM, sttP]
      | succ k =>
        obtain ⟨t19, j, jb, rfl⟩ := hs
        have hkl : k + 1 < l.length := by omega
        have hp := flat_at l (k + 1) hkl
        have hln : (mvM (sttP dx dy r) z rt (l.take (k + 1))).length = (2 * k + 1) * 7 := by
          have hne' : l.take (k + 1) ≠ [] := by intro h; have := congrArg List.length h; rw [List.length_take, Nat.min_eq_left (by omega)] at this; simp at this
          rw [mvM_len _ _ _ hne', List.length_take, Nat.min_eq_left (by omega)]; omega
        obtain ⟨S', e1, e2⟩ := r11b_0 hio ax ay bx by_ r st z rt ((k + 1 : Nat) : Int) t19 (l.length : Nat) dx dy l[k + 1].1 l[k + 1].2 l.length (2 * k + 1) (flat l) _ j jb (sc_b (decide_eq_true (by omega))) ⟨by omega, by omega, hfl⟩ (by simpa using hp) (sc_b (decide_eq_true (by omega)))
          (by exact c27 n ..) ⟨rfl, rfl, rfl, by decide, rfl, rfl, by rw [hln]; omega, by omega, rfl⟩ (by exact c27 n ..) ⟨rfl, rfl, rfl, by decide, rfl, rfl, by rw [List.length_append, hln]; simp; omega, by omega, rfl⟩
          (((mvM_leaves _ _ _ _).append (fdM_leaves (sttP dx dy r) z rt l[k + 1])).append (crM_leaves (sttP dx dy r) z rt l[k + 1])).noNames
        refine ⟨S', e1, ((k + 1 : Nat) : Int), j, jb, e2.trans ?_⟩
        rw [w64 (by omega), mvM_succ _ _ _ _ _ hkl]
        rfl
    · rintro S hs
      rw [Nat.zero_add, hM] at hs
      obtain ⟨t19, j, jb, rfl⟩ := hs
      refine ⟨_, _, r11b_1 hio ax ay bx by_ r st z rt ((M + 1 : Nat) : Int) t19 ((M + 1 : Nat) : Int) dx dy (M + 1) (2 * M + 1) (flat l) _ j jb (sc_b (decide_eq_false (by omega))), by simp, rfl, t19, j, jb, ?_⟩
      rw [hM, List.take_of_length_le (by omega), show 2 * (M + 1) - 1 = 2 * M + 1 by omega]
    · have := i11 ax ay bx by_ r st z rt l.length (flat l)
      rw [hdx, hdy] at this
      exact ⟨_, _, this⟩
  obtain ⟨o, s', e1, rfl, t19, j, jb, rfl⟩ := loop
  exact ⟨t19, j, jb, e1⟩
end Go.Proofs.Ytkeelkeoijemiaa.Ev
