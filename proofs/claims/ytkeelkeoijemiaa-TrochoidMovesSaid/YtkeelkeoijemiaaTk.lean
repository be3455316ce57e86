/- What the reference's Path answers, for a list of centers. -/
import Derived.Test.YtkeelkeoijemiaaTj
namespace Go.Proofs.Ytkeelkeoijemiaa.Ev
open Go Go.RowKit
set_option linter.unusedVariables false

theorem take_one {l : List (Int × Int)} (h : 0 < l.length) : l.take 1 = [l[0]] := by
  cases l with
  | nil => simp at h
  | cons p l => simp

theorem c12_loop (n : Nat) {ax ay bx by_ r st z rt : Int} {l : List (Int × Int)} (hne : l ≠ []) (hl : l.length < 100000) :
    ∃ j jb, evalLoop (fun s => evalCode Go.Proofs.Try.prog (TT (n + 1)) FUEL (bodyOf Go.Proofs.Try.prog 12 0) (normSt (scratch1 (bodyOf Go.Proofs.Try.prog 12 0)) s)) FUEL (I12 ax ay bx by_ r st z rt l.length (flat l)) =
      some (.exit 0, r12b_X1 ax ay bx by_ r st z rt (l.length : Nat) (cmp3 bx ax) (cmp3 by_ ay) l.length (2 * l.length - 1) (flat l) (mvM (atbP (cmp3 bx ax) (cmp3 by_ ay) r) z rt l) j jb) := by
  have hio := TT_io (n + 1)
  generalize hdx : cmp3 bx ax = dx
  generalize hdy : cmp3 by_ ay = dy
  have h0 : 0 < l.length := List.length_pos_iff.2 hne
  have hfl : flat l ≠ [] := by intro h; have := flat_len l; rw [h] at this; simp at this; omega
  obtain ⟨M, hM⟩ : ∃ M, l.length = M + 1 := ⟨l.length - 1, by omega⟩
  have loop : ∃ o s', evalLoop (fun s => evalCode Go.Proofs.Try.prog (TT (n + 1)) FUEL (bodyOf Go.Proofs.Try.prog 12 0) (normSt (scratch1 (bodyOf Go.Proofs.Try.prog 12 0)) s)) FUEL (I12 ax ay bx by_ r st z rt l.length (flat l)) = some (o, s') ∧
      (o = .exit 0 ∧ ∃ j jb, s' = r12b_X1 ax ay bx by_ r st z rt (l.length : Nat) dx dy l.length (2 * l.length - 1) (flat l) (mvM (atbP dx dy r) z rt l) j jb) := by
    refine loop_inv (G := fun s => evalCode Go.Proofs.Try.prog (TT (n + 1)) FUEL (bodyOf Go.Proofs.Try.prog 12 0) s) (nm := normSt (scratch1 (bodyOf Go.Proofs.Try.prog 12 0))) (fun k S =>
      match k with
      | 0 => ∃ j jb, S = L12a ax ay bx by_ r st z rt dx dy l.length (flat l) j jb
      | k + 1 => ∃ j jb, S = L12b ax ay bx by_ r st z rt ((k + 1 : Nat) : Int) dx dy l.length (2 * k + 1) (flat l) (mvM (atbP dx dy r) z rt (l.take (k + 1))) j jb) _ l.length FUEL _ 0 ?_ ?_ ?_ (by unfold FUEL; omega)
    · rintro k S _ hk hs
      cases k with
      | zero =>
        obtain ⟨j, jb, rfl⟩ := hs
        have hp := flat_at l 0 h0
        obtain ⟨S', e1, e2⟩ := r12a_0 hio ax ay bx by_ r st z rt dx dy l[0].1 l[0].2 l[0].1 l[0].2 l.length (flat l) j jb (sc_b (decide_eq_true (by omega))) ⟨by omega, by omega, hfl⟩ (by simpa using hp) (by exact c25 n ..) (by exact c28 n ..) ⟨by omega, by omega, hfl⟩ (by simpa using hp)
        refine ⟨S', e1, j, jb, e2.trans ?_⟩
        have ht : l.take 1 = [l[0]] := take_one h0
        rw [show 0 + 1 = 1 from rfl, ht]
        simp only [mvM, mvs, crM, atbP, List.flatMap_nil, List.append_nil]
        rfl
      | succ k =>
        obtain ⟨j, jb, rfl⟩ := hs
        have hkl : k + 1 < l.length := by omega
        have hp := flat_at l (k + 1) hkl
        have hln : (mvM (atbP dx dy r) z rt (l.take (k + 1))).length = (2 * k + 1) * 7 := by
          have hne' : l.take (k + 1) ≠ [] := by intro h; have := congrArg List.length h; rw [List.length_take, Nat.min_eq_left (by omega)] at this; simp at this
          rw [mvM_len _ _ _ hne', List.length_take, Nat.min_eq_left (by omega)]; omega
        obtain ⟨S', e1, e2⟩ := r12b_0 hio ax ay bx by_ r st z rt ((k + 1 : Nat) : Int) dx dy l[k + 1].1 l[k + 1].2 l[k + 1].1 l[k + 1].2 l.length (2 * k + 1) (flat l) _ j jb (sc_b (decide_eq_true (by omega))) ⟨by omega, by omega, hfl⟩ (by simpa using hp)
          (by exact c25 n ..) (by exact c28 n ..) (sc_b (decide_eq_true (by omega))) ⟨rfl, rfl, rfl, by decide, rfl, rfl, by rw [hln]; omega, by omega, rfl⟩ ⟨by omega, by omega, hfl⟩ (by simpa using hp)
          ⟨rfl, rfl, rfl, by decide, rfl, rfl, by rw [List.length_append, hln]; simp; omega, by omega, rfl⟩
          (((mvM_leaves _ _ _ _).append (fdM_leaves (atbP dx dy r) z rt l[k + 1])).append (crM_leaves (atbP dx dy r) z rt l[k + 1])).noNames
        refine ⟨S', e1, j, jb, e2.trans ?_⟩
        rw [w64 (by omega), mvM_succ _ _ _ _ _ hkl]
        rfl
    · rintro S hs
      rw [Nat.zero_add, hM] at hs
      obtain ⟨j, jb, rfl⟩ := hs
      refine ⟨_, _, r12b_1 hio ax ay bx by_ r st z rt ((M + 1 : Nat) : Int) dx dy (M + 1) (2 * M + 1) (flat l) _ j jb (sc_b (decide_eq_false (by omega))), by simp, rfl, j, jb, ?_⟩
      rw [hM, List.take_of_length_le (by omega), show 2 * (M + 1) - 1 = 2 * M + 1 by omega]
    · have := i12 ax ay bx by_ r st z rt l.length (flat l)
      rw [hdx, hdy] at this
      exact ⟨_, _, this⟩
  obtain ⟨o, s', e1, rfl, j, jb, rfl⟩ := loop
  exact ⟨j, jb, e1⟩

/-- The centers as points. -/
def ptL (ax ay dx dy st : Int) : Nat → List (Int × Int)
  | 0 => []
  | k + 1 => ptL ax ay dx dy st k ++ [(ptc ax dx (k * st), ptc ay dy (k * st))]
theorem flat_ptL (ax ay dx dy st : Int) : ∀ k, flat (ptL ax ay dx dy st k) = pts ax ay dx dy st k
  | 0 => rfl
  | k + 1 => by rw [ptL, flat_append, flat_ptL ax ay dx dy st k, pts]; rfl
theorem ptL_len (ax ay dx dy st : Int) : ∀ k, (ptL ax ay dx dy st k).length = k
  | 0 => rfl
  | k + 1 => by simp [ptL, ptL_len ax ay dx dy st k]

/-- Centers lie on the way. -/
theorem ptc_way {ax ay bx by_ t : Int} (h : okr ax ay bx by_ = true) (hax : Small ax) (hay : Small ay) (hbx : Small bx) (hby : Small by_) (h0 : 0 ≤ t) (h1 : t < wayLen ax ay bx by_) :
    Small (ptc ax (cmp3 bx ax) t) ∧ Small (ptc ay (cmp3 by_ ay) t) := by
  have hL := (way_pos h hax hay hbx hby).2
  rw [ptc_val hax (cmp3_unit _ _) h0 (by omega), ptc_val hay (cmp3_unit _ _) h0 (by omega)]
  unfold Small at *
  unfold wayLen at h1
  rcases four h with ⟨h2, h3, e1, e2⟩ | ⟨h2, h3, e1, e2⟩ | ⟨h2, h3, e1, e2⟩ | ⟨h2, h3, e1, e2⟩ <;> rw [e1, e2] at h1 ⊢ <;> omega
theorem ptL_small {ax ay bx by_ s : Int} (h : okr ax ay bx by_ = true) (hax : Small ax) (hay : Small ay) (hbx : Small bx) (hby : Small by_) (hs : 0 < s) : ∀ k : Nat, (∀ j : Nat, j < k → j * s < wayLen ax ay bx by_) →
    ∀ p ∈ ptL ax ay (cmp3 bx ax) (cmp3 by_ ay) s k, Small p.1 ∧ Small p.2
  | 0, _, p, hp => by cases hp
  | k + 1, hk, p, hp => by
    rcases List.mem_append.1 hp with hp | hp
    · exact ptL_small h hax hay hbx hby hs k (fun j hj => hk j (by omega)) p hp
    · simp only [List.mem_singleton] at hp
      subst hp
      exact ptc_way h hax hay hbx hby (Int.mul_nonneg (by omega) (by omega)) (hk k (by omega))

/-- Both programs' centers of a way whose arguments are valid. -/
theorem coreL (n n' : Nat) {ax ay bx by_ st : Int} (hok : okr ax ay bx by_ = true) (hax : Small ax) (hay : Small ay) (hbx : Small bx) (hby : Small by_) (hst : 0 < st) (ist : In64 st) :
    ((TT (n + 5)).call 21 [g2M ax ay, g2M bx by_, g2M (dir1 ax bx) (dir1 ay by_), .sc (.int .i64 st)] = tupM nilM 3 ∧ (TT (n' + 6)).call 9 [g2M ax ay, g2M bx by_, .sc (.int .i64 st)] = tupM nilM 3) ∨
    (∃ (s : Int) (m : Nat), 0 < s ∧ (m + 1 ≤ 1 ∨ s = st) ∧ m < 9999 ∧ m * s < wayLen ax ay bx by_ ∧ wayLen ax ay bx by_ ≤ (m + 1) * s ∧ (TT (n + 5)).call 21 [g2M ax ay, g2M bx by_, g2M (dir1 ax bx) (dir1 ay by_), .sc (.int .i64 st)] = tupM (.fs (m + 2) none (flat (ptL ax ay (cmp3 bx ax) (cmp3 by_ ay) s (m + 1) ++ [(bx, by_)]))) 0 ∧
      (TT (n' + 6)).call 9 [g2M ax ay, g2M bx by_, .sc (.int .i64 st)] = tupM (.fs (m + 2) none (flat (ptL ax ay (cmp3 bx ax) (cmp3 by_ ay) s (m + 1) ++ [(bx, by_)]))) 0) := by
  have hio := TT_io (n' + 5)
  have k9 : ∀ {r}, evalBody Go.Proofs.Try.prog (TT (n' + 5)) FUEL (ioOf 9) 9 [g2M ax ay, g2M bx by_, .sc (.int .i64 st)] = r → (TT (n' + 6)).call 9 [g2M ax ay, g2M bx by_, .sc (.int .i64 st)] = r := fun h => (deep_call rfl).trans h
  have q22 := c22 (n' + 2) ax ay bx by_ 0 0
  have q23 := c23 (n' + 3) ax ay bx by_
  have s1 : (MV.sc (.bool (decide (st < (1 : Int)))) : MV) = .sc (.bool false) := sc_b (decide_eq_false (by omega))
  have fax := farb_small.2 hax
  have fay := farb_small.2 hay
  have fbx := farb_small.2 hbx
  have fby := farb_small.2 hby
  have iax : In64 ax := by unfold Small at hax; unfold In64; omega
  have iay : In64 ay := by unfold Small at hay; unfold In64; omega
  have ibx : In64 bx := by unfold Small at hbx; unfold In64; omega
  have iby : In64 by_ := by unfold Small at hby; unfold In64; omega
  have hc : chk ax ay bx by_ 0 0 = 0 := by
    unfold chk
    rw [if_neg (by rw [hok]; decide), outb_small iax iay, outb_small ibx iby, fax, fay, fbx, fby]; rfl
  obtain ⟨hL0, hL⟩ := way_pos hok hax hay hbx hby
  obtain ⟨m, hm, hlo, hhi⟩ := steps hL0 (show 0 < st by omega)
  have hlen := len4_way hok hax hay hbx hby
  have hlenR := lenR_way hok hax hay hbx hby
  have hmL : (m : Int) ≤ 20000000 := by
    have := Int.mul_le_mul_of_nonneg_left (show (1 : Int) ≤ st by omega) (show (0 : Int) ≤ m by omega)
    omega
  unfold In64 at ist
  have hdiv : (IntKind.i64.wrap (len4 ax ay bx by_ - 1)).tdiv st = m := by
    rw [hlen, w64 (by omega), Int.tdiv_eq_ediv_of_nonneg (by omega), hm]
  have hq : IntKind.i64.wrap (IntKind.i64.wrap ((IntKind.i64.wrap (len4 ax ay bx by_ - 1)).tdiv st) + 2) = m + 2 := by
    rw [hdiv, w64 (n := (m : Int)) (by omega), w64 (by omega)]
  obtain ⟨s, hs⟩ : ∃ s, s = gmin st (IntKind.i64.wrap (IntKind.i64.wrap (IntKind.i64.wrap (bx - ax) * cmp3 bx ax) + IntKind.i64.wrap (IntKind.i64.wrap (by_ - ay) * cmp3 by_ ay))) := ⟨_, rfl⟩
  have hs' : s = min st (wayLen ax ay bx by_) := by rw [hs, hlenR, gmin_min]
  have hms : (m = 0 ∧ s ≤ wayLen ax ay bx by_) ∨ st = s := by
    by_cases h : st ≤ wayLen ax ay bx by_
    · exact .inr (by omega)
    · refine .inl ⟨?_, by omega⟩
      cases m with
      | zero => rfl
      | succ m =>
        have := Int.mul_le_mul_of_nonneg_right (show (1 : Int) ≤ ((m + 1 : Nat) : Int) by omega) (show (0 : Int) ≤ st by omega)
        omega
  have hsL : s ≤ wayLen ax ay bx by_ := by omega
  have hs0 : 0 < s := by omega
  have hlo' : m * s < wayLen ax ay bx by_ := by
    rcases hms with ⟨rfl, _⟩ | h
    · simpa using hL0
    · rw [← h]; exact hlo
  have hhi' : wayLen ax ay bx by_ ≤ (m + 1) * s := by
    rcases hms with ⟨rfl, h⟩ | h
    · have : s = wayLen ax ay bx by_ := by simp at hhi; omega
      rw [this]; simp
    · rw [← h]; exact hhi
  have hqR : IntKind.i64.wrap ((IntKind.i64.wrap ((IntKind.i64.wrap ((wayLen ax ay bx by_) + s)) - (1 : Int))).tdiv s) = m + 1 := by
    rw [w64 (n := wayLen ax ay bx by_ + s) (by omega), w64 (n := wayLen ax ay bx by_ + s - 1) (by omega), Int.tdiv_eq_ediv_of_nonneg (by omega),
      div_is (q := m + 1) hs0 (by rw [Int.add_mul]; omega) (by rw [Int.add_mul, Int.add_mul]; rw [Int.add_mul] at hhi'; omega), w64 (by omega)]
  have t0 : gmin st (IntKind.i64.wrap ((IntKind.i64.wrap ((IntKind.i64.wrap (bx - ax)) * (cmp3 bx ax))) + (IntKind.i64.wrap ((IntKind.i64.wrap (by_ - ay)) * (cmp3 by_ ay))))) ≠ 0 := by rw [← hs]; omega
  have nc : (MV.sc (.bool ((chk ax ay bx by_ 0 0) != (0 : Int))) : MV) = .sc (.bool false) := sc_b (by rw [hc]; rfl)
  by_cases hbig : 9999 ≤ m
  · refine .inl ⟨?_, k9 ?_⟩
    · refine (deep_call rfl).trans ?_
      exact p21_0 (TT_io (n + 4)) ax ay bx by_ _ _ st (by omega) (sc_b (decide_eq_true (by show IntKind.i64.wrap (IntKind.i64.wrap ((IntKind.i64.wrap (len4 ax ay bx by_ - 1)).tdiv st) + 2) > 10000; rw [hq]; omega)))
    · refine p9_2 hio ax ay bx by_ st s1 q22 nc q23 ⟨rfl, rfl, rfl, by decide⟩ t0 (sc_b (decide_eq_true ?_))
      rw [← hs, hlenR, hqR]; omega
  · refine .inr ⟨s, m, hs0, by rcases hms with ⟨h, _⟩ | h; exact .inl (by omega); exact .inr h.symm, by omega, hlo', hhi', ?_, k9 ?_⟩
    · have h21 := c21 (n + 4) (ax := ax) (ay := ay) (bx := bx) (by_ := by_) (dx := dir1 ax bx) (dy := dir1 ay by_) (st := st) (m := m) (by omega) (by omega) (by omega) (by omega) (by omega) (by omega) (by rw [hq]; omega)
      rw [pts_step (s := s) (by rcases hms with ⟨rfl, _⟩ | h; exact .inl (by omega); exact .inr h)] at h21
      rw [flat_append, flat_ptL, ← dir1_cmp, ← dir1_cmp]
      exact h21
    · obtain ⟨j8, j11, j18, j19, j22_0_0, j22_0_1, j25_0_0, j25_0_1, j26_0, j26_1, j32, j34, j35, j40, j42, j43, j44, j46, j47, j48, j49, j50, j51, j52, j53, j10, j22_1, j25_1, j27, hloop⟩ := c9_loop (n' + 2) (ax := ax) (ay := ay) (bx := bx) (by_ := by_) (st := st) (m := m) rfl rfl hs hok hax hay hbx hby (by omega) hs0 hsL hlo' hhi'
      have hl : (pts ax ay (cmp3 bx ax) (cmp3 by_ ay) s (m + 1) ++ [MV.sc (.int .i64 bx), MV.sc (.int .i64 by_)]).length = (m + 1 + 1) * 2 := by simp [pts_len]; omega
      refine (p9_3 hio ax ay bx by_ st _ _ s j8 j11 j18 j19 j22_0_0 j22_0_1 j25_0_0 j25_0_1 j26_0 j26_1 j32 j34 j35 j40 j42 j43 j44 j46 j47 j48 j49 j50 j51 j52 j53 _ _ j10 j22_1 j25_1 j27 (m + 1) _ s1 q22 nc q23 ⟨rfl, rfl, rfl, by decide⟩ t0 (sc_b (decide_eq_false ?_)) ⟨rfl, rfl, rfl, by decide⟩ hloop
        ⟨rfl, rfl, rfl, by decide, rfl, rfl, by rw [pts_len]; omega, by omega, rfl⟩ ⟨rfl, by decide, by rw [hl]; omega, ?_⟩).trans ?_
      · rw [← hs, hlenR, hqR]; omega
      · exact (((pts_leaves _ _ _ _ _ _).append (Leaves.cons rfl (Leaves.cons rfl Leaves.nil))).take _).plain (by rw [List.length_take, hl]; omega)
      · rw [List.take_of_length_le (by rw [hl]; omega), flat_append, flat_ptL]; rfl
end Go.Proofs.Ytkeelkeoijemiaa.Ev
