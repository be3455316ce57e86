/- Centers and the reference's Centers answer alike. -/
import Derived.Test.YtkeelkeoijemiaaTg
import Derived.Test.YtkeelkeoijemiaaTx
namespace Go.Proofs.Ytkeelkeoijemiaa.Ev
open Go Go.RowKit
set_option linter.unusedVariables false

def In64 (a : Int) : Prop := -9223372036854775808 ≤ a ∧ a ≤ 9223372036854775807
theorem rnd_small {x y : Int} (hx : In64 x) (hy : In64 y) : rnd x y 0 = (!farb x && !farb y) := by
  unfold In64 at *
  unfold rnd any2 any4
  simp only [Int.sub_zero, Int.add_zero, w64 hx, w64 hy]
  cases farb x <;> cases farb y <;> rfl
theorem outb_small {x y : Int} (hx : In64 x) (hy : In64 y) : outb x y 0 = (farb x || farb y) := by
  unfold In64 at *
  unfold outb
  have h0 : farb 0 = false := by decide
  simp only [Int.sub_zero, Int.add_zero, w64 hx, w64 hy, h0]
  cases farb x <;> cases farb y <;> rfl
/-- The number of steps. -/
theorem steps {L st : Int} (hL : 0 < L) (hs : 0 < st) : ∃ m : Nat, (L - 1) / st = m ∧ m * st < L ∧ L ≤ (m + 1) * st := by
  have h0 : 0 ≤ (L - 1) / st := Int.ediv_nonneg (by omega) (by omega)
  refine ⟨((L - 1) / st).toNat, by omega, ?_, ?_⟩
  · have := Int.ediv_mul_le (L - 1) (show st ≠ 0 by omega)
    rw [Int.toNat_of_nonneg h0]; omega
  · have := Int.lt_ediv_add_one_mul_self (L - 1) hs
    rw [Int.toNat_of_nonneg h0]; omega
theorem div_is {a b q : Int} (hb : 0 < b) (h1 : q * b ≤ a) (h2 : a < (q + 1) * b) : a / b = q := by
  have h3 := Int.ediv_mul_le a (show b ≠ 0 by omega)
  have h4 := Int.lt_ediv_add_one_mul_self a hb
  have h5 : q < a / b + 1 := Int.lt_of_mul_lt_mul_right (show q * b < (a / b + 1) * b by omega) (by omega)
  have h6 : a / b < q + 1 := Int.lt_of_mul_lt_mul_right (show a / b * b < (q + 1) * b by omega) (by omega)
  omega
theorem pts_step {ax ay dx dy st s : Int} : ∀ {k : Nat}, (k ≤ 1 ∨ st = s) → pts ax ay dx dy st k = pts ax ay dx dy s k
  | 0, _ => rfl
  | 1, _ => by simp [pts]
  | k + 2, h => by
    have : st = s := h.resolve_left (by omega)
    rw [this]

abbrev nilM : MV := .fs 0 (some 0) []
abbrev g2M (x y : Int) : MV := .agg [.sc (.int .i64 x), .sc (.int .i64 y)]
abbrev tupM (l : MV) (e : Int) : Option (MV × List (List MV)) := some (.tup [l, .sc (.int .i64 e)], [])

theorem both (n : Nat) {ax ay bx by_ st : Int} (iax : In64 ax) (iay : In64 ay) (ibx : In64 bx) (iby : In64 by_) (ist : In64 st) :
    (∃ er, (TT (n + 6)).call 8 [g2M ax ay, g2M bx by_, .sc (.int .i64 st)] = tupM nilM er ∧ (TT (n + 6)).call 9 [g2M ax ay, g2M bx by_, .sc (.int .i64 st)] = tupM nilM er) ∨
    (∃ N cs, N < 20000 ∧ cs.length = N * 2 ∧ AllI cs ∧ (TT (n + 6)).call 8 [g2M ax ay, g2M bx by_, .sc (.int .i64 st)] = tupM (.fs N none cs) 0 ∧ (TT (n + 6)).call 9 [g2M ax ay, g2M bx by_, .sc (.int .i64 st)] = tupM (.fs N none cs) 0) := by
  have hio := TT_io (n + 5)
  have k8 : ∀ {r}, evalBody Go.Proofs.Try.prog (TT (n + 5)) FUEL (ioOf 8) 8 [g2M ax ay, g2M bx by_, .sc (.int .i64 st)] = r → (TT (n + 6)).call 8 [g2M ax ay, g2M bx by_, .sc (.int .i64 st)] = r := fun h => (deep_call rfl).trans h
  have k9 : ∀ {r}, evalBody Go.Proofs.Try.prog (TT (n + 5)) FUEL (ioOf 9) 9 [g2M ax ay, g2M bx by_, .sc (.int .i64 st)] = r → (TT (n + 6)).call 9 [g2M ax ay, g2M bx by_, .sc (.int .i64 st)] = r := fun h => (deep_call rfl).trans h
  have q19 := c19 (n + 3) ax ay bx by_
  have q22 := c22 (n + 2) ax ay bx by_ 0 0
  have q23 := c23 (n + 3) ax ay bx by_
  have q20a := c20 n ax ay 0
  have q20b := c20 n bx by_ 0
  by_cases hst : st ≤ 0
  · refine .inl ⟨1, k8 ?_, k9 (p9_0 hio ax ay bx by_ st (sc_b (decide_eq_true (by omega))))⟩
    by_cases hd : okd ax ay bx by_ = true
    · exact p8n_1 hio ax ay bx by_ st 0 q19 (sc_b (by rw [hd]; rfl)) (sc_b (decide_eq_true hst))
    · exact p8n_0 hio ax ay bx by_ st 0 q19 (sc_b (by simpa using hd))
  · have s1 : (MV.sc (.bool (decide (st < (1 : Int)))) : MV) = .sc (.bool false) := sc_b (decide_eq_false (by omega))
    by_cases hd : okd ax ay bx by_ = true
    · have hok : okr ax ay bx by_ = true := by rw [← okd_okr]; exact hd
      have d1 : (MV.sc (.bool (!(okd ax ay bx by_))) : MV) = .sc (.bool false) := sc_b (by rw [hd]; rfl)
      have d2 : (MV.sc (.bool (decide (st ≤ (0 : Int)))) : MV) = .sc (.bool false) := sc_b (decide_eq_false hst)
      by_cases hr : (farb ax || farb ay || farb bx || farb by_) = true
      · have hc : chk ax ay bx by_ 0 0 = 11 := by
          unfold chk
          rw [if_neg (by rw [hok]; decide), outb_small iax iay, outb_small ibx iby, if_pos]
          revert hr; cases farb ax <;> cases farb ay <;> cases farb bx <;> cases farb by_ <;> simp
        have h9 := p9_1 hio ax ay bx by_ st s1 q22 (sc_b (by rw [hc]; rfl))
        rw [hc] at h9
        refine .inl ⟨11, k8 ?_, k9 h9⟩
        by_cases ha : rnd ax ay 0 = true
        · refine p8n_3 hio ax ay bx by_ st 0 q19 d1 d2 q20a (sc_b (by rw [ha]; rfl)) q20b (sc_b ?_)
          rw [rnd_small iax iay] at ha
          rw [rnd_small ibx iby]
          revert hr ha; cases farb ax <;> cases farb ay <;> cases farb bx <;> cases farb by_ <;> simp
        · exact p8n_2 hio ax ay bx by_ st 0 q19 d1 d2 q20a (sc_b (by simpa using ha))
      · simp only [Bool.or_eq_true, not_or, Bool.not_eq_true] at hr
        obtain ⟨⟨⟨fax, fay⟩, fbx⟩, fby⟩ := hr
        have hc : chk ax ay bx by_ 0 0 = 0 := by
          unfold chk
          rw [if_neg (by rw [hok]; decide), outb_small iax iay, outb_small ibx iby, fax, fay, fbx, fby]; rfl
        have ra : (MV.sc (.bool (!(rnd ax ay 0))) : MV) = .sc (.bool false) := sc_b (by rw [rnd_small iax iay, fax, fay]; rfl)
        have rb : (MV.sc (.bool (!(rnd bx by_ 0))) : MV) = .sc (.bool false) := sc_b (by rw [rnd_small ibx iby, fbx, fby]; rfl)
        have hax := farb_small.1 fax
        have hay := farb_small.1 fay
        have hbx := farb_small.1 fbx
        have hby := farb_small.1 fby
        obtain ⟨hL0, hL⟩ := way_pos hok hax hay hbx hby
        obtain ⟨m, hm, hlo, hhi⟩ := steps hL0 (show 0 < st by omega)
        have hlen := len4_way hok hax hay hbx hby
        have hlenR := lenR_way hok hax hay hbx hby
        have hmL : (m : Int) ≤ 20000000 := by
          have := Int.mul_le_mul_of_nonneg_left (show (1 : Int) ≤ st by omega) (show (0 : Int) ≤ m by omega)
          omega
        unfold In64 at ist
        have hdiv : (IntKind.i64.wrap (len4 ax ay bx by_ - 1)).tdiv st = m := by
          rw [hlen, w64 (by omega), Int.tdiv_eq_ediv_of_nonneg (by omega), hm]
        have hq : IntKind.i64.wrap (IntKind.i64.wrap ((IntKind.i64.wrap (len4 ax ay bx by_ - 1)).tdiv st) + 2) = m + 2 := by
          rw [hdiv, w64 (n := (m : Int)) (by omega), w64 (by omega)]
        -- the reference's step
        obtain ⟨s, hs⟩ : ∃ s, s = gmin st (IntKind.i64.wrap (IntKind.i64.wrap (IntKind.i64.wrap (bx - ax) * cmp3 bx ax) + IntKind.i64.wrap (IntKind.i64.wrap (by_ - ay) * cmp3 by_ ay))) := ⟨_, rfl⟩
        have hs' : s = min st (wayLen ax ay bx by_) := by rw [hs, hlenR, gmin_min]
        have hms : (m = 0 ∧ s ≤ wayLen ax ay bx by_) ∨ st = s := by
          by_cases h : st ≤ wayLen ax ay bx by_
          · exact .inr (by omega)
          · refine .inl ⟨?_, by omega⟩
            cases m with
            | zero => rfl
            | succ m =>
              have := Int.mul_le_mul_of_nonneg_right (show (1 : Int) ≤ ((m + 1 : Nat) : Int) by omega) (show (0 : Int) ≤ st by omega)
              omega
        have hsL : s ≤ wayLen ax ay bx by_ := by omega
        have hs0 : 0 < s := by omega
        have hlo' : m * s < wayLen ax ay bx by_ := by
          rcases hms with ⟨rfl, _⟩ | h
          · simpa using hL0
          · rw [← h]; exact hlo
        have hhi' : wayLen ax ay bx by_ ≤ (m + 1) * s := by
          rcases hms with ⟨rfl, h⟩ | h
          · have : s = wayLen ax ay bx by_ := by simp at hhi; omega
            rw [this]; simp
          · rw [← h]; exact hhi
        have hqR : IntKind.i64.wrap ((IntKind.i64.wrap ((IntKind.i64.wrap ((wayLen ax ay bx by_) + s)) - (1 : Int))).tdiv s) = m + 1 := by
          rw [w64 (n := wayLen ax ay bx by_ + s) (by omega), w64 (n := wayLen ax ay bx by_ + s - 1) (by omega), Int.tdiv_eq_ediv_of_nonneg (by omega),
            div_is (q := m + 1) hs0 (by rw [Int.add_mul]; omega) (by rw [Int.add_mul, Int.add_mul]; rw [Int.add_mul] at hhi'; omega), w64 (by omega)]
        have t0 : gmin st (IntKind.i64.wrap ((IntKind.i64.wrap ((IntKind.i64.wrap (bx - ax)) * (cmp3 bx ax))) + (IntKind.i64.wrap ((IntKind.i64.wrap (by_ - ay)) * (cmp3 by_ ay))))) ≠ 0 := by rw [← hs]; omega
        have nc : (MV.sc (.bool ((chk ax ay bx by_ 0 0) != (0 : Int))) : MV) = .sc (.bool false) := sc_b (by rw [hc]; rfl)
        by_cases hbig : 9999 ≤ m
        · refine .inl ⟨3, k8 ?_, k9 ?_⟩
          · refine p8n_4 hio ax ay bx by_ st 3 q19 d1 d2 q20a ra q20b rb ?_
            refine (deep_call rfl).trans ?_
            exact p21_0 (TT_io (n + 4)) ax ay bx by_ _ _ st (by omega) (sc_b (decide_eq_true (by show IntKind.i64.wrap (IntKind.i64.wrap ((IntKind.i64.wrap (len4 ax ay bx by_ - 1)).tdiv st) + 2) > 10000; rw [hq]; omega)))
          · refine p9_2 hio ax ay bx by_ st s1 q22 nc q23 ⟨rfl, rfl, rfl, by decide⟩ t0 (sc_b (decide_eq_true ?_))
            rw [← hs, hlenR, hqR]; omega
        · refine .inr ⟨m + 2, pts ax ay (cmp3 bx ax) (cmp3 by_ ay) s (m + 1) ++ [.sc (.int .i64 bx), .sc (.int .i64 by_)], by omega, by simp [pts_len]; omega, (pts_all _ _ _ _ _ _).append (AllI.two _ _), k8 ?_, k9 ?_⟩
          · have h21 := c21 (n + 4) (ax := ax) (ay := ay) (bx := bx) (by_ := by_) (dx := dir1 ax bx) (dy := dir1 ay by_) (st := st) (m := m) (by omega) (by omega) (by omega) (by omega) (by omega) (by omega) (by rw [hq]; omega)
            rw [pts_step (s := s) (by rcases hms with ⟨rfl, _⟩ | h; exact .inl (by omega); exact .inr h)] at h21
            have := p8r_4 hio ax ay bx by_ st 0 (m + 2) _ q19 d1 d2 q20a ra q20b rb h21
            rw [dir1_cmp, dir1_cmp] at this
            exact this
          · obtain ⟨j8, j11, j18, j19, j22_0_0, j22_0_1, j25_0_0, j25_0_1, j26_0, j26_1, j32, j34, j35, j40, j42, j43, j44, j46, j47, j48, j49, j50, j51, j52, j53, j10, j22_1, j25_1, j27, hloop⟩ := c9_loop (n + 2) (ax := ax) (ay := ay) (bx := bx) (by_ := by_) (st := st) (m := m) rfl rfl hs hok hax hay hbx hby (by omega) hs0 hsL hlo' hhi'
            have hl : (pts ax ay (cmp3 bx ax) (cmp3 by_ ay) s (m + 1) ++ [MV.sc (.int .i64 bx), MV.sc (.int .i64 by_)]).length = (m + 1 + 1) * 2 := by simp [pts_len]; omega
            refine (p9_3 hio ax ay bx by_ st _ _ s j8 j11 j18 j19 j22_0_0 j22_0_1 j25_0_0 j25_0_1 j26_0 j26_1 j32 j34 j35 j40 j42 j43 j44 j46 j47 j48 j49 j50 j51 j52 j53 _ _ j10 j22_1 j25_1 j27 (m + 1) _ s1 q22 nc q23 ⟨rfl, rfl, rfl, by decide⟩ t0 (sc_b (decide_eq_false ?_)) ⟨rfl, rfl, rfl, by decide⟩ hloop
              ⟨rfl, rfl, rfl, by decide, rfl, rfl, by rw [pts_len]; omega, by omega, rfl⟩ ⟨rfl, by decide, by rw [hl]; omega, ?_⟩).trans ?_
            · rw [← hs, hlenR, hqR]; omega
            · exact (((pts_leaves _ _ _ _ _ _).append (Leaves.cons rfl (Leaves.cons rfl Leaves.nil))).take _).plain (by rw [List.length_take, hl]; omega)
            · rw [List.take_of_length_le (by rw [hl]; omega)]
    · have hok : okr ax ay bx by_ = false := by rw [← okd_okr]; simpa using hd
      have hc : chk ax ay bx by_ 0 0 = 1 := by unfold chk; rw [if_pos hok]
      have h9 := p9_1 hio ax ay bx by_ st s1 q22 (sc_b (by rw [hc]; rfl))
      rw [hc] at h9
      exact .inl ⟨1, k8 (p8n_0 hio ax ay bx by_ st 0 q19 (sc_b (by simpa using hd))), k9 h9⟩

/-- THE LAW of the centers, in the evaluator. -/
theorem law3 {ax ay bx by_ ra st z rt : Int} (iax : In64 ax) (iay : In64 ay) (ibx : In64 bx) (iby : In64 by_) (ist : In64 st) :
    (TT 21).call 3 [.agg [.sc (.int .i64 ax), .sc (.int .i64 ay), .sc (.int .i64 bx), .sc (.int .i64 by_), .sc (.int .i64 ra), .sc (.int .i64 st), .sc (.int .i64 z), .sc (.int .i64 rt)]] = some (.sc (.bool true), []) := by
  refine (deep_call rfl).trans ?_
  show evalBody Go.Proofs.Try.prog (TT 20) FUEL (ioOf 3) 3 _ = _
  have few : ∃ fw, (TT 20).call 7 [.agg [.sc (.int .i64 ax), .sc (.int .i64 ay), .sc (.int .i64 bx), .sc (.int .i64 by_), .sc (.int .i64 ra), .sc (.int .i64 st), .sc (.int .i64 z), .sc (.int .i64 rt)]] = some (.sc (.bool fw), []) := by
    have k7 : ∀ {r}, evalBody Go.Proofs.Try.prog (TT 19) FUEL (ioOf 7) 7 [.agg [.sc (.int .i64 ax), .sc (.int .i64 ay), .sc (.int .i64 bx), .sc (.int .i64 by_), .sc (.int .i64 ra), .sc (.int .i64 st), .sc (.int .i64 z), .sc (.int .i64 rt)]] = r → (TT 20).call 7 _ = r := fun h => (deep_call rfl).trans h
    rcases both 13 iax iay ibx iby ist with ⟨er, _, h9⟩ | ⟨N, cs, _, _, _, _, h9⟩
    · by_cases he : (er != (0 : Int)) = true
      · exact ⟨_, k7 (p7n_0 (TT_io 19) ax ay bx by_ ra st z rt er h9 (sc_b he))⟩
      · exact ⟨_, k7 (p7n_1 (TT_io 19) ax ay bx by_ ra st z rt er h9 (sc_b (by simpa using he)))⟩
    · by_cases hN : (N : Int) ≤ 60
      · exact ⟨_, k7 (p7r_1 (TT_io 19) ax ay bx by_ ra st z rt 0 N cs h9 (sc_b rfl) (sc_b (decide_eq_true hN)))⟩
      · exact ⟨_, k7 (p7r_2 (TT_io 19) ax ay bx by_ ra st z rt 0 N cs h9 (sc_b rfl) (sc_b (decide_eq_false hN)))⟩
  obtain ⟨fw, hfw⟩ := few
  cases fw with
  | false => exact p3n_0 (TT_io 20) ax ay bx by_ ra st z rt 0 false awake hfw rfl awake
  | true =>
    rcases both 14 iax iay ibx iby ist with ⟨er, h8, h9⟩ | ⟨N, cs, hN, hl, hA, h8, h9⟩
    · exact p3n_1 (TT_io 20) ax ay bx by_ ra st z rt er true awake hfw rfl h8 h9 (sc_b (by simp)) (c10_nil 19)
    · exact p3r_1 (TT_io 20) ax ay bx by_ ra st z rt 0 N cs true awake hfw rfl h8 h9 rfl (c10 19 hA hl (by omega))
end Go.Proofs.Ytkeelkeoijemiaa.Ev
