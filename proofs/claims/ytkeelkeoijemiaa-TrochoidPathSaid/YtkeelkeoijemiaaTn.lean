/- The law of the paths, in the evaluator. -/
import Derived.Test.YtkeelkeoijemiaaTm
import Derived.Test.YtkeelkeoijemiaaTx
namespace Go.Proofs.Ytkeelkeoijemiaa.Ev
open Go Go.RowKit
set_option linter.unusedVariables false

theorem Small.in64 {a : Int} (h : Small a) : In64 a := by unfold Small at h; unfold In64; omega

/-- Both programs' tests of the range. -/
theorem rnd_outb {x y r : Int} (hx : In64 x) (hy : In64 y) (hr : In64 r) (h0 : 0 < r) : rnd x y r = !outb x y r := by
  unfold rnd outb any2 any4
  by_cases h1 : farb x = true
  · rw [h1]; simp
  · by_cases h2 : farb y = true
    · rw [h2]; simp
    · have h1 := farb_small.1 (by simpa using h1)
      have h2 := farb_small.1 (by simpa using h2)
      rw [farb_small.2 h1, farb_small.2 h2]
      unfold Small at h1 h2
      by_cases h3 : r ≤ 20000000
      · rw [w64 (n := x - r) (by omega), w64 (n := x + r) (by omega), w64 (n := y - r) (by omega), w64 (n := y + r) (by omega)]
        rw [Bool.eq_iff_iff]
        simp [farb]
        omega
      · have h4 : farb r = true := by simp [farb]; omega
        rw [h4]
        simp [h3]
theorem chk_rnd {ax ay bx by_ r z : Int} (iax : In64 ax) (iay : In64 ay) (ibx : In64 bx) (iby : In64 by_) (ir : In64 r) (hr : 0 < r) (hok : okd ax ay bx by_ = true) :
    (bif !rnd ax ay r then 11 else bif !rnd bx by_ r then 11 else bif !(!any1 z) then 11 else 0) = chk ax ay bx by_ r z := by
  rw [okd_okr] at hok
  unfold chk any1
  rw [hok, rnd_outb iax iay ir hr, rnd_outb ibx iby ir hr]
  cases outb ax ay r <;> cases outb bx by_ r <;> cases farb z <;> rfl
theorem pe_eq {ax ay bx by_ r st z rt : Int} (iax : In64 ax) (iay : In64 ay) (ibx : In64 bx) (iby : In64 by_) (ir : In64 r) : pe11 ax ay bx by_ r st z rt = pe12 ax ay bx by_ r st z rt := by
  unfold pe11 pe12
  rw [← okd_okr]
  cases hok : okd ax ay bx by_ with
  | false => rfl
  | true =>
    have e1 : decide (r < 1) = decide (r ≤ 0) := decide_eq_decide.2 (by omega)
    have e2 : decide (st < 1) = decide (st ≤ 0) := decide_eq_decide.2 (by omega)
    have e3 : decide (rt < 1) = decide (rt ≤ 0) := decide_eq_decide.2 (by omega)
    rw [e1, e2, e3]
    cases hr : decide (r ≤ 0) with
    | true => rfl
    | false => rw [chk_rnd iax iay ibx iby ir (by have := of_decide_eq_false hr; omega) hok]
theorem st_eq {ax ay bx by_ r z : Int} (iax : In64 ax) (iay : In64 ay) (ibx : In64 bx) (iby : In64 by_) (ir : In64 r) : st13 ax ay bx by_ r z = st14 ax ay bx by_ r z := by
  unfold st13 st14
  rw [← okd_okr]
  cases hok : okd ax ay bx by_ with
  | false => rfl
  | true =>
    have e1 : decide (r < 1) = decide (r ≤ 0) := decide_eq_decide.2 (by omega)
    rw [e1]
    cases hr : decide (r ≤ 0) with
    | true => rfl
    | false => rw [chk_rnd iax iay ibx iby ir (by have := of_decide_eq_false hr; omega) hok]
/-- The start of a circle. -/
theorem stt_atb {c d r : Int} (hc : Small c) (hr : Small r) (hd : Unit d) : stt c d r = atb c (IntKind.i64.wrap (0 - r)) d := by
  unfold Small at *
  unfold stt atb
  rw [w64 (n := 0 - r) (by omega)]
  rcases hd with rfl | rfl | rfl
  · rw [w64 (n := -1 * r) (by omega), w64 (n := (0 - r) * -1) (by omega)]; congr 1; omega
  · rw [Int.zero_mul, Int.mul_zero, w64 (n := 0) (by omega)]; congr 1
  · rw [w64 (n := 1 * r) (by omega), w64 (n := (0 - r) * 1) (by omega)]; congr 1; omega
/-- What no error means. -/
theorem pe_ok {ax ay bx by_ r st z rt : Int} (iax : In64 ax) (iay : In64 ay) (ibx : In64 bx) (iby : In64 by_) (ir : In64 r) (h : pe11 ax ay bx by_ r st z rt = 0) :
    okd ax ay bx by_ = true ∧ 0 < r ∧ 0 < st ∧ 0 < rt ∧ st ≤ r ∧ rnd ax ay r = true ∧ rnd bx by_ r = true ∧ farb z = false := by
  unfold pe11 any1 at h
  revert h
  cases okd ax ay bx by_ <;> cases h1 : decide (r ≤ 0) <;> cases h2 : decide (st ≤ 0) <;> cases h3 : decide (rt ≤ 0) <;> cases h4 : decide (st > r) <;> cases rnd ax ay r <;> cases rnd bx by_ r <;> cases farb z <;>
    simp only [decide_eq_true_eq, decide_eq_false_iff_not] at h1 h2 h3 h4 <;> simp
  omega
theorem rnd_ok {x y r : Int} (hx : In64 x) (hy : In64 y) (hr : In64 r) (h0 : 0 < r) (h : rnd x y r = true) : Small x ∧ Small y ∧ Small r ∧ Small (x - r) ∧ Small (x + r) ∧ Small (y - r) ∧ Small (y + r) := by
  unfold rnd any2 any4 at h
  simp only [Bool.and_eq_true, Bool.not_eq_true', Bool.or_eq_false_iff, decide_eq_true_eq] at h
  obtain ⟨⟨⟨h1, h2⟩, h3⟩, ⟨⟨h4, h5⟩, h6⟩, h7⟩ := h
  have h1 := farb_small.1 h1
  have h2 := farb_small.1 h2
  have b1 := h1
  have b2 := h2
  unfold Small at h1 h2
  rw [w64 (by omega)] at h4 h5 h6 h7
  have h4 := farb_small.1 h4
  have h5 := farb_small.1 h5
  have h6 := farb_small.1 h6
  have h7 := farb_small.1 h7
  refine ⟨b1, b2, ?_, h4, h5, h6, h7⟩
  unfold Small at *
  omega

abbrev pathA (ax ay bx by_ r st z rt : Int) : List MV := [g2M ax ay, g2M bx by_, .sc (.int .i64 r), .sc (.int .i64 st), .sc (.int .i64 z), .sc (.int .i64 rt)]
theorem mvM_all (S : Int × Int → Int × Int) (z rt : Int) (l : List (Int × Int)) : AllI (mvM S z rt l) := by
  have hf : ∀ p, AllI (fdM S z rt p) := fun p m hm => by
    simp only [fdM, List.mem_cons, List.not_mem_nil, or_false] at hm; rcases hm with rfl | rfl | rfl | rfl | rfl | rfl | rfl <;> exact ⟨_, rfl⟩
  have hc : ∀ p, AllI (crM S z rt p) := fun p m hm => by
    simp only [crM, List.mem_cons, List.not_mem_nil, or_false] at hm; rcases hm with rfl | rfl | rfl | rfl | rfl | rfl | rfl <;> exact ⟨_, rfl⟩
  cases l with
  | nil => intro m hm; cases hm
  | cons p l =>
    refine (hc p).append fun m hm => ?_
    obtain ⟨q, _, hq⟩ := List.mem_flatMap.1 hm
    exact ((hf q).append (hc q)) m hq

/-- A path's centers, as Moves wants them too. -/
def pathL (ax ay bx by_ s : Int) (m : Nat) : List (Int × Int) := ptL ax ay (cmp3 bx ax) (cmp3 by_ ay) s (m + 1) ++ [(bx, by_)]
theorem pathL_len (ax ay bx by_ s : Int) (m : Nat) : (pathL ax ay bx by_ s m).length = m + 2 := by simp [pathL, ptL_len]
theorem pathL_small {ax ay bx by_ s : Int} {m : Nat} (h : okr ax ay bx by_ = true) (hax : Small ax) (hay : Small ay) (hbx : Small bx) (hby : Small by_) (hs : 0 < s) (hm : m * s < wayLen ax ay bx by_) : ∀ p ∈ pathL ax ay bx by_ s m, Small p.1 ∧ Small p.2 := by
  intro p hp
  rcases List.mem_append.1 hp with hp | hp
  · refine ptL_small h hax hay hbx hby hs (m + 1) (fun j hj => ?_) p hp
    have : (j : Int) * s ≤ m * s := Int.mul_le_mul_of_nonneg_right (by omega) (by omega)
    omega
  · simp only [List.mem_singleton] at hp
    subst hp
    exact ⟨hbx, hby⟩

theorem bothP (n n' : Nat) {ax ay bx by_ r st z rt : Int} (iax : In64 ax) (iay : In64 ay) (ibx : In64 bx) (iby : In64 by_) (ir : In64 r) (ist : In64 st) :
    (∃ er, (TT (n + 6)).call 11 (pathA ax ay bx by_ r st z rt) = tupM nilM er ∧ (TT (n' + 7)).call 12 (pathA ax ay bx by_ r st z rt) = tupM nilM er ∧ er ≠ 0) ∨
    (∃ (s : Int) (m : Nat), pe11 ax ay bx by_ r st z rt = 0 ∧ 0 < s ∧ (m + 1 ≤ 1 ∨ s = st) ∧ m < 9999 ∧ (m : Int) * s < wayLen ax ay bx by_ ∧ wayLen ax ay bx by_ ≤ ((m : Int) + 1) * s ∧ (TT (n + 6)).call 11 (pathA ax ay bx by_ r st z rt) = tupM (.fs (2 * (m + 2) - 1) none (mvM (sttP (cmp3 bx ax) (cmp3 by_ ay) r) z rt (pathL ax ay bx by_ s m))) 0 ∧
      (TT (n' + 7)).call 12 (pathA ax ay bx by_ r st z rt) = tupM (.fs (2 * (m + 2) - 1) none (mvM (sttP (cmp3 bx ax) (cmp3 by_ ay) r) z rt (pathL ax ay bx by_ s m))) 0) := by
  have hpe := pe_eq (st := st) (z := z) (rt := rt) iax iay ibx iby ir
  by_cases h : pe11 ax ay bx by_ r st z rt = 0
  · obtain ⟨hok, h1, h2, h3, h4, h5, h6, h7⟩ := pe_ok iax iay ibx iby ir h
    obtain ⟨hax, hay, hr, _⟩ := rnd_ok iax iay ir h1 h5
    obtain ⟨hbx, hby, _⟩ := rnd_ok ibx iby ir h1 h6
    have hok' : okr ax ay bx by_ = true := by rw [← okd_okr]; exact hok
    rcases coreL n n' hok' hax hay hbx hby h2 ist with ⟨e1, e2⟩ | ⟨s, m, hs, hms, hm, hlo, hhi, e1, e2⟩
    · refine .inl ⟨3, ?_, ?_, by omega⟩
      · have := c11n n ax ay bx by_ r st z rt 3 (fun _ => e1)
        rw [h] at this
        exact this
      · have := c12n n' ax ay bx by_ r st z rt 3 (fun _ => e2)
        rw [← hpe, h] at this
        exact this
    · refine .inr ⟨s, m, h, hs, hms, hm, hlo, hhi, ?_, ?_⟩
      · have hlen := pathL_len ax ay bx by_ s m
        have hne : pathL ax ay bx by_ s m ≠ [] := by intro h; rw [h] at hlen; simp at hlen
        have e1 : (TT (n + 5)).call 21 [g2M ax ay, g2M bx by_, g2M (dir1 ax bx) (dir1 ay by_), .sc (.int .i64 st)] = tupM (.fs (pathL ax ay bx by_ s m).length none (flat (pathL ax ay bx by_ s m))) 0 := by rw [hlen]; exact e1
        obtain ⟨t19, j, jb, hl⟩ := c11_loop (n + 4) (ax := ax) (ay := ay) (bx := bx) (by_ := by_) (r := r) (st := st) (z := z) (rt := rt) hne (by omega)
        have hml := mvM_len (sttP (dir1 ax bx) (dir1 ay by_) r) z rt hne
        refine (deep_call rfl).trans ((p11r_8 (TT_io (n + 5)) ax ay bx by_ r st z rt _ _ _ _ _ _ _ _ _ _ _ (by exact c19 (n + 3) ..) ⟨rfl, rfl, rfl, by decide⟩ (sc_b (by rw [hok]; rfl)) (sc_b (decide_eq_false (by omega))) (sc_b (decide_eq_false (by omega))) (sc_b (decide_eq_false (by omega))) (sc_b (decide_eq_false (by omega)))
          (by exact c20 n ..) (sc_b (by rw [h5]; rfl)) (by exact c20 n ..) (sc_b (by rw [h6]; rfl)) ⟨rfl, by decide, by decide, (Leaves.cons rfl Leaves.nil).plain (by simp)⟩ (by exact c26_1 (n + 1) ..) (sc_b (by unfold any1; rw [h7]; rfl)) e1 hl
          ⟨rfl, by decide, by rw [hml]; omega, ((mvM_leaves _ _ _ _).take _).plain (by rw [List.length_take, hml]; omega)⟩).trans ?_)
        rw [List.take_of_length_le (by rw [hml]; omega), hlen, dir1_cmp, dir1_cmp]
      · have hlen := pathL_len ax ay bx by_ s m
        have hne : pathL ax ay bx by_ s m ≠ [] := by intro h; rw [h] at hlen; simp at hlen
        have e2 : (TT (n' + 6)).call 9 [g2M ax ay, g2M bx by_, .sc (.int .i64 st)] = tupM (.fs (pathL ax ay bx by_ s m).length none (flat (pathL ax ay bx by_ s m))) 0 := by rw [hlen]; exact e2
        obtain ⟨j, jb, hl⟩ := c12_loop (n' + 5) (ax := ax) (ay := ay) (bx := bx) (by_ := by_) (r := r) (st := st) (z := z) (rt := rt) hne (by omega)
        have hml := mvM_len (atbP (cmp3 bx ax) (cmp3 by_ ay) r) z rt hne
        have hc : chk ax ay bx by_ r z = 0 := by rw [← chk_rnd iax iay ibx iby ir h1 hok, h5, h6]; unfold any1; rw [h7]; rfl
        refine (deep_call rfl).trans ((p12r_6 (TT_io (n' + 6)) ax ay bx by_ r st z rt _ _ _ _ _ _ _ _ _ (by exact c23 (n' + 4) ..) ⟨rfl, rfl, rfl, by decide⟩ (sc_b (by rw [hok']; rfl)) (sc_b (decide_eq_false (by omega))) (sc_b (decide_eq_false (by omega))) (sc_b (decide_eq_false (by omega))) (sc_b (decide_eq_false (by omega)))
          (by exact c22 (n' + 3) ..) (sc_b (by rw [hc]; rfl)) e2 (by exact c23 (n' + 4) ..) ⟨rfl, rfl, rfl, by decide⟩ hl
          ⟨rfl, by decide, by rw [hml]; omega, ((mvM_leaves _ _ _ _).take _).plain (by rw [List.length_take, hml]; omega)⟩).trans ?_)
        rw [List.take_of_length_le (by rw [hml]; omega), hlen]
        have : mvM (atbP (cmp3 bx ax) (cmp3 by_ ay) r) z rt (pathL ax ay bx by_ s m) = mvM (sttP (cmp3 bx ax) (cmp3 by_ ay) r) z rt (pathL ax ay bx by_ s m) := by
          have hp : ∀ p ∈ pathL ax ay bx by_ s m, atbP (cmp3 bx ax) (cmp3 by_ ay) r p = sttP (cmp3 bx ax) (cmp3 by_ ay) r p := fun p hp => by
            obtain ⟨h8, h9⟩ := pathL_small hok' hax hay hbx hby hs hlo p hp
            unfold atbP sttP
            rw [stt_atb h8 hr (cmp3_unit _ _), stt_atb h9 hr (cmp3_unit _ _)]
          refine mvs_congr (fun p h => ?_) fun p h => ?_
          · simp only [fdM, hp p h]
          · simp only [crM, hp p h]
        rw [this]
  · refine .inl ⟨pe11 ax ay bx by_ r st z rt, ?_, ?_, h⟩
    · have := c11n n ax ay bx by_ r st z rt 0 (fun h' => absurd h' h)
      unfold pe2 at this
      rw [show (pe11 ax ay bx by_ r st z rt != 0) = true by simpa using h] at this
      exact this
    · have := c12n n' ax ay bx by_ r st z rt 0 (fun h' => absurd (hpe.trans h') h)
      unfold pe2 at this
      rw [← hpe, show (pe11 ax ay bx by_ r st z rt != 0) = true by simpa using h] at this
      exact this

theorem bothS (n n' : Nat) {ax ay bx by_ r z : Int} (iax : In64 ax) (iay : In64 ay) (ibx : In64 bx) (iby : In64 by_) (ir : In64 r) :
    ∃ sx sy sz se, (TT (n + 6)).call 13 [g2M ax ay, g2M bx by_, .sc (.int .i64 r), .sc (.int .i64 z)] = some (.tup [.agg [.sc (.int .i64 sx), .sc (.int .i64 sy), .sc (.int .i64 sz)], .sc (.int .i64 se)], []) ∧
      (TT (n' + 5)).call 14 [g2M ax ay, g2M bx by_, .sc (.int .i64 r), .sc (.int .i64 z)] = some (.tup [.agg [.sc (.int .i64 sx), .sc (.int .i64 sy), .sc (.int .i64 sz)], .sc (.int .i64 se)], []) ∧
      (se = 0 → st13 ax ay bx by_ r z = 0 ∧ sx = stt ax (cmp3 bx ax) r ∧ sy = stt ay (cmp3 by_ ay) r ∧ sz = z) ∧ (st13 ax ay bx by_ r z = 0 → se = 0) := by
  have h13 := c13 n ax ay bx by_ r z
  have h14 := c14 n' ax ay bx by_ r z
  have he := st_eq (z := z) iax iay ibx iby ir
  rw [← he] at h14
  unfold stRes at h13 h14
  by_cases h : st13 ax ay bx by_ r z = 0
  · rw [h] at h13 h14
    have hc : okd ax ay bx by_ = true ∧ 0 < r ∧ rnd ax ay r = true := by
      unfold st13 any1 at h
      revert h
      cases okd ax ay bx by_ <;> cases h1 : decide (r ≤ 0) <;> cases rnd ax ay r <;> cases rnd bx by_ r <;> cases farb z <;> simp only [decide_eq_true_eq, decide_eq_false_iff_not] at h1 <;> simp
      omega
    obtain ⟨hok, h1, h2⟩ := hc
    obtain ⟨hax, hay, hr, _⟩ := rnd_ok iax iay ir h1 h2
    rw [← stt_atb hax hr (cmp3_unit _ _), ← stt_atb hay hr (cmp3_unit _ _)] at h14
    rw [dir1_cmp, dir1_cmp] at h13
    exact ⟨_, _, _, _, h13, h14, fun _ => ⟨h, rfl, rfl, rfl⟩, fun _ => rfl⟩
  · rw [show (st13 ax ay bx by_ r z != 0) = true by simpa using h] at h13 h14
    exact ⟨_, _, _, _, h13, h14, fun h' => absurd h' h, fun h' => absurd h' h⟩

theorem AllI.seven {cs : List MV} (h : AllI cs) {k N : Nat} (hl : cs.length = N * 7) (hk : k < N) : ∃ a b c d e f g, takeAs true 7 (cs.drop (k * 7)) = some (.agg [.sc (.int .i64 a), .sc (.int .i64 b), .sc (.int .i64 c), .sc (.int .i64 d), .sc (.int .i64 e), .sc (.int .i64 f), .sc (.int .i64 g)]) := by
  have hd : (cs.drop (k * 7)).length = (N - k) * 7 := by rw [List.length_drop, hl]; omega
  have hA : AllI (cs.drop (k * 7)) := fun m hm => h m (List.mem_of_mem_drop hm)
  generalize cs.drop (k * 7) = ds at hd hA
  have hd' : 7 ≤ ds.length := by rw [hd]; omega
  match ds, hd' with
  | a :: b :: c :: d :: e :: f :: g :: r, _ =>
    obtain ⟨a, rfl⟩ := hA a (by simp)
    obtain ⟨b, rfl⟩ := hA b (by simp)
    obtain ⟨c, rfl⟩ := hA c (by simp)
    obtain ⟨d, rfl⟩ := hA d (by simp)
    obtain ⟨e, rfl⟩ := hA e (by simp)
    obtain ⟨f, rfl⟩ := hA f (by simp)
    obtain ⟨g, rfl⟩ := hA g (by simp)
    exact ⟨a, b, c, d, e, f, g, by simp [takeAs]⟩
theorem c15 (n : Nat) {N : Nat} {cs : List MV} (hA : AllI cs) (hl : cs.length = N * 7) (hN : N < 999990) : (TT (n + 1)).call 15 [.fs N none cs, .fs N none cs] = some (.sc (.bool true), []) := by
  refine (deep_call rfl).trans ?_
  show evalBody Go.Proofs.Try.prog (TT n) FUEL (ioOf 15) 15 _ = _
  have hio := TT_io n
  have loop : ∃ o s', evalLoop (fun s => evalCode Go.Proofs.Try.prog (TT n) FUEL (bodyOf Go.Proofs.Try.prog 15 0) (normSt (scratch1 (bodyOf Go.Proofs.Try.prog 15 0)) s)) FUEL (I15 N N cs cs) = some (o, s') ∧
      (o = .exit 0 ∧ ∃ j jb, evalCode Go.Proofs.Try.prog (TT n) FUEL (bodyOf Go.Proofs.Try.prog 15 0) (L15 N N N cs cs j jb) = some (.exit 0, s') ∧ j 0 = N) := by
    refine loop_inv (G := fun s => evalCode Go.Proofs.Try.prog (TT n) FUEL (bodyOf Go.Proofs.Try.prog 15 0) s) (nm := normSt (scratch1 (bodyOf Go.Proofs.Try.prog 15 0))) (fun k s => ∃ j jb, s = L15 N N k cs cs j jb ∧ j 0 = N) _ N FUEL _ 0 ?_ ?_ ?_ (by unfold FUEL; omega)
    · rintro k s _ hk ⟨j, jb, rfl, hj⟩
      have hk : k < N := by omega
      obtain ⟨a, b, c, d, e, f, g, hxy⟩ := hA.seven hl hk
      have hne : cs ≠ [] := by intro h; rw [h] at hl; simp at hl; omega
      refine ⟨_, r15_2 hio N N k cs cs j jb a b c d e f g a b c d e f g (sc_b (decide_eq_true (by omega))) ⟨by omega, by omega, hne⟩ hxy ⟨by omega, by omega, hne⟩ hxy (sc_b (by simp)), ?_⟩
      exact ⟨_, _, n15 N N k cs cs j jb a b c d e f g a b c d e f g (by rw [w64 (by omega)]; omega), hj⟩
    · rintro s ⟨j, jb, rfl, hj⟩
      simp only [Nat.zero_add]
      have := r15_1 hio N N N cs cs j jb (sc_b (decide_eq_false (by omega)))
      exact ⟨_, _, this, by simp, rfl, j, jb, this, hj⟩
    · exact ⟨_, _, i15 N N cs cs, rfl⟩
  obtain ⟨o, s', e1, rfl, j, jb, e2, hj⟩ := loop
  have := r15_1 hio N N N cs cs j jb (sc_b (decide_eq_false (by omega)))
  rw [this] at e2
  cases e2
  exact p15_1_1 hio N N N cs cs j jb (sc_b (by simp)) e1

theorem c15_nil (n : Nat) : (TT (n + 1)).call 15 [.fs 0 (some 0) [], .fs 0 (some 0) []] = some (.sc (.bool true), []) := (deep_call rfl).trans (p15_nil_0 (TT_io n))
theorem law_few (n : Nat) {ax ay bx by_ ra st z rt : Int} (iax : In64 ax) (iay : In64 ay) (ibx : In64 bx) (iby : In64 by_) (ist : In64 st) :
    ∃ fw, (TT (n + 7)).call 7 [.agg [.sc (.int .i64 ax), .sc (.int .i64 ay), .sc (.int .i64 bx), .sc (.int .i64 by_), .sc (.int .i64 ra), .sc (.int .i64 st), .sc (.int .i64 z), .sc (.int .i64 rt)]] = some (.sc (.bool fw), []) := by
  have k7 : ∀ {r}, evalBody Go.Proofs.Try.prog (TT (n + 6)) FUEL (ioOf 7) 7 [.agg [.sc (.int .i64 ax), .sc (.int .i64 ay), .sc (.int .i64 bx), .sc (.int .i64 by_), .sc (.int .i64 ra), .sc (.int .i64 st), .sc (.int .i64 z), .sc (.int .i64 rt)]] = r → (TT (n + 7)).call 7 _ = r := fun h => (deep_call rfl).trans h
  rcases both n iax iay ibx iby ist with ⟨er, _, h9⟩ | ⟨N, cs, _, _, _, _, h9⟩
  · by_cases he : (er != (0 : Int)) = true
    · exact ⟨_, k7 (p7n_0 (TT_io (n + 6)) ax ay bx by_ ra st z rt er h9 (sc_b he))⟩
    · exact ⟨_, k7 (p7n_1 (TT_io (n + 6)) ax ay bx by_ ra st z rt er h9 (sc_b (by simpa using he)))⟩
  · by_cases hN : (N : Int) ≤ 60
    · exact ⟨_, k7 (p7r_1 (TT_io (n + 6)) ax ay bx by_ ra st z rt 0 N cs h9 (sc_b rfl) (sc_b (decide_eq_true hN)))⟩
    · exact ⟨_, k7 (p7r_2 (TT_io (n + 6)) ax ay bx by_ ra st z rt 0 N cs h9 (sc_b rfl) (sc_b (decide_eq_false hN)))⟩

/-- THE LAW of the paths, in the evaluator. -/
theorem law4 {ax ay bx by_ ra st z rt : Int} (iax : In64 ax) (iay : In64 ay) (ibx : In64 bx) (iby : In64 by_) (ira : In64 ra) (ist : In64 st) :
    (TT 21).call 4 [.agg [.sc (.int .i64 ax), .sc (.int .i64 ay), .sc (.int .i64 bx), .sc (.int .i64 by_), .sc (.int .i64 ra), .sc (.int .i64 st), .sc (.int .i64 z), .sc (.int .i64 rt)]] = some (.sc (.bool true), []) := by
  refine (deep_call rfl).trans ?_
  show evalBody Go.Proofs.Try.prog (TT 20) FUEL (ioOf 4) 4 _ = _
  obtain ⟨fw, hfw⟩ := law_few 13 (ra := ra) (z := z) (rt := rt) iax iay ibx iby ist
  obtain ⟨sx, sy, sz, se, hs1, hs2, _⟩ := bothS 14 15 (z := z) iax iay ibx iby ira
  cases fw with
  | false => exact p4n_0 (TT_io 20) ax ay bx by_ ra st z rt 0 sx sy sz se false awake hfw rfl awake
  | true =>
    rcases bothP 14 13 (z := z) (rt := rt) iax iay ibx iby ira ist with ⟨er, h11, h12, _⟩ | ⟨s, m, _, hs, hms, hm, _, _, h11, h12⟩
    · exact (p4n_1 (TT_io 20) ax ay bx by_ ra st z rt er sx sy sz se true awake hfw rfl h11 h12 hs1 hs2 (sc_b (by simp)) (c15_nil 19) (sc_b (by simp))).trans (by simp)
    · refine (p4r_1 (TT_io 20) ax ay bx by_ ra st z rt sx sy sz se true _ _ awake hfw rfl h11 h12 hs1 hs2 (c15 19 (mvM_all _ _ _ _) ?_ (by omega)) (sc_b (by simp))).trans (by simp)
      rw [mvM_len _ _ _ (by intro h; have := pathL_len ax ay bx by_ s m; rw [h] at this; simp at this), pathL_len]
end Go.Proofs.Ytkeelkeoijemiaa.Ev
