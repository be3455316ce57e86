/- Values with fractions as such: cells, what is taken and dropped, and what is frozen. Values with fractions as such: what is frozen, calls, append, slices. Values with fractions as such: the operations. -/
import Derived.Test.YtkeelkeoijemiaaGreatAa
set_option linter.unusedVariables false
set_option linter.unusedSimpArgs false
namespace Go.Proofs.YtkeelkeoijemiaaGreat.Ev
open Go Go.RowKit
set_option linter.unusedVariables false
set_option linter.unusedSimpArgs false

theorem relC_cons {a : AV} {az : List AV} {ms : List MV} (h : isPart a = false) : RelC (a :: az) ms ↔ ∃ m r, ms = m :: r ∧ Rel a m ∧ RelC az r := by
  cases a <;> first | (simp [isPart] at h; done) | simp [RelC]
theorem rC_len (p : Rat) : (rC p).length = 4 := rfl
theorem blkC_len {w : Nat} {f : Nat → List Leaf} : ∀ {n : Nat}, (∀ i, i < n → (leavesC (f i)).length = w ∧ ∀ x ∈ f i, leafOk x) → (blkC f n).length = n * w
  | 0, _ => by simp [blkC]
  | n + 1, h => by
    rw [blkC, List.length_append, blkC_len (fun i hi => h i (by omega)), (h n (by omega)).1, Nat.succ_mul]
/-- Cells, one item at a time. -/
theorem relC_cases {a : AV} {az : List AV} {ms : List MV} (h : RelC (a :: az) ms) : (∃ c r, ms = c ++ r ∧ RelC az r ∧ RelC [a] c ∧ c.length = lenA [a]) := by
  cases a with
  | q k p => obtain ⟨r, rfl, h1, h2⟩ := h; exact ⟨rC p, r, rfl, h2, ⟨[], by simp, h1, rfl⟩, rfl⟩
  | blk w n f => obtain ⟨r, rfl, h1, h2⟩ := h; exact ⟨blkC (f.el w) n, r, rfl, h2, ⟨[], by simp, h1, rfl⟩, by simp [lenA, blkC_len h1]⟩
  | _ => obtain ⟨m, r, rfl, h1, h2⟩ := h; exact ⟨[m], r, rfl, h2, ⟨m, [], rfl, h1, rfl⟩, rfl⟩
theorem relC_app1 {a : AV} {az : List AV} {c r : List MV} (h1 : RelC [a] c) (h2 : RelC az r) : RelC (a :: az) (c ++ r) := by
  cases a with
  | q k p => obtain ⟨r', rfl, h3, rfl⟩ := h1; exact ⟨r, by simp, h3, h2⟩
  | blk w n f => obtain ⟨r', rfl, h3, rfl⟩ := h1; exact ⟨r, by simp, h3, h2⟩
  | _ => obtain ⟨m, r', rfl, h3, rfl⟩ := h1; exact ⟨m, r, rfl, h3, h2⟩
theorem lenA_cons (a : AV) (az : List AV) : lenA (a :: az) = lenA [a] + lenA az := by cases a <;> simp [lenA]
theorem relC_len : ∀ {az : List AV} {ms : List MV}, RelC az ms → ms.length = lenA az
  | [], _, h => by cases h; rfl
  | a :: az, ms, h => by
    obtain ⟨c, r, rfl, h1, h2, h3⟩ := relC_cases h
    rw [List.length_append, lenA_cons, h3, relC_len h1]
theorem relC_append : ∀ {a b : List AV} {x y : List MV}, RelC a x → RelC b y → RelC (a ++ b) (x ++ y)
  | [], b, x, y, h1, h2 => by cases h1; exact h2
  | i :: a, b, x, y, h1, h2 => by
    obtain ⟨c, r, rfl, h3, h4, _⟩ := relC_cases h1
    rw [List.append_assoc]
    exact relC_app1 h4 (relC_append h3 h2)
theorem relT_len : ∀ {az : List AV} {ms : List MV}, RelT az ms → ms.length = az.length
  | [], _, h => by cases h; rfl
  | a :: az, ms, h => by obtain ⟨m, r, rfl, _, h2⟩ := h; simp [relT_len h2]
theorem relT_get : ∀ {az : List AV} {ms : List MV} (i : Nat), RelT az ms → (az[i]? = none ∧ ms[i]? = none) ∨ ∃ a m, az[i]? = some a ∧ ms[i]? = some m ∧ Rel a m
  | [], _, i, h => by cases h; exact .inl ⟨rfl, rfl⟩
  | a :: az, ms, 0, h => by obtain ⟨m, r, rfl, h1, _⟩ := h; exact .inr ⟨a, m, rfl, rfl, h1⟩
  | a :: az, ms, i + 1, h => by obtain ⟨m, r, rfl, _, h2⟩ := h; exact relT_get i h2
theorem relT_set : ∀ {az : List AV} {ms : List MV} (i : Nat) {a : AV} {m : MV}, RelT az ms → Rel a m → RelT (az.set i a) (ms.set i m)
  | [], _, i, a, m, h, _ => by cases h; rfl
  | b :: az, ms, 0, a, m, h, h1 => by obtain ⟨x, r, rfl, _, h2⟩ := h; exact ⟨m, r, rfl, h1, h2⟩
  | b :: az, ms, i + 1, a, m, h, h1 => by obtain ⟨x, r, rfl, h3, h2⟩ := h; exact ⟨x, r.set i m, rfl, h3, relT_set i h2 h1⟩
theorem relT_append : ∀ {a b : List AV} {x y : List MV}, RelT a x → RelT b y → RelT (a ++ b) (x ++ y)
  | [], b, x, y, h1, h2 => by cases h1; exact h2
  | i :: a, b, x, y, h1, h2 => by obtain ⟨m, r, rfl, h3, h4⟩ := h1; exact ⟨m, r ++ y, rfl, h3, relT_append h4 h2⟩
theorem relT_rep {a : AV} {m : MV} (h : Rel a m) : ∀ n : Nat, RelT (List.replicate n a) (List.replicate n m)
  | 0 => rfl
  | n + 1 => ⟨m, _, rfl, h, relT_rep h n⟩
theorem relT_map {α : Type} {f : α → AV} {g : α → MV} : ∀ {l : List α}, (∀ x ∈ l, Rel (f x) (g x)) → RelT (l.map f) (l.map g)
  | [], _ => rfl
  | x :: l, h => ⟨g x, _, rfl, h x (by simp), relT_map fun y hy => h y (by simp [hy])⟩

mutual
theorem rel_lift : ∀ m : MV, Rel (liftM m) m
  | .sc v => rfl
  | .agg cs => ⟨cs, rfl, relC_lift cs⟩
  | .tup cs => ⟨cs, rfl, relT_lift cs⟩
  | .fs n c cs => ⟨cs, rfl, relC_lift cs⟩
  | .fn f cs => ⟨cs, rfl, relT_lift cs⟩
  | .cp _ | .row _ _ _ _ _ _ | .ptr _ _ _ | .any => trivial
theorem relC_lift : ∀ ms : List MV, RelC (liftMs ms) ms
  | [] => rfl
  | m :: ms => by
    have h : isPart (liftM m) = false := by cases m <;> rfl
    exact (relC_cons h).2 ⟨m, ms, rfl, rel_lift m, relC_lift ms⟩
theorem relT_lift : ∀ ms : List MV, RelT (liftMs ms) ms
  | [] => rfl
  | m :: ms => ⟨m, ms, rfl, rel_lift m, relT_lift ms⟩
end
theorem lowAs_eq : ∀ {cs : List AV} {l ms : List MV}, lowAs cs = some l → RelC cs ms → ms = l
  | [], l, ms, h, hr => by cases h; cases hr; rfl
  | .sc v :: r, l, ms, h, hr => by
    simp only [lowAs, Option.map_eq_some_iff] at h
    obtain ⟨l', h1, rfl⟩ := h
    obtain ⟨m, ms', rfl, rfl, h2⟩ := hr
    rw [lowAs_eq h1 h2]
  | .q .. :: _, l, ms, h, hr | .blk .. :: _, l, ms, h, hr | .agg .. :: _, l, ms, h, hr | .tup .. :: _, l, ms, h, hr | .fs .. :: _, l, ms, h, hr | .arr .. :: _, l, ms, h, hr | .cp .. :: _, l, ms, h, hr | .row .. :: _, l, ms, h, hr | .ptr .. :: _, l, ms, h, hr | .pte .. :: _, l, ms, h, hr | .fn .. :: _, l, ms, h, hr | .any :: _, l, ms, h, hr => by cases h
theorem lowA_eq {a : AV} {l m : MV} (h : lowA a = some l) (hr : Rel a m) : m = l := by
  cases a with
  | sc v => cases h; exact hr
  | agg cs =>
    simp only [lowA, Option.map_eq_some_iff] at h
    obtain ⟨l', h1, rfl⟩ := h
    obtain ⟨ms, rfl, h2⟩ := hr
    rw [lowAs_eq h1 h2]
  | _ => cases h

theorem dropW_rel : ∀ {cs ds : List AV} {ms : List MV} (n : Nat), dropW cs n = some ds → RelC cs ms → n ≤ ms.length ∧ RelC ds (ms.drop n)
  | cs, ds, ms, 0, h, hr => by
    have : cs = ds := by cases cs <;> simpa [dropW] using h
    subst this; exact ⟨Nat.zero_le _, hr⟩
  | [], ds, ms, n + 1, h, hr => by cases h
  | a :: az, ds, ms, n + 1, h, hr => by
    by_cases hp : isPart a = true
    · cases a with
      | q k p =>
        simp only [dropW] at h
        split at h
        · rename_i h3
          obtain ⟨r, rfl, h1, h2⟩ := hr
          obtain ⟨h4, h5⟩ := dropW_rel (n - 3) h h2
          refine ⟨by rw [List.length_append, rC_len]; omega, ?_⟩
          rw [List.drop_append, rC_len, List.drop_of_length_le (by rw [rC_len]; omega), show n + 1 - 4 = n - 3 by omega]
          exact h5
        · cases h
      | blk w k f => cases h
      | _ => cases hp
    · have hp' : isPart a = false := by simpa using hp
      have h' : dropW az n = some ds := by cases a <;> first | (simp [isPart] at hp'; done) | simpa [dropW] using h
      obtain ⟨m, r, rfl, h1, h2⟩ := (relC_cons hp').1 hr
      obtain ⟨h4, h5⟩ := dropW_rel n h' h2
      exact ⟨by simp; omega, by simpa using h5⟩
theorem takeW_rel : ∀ {cs ds : List AV} {ms : List MV} (n : Nat), takeW cs n = some ds → RelC cs ms → n ≤ ms.length ∧ RelC ds (ms.take n)
  | cs, ds, ms, 0, h, hr => by
    have : ds = [] := by cases cs <;> simpa [takeW] using h.symm
    subst this; exact ⟨Nat.zero_le _, by simp [RelC]⟩
  | [], ds, ms, n + 1, h, hr => by cases h
  | a :: az, ds, ms, n + 1, h, hr => by
    by_cases hp : isPart a = true
    · cases a with
      | q k p =>
        simp only [takeW] at h
        split at h
        · rename_i h3
          obtain ⟨d, h6, rfl⟩ := Option.map_eq_some_iff.1 h
          obtain ⟨r, rfl, h1, h2⟩ := hr
          obtain ⟨h4, h5⟩ := takeW_rel (n - 3) h6 h2
          refine ⟨by rw [List.length_append, rC_len]; omega, r.take (n - 3), ?_, h1, h5⟩
          rw [List.take_append, rC_len, List.take_of_length_le (by rw [rC_len]; omega), show n + 1 - 4 = n - 3 by omega]
        · cases h
      | blk w k f => cases h
      | _ => cases hp
    · have hp' : isPart a = false := by simpa using hp
      have h' : (takeW az n).map (a :: ·) = some ds := by cases a <;> first | (simp [isPart] at hp'; done) | simpa [takeW] using h
      obtain ⟨d, h6, rfl⟩ := Option.map_eq_some_iff.1 h'
      obtain ⟨m, r, rfl, h1, h2⟩ := (relC_cons hp').1 hr
      obtain ⟨h4, h5⟩ := takeW_rel n h6 h2
      exact ⟨by simp; omega, by rw [List.take_succ_cons]; exact (relC_cons hp').2 ⟨m, _, rfl, h1, h5⟩⟩
theorem mkAgg_rel {cs : List AV} {ms : List MV} (h : RelC cs ms) : Rel (mkAgg cs) (.agg ms) := by
  unfold mkAgg
  split
  · obtain ⟨r, rfl, h1, rfl⟩ := h; exact ⟨by simp, h1⟩
  · exact ⟨ms, rfl, h⟩
theorem takeTA_rel {P : Program} {t : TypeId} {cs : List AV} {v : AV} {ms r : List MV} (h : takeTA P t cs = some v) (hr : RelC cs ms) : ∃ m, takeT P t (ms ++ r) = some m ∧ Rel v m := by
  unfold takeTA at h
  unfold takeT
  split at h
  · rename_i n e1 e2
    obtain ⟨d, h6, rfl⟩ := Option.map_eq_some_iff.1 h
    obtain ⟨h4, h5⟩ := takeW_rel n h6 hr
    simp only [e1, e2]
    refine ⟨.agg ((ms ++ r).take n), if_pos (by simp; omega), ?_⟩
    rw [List.take_append_of_le_length h4]
    exact mkAgg_rel h5
  · rename_i n e1 e2
    split at h
    · rename_i c cs'
      split at h
      · cases h
      · rename_i hp
        cases h
        obtain ⟨m, r', rfl, h1, h2⟩ := (relC_cons (by simpa using hp)).1 hr
        exact ⟨m, by simp [e1, e2], h1⟩
    · cases h
  · cases h
theorem cellOkA_ok {a : AV} {m : MV} (h : cellOkA a = true) (hp : isPart a = false) (hr : Rel a m) : cellOk m = true := by
  cases a with
  | sc v => rw [hr]; exact h
  | q _ _ => cases hp
  | blk _ _ _ => cases hp
  | fs _ _ _ => obtain ⟨ms, rfl, _⟩ := hr; rfl
  | arr _ _ _ _ => rw [hr.1]; rfl
  | cp _ => obtain ⟨ms, r, rfl, _⟩ := hr; rfl
  | fn _ _ => obtain ⟨ms, rfl, _⟩ := hr; rfl
  | row _ _ _ _ _ _ => rw [hr]; rfl
  | ptr _ _ _ => rw [hr]; rfl
  | pte _ _ _ _ _ => rw [hr]; rfl
  | _ => cases h
theorem rC_ok (p : Rat) : (rC p).all cellOk = true := rfl
theorem leavesC_ok : ∀ {l : List Leaf}, (∀ x ∈ l, leafOk x) → (leavesC l).all cellOk = true
  | [], _ => rfl
  | .v x :: l, h => by
    have h1 : cellOk (.sc x) = true := h (.v x) (by simp)
    have := leavesC_ok (l := l) fun y hy => h y (by simp [hy])
    simp only [leavesC, List.flatMap_cons, leafC, List.all_append, List.all_cons, List.all_nil, Bool.and_true, h1, Bool.true_and] at this ⊢
    exact this
  | .q k p :: l, h => by
    have := leavesC_ok (l := l) fun y hy => h y (by simp [hy])
    simp only [leavesC, List.flatMap_cons, leafC, List.all_append, rC_ok, Bool.true_and] at this ⊢
    exact this
theorem blkC_ok {w : Nat} {f : Nat → List Leaf} : ∀ {n : Nat}, (∀ i, i < n → (leavesC (f i)).length = w ∧ ∀ x ∈ f i, leafOk x) → (blkC f n).all cellOk = true
  | 0, _ => rfl
  | n + 1, h => by rw [blkC, List.all_append, blkC_ok (fun i hi => h i (by omega)), leavesC_ok (h n (by omega)).2]; rfl
theorem cells_ok : ∀ {cs : List AV} {ms : List MV}, cs.all cellOkA = true → RelC cs ms → ms.all cellOk = true
  | [], _, _, h => by cases h; rfl
  | a :: az, ms, h, hr => by
    simp only [List.all_cons, Bool.and_eq_true] at h
    by_cases hp : isPart a = true
    · cases a with
      | q k p => obtain ⟨r, rfl, h1, h2⟩ := hr; rw [List.all_append, rC_ok, cells_ok h.2 h2]; rfl
      | blk w n f => obtain ⟨r, rfl, h1, h2⟩ := hr; rw [List.all_append, blkC_ok h1, cells_ok h.2 h2]; rfl
      | _ => cases hp
    · obtain ⟨m, r, rfl, h1, h2⟩ := (relC_cons (by simpa using hp)).1 hr
      simp only [List.all_cons, cellOkA_ok h.1 (by simpa using hp) h1, cells_ok h.2 h2, Bool.and_self]
theorem cellsA_rel {a : AV} {vs : List AV} {m : MV} (h : cellsA a = some vs) (hr : Rel a m) : ∃ ms, cellsOf m = some ms ∧ RelC vs ms := by
  have one : isPart a = false → cellOkA a = true → vs = [a] → ∃ ms, cellsOf m = some ms ∧ RelC vs ms := by
    intro hp h1 e
    have h2 := cellOkA_ok h1 hp hr
    subst e
    exact ⟨[m], by cases m <;> first | rfl | (simp [cellOk] at h2; done) | simp [cellsOf, h2], (relC_cons hp).2 ⟨m, [], rfl, hr, rfl⟩⟩
  cases a with
  | agg cs =>
    simp only [cellsA] at h
    split at h
    · rename_i h1
      cases h
      obtain ⟨ms, rfl, h2⟩ := hr
      exact ⟨ms, by simp only [cellsOf, cells_ok h1 h2, if_true], h2⟩
    · cases h
  | q k p =>
    cases h
    obtain ⟨rfl, h1⟩ := hr
    exact ⟨rC p, by simp only [cellsOf, rC_ok, if_true], [], by simp, h1, rfl⟩
  | blk w n f => cases h
  | sc v =>
    simp only [cellsA] at h
    split at h
    · rename_i h1; cases h; exact one rfl h1 rfl
    · cases h
  | tup _ => cases h
  | any => cases h
  | _ => cases h; exact one rfl rfl rfl
theorem putW_rel {cs vs ds : List AV} {off : Nat} {ms xs : List MV} (h : putW cs off vs = some ds) (hr : RelC cs ms) (hv : RelC vs xs) : off + xs.length ≤ ms.length ∧ RelC ds (putCells ms off xs) := by
  unfold putW at h
  split at h
  · rename_i a b h1 h2
    cases h
    obtain ⟨h3, h4⟩ := takeW_rel _ h1 hr
    obtain ⟨h5, h6⟩ := dropW_rel _ h2 hr
    rw [← relC_len hv] at h5 h6
    exact ⟨h5, relC_append (relC_append h4 hv) h6⟩
  · cases h
theorem leaf_rel : ∀ {l : List Leaf}, (∀ x ∈ l, leafOk x) → RelC (l.map leafA) (leavesC l)
  | [], _ => rfl
  | .v x :: l, h => ⟨.sc x, leavesC l, rfl, rfl, leaf_rel fun y hy => h y (by simp [hy])⟩
  | .q k p :: l, h => ⟨leavesC l, rfl, h (.q k p) (by simp), leaf_rel fun y hy => h y (by simp [hy])⟩
/-- The cells from an element on. -/
theorem blkC_from {w : Nat} {f : Nat → List Leaf} {n i : Nat} (h : ∀ i, i < n → (leavesC (f i)).length = w ∧ ∀ x ∈ f i, leafOk x) (hi : i < n) : ∃ r, (blkC f n).drop (i * w) = leavesC (f i) ++ r := by
  induction n with
  | zero => omega
  | succ n ih =>
    have hl := blkC_len (n := n) fun i hi => h i (by omega)
    by_cases hn : i < n
    · obtain ⟨r, hr⟩ := ih (fun i hi => h i (by omega)) hn
      have : i * w ≤ n * w := Nat.mul_le_mul_right _ (by omega)
      exact ⟨r ++ leavesC (f n), by rw [blkC, List.drop_append, hr, hl, show i * w - n * w = 0 by omega]; simp⟩
    · obtain rfl : i = n := by omega
      exact ⟨[], by rw [blkC, List.drop_append, hl, List.drop_of_length_le (by rw [hl]; omega)]; simp⟩
theorem blkC_split (f : Nat → List Leaf) (m : Nat) : ∀ n, blkC f (m + n) = blkC f m ++ blkC (fun i => f (m + i)) n
  | 0 => by simp [blkC]
  | n + 1 => by rw [← Nat.add_assoc, blkC, blkC_split f m n, blkC, List.append_assoc]
theorem blkC_slice {w : Nat} {f : Nat → List Leaf} {n l h : Nat} (hb : ∀ i, i < n → (leavesC (f i)).length = w ∧ ∀ x ∈ f i, leafOk x) (hh : h ≤ n) (hl : l ≤ h) : ((blkC f n).drop (l * w)).take ((h - l) * w) = blkC (fun i => f (l + i)) (h - l) := by
  obtain ⟨d, rfl⟩ := Nat.exists_eq_add_of_le hl
  obtain ⟨e, rfl⟩ := Nat.exists_eq_add_of_le hh
  rw [blkC_split f (l + d) e, blkC_split f l d, List.append_assoc, Nat.add_sub_cancel_left]
  have h1 : (blkC f l).length = l * w := blkC_len fun i hi => hb i (by omega)
  have h2 : (blkC (fun i => f (l + i)) d).length = d * w := blkC_len fun i hi => hb (l + i) (by omega)
  rw [List.drop_append, h1, List.drop_of_length_le (by omega), Nat.sub_self, List.drop_zero, List.nil_append, List.take_append, h2, List.take_of_length_le (by omega), Nat.sub_self]
  simp
/-! Elements behind a long row. -/
theorem el1_congr {F G : Fam} {i i' : Nat} : ∀ (sh : List Kd) (j : Nat), (∀ k, F.i i k = G.i i' k) → (∀ k, F.b i k = G.b i' k) → (∀ k, F.q i k = G.q i' k) → F.el1 i j sh = G.el1 i' j sh
  | [], _, _, _, _ => rfl
  | .i k :: r, j, h1, h2, h3 => by rw [Fam.el1, Fam.el1, h1, el1_congr r _ h1 h2 h3]
  | .b :: r, j, h1, h2, h3 => by rw [Fam.el1, Fam.el1, h2, el1_congr r _ h1 h2 h3]
  | .q K :: r, j, h1, h2, h3 => by rw [Fam.el1, Fam.el1, h3, el1_congr r _ h1 h2 h3]
theorem blkC_congr {f g : Nat → List Leaf} : ∀ {n : Nat}, (∀ i, i < n → f i = g i) → blkC f n = blkC g n
  | 0, _ => rfl
  | n + 1, h => by rw [blkC, blkC, blkC_congr fun i hi => h i (by omega), h n (by omega)]
/-- An element's parts from a place on. -/
def elF (e : El) : Fam := ⟨fun _ => e.i, fun _ => e.b, fun _ => e.q⟩
theorem el1_from {F G : Fam} {i i' : Nat} : ∀ (sh : List Kd) (j : Nat), (∀ k, j ≤ k → F.i i k = G.i i' k) → (∀ k, j ≤ k → F.b i k = G.b i' k) → (∀ k, j ≤ k → F.q i k = G.q i' k) → F.el1 i j sh = G.el1 i' j sh
  | [], _, _, _, _ => rfl
  | .i k :: r, j, h1, h2, h3 => by rw [Fam.el1, Fam.el1, h1 j (Nat.le_refl j), el1_from r _ (fun k hk => h1 k (by omega)) (fun k hk => h2 k (by omega)) (fun k hk => h3 k (by omega))]
  | .b :: r, j, h1, h2, h3 => by rw [Fam.el1, Fam.el1, h2 j (Nat.le_refl j), el1_from r _ (fun k hk => h1 k (by omega)) (fun k hk => h2 k (by omega)) (fun k hk => h3 k (by omega))]
  | .q K :: r, j, h1, h2, h3 => by rw [Fam.el1, Fam.el1, h3 j (Nat.le_refl j), el1_from r _ (fun k hk => h1 k (by omega)) (fun k hk => h2 k (by omega)) (fun k hk => h3 k (by omega))]
theorem rd1_rel {k : Kd} {a : AV} {l : Leaf} {r : List AV} {ms : List MV} (h : rd1 k a = some l) (hr : RelC (a :: r) ms) :
    ∃ t, ms = leafC l ++ t ∧ RelC r t ∧ (leafC l).length = kdW [k] ∧ leafOk l ∧ ∀ (e : El) (j : Nat) (s : List Kd), (elF (e.put j l)).el1 0 j (k :: s) = l :: (elF e).el1 0 (j + 1) s := by
  unfold rd1 at h
  split at h
  · split at h
    · rename_i hk
      cases h
      subst hk
      obtain ⟨m, t, rfl, rfl, h3⟩ := hr
      refine ⟨t, rfl, h3, rfl, rfl, fun e j s => ?_⟩
      rw [Fam.el1, el1_from (F := elF (e.put j _)) (G := elF e) (i := 0) (i' := 0) s (j + 1) (fun q hq => by simp only [elF, El.put, El.setI]; rw [if_neg (by omega)]) (fun q hq => rfl) (fun q hq => rfl)]
      simp [elF, El.put, El.setI]
    · cases h
  · cases h
    obtain ⟨m, t, rfl, rfl, h3⟩ := hr
    refine ⟨t, rfl, h3, rfl, rfl, fun e j s => ?_⟩
    rw [Fam.el1, el1_from (F := elF (e.put j _)) (G := elF e) (i := 0) (i' := 0) s (j + 1) (fun q hq => rfl) (fun q hq => by simp only [elF, El.put, El.setB]; rw [if_neg (by omega)]) (fun q hq => rfl)]
    simp [elF, El.put, El.setB]
  · split at h
    · rename_i hk
      cases h
      obtain ⟨t, rfl, h7, h3⟩ := hr
      refine ⟨t, rfl, h3, rfl, h7.mono hk, fun e j s => ?_⟩
      rw [Fam.el1, el1_from (F := elF (e.put j _)) (G := elF e) (i := 0) (i' := 0) s (j + 1) (fun q hq => rfl) (fun q hq => rfl) (fun q hq => by simp only [elF, El.put, El.setQ]; rw [if_neg (by omega)])]
      simp [elF, El.put, El.setQ]
    · cases h
  · cases h
theorem kdW_cons (k : Kd) (s : List Kd) : kdW (k :: s) = kdW [k] + kdW s := by cases k <;> simp [kdW] <;> omega
theorem rdE_rel : ∀ {sh : List Kd} {j : Nat} {r r' : List AV} {e : El} {ms : List MV}, rdE j sh r = some (e, r') → RelC r ms →
    ∃ t, ms = leavesC ((elF e).el1 0 j sh) ++ t ∧ RelC r' t ∧ (leavesC ((elF e).el1 0 j sh)).length = kdW sh ∧ ∀ x ∈ (elF e).el1 0 j sh, leafOk x
  | [], j, r, r', e, ms, h, hr => by
    have h : some (_, r) = some (e, r') := h
    cases h; exact ⟨ms, rfl, hr, rfl, fun x hx => by cases hx⟩
  | k :: s, j, [], r', e, ms, h, hr => by simp [rdE] at h
  | k :: s, j, a :: r, r', e, ms, h, hr => by
    simp only [rdE] at h
    split at h
    · rename_i l hl
      obtain ⟨⟨e1, r1⟩, h1, h2⟩ := Option.map_eq_some_iff.1 h
      cases h2
      obtain ⟨t, rfl, h3, h4, h5, h6⟩ := rd1_rel hl hr
      obtain ⟨t', rfl, h7, h8, h9⟩ := rdE_rel h1 h3
      refine ⟨t', ?_, h7, ?_, ?_⟩
      · rw [h6]; simp [leavesC]
      · rw [h6, kdW_cons]; simp only [leavesC, List.flatMap_cons, List.length_append] at h8 ⊢; omega
      · rw [h6]
        intro y hy
        rcases List.mem_cons.1 hy with rfl | hy
        · exact h5
        · exact h9 y hy
    · cases h
theorem snoc_el (F : Fam) (n : Nat) (e : El) (sh : List Kd) (i : Nat) : (F.snoc n e).el sh i = if i = n then (elF e).el1 0 0 sh else F.el sh i := by
  by_cases h : i = n
  · rw [if_pos h]
    exact el1_congr sh 0 (fun k => by simp [Fam.snoc, elF, h]) (fun k => by simp [Fam.snoc, elF, h]) (fun k => by simp [Fam.snoc, elF, h])
  · rw [if_neg h]
    exact el1_congr sh 0 (fun k => by simp [Fam.snoc, h]) (fun k => by simp [Fam.snoc, h]) (fun k => by simp [Fam.snoc, h])
theorem mergeR_rel {sh : List Kd} : ∀ {d n n' : Nat} {F F' : Fam} {r : List AV} {ms : List MV}, mergeR sh d n F r = some (n', F') → RelC (.blk sh n F :: r) ms → RelC [.blk sh n' F'] ms
  | 0, _, _, _, _, _, _, h, _ => by cases h
  | d + 1, n, n', F, F', [], ms, h, hr => by cases h; exact hr
  | d + 1, n, n', F, F', a :: r, ms, h, hr => by
    simp only [mergeR] at h
    split at h
    · rename_i e r' he
      obtain ⟨t, rfl, hb, h2⟩ := hr
      obtain ⟨t', rfl, h3, h4, h5⟩ := rdE_rel he h2
      refine mergeR_rel h ⟨t', ?_, ?_, h3⟩
      · rw [blkC, snoc_el, if_pos rfl, blkC_congr (f := (F.snoc n e).el sh) (g := F.el sh) (fun i hi => by rw [snoc_el, if_neg (by omega)]), List.append_assoc]
      · intro i hi
        rw [snoc_el]
        by_cases hn : i = n
        · rw [if_pos hn]; exact ⟨h4, h5⟩
        · rw [if_neg hn]; exact hb i (by omega)
    · cases h
theorem mergeC_rel {cs : List AV} {ms : List MV} (h : RelC cs ms) : RelC (mergeC cs) ms := by
  unfold mergeC
  split
  · split
    · rename_i h1; exact mergeR_rel h1 h
    · exact h
  · exact h
end Go.Proofs.YtkeelkeoijemiaaGreat.Ev

namespace Go.Proofs.YtkeelkeoijemiaaGreat.Ev
open Go Go.RowKit
set_option linter.unusedVariables false
set_option linter.unusedSimpArgs false

variable {R : Type}

theorem brK_some {b : Bool} {k : Bool → Option R} {r : R} (h : brK b k = some r) : k b = some r := by cases b <;> exact h
theorem gdK_some {b : Bool} {k : Option R} {r : R} (h : gdK b k = some r) : b = true ∧ k = some r := by
  cases b with
  | true => exact ⟨rfl, h⟩
  | false => cases h
theorem gdK_dec {p : Prop} [Decidable p] {k : Option R} {r : R} (h : gdK (decide p) k = some r) : p ∧ k = some r := by
  obtain ⟨h1, h2⟩ := gdK_some h
  exact ⟨of_decide_eq_true h1, h2⟩

theorem relEs_get : ∀ {az : List (Option EntA)} {ms : List (Option Ent)} (i : Nat), RelEs az ms → RelE (az.getD i none) (ms.getD i none)
  | [], _, i, h => by simp [RelE]
  | a :: az, ms, 0, h => by obtain ⟨m, r, rfl, h1, _⟩ := h; exact h1
  | a :: az, ms, i + 1, h => by obtain ⟨m, r, rfl, _, h2⟩ := h; simpa using relEs_get i h2

/-- Cells that are scalars or frozen rows. -/
def Flat (cs : List MV) : Prop := ∀ x ∈ cs, (∃ v, x = .sc v) ∨ ∃ n c l, x = .fs n c l
theorem freezes_flat {em : Nat → Option Ent} : ∀ {cs : List MV} {K : Nat}, Flat cs → cs.length < K → freezes em K cs = some (cs, [])
  | [], K + 1, _, _ => rfl
  | c :: cs, K + 2, h, hl => by
    have h1 := freezes_flat (em := em) (cs := cs) (K := K + 1) (fun x hx => h x (by simp [hx])) (by simp at hl ⊢; omega)
    rcases h c (by simp) with ⟨v, rfl⟩ | ⟨n, c', l, rfl⟩ <;> simp [freezes, freeze, h1]
  | c :: cs, 1, h, hl => by simp at hl
theorem rC_flat (p : Rat) : Flat (rC p) := by
  intro x hx
  simp only [rC, iC, List.cons_append, List.nil_append, List.mem_cons, List.not_mem_nil, or_false] at hx
  rcases hx with rfl | rfl | rfl | rfl
  · exact .inl ⟨_, rfl⟩
  · exact .inr ⟨_, _, _, rfl⟩
  · exact .inl ⟨_, rfl⟩
  · exact .inr ⟨_, _, _, rfl⟩
theorem leavesC_flat (l : List Leaf) : Flat (leavesC l) := by
  intro x hx
  obtain ⟨y, _, h2⟩ := List.mem_flatMap.1 hx
  cases y with
  | v x => exact .inl ⟨_, by simpa [leafC] using h2⟩
  | q k p => exact rC_flat p x h2
theorem blkC_flat (f : Nat → List Leaf) : ∀ n, Flat (blkC f n)
  | 0 => fun x hx => by cases hx
  | n + 1 => fun x hx => by
    rcases List.mem_append.1 hx with h | h
    · exact blkC_flat f n x h
    · exact leavesC_flat _ x h

mutual
theorem freezeA_part {en : Nat → Option EntA} : ∀ (k : Nat) (a a' : AV) (ns : List Nat), freezeA en k a = some (a', ns) → isPart a = false → isPart a' = false
  | 0, _, _, _, h, _ => by simp [freezeA] at h
  | k + 1, a, a', ns, h, hp => by
    cases a with
    | q _ _ => cases hp
    | blk _ _ _ => cases hp
    | sc _ => cases h; rfl
    | fs _ _ _ => cases h; rfl
    | arr _ _ _ _ => cases h; rfl
    | cp _ => cases h; rfl
    | agg _ => simp only [freezeA, Option.map_eq_some_iff, Prod.mk.injEq] at h; obtain ⟨x, _, rfl, _⟩ := h; rfl
    | tup _ => simp only [freezeA, Option.map_eq_some_iff, Prod.mk.injEq] at h; obtain ⟨x, _, rfl, _⟩ := h; rfl
    | fn _ _ => simp only [freezeA, Option.map_eq_some_iff, Prod.mk.injEq] at h; obtain ⟨x, _, rfl, _⟩ := h; rfl
    | ptr nm g off =>
      simp only [freezeA] at h
      (repeat (split at h)) <;> first | (cases h; done) | skip
      simp only [Option.map_eq_some_iff, Prod.mk.injEq] at h; obtain ⟨x, _, rfl, _⟩ := h; rfl
    | row nm g off len cap sz =>
      simp only [freezeA] at h
      (repeat (split at h)) <;> first | (cases h; done) | skip
      simp only [Option.map_eq_some_iff, Prod.mk.injEq] at h; obtain ⟨x, _, rfl, _⟩ := h; rfl
    | pte _ _ _ _ _ => simp [freezeA] at h
    | any => simp [freezeA] at h
end

mutual
theorem freezeA_sound {en : Nat → Option EntA} {em : Nat → Option Ent} (hE : ∀ n, RelE (en n) (em n)) : ∀ (k : Nat) (a a' : AV) (ns : List Nat) (m : MV) (K : Nat), freezeA en k a = some (a', ns) → Rel a m → 6 * k ≤ K → ∃ m', freeze em K m = some (m', ns) ∧ Rel a' m'
  | 0, _, _, _, _, _, h, _, _ => by simp [freezeA] at h
  | k + 1, a, a', ns, m, 0, h, hr, hK => by omega
  | k + 1, a, a', ns, m, K + 1, h, hr, hK => by
    cases a with
    | sc v => cases h; cases hr; exact ⟨.sc v, rfl, rfl⟩
    | q j p =>
      cases h
      obtain ⟨rfl, h1⟩ := hr
      refine ⟨rM p, ?_, rfl, h1⟩
      rw [rM, freeze, freezes_flat (rC_flat p) (by rw [rC_len]; omega)]
      rfl
    | fs n c cs => cases h; obtain ⟨ms, rfl, h1⟩ := hr; exact ⟨_, rfl, ms, rfl, h1⟩
    | arr c sh n F => cases h; obtain ⟨rfl, h1⟩ := hr; exact ⟨_, rfl, rfl, h1⟩
    | cp cs => cases h; obtain ⟨ms, r, rfl, h1⟩ := hr; exact ⟨_, rfl, ms, r, rfl, h1⟩
    | agg cs =>
      simp only [freezeA, Option.map_eq_some_iff, Prod.mk.injEq] at h
      obtain ⟨⟨cs', ns'⟩, h1, rfl, rfl⟩ := h
      obtain ⟨ms, rfl, h2⟩ := hr
      obtain ⟨ms', h3, h4⟩ := freezesA_sound hE k cs cs' ns' ms K h1 h2 (by omega)
      exact ⟨.agg ms', by simp [freeze, h3], ms', rfl, h4⟩
    | tup cs =>
      simp only [freezeA, Option.map_eq_some_iff, Prod.mk.injEq] at h
      obtain ⟨⟨cs', ns'⟩, h1, rfl, rfl⟩ := h
      obtain ⟨ms, rfl, h2⟩ := hr
      obtain ⟨ms', h3, h4⟩ := freezesT_sound hE k cs cs' ns' ms K h1 h2 (by omega)
      exact ⟨.tup ms', by simp [freeze, h3], ms', rfl, h4⟩
    | fn f cs =>
      simp only [freezeA, Option.map_eq_some_iff, Prod.mk.injEq] at h
      obtain ⟨⟨cs', ns'⟩, h1, rfl, rfl⟩ := h
      obtain ⟨ms, rfl, h2⟩ := hr
      obtain ⟨ms', h3, h4⟩ := freezesT_sound hE k cs cs' ns' ms K h1 h2 (by omega)
      exact ⟨.fn f ms', by simp [freeze, h3], ms', rfl, h4⟩
    | ptr nm g off =>
      cases hr
      simp only [freezeA] at h
      split at h
      · rename_i e he
        have hx := hE nm
        rw [he] at hx
        obtain ⟨x, hx1, hx2, hx3, hx4⟩ := hx
        split at h
        · rename_i hg
          split at h
          · rename_i cs hd
            simp only [Option.map_eq_some_iff, Prod.mk.injEq] at h
            obtain ⟨⟨cs', ns'⟩, h1, rfl, rfl⟩ := h
            obtain ⟨_, h5⟩ := dropW_rel _ hd hx4
            obtain ⟨ms', h3, h4⟩ := freezesA_sound hE k cs cs' ns' _ K h1 h5 (by omega)
            exact ⟨.cp ms', by simp [freeze, hx1, ← hx2, hg, h3], ms', [], by simp, h4⟩
          · cases h
        · cases h
      · cases h
    | row nm g off len cap sz =>
      cases hr
      simp only [freezeA] at h
      split at h
      · rename_i e he
        have hx := hE nm
        rw [he] at hx
        obtain ⟨x, hx1, hx2, hx3, hx4⟩ := hx
        split at h
        · rename_i hg
          split at h
          · rename_i cs hd
            simp only [Option.map_eq_some_iff, Prod.mk.injEq] at h
            obtain ⟨⟨cs', ns'⟩, h1, rfl, rfl⟩ := h
            obtain ⟨ds, hd1, hd2⟩ := Option.bind_eq_some_iff.1 hd
            obtain ⟨h5, h6⟩ := dropW_rel _ hd1 hx4
            obtain ⟨h7, h8⟩ := takeW_rel _ hd2 h6
            obtain ⟨ms', h3, h4⟩ := freezesA_sound hE k cs cs' ns' _ K h1 h8 (by omega)
            have hl : off + len * sz ≤ x.cells.length := by rw [List.length_drop] at h7; omega
            exact ⟨.fs len cap ms', by simp [freeze, hx1, ← hx2, hg, h3, hl], ms', rfl, h4⟩
          · cases h
        · cases h
      · cases h
    | blk _ _ _ => simp [freezeA] at h
    | pte _ _ _ _ _ => simp [freezeA] at h
    | any => simp [freezeA] at h
theorem freezesA_sound {en : Nat → Option EntA} {em : Nat → Option Ent} (hE : ∀ n, RelE (en n) (em n)) : ∀ (k : Nat) (az a' : List AV) (ns : List Nat) (ms : List MV) (K : Nat), freezesA en k az = some (a', ns) → RelC az ms → 6 * k ≤ K → ∃ m', freezes em K ms = some (m', ns) ∧ RelC a' m'
  | 0, _, _, _, _, _, h, _, _ => by simp [freezesA] at h
  | k + 1, az, a', ns, m, 0, h, hr, hK => by omega
  | k + 1, [], a', ns, ms, K + 1, h, hr, hK => by cases h; cases hr; exact ⟨[], rfl, rfl⟩
  | k + 1, a :: az, a', ns, ms, K + 1, h, hr, hK => by
    simp only [freezesA] at h
    split at h
    · rename_i x y h1 h2
      cases h
      by_cases hp : isPart a = true
      · cases a with
        | q j p =>
          obtain ⟨r, rfl, h3, h4⟩ := hr
          have hx : x = (.q j p, []) := by
            cases k with
            | zero => simp [freezeA] at h1
            | succ k => simpa [freezeA] using h1.symm
          subst hx
          obtain ⟨y1, y2⟩ := y
          obtain ⟨ms', h5, h6⟩ := freezesA_sound hE k az y1 y2 r (K - 3) h2 h4 (by omega)
          obtain ⟨J, rfl⟩ : ∃ J, K = J + 4 := ⟨K - 4, by omega⟩
          refine ⟨rC p ++ ms', ?_, ms', rfl, h3, h6⟩
          rw [show J + 4 - 3 = J + 1 by omega] at h5
          show freezes em (J + 4 + 1) (_ :: _ :: _ :: _ :: r) = _
          simp only [freezes, freeze, h5]
          rfl
        | blk w n f =>
          cases k with
          | zero => simp [freezeA] at h1
          | succ k => simp [freezeA] at h1
        | _ => cases hp
      · have hp' : isPart a = false := by simpa using hp
        obtain ⟨m, r, rfl, h3, h4⟩ := (relC_cons hp').1 hr
        obtain ⟨x1, x2⟩ := x
        obtain ⟨y1, y2⟩ := y
        obtain ⟨m', h5, h6⟩ := freezeA_sound hE k a x1 x2 m K h1 h3 (by omega)
        obtain ⟨ms', h7, h8⟩ := freezesA_sound hE k az y1 y2 r K h2 h4 (by omega)
        exact ⟨m' :: ms', by simp only [freezes, h5, h7], (relC_cons (freezeA_part k a x1 x2 h1 hp')).2 ⟨m', ms', rfl, h6, h8⟩⟩
    · cases h
theorem freezesT_sound {en : Nat → Option EntA} {em : Nat → Option Ent} (hE : ∀ n, RelE (en n) (em n)) : ∀ (k : Nat) (az a' : List AV) (ns : List Nat) (ms : List MV) (K : Nat), freezesT en k az = some (a', ns) → RelT az ms → 6 * k ≤ K → ∃ m', freezes em K ms = some (m', ns) ∧ RelT a' m'
  | 0, _, _, _, _, _, h, _, _ => by simp [freezesT] at h
  | k + 1, az, a', ns, m, 0, h, hr, hK => by omega
  | k + 1, [], a', ns, ms, K + 1, h, hr, hK => by cases h; cases hr; exact ⟨[], rfl, rfl⟩
  | k + 1, a :: az, a', ns, ms, K + 1, h, hr, hK => by
    simp only [freezesT] at h
    split at h
    · rename_i x y h1 h2
      cases h
      obtain ⟨m, r, rfl, h3, h4⟩ := hr
      obtain ⟨x1, x2⟩ := x
      obtain ⟨y1, y2⟩ := y
      obtain ⟨m', h5, h6⟩ := freezeA_sound hE k a x1 x2 m K h1 h3 (by omega)
      obtain ⟨ms', h7, h8⟩ := freezesT_sound hE k az y1 y2 r K h2 h4 (by omega)
      exact ⟨m' :: ms', by simp only [freezes, h5, h7], m', ms', rfl, h6, h8⟩
    · cases h
end
theorem frzK_sound {en : Nat → Option EntA} {em : Nat → Option Ent} (hE : ∀ n, RelE (en n) (em n)) {a : AV} {m : MV} {k : AV → List Nat → Option R} {r : R} (h : frzK en a k = some r) (hr : Rel a m) :
    ∃ a' m' ns, freeze em FUEL m = some (m', ns) ∧ Rel a' m' ∧ k a' ns = some r := by
  have gen : (match freezeA en FA a with | some (x, ns) => k x ns | none => none) = some r → ∃ a' m' ns, freeze em FUEL m = some (m', ns) ∧ Rel a' m' ∧ k a' ns = some r := by
    intro h
    split at h
    · rename_i x ns h1
      obtain ⟨m', h2, h3⟩ := freezeA_sound hE FA a x ns m FUEL h1 hr (by unfold FA FUEL; omega)
      exact ⟨x, m', ns, h2, h3, h⟩
    · cases h
  unfold frzK at h
  split at h
  · rename_i nm g off len cap sz
    split at h
    · rename_i e he
      split at h
      · rename_i sh n F hc
        obtain ⟨h12, hk⟩ := gdK_some h
        simp only [Bool.and_eq_true, decide_eq_true_eq] at h12
        obtain ⟨⟨h1, h2, h3⟩, h4⟩ := h12
        obtain ⟨⟨h6, h5⟩, hk⟩ := gdK_dec hk
        have hx := hE nm
        rw [he] at hx
        obtain ⟨x, hx1, hx2, hx3, hx4⟩ := hx
        have hx4 := mergeC_rel hx4
        rw [hc] at hx4
        have hlen := relC_len hx4
        obtain ⟨r', e1, hb, e2⟩ := hx4
        cases e2
        rw [List.append_nil] at e1
        cases hr
        subst h3 h4 h6
        refine ⟨.arr cap sh len F, .fs len cap (blkC (F.el sh) len), [nm], ?_, ⟨rfl, hb⟩, hk⟩
        simp only [lenA, Nat.add_zero] at hlen
        show freeze em (999999 + 1) _ = _
        simp only [freeze, hx1, ← hx2, List.drop_zero, Nat.zero_add]
        rw [if_pos ⟨h1, h2, by omega⟩, ← hlen, List.take_length, e1, freezes_flat (blkC_flat (F.el sh) len) (by rw [← e1, hlen]; omega)]
        rfl
      · exact gen h
    · cases h
  · exact gen h
theorem frzsK_sound {en : Nat → Option EntA} {em : Nat → Option Ent} (hE : ∀ n, RelE (en n) (em n)) : ∀ {az : List AV} {ms : List MV} {k : List AV → List Nat → Option R} {r : R} (i : Nat), frzsK en az k = some r → RelT az ms →
    ∃ a' m' ns, prepArgs em [] i ms = some (m', ns, []) ∧ RelT a' m' ∧ k a' ns = some r
  | [], _, k, r, i, h, hr => by cases hr; exact ⟨[], [], [], rfl, rfl, h⟩
  | a :: az, ms, k, r, i, h, hr => by
    obtain ⟨m, ms', rfl, h1, h2⟩ := hr
    obtain ⟨a', m', ns, h3, h4, h5⟩ := frzK_sound hE h h1
    obtain ⟨b', n', nt, h6, h7, h8⟩ := frzsK_sound hE (i + 1) h5 h2
    exact ⟨a' :: b', m' :: n', ns ++ nt, by simp only [prepArgs, h6, List.contains_nil, Bool.false_eq_true, if_false, h3], ⟨m', n', rfl, h4, h7⟩, h8⟩

/-- What is told of calls holds. -/
def SOK (S : CTab R) (T : Tab) : Prop := ∀ f args k r ms, S f args k = some r → RelT args ms → ∃ a m, T.call f ms = some (m, []) ∧ Rel a m ∧ k a = some r
theorem altK_some : ∀ {l : List (Bool × AV)} {k : AV → Option R} {r : R}, altK l k = some r → ∃ a, (true, a) ∈ l ∧ k a = some r
  | [], k, r, h => by cases h
  | (true, a) :: l, k, r, h => ⟨a, by simp, h⟩
  | (false, a) :: l, k, r, h => by
    obtain ⟨b, h1, h2⟩ := altK_some (l := l) h
    exact ⟨b, by simp [h1], h2⟩
theorem callA_sound {S : CTab R} {T : Tab} (hS : SOK S T) {en : Nat → Option EntA} {em : Nat → Option Ent} (hE : ∀ n, RelE (en n) (em n)) {f : FuncId} {args : List AV} {ms : List MV} {k : ResA → Option R} {r : R}
    (h : callA S T.io en f args k = some r) (hr : RelT args ms) : ∃ a b, evalCall T em f ms = some b ∧ RelR a b ∧ k a = some r := by
  unfold callA at h
  split at h
  · rename_i hio
    obtain ⟨a', m', ns, h1, h2, h3⟩ := frzsK_sound hE 0 h hr
    · obtain ⟨v, m, h7, h8, h6⟩ := hS f a' _ r m' h3 h2
      refine ⟨_, { val := m, upd := [], frz := ns, rd := ns }, ?_, ?_, h6⟩
      case refine_2 => exact ⟨h8, rfl, rfl, rfl⟩
      simp [evalCall, hio, h1, h7, backRows]
  · cases h

theorem nameA_eq {a : AV} {m : MV} (h : Rel a m) (hn : a ≠ .any) : nameA a = nameOf m := by
  cases a with
  | any => exact absurd rfl hn
  | blk _ _ _ => cases h
  | sc _ => cases h; rfl
  | q _ _ => obtain ⟨rfl, _⟩ := h; rfl
  | cp _ => obtain ⟨_, _, rfl, _⟩ := h; rfl
  | arr _ _ _ _ => obtain ⟨rfl, _⟩ := h; rfl
  | row _ _ _ _ _ _ => cases h; rfl
  | ptr _ _ _ => cases h; rfl
  | pte _ _ _ _ _ => cases h; rfl
  | _ => obtain ⟨_, rfl, _⟩ := h; rfl

theorem rowCellsA_sound {en : Nat → Option EntA} {em : Nat → Option Ent} (hE : ∀ n, RelE (en n) (em n)) {x : AV} {m : MV} {k : Nat → List AV → Option R} {r : R} (h : rowCellsA en k x = some r) (hr : Rel x m) :
    ∃ n cs ms, srcCells em m = some (n, ms) ∧ RelC cs ms ∧ k n cs = some r ∧ x ≠ .any := by
  unfold rowCellsA at h
  split at h
  · cases hr; exact ⟨_, _, _, rfl, relC_lift _, h, by simp⟩
  · obtain ⟨ms, rfl, h1⟩ := hr; exact ⟨_, _, ms, rfl, h1, h, by simp⟩
  · rename_i c sh n F; obtain ⟨rfl, h1⟩ := hr; exact ⟨n, [.blk sh n F], _, rfl, ⟨[], by simp, h1, rfl⟩, h, by simp⟩
  · rename_i nm g off len cap sz
    cases hr
    split at h
    · rename_i e he
      have hx := hE nm
      rw [he] at hx
      obtain ⟨x, hx1, hx2, hx3, hx4⟩ := hx
      split at h
      · rename_i hg
        split at h
        · rename_i sh n F hc
          obtain ⟨⟨h1, h2⟩, hk⟩ := gdK_dec h
          obtain ⟨h3, hk⟩ := gdK_dec hk
          subst h1 h2 h3
          have hx4 := mergeC_rel hx4
          rw [hc] at hx4
          have hlen := relC_len hx4
          simp only [lenA, Nat.add_zero] at hlen
          refine ⟨_, _, x.cells, ?_, hx4, hk, by simp⟩
          simp only [srcCells, rowCells, hx1, ← hx2]
          rw [if_pos ⟨hg, by omega⟩, List.drop_zero, ← hlen, List.take_length]
        · split at h
          · rename_i cs hd
            obtain ⟨ds, hd1, hd2⟩ := Option.bind_eq_some_iff.1 hd
            obtain ⟨h5, h6⟩ := dropW_rel _ hd1 hx4
            obtain ⟨h7, h8⟩ := takeW_rel _ hd2 h6
            rw [List.length_drop] at h7
            refine ⟨_, _, _, ?_, h8, h, by simp⟩
            simp only [srcCells, rowCells, hx1, ← hx2]
            rw [if_pos ⟨hg, by omega⟩]
          · cases h
      · cases h
    · cases h
  · cases h

theorem appendA_sound {P : Program} {d g : Nat} {en : Nat → Option EntA} {em : Nat → Option Ent} (hE : ∀ n, RelE (en n) (em n)) {elem : TypeId} {s x : AV} {ms mx : MV} {k : ResA → Option R} {r : R}
    (h : appendA P d g en elem s x k = some r) (hs : Rel s ms) (hx : Rel x mx) : ∃ a b, evalAppend P d g em elem ms mx = some b ∧ RelR a b ∧ k a = some r := by
  unfold appendA at h
  split at h
  · rename_i sz by_ z e1 e2 e3
    split at h
    · cases h
    · rename_i hz
      simp only [not_or, Decidable.not_not, Nat.not_lt] at hz
      obtain ⟨z1, z2, z3, z4⟩ := hz
      obtain ⟨n, new, mn, h1, h2, h3, hne⟩ := rowCellsA_sound hE h hx
      have hname := nameA_eq hx hne
      split at h3
      · rename_i hok
        have hok2 := cells_ok hok h2
        obtain ⟨hl, h4⟩ := gdK_dec h3
        have hl2 : mn.length = n * sz := by rw [relC_len h2]; exact hl
        have cond : ¬ (mn.length ≠ n * sz ∨ mn.all cellOk = false ∨ z.length ≠ sz ∨ sz = 0 ∨ by_ = 0 ∨ by_ > 65536) := by
          intro h
          rcases h with h | h | h | h | h | h
          · exact h hl2
          · rw [hok2] at h; cases h
          · exact h z1
          · exact z2 h
          · exact z3 h
          · omega
        split at h4
        · rename_i len c cs
          obtain ⟨ms', rfl, h5⟩ := hs
          have h6 := brK_some h4
          by_cases hc : c < len + n
          · rw [decide_eq_true hc] at h6
            obtain ⟨⟨h7, h8⟩, h9⟩ := gdK_dec h6
            refine ⟨_, { val := .row d g 0 (len + n) none sz, upd := [(d, some ⟨g, ms' ++ mn, false⟩)], rd := nameOf mx }, ?_, ?_, h9⟩
            case refine_2 => exact ⟨rfl, ⟨_, [], rfl, ⟨_, rfl, rfl, rfl, relC_append h5 h2⟩, rfl⟩, rfl, hname⟩
            simp only [evalAppend, e1, e2, e3, h1, if_neg cond]
            rw [if_pos ⟨hc, by rw [relC_len h5]; exact h7, h8⟩]
          · rw [decide_eq_false hc] at h6
            simp only [Bool.false_eq_true, if_false] at h6
            obtain ⟨h7, h9⟩ := gdK_dec h6
            refine ⟨_, { val := .fs 0 (some c) [], rd := nameOf mx }, ?_, ?_, h9⟩
            case refine_2 => exact ⟨⟨[], rfl, rfl⟩, rfl, rfl, hname⟩
            simp only [evalAppend, e1, e2, e3, h1, if_neg cond]
            rw [if_neg (fun h => hc h.1), if_pos h7]
        · rename_i nm g' off len cap sz'
          cases hs
          split at h4
          · rename_i e he
            have hx := hE nm
            rw [he] at hx
            obtain ⟨y, hx1, hx2, hx3, hx4⟩ := hx
            split at h4
            · rename_i ds hd
              obtain ⟨⟨g1, g2, g3, g4, g7⟩, h9⟩ := gdK_dec h4
              obtain ⟨⟨g5, g6⟩, h9⟩ := gdK_dec h9
              obtain ⟨_, h10⟩ := dropW_rel _ hd hx4
              refine ⟨_, { val := .row d g 0 (len + n) (capIn cap (len + n)) sz, upd := [(nm, none), (d, some ⟨g, y.cells.drop off ++ mn, false⟩)], rd := nm :: nameOf mx }, ?_, ?_, h9⟩
              case refine_2 => exact ⟨rfl, ⟨none, _, rfl, trivial, _, [], rfl, ⟨_, rfl, rfl, rfl, relC_append h10 h2⟩, rfl⟩, rfl, by rw [← hname]⟩
              simp only [evalAppend, e1, e2, e3, h1, if_neg cond, hx1]
              rw [if_pos ⟨by rw [← hx2]; exact g1, g2, by rw [← hx3]; exact g3, g4, by rw [relC_len hx4]; exact g5, g6, by rw [← hname]; exact g7⟩]
            · cases h4
          · cases h4
        · cases h4
      · cases h3
  · cases h

def RelO : Option AV → Option MV → Prop
  | none, none => True
  | some a, some b => Rel a b
  | _, _ => False
theorem bdK_sound {len d : Nat} {x : Option AV} {m : Option MV} {k : Nat → Option R} {r : R} (h : bdK len x d k = some r) (hx : RelO x m) : ∃ i, bound len m d = some i ∧ k i = some r := by
  unfold bdK at h
  split at h
  · cases m with
    | none => exact ⟨d, rfl, h⟩
    | some _ => cases hx
  · rename_i kk i
    obtain ⟨h1, h2⟩ := gdK_dec h
    cases m with
    | none => cases hx
    | some b => cases hx; exact ⟨_, by simp only [bound, intOf?, if_pos h1], h2⟩
  · cases h
theorem el1_shift (F : Fam) (l i : Nat) : ∀ (sh : List Kd) (j : Nat), (F.shift l).el1 i j sh = F.el1 (l + i) j sh
  | [], _ => rfl
  | .i k :: r, j => by rw [Fam.el1, Fam.el1, el1_shift F l i r]; rfl
  | .b :: r, j => by rw [Fam.el1, Fam.el1, el1_shift F l i r]; rfl
  | .q K :: r, j => by rw [Fam.el1, Fam.el1, el1_shift F l i r]; rfl
theorem el_shift (F : Fam) (l : Nat) (sh : List Kd) : (F.shift l).el sh = fun i => F.el sh (l + i) := funext fun i => el1_shift F l i sh 0
theorem slOfA_sound {sz l h : Nat} {cap : Option Nat} {x : AV} {m : MV} {k : ResA → Option R} {r : R} (hh : slOfA sz x l h cap k = some r) (hr : Rel x m) : ∃ a b, sliceOf sz m l h cap = some b ∧ RelR a b ∧ k a = some r := by
  unfold slOfA at hh
  split at hh
  · rename_i c' sh n F
    obtain ⟨h0, h3⟩ := gdK_dec hh
    obtain ⟨⟨h1, h2⟩, h3⟩ := gdK_dec h3
    subst h0
    obtain ⟨rfl, hb⟩ := hr
    refine ⟨_, _, rfl, ?_, h3⟩
    refine ⟨⟨?_, fun i hi => by rw [el_shift]; exact hb (l + i) (by omega)⟩, rfl, rfl, rfl⟩
    rw [blkC_slice hb h1 h2, el_shift]
  · obtain ⟨ms, rfl, h1⟩ := hr
    split at hh
    · rename_i ds hd
      obtain ⟨d1, hd1, hd2⟩ := Option.bind_eq_some_iff.1 hd
      obtain ⟨_, h6⟩ := dropW_rel _ hd1 h1
      obtain ⟨_, h8⟩ := takeW_rel _ hd2 h6
      refine ⟨_, _, rfl, ?_, hh⟩
      exact ⟨⟨_, rfl, h8⟩, rfl, rfl, rfl⟩
    · cases hh
  · cases hr
    split at hh
    · rename_i hsz
      have h1 := brK_some hh
      refine ⟨_, _, by simp only [sliceOf, if_pos hsz]; rfl, ?_, h1⟩
      refine ⟨?_, rfl, rfl, rfl⟩
      by_cases hl : h = l
      · simp only [hl, decide_true, if_true]; exact ⟨[], rfl, rfl⟩
      · simp only [hl, decide_false, Bool.false_eq_true, if_false]; rfl
    · cases hh
  · cases hh
theorem slParts_eq {a : AV} {m : MV} {x : Nat × Option Nat} (h : slPartsA a = some x) (hr : Rel a m) : sliceParts m = some x := by
  cases a with
  | fs _ _ _ => obtain ⟨ms, rfl, _⟩ := hr; exact h
  | arr _ _ _ _ => obtain ⟨rfl, _⟩ := hr; exact h
  | row _ _ _ _ _ _ => cases hr; exact h
  | _ => cases h
theorem fillA_sound {place : Nat → Option (Nat × Nat)} : ∀ {l : List (Nat × AV)} {cells cs : List AV} {ms : List MV} {lm : List (Nat × MV)}, fillA place cells l = some cs → RelC cells ms → (l.map (·.1) = lm.map (·.1) ∧ RelT (l.map (·.2)) (lm.map (·.2))) → ∃ cm, fillM place ms lm = some cm ∧ RelC cs cm
  | [], cells, cs, ms, lm, h, hc, ⟨h1, h2⟩ => by
    cases h
    cases lm with
    | nil => exact ⟨ms, rfl, hc⟩
    | cons _ _ => cases h2
  | (i, v) :: rest, cells, cs, ms, lm, h, hc, ⟨h1, h2⟩ => by
    cases lm with
    | nil => cases h1
    | cons y lm =>
      obtain ⟨j, m⟩ := y
      simp only [List.map_cons, List.cons.injEq] at h1 h2
      obtain ⟨rfl, h1⟩ := h1
      obtain ⟨m', r', e, hv, h3⟩ := h2
      cases e
      simp only [fillA] at h
      split at h
      · cases h
      · rename_i off size hp
        split at h
        · rename_i vs hvs
          obtain ⟨xs, h4, h5⟩ := cellsA_rel hvs hv
          split at h
          · rename_i hsz
            split at h
            · rename_i ds hd
              obtain ⟨h6, h7⟩ := putW_rel hd hc h5
              obtain ⟨cm, h8, h9⟩ := fillA_sound h h7 ⟨h1, h3⟩
              refine ⟨cm, ?_, h9⟩
              have hl : xs.length = size := by rw [relC_len h5]; exact hsz
              simp only [fillM, hp, h4]
              rw [if_neg (by omega)]
              exact h8
            · cases h
          · cases h
        · cases h
end Go.Proofs.YtkeelkeoijemiaaGreat.Ev

namespace Go.Proofs.YtkeelkeoijemiaaGreat.Ev
open Go Go.RowKit
set_option linter.unusedVariables false
set_option linter.unusedSimpArgs false

variable {R : Type} {P : Program} {T : Tab} {S : CTab R}

theorem ent_rel {st : StA} {m : St} (h : RelSt st m) (n : Nat) : RelE (st.ent n) (m.ent n) := relEs_get n h.2.1
theorem slot_rel {st : StA} {m : St} (h : RelSt st m) (t : Nat) : Rel (st.slot t) (m.slot t) := by
  unfold StA.slot St.slot
  rw [List.getD_eq_getElem?_getD, List.getD_eq_getElem?_getD]
  rcases relT_get t h.1 with ⟨h1, h2⟩ | ⟨a, x, h1, h2, h3⟩
  · rw [h1, h2]; rfl
  · rw [h1, h2]; exact h3
theorem ev_rel {st : StA} {m : St} (h : RelSt st m) (x : Operand) : Rel (st.ev x) (m.ev x) := by
  cases x with
  | tmp t => exact slot_rel h t
  | const v => exact rel_lift _
  | global g => rfl
  | func f => exact ⟨[], rfl, rfl⟩

theorem pureA_sound {o : Oper} {st : StA} {m : St} {k : ResA → Option R} {r : R} (hst : RelSt st m) (hs : ∀ cs b, o.op ≠ .select cs b) (h : pureA P o st k = some r) : ∃ a b, (pureOp P o m.ev).map (fun v => ({ val := v } : Res)) = some b ∧ RelR a b ∧ k a = some r := by
  unfold pureA at h
  split at h
  · rename_i hall
    split at h
    · rename_i v hv
      have he : ∀ x ∈ o.op.operands, lowEv st x = m.ev x := by
        intro x hx
        have h1 := List.all_eq_true.1 hall x (by simpa using hx)
        obtain ⟨l, hl⟩ := Option.isSome_iff_exists.1 h1
        rw [lowEv, hl]
        exact (lowA_eq hl (ev_rel hst x)).symm
      rw [pureOp_frame hs he] at hv
      refine ⟨_, { val := v }, by rw [hv]; rfl, ?_, h⟩
      exact ⟨rel_lift v, rfl, rfl, rfl⟩
    · cases h
  · cases h

theorem parts_rel {st : StA} {m : St} (h : RelSt st m) (l : List (Nat × Operand)) : ((l.map fun p => (p.1, st.ev p.2)).map (·.1) = (l.map fun p => (p.1, m.ev p.2)).map (·.1)) ∧ RelT ((l.map fun p => (p.1, st.ev p.2)).map (·.2)) ((l.map fun p => (p.1, m.ev p.2)).map (·.2)) := by
  refine ⟨by simp, ?_⟩
  rw [List.map_map, List.map_map]
  exact relT_map fun x _ => ev_rel h x.2

theorem behindA_rel {en : Nat → Option EntA} {em : Nat → Option Ent} (hE : ∀ n, RelE (en n) (em n)) {a : AV} {m : MV} {cs : List AV} (h : behindA en a = some cs) (hr : Rel a m) : ∃ ms r, behind em m = some (ms ++ r) ∧ RelC cs ms ∧ nameA a = nameOf m := by
  unfold behindA at h
  split at h
  · cases h
    obtain ⟨ms, r, rfl, h1⟩ := hr
    exact ⟨ms, r, rfl, h1, rfl⟩
  · cases hr
    split at h
    · rename_i nm g off x0 e he
      have hx := hE nm
      rw [he] at hx
      obtain ⟨x, hx1, hx2, hx3, hx4⟩ := hx
      split at h
      · rename_i hg
        obtain ⟨_, h6⟩ := dropW_rel _ h hx4
        exact ⟨_, [], by simp only [behind, hx1, ← hx2, if_pos hg, List.append_nil], h6, rfl⟩
      · cases h
    · cases h
  · cases h

/-- One result, as told. -/
theorem done {a : ResA} {b : Res} {k : ResA → Option R} {r : R} {e : Option Res} (h : k a = some r) (he : e = some b) (hr : RelR a b) : ∃ a b, e = some b ∧ RelR a b ∧ k a = some r := ⟨a, b, he, hr, h⟩

set_option maxHeartbeats 1000000 in
theorem opA_sound (hS : SOK S T) {o : Oper} {g : Nat} {st : StA} {m : St} {k : ResA → Option R} {r : R} (hst : RelSt st m) (h : opA P S T.io o g st k = some r) : ∃ a b, evalOp P T o g m = some b ∧ RelR a b ∧ k a = some r := by
  have hev := ev_rel hst
  have hE : ∀ n, RelE (st.ent n) (m.ent n) := ent_rel hst
  unfold opA at h
  split at h
  · rename_i x ho; refine done h (by simp only [evalOp, ho]; rfl) ?_; exact ⟨hev x, rfl, rfl, rfl⟩
  · rename_i x ho; refine done h (by simp only [evalOp, ho]; rfl) ?_; exact ⟨hev x, rfl, rfl, rfl⟩
  · rename_i c a b ho
    split at h
    · rename_i t hc
      have h1 := hev c
      rw [hc] at h1
      refine done (brK_some h) (by simp only [evalOp, ho, show m.ev c = .sc (.bool t) from h1]; rfl) ?_; refine ⟨?_, rfl, rfl, rfl⟩
      cases t
      · exact hev b
      · exact hev a
    · cases h
  · rename_i t ho
    split at h
    · rename_i d z h1 h2
      refine done h (by simp only [evalOp, ho, h1, h2]; rfl) ?_; exact ⟨rfl, ⟨_, [], rfl, ⟨_, rfl, rfl, rfl, relC_lift _⟩, rfl⟩, rfl, rfl⟩
    · cases h
  · rename_i t x ho
    split at h
    · rename_i d cs h1 h2
      obtain ⟨ms, h3, h4⟩ := cellsA_rel h2 (hev x)
      refine done h (by simp only [evalOp, ho, h1, h3]; rfl) ?_; exact ⟨rfl, ⟨_, [], rfl, ⟨_, rfl, rfl, rfl, h4⟩, rfl⟩, rfl, rfl⟩
    · cases h
  · rename_i t a ho
    have h1 := hev a
    split at h
    · rename_i nm gen w i off ha
      rw [ha] at h1
      split at h
      · rename_i e he
        have hx := hE nm
        rw [he] at hx
        obtain ⟨x, hx1, hx2, hx3, hx4⟩ := hx
        split at h
        · rename_i sh n F hc
          obtain ⟨⟨h2, h0⟩, h4⟩ := gdK_dec h
          obtain ⟨h3, h4⟩ := gdK_dec h4
          subst h0
          rw [hc] at hx4
          obtain ⟨r', e1, hb, e2⟩ := hx4
          cases e2
          rw [List.append_nil] at e1
          split at h4
          · rename_i v hv
            obtain ⟨ds, hd, hv⟩ := Option.bind_eq_some_iff.1 hv
            obtain ⟨r2, hr2⟩ := blkC_from hb h3
            obtain ⟨h5, h6⟩ := dropW_rel off hd (leaf_rel (hb i h3).2)
            obtain ⟨mv, h7, h8⟩ := takeTA_rel (r := r2) hv h6
            have e3 : (x.cells.drop (i * kdW sh + off)) = (leavesC (F.el sh i)).drop off ++ r2 := by
              rw [← List.drop_drop, e1, hr2, List.drop_append_of_le_length h5]
            refine done h4 (b := { val := mv, rd := [nm] }) ?_ ⟨h8, rfl, rfl, rfl⟩
            simp only [evalOp, ho, show m.ev a = .ptr nm gen (i * kdW sh + off) from h1, behind, hx1, ← hx2, if_pos h2, e3, h7, nameOf]
          · cases h4
        · cases h
      · cases h
    · split at h
      · rename_i v hv
        obtain ⟨cs, hb, hv⟩ := Option.bind_eq_some_iff.1 hv
        obtain ⟨ms, r', h2, h3, h4⟩ := behindA_rel hE hb h1
        obtain ⟨mv, h7, h8⟩ := takeTA_rel (r := r') hv h3
        exact done h (b := { val := mv, rd := nameOf (m.ev a) }) (by simp only [evalOp, ho, h2, h7]) ⟨h8, rfl, rfl, h4⟩
      · cases h
  · rename_i t a x ho
    split at h
    · rename_i nm gen off n cs ha hn hc
      have h1 := hev a
      rw [ha] at h1
      obtain ⟨ms, h3, h4⟩ := cellsA_rel hc (hev x)
      split at h
      · rename_i e he
        have hx := hE nm
        rw [he] at hx
        obtain ⟨y, hx1, hx2, hx3, hx4⟩ := hx
        split at h
        · rename_i hg
          split at h
          · rename_i ds hd
            obtain ⟨h5, h6⟩ := putW_rel hd hx4 h4
            have hl := relC_len h4
            refine done h (b := { val := undefM, upd := [(nm, some { y with cells := putCells y.cells off ms })], rd := [nm] }) ?_ ⟨rfl, ⟨_, [], rfl, ⟨_, rfl, hx2, hx3, h6⟩, rfl⟩, rfl, rfl⟩
            simp only [evalOp, ho, show m.ev a = .ptr nm gen off from h1, hn, h3, hx1, ← hx2, ← hx3]
            rw [if_pos ⟨hg.1, hg.2.1, by rw [hl]; exact hg.2.2, by rw [← hg.2.2, ← hl]; exact h5⟩]
          · cases h
        · cases h
      · cases h
    · cases h
  · rename_i x ho
    have h1 := hev x
    split at h
    · rename_i hx; rw [hx] at h1; refine done h (by simp only [evalOp, ho, show m.ev x = _ from h1]; rfl) ?_; exact ⟨rfl, rfl, rfl, rfl⟩
    · rename_i hx; rw [hx] at h1; refine done h (by simp only [evalOp, ho, show m.ev x = _ from h1]; rfl) ?_; exact ⟨rfl, rfl, rfl, rfl⟩
    · rename_i hx; rw [hx] at h1; obtain ⟨ms, r', e, h2⟩ := h1; refine done h (by simp only [evalOp, ho, e]; rfl) ?_; exact ⟨⟨ms, r', rfl, h2⟩, rfl, rfl, rfl⟩
    · rename_i hx; rw [hx] at h1; obtain ⟨ms, e, h2⟩ := h1; refine done h (by simp only [evalOp, ho, e]; rfl) ?_; exact ⟨⟨ms, rfl, h2⟩, rfl, rfl, rfl⟩
    · cases h
  · rename_i ty x y p ho
    split at h
    · rename_i kk a kk' b h1 h2
      split at h
      · rename_i hk
        subst hk
        obtain ⟨hb0, h⟩ := gdK_dec h
        have e1 := hev x
        have e2 := hev y
        rw [h1] at e1
        rw [h2] at e2
        refine done h (b := { val := .sc (.int kk (kk.wrap (a.tdiv b))) }) ?_ ⟨rfl, rfl, rfl, rfl⟩
        simp only [evalOp, ho]
        simp [pureOp, eqOp, ho, Op.operands, show m.ev x = _ from e1, show m.ev y = _ from e2, toVal, execOp, eqGuard, binOp, Go.Op.intDiv, hb0]
        rfl
      · cases h
    · cases h
  · rename_i ty x y p ho
    split at h
    · rename_i kk a kk' b h1 h2
      split at h
      · rename_i hk
        subst hk
        obtain ⟨hb0, h⟩ := gdK_dec h
        have e1 := hev x
        have e2 := hev y
        rw [h1] at e1
        rw [h2] at e2
        refine done h (b := { val := .sc (.int kk (a.tmod b)) }) ?_ ⟨rfl, rfl, rfl, rfl⟩
        simp only [evalOp, ho]
        simp [pureOp, eqOp, ho, Op.operands, show m.ev x = _ from e1, show m.ev y = _ from e2, toVal, execOp, eqGuard, binOp, Go.Op.intDiv, hb0]
        rfl
      · cases h
    · cases h
  · rename_i ho
    obtain ⟨a, b, h1, h2, h3⟩ := pureA_sound hst (by rw [ho]; intro _ _ h; cases h) h
    exact ⟨a, b, by simp only [evalOp, ho]; exact h1, h2, h3⟩
  · rename_i ho
    obtain ⟨a, b, h1, h2, h3⟩ := pureA_sound hst (by rw [ho]; intro _ _ h; cases h) h
    exact ⟨a, b, by simp only [evalOp, ho]; exact h1, h2, h3⟩
  · rename_i ho
    obtain ⟨a, b, h1, h2, h3⟩ := pureA_sound hst (by rw [ho]; intro _ _ h; cases h) h
    exact ⟨a, b, by simp only [evalOp, ho]; exact h1, h2, h3⟩
  · rename_i ho
    obtain ⟨a, b, h1, h2, h3⟩ := pureA_sound hst (by rw [ho]; intro _ _ h; cases h) h
    exact ⟨a, b, by simp only [evalOp, ho]; exact h1, h2, h3⟩
  · rename_i s x f ho
    have h1 := hev x
    split at h
    · rename_i fields hu
      split at h
      · rename_i fd hf
        split at h
        · rename_i n nm gen off hn hx
          rw [hx] at h1
          refine done h (by simp only [evalOp, ho, hu, hf, hn, show m.ev x = _ from h1]; rfl) ?_; exact ⟨rfl, rfl, rfl, rfl⟩
        · rename_i n nm gen w i off hn hx
          rw [hx] at h1
          refine done h (by simp only [evalOp, ho, hu, hf, hn, show m.ev x = _ from h1]; rfl) ?_; exact ⟨by rw [Nat.add_assoc]; rfl, rfl, rfl, rfl⟩
        · rename_i n cs hn hx
          rw [hx] at h1
          obtain ⟨ms, r', e, h2⟩ := h1
          split at h
          · rename_i ds hd
            obtain ⟨h5, h6⟩ := dropW_rel _ hd h2
            refine done h (by simp only [evalOp, ho, hu, hf, hn, e]; rfl) ?_; exact ⟨⟨_, r', by rw [List.drop_append_of_le_length h5], h6⟩, rfl, rfl, rfl⟩
          · cases h
        · cases h
      · cases h
    · cases h
  · rename_i s x f ho
    have h1 := hev x
    split at h
    · rename_i fields hu
      split at h
      · rename_i fd cs hf hx
        rw [hx] at h1
        obtain ⟨ms, e, h2⟩ := h1
        split at h
        · rename_i v hv
          obtain ⟨ds, hd, hv⟩ := Option.bind_eq_some_iff.1 hv
          obtain ⟨h5, h6⟩ := dropW_rel _ hd h2
          obtain ⟨mv, h7, h8⟩ := takeTA_rel (r := []) hv h6
          rw [List.append_nil] at h7
          refine done h (by simp only [evalOp, ho, hu, hf, e, h7]; rfl) ?_; exact ⟨h8, rfl, rfl, rfl⟩
        · cases h
      · cases h
    · cases h
  · rename_i t x i ho
    have h1 := hev x
    have h2 := hev i
    split at h
    · rename_i e kk n hu hi
      rw [hi] at h2
      have hi2 : intOf? (m.ev i) = some n := by rw [show m.ev i = _ from h2]; rfl
      split at h
      · rename_i sz c sh mm F hs hx
        rw [hx] at h1
        obtain ⟨⟨h0, h5⟩, hk⟩ := gdK_dec h
        obtain ⟨⟨h3, h4⟩, hk⟩ := gdK_dec hk
        subst h0
        obtain ⟨e1, hb⟩ := h1
        have h6 : n.toNat < mm := by omega
        obtain ⟨r2, hr2⟩ := blkC_from hb h6
        have hne : blkC (F.el sh) mm ≠ [] := by
          intro hnil
          have := congrArg List.length hnil
          rw [blkC_len hb] at this
          have h7 : 0 < mm * kdW sh := Nat.mul_pos (by omega) h5
          simp at this
          omega
        refine done hk (b := { val := .cp ((blkC (F.el sh) mm).drop (n.toNat * kdW sh)) }) ?_ ⟨⟨_, r2, by rw [hr2], leaf_rel (hb _ h6).2⟩, rfl, rfl, rfl⟩
        simp only [evalOp, ho, hu, hi2, hs, e1]
        rw [if_pos ⟨h3, h4, hne⟩]
      · rename_i sz len c cs hs hx
        rw [hx] at h1
        obtain ⟨⟨h3, h4⟩, h⟩ := gdK_dec h
        obtain ⟨ms, e1, h5⟩ := h1
        split at h
        · rename_i ds hd
          obtain ⟨hpos, h⟩ := gdK_dec h
          obtain ⟨h6, h7⟩ := dropW_rel _ hd h5
          have hne : ms ≠ [] := by
            intro hnil
            have := relC_len h7
            rw [hnil] at this
            simp at this
            omega
          refine done h (b := { val := .cp (ms.drop (n.toNat * sz)) }) ?_ ⟨⟨_, [], by simp, h7⟩, rfl, rfl, rfl⟩
          simp only [evalOp, ho, hu, hi2, hs, e1]
          rw [if_pos ⟨h3, h4, hne⟩]
        · cases h
      · rename_i sz nm gen off len c sz' hs hx
        rw [hx] at h1
        split at h
        · rename_i hsz
          obtain ⟨⟨h3, h4⟩, h⟩ := gdK_dec h
          have hm : evalOp P T o g m = some { val := .ptr nm gen (off + n.toNat * sz) } := by
            simp only [evalOp, ho, hu, hi2, hs, show m.ev x = _ from h1]
            rw [if_pos ⟨h3, h4, hsz⟩]
          split at h
          · rename_i e he
            split at h
            · obtain ⟨⟨hw, h0⟩, hk⟩ := gdK_dec h
              subst hw h0
              exact done hk hm ⟨by show MV.ptr _ _ _ = MV.ptr _ _ _; rw [Nat.add_zero, Nat.zero_add], rfl, rfl, rfl⟩
            · exact done h hm ⟨rfl, rfl, rfl, rfl⟩
          · cases h
        · cases h
      · cases h
    · rename_i len e kk n hu hi
      rw [hi] at h2
      have hi2 : intOf? (m.ev i) = some n := by rw [show m.ev i = _ from h2]; rfl
      split at h
      · rename_i sz nm gen off hs hx
        rw [hx] at h1
        obtain ⟨⟨h3, h4⟩, h⟩ := gdK_dec h
        refine done h (b := { val := .ptr nm gen (off + n.toNat * sz) }) ?_ ⟨rfl, rfl, rfl, rfl⟩
        simp only [evalOp, ho, hu, hi2, hs, show m.ev x = _ from h1]
        rw [if_pos ⟨h3, h4⟩]
      · rename_i sz cs hs hx
        rw [hx] at h1
        obtain ⟨⟨h3, h4⟩, h⟩ := gdK_dec h
        obtain ⟨ms, r', e1, h5⟩ := h1
        split at h
        · rename_i ds hd
          obtain ⟨h6, h7⟩ := dropW_rel _ hd h5
          refine done h (b := { val := .cp ((ms ++ r').drop (n.toNat * sz)) }) ?_ ⟨⟨_, r', by rw [List.drop_append_of_le_length h6], h7⟩, rfl, rfl, rfl⟩
          simp only [evalOp, ho, hu, hi2, hs, e1]
          rw [if_pos ⟨h3, h4⟩]
        · cases h
      · cases h
    · cases h
  · rename_i t parts ho
    split at h
    · rename_i fields z hu hz
      split at h
      · rename_i pl hp
        split at h
        · rename_i cs hc
          obtain ⟨cm, h1, h2⟩ := fillA_sound hc (relC_lift _) (parts_rel hst parts.toList)
          refine done h (by simp only [evalOp, ho, hu, hz, hp, h1]; rfl) ?_; exact ⟨mkAgg_rel h2, rfl, rfl, rfl⟩
        · cases h
      · cases h
    · rename_i len e z hu hz
      split at h
      · rename_i sz hs
        split at h
        · rename_i cs hc
          obtain ⟨cm, h1, h2⟩ := fillA_sound hc (relC_lift _) (parts_rel hst parts.toList)
          refine done h (by simp only [evalOp, ho, hu, hz, hs, h1]; rfl) ?_; exact ⟨mkAgg_rel h2, rfl, rfl, rfl⟩
        · cases h
      · cases h
    · cases h
  · rename_i t len parts ho
    split at h
    · rename_i e d h1 h2
      split at h
      · rename_i sz z h3 h4
        split at h
        · rename_i hz
          split at h
          · rename_i cs hc
            obtain ⟨cm, h5, h6⟩ := fillA_sound hc (relC_lift _) (parts_rel hst parts.toList)
            refine done h (by simp only [evalOp, ho, h1, h2, h3, h4]; rw [if_pos hz, h5]; rfl) ?_; exact ⟨rfl, ⟨_, [], rfl, ⟨_, rfl, rfl, rfl, h6⟩, rfl⟩, rfl, rfl⟩
          · cases h
        · cases h
      · cases h
    · cases h
  · rename_i t l c ho
    split at h
    · rename_i e d k1 ln k2 cn h1 h2 h3 h4
      have e1 := hev l
      have e2 := hev c
      rw [h3] at e1
      rw [h4] at e2
      have i1 : intOf? (m.ev l) = some ln := by rw [show m.ev l = _ from e1]; rfl
      have i2 : intOf? (m.ev c) = some cn := by rw [show m.ev c = _ from e2]; rfl
      split at h
      · rename_i sz z by_ h5 h6 h7
        split at h
        · rename_i sh F hv
          split at h
          · rename_i hsz
            subst hsz
            obtain ⟨h8, h⟩ := gdK_dec h
            have hz : ∃ v, cv1 z = .sc v ∧ (F.el sh = fun _ => [Leaf.v v]) ∧ cellOk (.sc v) = true ∧ kdW sh = 1 := by
              unfold blk1 at hv
              split at hv
              · cases hv; exact ⟨_, rfl, rfl, rfl, rfl⟩
              · cases hv; exact ⟨_, rfl, rfl, rfl, rfl⟩
              · cases hv
            obtain ⟨v, hv1, hv2, h9, hw⟩ := hz
            have hrep : ∀ n : Nat, repCells ([z].map cv1) n = blkC (fun _ => [Leaf.v v]) n := by
              intro n
              induction n with
              | zero => rfl
              | succ n ih =>
                have comm : ∀ n, blkC (fun _ => [Leaf.v v]) n ++ [MV.sc v] = MV.sc v :: blkC (fun _ => [Leaf.v v]) n := by
                  intro n
                  induction n with
                  | zero => rfl
                  | succ n ih => rw [blkC, List.append_assoc]; show blkC _ n ++ ([MV.sc v] ++ [MV.sc v]) = _; rw [← List.append_assoc, ih]; rfl
                rw [repCells, ih, List.map_cons, List.map_nil, hv1, blkC]
                exact (comm n).symm
            refine done h (b := { val := .row d g 0 ln.toNat (some cn.toNat) 1, upd := [(d, some ⟨g, repCells ([z].map cv1) ln.toNat, false⟩)] }) ?_ ⟨rfl, ⟨_, [], rfl, ⟨_, rfl, rfl, rfl, [], by rw [hrep, List.append_nil, hv2], fun i _ => ⟨by rw [hv2, hw]; rfl, fun x hx => by rw [hv2] at hx; simp at hx; subst hx; exact h9⟩, rfl⟩, rfl⟩, rfl, rfl⟩
            simp only [evalOp, ho, h1, h2, i1, i2, h5, h6, h7]
            rw [if_pos ⟨rfl, by omega, h8⟩]
          · cases h
        · cases h
      · cases h
    · cases h
  · rename_i t x lo hi mx ho
    split at h
    · rename_i e hu
      split at h
      · cases h
      · rename_i hmx
        split at h
        · rename_i sz len cap hs hp
          have hp2 := slParts_eq hp (hev x)
          have opt : ∀ y : Option Operand, RelO (y.map st.ev) (y.map m.ev) := by
            intro y
            cases y with
            | none => trivial
            | some y => exact hev y
          obtain ⟨hh, b1, h⟩ := bdK_sound h (opt hi)
          obtain ⟨ll, b2, h⟩ := bdK_sound h (opt lo)
          cases mx with
          | none =>
            obtain ⟨a, b, h3, h4, h5⟩ := slOfA_sound h (hev x)
            exact ⟨a, b, by simp only [evalOp, ho, hu, if_neg hmx, hs, hp2, b1, b2, maxB, Option.map_none, Option.all_none, if_true]; exact h3, h4, h5⟩
          | some mm =>
            obtain ⟨mi, b3, h⟩ := bdK_sound (m := some (m.ev mm)) h (hev mm)
            obtain ⟨h6, h⟩ := gdK_dec h
            obtain ⟨a, b, h3, h4, h5⟩ := slOfA_sound h (hev x)
            refine ⟨a, b, ?_, h4, h5⟩
            simp only [evalOp, ho, hu, if_neg hmx, hs, hp2, b1, b2, maxB, Option.map_some, b3]
            rw [if_pos (by simp [h6])]
            exact h3
        · cases h
    · rename_i hu
      obtain ⟨a, b, h1, h2, h3⟩ := pureA_sound hst (by rw [ho]; intro _ _ h; cases h) h
      exact ⟨a, b, by simp only [evalOp, ho, hu]; exact h1, h2, h3⟩
    · cases h
  · rename_i x i ho
    have h1 := hev x
    split at h
    · rename_i vs hx
      rw [hx] at h1
      obtain ⟨ms, e1, h2⟩ := h1
      split at h
      · rename_i v hv
        rcases relT_get i h2 with ⟨h3, _⟩ | ⟨a, mv, h3, h4, h5⟩
        · rw [hv] at h3; cases h3
        · rw [hv] at h3; cases h3
          refine done h (by simp only [evalOp, ho, e1, h4]; rfl) ?_; exact ⟨h5, rfl, rfl, rfl⟩
      · cases h
    · cases h
  · rename_i f caps ho
    refine done h (by simp only [evalOp, ho]; rfl) ?_; exact ⟨⟨_, rfl, relT_map fun x _ => hev x⟩, rfl, rfl, rfl⟩
  · rename_i c ho
    split at h
    · rename_i hc
      split at h
      · rename_i x t ha ht
        split at h
        · rename_i e hu
          split at h
          · rename_i n cap hp
            have hp2 := slParts_eq hp (hev x)
            refine done h (b := { val := .sc (.int .i64 n) }) ?_ ⟨rfl, rfl, rfl, rfl⟩
            simp only [evalOp, ho, hc, ha, ht, hu]
            revert hp2
            cases m.ev x <;> simp [sliceParts, evalLen]
            · intro h1 h2; subst h1; rfl
            · intro h1 h2; subst h1; rfl
          · cases h
        · rename_i hu
          obtain ⟨a, b, h1, h2, h3⟩ := pureA_sound hst (by rw [ho]; intro _ _ h; cases h) h
          exact ⟨a, b, by simp only [evalOp, ho, hc, ha, ht, hu]; exact h1, h2, h3⟩
        · rename_i n e hu
          refine done h (by simp only [evalOp, ho, hc, ha, ht, hu]; rfl) ?_; exact ⟨rfl, rfl, rfl, rfl⟩
        · cases h
      · cases h
    · rename_i hc
      obtain ⟨a, b, h1, h2, h3⟩ := pureA_sound hst (by rw [ho]; intro _ _ h; cases h) h
      exact ⟨a, b, by simp only [evalOp, ho, hc]; exact h1, h2, h3⟩
    · rename_i hc
      obtain ⟨a, b, h1, h2, h3⟩ := pureA_sound hst (by rw [ho]; intro _ _ h; cases h) h
      exact ⟨a, b, by simp only [evalOp, ho, hc]; exact h1, h2, h3⟩
    · rename_i hc
      split at h
      · rename_i s x t t2 ts d ha ht hd
        split at h
        · rename_i e e2 h1 h2
          obtain ⟨a, b, h3, h4, h5⟩ := appendA_sound hE h (hev s) (hev x)
          exact ⟨a, b, by simp only [evalOp, ho, hc, ha, ht, hd, h1, h2]; exact h3, h4, h5⟩
        · rename_i e h1 h2
          obtain ⟨a, b, h3, h4, h5⟩ := appendA_sound hE h (hev s) (hev x)
          exact ⟨a, b, by simp only [evalOp, ho, hc, ha, ht, hd, h1, h2]; exact h3, h4, h5⟩
        · cases h
      · cases h
    · rename_i f hc
      split at h
      · rename_i f0 caps hf
        have h1 := hev f
        rw [hf] at h1
        obtain ⟨ms, e1, h2⟩ := h1
        obtain ⟨a, b, h3, h4, h5⟩ := callA_sound hS hE h (relT_append (relT_map fun x _ => hev x) h2)
        exact ⟨a, b, by simp only [evalOp, ho, hc, e1]; exact h3, h4, h5⟩
      · cases h
    · cases h
  · cases h
end Go.Proofs.YtkeelkeoijemiaaGreat.Ev

