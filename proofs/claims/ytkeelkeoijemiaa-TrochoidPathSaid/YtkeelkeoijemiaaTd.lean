/- What Same and the reference's Centers answer. -/
import Derived.Test.YtkeelkeoijemiaaTc
namespace Go.Proofs.Ytkeelkeoijemiaa.Ev
open Go Go.RowKit
set_option linter.unusedVariables false

def AllI (cs : List MV) : Prop := ∀ m ∈ cs, ∃ x, m = .sc (.int .i64 x)
theorem AllI.append {a b : List MV} (ha : AllI a) (hb : AllI b) : AllI (a ++ b) := fun x hx => (List.mem_append.1 hx).elim (ha x) (hb x)
theorem AllI.two (x y : Int) : AllI [.sc (.int .i64 x), .sc (.int .i64 y)] := fun m hm => by
  simp only [List.mem_cons, List.not_mem_nil, or_false] at hm
  rcases hm with rfl | rfl <;> exact ⟨_, rfl⟩
theorem pts_all (ax ay dx dy st : Int) : ∀ k, AllI (pts ax ay dx dy st k)
  | 0 => fun m hm => by cases hm
  | k + 1 => (pts_all ax ay dx dy st k).append (AllI.two _ _)
theorem AllI.pair {cs : List MV} (h : AllI cs) {k N : Nat} (hl : cs.length = N * 2) (hk : k < N) : ∃ x y, takeAs true 2 (cs.drop (k * 2)) = some (.agg [.sc (.int .i64 x), .sc (.int .i64 y)]) := by
  have hd : (cs.drop (k * 2)).length = (N - k) * 2 := by rw [List.length_drop, hl]; omega
  match hc : cs.drop (k * 2) with
  | [] => rw [hc] at hd; simp at hd; omega
  | [_] => rw [hc] at hd; simp at hd; omega
  | a :: b :: r =>
    obtain ⟨x, rfl⟩ := h a (List.mem_of_mem_drop (by rw [hc]; simp))
    obtain ⟨y, rfl⟩ := h b (List.mem_of_mem_drop (by rw [hc]; simp))
    exact ⟨x, y, by simp [takeAs]⟩

theorem c10 (n : Nat) {N : Nat} {cs : List MV} (hA : AllI cs) (hl : cs.length = N * 2) (hN : N < 999990) : (TT (n + 1)).call 10 [.fs N none cs, .fs N none cs] = some (.sc (.bool true), []) := by
  refine (deep_call rfl).trans ?_
  show evalBody Go.Proofs.Try.prog (TT n) FUEL (ioOf 10) 10 _ = _
  have hio := TT_io n
  have loop : ∃ o s', evalLoop (fun s => evalCode Go.Proofs.Try.prog (TT n) FUEL (bodyOf Go.Proofs.Try.prog 10 0) (normSt (scratch1 (bodyOf Go.Proofs.Try.prog 10 0)) s)) FUEL (I10 N N cs cs) = some (o, s') ∧
      (o = .exit 0 ∧ evalCode Go.Proofs.Try.prog (TT n) FUEL (bodyOf Go.Proofs.Try.prog 10 0) (L10 N N N cs cs N N) = some (.exit 0, s')) := by
    refine loop_inv (G := fun s => evalCode Go.Proofs.Try.prog (TT n) FUEL (bodyOf Go.Proofs.Try.prog 10 0) s) (nm := normSt (scratch1 (bodyOf Go.Proofs.Try.prog 10 0))) (fun k s => s = L10 N N k cs cs N N) _ N FUEL _ 0 ?_ ?_ ?_ (by unfold FUEL; omega)
    · rintro k s _ hk rfl
      have hk : k < N := by omega
      obtain ⟨x, y, hxy⟩ := hA.pair hl hk
      have hne : cs ≠ [] := by intro h; rw [h] at hl; simp at hl; omega
      refine ⟨_, r10_2 hio N N k cs cs N N x y x y (sc_b (decide_eq_true (by omega))) ⟨by omega, by omega, hne⟩ hxy ⟨by omega, by omega, hne⟩ hxy (sc_b (by simp)), ?_⟩
      exact n10 N N k cs cs N N x y x y (by rw [w64 (by omega)]; omega)
    · rintro s rfl
      have := r10_1 hio N N N cs cs N N (sc_b (decide_eq_false (by omega)))
      simp only [Nat.zero_add]
      exact ⟨_, _, this, by simp, rfl, this⟩
    · exact i10 N N cs cs
  obtain ⟨o, s', e1, rfl, e2⟩ := loop
  have := r10_1 hio N N N cs cs N N (sc_b (decide_eq_false (by omega)))
  rw [this] at e2
  cases e2
  exact p10_1_1 hio N N N cs cs N N (sc_b (by simp)) e1
end Go.Proofs.Ytkeelkeoijemiaa.Ev
