/- Capacities may be forgotten; and what a call without rows to write does to the world. -/
import Derived.Test.YtkeelkeoijemiaaEvT
namespace Go.Proofs.Ytkeelkeoijemiaa.Ev
open Go Go.RowKit

variable {P : Program} {w : World} {ok : Nat → Prop}

mutual
theorem VR_uncap {R : Nat → Nat → Option (Nat × Nat)} : ∀ (m : MV) (x : Value), VR w ok R m x → VR w ok R (uncap m) x
  | .sc _, _, h => h
  | .agg cs, _, ⟨vs, e, h⟩ => ⟨vs, e, VRs_uncap cs vs h⟩
  | .tup cs, _, ⟨vs, e, h⟩ => ⟨vs, e, VRs_uncap cs vs h⟩
  | .fn _ cs, _, ⟨vs, e, h⟩ => ⟨vs, e, VRs_uncap cs vs h⟩
  | .fs len cap cs, _, ⟨a, c, e, h1, h2, h⟩ => ⟨a, c, e, h1, fun k hk => (by cases hk), by
      rcases h with ⟨h3, h4, h5⟩ | ⟨b, o, vs, h3, h4, h5, h6⟩
      · exact .inl ⟨h3, by rw [h4]; rfl, h5⟩
      · exact .inr ⟨b, o, vs, h3, h4, h5, VRs_uncap cs vs h6⟩⟩
  | .cp cs, _, ⟨b, o, vs, e, hb, hc, hv⟩ => ⟨b, o, vs, e, hb, hc, VRs_uncap cs vs hv⟩
  | .row _ _ _ _ _ _, _, h => h
  | .ptr _ _ _, _, h => h
  | .any, _, _ => trivial
theorem VRs_uncap {R : Nat → Nat → Option (Nat × Nat)} : ∀ (ms : List MV) (vs : List Value), VRs w ok R ms vs → VRs w ok R (uncaps ms) vs
  | [], _, h => h
  | m :: ms, _, ⟨v, vt, e, h, hs⟩ => ⟨v, vt, e, VR_uncap m v h, VRs_uncap ms vt hs⟩
end

theorem ArgsR_uncap : ∀ (ms : List MV) (i : Nat) (vs : List Value) (ios : List IOw), ArgsR w ok [] i ms vs ios → ArgsR w ok [] i (uncaps ms) vs ios
  | [], _, _, _, h => h
  | m :: ms, i, _, ios, ⟨v, vt, e, h⟩ => by
    refine ⟨v, vt, e, ?_⟩
    simp only [List.contains_nil, Bool.false_eq_true, if_false] at h ⊢
    exact ⟨VR_uncap m v h.1, ArgsR_uncap ms (i + 1) vt ios h.2⟩

theorem CallOK.uncap {f : FuncId} {args : List MV} {r : MV} {o : List (List MV)} (h : CallOK P [] f (uncaps args) r o) : CallOK P [] f args r o :=
  ⟨h.1, fun w ok vs ios h1 h2 h3 => h.2 w ok vs ios h1 h2 (ArgsR_uncap args 0 vs ios h3)⟩

/-- A call by values alone that answers a plain value. -/
theorem CallOK.below {f : FuncId} {args : List MV} {r : Value} (h : CallOK P [] f args (.sc r) []) {W : World} {ok : Nat → Prop} {vs : List Value} (hok : ∀ b, ok b → b < W.heap.size) (ha : ArgsR W ok [] 0 args vs []) :
    Calls P f ⟨vs⟩ W fun e W' => e = .returned r ∧ Below W.heap.size W W' := by
  refine (h.2 W ok vs [] ⟨fun x hx => (by cases hx), fun x hx => (by cases hx), fun x hx => (by cases hx)⟩ hok ha).mono ?_
  rintro e W' ⟨x, rfl, hp⟩
  have hx : x = r := hp.res
  subst hx
  exact ⟨rfl, hp.os, hp.tape, hp.output, hp.size, fun k hk => hp.low k hk (fun y hy => by cases hy)⟩
end Go.Proofs.Ytkeelkeoijemiaa.Ev
