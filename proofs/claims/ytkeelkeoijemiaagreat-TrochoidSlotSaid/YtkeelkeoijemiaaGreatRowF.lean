/- The law TrochoidSlot holds for every input. -/
import Derived.Test.YtkeelkeoijemiaaGreatRows
import Derived.Test.YtkeelkeoijemiaaGreatEvR
set_option linter.unusedVariables false
set_option linter.unusedSimpArgs false
namespace Go.Proofs.YtkeelkeoijemiaaGreat.Ev
open Go Go.RowKit
theorem mixed : Go.Proofs.Tryz.prog.follows .mixedOrders = true := by kernel_rfl
theorem noNum : ∀ fn ∈ Go.Proofs.Tryz.prog.funcs, (fn.name == "runtime.NumGoroutine") = false := by
  have h : (Go.Proofs.Tryz.prog.funcs.toList.all fun fn => !(fn.name == "runtime.NumGoroutine")) = true := by kernel_rfl
  intro fn hfn
  have := List.all_eq_true.1 h fn (by simpa using hfn)
  simpa using this
theorem T0F_ok : TabOK PG T0F := fun _ _ _ _ h => by cases h
theorem TU_ok (n : Nat) : TabOK PG (TU n) := Tab.deepU_ok mixed noNum T0F_ok FUEL kpF n
end Go.Proofs.YtkeelkeoijemiaaGreat.Ev
namespace Go.Proofs.YtkeelkeoijemiaaGreat.trochoidSlot
open Go.ChangeShapes Go.WideShapes Go.ChangeAt Go.RowKit Go.Proofs.YtkeelkeoijemiaaGreat.Ev
open Go.ChangeMaps (open_string shut_string)
set_option linter.unusedVariables false
set_option maxRecDepth 100000
theorem own : ownKnob Tryz.prog.godebug = none := by kernel_rfl
theorem laidOut : laidOutB Tryz.prog = true := by kernel_rfl
theorem open0 {W : World} {base : Nat} {v : Value} (h : Value.okWide Tryz.prog W .any base 36 v) : ∃ x0 x1 x2 x3 x4 x5 x6 x7, v = .agg ⟨[.int .i64 x0, .int .i64 x1, .int .i64 x2, .int .i64 x3, .int .i64 x4, .int .i64 x5, .int .i64 x6, .int .i64 x7]⟩ ∧ In64 x0 ∧ In64 x1 ∧ In64 x2 ∧ In64 x3 ∧ In64 x4 ∧ In64 x5 ∧ In64 x6 ∧ In64 x7 := by
  obtain ⟨cs, rfl, hl, hcell⟩ := okWide_cells (n := 8) (ts := [2, 2, 2, 2, 2, 2, 2, 2]) (by kernel_rfl) h (by kernel_rfl) (by kernel_rfl)
  have e_i64 : ∀ (i : Nat) (x : Value), (i = 0 ∨ i = 1 ∨ i = 2 ∨ i = 3 ∨ i = 4 ∨ i = 5 ∨ i = 6 ∨ i = 7) → cs[i]? = some x → ∃ n, x = Value.int .i64 n ∧ In64 n := by
    intro i x hi hx
    obtain ⟨u, hu, hk⟩ := hcell i x hx
    have : u = 2 := by rcases hi with rfl | rfl | rfl | rfl | rfl | rfl | rfl | rfl <;> simpa using hu.symm
    subst this
    exact Go.Proofs.YtkeelkeoijemiaaGreat.Ev.okWide_int Tryz.underlying2 hk
  match cs, hl with
  | [x0, x1, x2, x3, x4, x5, x6, x7], _ =>
    obtain ⟨x0, rfl, hx0⟩ := e_i64 0 x0 (by simp) rfl
    obtain ⟨x1, rfl, hx1⟩ := e_i64 1 x1 (by simp) rfl
    obtain ⟨x2, rfl, hx2⟩ := e_i64 2 x2 (by simp) rfl
    obtain ⟨x3, rfl, hx3⟩ := e_i64 3 x3 (by simp) rfl
    obtain ⟨x4, rfl, hx4⟩ := e_i64 4 x4 (by simp) rfl
    obtain ⟨x5, rfl, hx5⟩ := e_i64 5 x5 (by simp) rfl
    obtain ⟨x6, rfl, hx6⟩ := e_i64 6 x6 (by simp) rfl
    obtain ⟨x7, rfl, hx7⟩ := e_i64 7 x7 (by simp) rfl
    exact ⟨x0, x1, x2, x3, x4, x5, x6, x7, rfl, hx0, hx1, hx2, hx3, hx4, hx5, hx6, hx7⟩
theorem open1 {W : World} {base : Nat} {v : Value} (h : Value.okWide Tryz.prog W .any base 23 v) : ∃ x8 x9, v = .agg ⟨[.int .i64 x8, .int .i64 x9]⟩ ∧ In64 x8 ∧ In64 x9 := by
  obtain ⟨cs, rfl, hl, hcell⟩ := okWide_cells (n := 2) (ts := [2, 2]) (by kernel_rfl) h (by kernel_rfl) (by kernel_rfl)
  have e_i64 : ∀ (i : Nat) (x : Value), (i = 0 ∨ i = 1) → cs[i]? = some x → ∃ n, x = Value.int .i64 n ∧ In64 n := by
    intro i x hi hx
    obtain ⟨u, hu, hk⟩ := hcell i x hx
    have : u = 2 := by rcases hi with rfl | rfl <;> simpa using hu.symm
    subst this
    exact Go.Proofs.YtkeelkeoijemiaaGreat.Ev.okWide_int Tryz.underlying2 hk
  match cs, hl with
  | [x8, x9], _ =>
    obtain ⟨x8, rfl, hx8⟩ := e_i64 0 x8 (by simp) rfl
    obtain ⟨x9, rfl, hx9⟩ := e_i64 1 x9 (by simp) rfl
    exact ⟨x8, x9, rfl, hx8, hx9⟩
theorem open2 {W : World} {base : Nat} {v : Value} (h : Value.okWide Tryz.prog W .any base 23 v) : ∃ x10 x11, v = .agg ⟨[.int .i64 x10, .int .i64 x11]⟩ ∧ In64 x10 ∧ In64 x11 := by
  obtain ⟨cs, rfl, hl, hcell⟩ := okWide_cells (n := 2) (ts := [2, 2]) (by kernel_rfl) h (by kernel_rfl) (by kernel_rfl)
  have e_i64 : ∀ (i : Nat) (x : Value), (i = 0 ∨ i = 1) → cs[i]? = some x → ∃ n, x = Value.int .i64 n ∧ In64 n := by
    intro i x hi hx
    obtain ⟨u, hu, hk⟩ := hcell i x hx
    have : u = 2 := by rcases hi with rfl | rfl <;> simpa using hu.symm
    subst this
    exact Go.Proofs.YtkeelkeoijemiaaGreat.Ev.okWide_int Tryz.underlying2 hk
  match cs, hl with
  | [x10, x11], _ =>
    obtain ⟨x10, rfl, hx10⟩ := e_i64 0 x10 (by simp) rfl
    obtain ⟨x11, rfl, hx11⟩ := e_i64 1 x11 (by simp) rfl
    exact ⟨x10, x11, rfl, hx10, hx11⟩
attribute [local irreducible] TU
/-- The walk. -/
theorem walk {W : World} {x0 : Int} {x1 : Int} {x2 : Int} {x3 : Int} {x4 : Int} {x5 : Int} {x6 : Int} {x7 : Int} {x8 : Int} {x9 : Int} {x10 : Int} {x11 : Int} (hx0 : In64 x0) (hx1 : In64 x1) (hx2 : In64 x2) (hx3 : In64 x3) (hx4 : In64 x4) (hx5 : In64 x5) (hx6 : In64 x6) (hx7 : In64 x7) (hx8 : In64 x8) (hx9 : In64 x9) (hx10 : In64 x10) (hx11 : In64 x11) :
    Calls Tryz.prog 4 #[.agg ⟨[.int .i64 x0, .int .i64 x1, .int .i64 x2, .int .i64 x3, .int .i64 x4, .int .i64 x5, .int .i64 x6, .int .i64 x7]⟩, .agg ⟨[.int .i64 x8, .int .i64 x9]⟩, .agg ⟨[.int .i64 x10, .int .i64 x11]⟩] W fun x W' => x = .returned (.bool true) ∧ Below W.heap.size W W' := by
  have h := TU_ok (nSlo) _ _ _ _ (callSlo (x0 := x0) (x1 := x1) (x2 := x2) (x3 := x3) (x4 := x4) (x5 := x5) (x6 := x6) (x7 := x7) (x8 := x8) (x9 := x9) (x10 := x10) (x11 := x11) hx0 hx1 hx2 hx3 hx4 hx5 hx6 hx7 hx8 hx9 hx10 hx11)
  rw [(TU_io _).1] at h
  exact CallOK.below (ok := fun _ => False) (vs := [_, _, _]) h (fun _ h => h.elim) ⟨_, _, rfl, ⟨_, rfl, VRs_sc [.int .i64 x0, .int .i64 x1, .int .i64 x2, .int .i64 x3, .int .i64 x4, .int .i64 x5, .int .i64 x6, .int .i64 x7]⟩, _, _, rfl, ⟨_, rfl, VRs_sc [.int .i64 x8, .int .i64 x9]⟩, _, _, rfl, ⟨_, rfl, VRs_sc [.int .i64 x10, .int .i64 x11]⟩, rfl, rfl⟩
set_option maxRecDepth 100000 in
theorem lifted (os : Os) (started : os.Started) (H : Type) (enc : TypeId × Value → H) :
    ReturnsInHanded {} Tryz.checked os 4 .any (Rows.trochoidSlotSpec.pre6 enc Tryz.prog Tryz.f4 Rows.trochoidSlotRow.domain false) (Rows.trochoidSlotSpec.post enc Tryz.prog Tryz.f4 false true false false) := by
  refine returnsInHanded_of_change_sized (C := Tryz.checked) own started (by kernel_rfl) Tryz.func4
    (ChangeSpec.witness6 (enc := enc) (C := Tryz.checked) false ⟨#[], #[.agg ⟨[.int .i64 0, .int .i64 0, .int .i64 0, .int .i64 0, .int .i64 0, .int .i64 0, .int .i64 0, .int .i64 0]⟩, .agg ⟨[.int .i64 0, .int .i64 0]⟩, .agg ⟨[.int .i64 0, .int .i64 0]⟩], []⟩ 8 (by kernel_rfl) (by kernel_rfl) (by kernel_rfl) (by kernel_rfl)) ?_
  intro W base args ds gs before hval0 hW hcnd hsz0 _
  have hval : ∀ (j : Nat) t v, Tryz.f4.params[j]? = some t → args[j]? = some v → Value.okWide Tryz.prog W .any base t v := hval0
  have hW' := hW
  obtain ⟨p, q, hA0, hV, rfl, hfz, hnd⟩ := hW
  have hA : DataW.TrodAll enc Tryz.prog W 0 (fun _ => true) true Tryz.f4.params.toList args.toList ds p := hA0
  rw [Tryz.params4] at hA hval
  obtain ⟨v0, vs0, d0, ds0, p0, q0, hargs, rfl, rfl, h0, r0⟩ := trodAll_cons hA
  obtain ⟨v1, vs1, d1, ds1, p1, q1, rfl, rfl, rfl, h1, r1⟩ := trodAll_cons r0
  obtain ⟨v2, vs2, d2, ds2, p2, q2, rfl, rfl, rfl, h2, r2⟩ := trodAll_cons r1
  obtain ⟨rfl, rfl, rfl⟩ := trodAll_nil r2
  obtain rfl : args = #[v0, v1, v2] := by cases args; simp_all
  obtain ⟨rfl, rfl⟩ := trodVars_none hV
  have lt0 : ∀ x ∈ p0, x.block < W.heap.size := by obtain ⟨m, hm⟩ := h0; exact DataW.trod_lt m _ _ _ hm
  have lt1 : ∀ x ∈ p1, x.block < W.heap.size := by obtain ⟨m, hm⟩ := h1; exact DataW.trod_lt m _ _ _ hm
  have lt2 : ∀ x ∈ p2, x.block < W.heap.size := by obtain ⟨m, hm⟩ := h2; exact DataW.trod_lt m _ _ _ hm
  obtain ⟨x0, x1, x2, x3, x4, x5, x6, x7, rfl, hx0, hx1, hx2, hx3, hx4, hx5, hx6, hx7⟩ := open0 (hval 0 36 v0 rfl rfl)
  obtain ⟨x8, x9, rfl, hx8, hx9⟩ := open1 (hval 1 23 v1 rfl rfl)
  obtain ⟨x10, x11, rfl, hx10, hx11⟩ := open2 (hval 2 23 v2 rfl rfl)
  clear hA0 hval0 hsz0
  refine (walk hx0 hx1 hx2 hx3 hx4 hx5 hx6 hx7 hx8 hx9 hx10 hx11).mono fun x W' ⟨hx, bel⟩ => ?_
  subst hx
  exact ⟨_, rfl, _, _, _, [], _, [], hW', trodAll_mk1 (shut_bool Tryz.underlying4 _), trodAll_cons_mk (Below.trod laidOut (by kernel_rfl) (of_decide_eq_true (by kernel_rfl)) h0 bel lt0) (trodAll_cons_mk (Below.trod laidOut (by kernel_rfl) (of_decide_eq_true (by kernel_rfl)) h1 bel lt1) (trodAll_cons_mk (Below.trod laidOut (by kernel_rfl) (of_decide_eq_true (by kernel_rfl)) h2 bel lt2) trodAll_mk0)), rfl, bel.frame _, fun h => by cases h⟩
theorem over : Rows.trochoidSlotRow.holds Tryz.pinned (OpenSpec.ofChange Rows.trochoidSlotSpec) :=
  OpenClaim.holds_of_wide 4 Tryz.f4 rfl rfl rfl rfl rfl rfl rfl ⟨rfl, rfl, rfl, rfl, rfl⟩ rfl rfl rfl rfl rfl (by kernel_rfl) Tryz.func4 (by kernel_rfl)
    (of_decide_eq_true (by kernel_rfl)) (by unfold Func.isWrapper; first | (rw [if_pos (by decide +kernel)]; kernel_rfl) | (rw [if_neg (by decide +kernel)]; exact ⟨rfl, rfl⟩))
    (fun os started H enc _ => lifted os started H enc)
end Go.Proofs.YtkeelkeoijemiaaGreat.trochoidSlot
namespace Go.Proofs.YtkeelkeoijemiaaGreat
/-- The row, under a short name, for the claim. -/
theorem trochoidSlot_holds : Rows.TrochoidSlotSaid := trochoidSlot.over
#print axioms trochoidSlot_holds
end Go.Proofs.YtkeelkeoijemiaaGreat

