/- The law TrochoidPath holds for every input. -/
import Derived.Test.YtkeelkeoijemiaaRows
import Derived.Test.YtkeelkeoijemiaaTn
import Derived.Test.YtkeelkeoijemiaaTw
import Derived.Test.YtkeelkeoijemiaaEvR
namespace Go.Proofs.Ytkeelkeoijemiaa.trochoidPath
open Go.ChangeShapes Go.WideShapes Go.ChangeAt Go.RowKit Go.Proofs.Ytkeelkeoijemiaa.Ev
open Go.ChangeMaps (open_string shut_string)
set_option linter.unusedVariables false
set_option maxRecDepth 100000
theorem own : ownKnob Try.prog.godebug = none := by kernel_rfl
theorem laidOut : laidOutB Try.prog = true := by kernel_rfl
/-- The argument, as it is handed in: eight numbers. -/
theorem way_open {W : World} {base : Nat} {v : Value} (h : Value.okWide Try.prog W .any base 25 v) :
    ∃ a b c d e f g k, v = .agg ⟨[.int .i64 a, .int .i64 b, .int .i64 c, .int .i64 d, .int .i64 e, .int .i64 f, .int .i64 g, .int .i64 k]⟩ ∧ In64 a ∧ In64 b ∧ In64 c ∧ In64 d ∧ In64 e ∧ In64 f ∧ In64 g ∧ In64 k := by
  obtain ⟨cs, rfl, hl, hcell⟩ := okWide_cells (n := 8) (ts := [2, 2, 2, 2, 2, 2, 2, 2]) (by kernel_rfl) h (by kernel_rfl) (by kernel_rfl)
  have each : ∀ (i : Nat) (x : Value), cs[i]? = some x → ∃ n, x = Value.int .i64 n ∧ In64 n := by
    intro i x hx
    obtain ⟨u, hu, hk⟩ := hcell i x hx
    have h8 : i % 8 < 8 := Nat.mod_lt _ (by omega)
    have hu2 : u = 2 := by
      simp only [List.length_cons, List.length_nil] at hu
      generalize i % 8 = q at hu h8
      match q, h8 with
      | 0, _ | 1, _ | 2, _ | 3, _ | 4, _ | 5, _ | 6, _ | 7, _ => simpa using hu.symm
    subst hu2
    obtain ⟨n, rfl, hn⟩ := Go.Proofs.Ytkeelkeoijemiaa.Ev.okWide_int Try.underlying2 hk
    exact ⟨n, rfl, hn⟩
  match cs, hl with
  | [a, b, c, d, e, f, g, k], _ =>
    obtain ⟨a, rfl, ha⟩ := each 0 a rfl
    obtain ⟨b, rfl, hb⟩ := each 1 b rfl
    obtain ⟨c, rfl, hc⟩ := each 2 c rfl
    obtain ⟨d, rfl, hd⟩ := each 3 d rfl
    obtain ⟨e, rfl, he⟩ := each 4 e rfl
    obtain ⟨f, rfl, hf⟩ := each 5 f rfl
    obtain ⟨g, rfl, hg⟩ := each 6 g rfl
    obtain ⟨k, rfl, hk⟩ := each 7 k rfl
    exact ⟨a, b, c, d, e, f, g, k, rfl, ha, hb, hc, hd, he, hf, hg, hk⟩
/-- The walk. -/
theorem walk {W : World} {a b c d e f g k : Int} (ha : In64 a) (hb : In64 b) (hc : In64 c) (hd : In64 d) (he : In64 e) (hf : In64 f) :
    Calls Try.prog 4 #[.agg ⟨[.int .i64 a, .int .i64 b, .int .i64 c, .int .i64 d, .int .i64 e, .int .i64 f, .int .i64 g, .int .i64 k]⟩] W fun x W' => x = .returned (.bool true) ∧ Below W.heap.size W W' := by
  have h := TT_ok 21 4 _ _ _ (law4 (ax := a) (ay := b) (bx := c) (by_ := d) (ra := e) (st := f) (z := g) (rt := k) ha hb hc hd he hf)
  rw [TT_io] at h
  exact CallOK.below (ok := fun _ => False) (vs := [_]) h (fun _ h => h.elim) ⟨_, [], rfl, ⟨_, rfl, VRs_sc [.int .i64 a, .int .i64 b, .int .i64 c, .int .i64 d, .int .i64 e, .int .i64 f, .int .i64 g, .int .i64 k]⟩, rfl, rfl⟩
set_option maxRecDepth 100000 in
theorem lifted (os : Os) (started : os.Started) (H : Type) (enc : TypeId × Value → H) :
    ReturnsInHanded {} Try.checked os 4 .any (Rows.trochoidPathSpec.pre6 enc Try.prog Try.f4 Rows.trochoidPathRow.domain false) (Rows.trochoidPathSpec.post enc Try.prog Try.f4 false true false false) := by
  refine returnsInHanded_of_change_sized (C := Try.checked) own started (by kernel_rfl) Try.func4
    (ChangeSpec.witness6 (enc := enc) (C := Try.checked) false ⟨#[], #[.agg ⟨[.int .i64 0, .int .i64 0, .int .i64 0, .int .i64 0, .int .i64 0, .int .i64 0, .int .i64 0, .int .i64 0]⟩], []⟩ 8 (by kernel_rfl) (by kernel_rfl) (by kernel_rfl) (by kernel_rfl)) ?_
  intro W base args ds gs before hval0 hW hcnd hsz0 _
  have hval : ∀ (j : Nat) t v, Try.f4.params[j]? = some t → args[j]? = some v → Value.okWide Try.prog W .any base t v := hval0
  have hW' := hW
  obtain ⟨p, q, hA0, hV, rfl, hfz, hnd⟩ := hW
  have hA : DataW.TrodAll enc Try.prog W 0 (fun _ => true) true Try.f4.params.toList args.toList ds p := hA0
  rw [Try.params4] at hA hval
  obtain ⟨v0, vs0, d0, ds0, p0, q0, hargs, rfl, rfl, h0, r0⟩ := trodAll_cons hA
  obtain ⟨rfl, rfl, rfl⟩ := trodAll_nil r0
  obtain rfl : args = #[v0] := by cases args; simp_all
  obtain ⟨rfl, rfl⟩ := trodVars_none hV
  have lt0 : ∀ x ∈ p0, x.block < W.heap.size := by obtain ⟨m, hm⟩ := h0; exact DataW.trod_lt m _ _ _ hm
  obtain ⟨a, b, c, d, e, f, g, k, rfl, ha, hb, hc, hd, he, hf, hg, hk⟩ := way_open (hval 0 25 v0 rfl rfl)
  clear hA0 hval0 hsz0
  refine (walk ha hb hc hd he hf).mono fun x W' ⟨hx, bel⟩ => ?_
  subst hx
  exact ⟨_, rfl, _, _, _, [], _, [], hW', trodAll_mk1 (shut_bool Try.underlying4 _), trodAll_cons_mk (Below.trod laidOut (by kernel_rfl) (of_decide_eq_true (by kernel_rfl)) h0 bel lt0) trodAll_mk0, rfl, bel.frame _, fun h => by cases h⟩
theorem over : Rows.trochoidPathRow.holds Try.pinned (OpenSpec.ofChange Rows.trochoidPathSpec) :=
  OpenClaim.holds_of_wide 4 Try.f4 rfl rfl rfl rfl rfl rfl rfl ⟨rfl, rfl, rfl, rfl, rfl⟩ rfl rfl rfl rfl rfl (by kernel_rfl) Try.func4 (by kernel_rfl)
    (of_decide_eq_true (by kernel_rfl)) (by unfold Func.isWrapper; first | (rw [if_pos (by decide +kernel)]; kernel_rfl) | (rw [if_neg (by decide +kernel)]; exact ⟨rfl, rfl⟩))
    (fun os started H enc _ => lifted os started H enc)
end Go.Proofs.Ytkeelkeoijemiaa.trochoidPath
namespace Go.Proofs.Ytkeelkeoijemiaa
/-- The row, under a short name, for the claim. -/
theorem trochoidPath_holds : Rows.TrochoidPathSaid := trochoidPath.over
#print axioms trochoidPath_holds
end Go.Proofs.Ytkeelkeoijemiaa
