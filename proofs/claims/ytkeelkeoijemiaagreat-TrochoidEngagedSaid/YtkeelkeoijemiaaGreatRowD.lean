/- The law TrochoidEngaged holds for every input. -/
import Derived.Test.YtkeelkeoijemiaaGreatRows
import Derived.Test.YtkeelkeoijemiaaGreatEvR
import Derived.Test.YtkeelkeoijemiaaGreatNa
import Derived.Deep.SlicePairs
set_option linter.unusedVariables false
set_option linter.unusedSimpArgs false
namespace Go.Proofs.YtkeelkeoijemiaaGreat.Ev
open Go Go.RowKit

theorem mixed : Go.Proofs.Tryz.prog.follows .mixedOrders = true := by kernel_rfl
theorem noNum : ∀ fn ∈ Go.Proofs.Tryz.prog.funcs, (fn.name == "runtime.NumGoroutine") = false := by
  have h : (Go.Proofs.Tryz.prog.funcs.toList.all fun fn => !(fn.name == "runtime.NumGoroutine")) = true := by kernel_rfl
  intro fn hfn
  have := List.all_eq_true.1 h fn (by simpa using hfn)
  simpa using this
theorem T0F_ok : TabOK PG T0F := fun _ _ _ _ h => by cases h
theorem TU_ok (n : Nat) : TabOK PG (TU n) := Tab.deepU_ok mixed noNum T0F_ok FUEL kpF n

theorem cell_lt {w : World} {a : Addr} {v : Value} (h : w.cell? a = some v) : a.block < w.heap.size ∧ a.spot = none := by
  unfold World.cell? at h
  split at h
  · rename_i c x y hc
    split at h
    · cases h
    · rename_i hs
      refine ⟨?_, by simpa using hs⟩
      apply Nat.lt_of_not_le
      intro h2
      rw [Array.getElem?_eq_none h2] at hc
      cases hc
  · cases h
/-- The values of positions. -/
def flatV : List (Int × Int) → List Value
  | [] => []
  | p :: l => .int .i64 p.1 :: .int .i64 p.2 :: flatV l
theorem flatV_len : ∀ l, (flatV l).length = l.length * 2
  | [] => rfl
  | p :: l => by simp [flatV, flatV_len l]; omega
theorem flatV_sc : ∀ l, (flatV l).map MV.sc = flat l
  | [] => rfl
  | p :: l => by simp [flatV, flat, flatV_sc l]
theorem flatV_get : ∀ (l : List (Int × Int)) (k : Nat) (h : k < l.length), (flatV l)[k * 2]? = some (.int .i64 l[k].1) ∧ (flatV l)[k * 2 + 1]? = some (.int .i64 l[k].2)
  | p :: l, 0, _ => ⟨rfl, rfl⟩
  | p :: l, k + 1, h => by
    have := flatV_get l k (by simpa using h)
    rw [show (k + 1) * 2 = k * 2 + 1 + 1 by omega]
    simpa [flatV] using this
/-- A slice of positions, as it is handed in. -/
theorem grids_open {H : Type} {enc : TypeId × Value → H} {P : Program} {w : World} {sp : Nat → Bool} {held : Bool} {t e : TypeId} {f0 f1 : Field} {v : Value} {d : DataW H} {p : List MemPlace} {R : Nat → Nat → Option (Nat × Nat)}
    (ht : P.underlying t = some (.slice e)) (he : P.underlying e = some (.struct #[f0, f1])) (ce : P.cellsOf e = 2) (o0 : f0.offset = 0) (o1 : f1.offset = 1) (c0 : P.cellsOf f0.type = 1) (c1 : P.cellsOf f1.type = 1)
    (u0 : P.underlying f0.type = some (.int .i64)) (u1 : P.underlying f1.type = some (.int .i64)) (hv : ∃ a len cap, v = .slice a len cap) (h : DataW.Trod enc P w 0 sp held t v d p) :
    ∃ l : List (Int × Int), VR w (fun b => b < w.heap.size) R (.fs l.length none (flat l)) v := by
  obtain ⟨a, len, cap, rfl⟩ := hv
  obtain ⟨fuel, h⟩ := h
  rcases Go.Deep.open_slice_pairs ht he ce o0 o1 c0 c1 (show DataW.trod enc P w 0 sp held fuel t [.slice a len cap] = some (d, p) from h) with ⟨h0, _⟩ | ⟨a', len', cap', m, n, V0, V1, D0, D1, P0, P1, hcs, _, hlc, _, hm, _, hx⟩
  · cases h0
    exact ⟨[], none, 0, rfl, Nat.le_refl _, (fun k hk => by cases hk), .inl ⟨rfl, rfl, fun _ => rfl⟩⟩
  · cases hcs
    have hlm : len ≤ m := by rw [hm]; split <;> omega
    have each : ∀ i, i < len → ∃ q : Int × Int, w.cell? (a'.add (i * 2)) = some (.int .i64 q.1) ∧ w.cell? (a'.add (i * 2 + 1)) = some (.int .i64 q.2) := by
      intro i hi
      obtain ⟨e0, e1, t0, t1⟩ := hx i (by omega)
      obtain ⟨x, hx0, _, _⟩ := DataW.trod_int u0 t0
      obtain ⟨y, hy0, _, _⟩ := DataW.trod_int u1 t1
      simp at hx0 hy0
      exact ⟨(x, y), by rw [e0, hx0], by rw [e1, hy0]⟩
    obtain ⟨q, hq⟩ := Go.Deep.choose_lt each
    have hlen : ((List.range len).map q).length = len := by simp
    refine ⟨(List.range len).map q, some a', cap, by rw [hlen], by rw [hlen]; exact hlc, (fun k hk => by cases hk), ?_⟩
    by_cases h0 : len = 0
    · subst h0
      exact .inl ⟨rfl, rfl, fun h => by cases h⟩
    · obtain ⟨e0, _⟩ := hq 0 (by omega)
      rw [show (0 : Nat) * 2 = 0 from rfl] at e0
      have ea : a'.add 0 = a' := by simp [Addr.add]
      rw [ea] at e0
      obtain ⟨hb, hs⟩ := cell_lt e0
      obtain ⟨b, o, s⟩ := a'
      simp at hs
      subst hs
      refine .inr ⟨b, o, flatV ((List.range len).map q), rfl, hb, ?_, ?_⟩
      · intro i hi
        rw [flatV_len, hlen] at hi
        obtain ⟨k, hk⟩ : ∃ k, i = k * 2 ∨ i = k * 2 + 1 := ⟨i / 2, by omega⟩
        have hkl : k < len := by omega
        obtain ⟨g0, g1⟩ := flatV_get ((List.range len).map q) k (by rw [hlen]; exact hkl)
        obtain ⟨e0, e1⟩ := hq k hkl
        have eadd : ∀ j, (⟨b, o, none⟩ : Addr).add j = ⟨b, o + j, none⟩ := fun j => by
          unfold Addr.add
          by_cases hj : j = 0
          · subst hj; simp
          · simp [hj]
        rw [eadd] at e0 e1
        rcases hk with rfl | rfl
        · rw [e0, g0]; simp
        · rw [show o + (k * 2 + 1) = o + (k * 2 + 1) from rfl, e1, g1]; simp
      · rw [← flatV_sc]
        exact VRs_sc _
end Go.Proofs.YtkeelkeoijemiaaGreat.Ev

namespace Go.Proofs.YtkeelkeoijemiaaGreat.trochoidEngaged
open Go.ChangeShapes Go.WideShapes Go.ChangeAt Go.RowKit Go.Proofs.YtkeelkeoijemiaaGreat.Ev
open Go.ChangeMaps (open_string shut_string)
set_option linter.unusedVariables false
set_option maxRecDepth 100000
theorem own : ownKnob Tryz.prog.godebug = none := by kernel_rfl
theorem laidOut : laidOutB Tryz.prog = true := by kernel_rfl
abbrev In64 (n : Int) : Prop := -9223372036854775808 ≤ n ∧ n ≤ 9223372036854775807
/-- Two numbers, as they are handed in. -/
theorem two_open {W : World} {base : Nat} {v : Value} (h : Value.okWide Tryz.prog W .any base 23 v) :
    ∃ a b, v = .agg ⟨[.int .i64 a, .int .i64 b]⟩ ∧ In64 a ∧ In64 b := by
  obtain ⟨cs, rfl, hl, hcell⟩ := okWide_cells (n := 2) (ts := [2, 2]) (by kernel_rfl) h (by kernel_rfl) (by kernel_rfl)
  have each : ∀ (i : Nat) (x : Value), cs[i]? = some x → ∃ n, x = Value.int .i64 n ∧ In64 n := by
    intro i x hx
    obtain ⟨u, hu, hk⟩ := hcell i x hx
    have h8 : i % 2 < 2 := Nat.mod_lt _ (by omega)
    have hu2 : u = 2 := by
      simp only [List.length_cons, List.length_nil] at hu
      generalize i % 2 = q at hu h8
      match q, h8 with
      | 0, _ | 1, _ => simpa using hu.symm
    subst hu2
    obtain ⟨n, rfl, hn⟩ := Go.Proofs.YtkeelkeoijemiaaGreat.Ev.okWide_int Tryz.underlying2 hk
    exact ⟨n, rfl, hn⟩
  match cs, hl with
  | [a, b], _ =>
    obtain ⟨a, rfl, ha⟩ := each 0 a rfl
    obtain ⟨b, rfl, hb⟩ := each 1 b rfl
    exact ⟨a, b, rfl, ha, hb⟩
attribute [local irreducible] TU
/-- The walk. -/
theorem walk {W : World} {l : List (Int × Int)} {v : Value} {a b c d : Int} (hv : VR W (fun b => b < W.heap.size) noR (.fs l.length none (flat l)) v) (hc : In64 c) (hd : In64 d) :
    Calls Tryz.prog 3 #[v, .agg ⟨[.int .i64 a, .int .i64 b]⟩, .agg ⟨[.int .i64 c, .int .i64 d]⟩] W fun x W' => x = .returned (.bool true) ∧ Below W.heap.size W W' := by
  have h := TU_ok 19 _ _ _ _ (law_Engaged (l := l) (r := a) (t := b) (c0 := c) (c1 := d) (c := none) hc hd)
  rw [(TU_io 19).1] at h
  exact CallOK.below (ok := fun b => b < W.heap.size) (vs := [_, _, _]) h (fun _ h => h) ⟨_, _, rfl, hv, _, _, rfl, ⟨_, rfl, VRs_sc [.int .i64 a, .int .i64 b]⟩, _, [], rfl, ⟨_, rfl, VRs_sc [.int .i64 c, .int .i64 d]⟩, rfl, rfl⟩
set_option maxRecDepth 100000 in
theorem lifted (os : Os) (started : os.Started) (H : Type) (enc : TypeId × Value → H) :
    ReturnsInHanded {} Tryz.checked os 3 .any (Rows.trochoidEngagedSpec.pre6 enc Tryz.prog Tryz.f3 Rows.trochoidEngagedRow.domain false) (Rows.trochoidEngagedSpec.post enc Tryz.prog Tryz.f3 false true false false) := by
  refine returnsInHanded_of_change_sized (C := Tryz.checked) own started (by kernel_rfl) Tryz.func3
    (ChangeSpec.witness6 (enc := enc) (C := Tryz.checked) false ⟨#[], #[.slice none 0 0, .agg ⟨[.int .i64 0, .int .i64 0]⟩, .agg ⟨[.int .i64 0, .int .i64 0]⟩], []⟩ 8 (by kernel_rfl) (by kernel_rfl) (by kernel_rfl) (by kernel_rfl)) ?_
  intro W base args ds gs before hval0 hW hcnd hsz0 _
  have hval : ∀ (j : Nat) t v, Tryz.f3.params[j]? = some t → args[j]? = some v → Value.okWide Tryz.prog W .any base t v := hval0
  have hW' := hW
  obtain ⟨p, q, hA0, hV, rfl, hfz, hnd⟩ := hW
  have hA : DataW.TrodAll enc Tryz.prog W 0 (fun _ => true) true Tryz.f3.params.toList args.toList ds p := hA0
  rw [Tryz.params3] at hA hval
  obtain ⟨v0, vs0, d0, ds0, p0, q0, hargs, rfl, rfl, h0, r0⟩ := trodAll_cons hA
  obtain ⟨v1, vs1, d1, ds1, p1, q1, rfl, rfl, rfl, h1, r1⟩ := trodAll_cons r0
  obtain ⟨v2, vs2, d2, ds2, p2, q2, rfl, rfl, rfl, h2, r2⟩ := trodAll_cons r1
  obtain ⟨rfl, rfl, rfl⟩ := trodAll_nil r2
  obtain rfl : args = #[v0, v1, v2] := by cases args; simp_all
  obtain ⟨rfl, rfl⟩ := trodVars_none hV
  have lt0 : ∀ x ∈ p0, x.block < W.heap.size := by obtain ⟨m, hm⟩ := h0; exact DataW.trod_lt m _ _ _ hm
  have lt1 : ∀ x ∈ p1, x.block < W.heap.size := by obtain ⟨m, hm⟩ := h1; exact DataW.trod_lt m _ _ _ hm
  have lt2 : ∀ x ∈ p2, x.block < W.heap.size := by obtain ⟨m, hm⟩ := h2; exact DataW.trod_lt m _ _ _ hm
  obtain ⟨l, hl⟩ := grids_open (R := noR) Tryz.underlying22 Tryz.underlying34 (by kernel_rfl) rfl rfl (by kernel_rfl) (by kernel_rfl) Tryz.underlying2 Tryz.underlying2 (okWide_slice Tryz.underlying22 (hval 0 22 v0 rfl rfl)) h0
  obtain ⟨a, b, rfl, ha, hb⟩ := two_open (hval 1 23 v1 rfl rfl)
  obtain ⟨c, d, rfl, hc, hd⟩ := two_open (hval 2 23 v2 rfl rfl)
  clear hA0 hval0 hsz0
  refine (walk hl hc hd).mono fun x W' ⟨hx, bel⟩ => ?_
  subst hx
  exact ⟨_, rfl, _, _, _, [], _, [], hW', trodAll_mk1 (shut_bool Tryz.underlying4 _), trodAll_cons_mk (Below.trod laidOut (by kernel_rfl) (of_decide_eq_true (by kernel_rfl)) h0 bel lt0) (trodAll_cons_mk (Below.trod laidOut (by kernel_rfl) (of_decide_eq_true (by kernel_rfl)) h1 bel lt1) (trodAll_cons_mk (Below.trod laidOut (by kernel_rfl) (of_decide_eq_true (by kernel_rfl)) h2 bel lt2) trodAll_mk0)), rfl, bel.frame _, fun h => by cases h⟩
theorem over : Rows.trochoidEngagedRow.holds Tryz.pinned (OpenSpec.ofChange Rows.trochoidEngagedSpec) :=
  OpenClaim.holds_of_wide 3 Tryz.f3 rfl rfl rfl rfl rfl rfl rfl ⟨rfl, rfl, rfl, rfl, rfl⟩ rfl rfl rfl rfl rfl (by kernel_rfl) Tryz.func3 (by kernel_rfl)
    (of_decide_eq_true (by kernel_rfl)) (by unfold Func.isWrapper; first | (rw [if_pos (by decide +kernel)]; kernel_rfl) | (rw [if_neg (by decide +kernel)]; exact ⟨rfl, rfl⟩))
    (fun os started H enc _ => lifted os started H enc)
end Go.Proofs.YtkeelkeoijemiaaGreat.trochoidEngaged
namespace Go.Proofs.YtkeelkeoijemiaaGreat
/-- The row, under a short name, for the claim. -/
theorem trochoidEngaged_holds : Rows.TrochoidEngagedSaid := trochoidEngaged.over
#print axioms trochoidEngaged_holds
end Go.Proofs.YtkeelkeoijemiaaGreat

