/- Values with fractions as such: regions, loops' heads, code, bodies. Contracts of functions by values with fractions as such; loops by what they do. Reference integers, part 1: trim, signed, limbs, short, compare. -/
import Derived.Test.YtkeelkeoijemiaaGreatAd
import Derived.Test.YtkeelkeoijemiaaGreatNa
import Derived.Test.YtkeelkeoijemiaaGreatNj
set_option linter.unusedVariables false
set_option linter.unusedSimpArgs false
namespace Go.Proofs.YtkeelkeoijemiaaGreat.Ev
open Go Go.RowKit
set_option linter.unusedVariables false
set_option linter.unusedSimpArgs false

variable {R : Type} {P : Program} {T : Tab} {S : CTab R}

theorem relEs_set : ∀ {az : List (Option EntA)} {ms : List (Option Ent)} (i : Nat) {a : Option EntA} {m : Option Ent}, RelEs az ms → RelE a m → RelEs (az.set i a) (ms.set i m)
  | [], _, i, a, m, h, _ => by cases h; rfl
  | b :: az, ms, 0, a, m, h, h1 => by obtain ⟨x, r, rfl, _, h2⟩ := h; exact ⟨m, r, rfl, h1, h2⟩
  | b :: az, ms, i + 1, a, m, h, h1 => by obtain ⟨x, r, rfl, h3, h2⟩ := h; exact ⟨x, r.set i m, rfl, h3, relEs_set i h2 h1⟩
theorem setUpd_rel : ∀ {u : List (Nat × Option EntA)} {v : List (Nat × Option Ent)} {az : List (Option EntA)} {ms : List (Option Ent)}, RelEs az ms → RelU u v → RelEs (setUpdA az u) (setUpd ms v)
  | [], _, _, _, h, hu => by cases hu; exact h
  | (n, a) :: u, _, _, _, h, hu => by obtain ⟨m, r, rfl, h1, h2⟩ := hu; rw [setUpdA, setUpd]; exact setUpd_rel (relEs_set n h h1) h2
theorem relEs_skip : ∀ {az : List (Option EntA)} {ms : List (Option Ent)} (i : Nat) {m : Option Ent}, RelEs az ms → az.getD i none = none → RelEs az (ms.set i m)
  | [], _, i, m, h, _ => by cases h; rfl
  | b :: az, ms, 0, m, h, h1 => by
    obtain ⟨x, r, rfl, _, h2⟩ := h
    have : b = none := by simpa using h1
    subst this
    exact ⟨m, r, rfl, trivial, h2⟩
  | b :: az, ms, i + 1, m, h, h1 => by obtain ⟨x, r, rfl, h3, h2⟩ := h; exact ⟨x, r.set i m, rfl, h3, relEs_skip i h2 (by simpa using h1)⟩
theorem frzAt_rel {az : List (Option EntA)} {ms : List (Option Ent)} (n : Nat) (h : RelEs az ms) : RelEs (frzAtA az n) (frzAt ms n) := by
  have h1 := relEs_get n h
  unfold frzAtA frzAt
  cases ha : az.getD n none with
  | none =>
    cases hm : ms.getD n none with
    | none => exact h
    | some x => exact relEs_skip n h ha
  | some e =>
    rw [ha] at h1
    obtain ⟨x, hx1, hx2, hx3, hx4⟩ := h1
    rw [hx1]
    exact relEs_set n h ⟨_, rfl, hx2, rfl, hx4⟩
theorem setFrz_rel : ∀ {l : List Nat} {az : List (Option EntA)} {ms : List (Option Ent)}, RelEs az ms → RelEs (setFrzA az l) (setFrz ms l)
  | [], _, _, h => h
  | n :: l, _, _, h => by rw [setFrzA, setFrz]; exact setFrz_rel (frzAt_rel n h)
theorem put_rel {st : StA} {m : St} {a : ResA} {b : Res} (dst : Option Tmp) (h : RelSt st m) (hr : RelR a b) : RelSt (st.put dst a) (m.put dst b) := by
  obtain ⟨h1, h2, h3⟩ := h
  obtain ⟨r1, r2, r3, r4⟩ := hr
  refine ⟨?_, ?_, h3⟩
  · cases dst with
    | none => exact h1
    | some d => exact relT_set d h1 r1
  · show RelEs (setUpdA (setFrzA st.en a.frz) a.upd) (setUpd (setFrz m.en b.frz) b.upd)
    rw [r3]
    exact setUpd_rel (setFrz_rel h2) r2
theorem skip_rel {st : StA} {m : St} (dst : Option Tmp) (h : RelSt st m) : RelSt (st.skip dst) (m.skip dst) := by
  obtain ⟨h1, h2, h3⟩ := h
  refine ⟨?_, h2, h3⟩
  cases dst with
  | none => exact h1
  | some d => exact relT_set d h1 rfl
theorem setb_rel {st : StA} {m : St} {d : Nat} {b : Bool} (h : RelSt st m) (hs : st.slot d = .sc (.bool b)) : RelSt { st with sl := st.sl.set d (.sc (.bool b)) } m := by
  refine ⟨?_, h.2.1, h.2.2⟩
  have h1 := slot_rel h d
  rw [hs] at h1
  have := relT_set d h.1 h1
  have e : m.sl.set d (m.slot d) = m.sl := by
    have := set_slot (st := m) (d := d) rfl
    exact congrArg St.sl this
  rwa [e] at this

theorem wantsK_sound {ops : List Oper} {o : Oper} {st : StA} {m : St} {k : StA → Bool → Option R} {r : R} (hst : RelSt st m) (h : wantsK ops st o k = some r) : ∃ s w, wants ops m o = some w ∧ RelSt s m ∧ k s w = some r := by
  unfold wantsK at h
  cases hg : o.guard with
  | none => rw [hg] at h; exact ⟨st, true, by simp only [wants, hg], hst, h⟩
  | some jw =>
    obtain ⟨j, want⟩ := jw
    rw [hg] at h
    simp only at h
    cases hd : (ops[j]?).bind (·.dst) with
    | none => rw [hd] at h; cases h
    | some d =>
      rw [hd] at h
      simp only at h
      split at h
      · rename_i hl
        have hl2 : d < m.sl.length := by rw [relT_len hst.1]; exact hl
        have h1 := slot_rel hst d
        split at h
        · rename_i b hs
          rw [hs] at h1
          exact ⟨_, _, by simp only [wants, hg, hd, if_pos hl2, show m.slot d = _ from h1], setb_rel hst hs, brK_some (k := fun b => k { st with sl := st.sl.set d (.sc (.bool b)) } (b == want)) h⟩
        · rename_i v hv hs
          rw [hs] at h1
          refine ⟨_, false, ?_, hst, h⟩
          simp only [wants, hg, hd, if_pos hl2, show m.slot d = .sc v from h1]
          all_goals (cases v <;> first | rfl | exact absurd hs (hv _))
        · cases h
      · cases h

/-- The names alone. -/
def nmR (r : Res) : Res := { val := undefM, upd := r.upd.map fun x => (x.1, none), frz := r.frz, rd := r.rd }
def nmA (r : ResA) : Res := { val := undefM, upd := r.upd.map fun x => (x.1, none), frz := r.frz, rd := r.rd }
theorem relU_names : ∀ {u : List (Nat × Option EntA)} {v : List (Nat × Option Ent)}, RelU u v → u.map (·.1) = v.map (·.1)
  | [], _, h => by cases h; rfl
  | (n, a) :: u, _, h => by obtain ⟨m, r, rfl, _, h2⟩ := h; simp [relU_names h2]
theorem nm_eq {a : ResA} {b : Res} (h : RelR a b) : nmA a = nmR b := by
  obtain ⟨_, r2, r3, r4⟩ := h
  have h1 : a.upd.map (fun x => (x.1, (none : Option Ent))) = b.upd.map fun x => (x.1, none) := by
    have := congrArg (fun l => l.map fun n => (n, (none : Option Ent))) (relU_names r2)
    simpa [List.map_map, Function.comp_def] using this
  simp [nmA, nmR, h1, r3, r4]
theorem touches_nm (a b : Option Res) : touches (a.map nmR) (b.map nmR) = touches a b := by
  cases a with
  | none => rfl
  | some a =>
    cases b with
    | none => rfl
    | some b => simp [touches, nmR, List.map_map, Function.comp_def]
theorem pairOk_nm (ops : Array Oper) (x y : Item) : pairOk ops { x with l := x.l.map nmR } { y with l := y.l.map nmR } = pairOk ops x y := by
  simp [pairOk, indep, touches_nm]
theorem items_nm : ∀ (os : List Oper) (i : Nat) (log : List (Option Res)) (bs : List Nat), items i os (log.map (Option.map nmR)) bs = (items i os log bs).map fun it => { it with l := it.l.map nmR }
  | [], _, _, _ => by simp [items]
  | o :: os, i, [], _ => by simp [items]
  | o :: os, i, l :: log, [] => by simp [items]
  | o :: os, i, l :: log, b :: bs => by simp [items, items_nm os (i + 1) log bs]
theorem drawOk_nm (ops : Array Oper) (log : List (Option Res)) : drawOk ops (log.map (Option.map nmR)) = drawOk ops log := by
  unfold drawOk
  rw [items_nm]
  congr 1
  simp only [List.all_map, Function.comp_def, pairOk_nm]

theorem logA_sound (hS : SOK S T) {ops : List Oper} {ck : Nat} : ∀ (l : List (Nat × Oper)) {st : StA} {m : St} {k : StA → List (Option Res) → Option R} {r : R}, RelSt st m → logA P S T.io ops ck l st k = some r →
    ∃ s m' log, evalLog P T ops ck l m = some (m', log) ∧ RelSt s m' ∧ k s (log.map (Option.map nmR)) = some r
  | [], st, m, k, r, hst, h => ⟨st, m, [], rfl, hst, h⟩
  | (i, o) :: rest, st, m, k, r, hst, h => by
    simp only [logA, stepA] at h
    obtain ⟨s, w, h1, h2, h3⟩ := wantsK_sound hst h
    cases w with
    | true =>
      simp only [if_true] at h3
      obtain ⟨a, b, h4, h5, h6⟩ := opA_sound hS h2 h3
      obtain ⟨s', m', log, h7, h8, h9⟩ := logA_sound hS rest (put_rel o.dst h2 h5) h6
      refine ⟨s', m', some b :: log, ?_, h8, ?_⟩
      · simp only [evalLog, step1, h1, h4, h7]
      · have := nm_eq h5
        simp only [List.map_cons, Option.map_some, ← this]
        exact h9
    | false =>
      simp only [Bool.false_eq_true, if_false] at h3
      obtain ⟨s', m', log, h7, h8, h9⟩ := logA_sound hS rest (skip_rel o.dst h2) h3
      refine ⟨s', m', none :: log, ?_, h8, ?_⟩
      · simp only [evalLog, step1, h1, h7]
      · exact h9
theorem regionA_sound (hS : SOK S T) {ops : Array Oper} {draw : Bool} {st : StA} {m : St} {k : StA → Option R} {r : R} (hst : RelSt st m) (h : regionA P S T.io ops draw st k = some r) :
    ∃ s m', evalRegion P T ops draw m = some m' ∧ RelSt s m' ∧ k s = some r := by
  unfold regionA at h
  obtain ⟨s, m', log, h1, h2, h3⟩ := logA_sound hS _ hst h
  rw [hst.2.2] at h1 h3
  rw [drawOk_nm] at h3
  split at h3
  · rename_i hd
    refine ⟨_, { m' with ck := m.ck + ops.size }, ?_, ?_, h3⟩
    case refine_2 => exact ⟨h2.1, h2.2.1, rfl⟩
    unfold evalRegion
    cases draw with
    | false => simp only [Bool.false_eq_true, if_false, log_ops _ 0 _ _ _ h1]
    | true =>
      simp only [Bool.not_true, Bool.false_or] at hd
      simp only [if_true, h1, hd]
  · cases h3

/-! Loops' heads. -/
theorem wipe_rel (w : List Nat) : ∀ {az : List AV} {ms : List MV} (i : Nat), RelT az ms → RelT (wipeA w i az) (wipe w i ms)
  | [], _, _, h => by cases h; rfl
  | a :: az, _, i, h => by
    obtain ⟨m, r, rfl, h1, h2⟩ := h
    refine ⟨_, _, rfl, ?_, wipe_rel w (i + 1) h2⟩
    split
    · trivial
    · exact h1
mutual
theorem names_sub : ∀ (a : AV) (m : MV), Rel a m → ∀ x ∈ namesInA a, x ∈ namesIn m
  | .sc _, _, _, x, h => by simp [namesInA] at h
  | .q _ _, _, _, x, h => by simp [namesInA] at h
  | .blk _ _ _, _, _, x, h => by simp [namesInA] at h
  | .fs _ _ _, _, _, x, h => by simp [namesInA] at h
  | .arr _ _ _ _, _, _, x, h => by simp [namesInA] at h
  | .cp _, _, _, x, h => by simp [namesInA] at h
  | .pte _ _ _ _ _, _, _, x, h => by simp [namesInA] at h
  | .any, _, _, x, h => by simp [namesInA] at h
  | .row _ _ _ _ _ _, _, hr, x, h => by cases hr; exact h
  | .ptr _ _ _, _, hr, x, h => by cases hr; exact h
  | .agg cs, _, hr, x, h => by obtain ⟨ms, rfl, h1⟩ := hr; exact namesC_sub cs ms h1 x h
  | .tup cs, _, hr, x, h => by obtain ⟨ms, rfl, h1⟩ := hr; exact namesT_sub cs ms h1 x h
  | .fn _ cs, _, hr, x, h => by obtain ⟨ms, rfl, h1⟩ := hr; exact namesT_sub cs ms h1 x h
theorem namesT_sub : ∀ (cs : List AV) (ms : List MV), RelT cs ms → ∀ x ∈ namesInLA cs, x ∈ namesInL ms
  | [], _, _, x, h => by simp [namesInLA] at h
  | a :: az, _, hr, x, h => by
    obtain ⟨m, r, rfl, h1, h2⟩ := hr
    simp only [namesInLA, List.mem_append] at h
    simp only [namesInL, List.mem_append]
    exact h.imp (names_sub a m h1 x) (namesT_sub az r h2 x)
theorem namesC_sub : ∀ (cs : List AV) (ms : List MV), RelC cs ms → ∀ x ∈ namesInLA cs, x ∈ namesInL ms
  | [], _, _, x, h => by simp [namesInLA] at h
  | a :: az, ms, hr, x, h => by
    simp only [namesInLA, List.mem_append] at h
    by_cases hp : isPart a = true
    · cases a with
      | q k p =>
        obtain ⟨r, rfl, _, h2⟩ := hr
        rw [namesInL_append, List.mem_append]
        exact .inr (namesC_sub az r h2 x (h.resolve_left (by simp [namesInA])))
      | blk w n f =>
        obtain ⟨r, rfl, _, h2⟩ := hr
        rw [namesInL_append, List.mem_append]
        exact .inr (namesC_sub az r h2 x (h.resolve_left (by simp [namesInA])))
      | _ => cases hp
    · obtain ⟨m, r, rfl, h1, h2⟩ := (relC_cons (by simpa using hp)).1 hr
      simp only [namesInL, List.mem_append]
      exact h.imp (names_sub a m h1 x) (namesC_sub az r h2 x)
end
theorem dropEn_rel (w : List Nat) {uA uM : List Nat} (hu : ∀ x ∈ uA, x ∈ uM) : ∀ {az : List (Option EntA)} {ms : List (Option Ent)} (i : Nat), RelEs az ms → RelEs (dropEnA w uA i az) (dropEn w uM i ms)
  | [], _, _, h => by cases h; rfl
  | a :: az, _, i, h => by
    obtain ⟨m, r, rfl, h1, h2⟩ := h
    refine ⟨_, _, rfl, ?_, dropEn_rel w hu (i + 1) h2⟩
    cases hw : w.contains i with
    | false => simpa using h1
    | true =>
      cases ha : uA.contains i with
      | false => simp [RelE]
      | true =>
        have : uM.contains i = true := by
          rw [List.contains_iff_mem] at ha ⊢
          exact hu i ha
        simp only [this, Bool.not_true, Bool.and_false, Bool.false_eq_true, if_false]
        exact h1
def cellsOA : Option EntA → List AV
  | some e => e.cells
  | none => []
theorem namesLA_append : ∀ a b : List AV, namesInLA (a ++ b) = namesInLA a ++ namesInLA b
  | [], b => rfl
  | x :: a, b => by simp [namesInLA, namesLA_append a b]
theorem entCells_sub : ∀ {az : List (Option EntA)} {ms : List (Option Ent)}, RelEs az ms → ∀ x ∈ namesInLA (az.flatMap cellsOA), x ∈ namesInL (ms.flatMap cellsO)
  | [], _, h, x, hx => by simp [namesInLA] at hx
  | a :: az, _, h, x, hx => by
    obtain ⟨m, r, rfl, h1, h2⟩ := h
    simp only [List.flatMap_cons, namesLA_append, List.mem_append] at hx
    simp only [List.flatMap_cons, namesInL_append, List.mem_append]
    refine hx.imp ?_ (entCells_sub h2 x)
    cases a with
    | none => intro h; simp [cellsOA, namesInLA] at h
    | some e =>
      obtain ⟨y, rfl, _, _, h3⟩ := h1
      exact namesC_sub e.cells y.cells h3 x
theorem entNames_sub {az : List (Option EntA)} {ms : List (Option Ent)} (h : RelEs az ms) (n : Nat) : ∀ x ∈ entNamesA az n, x ∈ entNames ms n := by
  intro x hx
  have h1 := relEs_get n h
  unfold entNamesA at hx
  unfold entNames
  cases ha : az.getD n none with
  | none => rw [ha] at hx; simp at hx
  | some e =>
    rw [ha] at hx h1
    obtain ⟨y, e1, _, _, h3⟩ := h1
    simp only [e1]
    exact namesC_sub e.cells y.cells h3 x hx
theorem norms_flat {look : Nat → Option Ent} : ∀ {cs : List MV}, Flat cs → norms look cs = cs
  | [], _ => rfl
  | c :: cs, h => by
    rw [norms, norms_flat fun x hx => h x (by simp [hx])]
    rcases h c (by simp) with ⟨v, rfl⟩ | ⟨n, c', l, rfl⟩ <;> rfl
theorem norm1_part {look : Nat → Option EntA} {a : AV} (h : isPart a = false) : isPart (norm1A look a) = false := by
  cases a <;> first | exact h | (simp only [norm1A]; (repeat (split)) <;> rfl)
mutual
theorem norm1_rel {la : Nat → Option EntA} {lm : Nat → Option Ent} (hl : ∀ n, RelE (la n) (lm n)) : ∀ (a : AV) (m : MV), Rel a m → Rel (norm1A la a) (norm1 lm m)
  | .sc _, _, h => by cases h; rfl
  | .q _ p, _, h => by obtain ⟨rfl, h1⟩ := h; exact ⟨by rw [rM, norm1, norms_flat (rC_flat p)], h1⟩
  | .blk _ _ _, _, h => by cases h
  | .fs _ _ _, _, h => by obtain ⟨ms, rfl, h1⟩ := h; exact ⟨ms, rfl, h1⟩
  | .arr _ _ _ _, _, h => by obtain ⟨rfl, h1⟩ := h; exact ⟨rfl, h1⟩
  | .cp _, _, h => by obtain ⟨ms, r, rfl, h1⟩ := h; exact ⟨ms, r, rfl, h1⟩
  | .pte _ _ _ _ _, _, h => trivial
  | .any, _, h => trivial
  | .agg cs, _, h => by obtain ⟨ms, rfl, h1⟩ := h; exact ⟨_, rfl, normsC_rel hl cs ms h1⟩
  | .tup cs, _, h => by obtain ⟨ms, rfl, h1⟩ := h; exact ⟨_, rfl, normsT_rel hl cs ms h1⟩
  | .fn f cs, _, h => by obtain ⟨ms, rfl, h1⟩ := h; exact ⟨_, rfl, normsT_rel hl cs ms h1⟩
  | .ptr nm g off, _, h => by
    cases h
    have h1 := hl nm
    simp only [norm1A]
    split
    · rename_i e he
      rw [he] at h1
      obtain ⟨x, e1, e2, _, _⟩ := h1
      split
      · rename_i hg
        simp only [norm1, e1, ← e2, if_pos hg]; rfl
      · trivial
    · trivial
  | .row nm g off len cap sz, _, h => by
    cases h
    have h1 := hl nm
    simp only [norm1A]
    split
    · rename_i e he
      rw [he] at h1
      obtain ⟨x, e1, e2, _, _⟩ := h1
      split
      · rename_i hg
        simp only [norm1, e1, ← e2, if_pos hg]; rfl
      · trivial
    · trivial
theorem normsT_rel {la : Nat → Option EntA} {lm : Nat → Option Ent} (hl : ∀ n, RelE (la n) (lm n)) : ∀ (cs : List AV) (ms : List MV), RelT cs ms → RelT (normsA la cs) (norms lm ms)
  | [], _, h => by cases h; rfl
  | a :: az, _, h => by
    obtain ⟨m, r, rfl, h1, h2⟩ := h
    exact ⟨_, _, rfl, norm1_rel hl a m h1, normsT_rel hl az r h2⟩
theorem normsC_rel {la : Nat → Option EntA} {lm : Nat → Option Ent} (hl : ∀ n, RelE (la n) (lm n)) : ∀ (cs : List AV) (ms : List MV), RelC cs ms → RelC (normsA la cs) (norms lm ms)
  | [], _, h => by cases h; rfl
  | a :: az, ms, h => by
    by_cases hp : isPart a = true
    · cases a with
      | q k p =>
        obtain ⟨r, rfl, h1, h2⟩ := h
        exact ⟨norms lm r, by rw [norms_append, norms_flat (rC_flat p)], h1, normsC_rel hl az r h2⟩
      | blk w n f =>
        obtain ⟨r, rfl, h1, h2⟩ := h
        exact ⟨norms lm r, by rw [norms_append, norms_flat (blkC_flat (f.el w) n)], h1, normsC_rel hl az r h2⟩
      | _ => cases hp
    · have hp' : isPart a = false := by simpa using hp
      obtain ⟨m, r, rfl, h1, h2⟩ := (relC_cons hp').1 h
      exact (relC_cons (norm1_part hp')).2 ⟨_, _, rfl, norm1_rel hl a m h1, normsC_rel hl az r h2⟩
end
theorem normEn_rel {la : Nat → Option EntA} {lm : Nat → Option Ent} (hl : ∀ n, RelE (la n) (lm n)) : ∀ {az : List (Option EntA)} {ms : List (Option Ent)}, RelEs az ms →
    RelEs (az.map fun | some e => some { gen := if e.gen = 0 then 0 else 1, cells := normsA la e.cells, frozen := e.frozen } | none => none) (ms.map fun | some e => some { gen := if e.gen = 0 then 0 else 1, cells := norms lm e.cells, frozen := e.frozen } | none => none)
  | [], _, h => by cases h; rfl
  | a :: az, _, h => by
    obtain ⟨m, r, rfl, h1, h2⟩ := h
    refine ⟨_, _, rfl, ?_, normEn_rel hl h2⟩
    cases a with
    | none => trivial
    | some e =>
      obtain ⟨y, rfl, e2, e3, h3⟩ := h1
      exact ⟨_, rfl, by simp only [e2], e3, normsC_rel hl _ _ h3⟩
theorem normA_rel (w : List Nat) {st : StA} {m : St} (h : RelSt st m) : RelSt (normA w st) (normSt w m) := by
  obtain ⟨h1, h2, _⟩ := h
  have s1 := wipe_rel w 0 h1
  have u0 := namesT_sub _ _ s1
  have e0 := dropEn_rel w (uA := []) (uM := []) (fun _ h => h) 0 h2
  have u1 : ∀ x ∈ namesInLA (wipeA w 0 st.sl) ++ namesInLA ((dropEnA w [] 0 st.en).flatMap cellsOA), x ∈ namesInL (wipe w 0 m.sl) ++ namesInL ((dropEn w [] 0 m.en).flatMap cellsO) := by
    intro x hx
    rw [List.mem_append] at hx ⊢
    exact hx.imp (u0 x) (entCells_sub e0 x)
  have u2 : ∀ x ∈ (namesInLA (wipeA w 0 st.sl) ++ namesInLA ((dropEnA w [] 0 st.en).flatMap cellsOA)) ++ (namesInLA (wipeA w 0 st.sl) ++ namesInLA ((dropEnA w [] 0 st.en).flatMap cellsOA)).flatMap (entNamesA st.en),
      x ∈ (namesInL (wipe w 0 m.sl) ++ namesInL ((dropEn w [] 0 m.en).flatMap cellsO)) ++ (namesInL (wipe w 0 m.sl) ++ namesInL ((dropEn w [] 0 m.en).flatMap cellsO)).flatMap (entNames m.en) := by
    intro x hx
    rw [List.mem_append] at hx ⊢
    refine hx.imp (u1 x) fun hx => ?_
    obtain ⟨y, hy, hx⟩ := List.mem_flatMap.1 hx
    exact List.mem_flatMap.2 ⟨y, u1 y hy, entNames_sub h2 y x hx⟩
  have e2 := dropEn_rel w u2 0 h2
  have hl := fun n => relEs_get n e2
  exact ⟨normsT_rel hl _ _ s1, normEn_rel hl e2, rfl⟩

/-! Code. -/
/-- What is told of a loop holds of it. -/
def LoopOK (P : Program) (T : Tab) (W : Code → List Nat) (L : LTab R) (j : Nat) (c : Code) : Prop := ∀ st m k r, RelSt st m → L j st k = some r →
  ∃ o s m', evalLoop (fun s => evalCode P T W FUEL c (normSt (W c) s)) FUEL m = some (o, m') ∧ RelSt s m' ∧ k o s = some r
theorem nLoops_eq : ∀ c : Code, (loopsIn c).length = nLoops c
  | .loop c => by simp [loopsIn, nLoops, nLoops_eq c]
  | .seq a b => by simp [loopsIn, nLoops, nLoops_eq a, nLoops_eq b]
  | .cond _ a b => by simp [loopsIn, nLoops, nLoops_eq a, nLoops_eq b]
  | .block _ c => by simp [loopsIn, nLoops, nLoops_eq c]
  | .skip | .region _ _ _ | .exit _ | .ret | .rangeFunc _ _ _ _ | .scope _ | .label _ | .goto _ | .refuse _ => rfl

theorem codeA_sound {W : Code → List Nat} (hS : SOK S T) {L : LTab R} : ∀ (c : Code) (j : Nat) {st : StA} {m : St} {k : Out → StA → Option R} {r : R}, (∀ i c', (loopsIn c)[i]? = some c' → LoopOK P T W L (j + i) c') → RelSt st m → codeA P S T.io L j c st k = some r →
    ∃ o s m', evalCode P T W FUEL c m = some (o, m') ∧ RelSt s m' ∧ k o s = some r
  | .skip, j, st, m, k, r, hL, hst, h => ⟨.normal, st, m, rfl, hst, h⟩
  | .region _ ops draw, j, st, m, k, r, hL, hst, h => by
    obtain ⟨s, m', h1, h2, h3⟩ := regionA_sound hS hst h
    exact ⟨.normal, s, m', by simp only [evalCode, h1, Option.map_some], h2, h3⟩
  | .seq a b, j, st, m, k, r, hL, hst, h => by
    simp only [codeA] at h
    have hla : ∀ i c', (loopsIn a)[i]? = some c' → LoopOK P T W L (j + i) c' := fun i c' hi => hL i c' (by
      rw [loopsIn, List.getElem?_append_left (List.getElem?_eq_some_iff.1 hi).1]; exact hi)
    have hlb : ∀ i c', (loopsIn b)[i]? = some c' → LoopOK P T W L (j + nLoops a + i) c' := fun i c' hi => by
      rw [Nat.add_assoc]
      refine hL _ c' ?_
      rw [loopsIn, List.getElem?_append_right (by rw [nLoops_eq]; omega), nLoops_eq, Nat.add_sub_cancel_left]; exact hi
    obtain ⟨o, s, m', h1, h2, h3⟩ := codeA_sound hS a j hla hst h
    cases o with
    | normal =>
      obtain ⟨o2, s2, m2, h4, h5, h6⟩ := codeA_sound hS b _ hlb h2 h3
      exact ⟨o2, s2, m2, by simp only [evalCode, h1, h4], h5, h6⟩
    | exit i => exact ⟨_, s, m', by simp only [evalCode, h1], h2, h3⟩
    | ret => exact ⟨_, s, m', by simp only [evalCode, h1], h2, h3⟩
  | .cond c x y, j, st, m, k, r, hL, hst, h => by
    simp only [codeA] at h
    split at h
    · rename_i d
      split at h
      · rename_i t ht
        have h0 := slot_rel hst d
        rw [ht] at h0
        have h1 := brK_some (k := fun t => if t then codeA P S T.io L j x { st with sl := st.sl.set d (.sc (.bool t)) } k else codeA P S T.io L (j + nLoops x) y { st with sl := st.sl.set d (.sc (.bool t)) } k) h
        have h2 := setb_rel hst ht
        cases t with
        | true =>
          simp only [if_true] at h1
          obtain ⟨o, s, m', h4, h5, h6⟩ := codeA_sound hS x j (fun i c' hi => hL i c' (by rw [loopsIn, List.getElem?_append_left (List.getElem?_eq_some_iff.1 hi).1]; exact hi)) h2 h1
          exact ⟨o, s, m', by simp only [evalCode, St.ev, show m.slot d = _ from h0, if_true, h4], h5, h6⟩
        | false =>
          simp only [Bool.false_eq_true, if_false] at h1
          obtain ⟨o, s, m', h4, h5, h6⟩ := codeA_sound hS y _ (fun i c' hi => by
            rw [Nat.add_assoc]
            exact hL _ c' (by rw [loopsIn, List.getElem?_append_right (by rw [nLoops_eq]; omega), nLoops_eq, Nat.add_sub_cancel_left]; exact hi)) h2 h1
          exact ⟨o, s, m', by simp only [evalCode, St.ev, show m.slot d = _ from h0, Bool.false_eq_true, if_false, h4], h5, h6⟩
      · cases h
    · cases h
  | .block id c, j, st, m, k, r, hL, hst, h => by
    simp only [codeA] at h
    obtain ⟨o, s, m', h1, h2, h3⟩ := codeA_sound hS c j hL hst h
    cases o with
    | normal => exact ⟨_, s, m', by simp only [evalCode, h1], h2, h3⟩
    | exit i =>
      simp only at h3
      split at h3
      · rename_i hi; exact ⟨_, s, m', by simp only [evalCode, h1, if_pos hi], h2, h3⟩
      · rename_i hi; exact ⟨_, s, m', by simp only [evalCode, h1, if_neg hi], h2, h3⟩
    | ret => exact ⟨_, s, m', by simp only [evalCode, h1], h2, h3⟩
  | .loop c, j, st, m, k, r, hL, hst, h => by
    simp only [codeA] at h
    obtain ⟨o, s, m', h1, h2, h3⟩ := hL 0 c (by rw [loopsIn]; rfl) st m k r hst h
    exact ⟨o, s, m', h1, h2, h3⟩
  | .exit id, j, st, m, k, r, hL, hst, h => ⟨_, st, m, rfl, hst, h⟩
  | .ret, j, st, m, k, r, hL, hst, h => ⟨_, st, m, rfl, hst, h⟩
  | .rangeFunc _ _ _ _, _, _, _, _, _, _, _, h => by simp [codeA] at h
  | .scope _, _, _, _, _, _, _, _, h => by simp [codeA] at h
  | .label _, _, _, _, _, _, _, _, h => by simp [codeA] at h
  | .goto _, _, _, _, _, _, _, _, h => by simp [codeA] at h
  | .refuse _, _, _, _, _, _, _, _, h => by simp [codeA] at h

/-- Rounds that are told, one by one. -/
theorem unrollA_sound {W : Code → List Nat} {c : Code} {g : StA → (Out → StA → Option R) → Option R}
    (hg : ∀ st m k r, RelSt st m → g st k = some r → ∃ o s m', evalCode P T W FUEL c m = some (o, m') ∧ RelSt s m' ∧ k o s = some r) :
    ∀ (n : Nat) (st : StA) (m : St) (k : Out → StA → Option R) (r : R), RelSt st m → unrollA g (normA (W c)) n st k = some r → ∃ o s m', evalLoop (fun s => evalCode P T W FUEL c (normSt (W c) s)) n m = some (o, m') ∧ RelSt s m' ∧ k o s = some r
  | 0, _, _, _, _, _, h => by cases h
  | n + 1, st, m, k, r, hst, h => by
    simp only [unrollA] at h
    obtain ⟨o, s, m', h1, h2, h3⟩ := hg _ _ _ _ (normA_rel (W c) hst) h
    cases o with
    | normal =>
      obtain ⟨o2, s2, m2, h4, h5, h6⟩ := unrollA_sound hg n s m' k r h2 h3
      exact ⟨o2, s2, m2, by simp only [evalLoop, h1, h4], h5, h6⟩
    | exit i => exact ⟨_, s, m', by simp only [evalLoop, h1], h2, h3⟩
    | ret => exact ⟨_, s, m', by simp only [evalLoop, h1], h2, h3⟩

theorem resA_sound : ∀ {l : List ResultVar} {st : StA} {m : St} {k : List AV → Option R} {r : R}, RelSt st m → resA P st l k = some r → ∃ vs ms, resOf P m l = some ms ∧ RelT vs ms ∧ k vs = some r
  | [], st, m, k, r, hst, h => ⟨[], [], rfl, rfl, h⟩
  | .tmp t :: l, st, m, k, r, hst, h => by
    simp only [resA] at h
    obtain ⟨a, x, ns, h1, h2, h3⟩ := frzK_sound (ent_rel hst) h (slot_rel hst t)
    obtain ⟨vs, ms, h4, h5, h6⟩ := resA_sound hst h3
    exact ⟨a :: vs, x :: ms, by simp only [resOf, h1, h4], ⟨x, ms, rfl, h2, h5⟩, h6⟩
  | .cell a t :: l, st, m, k, r, hst, h => by
    simp only [resA] at h
    split at h
    · rename_i v hv
      obtain ⟨cs, hb, hv⟩ := Option.bind_eq_some_iff.1 hv
      obtain ⟨ms, r', h2, h3, _⟩ := behindA_rel (ent_rel hst) hb (slot_rel hst a)
      obtain ⟨mv, h7, h8⟩ := takeTA_rel (r := r') hv h3
      obtain ⟨b, x, ns, h1, h9, h10⟩ := frzK_sound (ent_rel hst) h h8
      obtain ⟨vs, ms, h4, h5, h6⟩ := resA_sound hst h10
      exact ⟨b :: vs, x :: ms, by simp only [resOf, h2, h4, h7, h1], ⟨x, ms, rfl, h9, h5⟩, h6⟩
    · cases h
theorem startSl_id {params : List TypeId} : ∀ (ms : List MV) (i : Nat), startSl P [] params i ms = some ms
  | [], _ => rfl
  | m :: ms, i => by simp [startSl, startSl_id ms (i + 1)]
theorem relEs_none : ∀ {n : Nat} {ms : List (Option Ent)}, ms.length = n → RelEs (List.replicate n none) ms
  | 0, [], _ => rfl
  | n + 1, m :: ms, h => ⟨m, ms, rfl, trivial, relEs_none (by simpa using h)⟩
/-- A function's body. -/
theorem bodyA_sound (hS : SOK S T) {f : FuncId} (hio : T.io f = []) {L : LTab R} (hL : ∀ j c, (∃ fn b, P.funcs[f]? = some fn ∧ fn.body = some b ∧ (loopsIn b)[j]? = some c) → LoopOK P T (deadAt (T.dd f)) L j c)
    {args : List AV} {ms : List MV} {k : AV → Option R} {r : R} (hr : RelT args ms) (h : bodyA P S T.io L f args k = some r) : ∃ a m, evalBody P T FUEL [] f ms = some (m, []) ∧ Rel a m ∧ k a = some r := by
  unfold bodyA at h
  split at h
  · cases h
  · rename_i fn hf
    split at h
    · rename_i c hc
      have hlen := relT_len hr
      obtain ⟨o, s, m', h1, h2, h3⟩ := codeA_sound (W := deadAt (T.dd f)) hS c 0 (m := { sl := ms ++ List.replicate (fn.ntmps - ms.length) undefM, en := startEn [] 0 ms ++ List.replicate (fn.ntmps - ms.length) none, ck := 1 })
        (fun i c' hi => by rw [Nat.zero_add]; exact hL i c' ⟨fn, c, hf, hc, hi⟩) ⟨relT_append hr (by rw [hlen]; exact relT_rep (a := .sc undef) (m := undefM) rfl _), relEs_none (by simp [startEn_len, hlen]), rfl⟩ h
      have hret : (resA P s fn.results.toList fun vs => match vs with | [v] => k v | vs => k (.tup vs)) = some r → ∃ a x, (match resOf P m' fn.results.toList with | some [v] => some v | some vs => some (.tup vs) | none => none) = some x ∧ Rel a x ∧ k a = some r := by
        intro h3
        obtain ⟨vs, xs, h4, h5, h6⟩ := resA_sound h2 h3
        rw [h4]
        match vs, h5, h6 with
        | [], h5, h6 => cases h5; exact ⟨.tup [], _, rfl, ⟨[], rfl, rfl⟩, h6⟩
        | [v], h5, h6 => obtain ⟨x, y, rfl, h7, rfl⟩ := h5; exact ⟨v, x, rfl, h7, h6⟩
        | v :: v2 :: vs, h5, h6 =>
          obtain ⟨x, y, rfl, h7, x2, y2, rfl, h8, h9⟩ := h5
          exact ⟨.tup (v :: v2 :: vs), _, rfl, ⟨_, rfl, x, _, rfl, h7, x2, _, rfl, h8, h9⟩, h6⟩
      have fin : (o = .normal ∨ o = .ret) → (resA P s fn.results.toList fun vs => match vs with | [v] => k v | vs => k (.tup vs)) = some r → ∃ a m, evalBody P T FUEL [] f ms = some (m, []) ∧ Rel a m ∧ k a = some r := by
        intro ho h3
        obtain ⟨a, x, h4, h5, h6⟩ := hret h3
        refine ⟨a, x, ?_, h5, h6⟩
        have hfl : (List.range' 0 ms.length).filter (fun i => ([] : List Nat).contains i) = [] := by simp
        unfold evalBody
        simp only [hf, hc, startSl_id]
        cases hres : resOf P m' fn.results.toList with
        | none => rw [hres] at h4; cases h4
        | some xs =>
          rw [hres] at h4
          rcases ho with rfl | rfl <;> simp only [h1, hres, hfl, outsOf] <;> (match xs, h4 with
            | [], h4 => cases h4; rfl
            | [v], h4 => cases h4; rfl
            | v :: v2 :: vs, h4 => cases h4; rfl)
      cases o with
      | normal => exact fin (.inl rfl) h3
      | ret => exact fin (.inr rfl) h3
      | exit i => cases h3
    · cases h
end Go.Proofs.YtkeelkeoijemiaaGreat.Ev

namespace Go.Proofs.YtkeelkeoijemiaaGreat.Ev
open Go Go.RowKit
set_option linter.unusedVariables false
set_option linter.unusedSimpArgs false

/-! Less may be told. -/
def keepL {α : Type} (I : List Nat) (d : α) : Nat → List α → List α
  | _, [] => []
  | i, a :: r => (if I.contains i then a else d) :: keepL I d (i + 1) r
/-- These slots and these entries alone. -/
def keepSt (I E : List Nat) (st : StA) : StA := { sl := keepL I .any 0 st.sl, en := keepL E none 0 st.en, ck := st.ck }
theorem keep_sl (I : List Nat) : ∀ {az : List AV} {ms : List MV} (i : Nat), RelT az ms → RelT (keepL I .any i az) ms
  | [], _, _, h => h
  | a :: az, _, i, h => by
    obtain ⟨m, r, rfl, h1, h2⟩ := h
    refine ⟨m, r, rfl, ?_, keep_sl I (i + 1) h2⟩
    split
    · exact h1
    · trivial
theorem keep_en (I : List Nat) : ∀ {az : List (Option EntA)} {ms : List (Option Ent)} (i : Nat), RelEs az ms → RelEs (keepL I none i az) ms
  | [], _, _, h => h
  | a :: az, _, i, h => by
    obtain ⟨m, r, rfl, h1, h2⟩ := h
    refine ⟨m, r, rfl, ?_, keep_en I (i + 1) h2⟩
    split
    · exact h1
    · trivial
theorem keep_rel {I E : List Nat} {st : StA} {m : St} (h : RelSt st m) : RelSt (keepSt I E st) m := ⟨keep_sl I 0 h.1, keep_en E 0 h.2.1, h.2.2⟩
def lookM : List (Nat × List Kd) → Nat → Option (List Kd)
  | [], _ => none
  | (j, sh) :: r, i => if j = i then some sh else lookM r i
def toBlk (sh : List Kd) : List AV → List AV
  | .blk sh' n F :: r => mergeC (.blk sh' n F :: r)
  | cs => mergeC (.blk sh 0 famZ :: cs)
theorem toBlk_rel {sh : List Kd} {cs : List AV} {ms : List MV} (h : RelC cs ms) : RelC (toBlk sh cs) ms := by
  unfold toBlk
  split
  · exact mergeC_rel h
  · exact mergeC_rel ⟨ms, rfl, fun i hi => by omega, h⟩
/-- Entries as long rows. -/
def blkE (M : List (Nat × List Kd)) : Nat → List (Option EntA) → List (Option EntA)
  | _, [] => []
  | i, e :: r => (match e, lookM M i with
    | some e, some sh => some { e with cells := toBlk sh e.cells }
    | e, _ => e) :: blkE M (i + 1) r
theorem blkE_rel (M : List (Nat × List Kd)) : ∀ {az : List (Option EntA)} {ms : List (Option Ent)} (i : Nat), RelEs az ms → RelEs (blkE M i az) ms
  | [], _, _, h => h
  | a :: az, _, i, h => by
    obtain ⟨m, r, rfl, h1, h2⟩ := h
    refine ⟨m, r, rfl, ?_, blkE_rel M (i + 1) h2⟩
    split
    · obtain ⟨x, rfl, e1, e2, e3⟩ := h1
      exact ⟨x, rfl, e1, e2, toBlk_rel e3⟩
    · exact h1
def headSt (I E : List Nat) (M : List (Nat × List Kd)) (st : StA) : StA := { keepSt I E st with en := blkE M 0 (keepSt I E st).en }
theorem head_rel {I E : List Nat} {M : List (Nat × List Kd)} {st : StA} {m : St} (h : RelSt st m) : RelSt (headSt I E M st) m := ⟨(keep_rel (I := I) (E := E) h).1, blkE_rel M 0 (keep_rel (I := I) (E := E) h).2.1, h.2.2⟩
/-- A state by some of its slots and entries. -/
def setL {α : Type} : List α → List (Nat × α) → List α
  | l, [] => l
  | l, (i, a) :: r => setL (l.set i a) r
def mkO (N : Nat) (s : List (Nat × AV)) (e : List (Nat × Option EntA)) (ck : Nat) : StA := { sl := setL (List.replicate N .any) s, en := setL (List.replicate N none) e, ck := ck }
abbrev mkSt (N : Nat) (s : List (Nat × AV)) (e : List (Nat × EntA)) (ck : Nat := 2) : StA := mkO N s (e.map fun x => (x.1, some x.2)) ck
theorem relT_set1 : ∀ {az : List AV} {ms : List MV} (i : Nat) {a : AV}, RelT az ms → (∀ m, ms[i]? = some m → Rel a m) → RelT (az.set i a) ms
  | [], _, i, a, h, _ => by cases h; rfl
  | b :: az, ms, 0, a, h, h1 => by obtain ⟨x, r, rfl, _, h2⟩ := h; exact ⟨x, r, rfl, h1 x rfl, h2⟩
  | b :: az, ms, i + 1, a, h, h1 => by obtain ⟨x, r, rfl, h3, h2⟩ := h; exact ⟨x, r, rfl, h3, relT_set1 i h2 fun m hm => h1 m (by simpa using hm)⟩
theorem relEs_set1 : ∀ {az : List (Option EntA)} {ms : List (Option Ent)} (i : Nat) {a : Option EntA}, RelEs az ms → (∀ m, ms[i]? = some m → RelE a m) → RelEs (az.set i a) ms
  | [], _, i, a, h, _ => by cases h; rfl
  | b :: az, ms, 0, a, h, h1 => by obtain ⟨x, r, rfl, _, h2⟩ := h; exact ⟨x, r, rfl, h1 x rfl, h2⟩
  | b :: az, ms, i + 1, a, h, h1 => by obtain ⟨x, r, rfl, h3, h2⟩ := h; exact ⟨x, r, rfl, h3, relEs_set1 i h2 fun m hm => h1 m (by simpa using hm)⟩
theorem setL_sl {h : StA} {m : St} (hr : RelSt h m) : ∀ (I : List Nat) {az : List AV}, RelT az m.sl → RelT (setL az (I.zip (I.map h.slot))) m.sl
  | [], _, h => h
  | i :: I, az, h0 => by
    simp only [List.map_cons, List.zip_cons_cons, setL]
    refine setL_sl hr I (relT_set1 i h0 fun x hx => ?_)
    have := slot_rel hr i
    unfold St.slot at this
    rw [List.getD_eq_getElem?_getD, hx] at this
    exact this
theorem setL_en {h : StA} {m : St} (hr : RelSt h m) : ∀ (E : List Nat) {az : List (Option EntA)}, RelEs az m.en → RelEs (setL az (E.zip (E.map h.ent))) m.en
  | [], _, h => h
  | i :: E, az, h0 => by
    simp only [List.map_cons, List.zip_cons_cons, setL]
    refine setL_en hr E (relEs_set1 i h0 fun x hx => ?_)
    have := ent_rel hr i
    unfold St.ent at this
    rw [List.getD_eq_getElem?_getD, hx] at this
    exact this
theorem relT_any : ∀ (ms : List MV), RelT (List.replicate ms.length .any) ms
  | [] => rfl
  | m :: ms => ⟨m, ms, rfl, trivial, relT_any ms⟩
theorem relEs_len : ∀ {az : List (Option EntA)} {ms : List (Option Ent)}, RelEs az ms → ms.length = az.length
  | [], _, h => by cases h; rfl
  | a :: az, _, h => by obtain ⟨m, r, rfl, _, h2⟩ := h; simp [relEs_len h2]
theorem mkO_rel {h : StA} {m : St} (hr : RelSt h m) (I E : List Nat) {N : Nat} (h1 : h.sl.length = N) (h2 : h.en.length = N) : RelSt (mkO N (I.zip (I.map h.slot)) (E.zip (E.map h.ent)) h.ck) m := by
  refine ⟨setL_sl hr I ?_, setL_en hr E ?_, hr.2.2⟩
  · rw [← h1, ← relT_len hr.1]; exact relT_any _
  · exact relEs_none (by rw [relEs_len hr.2.1, h2])

/-! Loops. -/
abbrev KA := Out → StA → Option AV
/-- Rounds, with what is kept at the head and what behind the loop. -/
def unrollR (g : StA → KA → Option AV) (nm keep keepX : StA → StA) : Nat → StA → KA → Option AV
  | 0, _, _ => none
  | n + 1, st, k => g st fun o s => match o with
    | .normal => unrollR g nm keep keepX n (keep (nm s)) k
    | o => k o (keepX s)
structure LSpec where
  I : List Nat
  E : List Nat
  Ix : List Nat
  Ex : List Nat
  M : List (Nat × List Kd)
  N : Nat
  sum : List AV → List (Option EntA) → KA → Option AV
/-- A round of loop j. -/
noncomputable def gA (S : CTab AV) (L : LTab AV) (f j : Nat) : StA → KA → Option AV := codeA PG S ioF L (j + 1) (bodyOf PG f j)
noncomputable def nA (f j : Nat) : StA → StA := normA (WF f (bodyOf PG f j))
/-- A round as it is stated: at the head again with what is kept, or out. -/
noncomputable def rdA (S : CTab AV) (L : LTab AV) (f j : Nat) (x : LSpec) (st : StA) (Kn : StA → Option AV) (Ke : KA) : Option AV :=
  gA S L f j st fun o s => match o with
    | .normal => Kn (headSt x.I x.E x.M (nA f j s))
    | o => Ke o (headSt x.Ix x.Ex x.M s)
noncomputable def unR (S : CTab AV) (L : LTab AV) (f j : Nat) (x : LSpec) : Nat → StA → KA → Option AV := unrollR (gA S L f j) (nA f j) (headSt x.I x.E x.M) (headSt x.Ix x.Ex x.M)
theorem unR_succ {S : CTab AV} {L : LTab AV} {f j : Nat} {x : LSpec} (n : Nat) (st : StA) (k : KA) : unR S L f j x (n + 1) st k = rdA S L f j x st (fun s => unR S L f j x n s k) k := by
  simp only [unR, rdA]
  rw [unrollR]

/-- Loops with a specification by it, others round by round. -/
noncomputable def autoL (S : CTab AV) (f : Nat) (sp : Nat → Option LSpec) : Nat → LTab AV
  | 0 => fun _ _ _ => none
  | d + 1 => fun j st k => match sp j with
    | some x => if (headSt x.I x.E x.M (nA f j st)).sl.length = x.N ∧ (headSt x.I x.E x.M (nA f j st)).en.length = x.N then
        x.sum (x.I.map (headSt x.I x.E x.M (nA f j st)).slot) (x.E.map (headSt x.I x.E x.M (nA f j st)).ent) k else none
    | none => unrollA (gA S (autoL S f sp d) f j) (nA f j) FUEL st k
/-- What a specification says holds of the rounds. -/
def SpecOK (S : CTab AV) (f : Nat) (sp : Nat → Option LSpec) : Prop := ∀ d j x, sp j = some x → ∀ sv ev k r, x.sum sv ev k = some r → unR S (autoL S f sp d) f j x FUEL (mkO x.N (x.I.zip sv) (x.E.zip ev) 2) k = some r

theorem loopsIn_in : ∀ (c : Code) (j : Nat) (b : Code), (loopsIn c)[j]? = some b → ∀ i b', (loopsIn b)[i]? = some b' → (loopsIn c)[j + 1 + i]? = some b'
  | .loop c, 0, b, h, i, b', h2 => by
    simp only [loopsIn, List.getElem?_cons_zero, Option.some.injEq] at h
    subst h
    rw [loopsIn, show 0 + 1 + i = i + 1 by omega]; exact h2
  | .loop c, j + 1, b, h, i, b', h2 => by
    rw [loopsIn, show j + 1 + 1 + i = (j + 1 + i) + 1 by omega]
    exact loopsIn_in c j b h i b' h2
  | .seq a c, j, b, h, i, b', h2 => by
    rw [loopsIn] at h ⊢
    by_cases hj : j < (loopsIn a).length
    · rw [List.getElem?_append_left hj] at h
      have := loopsIn_in a j b h i b' h2
      rw [List.getElem?_append_left (List.getElem?_eq_some_iff.1 this).1]; exact this
    · rw [List.getElem?_append_right (by omega)] at h
      rw [List.getElem?_append_right (by omega), show j + 1 + i - (loopsIn a).length = j - (loopsIn a).length + 1 + i by omega]
      exact loopsIn_in c _ b h i b' h2
  | .cond _ a c, j, b, h, i, b', h2 => by
    rw [loopsIn] at h ⊢
    by_cases hj : j < (loopsIn a).length
    · rw [List.getElem?_append_left hj] at h
      have := loopsIn_in a j b h i b' h2
      rw [List.getElem?_append_left (List.getElem?_eq_some_iff.1 this).1]; exact this
    · rw [List.getElem?_append_right (by omega)] at h
      rw [List.getElem?_append_right (by omega), show j + 1 + i - (loopsIn a).length = j - (loopsIn a).length + 1 + i by omega]
      exact loopsIn_in c _ b h i b' h2
  | .block _ c, j, b, h, i, b', h2 => loopsIn_in c j b h i b' h2
  | .skip, _, _, h, _, _, _ | .region _ _ _, _, _, h, _, _, _ | .exit _, _, _, h, _, _, _ | .ret, _, _, h, _, _, _ | .rangeFunc _ _ _ _, _, _, h, _, _, _ | .scope _, _, _, h, _, _, _ | .label _, _, _, h, _, _, _ | .goto _, _, _, h, _, _, _ | .refuse _, _, _, h, _, _, _ => by simp [loopsIn] at h

/-- Loop j of a function. -/
def IsLoop (f j : Nat) (c : Code) : Prop := ∃ fn b, PG.funcs[f]? = some fn ∧ fn.body = some b ∧ (loopsIn b)[j]? = some c
theorem isLoop_eq {f j : Nat} {c : Code} (h : IsLoop f j c) : bodyOf PG f j = c := by
  obtain ⟨fn, b, h1, h2, h3⟩ := h
  simp only [bodyOf, h1, h2, List.getD_eq_getElem?_getD, h3, Option.getD_some]
theorem isLoop_in {f j i : Nat} {c c' : Code} (h : IsLoop f j c) (h2 : (loopsIn c)[i]? = some c') : IsLoop f (j + 1 + i) c' := by
  obtain ⟨fn, b, h1, h3, h4⟩ := h
  exact ⟨fn, b, h1, h3, loopsIn_in b j c h4 i c' h2⟩
theorem unrollR_sound {T : Tab} {W : Code → List Nat} {c : Code} {g : StA → KA → Option AV} {I E Ix Ex : List Nat} {M : List (Nat × List Kd)}
    (hg : ∀ st m k r, RelSt st m → g st k = some r → ∃ o s m', evalCode PG T W FUEL c m = some (o, m') ∧ RelSt s m' ∧ k o s = some r) :
    ∀ (n : Nat) (st : StA) (m : St) (k : KA) (r : AV), RelSt st m → unrollR g (normA (W c)) (headSt I E M) (headSt Ix Ex M) n st k = some r → ∃ o s m', headLoop (evalCode PG T W FUEL c) (normSt (W c)) n m = some (o, m') ∧ RelSt s m' ∧ k o s = some r
  | 0, _, _, _, _, _, h => by cases h
  | n + 1, st, m, k, r, hst, h => by
    simp only [unrollR] at h
    obtain ⟨o, s, m', h1, h2, h3⟩ := hg _ _ _ _ hst h
    cases o with
    | normal =>
      obtain ⟨o2, s2, m2, h4, h5, h6⟩ := unrollR_sound hg n _ _ k r (head_rel (normA_rel (W c) h2)) h3
      exact ⟨o2, s2, m2, by simp only [headLoop, h1, h4], h5, h6⟩
    | exit i => exact ⟨_, _, m', by simp only [headLoop, h1], head_rel h2, h3⟩
    | ret => exact ⟨_, _, m', by simp only [headLoop, h1], head_rel h2, h3⟩
theorem autoL_ok {S : CTab AV} {T : Tab} (hS : SOK S T) (hio : TO T) {f : Nat} {sp : Nat → Option LSpec} (hsp : SpecOK S f sp) : ∀ (d j : Nat) (c : Code), IsLoop f j c → LoopOK PG T (deadAt (T.dd f)) (autoL S f sp d) j c
  | 0, j, c, hc => fun st m k r _ h => by cases h
  | d + 1, j, c, hc => fun st m k r hst h => by
    obtain ⟨hio1, hdd⟩ := hio
    have ih := fun i c' (hi : (loopsIn c)[i]? = some c') => autoL_ok hS ⟨hio1, hdd⟩ hsp d (j + 1 + i) c' (isLoop_in hc hi)
    have hb := isLoop_eq hc
    have hg : ∀ st m k r, RelSt st m → gA S (autoL S f sp d) f j st k = some r → ∃ o s m', evalCode PG T (deadAt (T.dd f)) FUEL c m = some (o, m') ∧ RelSt s m' ∧ k o s = some r := by
      intro st m k r hst h
      rw [gA, hb, ← hio1] at h
      exact codeA_sound hS c (j + 1) ih hst h
    simp only [autoL] at h
    have hn : nA f j = normA (deadAt (T.dd f) c) := by rw [nA, hb, WF, hdd]
    cases hs : sp j with
    | none =>
      rw [hs] at h
      simp only [hn] at h
      exact unrollA_sound hg FUEL st m k r hst h
    | some x =>
      rw [hs] at h
      simp only at h
      split at h
      · rename_i hlen
        have h1 := hsp d j x hs _ _ k r h
        simp only [unR, hn] at h1
        simp only [hn] at hlen
        have hrel := mkO_rel (N := x.N) (head_rel (I := x.I) (E := x.E) (M := x.M) (normA_rel (deadAt (T.dd f) c) hst)) x.I x.E hlen.1 hlen.2
        have hck : (headSt x.I x.E x.M (normA (deadAt (T.dd f) c) st)).ck = 2 := rfl
        rw [hck] at hrel
        obtain ⟨o, s, m', h2, h3, h4⟩ := unrollR_sound hg FUEL _ _ k r hrel h1
        exact ⟨o, s, m', by rw [headLoop_eq]; exact h2, h3, h4⟩
      · cases h

/-! Capacities. -/
theorem uncaps_rC (p : Rat) : uncaps (rC p) = rC p := by simp [rC, iC, uncaps, uncap]; rfl
theorem uncaps_leaves : ∀ l : List Leaf, uncaps (leavesC l) = leavesC l
  | [] => rfl
  | .v x :: l => by
    have := uncaps_leaves l
    simp only [leavesC, List.flatMap_cons, leafC, List.cons_append, List.nil_append, uncaps, uncap] at this ⊢
    rw [this]
  | .q k p :: l => by
    have := uncaps_leaves l
    simp only [leavesC, List.flatMap_cons, leafC] at this ⊢
    rw [uncaps_append, this, uncaps_rC]
theorem uncaps_blk (f : Nat → List Leaf) : ∀ n, uncaps (blkC f n) = blkC f n
  | 0 => rfl
  | n + 1 => by rw [blkC, uncaps_append, uncaps_blk f n, uncaps_leaves]
theorem uncapA_part {a : AV} (h : isPart a = false) : isPart (uncapA a) = false := by cases a <;> first | exact h | rfl
mutual
theorem uncapA_rel : ∀ (a : AV) (m : MV), Rel a m → Rel (uncapA a) (uncap m)
  | .sc _, _, h => by cases h; rfl
  | .q _ p, _, h => by obtain ⟨rfl, h1⟩ := h; exact ⟨by rw [rM, uncap, uncaps_rC], h1⟩
  | .blk _ _ _, _, h => by cases h
  | .fs _ _ cs, _, h => by obtain ⟨ms, rfl, h1⟩ := h; exact ⟨_, rfl, uncapC_rel cs ms h1⟩
  | .arr _ _ _ _, _, h => by obtain ⟨rfl, h1⟩ := h; exact ⟨by rw [uncap, uncaps_blk], h1⟩
  | .cp cs, _, h => by obtain ⟨ms, r, rfl, h1⟩ := h; exact ⟨_, uncaps r, by rw [uncap, uncaps_append], uncapC_rel cs ms h1⟩
  | .pte _ _ _ _ _, _, h => by cases h; rfl
  | .any, _, h => trivial
  | .agg cs, _, h => by obtain ⟨ms, rfl, h1⟩ := h; exact ⟨_, rfl, uncapC_rel cs ms h1⟩
  | .tup cs, _, h => by obtain ⟨ms, rfl, h1⟩ := h; exact ⟨_, rfl, uncapT_rel cs ms h1⟩
  | .fn f cs, _, h => by obtain ⟨ms, rfl, h1⟩ := h; exact ⟨_, rfl, uncapT_rel cs ms h1⟩
  | .ptr _ _ _, _, h => by cases h; rfl
  | .row _ _ _ _ _ _, _, h => by cases h; rfl
theorem uncapT_rel : ∀ (cs : List AV) (ms : List MV), RelT cs ms → RelT (uncapAs cs) (uncaps ms)
  | [], _, h => by cases h; rfl
  | a :: az, _, h => by obtain ⟨m, r, rfl, h1, h2⟩ := h; exact ⟨_, _, rfl, uncapA_rel a m h1, uncapT_rel az r h2⟩
theorem uncapC_rel : ∀ (cs : List AV) (ms : List MV), RelC cs ms → RelC (uncapAs cs) (uncaps ms)
  | [], _, h => by cases h; rfl
  | a :: az, ms, h => by
    by_cases hp : isPart a = true
    · cases a with
      | q k p =>
        obtain ⟨r, rfl, h1, h2⟩ := h
        exact ⟨uncaps r, by rw [uncaps_append, uncaps_rC], h1, uncapC_rel az r h2⟩
      | blk w n f =>
        obtain ⟨r, rfl, h1, h2⟩ := h
        exact ⟨uncaps r, by rw [uncaps_append, uncaps_blk], h1, uncapC_rel az r h2⟩
      | _ => cases hp
    · have hp' : isPart a = false := by simpa using hp
      obtain ⟨m, r, rfl, h1, h2⟩ := (relC_cons hp').1 h
      exact (relC_cons (uncapA_part hp')).2 ⟨_, _, rfl, uncapA_rel a m h1, uncapC_rel az r h2⟩
end

/-! Contracts. -/
/-- What a function answers. -/
structure Ctr where
  f : Nat
  run : List AV → List (Bool × AV)
  lv : Nat
  ok : ∀ n, lv ≤ n → ∀ args r ms, (true, r) ∈ run args → RelT args ms → ∃ m, (TU n).call f ms = some (m, []) ∧ Rel r m
def tabS : List Ctr → FuncId → List AV → List (Bool × AV)
  | [], _, _ => []
  | e :: l, f, args => if f = e.f then e.run args else tabS l f args
def tabL : List Ctr → Nat
  | [] => 0
  | e :: l => max e.lv (tabL l)
theorem tabS_ok : ∀ (l : List Ctr) {n : Nat}, tabL l ≤ n → ∀ f args r ms, (true, r) ∈ tabS l f args → RelT args ms → ∃ m, (TU n).call f ms = some (m, []) ∧ Rel r m
  | [], _, _ => fun f args r ms h _ => by cases h
  | e :: l, n, hn => fun f args r ms h hr => by
    simp only [tabL] at hn
    simp only [tabS] at h
    split at h
    · rename_i hf; subst hf; exact e.ok n (by omega) args r ms h hr
    · exact tabS_ok l (by omega) f args r ms h hr
def noSp : Nat → Option LSpec := fun _ => none
theorem noSp_ok {S : CTab AV} {f : Nat} : SpecOK S f noSp := fun _ _ _ h => by cases h
/-- Calls: by their contracts; what has none is walked through, so many calls deep. -/
noncomputable def hC (l : List Ctr) : Nat → CTab AV
  | 0 => fun f args k => altK (tabS l f args) k
  | d + 1 => fun f args k => match tabS l f args with
    | [] => match ioF f, kpF f with
      | [], false => bodyA PG (hC l d) ioF (autoL (hC l d) f noSp 3) f (uncapAs args) fun r => k (uncapA r)
      | _, _ => none
    | x :: y => altK (x :: y) k
/-- A body, by contracts. -/
noncomputable def bdA (l : List Ctr) (d f : Nat) (sp : Nat → Option LSpec) (args : List AV) (k : AV → Option AV) : Option AV := bodyA PG (hC l d) ioF (autoL (hC l d) f sp 3) f args k
theorem bdA_sound {l : List Ctr} {d n f : Nat} {sp : Nat → Option LSpec} (hS : SOK (hC l d) (TU n)) (hsp : SpecOK (hC l d) f sp) (hio : ioF f = []) (hk : kpF f = false) {args : List AV} {ms : List MV} {k : AV → Option AV} {r : AV}
    (hr : RelT args (uncaps ms)) (h : bdA l d f sp args k = some r) : ∃ a m, (TU (n + 1)).call f ms = some (uncap m, []) ∧ Rel a m ∧ k a = some r := by
  have hT := TU_io n
  rw [bdA, ← hT.1] at h
  rw [hT.1] at h
  rw [← hT.1] at h
  obtain ⟨a', m, h5, h6, h7⟩ := bodyA_sound hS (f := f) (by rw [hT.1]; exact hio) (L := autoL (hC l d) f sp 3) (fun j c hc => autoL_ok hS hT hsp 3 j c hc) hr h
  exact ⟨a', m, TU_call (m := n + 1) (by omega) hio hk rfl (by rw [hio]; exact h5) rfl, h6, h7⟩
theorem hC_ok (l : List Ctr) : ∀ (d : Nat) {n : Nat}, tabL l + d ≤ n → SOK (hC l d) (TU n)
  | 0, n, hn => fun f args k r ms h hr => by
    obtain ⟨a, h1, h2⟩ := altK_some h
    obtain ⟨m, h3, h4⟩ := tabS_ok l (n := n) (by omega) f args a ms h1 hr
    exact ⟨a, m, h3, h4, h2⟩
  | d + 1, n, hn => fun f args k r ms h hr => by
    simp only [hC] at h
    split at h
    · split at h
      · rename_i hio hk
        obtain ⟨n, rfl⟩ : ∃ q, n = q + 1 := ⟨n - 1, by omega⟩
        obtain ⟨a, m, h1, h2, h3⟩ := bdA_sound (hC_ok l d (n := n) (by omega)) noSp_ok hio hk (uncapT_rel args ms hr) h
        exact ⟨uncapA a, uncap m, h1, uncapA_rel a m h2, h3⟩
      · cases h
    · rename_i x y hxy
      obtain ⟨a, h1, h2⟩ := altK_some h
      rw [← hxy] at h1
      obtain ⟨m, h3, h4⟩ := tabS_ok l (n := n) (by omega) f args a ms h1 hr
      exact ⟨a, m, h3, h4, h2⟩
/-- From the body to the contract. -/
theorem ctr_ok {l : List Ctr} {d f : Nat} {sp : Nat → Option LSpec} (hsp : SpecOK (hC l d) f sp) (hio : ioF f = []) (hk : kpF f = false) {run : List AV → List (Bool × AV)}
    (h : ∀ args r, (true, r) ∈ run args → ∃ a r', (∀ ms, RelT (uncapAs args) ms → RelT a ms) ∧ bdA l d f sp a some = some r' ∧ ∀ m, Rel (uncapA r') m → Rel r m) :
    ∀ n, tabL l + d + 1 ≤ n → ∀ args r ms, (true, r) ∈ run args → RelT args ms → ∃ m, (TU n).call f ms = some (m, []) ∧ Rel r m := by
  intro n hn args r ms h1 hr
  obtain ⟨n, rfl⟩ : ∃ k, n = k + 1 := ⟨n - 1, by omega⟩
  obtain ⟨a, r', h4, h2, h3⟩ := h args r h1
  obtain ⟨a', m, h5, h6, h7⟩ := bdA_sound (hC_ok l d (n := n) (by omega)) hsp hio hk (h4 _ (uncapT_rel args ms hr)) h2
  cases h7
  exact ⟨uncap m, h5, h3 _ (uncapA_rel _ _ h6)⟩
end Go.Proofs.YtkeelkeoijemiaaGreat.Ev

namespace Go.Proofs.YtkeelkeoijemiaaGreat.Ev
open Go
set_option linter.unusedVariables false
set_option linter.unusedSimpArgs false
set_option maxRecDepth 100000

def L_ref01_trim_0 (n v m : Nat) (c : Option Nat) (cs : List MV) : St := { sl := [MV.fs m c cs, undefM, MV.fs 0 (some 0) []] ++ rp 18 MV.any, en := rp 21 none, ck := 2 }

theorem r_ref01_trim_0_0 {T : Tab} (hio : TO T) (n v m : Nat) (c : Option Nat) (cs : List MV) (x0 : Int) (h0 : (bN (decide ((m : Int) > (0 : Int))) : MV) = .sc (.bool true)) (h1 : (0 : Int) ≤ (IntKind.i64.wrap ((m : Int) - (1 : Int))) ∧ (IntKind.i64.wrap ((m : Int) - (1 : Int))) < ((m : Nat) : Int) ∧ (cs : List MV) ≠ []) (h2 : takeAs false 1 (cs.drop (((IntKind.i64.wrap ((m : Int) - (1 : Int))).toNat) * 1)) = some (uN x0)) (h3 : (bN (x0 == (0 : Int)) : MV) = .sc (.bool true)) (h4 : (0 : Int) ≤ (IntKind.i64.wrap ((m : Int) - (1 : Int))) ∧ (IntKind.i64.wrap ((m : Int) - (1 : Int))) ≤ ((m : Nat) : Int))  : ∃ s_, gC T fn_ref01_trim 0 (L_ref01_trim_0 n v m c cs) = some (.normal, s_) ∧ nM fn_ref01_trim 0 s_ = (L_ref01_trim_0 n v ((IntKind.i64.wrap ((m : Int) - (1 : Int))).toNat) (c.map (· - 0)) (cs.take (((IntKind.i64.wrap ((m : Int) - (1 : Int))).toNat) * 1))) :=
  rd_ok hio (h := true) (orc := [.br true, .val (uN x0), .br true]) (by kernel_rfl) (owc h0 (owc h1 (owc h2 (owc h3 (ow1 h4))))) (by kernel_rfl)

noncomputable def X_ref01_trim_0_1 (n v m : Nat) (c : Option Nat) (cs : List MV) : St := xr true fn_ref01_trim 0 (L_ref01_trim_0 n v m c cs) [.br false, .auto]

theorem r_ref01_trim_0_1 {T : Tab} (hio : TO T) (n v m : Nat) (c : Option Nat) (cs : List MV) (h0 : (bN (decide ((m : Int) > (0 : Int))) : MV) = .sc (.bool false)) : gC T fn_ref01_trim 0 (L_ref01_trim_0 n v m c cs) = some (.exit 0, (X_ref01_trim_0_1 n v m c cs)) :=
  ex_ok hio (h := true) (orc := [.br false, .auto]) (by kernel_rfl) (ow1 h0)

noncomputable def X_ref01_trim_0_2 (n v m : Nat) (c : Option Nat) (cs : List MV) (x0 : Int) : St := xr true fn_ref01_trim 0 (L_ref01_trim_0 n v m c cs) [.br true, .val (uN x0), .br false]

theorem r_ref01_trim_0_2 {T : Tab} (hio : TO T) (n v m : Nat) (c : Option Nat) (cs : List MV) (x0 : Int) (h0 : (bN (decide ((m : Int) > (0 : Int))) : MV) = .sc (.bool true)) (h1 : (0 : Int) ≤ (IntKind.i64.wrap ((m : Int) - (1 : Int))) ∧ (IntKind.i64.wrap ((m : Int) - (1 : Int))) < ((m : Nat) : Int) ∧ (cs : List MV) ≠ []) (h2 : takeAs false 1 (cs.drop (((IntKind.i64.wrap ((m : Int) - (1 : Int))).toNat) * 1)) = some (uN x0)) (h3 : (bN (x0 == (0 : Int)) : MV) = .sc (.bool false)) : gC T fn_ref01_trim 0 (L_ref01_trim_0 n v m c cs) = some (.exit 0, (X_ref01_trim_0_2 n v m c cs x0)) :=
  ex_ok hio (h := true) (orc := [.br true, .val (uN x0), .br false]) (by kernel_rfl) (owc h0 (owc h1 (owc h2 (ow1 h3))))

theorem p_ref01_trim_x0_0 {T : Tab} (hio : TO T) (n v m : Nat) (c : Option Nat) (cs : List MV) (h0 : lp T fn_ref01_trim 0 (L_ref01_trim_0 n v n none (dg n v)) (.exit 0) (X_ref01_trim_0_1 n v m c cs)) : evalBody PG T FUEL (ioF fn_ref01_trim) fn_ref01_trim [MV.fs n none (dg n v)] = some (MV.fs m c cs, []) :=
  xBody_io (hard := true) hio (orc := [.loop (.exit 0) (X_ref01_trim_0_1 n v m c cs)]) (by kernel_rfl) (ow1 h0)

theorem p_ref01_trim_x1_0 {T : Tab} (hio : TO T) (n v m : Nat) (c : Option Nat) (cs : List MV) (x0 : Int) (h0 : lp T fn_ref01_trim 0 (L_ref01_trim_0 n v n none (dg n v)) (.exit 0) (X_ref01_trim_0_2 n v m c cs x0)) : evalBody PG T FUEL (ioF fn_ref01_trim) fn_ref01_trim [MV.fs n none (dg n v)] = some (MV.fs m c cs, []) :=
  xBody_io (hard := true) hio (orc := [.loop (.exit 0) (X_ref01_trim_0_2 n v m c cs x0)]) (by kernel_rfl) (ow1 h0)

theorem p_ref01_signed_0 {T : Tab} (hio : TO T) (n v : Nat) (s : Bool) (h0 : T.call fn_ref01_trim [MV.fs n none (dg n v)] = some (MV.fs (nl v) none (dg (nl v) v), [])) (h1 : (bN s : MV) = .sc (.bool true)) (h2 : 1 = 1 ∧ false = false ∧ 2 = 2 ∧ 2 ≤ 2) : evalBody PG T FUEL (ioF fn_ref01_signed) fn_ref01_signed [bN s, MV.fs n none (dg n v)] = some (MV.agg [bN (decide (((nl v : Nat) : Int) > (0 : Int))), MV.fs (nl v) none (dg (nl v) v)], []) :=
  xBody_io (hard := true) hio (orc := [.call (MV.fs (nl v) none (dg (nl v) v)) [], .br true]) (by kernel_rfl) (owc h0 (owc h1 (ow1 h2)))

theorem p_ref01_signed_1 {T : Tab} (hio : TO T) (n v : Nat) (s : Bool) (h0 : T.call fn_ref01_trim [MV.fs n none (dg n v)] = some (MV.fs (nl v) none (dg (nl v) v), [])) (h1 : (bN s : MV) = .sc (.bool false)) (h2 : 1 = 1 ∧ false = false ∧ 2 = 2 ∧ 2 ≤ 2) : evalBody PG T FUEL (ioF fn_ref01_signed) fn_ref01_signed [bN s, MV.fs n none (dg n v)] = some (MV.agg [bN false, MV.fs (nl v) none (dg (nl v) v)], []) :=
  xBody_io (hard := true) hio (orc := [.call (MV.fs (nl v) none (dg (nl v) v)) [], .br false]) (by kernel_rfl) (owc h0 (owc h1 (ow1 h2)))

def L_ref01_limbs_0 (x t0 : Int) : St := { sl := [wN t0, undefM, MV.fs 0 (some 0) [], MV.fs 0 (some 0) []] ++ rp 11 MV.any, en := rp 15 none, ck := 2 }

def L_ref01_limbs_0B (x t0 : Int) (n3 : Nat) (c3 : Option Nat) (cs : List MV) : St := { sl := [wN t0, undefM, MV.fs 0 (some 0) [], MV.row 11 1 0 n3 c3 1] ++ rp 11 MV.any, en := rp 11 none ++ [some ⟨1, cs, false⟩, none, none, none], ck := 2 }

theorem r_ref01_limbs_0_0 {T : Tab} (hio : TO T) (x t0 : Int) (h0 : (bN (decide (t0 > (0 : Int))) : MV) = .sc (.bool true)) (h1 : (1000000000 : Int) ≠ 0) (h2 : (1000000000 : Int) ≠ 0)  : ∃ s_, gC T fn_ref01_limbs 0 (L_ref01_limbs_0 x t0) = some (.normal, s_) ∧ nM fn_ref01_limbs 0 s_ = (L_ref01_limbs_0B x (IntKind.u64.wrap (t0.tdiv (1000000000 : Int))) 1 none ([uN (IntKind.u32.wrap (t0.tmod (1000000000 : Int)))])) :=
  rd_ok hio (h := true) (orc := [.br true, .auto]) (by kernel_rfl) (owc h0 (owc h1 (ow1 h2))) (by kernel_rfl)

noncomputable def X_ref01_limbs_0_1 (x t0 : Int) : St := xr true fn_ref01_limbs 0 (L_ref01_limbs_0 x t0) [.br false]

theorem r_ref01_limbs_0_1 {T : Tab} (hio : TO T) (x t0 : Int) (h0 : (bN (decide (t0 > (0 : Int))) : MV) = .sc (.bool false)) : gC T fn_ref01_limbs 0 (L_ref01_limbs_0 x t0) = some (.exit 0, (X_ref01_limbs_0_1 x t0)) :=
  ex_ok hio (h := true) (orc := [.br false]) (by kernel_rfl) (ow1 h0)

theorem r_ref01_limbs_0B_0 {T : Tab} (hio : TO T) (x t0 : Int) (n3 : Nat) (c3 : Option Nat) (cs : List MV) (h0 : (bN (decide (t0 > (0 : Int))) : MV) = .sc (.bool true)) (h1 : (1000000000 : Int) ≠ 0) (h2 : 1 = 1 ∧ ([uN (IntKind.u32.wrap (t0.tmod (1000000000 : Int)))]).all cellOk = true ∧ 1 = 1 ∧ 1 ≠ 0 ∧ false = false ∧ 1 = 1 ∧ (0 + (n3 * 1)) = cs.length ∧ n3 + 1 ≤ 1073741824 ∧ [10].contains 11 = false) (h3 : (1000000000 : Int) ≠ 0) (hn11 : NoNames (cs ++ ([uN (IntKind.u32.wrap (t0.tmod (1000000000 : Int)))]))) : ∃ s_, gC T fn_ref01_limbs 0 (L_ref01_limbs_0B x t0 n3 c3 cs) = some (.normal, s_) ∧ nM fn_ref01_limbs 0 s_ = (L_ref01_limbs_0B x (IntKind.u64.wrap (t0.tdiv (1000000000 : Int))) (n3 + 1) (capIn c3 (n3 + 1)) (cs ++ ([uN (IntKind.u32.wrap (t0.tmod (1000000000 : Int)))]))) :=
  rd_fill hio (h := true) (orc := [.br true, .br true]) (q0 := 11) (c0 := cs ++ ([uN (IntKind.u32.wrap (t0.tmod (1000000000 : Int)))])) (n0 := (L_ref01_limbs_0B x (IntKind.u64.wrap (t0.tdiv (1000000000 : Int))) (n3 + 1) (capIn c3 (n3 + 1)) ([]))) (by kernel_rfl) (owc h0 (owc h1 (owc h2 (ow1 h3)))) (by kernel_rfl) (by kernel_rfl) (by kernel_rfl) hn11

noncomputable def X_ref01_limbs_0B_1 (x t0 : Int) (n3 : Nat) (c3 : Option Nat) (cs : List MV) : St := xr true fn_ref01_limbs 0 (L_ref01_limbs_0B x t0 n3 c3 cs) [.br false]

theorem r_ref01_limbs_0B_1 {T : Tab} (hio : TO T) (x t0 : Int) (n3 : Nat) (c3 : Option Nat) (cs : List MV) (h0 : (bN (decide (t0 > (0 : Int))) : MV) = .sc (.bool false)) : gC T fn_ref01_limbs 0 (L_ref01_limbs_0B x t0 n3 c3 cs) = some (.exit 0, (X_ref01_limbs_0B_1 x t0 n3 c3 cs)) :=
  ex_ok hio (h := true) (orc := [.br false]) (by kernel_rfl) (ow1 h0)

theorem p_ref01_limbs_x0_0 {T : Tab} (hio : TO T) (x t0 : Int) (h0 : lp T fn_ref01_limbs 0 (L_ref01_limbs_0 x x) (.exit 0) (X_ref01_limbs_0_1 x t0)) : evalBody PG T FUEL (ioF fn_ref01_limbs) fn_ref01_limbs [wN x] = some (MV.fs 0 (some 0) [], []) :=
  xBody_io (hard := true) hio (orc := [.loop (.exit 0) (X_ref01_limbs_0_1 x t0)]) (by kernel_rfl) (ow1 h0)

theorem p_ref01_limbs_x1_0 {T : Tab} (hio : TO T) (x t0 : Int) (n3 : Nat) (c3 : Option Nat) (cs : List MV) (h0 : lp T fn_ref01_limbs 0 (L_ref01_limbs_0 x x) (.exit 0) (X_ref01_limbs_0B_1 x t0 n3 c3 cs)) (h1 : 1 = 1 ∧ 1 ≠ 0 ∧ 0 + (n3 * 1) ≤ cs.length ∧ Plain (cs.take (n3 * 1))) : evalBody PG T FUEL (ioF fn_ref01_limbs) fn_ref01_limbs [wN x] = some (MV.fs n3 c3 (cs.take (n3 * 1)), []) :=
  xBody_io (hard := true) hio (orc := [.loop (.exit 0) (X_ref01_limbs_0B_1 x t0 n3 c3 cs)]) (by kernel_rfl) (owc h0 (ow1 h1))

def L_ref01_short_0 (n v : Nat) (t3 t4 : Int) : St := { sl := [MV.fs n none (dg n v), undefM, wN 0, wN t3, iN t4] ++ rp 16 MV.any, en := rp 21 none, ck := 2 }

theorem r_ref01_short_0_0 {T : Tab} (hio : TO T) (n v : Nat) (t3 t4 : Int) (h0 : (bN (decide (t4 ≥ (0 : Int))) : MV) = .sc (.bool true)) (h1 : (0 : Int) ≤ t4 ∧ t4 < ((n : Nat) : Int) ∧ ((dg n v) : List MV) ≠ []) (h2 : takeAs false 1 ((dg n v).drop (t4.toNat * 1)) = some (uN ((dgt v t4.toNat : Nat) : Int)))  : ∃ s_, gC T fn_ref01_short 0 (L_ref01_short_0 n v t3 t4) = some (.normal, s_) ∧ nM fn_ref01_short 0 s_ = (L_ref01_short_0 n v (IntKind.u64.wrap ((IntKind.u64.wrap (t3 * (1000000000 : Int))) + (IntKind.u64.wrap ((dgt v t4.toNat : Nat) : Int)))) (IntKind.i64.wrap (t4 - (1 : Int)))) :=
  rd_ok hio (h := true) (orc := [.br true, .val (uN ((dgt v t4.toNat : Nat) : Int))]) (by kernel_rfl) (owc h0 (owc h1 (ow1 h2))) (by kernel_rfl)

noncomputable def X_ref01_short_0_1 (n v : Nat) (t3 t4 : Int) : St := xr true fn_ref01_short 0 (L_ref01_short_0 n v t3 t4) [.br false]

theorem r_ref01_short_0_1 {T : Tab} (hio : TO T) (n v : Nat) (t3 t4 : Int) (h0 : (bN (decide (t4 ≥ (0 : Int))) : MV) = .sc (.bool false)) : gC T fn_ref01_short 0 (L_ref01_short_0 n v t3 t4) = some (.exit 0, (X_ref01_short_0_1 n v t3 t4)) :=
  ex_ok hio (h := true) (orc := [.br false]) (by kernel_rfl) (ow1 h0)

theorem p_ref01_short_x0_0 {T : Tab} (hio : TO T) (n v : Nat) (t3 t4 : Int) (h0 : lp T fn_ref01_short 0 (L_ref01_short_0 n v 0 (IntKind.i64.wrap ((n : Int) - (1 : Int)))) (.exit 0) (X_ref01_short_0_1 n v t3 t4)) : evalBody PG T FUEL (ioF fn_ref01_short) fn_ref01_short [MV.fs n none (dg n v)] = some (wN t3, []) :=
  xBody_io (hard := true) hio (orc := [.loop (.exit 0) (X_ref01_short_0_1 n v t3 t4)]) (by kernel_rfl) (ow1 h0)

def L_ref01_compare_0 (n v m w : Nat) (t5 : Int) : St := { sl := [MV.fs n none (dg n v), MV.fs m none (dg m w), undefM, undefM, iN 0, iN t5] ++ rp 35 MV.any, en := rp 41 none, ck := 2 }

noncomputable def X_ref01_compare_0_0 (n v m w : Nat) (t5 : Int) : St := xr true fn_ref01_compare 0 (L_ref01_compare_0 n v m w t5) [.br true, .val (uN ((dgt v t5.toNat : Nat) : Int)), .val (uN ((dgt w t5.toNat : Nat) : Int)), .br true]

theorem r_ref01_compare_0_0 {T : Tab} (hio : TO T) (n v m w : Nat) (t5 : Int) (h0 : (bN (decide (t5 ≥ (0 : Int))) : MV) = .sc (.bool true)) (h1 : (0 : Int) ≤ t5 ∧ t5 < ((n : Nat) : Int) ∧ ((dg n v) : List MV) ≠ []) (h2 : takeAs false 1 ((dg n v).drop (t5.toNat * 1)) = some (uN ((dgt v t5.toNat : Nat) : Int))) (h3 : (0 : Int) ≤ t5 ∧ t5 < ((m : Nat) : Int) ∧ ((dg m w) : List MV) ≠ []) (h4 : takeAs false 1 ((dg m w).drop (t5.toNat * 1)) = some (uN ((dgt w t5.toNat : Nat) : Int))) (h5 : (bN (decide (((dgt v t5.toNat : Nat) : Int) < ((dgt w t5.toNat : Nat) : Int))) : MV) = .sc (.bool true)) : gC T fn_ref01_compare 0 (L_ref01_compare_0 n v m w t5) = some (.ret, (X_ref01_compare_0_0 n v m w t5)) :=
  ex_ok hio (h := true) (orc := [.br true, .val (uN ((dgt v t5.toNat : Nat) : Int)), .val (uN ((dgt w t5.toNat : Nat) : Int)), .br true]) (by kernel_rfl) (owc h0 (owc h1 (owc h2 (owc h3 (owc h4 (ow1 h5))))))

noncomputable def X_ref01_compare_0_1 (n v m w : Nat) (t5 : Int) : St := xr true fn_ref01_compare 0 (L_ref01_compare_0 n v m w t5) [.br false]

theorem r_ref01_compare_0_1 {T : Tab} (hio : TO T) (n v m w : Nat) (t5 : Int) (h0 : (bN (decide (t5 ≥ (0 : Int))) : MV) = .sc (.bool false)) : gC T fn_ref01_compare 0 (L_ref01_compare_0 n v m w t5) = some (.exit 0, (X_ref01_compare_0_1 n v m w t5)) :=
  ex_ok hio (h := true) (orc := [.br false]) (by kernel_rfl) (ow1 h0)

noncomputable def X_ref01_compare_0_2 (n v m w : Nat) (t5 : Int) : St := xr true fn_ref01_compare 0 (L_ref01_compare_0 n v m w t5) [.br true, .val (uN ((dgt v t5.toNat : Nat) : Int)), .val (uN ((dgt w t5.toNat : Nat) : Int)), .br false, .val (uN ((dgt v t5.toNat : Nat) : Int)), .val (uN ((dgt w t5.toNat : Nat) : Int)), .br true]

theorem r_ref01_compare_0_2 {T : Tab} (hio : TO T) (n v m w : Nat) (t5 : Int) (h0 : (bN (decide (t5 ≥ (0 : Int))) : MV) = .sc (.bool true)) (h1 : (0 : Int) ≤ t5 ∧ t5 < ((n : Nat) : Int) ∧ ((dg n v) : List MV) ≠ []) (h2 : takeAs false 1 ((dg n v).drop (t5.toNat * 1)) = some (uN ((dgt v t5.toNat : Nat) : Int))) (h3 : (0 : Int) ≤ t5 ∧ t5 < ((m : Nat) : Int) ∧ ((dg m w) : List MV) ≠ []) (h4 : takeAs false 1 ((dg m w).drop (t5.toNat * 1)) = some (uN ((dgt w t5.toNat : Nat) : Int))) (h5 : (bN (decide (((dgt v t5.toNat : Nat) : Int) < ((dgt w t5.toNat : Nat) : Int))) : MV) = .sc (.bool false)) (h6 : (0 : Int) ≤ t5 ∧ t5 < ((n : Nat) : Int) ∧ ((dg n v) : List MV) ≠ []) (h7 : takeAs false 1 ((dg n v).drop (t5.toNat * 1)) = some (uN ((dgt v t5.toNat : Nat) : Int))) (h8 : (0 : Int) ≤ t5 ∧ t5 < ((m : Nat) : Int) ∧ ((dg m w) : List MV) ≠ []) (h9 : takeAs false 1 ((dg m w).drop (t5.toNat * 1)) = some (uN ((dgt w t5.toNat : Nat) : Int))) (h10 : (bN (decide (((dgt v t5.toNat : Nat) : Int) > ((dgt w t5.toNat : Nat) : Int))) : MV) = .sc (.bool true)) : gC T fn_ref01_compare 0 (L_ref01_compare_0 n v m w t5) = some (.ret, (X_ref01_compare_0_2 n v m w t5)) :=
  ex_ok hio (h := true) (orc := [.br true, .val (uN ((dgt v t5.toNat : Nat) : Int)), .val (uN ((dgt w t5.toNat : Nat) : Int)), .br false, .val (uN ((dgt v t5.toNat : Nat) : Int)), .val (uN ((dgt w t5.toNat : Nat) : Int)), .br true]) (by kernel_rfl) (owc h0 (owc h1 (owc h2 (owc h3 (owc h4 (owc h5 (owc h6 (owc h7 (owc h8 (owc h9 (ow1 h10)))))))))))

theorem r_ref01_compare_0_3 {T : Tab} (hio : TO T) (n v m w : Nat) (t5 : Int) (h0 : (bN (decide (t5 ≥ (0 : Int))) : MV) = .sc (.bool true)) (h1 : (0 : Int) ≤ t5 ∧ t5 < ((n : Nat) : Int) ∧ ((dg n v) : List MV) ≠ []) (h2 : takeAs false 1 ((dg n v).drop (t5.toNat * 1)) = some (uN ((dgt v t5.toNat : Nat) : Int))) (h3 : (0 : Int) ≤ t5 ∧ t5 < ((m : Nat) : Int) ∧ ((dg m w) : List MV) ≠ []) (h4 : takeAs false 1 ((dg m w).drop (t5.toNat * 1)) = some (uN ((dgt w t5.toNat : Nat) : Int))) (h5 : (bN (decide (((dgt v t5.toNat : Nat) : Int) < ((dgt w t5.toNat : Nat) : Int))) : MV) = .sc (.bool false)) (h6 : (0 : Int) ≤ t5 ∧ t5 < ((n : Nat) : Int) ∧ ((dg n v) : List MV) ≠ []) (h7 : takeAs false 1 ((dg n v).drop (t5.toNat * 1)) = some (uN ((dgt v t5.toNat : Nat) : Int))) (h8 : (0 : Int) ≤ t5 ∧ t5 < ((m : Nat) : Int) ∧ ((dg m w) : List MV) ≠ []) (h9 : takeAs false 1 ((dg m w).drop (t5.toNat * 1)) = some (uN ((dgt w t5.toNat : Nat) : Int))) (h10 : (bN (decide (((dgt v t5.toNat : Nat) : Int) > ((dgt w t5.toNat : Nat) : Int))) : MV) = .sc (.bool false))  : ∃ s_, gC T fn_ref01_compare 0 (L_ref01_compare_0 n v m w t5) = some (.normal, s_) ∧ nM fn_ref01_compare 0 s_ = (L_ref01_compare_0 n v m w (IntKind.i64.wrap (t5 - (1 : Int)))) :=
  rd_ok hio (h := true) (orc := [.br true, .val (uN ((dgt v t5.toNat : Nat) : Int)), .val (uN ((dgt w t5.toNat : Nat) : Int)), .br false, .val (uN ((dgt v t5.toNat : Nat) : Int)), .val (uN ((dgt w t5.toNat : Nat) : Int)), .br false]) (by kernel_rfl) (owc h0 (owc h1 (owc h2 (owc h3 (owc h4 (owc h5 (owc h6 (owc h7 (owc h8 (owc h9 (ow1 h10))))))))))) (by kernel_rfl)

theorem p_ref01_compare_x0_0 {T : Tab} (hio : TO T) (n v m w : Nat) (h0 : (bN ((n : Int) != (m : Int)) : MV) = .sc (.bool true)) (h1 : (bN (decide ((n : Int) < (m : Int))) : MV) = .sc (.bool true)) : evalBody PG T FUEL (ioF fn_ref01_compare) fn_ref01_compare [MV.fs n none (dg n v), MV.fs m none (dg m w)] = some (iN (-1), []) :=
  xBody_io (hard := true) hio (orc := [.br true, .br true]) (by kernel_rfl) (owc h0 (ow1 h1))

theorem p_ref01_compare_x0_1 {T : Tab} (hio : TO T) (n v m w : Nat) (t5 : Int) (h0 : (bN ((n : Int) != (m : Int)) : MV) = .sc (.bool false)) (h1 : lp T fn_ref01_compare 0 (L_ref01_compare_0 n v m w (IntKind.i64.wrap ((n : Int) - (1 : Int)))) .ret (X_ref01_compare_0_0 n v m w t5)) : evalBody PG T FUEL (ioF fn_ref01_compare) fn_ref01_compare [MV.fs n none (dg n v), MV.fs m none (dg m w)] = some (iN (-1), []) :=
  xBody_io (hard := true) hio (orc := [.br false, .loop (.ret) (X_ref01_compare_0_0 n v m w t5)]) (by kernel_rfl) (owc h0 (ow1 h1))

theorem p_ref01_compare_x0_2 {T : Tab} (hio : TO T) (n v m w : Nat) (h0 : (bN ((n : Int) != (m : Int)) : MV) = .sc (.bool true)) (h1 : (bN (decide ((n : Int) < (m : Int))) : MV) = .sc (.bool false)) : evalBody PG T FUEL (ioF fn_ref01_compare) fn_ref01_compare [MV.fs n none (dg n v), MV.fs m none (dg m w)] = some (iN 1, []) :=
  xBody_io (hard := true) hio (orc := [.br true, .br false]) (by kernel_rfl) (owc h0 (ow1 h1))

theorem p_ref01_compare_x1_0 {T : Tab} (hio : TO T) (n v m w : Nat) (t5 : Int) (h0 : (bN ((n : Int) != (m : Int)) : MV) = .sc (.bool false)) (h1 : lp T fn_ref01_compare 0 (L_ref01_compare_0 n v m w (IntKind.i64.wrap ((n : Int) - (1 : Int)))) (.exit 0) (X_ref01_compare_0_1 n v m w t5)) : evalBody PG T FUEL (ioF fn_ref01_compare) fn_ref01_compare [MV.fs n none (dg n v), MV.fs m none (dg m w)] = some (iN 0, []) :=
  xBody_io (hard := true) hio (orc := [.br false, .loop (.exit 0) (X_ref01_compare_0_1 n v m w t5)]) (by kernel_rfl) (owc h0 (ow1 h1))

theorem p_ref01_compare_x2_0 {T : Tab} (hio : TO T) (n v m w : Nat) (t5 : Int) (h0 : (bN ((n : Int) != (m : Int)) : MV) = .sc (.bool false)) (h1 : lp T fn_ref01_compare 0 (L_ref01_compare_0 n v m w (IntKind.i64.wrap ((n : Int) - (1 : Int)))) .ret (X_ref01_compare_0_2 n v m w t5)) : evalBody PG T FUEL (ioF fn_ref01_compare) fn_ref01_compare [MV.fs n none (dg n v), MV.fs m none (dg m w)] = some (iN 1, []) :=
  xBody_io (hard := true) hio (orc := [.br false, .loop (.ret) (X_ref01_compare_0_2 n v m w t5)]) (by kernel_rfl) (owc h0 (ow1 h1))

end Go.Proofs.YtkeelkeoijemiaaGreat.Ev

