/- A region that draws its order: operations that are apart may change places. A region that draws its order. A region that draws its order: all orders come to the same. Code, bodies, tables: the theorem. -/
import Derived.Test.YtkeelkeoijemiaaGreatEvJ
import Derived.Deep.LoopGhost
set_option linter.unusedVariables false
set_option linter.unusedSimpArgs false
namespace Go.Proofs.YtkeelkeoijemiaaGreat.Ev
open Go Go.RowKit

variable {P : Program} {T : Tab} {st st' : St} {o : Oper} {g : Nat} {r : Res}

def core (e : Ent) : Nat × List MV := (e.gen, e.cells)
def coreEq (x y : Option Ent) : Prop := x.map core = y.map core
theorem coreEq.some {x y : Option Ent} {e : Ent} (h : coreEq x y) (hx : x = some e) : ∃ e', y = some e' ∧ e'.gen = e.gen ∧ e'.cells = e.cells := by
  subst hx
  cases y with
  | none => simp [coreEq] at h
  | some e' => simp [coreEq, core] at h; exact ⟨e', rfl, h.1.symm, h.2.symm⟩

mutual
theorem freeze_frame {en en' : Nat → Option Ent} : ∀ (k : Nat) (m m' : MV) (ns : List Nat), freeze en k m = some (m', ns) → (∀ nm ∈ ns, coreEq (en nm) (en' nm)) → freeze en' k m = some (m', ns)
  | 0, _, _, _, e, _ => by simp [freeze] at e
  | k + 1, .sc v, m', ns, e, _ => e
  | k + 1, .fs n c cs, m', ns, e, _ => e
  | k + 1, .any, m', ns, e, _ => by simp [freeze] at e
  | k + 1, .cp cs, m', ns, e, _ => e
  | k + 1, .agg cs, m', ns, e, h => by
    simp only [freeze, Option.map_eq_some_iff] at e ⊢
    obtain ⟨⟨y, z⟩, h1, h2⟩ := e; cases h2; exact ⟨_, freezes_frame k cs y z h1 h, rfl⟩
  | k + 1, .tup cs, m', ns, e, h => by
    simp only [freeze, Option.map_eq_some_iff] at e ⊢
    obtain ⟨⟨y, z⟩, h1, h2⟩ := e; cases h2; exact ⟨_, freezes_frame k cs y z h1 h, rfl⟩
  | k + 1, .fn f cs, m', ns, e, h => by
    simp only [freeze, Option.map_eq_some_iff] at e ⊢
    obtain ⟨⟨y, z⟩, h1, h2⟩ := e; cases h2; exact ⟨_, freezes_frame k cs y z h1 h, rfl⟩
  | k + 1, .ptr nm g off, m', ns, e, h => by
    simp only [freeze] at e ⊢
    split at e
    · rename_i en0 he
      split at e
      · rename_i hg
        simp only [Option.map_eq_some_iff] at e
        obtain ⟨⟨y, z⟩, h1, h2⟩ := e; cases h2
        obtain ⟨e', he', hg', hc'⟩ := (h nm (by simp)).some he
        rw [he']; simp only
        rw [if_pos ⟨hg'.trans hg.1, hg.2⟩, hc', freezes_frame k _ y z h1 fun n hn => h n (by simp [hn])]; rfl
      · cases e
    · cases e
  | k + 1, .row nm g off len cap sz, m', ns, e, h => by
    simp only [freeze] at e ⊢
    split at e
    · rename_i en0 he
      split at e
      · rename_i hg
        simp only [Option.map_eq_some_iff] at e
        obtain ⟨⟨y, z⟩, h1, h2⟩ := e; cases h2
        obtain ⟨e', he', hg', hc'⟩ := (h nm (by simp)).some he
        rw [he']; simp only
        rw [if_pos ⟨hg'.trans hg.1, hg.2.1, by rw [hc']; exact hg.2.2⟩, hc', freezes_frame k _ y z h1 fun n hn => h n (by simp [hn])]; rfl
      · cases e
    · cases e
theorem freezes_frame {en en' : Nat → Option Ent} : ∀ (k : Nat) (ms ms' : List MV) (ns : List Nat), freezes en k ms = some (ms', ns) → (∀ nm ∈ ns, coreEq (en nm) (en' nm)) → freezes en' k ms = some (ms', ns)
  | 0, _, _, _, e, _ => by simp [freezes] at e
  | k + 1, [], ms', ns, e, _ => e
  | k + 1, m :: ms, ms', ns, e, h => by
    simp only [freezes] at e ⊢
    split at e
    · rename_i x y h1 h2
      cases e
      rw [freeze_frame k m x.1 x.2 h1 fun n hn => h n (by simp [hn]), freezes_frame k ms y.1 y.2 h2 fun n hn => h n (by simp [hn])]
    · cases e
end

theorem behind_frame {en en' : Nat → Option Ent} {m : MV} {cs : List MV} (e : behind en m = some cs) (h : ∀ nm ∈ nameOf m, coreEq (en nm) (en' nm)) : behind en' m = some cs := by
  cases m with
  | cp c => exact e
  | ptr nm g off =>
    simp only [behind] at e ⊢
    split at e
    · rename_i en0 he
      obtain ⟨e', he', hg', hc'⟩ := (h nm (by simp [nameOf])).some he
      rw [he']; simp only
      rw [hg', hc']; exact e
    · cases e
  | _ => simp [behind] at e
theorem rowCells_frame {en en' : Nat → Option Ent} {m : MV} {cs : Nat × List MV} (e : rowCells en m = some cs) (h : ∀ nm ∈ nameOf m, coreEq (en nm) (en' nm)) : rowCells en' m = some cs := by
  cases m with
  | fs _ _ _ => exact e
  | row nm g off len cap sz =>
    simp only [rowCells] at e ⊢
    split at e
    · rename_i en0 he
      obtain ⟨e', he', hg', hc'⟩ := (h nm (by simp [nameOf])).some he
      rw [he']; simp only
      rw [hg', hc']; exact e
    · cases e
  | _ => simp [rowCells] at e
theorem srcCells_frame {en en' : Nat → Option Ent} {m : MV} {cs : Nat × List MV} (e : srcCells en m = some cs) (h : ∀ nm ∈ nameOf m, coreEq (en nm) (en' nm)) : srcCells en' m = some cs := by
  unfold srcCells at e ⊢
  split at e
  · exact e
  · exact rowCells_frame e h

theorem prep_frame {en en' : Nat → Option Ent} {io : List Nat} : ∀ (ms : List MV) (i : Nat) (as : List MV) (fz : List Nat) (ioL : List (Nat × Nat × Nat)), prepArgs en io i ms = some (as, fz, ioL) →
    (∀ nm ∈ fz, coreEq (en nm) (en' nm)) → (∀ t ∈ ioL, en t.1 = en' t.1) → prepArgs en' io i ms = some (as, fz, ioL)
  | [], i, as, fz, ioL, e, _, _ => e
  | m :: ms, i, as, fz, ioL, e, hf, hi => by
    simp only [prepArgs] at e ⊢
    split at e
    · cases e
    · rename_i as1 fz1 io1 h1
      split at e
      · rename_i hio
        split at e
        · rename_i nm g off len cap sz
          split at e
          · rename_i en0 he
            split at e
            · rename_i hh
              cases e
              rw [prep_frame ms (i + 1) as1 fz io1 h1 hf fun t ht => hi t (by simp [ht])]
              simp only [if_pos hio, ← hi (nm, off, len * sz) (by simp), he, if_pos hh]
            · cases e
          · cases e
        · cases e
      · rename_i hio
        split at e
        · rename_i m' f hfr
          cases e
          rw [prep_frame ms (i + 1) as1 fz1 ioL h1 (fun n hn => hf n (by simp [hn])) hi]
          simp only [if_neg hio, freeze_frame _ _ _ _ hfr fun n hn => hf n (by simp [hn])]
        · cases e

theorem back_frame {en en' : Nat → Option Ent} : ∀ (ioL : List (Nat × Nat × Nat)) (outs : List (List MV)), (∀ t ∈ ioL, en t.1 = en' t.1) → backRows en' ioL outs = backRows en ioL outs
  | [], [], _ => rfl
  | [], _ :: _, _ => rfl
  | _ :: _, [], _ => rfl
  | (nm, off, n) :: ioL, o :: os, h => by
    simp only [backRows, ← h (nm, off, n) (by simp), back_frame ioL os fun t ht => h t (by simp [ht])]

theorem pureOp_frame {ev ev' : Operand → MV} (hs : ∀ cs b, o.op ≠ .select cs b) (h : ∀ x ∈ o.op.operands, ev x = ev' x) : pureOp P o ev = pureOp P o ev' := by
  unfold pureOp
  have e1 : (o.op.operands.toList.all fun x => (toVal (ev x)).isSome) = (o.op.operands.toList.all fun x => (toVal (ev' x)).isSome) := by
    rw [Bool.eq_iff_iff, List.all_eq_true, List.all_eq_true]
    exact ⟨fun hh x hx => by rw [← h x (by simpa using hx)]; exact hh x hx, fun hh x hx => by rw [h x (by simpa using hx)]; exact hh x hx⟩
  have e2 : execOp (fun x => (toVal (ev x)).getD undef) o = execOp (fun x => (toVal (ev' x)).getD undef) o := execOp_congr o hs fun x hx => by rw [h x hx]
  have e3 : eqOp P o ev = eqOp P o ev' := by
    unfold eqOp
    split
    · rename_i t x y p ho
      rw [h x (by simp [ho, Op.operands]), h y (by simp [ho, Op.operands])]
    · rename_i t x y p ho
      rw [h x (by simp [ho, Op.operands]), h y (by simp [ho, Op.operands])]
    · rfl
  rw [e1, e2, e3]

theorem append_frame {d : Nat} {en en' : Nat → Option Ent} {el : TypeId} {s x : MV} (e : evalAppend P d g en el s x = some r) (hr : ∀ nm ∈ r.rd, coreEq (en nm) (en' nm)) (hu : ∀ nm ∈ r.upd.map (·.1), en nm = en' nm) : evalAppend P d g en' el s x = some r := by
  unfold evalAppend at e ⊢
  split at e
  · rename_i sz by_ z n new hs hb hz hsrc
    split at e
    · cases e
    · rename_i hc
      have hsrc' : ∀ nm ∈ nameOf x, nm ∈ r.rd := by
        split at e
        · split at e
          · cases e; exact fun nm h => h
          · split at e
            · cases e; exact fun nm h => h
            · cases e
        · split at e
          · split at e
            · cases e; exact fun nm h => List.mem_cons_of_mem _ h
            · cases e
          · cases e
        · cases e
      rw [hs, hb, hz, srcCells_frame hsrc fun nm h => hr nm (hsrc' nm h)]
      simp only
      rw [if_neg hc]
      split at e
      · exact e
      · rename_i nm g' off len cap sz'
        split at e
        · rename_i en0 he
          split at e
          · rename_i hh
            cases e
            have := hu nm (by simp)
            rw [← this, he]; simp only
            rw [if_pos hh]
          · cases e
        · cases e
      · cases e
  · cases e

/-- What an operation does hangs on what it looks at alone. -/
theorem evalOp_frame (e : evalOp P T o g st = some r) (hx : ∀ x ∈ o.op.operands, st.ev x = st'.ev x) (hr : ∀ nm ∈ r.rd, coreEq (st.ent nm) (st'.ent nm)) (hu : ∀ nm ∈ r.upd.map (·.1), st.ent nm = st'.ent nm) : evalOp P T o g st' = some r := by
  have hsel : ∀ cs b, o.op ≠ .select cs b := by
    intro cs b ho
    simp [evalOp, ho] at e
  have hp := pureOp_frame (P := P) hsel hx
  cases ho : o.op with
  | move x | assign x => simp only [evalOp, ho] at e ⊢; rw [← hx x (by simp [ho, Op.operands])]; exact e
  | pick c x y =>
    simp only [evalOp, ho] at e ⊢
    rw [← hx c (by simp [ho, Op.operands]), ← hx x (by simp [ho, Op.operands]), ← hx y (by simp [ho, Op.operands])]; exact e
  | alloc t => simp only [evalOp, ho] at e ⊢; exact e
  | box t x => simp only [evalOp, ho] at e ⊢; rw [← hx x (by simp [ho, Op.operands])]; exact e
  | load t x =>
    simp only [evalOp, ho] at e ⊢
    rw [← hx x (by simp [ho, Op.operands])]
    split at e
    · rename_i cs hb
      split at e
      · rename_i v hv
        cases e
        simp only [behind_frame hb hr, hv]
      · cases e
    · cases e
  | store t p x =>
    simp only [evalOp, ho] at e ⊢
    rw [← hx p (by simp [ho, Op.operands]), ← hx x (by simp [ho, Op.operands])]
    split at e
    · rename_i nm gen off n cs hm hn hc
      split at e
      · rename_i en he
        split at e
        · rename_i hh
          cases e
          have := hu nm (by simp)
          rw [← this, he]; simp only
          rw [if_pos hh]
        · cases e
      · cases e
    · cases e
  | nilCheck x => simp only [evalOp, ho] at e ⊢; rw [← hx x (by simp [ho, Op.operands])]; exact e
  | binOp b t x y t2 => simp only [evalOp, ho] at e ⊢; rw [← hp]; exact e
  | unOp u t x => simp only [evalOp, ho] at e ⊢; rw [← hp]; exact e
  | index t x i => simp only [evalOp, ho] at e ⊢; rw [← hp]; exact e
  | convert s d x => simp only [evalOp, ho] at e ⊢; rw [← hp]; exact e
  | fieldAddr s x f => simp only [evalOp, ho] at e ⊢; rw [← hx x (by simp [ho, Op.operands])]; exact e
  | field s x f => simp only [evalOp, ho] at e ⊢; rw [← hx x (by simp [ho, Op.operands])]; exact e
  | indexAddr t x i => simp only [evalOp, ho] at e ⊢; rw [← hx x (by simp [ho, Op.operands]), ← hx i (by simp [ho, Op.operands])]; exact e
  | build t ps =>
    have : ps.toList.map (fun p => (p.1, st'.ev p.2)) = ps.toList.map fun p => (p.1, st.ev p.2) := List.map_congr_left fun p hpp => by
      rw [hx p.2 (by simp only [ho, Op.operands, List.mem_toArray, List.mem_map]; exact ⟨p, hpp, rfl⟩)]
    simp only [evalOp, ho] at e ⊢; rw [this]; exact e
  | buildSlice t n ps =>
    have : ps.toList.map (fun p => (p.1, st'.ev p.2)) = ps.toList.map fun p => (p.1, st.ev p.2) := List.map_congr_left fun p hpp => by
      rw [hx p.2 (by simp only [ho, Op.operands, List.mem_toArray, List.mem_map]; exact ⟨p, hpp, rfl⟩)]
    simp only [evalOp, ho] at e ⊢; rw [this]; exact e
  | makeSlice t l c => simp only [evalOp, ho] at e ⊢; rw [← hx l (by simp [ho, Op.operands]), ← hx c (by simp [ho, Op.operands])]; exact e
  | slice t x lo hi mx =>
    have h1 := hx x (by simp [ho, Op.operands])
    have h2 : lo.map st'.ev = lo.map st.ev := by cases lo with | none => rfl | some y => simp [hx y (by simp [ho, Op.operands])]
    have h3 : hi.map st'.ev = hi.map st.ev := by cases hi with | none => rfl | some y => simp [hx y (by simp [ho, Op.operands])]
    have h4 : mx.map st'.ev = mx.map st.ev := by cases mx with | none => rfl | some y => simp [hx y (by simp [ho, Op.operands])]
    simp only [evalOp, ho] at e ⊢; rw [← h1, h2, h3, h4, ← hp]; exact e
  | extract x i => simp only [evalOp, ho] at e ⊢; rw [← hx x (by simp [ho, Op.operands])]; exact e
  | makeFunc fn first caps =>
    cases fn with
    | func f =>
      obtain ⟨l⟩ := first
      cases l with
      | nil =>
        have : caps.toList.map st'.ev = caps.toList.map st.ev := List.map_congr_left fun y hy => (hx y (by simp [ho, Op.operands]; exact by simpa using hy)).symm
        simp only [evalOp, ho] at e ⊢; rw [this]; exact e
      | cons _ _ => simp [evalOp, ho] at e
    | _ => simp [evalOp, ho] at e
  | call c =>
    have hargs : ∀ x ∈ c.args.toList, st.ev x = st'.ev x := fun x hxx => hx x (by simp [ho, Op.operands, Call.operands]; exact .inr (by simpa using hxx))
    cases hc : c.callee with
    | value f =>
      have hf := hx f (by simp [ho, Op.operands, Call.operands, hc])
      have hm : c.args.toList.map st'.ev = c.args.toList.map st.ev := List.map_congr_left fun y hy => (hargs y hy).symm
      simp only [evalOp, ho, hc] at e ⊢
      rw [← hf, hm]
      split at e
      · rename_i f0 caps hfm
        unfold evalCall at e ⊢
        split at e
        · cases e
        · rename_i as fz ioL hpr
          split at e
          · rename_i hh
            split at e
            · cases e
            · rename_i res outs hres
              split at e
              · cases e
              · rename_i u hub
                cases e
                have hnames : ∀ (l : List (Nat × Nat × Nat)) (os : List (List MV)) (u : List (Nat × Option Ent)), backRows st.ent l os = some u → ∀ t ∈ l, t.1 ∈ u.map (·.1) := by
                  intro l
                  induction l with
                  | nil => intro os u _ t ht; cases ht
                  | cons t l ih =>
                    intro os u hb
                    obtain ⟨nm, off, n⟩ := t
                    cases os with
                    | nil => simp [backRows] at hb
                    | cons o1 os =>
                      simp only [backRows] at hb
                      split at hb
                      · rename_i en0 r0 he0 hr0
                        split at hb
                        · cases hb
                          intro t ht
                          rcases List.mem_cons.1 ht with rfl | ht
                          · simp
                          · exact List.mem_cons_of_mem _ (ih os r0 hr0 t ht)
                        · cases hb
                      · cases hb
                have hio : ∀ t ∈ ioL, st.ent t.1 = st'.ent t.1 := fun t ht => hu t.1 (hnames ioL outs u hub t ht)
                have hp1 := prep_frame _ 0 as fz ioL hpr (fun n hn => hr n (by simp [hn])) hio
                rw [hp1]; simp only
                rw [if_pos hh, hres]; simp only
                rw [back_frame ioL outs hio, hub]
          · cases e
      · cases e
    | invoke _ _ => simp [evalOp, ho, hc] at e
    | builtin b =>
      cases b with
      | len =>
        simp only [evalOp, ho, hc] at e ⊢
        split at e
        · rename_i x t hl htl
          rw [← hargs x (by rw [hl]; simp), ← hp]; exact e
        · cases e
      | append =>
        simp only [evalOp, ho, hc] at e ⊢
        split at e
        · rename_i s x t t2 tr d hl htl hd
          rw [← hargs s (by rw [hl]; simp), ← hargs x (by rw [hl]; simp)]
          split at e
          · rename_i h1 h2
            exact append_frame e hr hu
          · rename_i h1 h2
            exact append_frame e hr hu
          · cases e
        · cases e
      | max => simp only [evalOp, ho, hc] at e ⊢; rw [← hp]; exact e
      | min => simp only [evalOp, ho, hc] at e ⊢; rw [← hp]; exact e
      | _ => simp [evalOp, ho, hc] at e
  | _ => simp [evalOp, ho] at e
end Go.Proofs.YtkeelkeoijemiaaGreat.Ev

namespace Go.Proofs.YtkeelkeoijemiaaGreat.Ev
open Go Go.RowKit

variable {P : Program} {T : Tab} {st : St}

def freezeE (e : Ent) : Ent := { e with frozen := true }
def updAt : List (Nat × Option Ent) → Nat → Nat → Option Ent → Option Ent
  | [], _, _, b => b
  | (n, x) :: r, m, len, b => updAt r m len (if n = m ∧ m < len then x else b)

theorem setUpd_len : ∀ (u : List (Nat × Option Ent)) (en : List (Option Ent)), (setUpd en u).length = en.length
  | [], _ => rfl
  | (n, x) :: r, en => by simp [setUpd, setUpd_len r]
theorem setFrz_len : ∀ (f : List Nat) (en : List (Option Ent)), (setFrz en f).length = en.length
  | [], _ => rfl
  | n :: r, en => by
    simp only [setFrz, setFrz_len r]
    unfold frzAt
    split <;> simp
theorem setUpd_getD : ∀ (u : List (Nat × Option Ent)) (en : List (Option Ent)) (m : Nat), (setUpd en u).getD m none = updAt u m en.length (en.getD m none)
  | [], _, _ => rfl
  | (n, x) :: r, en, m => by
    simp only [setUpd, updAt]
    rw [setUpd_getD r]
    simp only [List.length_set, List.getD_eq_getElem?_getD, List.getElem?_set]
    congr 1
    by_cases h : n = m
    · subst h
      by_cases hl : n < en.length
      · simp [hl]
      · simp [hl]
    · simp [h]
theorem frzAt_getD (en : List (Option Ent)) (n m : Nat) : (frzAt en n).getD m none = if m = n then (en.getD m none).map freezeE else en.getD m none := by
  unfold frzAt
  by_cases h : m = n
  · subst h
    rw [if_pos rfl]
    cases he : en.getD m none with
    | none => simp only [he, Option.map_none]
    | some e =>
      have hl : m < en.length := by
        rcases Nat.lt_or_ge m en.length with h | h
        · exact h
        · simp [List.getD_eq_getElem?_getD, List.getElem?_eq_none h] at he
      simp [List.getD_eq_getElem?_getD, hl, freezeE]
  · rw [if_neg h]
    split
    · simp [List.getD_eq_getElem?_getD, Ne.symm h]
    · rfl
theorem setFrz_getD : ∀ (f : List Nat) (en : List (Option Ent)) (m : Nat), (setFrz en f).getD m none = if m ∈ f then (en.getD m none).map freezeE else en.getD m none
  | [], _, _ => by simp [setFrz]
  | n :: r, en, m => by
    simp only [setFrz]
    rw [setFrz_getD r, frzAt_getD]
    by_cases h : m = n
    · subst h
      simp only [if_true, List.mem_cons, true_or]
      cases en.getD m none <;> simp [freezeE]
    · simp [h]
theorem updAt_not : ∀ (u : List (Nat × Option Ent)) (m len : Nat) (b : Option Ent), m ∉ u.map (·.1) → updAt u m len b = b
  | [], _, _, _, _ => rfl
  | (n, x) :: r, m, len, b, h => by
    simp only [List.map_cons, List.mem_cons, not_or] at h
    simp only [updAt]
    rw [updAt_not r m len _ h.2, if_neg (fun hh => h.1 hh.1.symm)]
theorem updAt_ge : ∀ (u : List (Nat × Option Ent)) (m len : Nat) (b : Option Ent), ¬ m < len → updAt u m len b = b
  | [], _, _, _, _ => rfl
  | (n, x) :: r, m, len, b, h => by
    simp only [updAt]
    rw [updAt_ge r m len _ h, if_neg (fun hh => h hh.2)]
theorem updAt_in : ∀ (u : List (Nat × Option Ent)) (m len : Nat) (b b' : Option Ent), m < len → m ∈ u.map (·.1) → updAt u m len b = updAt u m len b'
  | [], _, _, _, _, _, h => by cases h
  | (n, x) :: r, m, len, b, b', hl, h => by
    simp only [updAt]
    by_cases hn : n = m
    · simp [hn, hl]
    · rw [if_neg (fun hh => hn hh.1), if_neg (fun hh => hn hh.1)]
      simp only [List.map_cons, List.mem_cons] at h
      exact updAt_in r m len b b' hl (h.resolve_left (Ne.symm hn))

theorem en_comm (en : List (Option Ent)) (ua ub : List (Nat × Option Ent)) (fa fb : List Nat) (h1 : ∀ n ∈ ua.map (·.1), n ∉ ub.map (·.1)) (h2 : ∀ n ∈ ua.map (·.1), n ∉ fb) (h3 : ∀ n ∈ ub.map (·.1), n ∉ fa) :
    setUpd (setFrz (setUpd (setFrz en fa) ua) fb) ub = setUpd (setFrz (setUpd (setFrz en fb) ub) fa) ua := by
  have key : ∀ m, (setUpd (setFrz (setUpd (setFrz en fa) ua) fb) ub).getD m none = (setUpd (setFrz (setUpd (setFrz en fb) ub) fa) ua).getD m none := by
    intro m
    simp only [setUpd_getD, setFrz_getD, setUpd_len, setFrz_len]
    by_cases hl : m < en.length
    · by_cases ha : m ∈ ua.map (·.1)
      · have hb := h1 m ha
        rw [updAt_not ub m _ _ hb, if_neg (h2 m ha), updAt_in ua m en.length _ (if m ∈ fa then (updAt ub m en.length (if m ∈ fb then Option.map freezeE (en.getD m none) else en.getD m none)).map freezeE else updAt ub m en.length (if m ∈ fb then Option.map freezeE (en.getD m none) else en.getD m none)) hl ha]
      · by_cases hb : m ∈ ub.map (·.1)
        · rw [updAt_not ua m _ _ ha, updAt_not ua m _ _ ha]
          simp only [if_neg (h3 m hb)]
        · simp only [updAt_not ua m _ _ ha, updAt_not ub m _ _ hb]
          by_cases p : m ∈ fa <;> by_cases q : m ∈ fb <;> simp [p, q]
    · simp only [updAt_ge _ m _ _ hl]
      have : en.getD m none = none := by simp [List.getD_eq_getElem?_getD, List.getElem?_eq_none (Nat.le_of_not_lt hl)]
      simp only [this, Option.map_none, ite_self]
  apply List.ext_getElem?
  intro m
  have hk := key m
  have l1 : (setUpd (setFrz (setUpd (setFrz en fa) ua) fb) ub).length = en.length := by simp only [setUpd_len, setFrz_len]
  have l2 : (setUpd (setFrz (setUpd (setFrz en fb) ub) fa) ua).length = en.length := by simp only [setUpd_len, setFrz_len]
  by_cases hm : m < en.length
  · rw [List.getElem?_eq_getElem (by omega), List.getElem?_eq_getElem (by omega)]
    simp only [List.getD_eq_getElem?_getD] at hk
    rw [List.getElem?_eq_getElem (by omega), List.getElem?_eq_getElem (by omega)] at hk
    simpa using hk
  · rw [List.getElem?_eq_none (by omega), List.getElem?_eq_none (by omega)]

def after (o : Oper) (l : Option Res) (st : St) : St := match l with | some r => st.put o.dst r | none => st.skip o.dst

theorem step1_iff {ops : List Oper} {g : Nat} {o : Oper} {l : Option Res} {s : St} : step1 P T ops g o st = some (l, s) ↔
    s = after o l st ∧ match l with | some r => wants ops st o = some true ∧ evalOp P T o g st = some r | none => wants ops st o = some false := by
  unfold step1
  cases hw : wants ops st o with
  | none => cases l <;> simp
  | some b =>
    cases b with
    | true =>
      cases he : evalOp P T o g st with
      | none => cases l <;> simp
      | some r =>
        cases l with
        | none => simp
        | some r' =>
          simp only [Option.some.injEq, Prod.mk.injEq, true_and]
          constructor
          · rintro ⟨rfl, rfl⟩; exact ⟨rfl, rfl⟩
          · rintro ⟨rfl, rfl⟩; exact ⟨rfl, rfl⟩
    | false =>
      cases l with
      | none => simp [after, eq_comm]
      | some r' => simp

theorem meets_no {a b : List Nat} (h : meets a b = false) : ∀ x ∈ a, x ∉ b := by
  intro x hx hb
  simp only [meets, List.any_eq_false] at h
  exact h x hx (by simpa using hb)

/-- What the log of an operation says that it touches. -/
def ux (l : Option Res) : List Nat := match l with | some r => r.upd.map (·.1) | none => []
def fx (l : Option Res) : List Nat := match l with | some r => r.frz | none => []
def rx (l : Option Res) : List Nat := match l with | some r => r.rd | none => []
theorem touches_no {a b : Option Res} (h : touches a b = false) : (∀ x ∈ ux a, x ∉ rx b) ∧ (∀ x ∈ ux a, x ∉ ux b) ∧ (∀ x ∈ ux a, x ∉ fx b) := by
  cases a with
  | none => simp [ux]
  | some a =>
    cases b with
    | none => simp [ux, rx, fx]
    | some b =>
      have := meets_no h
      simp only [List.mem_append, not_or] at this
      exact ⟨fun x hx => (this x hx).1.1, fun x hx => (this x hx).1.2, fun x hx => (this x hx).2⟩

theorem after_slot {o : Oper} {l : Option Res} {t : Nat} (h : o.dst ≠ some t) : (after o l st).slot t = st.slot t := by
  unfold after St.slot
  cases l with
  | none =>
    cases hd : o.dst with
    | none => rfl
    | some d => simp only [St.skip, List.getD_eq_getElem?_getD]; rw [List.getElem?_set, if_neg (fun e => h (by rw [hd, e]))]
  | some r =>
    cases hd : o.dst with
    | none => rfl
    | some d => simp only [St.put, List.getD_eq_getElem?_getD]; rw [List.getElem?_set, if_neg (fun e => h (by rw [hd, e]))]
theorem after_len {o : Oper} {l : Option Res} : (after o l st).sl.length = st.sl.length := by
  unfold after
  cases l <;> cases o.dst <;> simp [St.put, St.skip]
theorem after_ent {o : Oper} {l : Option Res} {n : Nat} (h : n ∉ ux l) (hf : n ∉ fx l) : (after o l st).ent n = st.ent n := by
  unfold after St.ent
  cases l with
  | none => rfl
  | some r =>
    simp only [St.put, setUpd_getD, setFrz_getD, setFrz_len]
    rw [updAt_not _ _ _ _ h]
    exact if_neg hf
theorem after_core {o : Oper} {l : Option Res} {n : Nat} (h : n ∉ ux l) : coreEq ((after o l st).ent n) (st.ent n) := by
  unfold after St.ent
  cases l with
  | none => rfl
  | some r =>
    simp only [St.put, setUpd_getD, setFrz_getD, setFrz_len]
    rw [updAt_not _ _ _ _ h]
    unfold coreEq
    split
    · cases st.en.getD n none <;> rfl
    · rfl

theorem ev_after {o : Oper} {l : Option Res} {x : Operand} (h : ∀ t, x = .tmp t → o.dst ≠ some t) : (after o l st).ev x = st.ev x := by
  cases x with
  | tmp t => exact after_slot (h t rfl)
  | _ => rfl

theorem mem_looks {ops : Array Oper} {o : Oper} {t : Nat} (h : (.tmp t : Operand) ∈ o.op.operands) : t ∈ o.looksAt ops :=
  List.mem_append_left _ (List.mem_filterMap.2 ⟨.tmp t, by simpa using h, rfl⟩)

theorem wants_after {ops : List Oper} {x y : Oper} {l : Option Res} (h : ∀ d, x.dst = some d → d ∉ y.looksAt ops.toArray) : wants ops (after x l st) y = wants ops st y := by
  unfold wants
  cases hg : y.guard with
  | none => rfl
  | some jw =>
    obtain ⟨j, want⟩ := jw
    simp only
    cases hd : (ops[j]?).bind (·.dst) with
    | none => rfl
    | some d =>
      simp only [after_len]
      rw [after_slot (fun e => h d e (by
        unfold Oper.looksAt
        apply List.mem_append_right
        rw [hg]
        simp only [show (ops.toArray[j]?) = ops[j]? from by simp, hd]
        simp))]

/-- Two operations that are apart may change places. -/
theorem swap {ops : List Oper} {gx gy : Nat} {x y : Oper} {lx ly : Option Res} {s1 s2 : St} (hi : indep ops.toArray x y lx ly = true) (h1 : step1 P T ops gx x st = some (lx, s1)) (h2 : step1 P T ops gy y s1 = some (ly, s2)) :
    ∃ s1', step1 P T ops gy y st = some (ly, s1') ∧ step1 P T ops gx x s1' = some (lx, s2) := by
  simp only [indep, Bool.and_eq_true, Bool.not_eq_true'] at hi
  obtain ⟨⟨ha, t1⟩, t2⟩ := hi
  obtain ⟨a1, a2, a3⟩ := Oper.apart_spec ha
  obtain ⟨p1, p2, p3⟩ := touches_no t1
  obtain ⟨q1, q2, q3⟩ := touches_no t2
  obtain ⟨e1, k1⟩ := step1_iff.1 h1
  obtain ⟨e2, k2⟩ := step1_iff.1 h2
  subst e1 e2
  clear h1 h2
  have h1 := k1
  have h2 := k2
  clear k1 k2
  refine ⟨after y ly st, step1_iff.2 ⟨rfl, ?_⟩, step1_iff.2 ⟨?_, ?_⟩⟩
  · cases ly with
    | none => simp only at h2 ⊢; rw [wants_after a1] at h2; exact h2
    | some r =>
      simp only at h2 ⊢
      rw [wants_after a1] at h2
      refine ⟨h2.1, evalOp_frame h2.2 (fun z hz => ev_after fun t ht e => a1 t e (mem_looks (ht ▸ hz))) (fun nm hn => after_core fun hu => p1 nm hu hn) fun nm hn => after_ent (fun hu => p2 nm hu hn) fun hf => q3 nm hn hf⟩
  · -- the states
    have hsl : (after y ly (after x lx st)).sl = (after x lx (after y ly st)).sl := by
      have : ∀ {o : Oper} {l : Option Res} {s : St}, (after o l s).sl = match o.dst with | some d => s.sl.set d (match l with | some r => r.val | none => undefM) | none => s.sl := by
        intro o l s; cases l <;> rfl
      simp only [this]
      cases hx : x.dst with
      | none => rfl
      | some d =>
        cases hy : y.dst with
        | none => rfl
        | some d' => exact List.set_comm _ _ fun e => a2 d hx (by rw [hy, e])
    have hen : (after y ly (after x lx st)).en = (after x lx (after y ly st)).en := by
      cases lx with
      | none => cases ly <;> rfl
      | some r1 =>
        cases ly with
        | none => rfl
        | some r2 => exact en_comm st.en r1.upd r2.upd r1.frz r2.frz p2 p3 q3
    have hck : (after y ly (after x lx st)).ck = (after x lx (after y ly st)).ck := by cases lx <;> cases ly <;> rfl
    calc after y ly (after x lx st) = ⟨(after y ly (after x lx st)).sl, (after y ly (after x lx st)).en, (after y ly (after x lx st)).ck⟩ := rfl
      _ = _ := by rw [hsl, hen, hck]
  · cases lx with
    | none => simp only at h1 ⊢; rw [wants_after a3]; exact h1
    | some r =>
      simp only at h1 ⊢
      rw [wants_after a3]
      refine ⟨h1.1, evalOp_frame h1.2 (fun z hz => (ev_after fun t ht e => a3 t e (mem_looks (ht ▸ hz))).symm) (fun nm hn => (?_ : coreEq _ _)) fun nm hn => (after_ent (fun hu => q2 nm hu hn) fun hf => p3 nm hn hf).symm⟩
      exact Eq.symm (after_core (o := y) (l := ly) fun hu => q1 nm hu hn)
end Go.Proofs.YtkeelkeoijemiaaGreat.Ev

namespace Go.Proofs.YtkeelkeoijemiaaGreat.Ev
open Go Go.RowKit

variable {P : Program} {T : Tab} {G : Gh} {ops : List Oper} {ck : Nat}

inductive Runs (P : Program) (T : Tab) (ops : List Oper) (ck : Nat) : St → List Item → St → Prop where
  | nil (s : St) : Runs P T ops ck s [] s
  | cons {s s1 s2 : St} {t : Item} {r : List Item} : step1 P T ops (ck + t.i) t.o s = some (t.l, s1) → Runs P T ops ck s1 r s2 → Runs P T ops ck s (t :: r) s2

theorem bubble {t : Item} {post : List Item} {sF : St} : ∀ (pre : List Item) (s : St), Runs P T ops ck s (pre ++ t :: post) sF → (∀ y ∈ pre, indep ops.toArray y.o t.o y.l t.l = true) →
    ∃ s1, step1 P T ops (ck + t.i) t.o s = some (t.l, s1) ∧ Runs P T ops ck s1 (pre ++ post) sF
  | [], s, .cons h hs, _ => ⟨_, h, hs⟩
  | y :: pre, s, .cons h hs, hi => by
    obtain ⟨s1', h1, h2⟩ := bubble pre _ hs fun z hz => hi z (by simp [hz])
    obtain ⟨s1, k1, k2⟩ := swap (hi y (by simp)) h h1
    exact ⟨s1, k1, .cons k2 h2⟩

theorem evalLog_runs : ∀ (l : List Oper) (i : Nat) (bs : List Nat) (s sF : St) (log : List (Option Res)), bs.length = l.length → evalLog P T ops ck (numbered i l) s = some (sF, log) →
    log.length = l.length ∧ Runs P T ops ck s (items i l log bs) sF
  | [], i, bs, s, sF, log, _, e => by
    simp [numbered, evalLog] at e
    obtain ⟨rfl, rfl⟩ := e
    exact ⟨rfl, .nil _⟩
  | o :: l, i, bs, s, sF, log, hb, e => by
    cases bs with
    | nil => simp at hb
    | cons b bs =>
      simp only [numbered, evalLog] at e
      split at e
      · rename_i r s1 h1
        split at e
        · rename_i s2 l2 h2
          cases e
          obtain ⟨e1, e2⟩ := evalLog_runs l (i + 1) bs s1 sF l2 (by simpa using hb) h2
          exact ⟨by simp [e1], .cons (t := ⟨i, o, r, b⟩) h1 e2⟩
        · cases e
      · cases e

theorem items_get : ∀ (os : List Oper) (ls : List (Option Res)) (bs : List Nat) (i k : Nat), ls.length = os.length → bs.length = os.length → k < os.length →
    ∃ o l b, os[k]? = some o ∧ bs[k]? = some b ∧ (items i os ls bs)[k]? = some ⟨i + k, o, l, b⟩
  | [], _, _, _, k, _, _, h => by simp at h
  | o :: os, [], _, _, _, h, _, _ => by simp at h
  | o :: os, _ :: _, [], _, _, _, h, _ => by simp at h
  | o :: os, l :: ls, b :: bs, i, 0, _, _, _ => ⟨o, l, b, rfl, rfl, rfl⟩
  | o :: os, l :: ls, b :: bs, i, k + 1, h1, h2, h3 => by
    obtain ⟨o', l', b', e1, e2, e3⟩ := items_get os ls bs (i + 1) k (by simpa using h1) (by simpa using h2) (by simpa using h3)
    exact ⟨o', l', b', by simpa using e1, by simpa using e2, by simp only [items, List.getElem?_cons_succ, e3]; congr 2; omega⟩
theorem items_len : ∀ (os : List Oper) (ls : List (Option Res)) (bs : List Nat) (i : Nat), ls.length = os.length → bs.length = os.length → (items i os ls bs).length = os.length
  | [], _, _, _, _, _ => by simp [items]
  | o :: os, [], _, _, h, _ => by simp at h
  | o :: os, _ :: _, [], _, _, h => by simp at h
  | o :: os, l :: ls, b :: bs, i, h1, h2 => by simp [items, items_len os ls bs (i + 1) (by simpa using h1) (by simpa using h2)]
theorem items_sorted : ∀ (os : List Oper) (ls : List (Option Res)) (bs : List Nat) (i : Nat), (items i os ls bs).Pairwise (fun x y => x.i < y.i) ∧ ∀ t ∈ items i os ls bs, i ≤ t.i
  | [], _, _, _ => by simp [items]
  | o :: os, [], _, _ => by simp [items]
  | o :: os, _ :: _, [], _ => by simp [items]
  | o :: os, l :: ls, b :: bs, i => by
    obtain ⟨h1, h2⟩ := items_sorted os ls bs (i + 1)
    simp only [items]
    refine ⟨List.pairwise_cons.2 ⟨fun t ht => by have := h2 t ht; show i < t.i; omega, h1⟩, fun t ht => ?_⟩
    rcases List.mem_cons.1 ht with rfl | ht
    · exact Nat.le_refl _
    · have := h2 t ht; omega

theorem befEdges_bit {acc : List Nat} {j : Nat} : ∀ (l : List Edge), (befEdges acc l).testBit j = true → ∃ e ∈ l, Region.binds .any e = true ∧ (e.on = j ∨ (acc.getD e.on 0).testBit j = true)
  | [], h => by simp [befEdges] at h
  | e :: r, h => by
    simp only [befEdges] at h
    split at h
    · rename_i hb
      rw [Nat.testBit_or, Nat.testBit_or, Nat.testBit_two_pow, Bool.or_eq_true, Bool.or_eq_true] at h
      rcases h with (h | h) | h
      · exact ⟨e, by simp, hb, .inl (by simpa using h)⟩
      · exact ⟨e, by simp, hb, .inr h⟩
      · obtain ⟨e', h1, h2⟩ := befEdges_bit r h
        exact ⟨e', by simp [h1], h2⟩
    · obtain ⟨e', h1, h2⟩ := befEdges_bit r h
      exact ⟨e', by simp [h1], h2⟩

theorem befs_spec : ∀ (l : List Oper) (acc : List Nat), (befs acc l).length = acc.length + l.length ∧ (∀ k, k < acc.length → (befs acc l)[k]? = acc[k]?) ∧
    ∀ k o, l[k]? = some o → ∃ acc', (befs acc l)[acc.length + k]? = some (befEdges acc' o.after.toList) ∧ ∀ q, q < acc.length + k → acc'[q]? = (befs acc l)[q]?
  | [], acc => ⟨by simp [befs], fun k _ => rfl, fun k o h => by simp at h⟩
  | o :: r, acc => by
    obtain ⟨h1, h2, h3⟩ := befs_spec r (acc ++ [befEdges acc o.after.toList])
    simp only [befs]
    refine ⟨by rw [h1]; simp; omega, fun k hk => ?_, fun k o' hk => ?_⟩
    · rw [h2 k (by simp; omega), List.getElem?_append_left hk]
    · cases k with
      | zero =>
        simp at hk; subst hk
        refine ⟨acc, ?_, fun q hq => ?_⟩
        · rw [h2 _ (by simp)]; simp
        · rw [h2 q (by simp; omega), List.getElem?_append_left (by omega)]
      | succ k =>
        simp at hk
        obtain ⟨acc', e1, e2⟩ := h3 k o' hk
        refine ⟨acc', ?_, fun q hq => e2 q (by simp; omega)⟩
        rw [← e1]; congr 1; simp; omega

theorem edgesOk_spec : ∀ (l : List Oper) (i k : Nat) (o : Oper), edgesOk i l = true → l[k]? = some o → ∀ e ∈ o.after.toList, Region.binds .any e = true → e.on < i + k
  | [], _, _, _, _, h => by simp at h
  | o :: r, i, 0, o', h, hk => by
    simp at hk; subst hk
    simp only [edgesOk, Bool.and_eq_true, List.all_eq_true] at h
    intro e he hb
    have := h.1 e he
    simpa [hb] using this
  | o :: r, i, k + 1, o', h, hk => by
    simp only [edgesOk, Bool.and_eq_true] at h
    intro e he hb
    have := edgesOk_spec r (i + 1) k o' h.2 (by simpa using hk) e he hb
    omega

/-- What is listed holds all that comes ahead of it. -/
def Closed (all : List Item) (listed : Array Bool) : Prop := ∀ t ∈ all, listed.getD t.i false = true → ∀ j, t.b.testBit j = true → listed.getD j false = true

theorem draws_any {Q : Exit → Act → World → Prop} (hck : ck ≠ 0) (hT : TabOK P T) (hG : G.ok) {all : List Item} {sF : St} (hsort : all.Pairwise fun x y => x.i < y.i) (hall : ∀ t ∈ all, ops[t.i]? = some t.o) (hidx : ∀ i o, ops[i]? = some o → ∃ t ∈ all, t.i = i)
    (hpair : ∀ x ∈ all, ∀ y ∈ all, pairOk ops.toArray x y = true) (hedge : ∀ t ∈ all, ∀ e ∈ t.o.after.toList, Region.binds .any e = true → e.on < t.i)
    (hbit : ∀ t ∈ all, ∀ j, t.b.testBit j = true → ∃ e ∈ t.o.after.toList, Region.binds .any e = true ∧ (e.on = j ∨ ∃ u ∈ all, u.i = e.on ∧ u.b.testBit j = true))
    (hQ : ∀ a w ok R, SR G sF a w ok R (limAt ck ops.length) → Q .normal a w) :
    ∀ (fuel : Nat) (listed : Array Bool) (st : St) (a : Act) (w : World) (ok : Nat → Prop) (R : Nat → Nat → Option (Nat × Nat)), listed.size = ops.length → (all.filter fun t => !listed.getD t.i true).length ≤ fuel →
      Closed all listed → Runs P T ops ck st (all.filter fun t => !listed.getD t.i true) sF → SR G st a w ok R (fun g => g < ck ∨ ∃ j, listed.getD j false = true ∧ g = ck + j) →
      wpAny P .any ops.toArray Q fuel listed a w := by
  have ilt : ∀ t ∈ all, t.i < ops.length := fun t ht => (List.getElem?_eq_some_iff.1 (hall t ht)).1
  have done : ∀ (listed : Array Bool) (st : St) (a : Act) (w : World) (ok : Nat → Prop) (R : Nat → Nat → Option (Nat × Nat)), listed.size = ops.length → (all.filter fun t => !listed.getD t.i true) = [] →
      Runs P T ops ck st (all.filter fun t => !listed.getD t.i true) sF → SR G st a w ok R (fun g => g < ck ∨ ∃ j, listed.getD j false = true ∧ g = ck + j) → Q .normal a w := by
    intro listed st a w ok R hsz h0 hr hs
    rw [h0] at hr
    cases hr
    refine hQ a w ok R (hs.weaken fun x hx => ?_)
    rcases hx with hx | ⟨j, h1, h2⟩
    · exact .inl hx
    · refine .inr ⟨j, ?_, h2⟩
      rcases Nat.lt_or_ge j ops.length with h | h
      · exact h
      · simp [Array.getD, show ¬ j < listed.size by omega] at h1
  have readyNil : ∀ (listed : Array Bool), listed.size = ops.length → Region.ready .any ops.toArray listed = [] → (all.filter fun t => !listed.getD t.i true) = [] := by
    intro listed hsz hr
    cases hf : all.filter fun t => !listed.getD t.i true with
    | nil => rfl
    | cons t r =>
      exfalso
      have ht : t ∈ all ∧ (!listed.getD t.i true) = true := by
        have : t ∈ all.filter fun t => !listed.getD t.i true := by rw [hf]; simp
        exact List.mem_filter.1 this
      have hs2 : (t :: r).Pairwise fun x y => x.i < y.i := by rw [← hf]; exact hsort.filter _
      have : t.i ∈ Region.ready .any ops.toArray listed := by
        rw [mem_ready]
        refine ⟨by simpa using ht.2, t.o, by simpa using hall t ht.1, fun e he hb => ?_⟩
        have hlt := hedge t ht.1 e (by simpa using he) hb
        obtain ⟨u, hu, hui⟩ := hidx e.on _ (List.getElem?_eq_getElem (by have := ilt t ht.1; omega))
        have hsz2 : e.on < listed.size := by have := ilt t ht.1; omega
        cases hl : listed.getD e.on false with
        | true => rfl
        | false =>
          exfalso
          have : u ∈ t :: r := by
            rw [← hf, List.mem_filter]
            refine ⟨hu, ?_⟩
            rw [hui]
            simp [Array.getD, hsz2] at hl ⊢
            exact hl
          rcases List.mem_cons.1 this with rfl | hu2
          · omega
          · have := (List.pairwise_cons.1 hs2).1 u hu2; omega
      rw [hr] at this; cases this
  intro fuel
  induction fuel with
  | zero =>
    intro listed st a w ok R hsz hlen hcl hr hs
    have h0 : (all.filter fun t => !listed.getD t.i true) = [] := List.eq_nil_of_length_eq_zero (by omega)
    refine ⟨?_, done listed st a w ok R hsz h0 hr hs⟩
    apply List.eq_nil_iff_forall_not_mem.2
    intro i hi
    rw [mem_ready] at hi
    obtain ⟨h1, o, ho, _⟩ := hi
    obtain ⟨t, ht, rfl⟩ := hidx i o (by simpa using ho)
    have : t ∈ all.filter fun t => !listed.getD t.i true := List.mem_filter.2 ⟨ht, by simpa using h1⟩
    rw [h0] at this; cases this
  | succ fuel ih =>
    intro listed st a w ok R hsz hlen hcl hr hs
    refine ⟨fun hnil => done listed st a w ok R hsz (readyNil listed hsz hnil) hr hs, fun i hi => ?_⟩
    rw [mem_ready] at hi
    obtain ⟨h1, o, ho, hdeps⟩ := hi
    obtain ⟨t, ht, rfl⟩ := hidx i o (by simpa using ho)
    have hto : t.o = o := by have := hall t ht; simp at ho; rw [ho] at this; simpa using this.symm
    subst hto
    have htf : t ∈ all.filter fun t => !listed.getD t.i true := List.mem_filter.2 ⟨ht, by simpa using h1⟩
    obtain ⟨pre, post, hsplit⟩ := List.append_of_mem htf
    have hs2 : (pre ++ t :: post).Pairwise fun x y => x.i < y.i := by rw [← hsplit]; exact hsort.filter _
    have hpw := List.pairwise_append.1 hs2
    have bits : ∀ j, t.b.testBit j = true → listed.getD j false = true := by
      intro j hj
      obtain ⟨e, he, hb, hor⟩ := hbit t ht j hj
      have hl := hdeps e (by simpa using he) hb
      rcases hor with rfl | ⟨u, hu, hui, hub⟩
      · exact hl
      · exact hcl u hu (by rw [hui]; exact hl) j hub
    rw [hsplit] at hr
    obtain ⟨s1, hstep, hrest⟩ := bubble pre st hr fun y hy => by
      have hya : y ∈ all ∧ (!listed.getD y.i true) = true := by
        have : y ∈ all.filter fun t => !listed.getD t.i true := by rw [hsplit]; simp [hy]
        exact List.mem_filter.1 this
      have hlt : y.i < t.i := hpw.2.2 y hy t (by simp)
      have hp := hpair y hya.1 t ht
      simp only [pairOk, hlt, decide_true, Bool.not_true, Bool.false_or, Bool.or_eq_true] at hp
      refine hp.resolve_left fun hb => ?_
      have := bits y.i hb
      have hsz2 : y.i < listed.size := by have := ilt y hya.1; omega
      have h2 := hya.2
      simp [Array.getD, hsz2] at this h2
      rw [this] at h2; cases h2
    have hti : t.i < listed.size := by have := ilt t ht; omega
    have hnew : (all.filter fun u => !(listed.setIfInBounds t.i true).getD u.i true) = pre ++ post := by
      have e1 : (all.filter fun u => !(listed.setIfInBounds t.i true).getD u.i true) = ((all.filter fun u => !listed.getD u.i true).filter fun u => decide (u.i ≠ t.i)) := by
        rw [List.filter_filter]
        apply List.filter_congr
        intro u hu
        by_cases hui : u.i = t.i
        · simp [hui, Array.getD, hti]
        · rw [getD_set_ne true (fun e => hui e.symm)]; simp [hui]
      rw [e1, hsplit, List.filter_append]
      have p1 : pre.filter (fun u => decide (u.i ≠ t.i)) = pre := List.filter_eq_self.2 fun u hu => by have := hpw.2.2 u hu t (by simp); simp; omega
      have p2 : (t :: post).filter (fun u => decide (u.i ≠ t.i)) = post := by
        rw [List.filter_cons]
        simp only [ne_eq, not_true_eq_false, decide_false, Bool.false_eq_true, if_false]
        exact List.filter_eq_self.2 fun u hu => by have := (List.pairwise_cons.1 hpw.2.1).1 u hu; simp; omega
      rw [p1, p2]
    have hlen' : (pre ++ post).length ≤ fuel := by rw [hsplit] at hlen; simp at hlen ⊢; omega
    have hcl' : Closed all (listed.setIfInBounds t.i true) := by
      intro u hu hul j hj
      by_cases hui : u.i = t.i
      · have hut : u.b.testBit j = t.b.testBit j := by
          have : u = t := by
            by_cases hh : u = t
            · exact hh
            · exfalso
              obtain ⟨l1, l2, hl⟩ := List.append_of_mem hu
              rw [hl] at hsort ht
              have hp2 := List.pairwise_append.1 hsort
              rcases List.mem_append.1 ht with h | h
              · have := hp2.2.2 t h u (by simp); omega
              · rcases List.mem_cons.1 h with h | h
                · exact hh h.symm
                · have := (List.pairwise_cons.1 hp2.2.1).1 t h; omega
          rw [this]
        rw [hut] at hj
        exact getD_set_true (bits j hj)
      · rw [getD_set_ne false (fun e => hui e.symm)] at hul
        exact getD_set_true (hcl u hu hul j hj)
    have hlim : ∀ (s : St) (a' : Act) (w' : World) (ok' : Nat → Prop) (R' : Nat → Nat → Option (Nat × Nat)), SR G s a' w' ok' R' (fun x => (x < ck ∨ ∃ j, listed.getD j false = true ∧ x = ck + j) ∨ x = ck + t.i) →
        SR G s a' w' ok' R' (fun g => g < ck ∨ ∃ j, (listed.setIfInBounds t.i true).getD j false = true ∧ g = ck + j) := by
      intro s a' w' ok' R' h
      refine h.weaken fun x hx => ?_
      rcases hx with (hx | ⟨j, e1, e2⟩) | hx
      · exact .inl hx
      · exact .inr ⟨j, getD_set_true e1, e2⟩
      · exact .inr ⟨t.i, by simp [Array.getD, hti], hx⟩
    obtain ⟨rfl, hst⟩ := step1_iff.1 hstep
    unfold wpOp
    rw [ho]
    simp only
    cases hl : t.l with
    | none =>
      rw [hl] at hst hrest
      simp only at hst
      rw [wants_sound hs hst, if_neg (by simp)]
      refine ih _ _ _ _ ok R (by simpa using hsz) (by rw [hnew]; exact hlen') hcl' (by rw [hnew]; exact hrest) (hlim _ _ _ _ _ ((hs.skip t.o.dst).weaken fun x hx => .inl hx))
    | some r =>
      rw [hl] at hst hrest
      simp only at hst
      rw [wants_sound hs hst.1, if_pos rfl]
      left
      refine op_sound hT hG hs (by omega) (fun n => ?_) hst.2 fun v w' ok' R' h' => ?_
      · cases hn : R n (ck + t.i) with
        | none => rfl
        | some p =>
          rcases hs.fresh n (ck + t.i) (by rw [hn]; simp) with h2 | ⟨j, h2, h3⟩
          · omega
          · have : j = t.i := by omega
            subst this
            simp [Array.getD, hti] at h1 h2
            rw [h1] at h2; cases h2
      · exact ih _ _ _ _ ok' R' (by simpa using hsz) (by rw [hnew]; exact hlen') hcl' (by rw [hnew]; exact hrest) (hlim _ _ _ _ _ h')
end Go.Proofs.YtkeelkeoijemiaaGreat.Ev

namespace Go.Proofs.YtkeelkeoijemiaaGreat.Ev
open Go Go.RowKit

variable {P : Program} {T : Tab} {G : Gh}

/-- Between regions. -/
def SRx (G : Gh) (st : St) (a : Act) (w : World) : Prop := st.ck ≠ 0 ∧ ∃ ok R, SR G st a w ok R (fun g => g < st.ck)

theorem SR.ck {st : St} {a : Act} {w : World} {ok : Nat → Prop} {R : Nat → Nat → Option (Nat × Nat)} {lim : Nat → Prop} (h : SR G st a w ok R lim) (c : Nat) : SR G { st with ck := c } a w ok R lim := { h with slots := h.slots, ents := h.ents, apart := h.apart }

theorem region_sound (hm : P.follows .mixedOrders = true) (hT : TabOK P T) (hG : G.ok) {Q : Exit → Act → World → Prop} {id : Nat} {ops : Array Oper} {draw : Bool} {st st' : St} {a : Act} {w : World} (e : evalRegion P T ops draw st = some st') (h : SRx G st a w)
    (hQ : ∀ a' w', SRx G st' a' w' → Q .normal a' w') : (Code.region id ops draw).wp P Q a w := by
  obtain ⟨hck, ok, R, h⟩ := h
  have fin : ∀ s, st' = { s with ck := st.ck + ops.size } → ∀ a' w' ok' R', SR G s a' w' ok' R' (limAt st.ck ops.toList.length) → Q .normal a' w' := by
    intro s hs a' w' ok' R' h'
    subst hs
    refine hQ a' w' ⟨by simp; omega, ok', R', (h'.ck _).weaken fun x hx => ?_⟩
    rcases hx with hx | ⟨j, h1, h2⟩
    · simp; omega
    · simp at h1 ⊢; omega
  unfold evalRegion at e
  split at e
  · rename_i s hs
    cases e
    cases draw with
    | false =>
      simp only [Bool.false_eq_true, if_false] at hs
      refine wp_region ?_
      have := evalOps_sound (ops := ops.toList) hck hT hG (Q := Q) ops.toList 0 st s a w ok R (fun k => by simp) (by simp) hs (h.weaken fun x hx => .inl hx) (fin s rfl)
      simpa [List.range_eq_range'] using this
    | true =>
      simp only [if_true] at hs
      split at hs
      · rename_i s2 log hlog
        split at hs
        · rename_i hd
          cases hs
          simp only [drawOk, Bool.and_eq_true, List.all_eq_true] at hd
          obtain ⟨hed, hpr⟩ := hd
          obtain ⟨hb1, _, hb3⟩ := befs_spec ops.toList []
          simp only [List.length_nil, Nat.zero_add] at hb1 hb3
          obtain ⟨hl, hruns⟩ := evalLog_runs (P := P) (T := T) (ops := ops.toList) (ck := st.ck) ops.toList 0 (befs [] ops.toList) st s log hb1 hlog
          have hil := items_len ops.toList log (befs [] ops.toList) 0 hl hb1
          obtain ⟨hso, _⟩ := items_sorted ops.toList log (befs [] ops.toList) 0
          have hget : ∀ t ∈ items 0 ops.toList log (befs [] ops.toList), ops.toList[t.i]? = some t.o ∧ (befs [] ops.toList)[t.i]? = some t.b := by
            intro t ht
            obtain ⟨k, hk⟩ := List.mem_iff_getElem?.1 ht
            have hkl : k < ops.toList.length := by
              rw [← hil]; exact (List.getElem?_eq_some_iff.1 hk).1
            obtain ⟨o, l, b, e1, e2, e3⟩ := items_get ops.toList log (befs [] ops.toList) 0 k hl hb1 hkl
            rw [hk] at e3; cases e3
            simp only [Nat.zero_add]
            exact ⟨e1, e2⟩
          refine wp_region_any hm ?_
          have hd1 := h.drew
          have hdr : ({ w with drawn := w.drawn + 1 } : World) = w.drew := rfl
          rw [hdr]
          have hidx : ∀ i o, ops.toList[i]? = some o → ∃ t ∈ items 0 ops.toList log (befs [] ops.toList), t.i = i := by
            intro i o hi
            obtain ⟨o', l, b, _, _, e3⟩ := items_get ops.toList log (befs [] ops.toList) 0 i hl hb1 (List.getElem?_eq_some_iff.1 hi).1
            exact ⟨_, List.mem_of_getElem? e3, by simp⟩
          have hf0 : (items 0 ops.toList log (befs [] ops.toList)).filter (fun t => !(Array.replicate ops.size false).getD t.i true) = items 0 ops.toList log (befs [] ops.toList) := by
            apply List.filter_eq_self.2
            intro t ht
            have := (List.getElem?_eq_some_iff.1 (hget t ht).1).1
            simp at this
            simp [Array.getD, this]
          have := draws_any (P := P) (T := T) (G := G) (ops := ops.toList) (ck := st.ck) (Q := Q) hck hT hG (sF := s) hso (fun t ht => (hget t ht).1) hidx (fun x hx y hy => hpr y hy x hx)
            (fun t ht e he hb => by have := edgesOk_spec ops.toList 0 t.i t.o hed (hget t ht).1 e he hb; omega)
            (fun t ht j hj => by
              obtain ⟨acc', e1, e2⟩ := hb3 t.i t.o (hget t ht).1
              rw [(hget t ht).2] at e1
              simp only [Option.some.injEq] at e1
              rw [e1] at hj
              obtain ⟨e, he, hb, hor⟩ := befEdges_bit _ hj
              refine ⟨e, he, hb, hor.imp (fun h => h) fun hbit => ?_⟩
              have hlt := edgesOk_spec ops.toList 0 t.i t.o hed (hget t ht).1 e he hb
              have hti := (List.getElem?_eq_some_iff.1 (hget t ht).1).1
              have heq := e2 e.on (by omega)
              obtain ⟨u, hu, hui⟩ := hidx e.on _ (List.getElem?_eq_getElem (by omega))
              refine ⟨u, hu, hui, ?_⟩
              have hub := (hget u hu).2
              rw [hui, ← heq] at hub
              rw [List.getD_eq_getElem?_getD, hub] at hbit
              simpa using hbit)
            (fin s rfl) ops.size (Array.replicate ops.size false) st a w.drew ok R (by simp) (by rw [hf0, hil]; simp) (fun t _ ht => by
              exfalso
              simp only [Array.getD_eq_getD_getElem?, Array.getElem?_replicate] at ht
              split at ht <;> simp at ht) (by rw [hf0]; exact hruns) (hd1.weaken fun x hx => .inl hx)
          simpa using this
        · cases hs
      · cases hs
  · cases e

theorem dropEn_some (w used : List Nat) : ∀ (en : List (Option Ent)) (i n : Nat) (e : Ent), (dropEn w used i en).getD n none = some e → en.getD n none = some e
  | [], _, _, _, h => by simp [dropEn] at h
  | x :: es, i, 0, e, h => by
    simp only [dropEn, List.getD_cons_zero] at h ⊢
    split at h
    · cases h
    · exact h
  | x :: es, i, n + 1, e, h => by
    simp only [dropEn, List.getD_cons_succ] at h ⊢
    exact dropEn_some w used es (i + 1) n e h

def gen1 (g : Nat) : Nat := if g = 0 then 0 else 1
/-- Where names lie behind a normalisation. -/
def normR (en : Nat → Option Ent) (R : Nat → Nat → Option (Nat × Nat)) : Nat → Nat → Option (Nat × Nat) := fun n g => match en n with
  | some e => if g = gen1 e.gen then R n e.gen else none
  | none => none

mutual
theorem norm1_sound {w : World} {ok : Nat → Prop} {R : Nat → Nat → Option (Nat × Nat)} {en : Nat → Option Ent} : ∀ (m : MV) (x : Value), VR w ok R m x → VR w ok (normR en R) (norm1 en m) x
  | .sc _, _, h => h
  | .agg cs, _, ⟨vs, e, h⟩ => ⟨vs, e, norms_sound cs vs h⟩
  | .tup cs, _, ⟨vs, e, h⟩ => ⟨vs, e, norms_sound cs vs h⟩
  | .fn _ cs, _, ⟨vs, e, h⟩ => ⟨vs, e, norms_sound cs vs h⟩
  | .fs _ _ _, _, h => h
  | .cp _, _, h => h
  | .any, _, _ => trivial
  | .ptr nm g off, x, ⟨B, d, h1, h2⟩ => by
    simp only [norm1]
    split
    · rename_i e he
      split
      · rename_i hg
        refine ⟨B, d, ?_, h2⟩
        simp only [normR, he]
        rw [hg]; show (if gen1 g = gen1 g then R nm g else none) = _; rw [if_pos rfl]; exact h1
      · trivial
    · trivial
  | .row nm g off len cap sz, x, ⟨B, d, c, h1, h2, h3, h4, h5⟩ => by
    simp only [norm1]
    split
    · rename_i e he
      split
      · rename_i hg
        refine ⟨B, d, c, ?_, h2, h3, h4, fun h => h5 fun h0 => ?_⟩
        · simp only [normR, he]
          rw [hg]; show (if gen1 g = gen1 g then R nm g else none) = _; rw [if_pos rfl]; exact h1
        · rw [h0] at h; simp at h
      · trivial
    · trivial
theorem norms_sound {w : World} {ok : Nat → Prop} {R : Nat → Nat → Option (Nat × Nat)} {en : Nat → Option Ent} : ∀ (ms : List MV) (vs : List Value), VRs w ok R ms vs → VRs w ok (normR en R) (norms en ms) vs
  | [], _, h => h
  | m :: ms, _, ⟨v, vt, e, h, hs⟩ => ⟨v, vt, e, norm1_sound m v h, norms_sound ms vt hs⟩
end
theorem norms_len (en : Nat → Option Ent) : ∀ ms : List MV, (norms en ms).length = ms.length
  | [] => rfl
  | m :: ms => by simp [norms, norms_len en ms]
theorem wipe_sound {w : World} {ok : Nat → Prop} {R : Nat → Nat → Option (Nat × Nat)} (l : List Nat) : ∀ (ms : List MV) (i : Nat) (vs : List Value), VRs w ok R ms vs → VRs w ok R (wipe l i ms) vs
  | [], _, _, h => h
  | m :: ms, i, _, ⟨v, vt, e, h, hs⟩ => by
    refine ⟨v, vt, e, ?_, wipe_sound l ms (i + 1) vt hs⟩
    split
    · trivial
    · exact h

theorem norm_sound {st : St} {a : Act} {w : World} (l : List Nat) (h : SRx G st a w) : SRx G (normSt l st) a w := by
  obtain ⟨_, ok, R, h⟩ := h
  refine ⟨by simp [normSt], ok, normR (fun n => (dropEn l (namesInL (wipe l 0 st.sl) ++ namesInL ((dropEn l [] 0 st.en).flatMap fun | some e => e.cells | none => []) ++ (namesInL (wipe l 0 st.sl) ++ namesInL ((dropEn l [] 0 st.en).flatMap fun | some e => e.cells | none => [])).flatMap (entNames st.en)) 0 st.en).getD n none) R, ?_⟩
  have hen : (normSt l st).en = (dropEn l (namesInL (wipe l 0 st.sl) ++ namesInL ((dropEn l [] 0 st.en).flatMap fun | some e => e.cells | none => []) ++ (namesInL (wipe l 0 st.sl) ++ namesInL ((dropEn l [] 0 st.en).flatMap fun | some e => e.cells | none => [])).flatMap (entNames st.en)) 0 st.en).map
      (fun | some e => some { gen := if e.gen = 0 then 0 else 1, cells := norms (fun n => (dropEn l (namesInL (wipe l 0 st.sl) ++ namesInL ((dropEn l [] 0 st.en).flatMap fun | some e => e.cells | none => []) ++ (namesInL (wipe l 0 st.sl) ++ namesInL ((dropEn l [] 0 st.en).flatMap fun | some e => e.cells | none => [])).flatMap (entNames st.en)) 0 st.en).getD n none) e.cells, frozen := e.frozen } | none => none) := rfl
  have hsl : (normSt l st).sl = norms (fun n => (dropEn l (namesInL (wipe l 0 st.sl) ++ namesInL ((dropEn l [] 0 st.en).flatMap fun | some e => e.cells | none => []) ++ (namesInL (wipe l 0 st.sl) ++ namesInL ((dropEn l [] 0 st.en).flatMap fun | some e => e.cells | none => [])).flatMap (entNames st.en)) 0 st.en).getD n none) (wipe l 0 st.sl) := rfl
  have hck : (normSt l st).ck = 2 := rfl
  have hdrop : ∀ n e, (dropEn l (namesInL (wipe l 0 st.sl) ++ namesInL ((dropEn l [] 0 st.en).flatMap fun | some e => e.cells | none => []) ++ (namesInL (wipe l 0 st.sl) ++ namesInL ((dropEn l [] 0 st.en).flatMap fun | some e => e.cells | none => [])).flatMap (entNames st.en)) 0 st.en).getD n none = some e → st.ent n = some e :=
    fun n e he => dropEn_some l _ st.en 0 n e he
  generalize hD : dropEn l (namesInL (wipe l 0 st.sl) ++ namesInL ((dropEn l [] 0 st.en).flatMap fun | some e => e.cells | none => []) ++ (namesInL (wipe l 0 st.sl) ++ namesInL ((dropEn l [] 0 st.en).flatMap fun | some e => e.cells | none => [])).flatMap (entNames st.en)) 0 st.en = D at hen hsl hdrop ⊢
  have ent : ∀ n x, (normSt l st).ent n = some x → ∃ e, D.getD n none = some e ∧ x.gen = gen1 e.gen ∧ x.cells = norms (fun n => D.getD n none) e.cells ∧ x.frozen = e.frozen := by
    intro n x hx
    unfold St.ent at hx
    rw [hen] at hx
    simp only [List.getD_eq_getElem?_getD, List.getElem?_map] at hx
    cases hd : D[n]? with
    | none => rw [hd] at hx; simp at hx
    | some q =>
      rw [hd] at hx
      cases q with
      | none => simp at hx
      | some e =>
        simp only [Option.map_some, Option.getD_some, Option.some.injEq] at hx
        subst hx
        exact ⟨e, by simp [List.getD_eq_getElem?_getD, hd], rfl, rfl, rfl⟩
  have atN : ∀ n e, D.getD n none = some e → normR (fun n => D.getD n none) R n (gen1 e.gen) = R n e.gen := by
    intro n e he
    simp only [normR, he, if_true]
  refine { h with ents := ?_, apart := ?_, slots := ?_, fresh := ?_ }
  · intro n x hx
    obtain ⟨e, he, hg, hc, hf⟩ := ent n x hx
    obtain ⟨B, d, hE⟩ := h.ents n e (hdrop n e he)
    obtain ⟨c, el, vs, h1, h2, h3, h4⟩ := hE.body
    refine ⟨B, d, by rw [hg, atN n e he]; exact hE.at_, ⟨c, el, vs, h1, by rw [hc]; exact norms_sound _ _ h2, h3, h4⟩, by rw [hf]; exact hE.fro, by rw [hf]; exact hE.own, ?_, ?_⟩
    · rw [hg]
      refine hE.base.imp (fun h => h) fun h0 => ?_
      simp [gen1, h0]
    · intro h0
      rw [hg] at h0
      have h1 : e.gen = 0 := by
        unfold gen1 at h0
        split at h0
        · assumption
        · cases h0
      obtain ⟨k1, k2⟩ := hE.io h1
      rw [hf, hc, norms_len]
      exact ⟨k1, k2⟩
  · intro n n' x x' p p' hne hx hx' hp hp' hfx
    obtain ⟨e, he, hg, _, hf⟩ := ent n x hx
    obtain ⟨e', he', hg', _, _⟩ := ent n' x' hx'
    rw [hg, atN n e he] at hp
    rw [hg', atN n' e' he'] at hp'
    exact h.apart n n' e e' p p' hne (hdrop n e he) (hdrop n' e' he') hp hp' (by rw [← hf]; exact hfx)
  · rw [hsl]
    exact norms_sound _ _ (wipe_sound l _ 0 _ h.slots)
  · intro n g hg
    rw [hck]
    unfold normR at hg
    split at hg
    · split at hg
      · rename_i e _ hgg
        subst hgg
        unfold gen1
        split <;> omega
      · exact absurd rfl hg
    · exact absurd rfl hg

def exitOf : Out → Exit
  | .normal => .normal
  | .exit id => .exit id
  | .ret => .ret

/-- What a piece of code does, by its evaluation. -/
def CodeOK (P : Program) (G : Gh) (c : Code) (f : St → Option (Out × St)) : Prop :=
  ∀ st out st' a w (Q : Exit → Act → World → Prop), f st = some (out, st') → SRx G st a w → (∀ a' w', SRx G st' a' w' → Q (exitOf out) a' w') → c.wp P Q a w

theorem loop_sound {c : Code} {f : St → Option (Out × St)} (hc : CodeOK P G c f) (n : Nat) : CodeOK P G (.loop c) (evalLoop f n) := by
  intro st out st' a w Q e h hQ
  refine wp_loop_ghost (fun m a w => ∃ s, evalLoop f m s = some (out, st') ∧ SRx G s a w) n ⟨st, e, h⟩ ?_
  rintro m a w ⟨s, hs, h⟩
  cases m with
  | zero => simp [evalLoop] at hs
  | succ m =>
    simp only [evalLoop] at hs
    split at hs
    · rename_i s1 h1
      exact hc s .normal s1 a w _ h1 h fun a' w' h' => ⟨m, Nat.lt_succ_self m, s1, hs, h'⟩
    · rename_i hne
      refine hc s out st' a w _ hs h fun a' w' h' => ?_
      cases out with
      | normal => exact absurd hs (hne st')
      | exit id => exact hQ a' w' h'
      | ret => exact hQ a' w' h'

theorem code_sound {W : Code → List Nat} (hm : P.follows .mixedOrders = true) (hT : TabOK P T) (hG : G.ok) (k : Nat) : ∀ (c : Code), CodeOK P G c (evalCode P T W k c)
  | .skip => by
    intro st out st' a w Q e h hQ
    simp only [evalCode, Option.some.injEq, Prod.mk.injEq] at e
    obtain ⟨rfl, rfl⟩ := e
    exact wp_skip (hQ a w h)
  | .region id ops draw => by
    intro st out st' a w Q e h hQ
    simp only [evalCode, Option.map_eq_some_iff] at e
    obtain ⟨s, hs, e⟩ := e
    cases e
    exact region_sound hm hT hG hs h hQ
  | .seq x y => by
    intro st out st' a w Q e h hQ
    simp only [evalCode] at e
    refine wp_seq ?_
    split at e
    · rename_i s hs
      exact code_sound hm hT hG k x st .normal s a w _ hs h fun a' w' h' => code_sound hm hT hG k y s out st' a' w' Q e h' hQ
    · rename_i hne
      refine code_sound hm hT hG k x st out st' a w _ e h fun a' w' h' => ?_
      cases out with
      | normal => exact absurd e (hne st')
      | exit id => exact hQ a' w' h'
      | ret => exact hQ a' w' h'
  | .cond c x y => by
    intro st out st' a w Q e h hQ
    obtain ⟨hck, ok, R, hs⟩ := h
    have hc := hs.ev c
    simp only [evalCode] at e
    split at e
    · rename_i t ht
      rw [ht] at hc
      refine wp_cond (t := t) hc ?_
      cases t with
      | true => exact code_sound hm hT hG k x st out st' a w Q e ⟨hck, ok, R, hs⟩ hQ
      | false => exact code_sound hm hT hG k y st out st' a w Q e ⟨hck, ok, R, hs⟩ hQ
    · cases e
  | .block id c => by
    intro st out st' a w Q e h hQ
    simp only [evalCode] at e
    refine wp_block ?_
    split at e
    · rename_i i s hs
      refine code_sound hm hT hG k c st (.exit i) s a w _ hs h fun a' w' h' => ?_
      show if i = id then Q .normal a' w' else Q (.exit i) a' w'
      split at e
      · rename_i hi
        cases e
        rw [if_pos hi]; exact hQ a' w' h'
      · rename_i hi
        cases e
        rw [if_neg hi]; exact hQ a' w' h'
    · rename_i hne
      refine code_sound hm hT hG k c st out st' a w _ e h fun a' w' h' => ?_
      cases out with
      | normal => exact hQ a' w' h'
      | exit i => exact absurd e (hne i st')
      | ret => exact hQ a' w' h'
  | .loop c => by
    have h1 : CodeOK P G c (fun s => evalCode P T W k c (normSt (W c) s)) := fun st out st' a w Q e h hQ => code_sound hm hT hG k c _ out st' a w Q e (norm_sound _ h) hQ
    simpa only [evalCode] using loop_sound h1 k
  | .exit id => by
    intro st out st' a w Q e h hQ
    simp only [evalCode, Option.some.injEq, Prod.mk.injEq] at e
    obtain ⟨rfl, rfl⟩ := e
    exact wp_exit (hQ a w h)
  | .ret => by
    intro st out st' a w Q e h hQ
    simp only [evalCode, Option.some.injEq, Prod.mk.injEq] at e
    obtain ⟨rfl, rfl⟩ := e
    exact wp_ret (hQ a w h)
  | .rangeFunc .. => by intro st out st' a w Q e; simp [evalCode] at e
  | .scope _ => by intro st out st' a w Q e; simp [evalCode] at e
  | .label _ => by intro st out st' a w Q e; simp [evalCode] at e
  | .goto _ => by intro st out st' a w Q e; simp [evalCode] at e
  | .refuse _ => by intro st out st' a w Q e; simp [evalCode] at e
end Go.Proofs.YtkeelkeoijemiaaGreat.Ev

